/- The law's acts: each of them. -/
import Derived.Test.YtpmbeeddciepjaaRi
import Derived.Test.YtpmbeeddciepjaaRj
import Derived.Test.YtpmbeeddciepjaaRk
namespace Go.Proofs.Ytpmbeeddciepjaa
open Go.RowKit Go.Maps Go.Sort
theorem do_calls {w : World} {G : Gh} {S : Sh} {N : Nat} {E : Nat → Prop} {X : RSh} {x : LAct} (h : IsShelf w G S) (hs : SmallS S N) (hE : ∀ k, E k → k < w.heap.size) (hr : RefOk w (fun k => G.own k ∨ E k) N X) (hx : ActOk w x) (hpo : x.p = [] ∨ ∀ g, blockOf x.pa = some g → ¬ G.own g) (hN : N < 100) (hk : x.k % 12 ≠ 10) :
    Calls Try.prog 12 #[.pointer (some ⟨G.sb, 0, none⟩), X.v, x.v] w (DoP w G S N E x) := by
  have h12 : x.k % 12 < 12 := Nat.mod_lt _ (by decide)
  by_cases h0 : x.k % 12 = 0 ∨ x.k % 12 = 1
  · exact do_01 h hs hE hr hx hpo hN h0
  by_cases h2 : x.k % 12 = 2 ∨ x.k % 12 = 3
  · exact do_23 h hs hE hr hx hpo hN h2
  by_cases h4 : x.k % 12 = 4
  · exact do_4 h hs hE hr hx hpo hN h4
  by_cases h5 : x.k % 12 = 5
  · exact do_5 h hs hE hr hx hpo hN h5
  by_cases h6 : x.k % 12 = 6
  · exact do_6 h hs hE hr hx hpo hN h6
  by_cases h7 : x.k % 12 = 7
  · exact do_7 h hs hE hr hx hpo hN h7
  by_cases h8 : x.k % 12 = 8
  · exact do_8 h hs hE hr hx hpo hN h8
  by_cases h9 : x.k % 12 = 9
  · exact do_9 h hs hE hr hx hpo hN h9
  exact do_11 h hs hE hr hx hpo hN (by omega)
end Go.Proofs.Ytpmbeeddciepjaa
