/- Walks over the methods of a shelf: set. -/
import Derived.Test.YtpmbeeddciepjaaD
namespace Go.Proofs.Ytpmbeeddciepjaa
open Go.RowKit Go.Maps
set_option linter.unusedSimpArgs false
set_option linter.unusedVariables false

theorem strV_mk (s : ByteArray) : strV s.data.toList = .string s := by cases s; simp [strV]
theorem keyT : Keyed Try.prog 9 := string_keyed Try.underlying9
theorem keyOfS {s : ByteArray} (h : s.size ≤ Big) : keyOf Try.prog 9 (.string s) = some (.string s.data.toList) := Go.WideMaps.keyOf_string_mk Try.underlying9 (by unfold maxLen; unfold Big at h; omega)
theorem zeroBook (w : World) : (zeroValue 54).run Try.prog w = .ok (.pointer none) w := by kernel_rfl
theorem infoMove : (Try.prog.info? 71).map (fun i => (i.zero, i.size, i.bytes)) = some (some (.agg #[.string ⟨#[]⟩, .pointer none, .string ⟨#[]⟩]), 3, 40) := by kernel_rfl
theorem infoByte : (Try.prog.info? 5).map (fun i => (i.zero, i.size, i.bytes)) = some (some (.int .u8 0), 1, 1) := by kernel_rfl

theorem ones3 (a b c : Value) (ha : a.oneCell' = true) (hb : b.oneCell' = true) (hc : c.oneCell' = true) : ∀ u ∈ [a, b, c], u.oneCell' = true := by
  intro u hu
  simp at hu
  rcases hu with rfl | rfl | rfl <;> assumption

theorem flat_one (bl : List Nat) (l : List Mv) (m : Mv) : (l ++ [m]).flatMap (encMv bl) = l.flatMap (encMv bl) ++ encMv bl m := by simp
theorem fresh_or {w w1 : World} {a' : Option Addr} {G : Gh} {m : Nat} {s : Nat} (hs : w.heap.size ≤ s) (h : (a' = G.mva ∧ (G.mva = none → m = 0)) ∨ (a' = some ⟨s, 0, none⟩ ∧ w1.heap.size = s + 1)) :
    blockOf a' = blockOf G.mva ∨ ∃ f, blockOf a' = some f ∧ w.heap.size ≤ f ∨ blockOf a' = none := by
  rcases h with ⟨rfl, _⟩ | ⟨rfl, _⟩
  · exact .inl rfl
  · exact .inr ⟨s, .inl ⟨rfl, hs⟩⟩

/-- Behind an append to what was done to names, its store, and a store into the map of names. -/
theorem IsShelf.moved {G : Gh} {S : Sh} {w w1 w3 : World} (h : IsShelf w G S) (x : Mv) (hx : ∀ i, x.b = some i → i < G.bl.length) (hxs : x.name.length ≤ Big ∧ x.frm.length ≤ Big) {a' : Option Addr} {cap' s : Nat} {m : List (Nm × Nat)}
    (U1 : Upd w w1 (fun k => blockOf G.mva = some k)) (hrow : Row w1 71 3 a' (S.moves.length + 1) cap' (S.moves.flatMap (encMv G.bl) ++ encMv G.bl x))
    (hs : w.heap.size ≤ s) (hor : (a' = G.mva ∧ (G.mva = none → 1 = 0)) ∨ (a' = some ⟨s, 0, none⟩ ∧ w1.heap.size = s + 1))
    (hu3 : Upd (w1.setCell ⟨G.sb, 2, none⟩ (.slice a' (S.moves.length + 1) cap')) w3 (fun k => k = G.nb)) (hmap : MapIs Try.prog 9 w3 G.nb G.bl m) :
    After w w3 G { S with now := m, moves := S.moves ++ [x] } := by
  have hne1 : G.sb ≠ G.nb := h.ne (r := .sh) (r' := .now) rfl rfl (by simp)
  have C1 := U1.heap h.cells (fun e => h.ne (r := .mv) (r' := .sh) e rfl (by simp) rfl)
  have hrow3 : Row w3 71 3 a' (S.moves ++ [x]).length cap' ((S.moves ++ [x]).flatMap (encMv G.bl)) := by
    rw [flat_one, List.length_append]
    have hg : ∀ g, blockOf a' = some g → g ≠ G.sb ∧ g ≠ G.nb := by
      intro g hg
      rcases hor with ⟨rfl, _⟩ | ⟨rfl, _⟩
      · exact ⟨h.ne (r := .mv) (r' := .sh) hg rfl (by simp), h.ne (r := .mv) (r' := .now) hg rfl (by simp)⟩
      · simp [blockOf] at hg
        have h1 := h.lt (r := .sh) rfl
        have h2 := h.lt (r := .now) rfl
        exact ⟨by omega, by omega⟩
    exact (hrow.upd ((Upd.refl w1 (fun k => k = G.sb)).put (.inl rfl)) (fun g h => (hg g h).1)).upd hu3 (fun g h => (hg g h).2)
  refine h.turned (c := cap') (a := a') ?_ ?_ hmap hrow3 ?_ ?_ (fresh_or hs hor)
  · refine ((U1.mono (F' := fun k => k = G.sb ∨ k = G.nb ∨ blockOf G.mva = some k) (fun k _ h => .inr (.inr h))).put (.inl (.inl rfl))).trans hu3 (fun k _ h => .inr (.inl h))
  · have := heap_setCell_same (i := 2) C1 (.slice a' (S.moves.length + 1) cap')
    rw [List.length_append]
    exact hu3.heap this hne1
  · intro y hy k hk
    rcases List.mem_append.1 hy with hy | hy
    · exact h.mvlt y hy k hk
    · simp at hy
      subst hy
      exact hx k hk
  · intro y hy
    rcases List.mem_append.1 hy with hy | hy
    · exact h.small y hy
    · simp at hy
      subst hy
      exact hxs

set_option maxHeartbeats 400000 in
theorem set_some {G : Gh} {S : Sh} {w : World} (h : IsShelf w G S) (s : ByteArray) (hs : s.size ≤ Big) (i b : Nat) (hb : G.bl[i]? = some b) (hm : S.moves.length < Big) (hn : S.now.length < Big) :
    Calls Try.prog 21 #[.pointer (some ⟨G.sb, 0, none⟩), .string s, .pointer (some ⟨b, 0, none⟩)] w fun e w' => e = .returned (.tuple #[]) ∧ After w w' G (S.setTo s.data.toList (some i)) := by
  obtain ⟨i0, hi0, hz0, hz1, hz2⟩ := info_parts infoMove
  have c0 : w.cell? ⟨G.sb, 0, none⟩ = some (.map (some G.nb)) := by rw [cell_of_heap h.cells]; rfl
  have c2 : w.cell? ⟨G.sb, 2, none⟩ = some (.slice G.mva S.moves.length G.mvc) := by rw [cell_of_heap h.cells]; rfl
  have H := Lib.hid h
  have HI := Lib.hid hi0
  have Z0 := Lib.hid hz0
  have Z1 := Lib.hid hz1
  have Z2 := Lib.hid hz2
  have HB := Lib.hid hb
  clear hi0 hz0 hz1 hz2 h hb
  go_enter Try.func21, Try.ntmps21
  go_wp2_with (first
    | (at_builtin; (refine wpList_append_row rfl _ _ 50 rfl 71 i0 _ 3 40 Try.underlying50 HI.out Z0.out Z1.out Z2.out rfl (by decide) _ _ _ _ rfl (H.out.mv.upd ((Upd.refl w (fun _ => False)).alloc _) (fun _ _ h => h)) _ 1 1 _ rfl (Rd.new _ 3 1 _ _ rfl) (by exact ones3 _ _ _ rfl rfl rfl) hm (by decide) ?_; intro a' cap' w1 hrow hupd hor; have U1 : Upd w w1 (fun k => blockOf G.mva = some k) := ((Upd.refl w _).alloc _).trans hupd (fun _ _ h => h); have C1 := Lib.hid (U1.heap H.out.cells (fun e => H.out.ne (r := .mv) (r' := .sh) e rfl (by simp) rfl)); have c0' : w1.cell? ⟨G.sb, 0, none⟩ = some (.map (some G.nb)) := (cell_of_heap C1.out 0).trans rfl; have c2' : w1.cell? ⟨G.sb, 2, none⟩ = some (.slice G.mva S.moves.length G.mvc) := (cell_of_heap C1.out 2).trans rfl; have f2' : w1.frozen? ⟨G.sb, 2, none⟩ = false := free_of_heap C1.out 2; clear c0 c2))
    | (at_mapUpdate; (refine wpList_put rfl _ _ _ 49 rfl 9 54 keyT Try.underlying49 G.nb G.bl S.now rfl ((H.out.now.upd U1 (fun e => H.out.ne (r := .mv) (r' := .now) e rfl (by simp) rfl)).upd ((Upd.refl w1 (fun k => k = G.sb)).put (.inl rfl)) (H.out.ne (r := .now) (r' := .sh) rfl rfl (by simp))) (by unfold maxLen; unfold Big at hn; omega) s rfl (keyOfS hs) i b HB.out rfl ?_; intro w3 hmap hu3 hs3))
    | go_in)
  go_end0
  refine ⟨rfl, ?_⟩
  have hb : G.bl.getD i 0 = b := by simp [HB.out]
  refine H.out.moved ⟨s.data.toList, some i, []⟩ (fun k hk => by cases hk; exact (List.getElem?_eq_some_iff.1 HB.out).1) ⟨by simpa using hs, Nat.zero_le _⟩ U1 ?_ (Nat.le_of_lt (by simp)) hor hu3 hmap
  have e : encMv G.bl ⟨s.data.toList, some i, []⟩ = [.string s, .pointer (some ⟨b, 0, none⟩), .string ⟨#[]⟩] := by
    simp only [encMv, strV_mk, ptrV, hb]
    rfl
  rw [e]
  exact hrow

set_option maxHeartbeats 400000 in
theorem set_none {G : Gh} {S : Sh} {w : World} (h : IsShelf w G S) (s : ByteArray) (hs : s.size ≤ Big) (hm : S.moves.length < Big) :
    Calls Try.prog 21 #[.pointer (some ⟨G.sb, 0, none⟩), .string s, .pointer none] w fun e w' => e = .returned (.tuple #[]) ∧ After w w' G (S.setTo s.data.toList none) := by
  obtain ⟨i0, hi0, hz0, hz1, hz2⟩ := info_parts infoMove
  have c0 : w.cell? ⟨G.sb, 0, none⟩ = some (.map (some G.nb)) := (cell_of_heap h.cells 0).trans rfl
  have c2 : w.cell? ⟨G.sb, 2, none⟩ = some (.slice G.mva S.moves.length G.mvc) := (cell_of_heap h.cells 2).trans rfl
  have H := Lib.hid h
  have HI := Lib.hid hi0
  have Z0 := Lib.hid hz0
  have Z1 := Lib.hid hz1
  have Z2 := Lib.hid hz2
  clear hi0 hz0 hz1 hz2 h
  go_enter Try.func21, Try.ntmps21
  go_wp2_with (first
    | (at_delete; refine wpList_strike rfl _ _ 49 9 rfl 54 keyT Try.underlying49 G.nb G.bl S.now rfl ((H.out.now.upd U1 (fun e => H.out.ne (r := .mv) (r' := .now) e rfl (by simp) rfl)).upd ((Upd.refl w1 (fun k => k = G.sb)).put (.inl rfl)) (H.out.ne (r := .now) (r' := .sh) rfl rfl (by simp))) s rfl (keyOfS hs) ?_; intro w3 hmap hu3 hs3)
    | (at_builtin; refine wpList_append_row rfl _ _ 50 rfl 71 i0 _ 3 40 Try.underlying50 HI.out Z0.out Z1.out Z2.out rfl (by decide) _ _ _ _ rfl (H.out.mv.upd ((Upd.refl w (fun _ => False)).alloc _) (fun _ _ h => h)) _ 1 1 _ rfl (Rd.new _ 3 1 _ _ rfl) (by exact ones3 _ _ _ rfl rfl rfl) hm (by decide) ?_; intro a' cap' w1 hrow hupd hor; have U1 : Upd w w1 (fun k => blockOf G.mva = some k) := ((Upd.refl w _).alloc _).trans hupd (fun _ _ h => h); have C1 := Lib.hid (U1.heap H.out.cells (fun e => H.out.ne (r := .mv) (r' := .sh) e rfl (by simp) rfl)); have c0' : w1.cell? ⟨G.sb, 0, none⟩ = some (.map (some G.nb)) := (cell_of_heap C1.out 0).trans rfl; have c2' : w1.cell? ⟨G.sb, 2, none⟩ = some (.slice G.mva S.moves.length G.mvc) := (cell_of_heap C1.out 2).trans rfl; have f2' : w1.frozen? ⟨G.sb, 2, none⟩ = false := free_of_heap C1.out 2; clear c0 c2)
    | go_in)
  go_end0
  refine ⟨rfl, ?_⟩
  refine H.out.moved ⟨s.data.toList, none, []⟩ (fun k hk => by cases hk) ⟨by simpa using hs, Nat.zero_le _⟩ U1 ?_ (Nat.le_of_lt (by simp)) hor hu3 hmap
  have e : encMv G.bl ⟨s.data.toList, none, []⟩ = [.string s, .pointer none, .string ⟨#[]⟩] := by
    simp only [encMv, strV_mk, ptrV]
    rfl
  rw [e]
  exact hrow
end Go.Proofs.Ytpmbeeddciepjaa
