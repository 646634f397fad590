/- The law's acts: what one act does to a shelf, and to the reference. -/
import Derived.Test.YtpmbeeddciepjaaRg
import Derived.Deep.CutBlock
namespace Go.Proofs.Ytpmbeeddciepjaa
open Go.RowKit Go.Maps Go.Sort
set_option linter.unusedSimpArgs false
set_option linter.unusedVariables false
structure LAct where
  k : Nat
  a : Nat
  b : Nat
  n : Int
  pa : Option Addr
  pc : Nat
  p : List UInt8
def LAct.v (x : LAct) : Value := .agg #[.int .u8 x.k, .int .u8 x.a, .int .u8 x.b, .int .i64 x.n, .slice x.pa x.p.length x.pc]
/-- An act, as the laws have it, that isn't about room. -/
def doS (S : Sh) (x : LAct) : Sh :=
  if x.k % 12 = 0 ∨ x.k % 12 = 1 then (S.create (nmOf x.a)).1 else
  if x.k % 12 = 2 ∨ x.k % 12 = 3 then (S.append (nmOf x.a) x.p).1 else
  if x.k % 12 = 4 then (S.sync (nmOf x.a)).1 else
  if x.k % 12 = 5 then S.names.1 else
  if x.k % 12 = 6 then (S.rename (nmOf x.a) (nmOf x.b)).1 else
  if x.k % 12 = 7 then (S.delete (nmOf x.a)).1 else
  if x.k % 12 = 8 then (S.cut (nmOf x.a) x.n).1 else
  if x.k % 12 = 9 then { S with left := max (x.n.tmod 12) (-1) } else
  S.fall x.n x.b
section
variable {S : Sh} {x : LAct}
theorem doS_create (h : x.k % 12 = 0 ∨ x.k % 12 = 1) : doS S x = (S.create (nmOf x.a)).1 := by
  unfold doS
  rw [if_pos h]
theorem doS_append (h : x.k % 12 = 2 ∨ x.k % 12 = 3) : doS S x = (S.append (nmOf x.a) x.p).1 := by
  unfold doS
  rw [if_neg (by omega), if_pos h]
theorem doS_sync (h : x.k % 12 = 4) : doS S x = (S.sync (nmOf x.a)).1 := by
  unfold doS
  rw [if_neg (by omega), if_neg (by omega), if_pos h]
theorem doS_names (h : x.k % 12 = 5) : doS S x = S.names.1 := by
  unfold doS
  rw [if_neg (by omega), if_neg (by omega), if_neg (by omega), if_pos h]
theorem doS_rename (h : x.k % 12 = 6) : doS S x = (S.rename (nmOf x.a) (nmOf x.b)).1 := by
  unfold doS
  rw [if_neg (by omega), if_neg (by omega), if_neg (by omega), if_neg (by omega), if_pos h]
theorem doS_delete (h : x.k % 12 = 7) : doS S x = (S.delete (nmOf x.a)).1 := by
  unfold doS
  rw [if_neg (by omega), if_neg (by omega), if_neg (by omega), if_neg (by omega), if_neg (by omega), if_pos h]
theorem doS_cut (h : x.k % 12 = 8) : doS S x = (S.cut (nmOf x.a) x.n).1 := by
  unfold doS
  rw [if_neg (by omega), if_neg (by omega), if_neg (by omega), if_neg (by omega), if_neg (by omega), if_neg (by omega), if_pos h]
theorem doS_fall (h : x.k % 12 = 11) : doS S x = S.fall x.n x.b := by
  unfold doS
  rw [if_neg (by omega), if_neg (by omega), if_neg (by omega), if_neg (by omega), if_neg (by omega), if_neg (by omega), if_neg (by omega), if_neg (by omega)]
end
structure ActOk (w : World) (x : LAct) : Prop where
  k : x.k < 256
  a : x.a < 256
  b : x.b < 256
  n1 : -9223372036854775808 ≤ x.n
  n2 : x.n ≤ 9223372036854775807
  p : Rd w 1 x.pa x.p.length (encB x.p)
  pl : x.p.length ≤ 60
/-- How much a shelf holds at most behind so many acts. -/
structure SmallS (S : Sh) (N : Nat) : Prop where
  fs : S.fs.length ≤ N
  now : S.now.length ≤ N
  old : S.old.length ≤ N
  moves : S.moves.length ≤ N
  p : ∀ (i : Nat) (f : File), S.fs[i]? = some f → f.p.length ≤ 100 * N
  room1 : 0 ≤ S.room
  room2 : S.room ≤ 1048576
structure DoC (b : Nat) (X : RSh) (x : LAct) (w : World) : Prop where
  hx : w.heap[b]? = some (.cells #[.slice X.la X.L.length X.lc, .slice X.now.a X.now.l.length X.now.c, .slice X.wa X.was.length X.wc, .int .i64 X.room, .int .i64 X.left, .bool X.off, .int .i64 X.done] 35 (0, 0))
  ha : w.heap[b + 1]? = some (.cells #[.int .u8 x.k, .int .u8 x.a, .int .u8 x.b, .int .i64 x.n, .slice x.pa x.p.length x.pc] 38 (0, 0))
  hz : w.heap[b + 2]? = some (.cells #[.slice none 0 0, .slice none 0 0, .slice none 0 0, .int .i64 0, .int .i64 0, .bool false, .int .i64 0] 35 (0, 0))
theorem DoC.upd {b : Nat} {X : RSh} {x : LAct} {w w' : World} {F : Nat → Prop} (h : DoC b X x w) (hu : Upd w w' F) (hF : ∀ k, F k → k < b ∨ b + 2 < k) : DoC b X x w' :=
  ⟨hu.heap h.hx (fun e => by have := hF _ e; omega), hu.heap h.ha (fun e => by have := hF _ e; omega), hu.heap h.hz (fun e => by have := hF _ e; omega)⟩
theorem DoC.cells {b : Nat} {X : RSh} {x : LAct} {W : World} (h : DoC b X x W) :
    (W.cell? ⟨b, 0, none⟩ = some (.slice X.la X.L.length X.lc) ∧ W.cell? ⟨b, 1, none⟩ = some (.slice X.now.a X.now.l.length X.now.c) ∧ W.cell? ⟨b, 2, none⟩ = some (.slice X.wa X.was.length X.wc) ∧ W.cell? ⟨b, 3, none⟩ = some (.int .i64 X.room) ∧ W.cell? ⟨b, 4, none⟩ = some (.int .i64 X.left) ∧ W.cell? ⟨b, 5, none⟩ = some (.bool X.off) ∧ W.cell? ⟨b, 6, none⟩ = some (.int .i64 X.done)) ∧ (W.cell? ⟨b + 1, 0, none⟩ = some (.int .u8 x.k) ∧ W.cell? ⟨b + 1, 1, none⟩ = some (.int .u8 x.a) ∧ W.cell? ⟨b + 1, 2, none⟩ = some (.int .u8 x.b) ∧ W.cell? ⟨b + 1, 3, none⟩ = some (.int .i64 x.n) ∧ W.cell? ⟨b + 1, 4, none⟩ = some (.slice x.pa x.p.length x.pc)) :=
  ⟨⟨(cell_of_heap h.hx 0).trans rfl, (cell_of_heap h.hx 1).trans rfl, (cell_of_heap h.hx 2).trans rfl, (cell_of_heap h.hx 3).trans rfl, (cell_of_heap h.hx 4).trans rfl, (cell_of_heap h.hx 5).trans rfl, (cell_of_heap h.hx 6).trans rfl⟩, (cell_of_heap h.ha 0).trans rfl, (cell_of_heap h.ha 1).trans rfl, (cell_of_heap h.ha 2).trans rfl, (cell_of_heap h.ha 3).trans rfl, (cell_of_heap h.ha 4).trans rfl⟩
theorem DoC.free {b : Nat} {X : RSh} {x : LAct} {W : World} (h : DoC b X x W) : W.frozen? ⟨b, 0, none⟩ = false ∧ W.frozen? ⟨b, 1, none⟩ = false ∧ W.frozen? ⟨b, 2, none⟩ = false ∧ W.frozen? ⟨b, 3, none⟩ = false ∧ W.frozen? ⟨b, 4, none⟩ = false ∧ W.frozen? ⟨b, 5, none⟩ = false ∧ W.frozen? ⟨b, 6, none⟩ = false := ⟨free_of_heap h.hx 0, free_of_heap h.hx 1, free_of_heap h.hx 2, free_of_heap h.hx 3, free_of_heap h.hx 4, free_of_heap h.hx 5, free_of_heap h.hx 6⟩
theorem DoC.size {b : Nat} {X : RSh} {x : LAct} {W : World} (h : DoC b X x W) : b + 2 < W.heap.size := lt_of_heap h.hz
theorem do_box (w : World) (X : RSh) (x : LAct) : DoC w.heap.size X x (((w.alloc (.cells #[.slice X.la X.L.length X.lc, .slice X.now.a X.now.l.length X.now.c, .slice X.wa X.was.length X.wc, .int .i64 X.room, .int .i64 X.left, .bool X.off, .int .i64 X.done] 35)).alloc (.cells #[.int .u8 x.k, .int .u8 x.a, .int .u8 x.b, .int .i64 x.n, .slice x.pa x.p.length x.pc] 38)).alloc (.cells #[.slice none 0 0, .slice none 0 0, .slice none 0 0, .int .i64 0, .int .i64 0, .bool false, .int .i64 0] 35)) where
  hx := by
    have h0 := heap_alloc_new w (.cells #[.slice X.la X.L.length X.lc, .slice X.now.a X.now.l.length X.now.c, .slice X.wa X.was.length X.wc, .int .i64 X.room, .int .i64 X.left, .bool X.off, .int .i64 X.done] 35)
    exact heap_old (heap_old h0)
  ha := by
    have h0 := heap_alloc_new (w.alloc (.cells #[.slice X.la X.L.length X.lc, .slice X.now.a X.now.l.length X.now.c, .slice X.wa X.was.length X.wc, .int .i64 X.room, .int .i64 X.left, .bool X.off, .int .i64 X.done] 35)) (.cells #[.int .u8 x.k, .int .u8 x.a, .int .u8 x.b, .int .i64 x.n, .slice x.pa x.p.length x.pc] 38)
    rw [World.size_alloc] at h0
    exact heap_old h0
  hz := by
    have h0 := heap_alloc_new ((w.alloc (.cells #[.slice X.la X.L.length X.lc, .slice X.now.a X.now.l.length X.now.c, .slice X.wa X.was.length X.wc, .int .i64 X.room, .int .i64 X.left, .bool X.off, .int .i64 X.done] 35)).alloc (.cells #[.int .u8 x.k, .int .u8 x.a, .int .u8 x.b, .int .i64 x.n, .slice x.pa x.p.length x.pc] 38)) (.cells #[.slice none 0 0, .slice none 0 0, .slice none 0 0, .int .i64 0, .int .i64 0, .bool false, .int .i64 0] 35)
    rw [World.size_alloc, World.size_alloc] at h0
    exact h0
/-- What one act leaves behind. -/
def DoP (w : World) (G : Gh) (S : Sh) (N : Nat) (E : Nat → Prop) (x : LAct) (e : Ending) (w' : World) : Prop :=
  ∃ (X' : RSh) (b : Bool) (G' : Gh), e = .returned (.tuple #[X'.v, .bool b]) ∧ IsShelf w' G' (doS S x) ∧ G'.sb = G.sb ∧ RefOk w' (fun k => G'.own k ∨ E k) (N + 1) X' ∧ Upd w w' G.own ∧ ∀ k, G'.own k → G.own k ∨ w.heap.size ≤ k
theorem ref_after {w ws : World} {G G1 : Gh} {N : Nat} {E : Nat → Prop} {X : RSh} (hr : RefOk w (fun k => G.own k ∨ E k) N X) (ht : Upd w ws G.own) (hg : ∀ k, G1.own k → G.own k ∨ w.heap.size + 3 ≤ k) : RefOk ws (fun k => (G1.own k ∨ E k) ∨ (w.heap.size ≤ k ∧ k ≤ w.heap.size + 2)) N X :=
  ((hr.grow (Fs' := fun k => (G.own k ∨ E k) ∨ w.heap.size ≤ k) (fun k h => h)).upd ht (fun k h => .inl (.inl h))).sub (fun k h => by
    rcases h with (h | h) | h
    · rcases hg k h with h | h
      · exact .inl (.inl h)
      · exact .inr (by omega)
    · exact .inl (.inr h)
    · exact .inr h.1)
theorem nm_size (s : Nm) (hs : s.length ≤ 3) : (⟨s.toArray⟩ : ByteArray).size ≤ Big := by
  have : (⟨s.toArray⟩ : ByteArray).size = s.length := by simp [ByteArray.size]
  unfold Big
  omega
theorem create_law {G : Gh} {S : Sh} {w : World} (h : IsShelf w G S) (s : Nm) (hs : s.length ≤ 3) {N : Nat} (hN : N < 100) (hS : SmallS S N) :
    Calls Try.prog 7 #[.pointer (some ⟨G.sb, 0, none⟩), .string ⟨s.toArray⟩] w fun e w' => e = .returned (.int .i64 (S.create s).2) ∧ After w w' G (S.create s).1 :=
  create_calls h ⟨s.toArray⟩ (by unfold Big; have : (⟨s.toArray⟩ : ByteArray).size = s.length := by simp [ByteArray.size]
                                 omega) (by have := hS.moves; unfold Big; omega) (by have := hS.now; unfold Big; omega)
theorem append_law {G : Gh} {S : Sh} {w : World} (h : IsShelf w G S) (s : Nm) (hs : s.length ≤ 3) {N : Nat} (hN : N < 100) (hS : SmallS S N) {p : List UInt8} {pa : Option Addr} (pc : Nat) (hp : Rd w 1 pa p.length (encB p)) (hpn : p = [] ∨ ∀ g, blockOf pa = some g → ¬ G.own g) (hpl : p.length ≤ 100) :
    Calls Try.prog 8 #[.pointer (some ⟨G.sb, 0, none⟩), .string ⟨s.toArray⟩, .slice pa p.length pc] w fun e w' => e = .returned (.int .i64 (S.append s p).2) ∧ After w w' G (S.append s p).1 :=
  append_calls h ⟨s.toArray⟩ (nm_size s hs) p pa pc hp hpn (by have := hS.fs; omega) (by have := hS.moves; omega) (fun i f hf => by have := hS.p i f hf; unfold Big; omega) (by have := hS.room1; omega) (by have := hS.room2; omega)
theorem sync_law {G : Gh} {S : Sh} {w : World} (h : IsShelf w G S) (s : Nm) (hs : s.length ≤ 3) :
    Calls Try.prog 9 #[.pointer (some ⟨G.sb, 0, none⟩), .string ⟨s.toArray⟩] w fun e w' => e = .returned (.int .i64 (S.sync s).2) ∧ After w w' G (S.sync s).1 :=
  sync_calls h ⟨s.toArray⟩ (nm_size s hs)
theorem delete_law {G : Gh} {S : Sh} {w : World} (h : IsShelf w G S) (s : Nm) (hs : s.length ≤ 3) {N : Nat} (hN : N < 100) (hS : SmallS S N) :
    Calls Try.prog 17 #[.pointer (some ⟨G.sb, 0, none⟩), .string ⟨s.toArray⟩] w fun e w' => e = .returned (.int .i64 (S.delete s).2) ∧ After w w' G (S.delete s).1 :=
  delete_calls h ⟨s.toArray⟩ (nm_size s hs) (by have := hS.moves; unfold Big; omega)
theorem cut_law {G : Gh} {S : Sh} {w : World} (h : IsShelf w G S) (s : Nm) (hs : s.length ≤ 3) (n : Int) :
    Calls Try.prog 31 #[.pointer (some ⟨G.sb, 0, none⟩), .string ⟨s.toArray⟩, .int .i64 n] w fun e w' => e = .returned (.int .i64 (S.cut s n).2) ∧ After w w' G (S.cut s n).1 :=
  cut_calls h ⟨s.toArray⟩ (nm_size s hs) n
theorem rename_law {G : Gh} {S : Sh} {w : World} (h : IsShelf w G S) (s t : Nm) (hs : s.length ≤ 3) (ht : t.length ≤ 3) {N : Nat} (hN : N < 100) (hS : SmallS S N) :
    Calls Try.prog 28 #[.pointer (some ⟨G.sb, 0, none⟩), .string ⟨s.toArray⟩, .string ⟨t.toArray⟩] w fun e w' => e = .returned (.int .i64 (S.rename s t).2) ∧ After w w' G (S.rename s t).1 :=
  rename_calls h ⟨s.toArray⟩ ⟨t.toArray⟩ (nm_size s hs) (nm_size t ht) (by have := hS.moves; unfold Big; omega) (by have := hS.now; unfold Big; omega)
def MidP (w : World) (G : Gh) (S : Sh) (N : Nat) (E : Nat → Prop) (x : LAct) (e f : Value) (wr : World) : Prop :=
  ∃ (X1 : RSh) (G1 : Gh) (e1 f1 : Int), e = .int .i64 e1 ∧ f = .int .i64 f1 ∧ DoC w.heap.size X1 x wr ∧ IsShelf wr G1 (doS S x) ∧ G1.sb = G.sb ∧
    RefOk wr (fun k => (G1.own k ∨ E k) ∨ (w.heap.size ≤ k ∧ k ≤ w.heap.size + 2)) (N + 1) X1 ∧ Upd w wr G.own ∧ (∀ k, G1.own k → G.own k ∨ w.heap.size + 3 ≤ k)
def Mid0 (w : World) (G : Gh) (S : Sh) (N : Nat) (E : Nat → Prop) (x : LAct) (X : RSh) (e : Value) (wr : World) : Prop :=
  ∃ (G1 : Gh) (e1 : Int), e = .int .i64 e1 ∧ DoC w.heap.size X x wr ∧ IsShelf wr G1 (doS S x) ∧ G1.sb = G.sb ∧
    RefOk wr (fun k => (G1.own k ∨ E k) ∨ (w.heap.size ≤ k ∧ k ≤ w.heap.size + 2)) N X ∧ Upd w wr G.own ∧ (∀ k, G1.own k → G.own k ∨ w.heap.size + 3 ≤ k)
theorem own_off {w : World} {G G1 : Gh} {S : Sh} (H : IsShelf w G S) (HG : ∀ k, G1.own k → G.own k ∨ w.heap.size + 3 ≤ k) {k : Nat} (hk : G1.own k) : ¬ k = w.heap.size ∧ ¬ k = w.heap.size + 2 := by
  rcases HG k hk with h | h
  · have := H.own_lt h
    omega
  · omega
theorem mid_of {w ws wr W7 : World} {G G1 : Gh} {S S1 : Sh} {N M : Nat} {E : Nat → Prop} {x : LAct} {X1 : RSh} {e1 f1 : Int} (H : IsShelf w G S) (H1 : IsShelf ws G1 S1) (hS : S1 = doS S x) (HT : Upd w ws G.own) (HG : ∀ k, G1.own k → G.own k ∨ w.heap.size + 3 ≤ k) (HSB : G1.sb = G.sb)
    (hok : RefOk wr (fun k => (G1.own k ∨ E k) ∨ (w.heap.size ≤ k ∧ k ≤ w.heap.size + 2)) M X1) (hM : M ≤ N + 1) (hu : Upd ws wr (fun _ => False)) (hb : Upd wr W7 (fun k => k = w.heap.size)) (hc : DoC w.heap.size X1 x W7) :
    MidP w G S N E x (.int .i64 e1) (.int .i64 f1) W7 := by
  subst hS
  refine ⟨X1, G1, e1, f1, rfl, rfl, hc, ?_, HSB, ?_, ?_, HG⟩
  · refine ((H1.upd hu (fun _ _ h => h)).upd hb (fun k hk => (own_off H HG hk).1))
  · exact (hok.upd hb (fun k hk => .inr (by omega))).more hM
  · refine (HT.trans hu (fun _ _ h => h.elim)).trans hb (fun k hk e => ?_)
    omega
theorem DoC.set7 {b : Nat} {X X1 : RSh} {x : LAct} {wr : World} (h : DoC b X x wr) : Upd wr (wr.setCells b 0 [.slice X1.la X1.L.length X1.lc, .slice X1.now.a X1.now.l.length X1.now.c, .slice X1.wa X1.was.length X1.wc, .int .i64 X1.room, .int .i64 X1.left, .bool X1.off, .int .i64 X1.done]) (fun k => k = b) ∧ DoC b X1 x (wr.setCells b 0 [.slice X1.la X1.L.length X1.lc, .slice X1.now.a X1.now.l.length X1.now.c, .slice X1.wa X1.was.length X1.wc, .int .i64 X1.room, .int .i64 X1.left, .bool X1.off, .int .i64 X1.done]) := by
  have hu : Upd wr (wr.setCells b 0 [.slice X1.la X1.L.length X1.lc, .slice X1.now.a X1.now.l.length X1.now.c, .slice X1.wa X1.was.length X1.wc, .int .i64 X1.room, .int .i64 X1.left, .bool X1.off, .int .i64 X1.done]) (fun k => k = b) := Upd.cells (F := fun k => k = b) rfl _ 0 _ (Upd.refl _ _)
  exact ⟨hu, (heap_setCells _ 0 wr _ h.hx).trans (by simp [putAll]), hu.heap h.ha (by omega), hu.heap h.hz (by omega)⟩
theorem DoC.set4 {b : Nat} {X : RSh} {x : LAct} {wr : World} (h : DoC b X x wr) (l : Int) : Upd wr (wr.setCell ⟨b, 4, none⟩ (.int .i64 l)) (fun k => k = b) ∧ DoC b {X with left := l} x (wr.setCell ⟨b, 4, none⟩ (.int .i64 l)) := by
  have hu : Upd wr (wr.setCell ⟨b, 4, none⟩ (.int .i64 l)) (fun k => k = b) := (Upd.refl _ _).put (.inl rfl)
  exact ⟨hu, heap_setCell_same h.hx _, hu.heap h.ha (by omega), hu.heap h.hz (by omega)⟩
theorem tmod12 (n : Int) : -11 ≤ n.tmod 12 ∧ n.tmod 12 ≤ 11 := by
  have h1 := Int.tmod_lt_of_pos n (show (0 : Int) < 12 by omega)
  have h2 := Int.lt_tmod_of_pos n (show (0 : Int) < 12 by omega)
  omega
set_option maxHeartbeats 8000000 in
set_option maxRecDepth 8000 in
theorem do_01 {w : World} {G : Gh} {S : Sh} {N : Nat} {E : Nat → Prop} {X : RSh} {x : LAct} (h : IsShelf w G S) (hs : SmallS S N) (hE : ∀ k, E k → k < w.heap.size) (hr : RefOk w (fun k => G.own k ∨ E k) N X) (hx : ActOk w x) (hpo : x.p = [] ∨ ∀ g, blockOf x.pa = some g → ¬ G.own g) (hN : N < 100) (hk : x.k % 12 = 0 ∨ x.k % 12 = 1) :
    Calls Try.prog 12 #[.pointer (some ⟨G.sb, 0, none⟩), X.v, x.v] w (DoP w G S N E x) := by
  have H := Lib.hid h
  have HS := Lib.hid hs
  have HR := Lib.hid hr
  have HE := Lib.hid hE
  have HXA := Lib.hid hx
  have HPO := Lib.hid hpo
  have hk1 : (0 : Int) ≤ x.k := by omega
  have hk2 : (x.k : Int) ≤ 255 := by have := hx.k; omega
  have hb1 : (0 : Int) ≤ x.b := by omega
  have hb2 : (x.b : Int) ≤ 255 := by have := hx.b; omega
  have hn1 := hx.n1
  have hn2 := hx.n2
  have HC := Lib.hid (do_box w X x)
  have hu1 := ((((Upd.refl w (fun _ => False)).alloc (.cells #[.slice X.la X.L.length X.lc, .slice X.now.a X.now.l.length X.now.c, .slice X.wa X.was.length X.wc, .int .i64 X.room, .int .i64 X.left, .bool X.off, .int .i64 X.done] 35)).alloc (.cells #[.int .u8 x.k, .int .u8 x.a, .int .u8 x.b, .int .i64 x.n, .slice x.pa x.p.length x.pc] 38)).alloc (.cells #[.slice none 0 0, .slice none 0 0, .slice none 0 0, .int .i64 0, .int .i64 0, .bool false, .int .i64 0] 35))
  obtain ⟨x0, x1, x2, x3, x4, x5, x6, a0, a1, a2, a3, a4, g0, g1, g2, g3, g4, g5, g6⟩ : True ∧ True ∧ True ∧ True ∧ True ∧ True ∧ True ∧ True ∧ True ∧ True ∧ True ∧ True ∧ True ∧ True ∧ True ∧ True ∧ True ∧ True ∧ True := by simp
  rw [RSh.v_rv]
  unfold rv LAct.v
  have HKK := Lib.hid hk
  clear h hs hr hx hk hpo hE
  go_enter Try.func12, Try.ntmps12
  go_upto_block 0 with fail
  go_cut [8, 9, 12] (fun e f _t wr => MidP w G S N E x e f wr)
  case first =>
    go_upto_if 27 with fail
    go_cut [27, 12] (fun b _t wr => b = .bool true ∧ DoC w.heap.size X x wr ∧ Upd w wr (fun _ => False))
    case first =>
      rcases HKK.out with hkk | hkk
      · have hkm : (x.k : Int) % 12 = 0 := by omega
        clear hkk
        go_wp2_with fail
        go_meet
        exact ⟨by first | rfl | (rw [hkm]; rfl), HC.out, hu1⟩
      · have hkm : (x.k : Int) % 12 = 1 := by omega
        clear hkk
        go_wp2_with fail
        go_meet
        exact ⟨by first | rfl | (rw [hkm]; rfl), HC.out, hu1⟩
    obtain ⟨rfl, hc2, hu2⟩ := hcut
    clear x0 x1 x2 x3 x4 x5 x6 a0 a1 a2 a3 a4 g0 g1 g2 g3 g4 g5 g6 HC hu1; have HC := Lib.hid hc2; have hu1 := hu2; clear hc2 hu2; obtain ⟨⟨x0, x1, x2, x3, x4, x5, x6⟩, a0, a1, a2, a3, a4⟩ := HC.out.cells; obtain ⟨g0, g1, g2, g3, g4, g5, g6⟩ := HC.out.free
    all_goals
    go_wp2_with (first
            | (go_at_call 23; refine (name_law x.a HXA.out.a _).mono ?_; rintro e wn ⟨rfl, hun⟩; have hc2 := HC.out.upd hun (fun _ h => h.elim); have hu2 := hu1.trans hun (fun _ _ h => h); clear hun; clear x0 x1 x2 x3 x4 x5 x6 a0 a1 a2 a3 a4 g0 g1 g2 g3 g4 g5 g6 HC hu1; have HC := Lib.hid hc2; have hu1 := hu2; clear hc2 hu2; obtain ⟨⟨x0, x1, x2, x3, x4, x5, x6⟩, a0, a1, a2, a3, a4⟩ := HC.out.cells; obtain ⟨g0, g1, g2, g3, g4, g5, g6⟩ := HC.out.free)
            | (go_at_call 7; refine (create_law (H.out.upd hu1 (fun _ _ h => h)) (nmOf x.a) (nmOf_le _) hN HS.out).mono ?_; rintro e ws ⟨rfl, G1, hi1, hsb1, hus1, hown1⟩; have hc2 := HC.out.upd hus1 (fun k ho => .inl (H.out.own_lt ho)); have H1 := Lib.hid hi1; have HT := Lib.hid ((hu1.mono (F' := G.own) (fun _ _ h => h.elim)).trans hus1 (fun _ _ h => h)); have HG : Hid (∀ k, G1.own k → G.own k ∨ w.heap.size + 3 ≤ k) := Lib.hid (fun k hk => (hown1 k hk).imp id (fun hkk => Nat.le_trans HC.out.size hkk)); have HR1 := Lib.hid (ref_after HR.out HT.out HG.out); have HSB := Lib.hid hsb1; have hu2 : Upd ws ws (fun _ => False) := Upd.refl _ _; clear hi1 hus1 hown1 hsb1; clear x0 x1 x2 x3 x4 x5 x6 a0 a1 a2 a3 a4 g0 g1 g2 g3 g4 g5 g6 HC hu1; have HC := Lib.hid hc2; have hu1 := hu2; clear hc2 hu2; obtain ⟨⟨x0, x1, x2, x3, x4, x5, x6⟩, a0, a1, a2, a3, a4⟩ := HC.out.cells; obtain ⟨g0, g1, g2, g3, g4, g5, g6⟩ := HC.out.free)
            | go_in)
    all_goals
    (try go_wp2_with fail)
    all_goals
    go_region_with (first | (go_at_call 23; refine (name_law x.a HXA.out.a _).mono ?_; rintro e wn ⟨rfl, hun⟩; have hun := ((Upd.refl _ (fun _ => False)).drew).trans hun (fun _ _ h => h); have hc2 := HC.out.upd hun (fun _ h => h.elim); have hu2 := hu1.trans hun (fun _ _ h => h); clear hun; clear x0 x1 x2 x3 x4 x5 x6 a0 a1 a2 a3 a4 g0 g1 g2 g3 g4 g5 g6 HC hu1; have HC := Lib.hid hc2; have hu1 := hu2; clear hc2 hu2; obtain ⟨⟨x0, x1, x2, x3, x4, x5, x6⟩, a0, a1, a2, a3, a4⟩ := HC.out.cells; obtain ⟨g0, g1, g2, g3, g4, g5, g6⟩ := HC.out.free) | (go_at_call 24; refine (create_ref (HR1.out.upd hu1 (fun _ h => h.elim)) (fun k hk => by rcases hk with (hk | hk) | hk; exact Nat.lt_of_lt_of_le (H1.out.own_lt hk) hu1.size; have := HE.out k hk; have := HC.out.size; omega; have := HC.out.size; omega) (nmOf x.a) (Nat.le_trans (nmOf_le _) (by decide)) (by omega)).mono ?_; rintro e wr ⟨X1, n1, rfl, hok1, hur⟩; have hc2 := HC.out.upd hur (fun _ h => h.elim); have hu2 := hu1.trans hur (fun _ _ h => h); have HOK := Lib.hid hok1; clear hur hok1; rw [RSh.v_rv]; unfold rv; clear x0 x1 x2 x3 x4 x5 x6 a0 a1 a2 a3 a4 g0 g1 g2 g3 g4 g5 g6 HC hu1; have HC := Lib.hid hc2; have hu1 := hu2; clear hc2 hu2; obtain ⟨⟨x0, x1, x2, x3, x4, x5, x6⟩, a0, a1, a2, a3, a4⟩ := HC.out.cells; obtain ⟨g0, g1, g2, g3, g4, g5, g6⟩ := HC.out.free))
    all_goals
    go_wp2_with fail
    all_goals
    have h7 := HC.out.set7 (X1 := X1)
    go_simp
    go_meet
    exact mid_of H.out H1.out (by first | exact (doS_create HKK.out).symm | rfl) HT.out HG.out HSB.out HOK.out (by omega) hu1 h7.1 h7.2
  case rest =>
    obtain ⟨X1, G1, e1, f1, rfl, rfl, hc, hi, hsb, hok, hu, hg⟩ := hcut
    clear x0 x1 x2 x3 x4 x5 x6 a0 a1 a2 a3 a4 g0 g1 g2 g3 g4 g5 g6 HC hu1
    obtain ⟨⟨x0, x1, x2, x3, x4, x5, x6⟩, a0, a1, a2, a3, a4⟩ := hc.cells
    have HC := Lib.hid hc
    have HI := Lib.hid hi
    have HSB := Lib.hid hsb
    have HOK := Lib.hid hok
    have HU := Lib.hid hu
    have HG := Lib.hid hg
    clear hc hi hsb hok hu hg
    go_wp2_with (first
            | (refine gate_st _ (.tmp 6) rfl ?_; refine wpList_box7 _ _ rfl rfl rfl (w.heap.size + 2) rfl rfl HC.out.hz rfl rfl rfl rfl rfl rfl rfl ?_; intro wz hz2 hy2; have HZ2 := Lib.hid hz2; have HY2 := Lib.hid hy2; clear hz2 hy2)
            | go_in)
    obtain ⟨⟨y0, y1, y2, y3, y4, y5, y6⟩, y7⟩ := box7 HY2.out
    exact bodyPost_ret (v := .tuple #[.agg #[.slice X1.la X1.L.length X1.lc, .slice X1.now.a X1.now.l.length X1.now.c, .slice X1.wa X1.was.length X1.wc, .int .i64 X1.room, .int .i64 X1.left, .bool X1.off, .int .i64 X1.done], .bool (e1 == f1)]) (by simp [results, Try.results12, go_sem, y0, y1, y2, y3, y4, y5, y6]) rfl
      ⟨X1, _, G1, by rw [RSh.v_rv]; rfl, HI.out.upd HZ2.out (fun k hk => (own_off H.out HG.out hk).2), HSB.out, (HOK.out.upd HZ2.out (fun k hk => .inr (by omega))).sub (fun k hk => .inl hk), HU.out.trans HZ2.out (fun k hk e => by omega), fun k hk => (HG.out k hk).imp id (fun h => by omega)⟩

set_option maxHeartbeats 8000000 in
set_option maxRecDepth 8000 in
theorem do_4 {w : World} {G : Gh} {S : Sh} {N : Nat} {E : Nat → Prop} {X : RSh} {x : LAct} (h : IsShelf w G S) (hs : SmallS S N) (hE : ∀ k, E k → k < w.heap.size) (hr : RefOk w (fun k => G.own k ∨ E k) N X) (hx : ActOk w x) (hpo : x.p = [] ∨ ∀ g, blockOf x.pa = some g → ¬ G.own g) (hN : N < 100) (hk : x.k % 12 = 4) :
    Calls Try.prog 12 #[.pointer (some ⟨G.sb, 0, none⟩), X.v, x.v] w (DoP w G S N E x) := by
  have H := Lib.hid h
  have HS := Lib.hid hs
  have HR := Lib.hid hr
  have HE := Lib.hid hE
  have HXA := Lib.hid hx
  have HPO := Lib.hid hpo
  have hkm : (x.k : Int) % 12 = 4 := by omega
  have hk1 : (0 : Int) ≤ x.k := by omega
  have hk2 : (x.k : Int) ≤ 255 := by have := hx.k; omega
  have hb1 : (0 : Int) ≤ x.b := by omega
  have hb2 : (x.b : Int) ≤ 255 := by have := hx.b; omega
  have hn1 := hx.n1
  have hn2 := hx.n2
  have HC := Lib.hid (do_box w X x)
  have hu1 := ((((Upd.refl w (fun _ => False)).alloc (.cells #[.slice X.la X.L.length X.lc, .slice X.now.a X.now.l.length X.now.c, .slice X.wa X.was.length X.wc, .int .i64 X.room, .int .i64 X.left, .bool X.off, .int .i64 X.done] 35)).alloc (.cells #[.int .u8 x.k, .int .u8 x.a, .int .u8 x.b, .int .i64 x.n, .slice x.pa x.p.length x.pc] 38)).alloc (.cells #[.slice none 0 0, .slice none 0 0, .slice none 0 0, .int .i64 0, .int .i64 0, .bool false, .int .i64 0] 35))
  obtain ⟨x0, x1, x2, x3, x4, x5, x6, a0, a1, a2, a3, a4, g0, g1, g2, g3, g4, g5, g6⟩ : True ∧ True ∧ True ∧ True ∧ True ∧ True ∧ True ∧ True ∧ True ∧ True ∧ True ∧ True ∧ True ∧ True ∧ True ∧ True ∧ True ∧ True ∧ True := by simp
  rw [RSh.v_rv]
  unfold rv LAct.v
  have HKK := Lib.hid hk
  clear h hs hr hx hk hpo hE
  go_enter Try.func12, Try.ntmps12
  go_upto_block 0 with fail
  go_cut [8, 9, 12] (fun e f _t wr => MidP w G S N E x e f wr)
  case first =>
    all_goals
    go_wp2_with (first
            | (go_at_call 23; refine (name_law x.a HXA.out.a _).mono ?_; rintro e wn ⟨rfl, hun⟩; have hc2 := HC.out.upd hun (fun _ h => h.elim); have hu2 := hu1.trans hun (fun _ _ h => h); clear hun; clear x0 x1 x2 x3 x4 x5 x6 a0 a1 a2 a3 a4 g0 g1 g2 g3 g4 g5 g6 HC hu1; have HC := Lib.hid hc2; have hu1 := hu2; clear hc2 hu2; obtain ⟨⟨x0, x1, x2, x3, x4, x5, x6⟩, a0, a1, a2, a3, a4⟩ := HC.out.cells; obtain ⟨g0, g1, g2, g3, g4, g5, g6⟩ := HC.out.free)
            | (go_at_call 9; refine (sync_law (H.out.upd hu1 (fun _ _ h => h)) (nmOf x.a) (nmOf_le _)).mono ?_; rintro e ws ⟨rfl, G1, hi1, hsb1, hus1, hown1⟩; have hc2 := HC.out.upd hus1 (fun k ho => .inl (H.out.own_lt ho)); have H1 := Lib.hid hi1; have HT := Lib.hid ((hu1.mono (F' := G.own) (fun _ _ h => h.elim)).trans hus1 (fun _ _ h => h)); have HG : Hid (∀ k, G1.own k → G.own k ∨ w.heap.size + 3 ≤ k) := Lib.hid (fun k hk => (hown1 k hk).imp id (fun hkk => Nat.le_trans HC.out.size hkk)); have HR1 := Lib.hid (ref_after HR.out HT.out HG.out); have HSB := Lib.hid hsb1; have hu2 : Upd ws ws (fun _ => False) := Upd.refl _ _; clear hi1 hus1 hown1 hsb1; clear x0 x1 x2 x3 x4 x5 x6 a0 a1 a2 a3 a4 g0 g1 g2 g3 g4 g5 g6 HC hu1; have HC := Lib.hid hc2; have hu1 := hu2; clear hc2 hu2; obtain ⟨⟨x0, x1, x2, x3, x4, x5, x6⟩, a0, a1, a2, a3, a4⟩ := HC.out.cells; obtain ⟨g0, g1, g2, g3, g4, g5, g6⟩ := HC.out.free)
            | go_in)
    all_goals
    (try go_wp2_with fail)
    all_goals
    go_region_with (first | (go_at_call 23; refine (name_law x.a HXA.out.a _).mono ?_; rintro e wn ⟨rfl, hun⟩; have hun := ((Upd.refl _ (fun _ => False)).drew).trans hun (fun _ _ h => h); have hc2 := HC.out.upd hun (fun _ h => h.elim); have hu2 := hu1.trans hun (fun _ _ h => h); clear hun; clear x0 x1 x2 x3 x4 x5 x6 a0 a1 a2 a3 a4 g0 g1 g2 g3 g4 g5 g6 HC hu1; have HC := Lib.hid hc2; have hu1 := hu2; clear hc2 hu2; obtain ⟨⟨x0, x1, x2, x3, x4, x5, x6⟩, a0, a1, a2, a3, a4⟩ := HC.out.cells; obtain ⟨g0, g1, g2, g3, g4, g5, g6⟩ := HC.out.free) | (go_at_call 26; refine (sync_ref (HR1.out.upd hu1 (fun _ h => h.elim)) (fun k hk => by rcases hk with (hk | hk) | hk; exact Nat.lt_of_lt_of_le (H1.out.own_lt hk) hu1.size; have := HE.out k hk; have := HC.out.size; omega; have := HC.out.size; omega) (nmOf x.a) (by omega)).mono ?_; rintro e wr ⟨X1, n1, rfl, hok1, hur⟩; have hc2 := HC.out.upd hur (fun _ h => h.elim); have hu2 := hu1.trans hur (fun _ _ h => h); have HOK := Lib.hid hok1; clear hur hok1; rw [RSh.v_rv]; unfold rv; clear x0 x1 x2 x3 x4 x5 x6 a0 a1 a2 a3 a4 g0 g1 g2 g3 g4 g5 g6 HC hu1; have HC := Lib.hid hc2; have hu1 := hu2; clear hc2 hu2; obtain ⟨⟨x0, x1, x2, x3, x4, x5, x6⟩, a0, a1, a2, a3, a4⟩ := HC.out.cells; obtain ⟨g0, g1, g2, g3, g4, g5, g6⟩ := HC.out.free))
    all_goals
    go_wp2_with fail
    all_goals
    have h7 := HC.out.set7 (X1 := X1)
    go_simp
    go_meet
    exact mid_of H.out H1.out (by first | exact (doS_sync HKK.out).symm | rfl) HT.out HG.out HSB.out HOK.out (by omega) hu1 h7.1 h7.2
  case rest =>
    obtain ⟨X1, G1, e1, f1, rfl, rfl, hc, hi, hsb, hok, hu, hg⟩ := hcut
    clear x0 x1 x2 x3 x4 x5 x6 a0 a1 a2 a3 a4 g0 g1 g2 g3 g4 g5 g6 HC hu1
    obtain ⟨⟨x0, x1, x2, x3, x4, x5, x6⟩, a0, a1, a2, a3, a4⟩ := hc.cells
    have HC := Lib.hid hc
    have HI := Lib.hid hi
    have HSB := Lib.hid hsb
    have HOK := Lib.hid hok
    have HU := Lib.hid hu
    have HG := Lib.hid hg
    clear hc hi hsb hok hu hg
    go_wp2_with (first
            | (refine gate_st _ (.tmp 6) rfl ?_; refine wpList_box7 _ _ rfl rfl rfl (w.heap.size + 2) rfl rfl HC.out.hz rfl rfl rfl rfl rfl rfl rfl ?_; intro wz hz2 hy2; have HZ2 := Lib.hid hz2; have HY2 := Lib.hid hy2; clear hz2 hy2)
            | go_in)
    obtain ⟨⟨y0, y1, y2, y3, y4, y5, y6⟩, y7⟩ := box7 HY2.out
    exact bodyPost_ret (v := .tuple #[.agg #[.slice X1.la X1.L.length X1.lc, .slice X1.now.a X1.now.l.length X1.now.c, .slice X1.wa X1.was.length X1.wc, .int .i64 X1.room, .int .i64 X1.left, .bool X1.off, .int .i64 X1.done], .bool (e1 == f1)]) (by simp [results, Try.results12, go_sem, y0, y1, y2, y3, y4, y5, y6]) rfl
      ⟨X1, _, G1, by rw [RSh.v_rv]; rfl, HI.out.upd HZ2.out (fun k hk => (own_off H.out HG.out hk).2), HSB.out, (HOK.out.upd HZ2.out (fun k hk => .inr (by omega))).sub (fun k hk => .inl hk), HU.out.trans HZ2.out (fun k hk e => by omega), fun k hk => (HG.out k hk).imp id (fun h => by omega)⟩

set_option maxHeartbeats 8000000 in
set_option maxRecDepth 8000 in
theorem do_5 {w : World} {G : Gh} {S : Sh} {N : Nat} {E : Nat → Prop} {X : RSh} {x : LAct} (h : IsShelf w G S) (hs : SmallS S N) (hE : ∀ k, E k → k < w.heap.size) (hr : RefOk w (fun k => G.own k ∨ E k) N X) (hx : ActOk w x) (hpo : x.p = [] ∨ ∀ g, blockOf x.pa = some g → ¬ G.own g) (hN : N < 100) (hk : x.k % 12 = 5) :
    Calls Try.prog 12 #[.pointer (some ⟨G.sb, 0, none⟩), X.v, x.v] w (DoP w G S N E x) := by
  have H := Lib.hid h
  have HS := Lib.hid hs
  have HR := Lib.hid hr
  have HE := Lib.hid hE
  have HXA := Lib.hid hx
  have HPO := Lib.hid hpo
  have hkm : (x.k : Int) % 12 = 5 := by omega
  have hk1 : (0 : Int) ≤ x.k := by omega
  have hk2 : (x.k : Int) ≤ 255 := by have := hx.k; omega
  have hb1 : (0 : Int) ≤ x.b := by omega
  have hb2 : (x.b : Int) ≤ 255 := by have := hx.b; omega
  have hn1 := hx.n1
  have hn2 := hx.n2
  have HC := Lib.hid (do_box w X x)
  have hu1 := ((((Upd.refl w (fun _ => False)).alloc (.cells #[.slice X.la X.L.length X.lc, .slice X.now.a X.now.l.length X.now.c, .slice X.wa X.was.length X.wc, .int .i64 X.room, .int .i64 X.left, .bool X.off, .int .i64 X.done] 35)).alloc (.cells #[.int .u8 x.k, .int .u8 x.a, .int .u8 x.b, .int .i64 x.n, .slice x.pa x.p.length x.pc] 38)).alloc (.cells #[.slice none 0 0, .slice none 0 0, .slice none 0 0, .int .i64 0, .int .i64 0, .bool false, .int .i64 0] 35))
  obtain ⟨x0, x1, x2, x3, x4, x5, x6, a0, a1, a2, a3, a4, g0, g1, g2, g3, g4, g5, g6⟩ : True ∧ True ∧ True ∧ True ∧ True ∧ True ∧ True ∧ True ∧ True ∧ True ∧ True ∧ True ∧ True ∧ True ∧ True ∧ True ∧ True ∧ True ∧ True := by simp
  rw [RSh.v_rv]
  unfold rv LAct.v
  have HKK := Lib.hid hk
  clear h hs hr hx hk hpo hE
  go_enter Try.func12, Try.ntmps12
  go_upto_block 0 with fail
  go_cut [8, 9, 12] (fun e f _t wr => MidP w G S N E x e f wr)
  case first =>
    all_goals
    go_wp2_with (first
            | (go_at_call 10; refine (names_calls (H.out.upd hu1 (fun _ _ h => h))).mono ?_; rintro e ws ⟨rfl, G1, hi1, hsb1, hus1, hown1⟩; have hc2 := HC.out.upd hus1 (fun k ho => .inl (H.out.own_lt ho)); have H1 := Lib.hid hi1; have HT := Lib.hid ((hu1.mono (F' := G.own) (fun _ _ h => h.elim)).trans hus1 (fun _ _ h => h)); have HG : Hid (∀ k, G1.own k → G.own k ∨ w.heap.size + 3 ≤ k) := Lib.hid (fun k hk => (hown1 k hk).imp id (fun hkk => Nat.le_trans HC.out.size hkk)); have HR1 := Lib.hid (ref_after HR.out HT.out HG.out); have HSB := Lib.hid hsb1; have hu2 : Upd ws ws (fun _ => False) := Upd.refl _ _; clear hi1 hus1 hown1 hsb1; clear x0 x1 x2 x3 x4 x5 x6 a0 a1 a2 a3 a4 g0 g1 g2 g3 g4 g5 g6 HC hu1; have HC := Lib.hid hc2; have hu1 := hu2; clear hc2 hu2; obtain ⟨⟨x0, x1, x2, x3, x4, x5, x6⟩, a0, a1, a2, a3, a4⟩ := HC.out.cells; obtain ⟨g0, g1, g2, g3, g4, g5, g6⟩ := HC.out.free)
            | (go_at_call 27; refine (names_ref (HR1.out.upd hu1 (fun _ h => h.elim)) (fun k hk => by rcases hk with (hk | hk) | hk; exact Nat.lt_of_lt_of_le (H1.out.own_lt hk) hu1.size; have := HE.out k hk; have := HC.out.size; omega; have := HC.out.size; omega)).mono ?_; rintro e wr ⟨X1, n1, rfl, hok1, hur⟩; have hc2 := HC.out.upd hur (fun _ h => h.elim); have hu2 := hu1.trans hur (fun _ _ h => h); have HOK := Lib.hid hok1; clear hur hok1; rw [RSh.v_rv]; unfold rv; clear x0 x1 x2 x3 x4 x5 x6 a0 a1 a2 a3 a4 g0 g1 g2 g3 g4 g5 g6 HC hu1; have HC := Lib.hid hc2; have hu1 := hu2; clear hc2 hu2; obtain ⟨⟨x0, x1, x2, x3, x4, x5, x6⟩, a0, a1, a2, a3, a4⟩ := HC.out.cells; obtain ⟨g0, g1, g2, g3, g4, g5, g6⟩ := HC.out.free)
            | go_in)
    all_goals
    go_wp2_with fail
    all_goals
    have h7 := HC.out.set7 (X1 := X1)
    go_simp
    go_meet
    exact mid_of H.out H1.out (by first | exact (doS_names HKK.out).symm | rfl) HT.out HG.out HSB.out HOK.out (by omega) hu1 h7.1 h7.2
  case rest =>
    obtain ⟨X1, G1, e1, f1, rfl, rfl, hc, hi, hsb, hok, hu, hg⟩ := hcut
    clear x0 x1 x2 x3 x4 x5 x6 a0 a1 a2 a3 a4 g0 g1 g2 g3 g4 g5 g6 HC hu1
    obtain ⟨⟨x0, x1, x2, x3, x4, x5, x6⟩, a0, a1, a2, a3, a4⟩ := hc.cells
    have HC := Lib.hid hc
    have HI := Lib.hid hi
    have HSB := Lib.hid hsb
    have HOK := Lib.hid hok
    have HU := Lib.hid hu
    have HG := Lib.hid hg
    clear hc hi hsb hok hu hg
    go_wp2_with (first
            | (refine gate_st _ (.tmp 6) rfl ?_; refine wpList_box7 _ _ rfl rfl rfl (w.heap.size + 2) rfl rfl HC.out.hz rfl rfl rfl rfl rfl rfl rfl ?_; intro wz hz2 hy2; have HZ2 := Lib.hid hz2; have HY2 := Lib.hid hy2; clear hz2 hy2)
            | go_in)
    obtain ⟨⟨y0, y1, y2, y3, y4, y5, y6⟩, y7⟩ := box7 HY2.out
    exact bodyPost_ret (v := .tuple #[.agg #[.slice X1.la X1.L.length X1.lc, .slice X1.now.a X1.now.l.length X1.now.c, .slice X1.wa X1.was.length X1.wc, .int .i64 X1.room, .int .i64 X1.left, .bool X1.off, .int .i64 X1.done], .bool (e1 == f1)]) (by simp [results, Try.results12, go_sem, y0, y1, y2, y3, y4, y5, y6]) rfl
      ⟨X1, _, G1, by rw [RSh.v_rv]; rfl, HI.out.upd HZ2.out (fun k hk => (own_off H.out HG.out hk).2), HSB.out, (HOK.out.upd HZ2.out (fun k hk => .inr (by omega))).sub (fun k hk => .inl hk), HU.out.trans HZ2.out (fun k hk e => by omega), fun k hk => (HG.out k hk).imp id (fun h => by omega)⟩

set_option maxHeartbeats 8000000 in
set_option maxRecDepth 8000 in
theorem do_7 {w : World} {G : Gh} {S : Sh} {N : Nat} {E : Nat → Prop} {X : RSh} {x : LAct} (h : IsShelf w G S) (hs : SmallS S N) (hE : ∀ k, E k → k < w.heap.size) (hr : RefOk w (fun k => G.own k ∨ E k) N X) (hx : ActOk w x) (hpo : x.p = [] ∨ ∀ g, blockOf x.pa = some g → ¬ G.own g) (hN : N < 100) (hk : x.k % 12 = 7) :
    Calls Try.prog 12 #[.pointer (some ⟨G.sb, 0, none⟩), X.v, x.v] w (DoP w G S N E x) := by
  have H := Lib.hid h
  have HS := Lib.hid hs
  have HR := Lib.hid hr
  have HE := Lib.hid hE
  have HXA := Lib.hid hx
  have HPO := Lib.hid hpo
  have hkm : (x.k : Int) % 12 = 7 := by omega
  have hk1 : (0 : Int) ≤ x.k := by omega
  have hk2 : (x.k : Int) ≤ 255 := by have := hx.k; omega
  have hb1 : (0 : Int) ≤ x.b := by omega
  have hb2 : (x.b : Int) ≤ 255 := by have := hx.b; omega
  have hn1 := hx.n1
  have hn2 := hx.n2
  have HC := Lib.hid (do_box w X x)
  have hu1 := ((((Upd.refl w (fun _ => False)).alloc (.cells #[.slice X.la X.L.length X.lc, .slice X.now.a X.now.l.length X.now.c, .slice X.wa X.was.length X.wc, .int .i64 X.room, .int .i64 X.left, .bool X.off, .int .i64 X.done] 35)).alloc (.cells #[.int .u8 x.k, .int .u8 x.a, .int .u8 x.b, .int .i64 x.n, .slice x.pa x.p.length x.pc] 38)).alloc (.cells #[.slice none 0 0, .slice none 0 0, .slice none 0 0, .int .i64 0, .int .i64 0, .bool false, .int .i64 0] 35))
  obtain ⟨x0, x1, x2, x3, x4, x5, x6, a0, a1, a2, a3, a4, g0, g1, g2, g3, g4, g5, g6⟩ : True ∧ True ∧ True ∧ True ∧ True ∧ True ∧ True ∧ True ∧ True ∧ True ∧ True ∧ True ∧ True ∧ True ∧ True ∧ True ∧ True ∧ True ∧ True := by simp
  rw [RSh.v_rv]
  unfold rv LAct.v
  have HKK := Lib.hid hk
  clear h hs hr hx hk hpo hE
  go_enter Try.func12, Try.ntmps12
  go_upto_block 0 with fail
  go_cut [8, 9, 12] (fun e f _t wr => MidP w G S N E x e f wr)
  case first =>
    all_goals
    go_wp2_with (first
            | (go_at_call 23; refine (name_law x.a HXA.out.a _).mono ?_; rintro e wn ⟨rfl, hun⟩; have hc2 := HC.out.upd hun (fun _ h => h.elim); have hu2 := hu1.trans hun (fun _ _ h => h); clear hun; clear x0 x1 x2 x3 x4 x5 x6 a0 a1 a2 a3 a4 g0 g1 g2 g3 g4 g5 g6 HC hu1; have HC := Lib.hid hc2; have hu1 := hu2; clear hc2 hu2; obtain ⟨⟨x0, x1, x2, x3, x4, x5, x6⟩, a0, a1, a2, a3, a4⟩ := HC.out.cells; obtain ⟨g0, g1, g2, g3, g4, g5, g6⟩ := HC.out.free)
            | (go_at_call 17; refine (delete_law (H.out.upd hu1 (fun _ _ h => h)) (nmOf x.a) (nmOf_le _) hN HS.out).mono ?_; rintro e ws ⟨rfl, G1, hi1, hsb1, hus1, hown1⟩; have hc2 := HC.out.upd hus1 (fun k ho => .inl (H.out.own_lt ho)); have H1 := Lib.hid hi1; have HT := Lib.hid ((hu1.mono (F' := G.own) (fun _ _ h => h.elim)).trans hus1 (fun _ _ h => h)); have HG : Hid (∀ k, G1.own k → G.own k ∨ w.heap.size + 3 ≤ k) := Lib.hid (fun k hk => (hown1 k hk).imp id (fun hkk => Nat.le_trans HC.out.size hkk)); have HR1 := Lib.hid (ref_after HR.out HT.out HG.out); have HSB := Lib.hid hsb1; have hu2 : Upd ws ws (fun _ => False) := Upd.refl _ _; clear hi1 hus1 hown1 hsb1; clear x0 x1 x2 x3 x4 x5 x6 a0 a1 a2 a3 a4 g0 g1 g2 g3 g4 g5 g6 HC hu1; have HC := Lib.hid hc2; have hu1 := hu2; clear hc2 hu2; obtain ⟨⟨x0, x1, x2, x3, x4, x5, x6⟩, a0, a1, a2, a3, a4⟩ := HC.out.cells; obtain ⟨g0, g1, g2, g3, g4, g5, g6⟩ := HC.out.free)
            | go_in)
    all_goals
    (try go_wp2_with fail)
    all_goals
    go_region_with (first | (go_at_call 23; refine (name_law x.a HXA.out.a _).mono ?_; rintro e wn ⟨rfl, hun⟩; have hun := ((Upd.refl _ (fun _ => False)).drew).trans hun (fun _ _ h => h); have hc2 := HC.out.upd hun (fun _ h => h.elim); have hu2 := hu1.trans hun (fun _ _ h => h); clear hun; clear x0 x1 x2 x3 x4 x5 x6 a0 a1 a2 a3 a4 g0 g1 g2 g3 g4 g5 g6 HC hu1; have HC := Lib.hid hc2; have hu1 := hu2; clear hc2 hu2; obtain ⟨⟨x0, x1, x2, x3, x4, x5, x6⟩, a0, a1, a2, a3, a4⟩ := HC.out.cells; obtain ⟨g0, g1, g2, g3, g4, g5, g6⟩ := HC.out.free) | (go_at_call 30; refine (delete_ref (HR1.out.upd hu1 (fun _ h => h.elim)) (fun k hk => by rcases hk with (hk | hk) | hk; exact Nat.lt_of_lt_of_le (H1.out.own_lt hk) hu1.size; have := HE.out k hk; have := HC.out.size; omega; have := HC.out.size; omega) (nmOf x.a) (by omega)).mono ?_; rintro e wr ⟨X1, n1, rfl, hok1, hur⟩; have hc2 := HC.out.upd hur (fun _ h => h.elim); have hu2 := hu1.trans hur (fun _ _ h => h); have HOK := Lib.hid hok1; clear hur hok1; rw [RSh.v_rv]; unfold rv; clear x0 x1 x2 x3 x4 x5 x6 a0 a1 a2 a3 a4 g0 g1 g2 g3 g4 g5 g6 HC hu1; have HC := Lib.hid hc2; have hu1 := hu2; clear hc2 hu2; obtain ⟨⟨x0, x1, x2, x3, x4, x5, x6⟩, a0, a1, a2, a3, a4⟩ := HC.out.cells; obtain ⟨g0, g1, g2, g3, g4, g5, g6⟩ := HC.out.free))
    all_goals
    go_wp2_with fail
    all_goals
    have h7 := HC.out.set7 (X1 := X1)
    go_simp
    go_meet
    exact mid_of H.out H1.out (by first | exact (doS_delete HKK.out).symm | rfl) HT.out HG.out HSB.out HOK.out (by omega) hu1 h7.1 h7.2
  case rest =>
    obtain ⟨X1, G1, e1, f1, rfl, rfl, hc, hi, hsb, hok, hu, hg⟩ := hcut
    clear x0 x1 x2 x3 x4 x5 x6 a0 a1 a2 a3 a4 g0 g1 g2 g3 g4 g5 g6 HC hu1
    obtain ⟨⟨x0, x1, x2, x3, x4, x5, x6⟩, a0, a1, a2, a3, a4⟩ := hc.cells
    have HC := Lib.hid hc
    have HI := Lib.hid hi
    have HSB := Lib.hid hsb
    have HOK := Lib.hid hok
    have HU := Lib.hid hu
    have HG := Lib.hid hg
    clear hc hi hsb hok hu hg
    go_wp2_with (first
            | (refine gate_st _ (.tmp 6) rfl ?_; refine wpList_box7 _ _ rfl rfl rfl (w.heap.size + 2) rfl rfl HC.out.hz rfl rfl rfl rfl rfl rfl rfl ?_; intro wz hz2 hy2; have HZ2 := Lib.hid hz2; have HY2 := Lib.hid hy2; clear hz2 hy2)
            | go_in)
    obtain ⟨⟨y0, y1, y2, y3, y4, y5, y6⟩, y7⟩ := box7 HY2.out
    exact bodyPost_ret (v := .tuple #[.agg #[.slice X1.la X1.L.length X1.lc, .slice X1.now.a X1.now.l.length X1.now.c, .slice X1.wa X1.was.length X1.wc, .int .i64 X1.room, .int .i64 X1.left, .bool X1.off, .int .i64 X1.done], .bool (e1 == f1)]) (by simp [results, Try.results12, go_sem, y0, y1, y2, y3, y4, y5, y6]) rfl
      ⟨X1, _, G1, by rw [RSh.v_rv]; rfl, HI.out.upd HZ2.out (fun k hk => (own_off H.out HG.out hk).2), HSB.out, (HOK.out.upd HZ2.out (fun k hk => .inr (by omega))).sub (fun k hk => .inl hk), HU.out.trans HZ2.out (fun k hk e => by omega), fun k hk => (HG.out k hk).imp id (fun h => by omega)⟩

set_option maxHeartbeats 8000000 in
set_option maxRecDepth 8000 in
theorem do_11 {w : World} {G : Gh} {S : Sh} {N : Nat} {E : Nat → Prop} {X : RSh} {x : LAct} (h : IsShelf w G S) (hs : SmallS S N) (hE : ∀ k, E k → k < w.heap.size) (hr : RefOk w (fun k => G.own k ∨ E k) N X) (hx : ActOk w x) (hpo : x.p = [] ∨ ∀ g, blockOf x.pa = some g → ¬ G.own g) (hN : N < 100) (hk : x.k % 12 = 11) :
    Calls Try.prog 12 #[.pointer (some ⟨G.sb, 0, none⟩), X.v, x.v] w (DoP w G S N E x) := by
  have H := Lib.hid h
  have HS := Lib.hid hs
  have HR := Lib.hid hr
  have HE := Lib.hid hE
  have HXA := Lib.hid hx
  have HPO := Lib.hid hpo
  have hkm : (x.k : Int) % 12 = 11 := by omega
  have hk1 : (0 : Int) ≤ x.k := by omega
  have hk2 : (x.k : Int) ≤ 255 := by have := hx.k; omega
  have hb1 : (0 : Int) ≤ x.b := by omega
  have hb2 : (x.b : Int) ≤ 255 := by have := hx.b; omega
  have hn1 := hx.n1
  have hn2 := hx.n2
  have HC := Lib.hid (do_box w X x)
  have hu1 := ((((Upd.refl w (fun _ => False)).alloc (.cells #[.slice X.la X.L.length X.lc, .slice X.now.a X.now.l.length X.now.c, .slice X.wa X.was.length X.wc, .int .i64 X.room, .int .i64 X.left, .bool X.off, .int .i64 X.done] 35)).alloc (.cells #[.int .u8 x.k, .int .u8 x.a, .int .u8 x.b, .int .i64 x.n, .slice x.pa x.p.length x.pc] 38)).alloc (.cells #[.slice none 0 0, .slice none 0 0, .slice none 0 0, .int .i64 0, .int .i64 0, .bool false, .int .i64 0] 35))
  obtain ⟨x0, x1, x2, x3, x4, x5, x6, a0, a1, a2, a3, a4, g0, g1, g2, g3, g4, g5, g6⟩ : True ∧ True ∧ True ∧ True ∧ True ∧ True ∧ True ∧ True ∧ True ∧ True ∧ True ∧ True ∧ True ∧ True ∧ True ∧ True ∧ True ∧ True ∧ True := by simp
  rw [RSh.v_rv]
  unfold rv LAct.v
  have HKK := Lib.hid hk
  clear h hs hr hx hk hpo hE
  go_enter Try.func12, Try.ntmps12
  go_upto_block 0 with fail
  go_cut [8, 9, 12] (fun e f _t wr => MidP w G S N E x e f wr)
  case first =>
    all_goals
    go_wp2_with (first
            | (go_at_call 13; refine (fall_calls (H.out.upd hu1 (fun _ _ h => h)) x.n x.b (by have h1 := HS.out.old; have h2 := HS.out.moves; unfold Big; omega)).mono ?_; rintro e ws ⟨rfl, G1, hi1, hsb1, hus1, hown1⟩; have hc2 := HC.out.upd hus1 (fun k ho => .inl (H.out.own_lt ho)); have H1 := Lib.hid hi1; have HT := Lib.hid ((hu1.mono (F' := G.own) (fun _ _ h => h.elim)).trans hus1 (fun _ _ h => h)); have HG : Hid (∀ k, G1.own k → G.own k ∨ w.heap.size + 3 ≤ k) := Lib.hid (fun k hk => (hown1 k hk).imp id (fun hkk => Nat.le_trans HC.out.size hkk)); have HR1 := Lib.hid (ref_after HR.out HT.out HG.out); have HSB := Lib.hid hsb1; have hu2 : Upd ws ws (fun _ => False) := Upd.refl _ _; clear hi1 hus1 hown1 hsb1; clear x0 x1 x2 x3 x4 x5 x6 a0 a1 a2 a3 a4 g0 g1 g2 g3 g4 g5 g6 HC hu1; have HC := Lib.hid hc2; have hu1 := hu2; clear hc2 hu2; obtain ⟨⟨x0, x1, x2, x3, x4, x5, x6⟩, a0, a1, a2, a3, a4⟩ := HC.out.cells; obtain ⟨g0, g1, g2, g3, g4, g5, g6⟩ := HC.out.free)
            | (go_at_call 35; refine (fall_ref (HR1.out.upd hu1 (fun _ h => h.elim)) (fun k hk => by rcases hk with (hk | hk) | hk; exact Nat.lt_of_lt_of_le (H1.out.own_lt hk) hu1.size; have := HE.out k hk; have := HC.out.size; omega; have := HC.out.size; omega) x.n x.b (by omega)).mono ?_; rintro e wr ⟨X1, rfl, hok1, hur⟩; have hc2 := HC.out.upd hur (fun _ h => h.elim); have hu2 := hu1.trans hur (fun _ _ h => h); have HOK := Lib.hid hok1; clear hur hok1; rw [RSh.v_rv]; unfold rv; clear x0 x1 x2 x3 x4 x5 x6 a0 a1 a2 a3 a4 g0 g1 g2 g3 g4 g5 g6 HC hu1; have HC := Lib.hid hc2; have hu1 := hu2; clear hc2 hu2; obtain ⟨⟨x0, x1, x2, x3, x4, x5, x6⟩, a0, a1, a2, a3, a4⟩ := HC.out.cells; obtain ⟨g0, g1, g2, g3, g4, g5, g6⟩ := HC.out.free)
            | go_in)
    all_goals
    go_wp2_with fail
    all_goals
    have h7 := HC.out.set7 (X1 := X1)
    go_simp
    go_meet
    exact mid_of H.out H1.out (by first | exact (doS_fall HKK.out).symm | rfl) HT.out HG.out HSB.out HOK.out (by omega) hu1 h7.1 h7.2
  case rest =>
    obtain ⟨X1, G1, e1, f1, rfl, rfl, hc, hi, hsb, hok, hu, hg⟩ := hcut
    clear x0 x1 x2 x3 x4 x5 x6 a0 a1 a2 a3 a4 g0 g1 g2 g3 g4 g5 g6 HC hu1
    obtain ⟨⟨x0, x1, x2, x3, x4, x5, x6⟩, a0, a1, a2, a3, a4⟩ := hc.cells
    have HC := Lib.hid hc
    have HI := Lib.hid hi
    have HSB := Lib.hid hsb
    have HOK := Lib.hid hok
    have HU := Lib.hid hu
    have HG := Lib.hid hg
    clear hc hi hsb hok hu hg
    go_wp2_with (first
            | (refine gate_st _ (.tmp 6) rfl ?_; refine wpList_box7 _ _ rfl rfl rfl (w.heap.size + 2) rfl rfl HC.out.hz rfl rfl rfl rfl rfl rfl rfl ?_; intro wz hz2 hy2; have HZ2 := Lib.hid hz2; have HY2 := Lib.hid hy2; clear hz2 hy2)
            | go_in)
    obtain ⟨⟨y0, y1, y2, y3, y4, y5, y6⟩, y7⟩ := box7 HY2.out
    exact bodyPost_ret (v := .tuple #[.agg #[.slice X1.la X1.L.length X1.lc, .slice X1.now.a X1.now.l.length X1.now.c, .slice X1.wa X1.was.length X1.wc, .int .i64 X1.room, .int .i64 X1.left, .bool X1.off, .int .i64 X1.done], .bool (e1 == f1)]) (by simp [results, Try.results12, go_sem, y0, y1, y2, y3, y4, y5, y6]) rfl
      ⟨X1, _, G1, by rw [RSh.v_rv]; rfl, HI.out.upd HZ2.out (fun k hk => (own_off H.out HG.out hk).2), HSB.out, (HOK.out.upd HZ2.out (fun k hk => .inr (by omega))).sub (fun k hk => .inl hk), HU.out.trans HZ2.out (fun k hk e => by omega), fun k hk => (HG.out k hk).imp id (fun h => by omega)⟩

set_option maxHeartbeats 8000000 in
set_option maxRecDepth 8000 in
theorem do_9 {w : World} {G : Gh} {S : Sh} {N : Nat} {E : Nat → Prop} {X : RSh} {x : LAct} (h : IsShelf w G S) (hs : SmallS S N) (hE : ∀ k, E k → k < w.heap.size) (hr : RefOk w (fun k => G.own k ∨ E k) N X) (hx : ActOk w x) (hpo : x.p = [] ∨ ∀ g, blockOf x.pa = some g → ¬ G.own g) (hN : N < 100) (hk : x.k % 12 = 9) :
    Calls Try.prog 12 #[.pointer (some ⟨G.sb, 0, none⟩), X.v, x.v] w (DoP w G S N E x) := by
  have H := Lib.hid h
  have HS := Lib.hid hs
  have HR := Lib.hid hr
  have HE := Lib.hid hE
  have HXA := Lib.hid hx
  have HPO := Lib.hid hpo
  have hkm : (x.k : Int) % 12 = 9 := by omega
  have hk1 : (0 : Int) ≤ x.k := by omega
  have hk2 : (x.k : Int) ≤ 255 := by have := hx.k; omega
  have hb1 : (0 : Int) ≤ x.b := by omega
  have hb2 : (x.b : Int) ≤ 255 := by have := hx.b; omega
  have hn1 := hx.n1
  have hn2 := hx.n2
  have HC := Lib.hid (do_box w X x)
  have hu1 := ((((Upd.refl w (fun _ => False)).alloc (.cells #[.slice X.la X.L.length X.lc, .slice X.now.a X.now.l.length X.now.c, .slice X.wa X.was.length X.wc, .int .i64 X.room, .int .i64 X.left, .bool X.off, .int .i64 X.done] 35)).alloc (.cells #[.int .u8 x.k, .int .u8 x.a, .int .u8 x.b, .int .i64 x.n, .slice x.pa x.p.length x.pc] 38)).alloc (.cells #[.slice none 0 0, .slice none 0 0, .slice none 0 0, .int .i64 0, .int .i64 0, .bool false, .int .i64 0] 35))
  obtain ⟨x0, x1, x2, x3, x4, x5, x6, a0, a1, a2, a3, a4, g0, g1, g2, g3, g4, g5, g6⟩ : True ∧ True ∧ True ∧ True ∧ True ∧ True ∧ True ∧ True ∧ True ∧ True ∧ True ∧ True ∧ True ∧ True ∧ True ∧ True ∧ True ∧ True ∧ True := by simp
  rw [RSh.v_rv]
  unfold rv LAct.v
  have HKK := Lib.hid hk
  clear h hs hr hx hk hpo hE
  go_enter Try.func12, Try.ntmps12

  have HT9 := Lib.hid (tmod12 x.n)
  go_upto_block 0 with fail
  go_cut [8, 9, 12] (fun e f _t wr => MidP w G S N E x e f wr)
  case first =>
    go_upto_if 155 with (go_at_call 33; refine (arm_calls (H.out.upd hu1 (fun _ _ h => h)) (x.n.tmod 12) (by have := HT9.out; omega)).mono ?_; rintro e ws ⟨rfl, G1, hi1, hsb1, hus1, hown1⟩; have hc2 := HC.out.upd hus1 (fun k ho => .inl (H.out.own_lt ho)); have H1 := Lib.hid hi1; have HT := Lib.hid ((hu1.mono (F' := G.own) (fun _ _ h => h.elim)).trans hus1 (fun _ _ h => h)); have HG : Hid (∀ k, G1.own k → G.own k ∨ w.heap.size + 3 ≤ k) := Lib.hid (fun k hk => (hown1 k hk).imp id (fun hkk => Nat.le_trans HC.out.size hkk)); have HR1 := Lib.hid (ref_after HR.out HT.out HG.out); have HSB := Lib.hid hsb1; have hu2 : Upd ws ws (fun _ => False) := Upd.refl _ _; clear hi1 hus1 hown1 hsb1; clear x0 x1 x2 x3 x4 x5 x6 a0 a1 a2 a3 a4 g0 g1 g2 g3 g4 g5 g6 HC hu1; have HC := Lib.hid hc2; have hu1 := hu2; clear hc2 hu2; obtain ⟨⟨x0, x1, x2, x3, x4, x5, x6⟩, a0, a1, a2, a3, a4⟩ := HC.out.cells; obtain ⟨g0, g1, g2, g3, g4, g5, g6⟩ := HC.out.free)
    have hdo := Lib.hid (show ({S with left := max (x.n.tmod 12) (-1)} : Sh) = doS S x by unfold doS; simp [HKK.out])
    have h1 := Lib.hid (HC.out.set4 (x.n.tmod 12))
    have h2 := Lib.hid (h1.out.2.set4 (-1))
    by_cases hneg : x.n.tmod 12 < 0
    · go_wp2_with fail
      go_meet
      exact mid_of H.out H1.out hdo.out HT.out HG.out HSB.out (HR1.out.acted (Upd.refl _ _) (l := -1) (by omega) X.off X.done) (by omega) (Upd.refl _ _) (h1.out.1.trans h2.out.1 (fun _ _ h => h)) h2.out.2
    · go_wp2_with fail
      go_meet
      exact mid_of H.out H1.out hdo.out HT.out HG.out HSB.out (HR1.out.acted (Upd.refl _ _) (l := x.n.tmod 12) (by have := HT9.out; omega) X.off X.done) (by omega) (Upd.refl _ _) h1.out.1 h1.out.2
  case rest =>
    obtain ⟨X1, G1, e1, f1, rfl, rfl, hc, hi, hsb, hok, hu, hg⟩ := hcut
    clear x0 x1 x2 x3 x4 x5 x6 a0 a1 a2 a3 a4 g0 g1 g2 g3 g4 g5 g6 HC hu1
    obtain ⟨⟨x0, x1, x2, x3, x4, x5, x6⟩, a0, a1, a2, a3, a4⟩ := hc.cells
    have HC := Lib.hid hc
    have HI := Lib.hid hi
    have HSB := Lib.hid hsb
    have HOK := Lib.hid hok
    have HU := Lib.hid hu
    have HG := Lib.hid hg
    clear hc hi hsb hok hu hg
    go_wp2_with (first
            | (refine gate_st _ (.tmp 6) rfl ?_; refine wpList_box7 _ _ rfl rfl rfl (w.heap.size + 2) rfl rfl HC.out.hz rfl rfl rfl rfl rfl rfl rfl ?_; intro wz hz2 hy2; have HZ2 := Lib.hid hz2; have HY2 := Lib.hid hy2; clear hz2 hy2)
            | go_in)
    obtain ⟨⟨y0, y1, y2, y3, y4, y5, y6⟩, y7⟩ := box7 HY2.out
    exact bodyPost_ret (v := .tuple #[.agg #[.slice X1.la X1.L.length X1.lc, .slice X1.now.a X1.now.l.length X1.now.c, .slice X1.wa X1.was.length X1.wc, .int .i64 X1.room, .int .i64 X1.left, .bool X1.off, .int .i64 X1.done], .bool (e1 == f1)]) (by simp [results, Try.results12, go_sem, y0, y1, y2, y3, y4, y5, y6]) rfl
      ⟨X1, _, G1, by rw [RSh.v_rv]; rfl, HI.out.upd HZ2.out (fun k hk => (own_off H.out HG.out hk).2), HSB.out, (HOK.out.upd HZ2.out (fun k hk => .inr (by omega))).sub (fun k hk => .inl hk), HU.out.trans HZ2.out (fun k hk e => by omega), fun k hk => (HG.out k hk).imp id (fun h => by omega)⟩

end Go.Proofs.Ytpmbeeddciepjaa
