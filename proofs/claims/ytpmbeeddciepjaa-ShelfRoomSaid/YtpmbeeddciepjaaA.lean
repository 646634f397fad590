/- Words for a heap in which a call owns some blocks: what has turned (Upd), slices that own a row (Row) or can be read (Rd), append by these. -/
import Derived.WalkKit
import Derived.WalkSpells
import Derived.Maps.RangeWalk
import Derived.Maps.OwnSet
import Derived.Deep.Draws
namespace Go.Proofs.Ytpmbeeddciepjaa
open Go.RowKit Go.Maps

/-- As long as a slice, or as many as a map's entries, may become here. -/
def Big : Nat := 1099511627776

/-- From w to w' nothing has turned but blocks of F, and new ones. -/
structure Upd (w w' : World) (F : Nat → Prop) : Prop where
  os : w'.os = w.os
  tape : w'.tape = w.tape
  output : w'.output = w.output
  size : w.heap.size ≤ w'.heap.size
  block : ∀ k, k < w.heap.size → ¬ F k → w'.heap[k]? = w.heap[k]?

namespace Upd
variable {w w' w'' : World} {F F' : Nat → Prop}
theorem refl (w : World) (F : Nat → Prop) : Upd w w F := ⟨rfl, rfl, rfl, Nat.le_refl _, fun _ _ _ => rfl⟩
theorem mono (h : Upd w w' F) (hF : ∀ k, k < w.heap.size → F k → F' k) : Upd w w' F' :=
  ⟨h.os, h.tape, h.output, h.size, fun k hk hn => h.block k hk (fun hf => hn (hF k hk hf))⟩
theorem trans (h : Upd w w' F) (h' : Upd w' w'' F') (hF : ∀ k, k < w.heap.size → F' k → F k) : Upd w w'' F :=
  ⟨h'.os.trans h.os, h'.tape.trans h.tape, h'.output.trans h.output, Nat.le_trans h.size h'.size,
   fun k hk hn => (h'.block k (Nat.lt_of_lt_of_le hk h.size) (fun hf => hn (hF k hk hf))).trans (h.block k hk hn)⟩
theorem drew (h : Upd w w' F) : Upd w w'.drew F := ⟨h.os, h.tape, h.output, h.size, h.block⟩
theorem drewN (h : Upd w w' F) (n : Nat) : Upd w (w'.drewN n) F := ⟨h.os, h.tape, h.output, h.size, h.block⟩
theorem alloc (h : Upd w w' F) (o : Obj) : Upd w (w'.alloc o) F :=
  ⟨h.os, h.tape, h.output, by have := h.size; simp; omega, fun k hk hn => (Below.heap_alloc _ _ _ (Nat.lt_of_lt_of_le hk h.size)).trans (h.block k hk hn)⟩
theorem setCell (h : Upd w w' F) {p : Addr} (hp : F p.block ∨ w.heap.size ≤ p.block) (u : Value) : Upd w (w'.setCell p u) F :=
  ⟨h.os, h.tape, h.output, by simpa [World.setCell] using h.size, fun k hk hn => (Below.heap_setCell _ _ _ _ (by
    rintro rfl
    rcases hp with hp | hp
    · exact hn hp
    · omega)).trans (h.block k hk hn)⟩
theorem put (h : Upd w w' F) {b i : Nat} {u : Value} (hp : F b ∨ w.heap.size ≤ b) : Upd w (w'.setCell ⟨b, i, none⟩ u) F := h.setCell (p := ⟨b, i, none⟩) hp u
theorem of_below (h : Below w.heap.size w w') (F : Nat → Prop) : Upd w w' F := ⟨h.os, h.tape, h.output, h.size, fun k hk _ => h.block k hk⟩
theorem of_grown {row : Option Nat} (h : w.grownBy w' row) (hF : ∀ k, row = some k → F k) : Upd w w' F :=
  ⟨h.os, h.tape, h.output, h.size, fun k hk hn => h.block k hk (fun e => hn (hF k e.symm))⟩
theorem below (h : Upd w w' F) (hF : ∀ k, k < w.heap.size → ¬ F k) : Below w.heap.size w w' := ⟨h.os, h.tape, h.output, h.size, fun k hk => h.block k hk (hF k hk)⟩
theorem cell (h : Upd w w' F) {p : Addr} (hp : p.block < w.heap.size) (hn : ¬ F p.block) : w'.cell? p = w.cell? p := World.cell?_of_block (w := w) (h.block p.block hp hn)
theorem heap (h : Upd w w' F) {b : Nat} {o : Obj} (hb : w.heap[b]? = some o) (hn : ¬ F b) : w'.heap[b]? = some o :=
  (h.block b (Array.getElem?_eq_some_iff.1 hb).1 hn).trans hb
end Upd

theorem lt_of_heap {w : World} {b : Nat} {o : Obj} (hb : w.heap[b]? = some o) : b < w.heap.size := (Array.getElem?_eq_some_iff.1 hb).1
theorem cell_of_heap {w : World} {b : Nat} {cs : Array Value} {e : TypeId} {f : Nat × Nat} (hb : w.heap[b]? = some (.cells cs e f)) (i : Nat) : w.cell? ⟨b, i, none⟩ = cs[i]? := by
  simp [World.cell?, hb]
theorem free_of_heap {w : World} {b : Nat} {cs : Array Value} {e : TypeId} (hb : w.heap[b]? = some (.cells cs e (0, 0))) (i : Nat) : w.frozen? ⟨b, i, none⟩ = false := by
  simp [World.frozen?, hb]
theorem heap_setCell_same {w : World} {b i : Nat} {cs : Array Value} {e : TypeId} {f : Nat × Nat} (hb : w.heap[b]? = some (.cells cs e f)) (v : Value) :
    (w.setCell ⟨b, i, none⟩ v).heap[b]? = some (.cells (cs.setIfInBounds i v) e f) := by
  simp [World.setCell, Array.getElem?_modify, hb]

/-- A slice's value (its address, length and capacity) that owns a row of cells, from the row's head on. -/
def Row (w : World) (e : TypeId) (size : Nat) (a : Option Addr) (n cap : Nat) (xs : List Value) : Prop :=
  xs.length = n * size ∧ ((a = none ∧ n = 0 ∧ cap = 0) ∨
    ∃ g cur, a = some ⟨g, 0, none⟩ ∧ w.heap[g]? = some (.cells cur e (0, 0)) ∧ n ≤ cap ∧ cap ≤ maxLen ∧ cap * size ≤ cur.size ∧ cur.toList.take (n * size) = xs)
/-- A slice's elements can be read. -/
def Rd (w : World) (size : Nat) (a : Option Addr) (n : Nat) (xs : List Value) : Prop :=
  xs.length = n * size ∧ ∀ j u, xs[j]? = some u → ∃ ad, a = some ad ∧ ad.block < w.heap.size ∧ w.cell? (ad.add j) = some u

def blockOf (a : Option Addr) : Option Nat := a.map (·.block)

theorem Row.nil (w : World) (e size : Nat) : Row w e size none 0 0 [] := ⟨by simp, .inl ⟨rfl, rfl, rfl⟩⟩
theorem Row.lt {w : World} {e size n cap g : Nat} {a : Option Addr} {xs : List Value} (h : Row w e size a n cap xs) (hg : blockOf a = some g) : g < w.heap.size := by
  rcases h.2 with ⟨rfl, _⟩ | ⟨g', cur, rfl, hb, _⟩
  · simp [blockOf] at hg
  · simp [blockOf] at hg; subst hg; exact lt_of_heap hb
theorem Row.upd {w w' : World} {e size n cap : Nat} {a : Option Addr} {xs : List Value} {F : Nat → Prop} (h : Row w e size a n cap xs) (hu : Upd w w' F) (hn : ∀ g, blockOf a = some g → ¬ F g) : Row w' e size a n cap xs := by
  refine ⟨h.1, ?_⟩
  rcases h.2 with h2 | ⟨g, cur, rfl, hb, r⟩
  · exact .inl h2
  · exact .inr ⟨g, cur, rfl, hu.heap hb (hn g rfl), r⟩
theorem Row.rd {w : World} {e size n cap : Nat} {a : Option Addr} {xs : List Value} (h : Row w e size a n cap xs) : Rd w size a n xs := by
  refine ⟨h.1, fun j u hu => ?_⟩
  rcases h.2 with ⟨_, rfl, _⟩ | ⟨g, cur, rfl, hb, _, _, _, ht⟩
  · have := h.1; simp at this; subst this; simp at hu
  · refine ⟨_, rfl, lt_of_heap hb, ?_⟩
    rw [Addr.add_lit, cell_of_heap hb]
    rw [← ht, List.getElem?_take] at hu
    split at hu
    · simpa using hu
    · cases hu
theorem Rd.upd {w w' : World} {size n : Nat} {a : Option Addr} {xs : List Value} {F : Nat → Prop} (h : Rd w size a n xs) (hu : Upd w w' F) (hn : ∀ g, blockOf a = some g → g < w.heap.size → ¬ F g) : Rd w' size a n xs := by
  refine ⟨h.1, fun j u hj => ?_⟩
  obtain ⟨ad, rfl, hb, hc⟩ := h.2 j u hj
  have hk : (ad.add j).block = ad.block := by unfold Addr.add; split <;> rfl
  exact ⟨ad, rfl, Nat.lt_of_lt_of_le hb hu.size, by rw [hu.cell (by rw [hk]; exact hb) (by rw [hk]; exact hn _ rfl hb)]; exact hc⟩
theorem Rd.drew {w : World} {size n : Nat} {a : Option Addr} {xs : List Value} (h : Rd w size a n xs) : Rd w.drew size a n xs := h
theorem Row.cap {w : World} {e size n cap : Nat} {a : Option Addr} {xs : List Value} (h : Row w e size a n cap xs) : n ≤ cap := by
  rcases h.2 with ⟨_, rfl, rfl⟩ | ⟨g, cur, rfl, hb, h1, _⟩
  · exact Nat.le_refl _
  · exact h1

theorem Rd.new (w : World) (size n : Nat) (cs : Array Value) (e : TypeId) (hl : cs.size = n * size) : Rd (w.alloc (.cells cs e)) size (some ⟨w.heap.size, 0, none⟩) n cs.toList := by
  refine ⟨by simpa using hl, fun j u hu => ⟨_, rfl, by simp, ?_⟩⟩
  rw [Addr.add_lit, cell_of_heap (heap_alloc_new w _)]
  simpa using hu

/-- The length and the capacity are made less: 'x[:m:k]'. -/
theorem Row.cut {w : World} {e size n cap : Nat} {a : Option Addr} {xs : List Value} (h : Row w e size a n cap xs) {m k : Nat} (hm : m ≤ n) (hmk : m ≤ k) (hk : k ≤ cap) : Row w e size a m k (xs.take (m * size)) := by
  have hms : m * size ≤ n * size := Nat.mul_le_mul_right _ hm
  refine ⟨by rw [List.length_take, h.1]; omega, ?_⟩
  rcases h.2 with ⟨rfl, rfl, rfl⟩ | ⟨g, cur, rfl, hb, h1, h2, h3, h4⟩
  · exact .inl ⟨rfl, by omega, by omega⟩
  · exact .inr ⟨g, cur, rfl, hb, hmk, by omega, Nat.le_trans (Nat.mul_le_mul_right _ hk) h3, by rw [← h4, List.take_take, Nat.min_eq_left hms]⟩

section
variable {P : Program}
theorem run_append_row (w : World) (t ty e : TypeId) (i : TypeInfo) (z : Value) (size bytes : Nat) (ht : P.underlying t = some (.slice e)) (hi : P.info? e = some i) (hz : i.zero = some z)
    (hsize : i.size = size) (hby : i.bytes = bytes) (hzs : z.cells.size = size) (hsz : 0 < size)
    {a : Option Addr} {n cap : Nat} {xs : List Value} (hr : Row w e size a n cap xs) {b : Option Addr} {m : Nat} (c : Nat) {news : List Value} (hs : Rd w size b m news) (h1 : ∀ u ∈ news, u.oneCell' = true)
    (hn : n + m ≤ Big) (hb : bytes ≤ 128) :
    ∃ a' cap' w', (Builtin.append_ #[t, t] ty #[.slice a n cap, .slice b m c]).run P w = .ok (.slice a' (n + m) cap') w' ∧ Row w' e size a' (n + m) cap' (xs ++ news) ∧
      Upd w w' (fun k => blockOf a = some k) ∧ ((a' = a ∧ (a = none → m = 0)) ∨ (a' = some ⟨w.heap.size, 0, none⟩ ∧ w'.heap.size = w.heap.size + 1)) := by
  unfold Big at hn
  subst hsize
  subst hby
  have hnb : (n + m) * i.bytes ≤ 140737488355328 := Nat.le_trans (Nat.mul_le_mul hn hb) (by decide)
  have hmx : n + m ≤ maxLen := by unfold maxLen; omega
  have hlen : (xs ++ news).length = (n + m) * i.size := by rw [List.length_append, hr.1, hs.1, Nat.add_mul]
  have grown : ∀ (old : Nat), old < n + m →
      Row (w.drew.alloc (.cells (xs.toArray ++ news.toArray ++ Builtin.zeroCells z.cells (grownCap w (n + m) old e - (n + m))) e)) e i.size (some ⟨w.heap.size, 0, none⟩) (n + m) (grownCap w (n + m) old e) (xs ++ news) := by
    intro old ho
    have hge := grownCap_ge w (n + m) old e
    have hcm : grownCap w (n + m) old e ≤ maxLen := grownCap_le_maxLen w (n + m) old e hmx
    refine ⟨hlen, .inr ⟨w.heap.size, _, rfl, heap_alloc_new w.drew _, hge, hcm, ?_, ?_⟩⟩
    · simp only [Array.size_append, List.size_toArray, size_zeroCells, hzs, hr.1, hs.1, ← Nat.add_mul]
      refine Nat.le_of_eq ?_
      congr 1
      omega
    · simp only [Array.toList_append, List.append_assoc]
      rw [← List.append_assoc, ← hlen]
      exact List.take_left
  have updn : ∀ (x : Obj), Upd w (w.drew.alloc x) (fun k => blockOf a = some k) := fun x => (Upd.refl w _).drew.alloc x
  cases b with
  | none =>
    have hnil : news = [] := by
      match news, hs.2 with
      | [], _ => rfl
      | u :: l, h2 => obtain ⟨ad, h, _⟩ := h2 0 u rfl; cases h
    subst hnil
    have hm : m = 0 := by
      rcases Nat.mul_eq_zero.1 (hs.1.symm.trans List.length_nil) with h | h
      · exact h
      · omega
    subst hm
    refine ⟨a, cap, w, ?_, by simpa using hr, Upd.refl _ _, .inl ⟨rfl, fun _ => rfl⟩⟩
    have hcap := hr.cap
    cases a <;> simp [Builtin.append_, run_underlying ht, sizeOf, typeInfo, hi, Builtin.lenOf, Builtin.firstCells, hcap, storeCells]
  | some ad =>
    have hnews : ∀ j u, news[j]? = some u → w.cell? (ad.add j) = some u := fun j u hu => by
      obtain ⟨ad', h, _, hc⟩ := hs.2 j u hu
      cases h
      exact hc
    rcases hr.2 with ⟨rfl, rfl, rfl⟩ | ⟨g, cur, rfl, hg, hnc, hcm, hcs, htake⟩
    · have hx : xs = [] := List.eq_nil_of_length_eq_zero (by simpa using hr.1)
      subst hx
      by_cases hm : m = 0
      · subst hm
        have hnn : news = [] := List.eq_nil_of_length_eq_zero (by simpa using hs.1)
        subst hnn
        refine ⟨none, 0, w, ?_, Row.nil w e i.size, Upd.refl _ _, .inl ⟨rfl, fun _ => rfl⟩⟩
        simp [Builtin.append_, run_underlying ht, sizeOf, typeInfo, hi, Builtin.lenOf, Builtin.firstCells, loadCells, loadCellsFrom]
      · have hrn := run_append_nil (P := P) w t ty e i z ht hi hz ad m c news hs.1 hnews (by omega) (by omega) (by simp only [Nat.zero_add] at hnb; omega)
        have hgr := grown 0 (by omega)
        simp only [Nat.zero_add, List.nil_append, Array.empty_append] at hgr ⊢
        exact ⟨_, _, _, hrn, hgr, updn _, .inr ⟨rfl, by simp⟩⟩
    · by_cases hroom : n + m ≤ cap
      · have hfit : n * i.size + news.length ≤ cur.size := by rw [hs.1, ← Nat.add_mul]; exact Nat.le_trans (Nat.mul_le_mul_right _ hroom) hcs
        have hrr := run_append_room (P := P) w t ty e i ht hi g n cap cur hg ad m c news hs.1 hnews h1 hroom hfit
        refine ⟨_, _, _, hrr, ⟨hlen, .inr ⟨g, _, rfl, setRow_heap w g cur _ e _ hg, hroom, hcm, ?_, ?_⟩⟩, ⟨rfl, rfl, rfl, by simp, fun k _ hk => setRow_other w g k _ (fun e => hk (by simp [blockOf, e]))⟩, .inl ⟨rfl, fun h => by cases h⟩⟩
        · simp only [List.size_toArray, List.length_append, List.length_take, List.length_drop, Array.length_toList]
          omega
        · rw [htake, ← hlen]
          exact List.take_left
      · have holds : ∀ j u, xs[j]? = some u → w.cell? ((⟨g, 0, none⟩ : Addr).add j) = some u := fun j u hu => by
          obtain ⟨ad', h, _, hc⟩ := hr.rd.2 j u hu
          cases h
          exact hc
        have hrg := run_append_grow (P := P) w t ty e i z ht hi hz ⟨g, 0, none⟩ n cap xs hr.1 holds ad m c news hs.1 hnews (by omega) (by unfold maxLen at hmx; omega) (growslice_fits (by omega) hnb)
        exact ⟨_, _, _, hrg, grown cap (by omega), updn _, .inr ⟨rfl, by simp⟩⟩

theorem wpList_append_row {w : World} {ops : Array Oper} {rest : List Oper} {o : Oper} {a : Act} {Q : Exit → Act → World → Prop} (hgd : o.guard = none) (s x : Operand) (t : TypeId)
    (ho : o.op = .call { callee := .builtin .append, args := #[s, x], argTypes := #[t, t] })
    (e : TypeId) (i : TypeInfo) (z : Value) (size bytes : Nat) (ht : P.underlying t = some (.slice e)) (hi : P.info? e = some i) (hz : i.zero = some z)
    (hsize : i.size = size) (hby : i.bytes = bytes) (hzs : z.cells.size = size) (hsz : 0 < size)
    (ad : Option Addr) (n cap : Nat) (xs : List Value) (hs : a.eval s = .slice ad n cap) (hr : Row w e size ad n cap xs)
    (bd : Option Addr) (m c : Nat) (news : List Value) (hx : a.eval x = .slice bd m c) (hrd : Rd w size bd m news) (h1 : ∀ u ∈ news, u.oneCell' = true)
    (hn : n + m ≤ Big) (hb : bytes ≤ 128)
    (h : ∀ a' cap' w', Row w' e size a' (n + m) cap' (xs ++ news) → Upd w w' (fun k => blockOf ad = some k) → ((a' = ad ∧ (ad = none → m = 0)) ∨ (a' = some ⟨w.heap.size, 0, none⟩ ∧ w'.heap.size = w.heap.size + 1)) →
      wpList P ops Q rest (a.put o.dst (.slice a' (n + m) cap')) w') : wpList P ops Q (o :: rest) a w := by
  refine wpList_plain hgd fun K hK => ?_
  obtain ⟨a', cap', w', hrun, h2, h3, h4⟩ := run_append_row (P := P) w t o.type e i z size bytes ht hi hz hsize hby hzs hsz hr c hrd h1 hn hb
  unfold Oper.wp execOp
  simp only [ho, resolve, invoke, builtin, Sem.run_bind, Sem.run_pure, Result.andThen_ok, List.map_toArray, List.map_cons, List.map_nil, hs, hx, hrun]
  exact hK _ _ (h a' cap' w' h2 h3 h4)
end
end Go.Proofs.Ytpmbeeddciepjaa
