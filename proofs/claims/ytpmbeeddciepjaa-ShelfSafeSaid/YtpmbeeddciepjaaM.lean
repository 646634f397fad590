/- A set of pointers, as a map from pointers to bools: what it tells, asked and written. -/
import Derived.Test.YtpmbeeddciepjaaL
import Derived.LaidEqlPtr
namespace Go.Proofs.Ytpmbeeddciepjaa
open Go.RowKit Go.Maps
set_option linter.unusedSimpArgs false
set_option linter.unusedVariables false

def optPtr : Option Nat → Value
  | none => .pointer none
  | some b => .pointer (some ⟨b, 0, none⟩)
/-- A block that a pointer leads to, and that no string shares. -/
def Solid (w : World) (x : Option Nat) : Prop := ∀ b, x = some b → ∃ cs e, w.heap[b]? = some (.cells cs e (0, 0))
/-- Block b is a map of pointers: those of l, each to true. -/
def SeenIs (w : World) (b : Nat) (l : List (Option Nat)) : Prop := ∃ es clock, w.heap[b]? = some (.map es clock) ∧ es.toList.map (fun e => (e.key, e.val)) = l.map (fun x => (optPtr x, Value.bool true))

section
variable {P : Program} {tk tb te t : TypeId} {w : World}
theorem run_equalIn_ptr {j : TypeInfo} (hp : P.underlying tk = some (.pointer tb)) (hte : P.info? tb = some j) (hsz : j.size ≠ 0) (x y : Option Nat) (hx : Solid w x) (hy : Solid w y) (d : Nat) :
    (Op.equalIn (d + 1) tk (optPtr x) (optPtr y)).run P w = .ok (decide (x = y)) w := by
  cases x with
  | none => cases y <;> simp [optPtr, Op.equalIn, run_underlying hp, sizeOf, typeInfo, hte, hsz, samePointer]
  | some a =>
    cases y with
    | none => simp [optPtr, Op.equalIn, run_underlying hp, sizeOf, typeInfo, hte, hsz, samePointer]
    | some b =>
      by_cases hab : a = b
      · subst hab
        simp [optPtr, Op.equalIn, run_underlying hp, sizeOf, typeInfo, hte, hsz, samePointer, run_sameAddr_same]
      · obtain ⟨c1, e1, h1⟩ := hx a rfl
        obtain ⟨c2, e2, h2⟩ := hy b rfl
        have hne : (⟨a, 0, none⟩ : Addr) ≠ ⟨b, 0, none⟩ := fun e => hab (by injection e)
        simp [optPtr, Op.equalIn, run_underlying hp, sizeOf, typeInfo, hte, hsz, samePointer, run_sameAddr_other w hne h1 h2, hab]
theorem run_equal_ptr {j : TypeInfo} (hp : P.underlying tk = some (.pointer tb)) (hte : P.info? tb = some j) (hsz : j.size ≠ 0) (x y : Option Nat) (hx : Solid w x) (hy : Solid w y) :
    (Op.equal tk (optPtr x) (optPtr y)).run P w = .ok (decide (x = y)) w := by
  have h := run_equalIn_ptr (P := P) (w := w) hp hte hsz x y hx hy 9999
  unfold Op.equal Op.maxDepth
  exact h

theorem run_findAsking_seen {j : TypeInfo} (hp : P.underlying tk = some (.pointer tb)) (hte : P.info? tb = some j) (hsz : j.size ≠ 0) (x : Option Nat) (hx : Solid w x) :
    ∀ (es : List MapEntry) (l : List (Option Nat)) (i : Nat), es.map (fun e => (e.key, e.val)) = l.map (fun x => (optPtr x, Value.bool true)) → (∀ y ∈ l, Solid w y) →
      (x ∈ l → ∃ k, (Instr.findAsking tk (optPtr x) es i).run P w = .ok (some (k, .bool true)) w) ∧ (x ∉ l → (Instr.findAsking tk (optPtr x) es i).run P w = .ok none w)
  | [], l, i, he, _ => by
    cases l with
    | nil => exact ⟨(fun h => nomatch h), (fun _ => by simp [Instr.findAsking])⟩
    | cons y r => simp at he
  | e :: es, l, i, he, hl => by
    cases l with
    | nil => simp at he
    | cons y r =>
      simp only [List.map_cons, List.cons.injEq, Prod.mk.injEq] at he
      obtain ⟨⟨hk, hv⟩, he⟩ := he
      have heq := run_equal_ptr (P := P) (w := w) hp hte hsz x y hx (hl y (by simp))
      have ih := run_findAsking_seen hp hte hsz x hx es r (i + 1) he (fun z hz => hl z (by simp [hz]))
      by_cases hxy : x = y
      · have hd : decide (x = y) = true := by simpa using hxy
        rw [hd] at heq
        refine ⟨fun _ => ⟨i, ?_⟩, fun h => absurd (by simp [hxy]) h⟩
        simp [Instr.findAsking, hk, hv, heq]
      · have hd : decide (x = y) = false := by simpa using hxy
        rw [hd] at heq
        refine ⟨fun h => ?_, fun h => ?_⟩
        · obtain ⟨k, hk'⟩ := ih.1 (by simpa [hxy] using h)
          exact ⟨k, by simp [Instr.findAsking, hk, heq, hk']⟩
        · simp [Instr.findAsking, hk, heq, ih.2 (by simpa [hxy] using h)]

theorem run_findKey_seen {j : TypeInfo} (hp : P.underlying tk = some (.pointer tb)) (hte : P.info? tb = some j) (hsz : j.size ≠ 0) (x : Option Nat) (hx : Solid w x)
    (es : List MapEntry) (l : List (Option Nat)) (he : es.map (fun e => (e.key, e.val)) = l.map (fun x => (optPtr x, Value.bool true))) (hl : ∀ y ∈ l, Solid w y) :
    (x ∈ l → ∃ k, (Instr.findKey tk (optPtr x) es).run P w = .ok (some (k, .bool true)) w) ∧ (x ∉ l → (Instr.findKey tk (optPtr x) es).run P w = .ok none w) := by
  have h := run_findAsking_seen hp hte hsz x hx es l 0 he hl
  have hf : (Instr.findKey tk (optPtr x) es).run P w = (Instr.findAsking tk (optPtr x) es 0).run P w := by
    cases es with
    | nil => simp [Instr.findKey, Instr.findNow, Instr.findAsking, run_underlying hp]
    | cons e r =>
      cases l with
      | nil => simp at he
      | cons y q =>
        simp only [List.map_cons, List.cons.injEq, Prod.mk.injEq] at he
        have hk := he.1.1
        cases x <;> cases y <;> simp [Instr.findKey, Instr.findNow, Instr.sameNow, run_underlying hp, hk, optPtr]
  rw [hf]
  exact h

theorem run_checkKey_ptr (hp : P.underlying tk = some (.pointer tb)) (em : Bool) (x : Option Nat) : (Instr.checkKey em 10000 tk (optPtr x)).run P w = .ok () w := by
  have h : ∀ d, (Instr.checkKey em (d + 1) tk (optPtr x)).run P w = .ok () w := fun d => by cases x <;> simp [Instr.checkKey, run_underlying hp, optPtr]
  exact h 9999

theorem SeenIs.run_look {j : TypeInfo} {b : Nat} {l : List (Option Nat)} (h : SeenIs w b l) (ht : P.underlying t = some (.map tk te)) (hp : P.underlying tk = some (.pointer tb)) (hte : P.info? tb = some j) (hsz : j.size ≠ 0)
    (hz : (zeroValue te).run P w = .ok (.bool false) w) (x : Option Nat) (hx : Solid w x) (hl : ∀ y ∈ l, Solid w y) :
    (Instr.lookup t (.map (some b)) (optPtr x) false).run P w = .ok (.bool (decide (x ∈ l))) w := by
  obtain ⟨es, clock, hb, he⟩ := h
  have hf := run_findKey_seen (P := P) hp hte hsz x hx es.toList l he hl
  by_cases hm : x ∈ l
  · obtain ⟨k, hk⟩ := hf.1 hm
    have hd : decide (x ∈ l) = true := by simpa using hm
    rw [hd]
    simp [Instr.lookup, run_underlying ht, MapKept.run_getObj_map hb, run_checkKey_ptr hp, hk]
  · have hd : decide (x ∈ l) = false := by simpa using hm
    rw [hd]
    simp [Instr.lookup, run_underlying ht, MapKept.run_getObj_map hb, run_checkKey_ptr hp, hf.2 hm, hz]

theorem SeenIs.run_add {j : TypeInfo} {b : Nat} {l : List (Option Nat)} (h : SeenIs w b l) (ht : P.underlying t = some (.map tk te)) (hp : P.underlying tk = some (.pointer tb)) (hte : P.info? tb = some j) (hsz : j.size ≠ 0)
    (x : Option Nat) (hx : Solid w x) (hl : ∀ y ∈ l, Solid w y) (hm : x ∉ l) :
    ∃ w', (Instr.mapUpdate t (.map (some b)) (optPtr x) (.bool true)).run P w = .ok () w' ∧ SeenIs w' b (l ++ [x]) ∧ Upd w w' (fun k => k = b) ∧ w'.heap.size = w.heap.size := by
  obtain ⟨es, clock, hb, he⟩ := h
  have hf := run_findKey_seen (P := P) hp hte hsz x hx es.toList l he hl
  refine ⟨ChangeMaps.setBlock w b (.map (es.push ⟨optPtr x, .bool true, clock⟩) (clock + 1)), ?_, ⟨_, _, ChangeMaps.heap_setBlock_same hb _, ?_⟩, ?_, by simp [ChangeMaps.setBlock]⟩
  · simp [Instr.mapUpdate, run_underlying ht, MapKept.run_getObj_map hb, run_checkKey_ptr hp, hf.2 hm, MapKept.run_setObj_map _ hb, Result.andThen, ChangeMaps.setBlock]
  · simp [he]
  · refine ⟨rfl, rfl, rfl, by simp [ChangeMaps.setBlock], fun k hk hne => ?_⟩
    simp only [ChangeMaps.setBlock]
    rw [Array.getElem?_setIfInBounds_ne (by omega)]

theorem SeenIs.upd {w' : World} {b : Nat} {l : List (Option Nat)} {F : Nat → Prop} (h : SeenIs w b l) (hu : Upd w w' F) (hn : ¬ F b) : SeenIs w' b l := by
  obtain ⟨es, clock, hb, he⟩ := h
  exact ⟨es, clock, hu.heap hb hn, he⟩
theorem SeenIs.lt {b : Nat} {l : List (Option Nat)} (h : SeenIs w b l) : b < w.heap.size := by obtain ⟨es, clock, hb, he⟩ := h; exact lt_of_heap hb
theorem SeenIs.made (w : World) : SeenIs (w.alloc (.map #[] 0)) w.heap.size [] := ⟨#[], 0, heap_alloc_new w _, rfl⟩
theorem Solid.upd {w' : World} {x : Option Nat} {F : Nat → Prop} (h : Solid w x) (hu : Upd w w' F) (hn : ∀ b, x = some b → ¬ F b) : Solid w' x := by
  intro b hb
  obtain ⟨cs, e, hc⟩ := h b hb
  exact ⟨cs, e, hu.heap hc (hn b hb)⟩

variable {ops : Array Oper} {rest : List Oper} {o : Oper} {a : Act} {Q : Exit → Act → World → Prop}
theorem wpList_seen_look (hg : o.guard = none) (mo xo : Operand) (t : TypeId) (hop : o.op = Op.lookup t mo xo false) (tk te tb : TypeId) (j : TypeInfo) (ht : P.underlying t = some (.map tk te)) (hp : P.underlying tk = some (.pointer tb)) (hte : P.info? tb = some j) (hsz : j.size ≠ 0)
    (hz : ∀ w, (zeroValue te).run P w = .ok (.bool false) w) (b : Nat) (l : List (Option Nat)) (hm : a.eval mo = .map (some b)) (h : SeenIs w b l) (x : Option Nat) (hx : a.eval xo = optPtr x) (hs : Solid w x) (hl : ∀ y ∈ l, Solid w y) (r : Bool) (hr : decide (x ∈ l) = r)
    (hK : wpList P ops Q rest (a.put o.dst (.bool r)) w) : wpList P ops Q (o :: rest) a w := by
  refine wpList_plain hg fun K' hK' => ?_
  unfold Oper.wp
  simp [execOp, hop, hm, hx, h.run_look ht hp hte hsz (hz _) x hs hl, Result.andThen, hr]
  exact hK' _ _ hK
theorem wpList_seen_add (hg : o.guard = none) (mo xo vo : Operand) (t : TypeId) (hop : o.op = Op.mapUpdate t mo xo vo ∨ o.op = Op.insert t mo xo vo) (tk te tb : TypeId) (j : TypeInfo) (ht : P.underlying t = some (.map tk te)) (hp : P.underlying tk = some (.pointer tb)) (hte : P.info? tb = some j) (hsz : j.size ≠ 0)
    (b : Nat) (l : List (Option Nat)) (hm : a.eval mo = .map (some b)) (h : SeenIs w b l) (x : Option Nat) (hx : a.eval xo = optPtr x) (hv : a.eval vo = .bool true) (hs : Solid w x) (hl : ∀ y ∈ l, Solid w y) (hn : x ∉ l)
    (hK : ∀ w', SeenIs w' b (l ++ [x]) → Upd w w' (fun k => k = b) → w'.heap.size = w.heap.size → wpList P ops Q rest (a.put o.dst (.tuple #[])) w') : wpList P ops Q (o :: rest) a w := by
  refine wpList_plain hg fun K' hK' => ?_
  obtain ⟨w', hrun, h1, h2, h3⟩ := h.run_add ht hp hte hsz x hs hl hn
  unfold Oper.wp
  rcases hop with hop | hop
  · simp [execOp, hop, hm, hx, hv, hrun, Result.andThen]
    exact hK' _ _ (hK w' h1 h2 h3)
  · simp [execOp, hop, hm, hx, hv, hrun, Result.andThen]
    exact hK' _ _ (hK w' h1 h2 h3)
end
end Go.Proofs.Ytpmbeeddciepjaa
