/- Stores of whole structs into boxes: the world behind is opaque. -/
import Derived.Test.YtpmbeeddciepjaaT
import Derived.Deep.MidRow
namespace Go.Proofs.Ytpmbeeddciepjaa
open Go.RowKit Go.Maps Go.Sort
set_option linter.unusedSimpArgs false
set_option linter.unusedVariables false
def putAll (cur : Array Value) : Nat → List Value → Array Value
  | _, [] => cur
  | o, v :: r => putAll (cur.setIfInBounds o v) (o + 1) r
theorem heap_setCells {b : Nat} {e : TypeId} {f : Nat × Nat} : ∀ (vs : List Value) (o : Nat) (w : World) (cur : Array Value), w.heap[b]? = some (.cells cur e f) → (w.setCells b o vs).heap[b]? = some (.cells (putAll cur o vs) e f)
  | [], _, _, _, h => h
  | v :: r, o, w, cur, h => heap_setCells r (o + 1) _ _ (heap_setCell_same h v)
theorem Upd.cells {w : World} {F : Nat → Prop} {b : Nat} (hF : F b) : ∀ (vs : List Value) (o : Nat) (w' : World), Upd w w' F → Upd w (w'.setCells b o vs) F
  | [], _, _, h => h
  | v :: r, o, w', h => Upd.cells hF r (o + 1) _ (h.put (.inl hF))
theorem wpList_box {P : Program} {w : World} {ops : Array Oper} {rest : List Oper} {o : Oper} {a : Act} {Q : Exit → Act → World → Prop} (hgd : o.guard = none) (t : TypeId) (x y : Operand) (ho : o.op = .store t x y) (hdst : o.dst = none)
    (b k : Nat) (cells : Array Value) (hx : a.eval x = .pointer (some ⟨b, k, none⟩)) (hy : a.eval y = .agg cells) {cur : Array Value} {u : TypeId} (hb : w.heap[b]? = some (.cells cur u (0, 0))) (hk : k + cells.size ≤ cur.size)
    (hi : (P.info? t).map (·.size) = some cells.size) (h1 : cells.all (·.oneCell') = true) (new : Array Value) (hnew : putAll cur k cells.toList = new)
    (h : ∀ w', Upd w w' (fun k => k = b) → w'.heap[b]? = some (.cells new u (0, 0)) → wpList P ops Q rest a w') : wpList P ops Q (o :: rest) a w := by
  refine wpList_store_mid hgd t x y ho b k cells hx hy (fun j hj => ⟨?_, free_of_heap hb _⟩) hi h1 ?_
  · rw [cell_of_heap hb]
    have : k + j < cur.size := by omega
    simp [this]
  · rw [hdst]
    refine h _ (Upd.cells (F := fun k => k = b) rfl _ _ _ (Upd.refl _ _)) ?_
    rw [heap_setCells _ _ _ _ hb, hnew]
theorem infoSh : (Try.prog.info? 35).map (·.size) = some 7 := by kernel_rfl
/-- Succeeds at a store of a whole shelf of the reference to that operand alone. -/
theorem gate_st {P : Program} {w : World} {ops : Array Oper} {rest : List Oper} {o : Oper} {a : Act} {Q : Exit → Act → World → Prop} (y x : Operand) (_ : o.op = .store 35 x y) (h : wpList P ops Q (o :: rest) a w) : wpList P ops Q (o :: rest) a w := h
/-- A whole shelf of the reference goes into its box. -/
theorem wpList_box7 {w : World} {ops : Array Oper} {rest : List Oper} {o : Oper} {a : Act} {Q : Exit → Act → World → Prop} (x y : Operand) (ho : o.op = .store 35 x y) (hgd : o.guard = none) (hdst : o.dst = none)
    (b : Nat) (hx : a.eval x = .pointer (some ⟨b, 0, none⟩)) {a0 a1 a2 a3 a4 a5 a6 : Value} (hy : a.eval y = .agg #[a0, a1, a2, a3, a4, a5, a6]) {e0 e1 e2 e3 e4 e5 e6 : Value} {u : TypeId} (hb : w.heap[b]? = some (.cells #[e0, e1, e2, e3, e4, e5, e6] u (0, 0)))
    (h0 : a0.oneCell' = true) (h1 : a1.oneCell' = true) (h2 : a2.oneCell' = true) (h3 : a3.oneCell' = true) (h4 : a4.oneCell' = true) (h5 : a5.oneCell' = true) (h6 : a6.oneCell' = true)
    (h : ∀ w', Upd w w' (fun k => k = b) → w'.heap[b]? = some (.cells #[a0, a1, a2, a3, a4, a5, a6] u (0, 0)) → wpList Try.prog ops Q rest a w') : wpList Try.prog ops Q (o :: rest) a w :=
  wpList_box hgd _ x y ho hdst b 0 _ hx hy hb (Nat.le_refl _) infoSh (by simp [h0, h1, h2, h3, h4, h5, h6]) _ (by simp [putAll]) h
theorem wpList_cell {P : Program} {w : World} {ops : Array Oper} {rest : List Oper} {o : Oper} {a : Act} {Q : Exit → Act → World → Prop} (hgd : o.guard = none) (t : TypeId) (x y : Operand) (ho : o.op = .store t x y) (hdst : o.dst = none)
    (b k : Nat) (v : Value) (hx : a.eval x = .pointer (some ⟨b, k, none⟩)) (hy : a.eval y = v) {cur : Array Value} {u : TypeId} (hb : w.heap[b]? = some (.cells cur u (0, 0))) (hk : k < cur.size)
    (hi : (P.info? t).map (·.size) = some 1) (h1 : v.oneCell' = true) (hc : v.cells = #[v])
    (h : ∀ w', Upd w w' (fun k => k = b) → w'.heap[b]? = some (.cells (cur.setIfInBounds k v) u (0, 0)) → wpList P ops Q rest a w') : wpList P ops Q (o :: rest) a w := by
  refine wpList_plain hgd fun K hK => ?_
  have hst := run_storeCells_cells (P := P) b k [v] 0 w (fun j hj => by
    have : k + j < cur.size := by simp at hj; omega
    rw [cell_of_heap hb]; simp [this]) (fun j _ => free_of_heap hb _) (by simpa using h1)
  simp only [Nat.add_zero] at hst
  obtain ⟨i, hi2, hs⟩ := Option.map_eq_some_iff.1 hi
  have hrun : (Instr.storeAt t (.pointer (some ⟨b, k, none⟩)) v).run P w = .ok () (w.setCells b k [v]) := by
    have hcs : v.cells.size = 1 := by rw [hc]; rfl
    have hcl : v.cells.toList = [v] := by rw [hc]
    simp [Instr.storeAt, Instr.sureAddr, storeVar, sizeOf, typeInfo, hi2, hs, hcs, hcl, hst]
  unfold Oper.wp execOp
  simp only [ho, hx, hy, hrun, Sem.run_bind, Sem.run_pure, Result.andThen_ok]
  refine hK _ _ ?_
  rw [hdst]
  exact h _ (Upd.cells (F := fun k => k = b) rfl _ _ _ (Upd.refl _ _)) (heap_setCells _ _ _ _ hb)
theorem infoSu : ∃ d, Try.prog.underlying 35 = some (.struct d) := ⟨_, Try.underlying35⟩
/-- A whole shelf of the reference is read out of its box. -/
theorem wpList_ld7 {w : World} {ops : Array Oper} {rest : List Oper} {o : Oper} {a : Act} {Q : Exit → Act → World → Prop} (x : Operand) (ho : o.op = .load 35 x) (hgd : o.guard = none)
    (b : Nat) (hx : a.eval x = .pointer (some ⟨b, 0, none⟩)) {e0 e1 e2 e3 e4 e5 e6 : Value} {u : TypeId} (hb : w.heap[b]? = some (.cells #[e0, e1, e2, e3, e4, e5, e6] u (0, 0)))
    (h : wpList Try.prog ops Q rest (a.put o.dst (.agg #[e0, e1, e2, e3, e4, e5, e6])) w) : wpList Try.prog ops Q (o :: rest) a w := by
  obtain ⟨d, hd⟩ := infoSu
  refine wpList_load_mid hgd _ x ho b 0 hx [e0, e1, e2, e3, e4, e5, e6] (.struct d) (fun j v hv => ?_) hd rfl infoSh h
  rw [cell_of_heap hb]
  simpa using hv
theorem wpList_fld0 {w : World} {ops : Array Oper} {rest : List Oper} {o : Oper} {a : Act} {Q : Exit → Act → World → Prop} (t : TypeId) (x y : Operand) (ho : o.op = .store t x y) (hgd : o.guard = none) (hdst : o.dst = none)
    (b : Nat) (hx : a.eval x = .pointer (some ⟨b, 0, none⟩)) {sa : Option Addr} {sn sc : Nat} (hy : a.eval y = .slice sa sn sc) {e0 e1 e2 e3 e4 e5 e6 : Value} {u : TypeId} (hb : w.heap[b]? = some (.cells #[e0, e1, e2, e3, e4, e5, e6] u (0, 0)))
    (hi : (Try.prog.info? t).map (·.size) = some 1)
    (h : ∀ w', Upd w w' (fun k => k = b) → w'.heap[b]? = some (.cells #[.slice sa sn sc, e1, e2, e3, e4, e5, e6] u (0, 0)) → wpList Try.prog ops Q rest a w') : wpList Try.prog ops Q (o :: rest) a w :=
  wpList_cell hgd t x y ho hdst b 0 _ hx hy hb (by simp) hi rfl rfl h
theorem wpList_fld1 {w : World} {ops : Array Oper} {rest : List Oper} {o : Oper} {a : Act} {Q : Exit → Act → World → Prop} (t : TypeId) (x y : Operand) (ho : o.op = .store t x y) (hgd : o.guard = none) (hdst : o.dst = none)
    (b : Nat) (hx : a.eval x = .pointer (some ⟨b, 1, none⟩)) {sa : Option Addr} {sn sc : Nat} (hy : a.eval y = .slice sa sn sc) {e0 e1 e2 e3 e4 e5 e6 : Value} {u : TypeId} (hb : w.heap[b]? = some (.cells #[e0, e1, e2, e3, e4, e5, e6] u (0, 0)))
    (hi : (Try.prog.info? t).map (·.size) = some 1)
    (h : ∀ w', Upd w w' (fun k => k = b) → w'.heap[b]? = some (.cells #[e0, .slice sa sn sc, e2, e3, e4, e5, e6] u (0, 0)) → wpList Try.prog ops Q rest a w') : wpList Try.prog ops Q (o :: rest) a w :=
  wpList_cell hgd t x y ho hdst b 1 _ hx hy hb (by simp) hi rfl rfl h
theorem wpList_fld2 {w : World} {ops : Array Oper} {rest : List Oper} {o : Oper} {a : Act} {Q : Exit → Act → World → Prop} (t : TypeId) (x y : Operand) (ho : o.op = .store t x y) (hgd : o.guard = none) (hdst : o.dst = none)
    (b : Nat) (hx : a.eval x = .pointer (some ⟨b, 2, none⟩)) {sa : Option Addr} {sn sc : Nat} (hy : a.eval y = .slice sa sn sc) {e0 e1 e2 e3 e4 e5 e6 : Value} {u : TypeId} (hb : w.heap[b]? = some (.cells #[e0, e1, e2, e3, e4, e5, e6] u (0, 0)))
    (hi : (Try.prog.info? t).map (·.size) = some 1)
    (h : ∀ w', Upd w w' (fun k => k = b) → w'.heap[b]? = some (.cells #[e0, e1, .slice sa sn sc, e3, e4, e5, e6] u (0, 0)) → wpList Try.prog ops Q rest a w') : wpList Try.prog ops Q (o :: rest) a w :=
  wpList_cell hgd t x y ho hdst b 2 _ hx hy hb (by simp) hi rfl rfl h
theorem wpList_fld4 {w : World} {ops : Array Oper} {rest : List Oper} {o : Oper} {a : Act} {Q : Exit → Act → World → Prop} (t : TypeId) (x y : Operand) (ho : o.op = .store t x y) (hgd : o.guard = none) (hdst : o.dst = none)
    (b : Nat) (hx : a.eval x = .pointer (some ⟨b, 4, none⟩)) {sn : Int} (hy : a.eval y = .int .i64 sn) {e0 e1 e2 e3 e4 e5 e6 : Value} {u : TypeId} (hb : w.heap[b]? = some (.cells #[e0, e1, e2, e3, e4, e5, e6] u (0, 0)))
    (hi : (Try.prog.info? t).map (·.size) = some 1)
    (h : ∀ w', Upd w w' (fun k => k = b) → w'.heap[b]? = some (.cells #[e0, e1, e2, e3, .int .i64 sn, e5, e6] u (0, 0)) → wpList Try.prog ops Q rest a w') : wpList Try.prog ops Q (o :: rest) a w :=
  wpList_cell hgd t x y ho hdst b 4 _ hx hy hb (by simp) hi rfl rfl h
theorem wpList_fld5 {w : World} {ops : Array Oper} {rest : List Oper} {o : Oper} {a : Act} {Q : Exit → Act → World → Prop} (t : TypeId) (x y : Operand) (ho : o.op = .store t x y) (hgd : o.guard = none) (hdst : o.dst = none)
    (b : Nat) (hx : a.eval x = .pointer (some ⟨b, 5, none⟩)) {sn : Bool} (hy : a.eval y = .bool sn) {e0 e1 e2 e3 e4 e5 e6 : Value} {u : TypeId} (hb : w.heap[b]? = some (.cells #[e0, e1, e2, e3, e4, e5, e6] u (0, 0)))
    (hi : (Try.prog.info? t).map (·.size) = some 1)
    (h : ∀ w', Upd w w' (fun k => k = b) → w'.heap[b]? = some (.cells #[e0, e1, e2, e3, e4, .bool sn, e6] u (0, 0)) → wpList Try.prog ops Q rest a w') : wpList Try.prog ops Q (o :: rest) a w :=
  wpList_cell hgd t x y ho hdst b 5 _ hx hy hb (by simp) hi rfl rfl h
theorem infoLs : (Try.prog.info? 31).map (·.size) = some 1 := by kernel_rfl
theorem infoNs1 : (Try.prog.info? 32).map (·.size) = some 1 := by kernel_rfl
theorem infoWs : (Try.prog.info? 33).map (·.size) = some 1 := by kernel_rfl
end Go.Proofs.Ytpmbeeddciepjaa
