/- Maps from names to pointers, told by plain lists of names and numbers: reading, writing, deleting at the operations. -/
import Derived.Test.YtpmbeeddciepjaaA
namespace Go.Proofs.Ytpmbeeddciepjaa
open Go.RowKit Go.Maps

abbrev Nm := List UInt8
def look (m : List (Nm × Nat)) (s : Nm) : Option Nat := (m.find? (fun p => p.1 == s)).map (·.2)
def del (m : List (Nm × Nat)) (s : Nm) : List (Nm × Nat) := m.filter (fun p => !(p.1 == s))
def put (m : List (Nm × Nat)) (s : Nm) (i : Nat) : List (Nm × Nat) := (s, i) :: del m s

theorem look_del_same (m : List (Nm × Nat)) (s : Nm) : look (del m s) s = none := by
  unfold look del
  rw [List.find?_eq_none.2]
  · rfl
  · intro p hp
    have := (List.mem_filter.1 hp).2
    simpa using this
theorem look_del_other (m : List (Nm × Nat)) {s s' : Nm} (h : s' ≠ s) : look (del m s) s' = look m s' := by
  unfold look del
  induction m with
  | nil => rfl
  | cons p r ih =>
    by_cases hp : p.1 == s
    · have e : p.1 = s := by simpa using hp
      rw [List.filter_cons_of_neg (by simp [hp]), List.find?_cons_of_neg (by simp [e]; exact fun h' => h h'.symm)]
      exact ih
    · rw [List.filter_cons_of_pos (by simpa using hp)]
      by_cases hp' : p.1 == s'
      · simp only [List.find?_cons, hp']
      · simp only [Bool.not_eq_true] at hp'
        simp only [List.find?_cons, hp']
        exact ih
theorem look_put_same (m : List (Nm × Nat)) (s : Nm) (i : Nat) : look (put m s i) s = some i := by simp [look, put]
theorem look_put_other (m : List (Nm × Nat)) {s s' : Nm} (i : Nat) (h : s' ≠ s) : look (put m s i) s' = look m s' := by
  rw [← look_del_other m h]
  unfold look put
  rw [List.find?_cons_of_neg (by simp; exact fun h' => h h'.symm)]
theorem look_del (m : List (Nm × Nat)) (s s' : Nm) : look (del m s) s' = if s' = s then none else look m s' := by
  by_cases h : s' = s
  · subst h; rw [if_pos rfl, look_del_same]
  · rw [if_neg h, look_del_other m h]
theorem look_put (m : List (Nm × Nat)) (s s' : Nm) (i : Nat) : look (put m s i) s' = if s' = s then some i else look m s' := by
  by_cases h : s' = s
  · subst h; rw [if_pos rfl, look_put_same]
  · rw [if_neg h, look_put_other m i h]
theorem mem_of_look {m : List (Nm × Nat)} {s : Nm} {i : Nat} (h : look m s = some i) : (s, i) ∈ m := by
  unfold look at h
  cases hf : m.find? (fun p => p.1 == s) with
  | none => rw [hf] at h; cases h
  | some p =>
    rw [hf] at h
    have e : p.1 = s := by simpa using List.find?_some hf
    have : p = (s, i) := by
      cases p; simp at h e; subst h; subst e; rfl
    rw [← this]
    exact List.mem_of_find?_eq_some hf
theorem look_of_mem {m : List (Nm × Nat)} {s : Nm} {i : Nat} (hn : (m.map (·.1)).Nodup) (h : (s, i) ∈ m) : look m s = some i := by
  unfold look
  induction m with
  | nil => cases h
  | cons p r ih =>
    simp only [List.map_cons, List.nodup_cons] at hn
    rcases List.mem_cons.1 h with h | h
    · subst h; simp
    · have hne : ¬ ((p.1 == s) = true) := by
        intro e
        have e : p.1 = s := by simpa using e
        exact hn.1 (List.mem_map.2 ⟨(s, i), h, e.symm⟩)
      rw [List.find?_cons_of_neg (by simpa using hne)]
      exact ih hn.2 h
theorem look_none_iff {m : List (Nm × Nat)} {s : Nm} : look m s = none ↔ ∀ p ∈ m, p.1 ≠ s := by
  unfold look
  simp [List.find?_eq_none]
theorem nodup_del {m : List (Nm × Nat)} (h : (m.map (·.1)).Nodup) (s : Nm) : ((del m s).map (·.1)).Nodup := h.sublist (List.filter_sublist.map _)
theorem nodup_put {m : List (Nm × Nat)} (h : (m.map (·.1)).Nodup) (s : Nm) (i : Nat) : ((put m s i).map (·.1)).Nodup := by
  refine List.nodup_cons.2 ⟨fun hm => ?_, nodup_del h s⟩
  obtain ⟨p, hp, e⟩ := List.mem_map.1 hm
  exact look_none_iff.1 (look_del_same m s) p hp e
theorem length_del {m : List (Nm × Nat)} (h : (m.map (·.1)).Nodup) (s : Nm) : (del m s).length + (if (look m s).isSome then 1 else 0) = m.length := by
  induction m with
  | nil => rfl
  | cons p r ih =>
    simp only [List.map_cons, List.nodup_cons] at h
    have ih := ih h.2
    by_cases hp : p.1 = s
    · have hl : look (p :: r) s = some p.2 := by simp [look, hp]
      have hr : look r s = none := look_none_iff.2 (fun q hq e => h.1 (List.mem_map.2 ⟨q, hq, e.trans hp.symm⟩))
      have hd : del (p :: r) s = del r s := by simp [del, hp]
      rw [hl, hd]
      rw [hr] at ih
      simp at ih ⊢
      omega
    · have hl : look (p :: r) s = look r s := by unfold look; rw [List.find?_cons_of_neg (by simpa using hp)]
      have hd : del (p :: r) s = p :: del r s := by simp [del, hp]
      rw [hl, hd]
      simp
      omega
theorem length_put {m : List (Nm × Nat)} (h : (m.map (·.1)).Nodup) (s : Nm) (i : Nat) : (put m s i).length = if (look m s).isSome then m.length else m.length + 1 := by
  have := length_del h s
  unfold put
  rw [List.length_cons]
  split at this <;> simp_all

/-- A pointer to a block's head, as a map's element. -/
def refElem : Value → Option (DataW Unit × List MemPlace)
  | .pointer none => some (.nil, [])
  | .pointer (some ⟨b, 0, none⟩) => some (.lit (.int .i64 b), [])
  | _ => none
theorem refElem_inv {v : Value} {b : Nat} {ps : List MemPlace} (h : refElem v = some (.lit (.int .i64 b), ps)) : v = .pointer (some ⟨b, 0, none⟩) ∧ ps = [] := by
  unfold refElem at h
  split at h
  · cases h
  · simp at h
    obtain ⟨h1, h2⟩ := h
    have : _ = b := Int.ofNat.inj h1
    exact ⟨by rw [← this], h2⟩
  · cases h
theorem refElem_nil {v : Value} {ps : List MemPlace} (h : refElem v = some (.nil, ps)) : v = .pointer none ∧ ps = [] := by
  unfold refElem at h
  split at h
  · simp at h; exact ⟨rfl, h⟩
  · simp at h
  · cases h
theorem refElem_shape {v : Value} {z : DataW Unit × List MemPlace} (h : refElem v = some z) : v = .pointer none ∨ ∃ b : Nat, v = .pointer (some ⟨b, 0, none⟩) := by
  unfold refElem at h
  split at h
  · exact .inl rfl
  · exact .inr ⟨_, rfl⟩
  · cases h

def told (bl : List Nat) (m : List (Nm × Nat)) (s : Nm) (zd : DataW Unit) : DataW Unit :=
  match look m s with
  | some i => .lit (.int .i64 (bl.getD i 0 : Nat))
  | none => zd
/-- The datum of a map is what the list tells. -/
structure Tells (D : DataW Unit) (bl : List Nat) (m : List (Nm × Nat)) : Prop where
  isMap : IsMap D
  at_ : ∀ s zd, D.atKey (.string s) zd = told bl m s zd
  has : ∀ s, Maps.has D (.string s) = (look m s).isSome
  size : Maps.size D = m.length
  nodup : (m.map (·.1)).Nodup
  lt : ∀ p ∈ m, p.2 < bl.length
/-- Block b is a map from names to pointers, as the list m tells: bl are the blocks. -/
def MapIs (P : Program) (tk : TypeId) (w : World) (b : Nat) (bl : List Nat) (m : List (Nm × Nat)) : Prop :=
  ∃ D, w.ownsMap P tk refElem b m.length D ∧ Tells D bl m

theorem ne_of_nm {s s' : Nm} (h : s ≠ s') : (Lit.string s) ≠ Lit.string s' := fun e => h (by injection e)

theorem isKeyStr (s : Nm) : WideAt.IsKeyLit (.string s) := True.intro

theorem Tells.empty (bl : List Nat) : Tells (.map []) bl [] :=
  ⟨isMap_empty, fun _ _ => rfl, fun _ => rfl, rfl, List.nodup_nil, fun _ h => by cases h⟩
theorem Tells.put {D : DataW Unit} {bl : List Nat} {m : List (Nm × Nat)} (h : Tells D bl m) (ht : Tidy D) (s : Nm) (i : Nat) (hi : i < bl.length) :
    Tells (D.put (.string s) (.lit (.int .i64 (bl.getD i 0 : Nat)))) bl (put m s i) := by
  refine ⟨h.isMap.put _ _, fun s' zd => ?_, fun s' => ?_, ?_, nodup_put h.nodup s i, fun p hp => ?_⟩
  · unfold told
    rw [look_put]
    by_cases e : s' = s
    · subst e
      rw [if_pos rfl, atKey_put_same h.isMap (isKeyStr s')]
    · rw [if_neg e, atKey_put_other (ne_of_nm e), h.at_]
      rfl
  · rw [look_put]
    by_cases e : s' = s
    · subst e
      rw [if_pos rfl, has_put_same h.isMap (isKeyStr s')]
      rfl
    · rw [if_neg e, has_put_other (ne_of_nm e), h.has]
  · rw [size_put ht, length_put h.nodup, h.has, h.size]
  · rcases List.mem_cons.1 hp with rfl | hp
    · exact hi
    · exact h.lt p (List.mem_filter.1 hp).1
theorem Tells.del {D : DataW Unit} {bl : List Nat} {m : List (Nm × Nat)} (h : Tells D bl m) (ht : Tidy D) (s : Nm) : Tells (D.del (.string s)) bl (del m s) := by
  refine ⟨h.isMap.del _, fun s' zd => ?_, fun s' => ?_, ?_, nodup_del h.nodup s, fun p hp => h.lt p (List.mem_filter.1 hp).1⟩
  · unfold told
    rw [look_del]
    by_cases e : s' = s
    · subst e
      rw [if_pos rfl, atKey_del_same]
    · rw [if_neg e, atKey_del_other (ne_of_nm e), h.at_]
      rfl
  · rw [look_del]
    by_cases e : s' = s
    · subst e
      rw [if_pos rfl, has_del_same]
      rfl
    · rw [if_neg e, has_del_other (ne_of_nm e), h.has]
  · have h1 := size_del (k := .string s) ht
    have h2 := length_del h.nodup s
    rw [h.has, h.size] at h1
    split at h1 <;> split at h2 <;> simp_all <;> omega
/-- More blocks: the map tells as it did. -/
theorem Tells.more {D : DataW Unit} {bl : List Nat} {m : List (Nm × Nat)} (h : Tells D bl m) (x : List Nat) : Tells D (bl ++ x) m := by
  refine ⟨h.isMap, fun s zd => ?_, h.has, h.size, h.nodup, fun p hp => by have := h.lt p hp; simp; omega⟩
  rw [h.at_]
  unfold told
  cases hl : look m s with
  | none => rfl
  | some i =>
    have := h.lt _ (mem_of_look hl)
    simp only at this
    simp only [List.getD_eq_getElem?_getD, List.getElem?_append_left this]

section
variable {P : Program} {tk : TypeId} {w w' : World} {b : Nat} {bl : List Nat} {m : List (Nm × Nat)}
theorem MapIs.lt (h : MapIs P tk w b bl m) : b < w.heap.size := by obtain ⟨D, h, _⟩ := h; exact h.lt
theorem MapIs.nodup (h : MapIs P tk w b bl m) : (m.map (·.1)).Nodup := by obtain ⟨D, _, h⟩ := h; exact h.nodup
theorem MapIs.vals (h : MapIs P tk w b bl m) : ∀ p ∈ m, p.2 < bl.length := by obtain ⟨D, _, h⟩ := h; exact h.lt
theorem MapIs.look_lt (h : MapIs P tk w b bl m) {s : Nm} {i : Nat} (hl : look m s = some i) : i < bl.length := h.vals _ (mem_of_look hl)
theorem ownsMap_upd {R : Value → Option (DataW Unit × List MemPlace)} {n : Nat} {D : DataW Unit} {F : Nat → Prop} (h : w.ownsMap P tk R b n D) (hu : Upd w w' F) (hn : ¬ F b) : w'.ownsMap P tk R b n D := by
  obtain ⟨es, clock, hb, F, hs, hD⟩ := h
  exact ⟨es, clock, hu.heap hb hn, F, hs, hD⟩
theorem MapIs.upd {F : Nat → Prop} (h : MapIs P tk w b bl m) (hu : Upd w w' F) (hn : ¬ F b) : MapIs P tk w' b bl m := by
  obtain ⟨D, h, t⟩ := h
  exact ⟨D, ownsMap_upd h hu hn, t⟩
theorem MapIs.more (h : MapIs P tk w b bl m) (x : List Nat) : MapIs P tk w b (bl ++ x) m := by
  obtain ⟨D, h, t⟩ := h
  exact ⟨D, h, t.more x⟩
theorem MapIs.made (w : World) (P : Program) (tk : TypeId) (bl : List Nat) : MapIs P tk (w.alloc (.map #[] 0)) w.heap.size bl [] :=
  ⟨.map [], World.ownsMap_made w P tk refElem, Tells.empty bl⟩
theorem ownsMap_size {R : Value → Option (DataW Unit × List MemPlace)} {n : Nat} {D : DataW Unit} (h : w.ownsMap P tk R b n D) : w.ownsMap P tk R b (Maps.size D) D := by
  obtain ⟨es, clock, hb, F, hs, hD⟩ := h
  exact ⟨es, clock, hb, F, by rw [hD]; simp [Maps.size, length_sorted], hD⟩
theorem mapIs_of {n : Nat} {D : DataW Unit} (h : w.ownsMap P tk refElem b n D) (t : Tells D bl m) : MapIs P tk w b bl m :=
  ⟨D, by have := ownsMap_size h; rwa [t.size] at this, t⟩

variable {ops : Array Oper} {rest : List Oper} {o : Oper} {a : Act} {Q : Exit → Act → World → Prop} {t e : TypeId}
theorem MapIs.run_found (h : MapIs P tk w b bl m) (K : Keyed P tk) (ht : P.underlying t = some (.map tk e)) (hz : (zeroValue e).run P w = .ok (.pointer none) w) {s : ByteArray} {i : Nat} (hkey : keyOf P tk (.string s) = some (.string s.data.toList))
    (hl : look m s.data.toList = some i) {bb : Nat} (hbb : bl[i]? = some bb) : (Instr.lookup t (.map (some b)) (.string s) false).run P w = .ok (.pointer (some ⟨bb, 0, none⟩)) w := by
  have hbb : bl.getD i 0 = bb := by simp [hbb]
  subst hbb
  obtain ⟨D, h, T⟩ := h
  obtain ⟨v, ps, hrun, hv⟩ := h.lookup K ht hz (zd := .nil) (zp := []) rfl hkey
  rw [T.at_] at hv
  unfold told at hv
  rw [hl] at hv
  obtain ⟨rfl, _⟩ := refElem_inv hv
  exact hrun
theorem MapIs.run_none (h : MapIs P tk w b bl m) (K : Keyed P tk) (ht : P.underlying t = some (.map tk e)) (hz : (zeroValue e).run P w = .ok (.pointer none) w) {s : ByteArray} (hkey : keyOf P tk (.string s) = some (.string s.data.toList))
    (hl : look m s.data.toList = none) : (Instr.lookup t (.map (some b)) (.string s) false).run P w = .ok (.pointer none) w := by
  obtain ⟨D, h, T⟩ := h
  obtain ⟨v, ps, hrun, hv⟩ := h.lookup K ht hz (zd := .nil) (zp := []) rfl hkey
  rw [T.at_] at hv
  unfold told at hv
  rw [hl] at hv
  obtain ⟨rfl, _⟩ := refElem_nil hv
  exact hrun
theorem wpList_look_found (hg : o.guard = none) (mo x : Operand) (t : TypeId) (hop : o.op = Op.lookup t mo x false) (tk e : TypeId) (K : Keyed P tk) (ht : P.underlying t = some (.map tk e)) (hz : ∀ w, (zeroValue e).run P w = .ok (.pointer none) w)
    (b : Nat) (bl : List Nat) (m : List (Nm × Nat)) (hm : a.eval mo = .map (some b)) (h : MapIs P tk w b bl m) (s : ByteArray) (hx : a.eval x = .string s) (hkey : keyOf P tk (.string s) = some (.string s.data.toList)) (i : Nat) (hl : look m s.data.toList = some i) (bb : Nat) (hbb : bl[i]? = some bb)
    (hK : wpList P ops Q rest (a.put o.dst (.pointer (some ⟨bb, 0, none⟩))) w) : wpList P ops Q (o :: rest) a w := by
  refine wpList_plain hg fun K' hK' => ?_
  unfold Oper.wp
  simp [execOp, hop, hm, hx, h.run_found K ht (hz _) hkey hl hbb, Result.andThen]
  exact hK' _ _ hK
theorem wpList_look_none (hg : o.guard = none) (mo x : Operand) (t : TypeId) (hop : o.op = Op.lookup t mo x false) (tk e : TypeId) (K : Keyed P tk) (ht : P.underlying t = some (.map tk e)) (hz : ∀ w, (zeroValue e).run P w = .ok (.pointer none) w)
    (b : Nat) (bl : List Nat) (m : List (Nm × Nat)) (hm : a.eval mo = .map (some b)) (h : MapIs P tk w b bl m) (s : ByteArray) (hx : a.eval x = .string s) (hkey : keyOf P tk (.string s) = some (.string s.data.toList)) (hl : look m s.data.toList = none)
    (hK : wpList P ops Q rest (a.put o.dst (.pointer none)) w) : wpList P ops Q (o :: rest) a w := by
  refine wpList_plain hg fun K' hK' => ?_
  unfold Oper.wp
  simp [execOp, hop, hm, hx, h.run_none K ht (hz _) hkey hl, Result.andThen]
  exact hK' _ _ hK
theorem turned_upd (h : w.mapTurned w' b) : Upd w w' (fun k => k = b) := Upd.of_grown h.grown (fun k hk => by injection hk with e; exact e.symm)
theorem turned_size (h : w.mapTurned w' b) : w'.heap.size = w.heap.size := by
  obtain ⟨es, clock, es', clock', _, rfl⟩ := h
  simp [ChangeMaps.setBlock]
theorem wpList_put (hg : o.guard = none) (mo x v : Operand) (t : TypeId) (hop : o.op = Op.mapUpdate t mo x v) (tk e : TypeId) (K : Keyed P tk) (ht : P.underlying t = some (.map tk e))
    (b : Nat) (bl : List Nat) (m : List (Nm × Nat)) (hm : a.eval mo = .map (some b)) (h : MapIs P tk w b bl m) (hroom : m.length < maxLen) (s : ByteArray) (hx : a.eval x = .string s) (hkey : keyOf P tk (.string s) = some (.string s.data.toList))
    (i bb : Nat) (hbb : bl[i]? = some bb) (hv : a.eval v = .pointer (some ⟨bb, 0, none⟩))
    (hK : ∀ w', MapIs P tk w' b bl (put m s.data.toList i) → Upd w w' (fun k => k = b) → w'.heap.size = w.heap.size → wpList P ops Q rest (a.put o.dst (.tuple #[])) w') : wpList P ops Q (o :: rest) a w := by
  have hi : i < bl.length := (List.getElem?_eq_some_iff.1 hbb).1
  have hbb : bl.getD i 0 = bb := by simp [hbb]
  subst hbb
  obtain ⟨D, h, T⟩ := h
  have htd := h.tidy K
  refine wpList_mapUpdate_in _ hg mo x v t hop tk e K ht refElem b _ D hm h hroom _ _ _ hx hv hkey (.lit (.int .i64 (bl.getD i 0 : Nat))) [] rfl ?_
  intro w1 h1 ht1
  refine hK w1 (mapIs_of h1 (T.put htd _ i hi)) (turned_upd ht1) ?_
  exact turned_size ht1
theorem wpList_strike (hg : o.guard = none) (mo x : Operand) (t tk : TypeId) (hop : o.op = Op.call { callee := Callee.builtin Builtin.delete, args := #[mo, x], argTypes := #[t, tk] }) (e : TypeId) (K : Keyed P tk) (ht : P.underlying t = some (.map tk e))
    (b : Nat) (bl : List Nat) (m : List (Nm × Nat)) (hm : a.eval mo = .map (some b)) (h : MapIs P tk w b bl m) (s : ByteArray) (hx : a.eval x = .string s) (hkey : keyOf P tk (.string s) = some (.string s.data.toList))
    (hK : ∀ w', MapIs P tk w' b bl (del m s.data.toList) → Upd w w' (fun k => k = b) → w'.heap.size = w.heap.size → wpList P ops Q rest (a.put o.dst (.tuple #[])) w') : wpList P ops Q (o :: rest) a w := by
  obtain ⟨D, h, T⟩ := h
  have htd := h.tidy K
  refine wpList_delete_own _ hg mo x t tk hop e K ht refElem b _ D hm h _ _ hx hkey ?_
  intro w1 h1 ht1
  exact hK w1 (mapIs_of h1 (T.del htd _)) (turned_upd ht1) (turned_size ht1)
end
end Go.Proofs.Ytpmbeeddciepjaa
