/- The plain law behind ShelfRoom: no more is used than there is room. -/
import Derived.Test.YtpmbeeddciepjaaSb
namespace Go.Proofs.Ytpmbeeddciepjaa
open Go.RowKit
set_option linter.unusedSimpArgs false
set_option linter.unusedVariables false

theorem sum_le2 {f f' : Nat → Nat} : ∀ (l' l : List Nat), l'.Nodup → (∀ x ∈ l', (x ∈ l ∧ f' x ≤ f x) ∨ f' x = 0) → (l'.map f').sum ≤ (l.map f).sum
  | [], l, _, _ => by simp
  | a :: r, l, hn, h => by
    have hn2 := List.nodup_cons.1 hn
    rw [List.map_cons, List.sum_cons]
    rcases h a List.mem_cons_self with ⟨ha, hf⟩ | ha
    · have hp := (List.perm_cons_erase ha).map f
      rw [hp.sum_nat, List.map_cons, List.sum_cons]
      have ih := sum_le2 r (l.erase a) hn2.2 (fun x hx => (h x (List.mem_cons_of_mem _ hx)).imp (fun hh => ⟨(List.mem_erase_of_ne (fun e => hn2.1 (by rw [← e]; exact hx))).2 hh.1, hh.2⟩) id)
      omega
    · have ih := sum_le2 r l hn2.2 (fun x hx => h x (List.mem_cons_of_mem _ hx))
      omega
theorem sum_add {f f' : Nat → Nat} {i c : Nat} (hi : f' i ≤ f i + c) (h : ∀ x, x ≠ i → f' x ≤ f x) : ∀ l : List Nat, l.Nodup → (l.map f').sum ≤ (l.map f).sum + c
  | [], _ => by simp
  | a :: r, hn => by
    have hn2 := List.nodup_cons.1 hn
    rw [List.map_cons, List.sum_cons, List.map_cons, List.sum_cons]
    by_cases e : a = i
    · subst e
      have := sum_le2 (f := f) (f' := f') r r hn2.2 (fun x hx => .inl ⟨hx, h x (fun e => hn2.1 (by rw [← e]; exact hx))⟩)
      omega
    · have := sum_add hi h r hn2.2
      have := h a e
      omega
theorem mem_ids {S : Sh} {i : Nat} : i ∈ S.ids ↔ (∃ q ∈ S.old, q.2 = i) ∨ ∃ m ∈ S.moves, m.b = some i := by
  unfold Sh.ids
  rw [mem_dedup, List.mem_append, List.mem_map, List.mem_filterMap]
theorem ids_nodup (S : Sh) : S.ids.Nodup := nodup_dedup _
/-- What ShelfRoom holds to, behind any acts: R is the room. -/
structure RoomOk (S : Sh) (R : Int) : Prop where
  left : S.left = -1
  off : S.off = false
  room : S.room = R
  used : (S.used : Int) ≤ R
  sub : ∀ q ∈ S.now, q.2 ∈ S.ids
  nn : ∀ q ∈ S.now, q.1.length ≤ 3
  no : ∀ q ∈ S.old, q.1.length ≤ 3
  nm : ∀ m ∈ S.moves, m.name.length ≤ 3
section
variable {S S' : Sh} {R : Int}
theorem RoomOk.act1 (h : RoomOk S R) : S.act = ({ S with left := -1, off := false, done := wrap64 (S.done + 1) }, true) := act_on S h.off h.left
theorem used_le (h : ∀ i ∈ S'.ids, (i ∈ S.ids ∧ S'.lenOf i ≤ S.lenOf i) ∨ S'.lenOf i = 0) : S'.used ≤ S.used := sum_le2 _ _ (ids_nodup S') h
theorem RoomOk.act (h : RoomOk S R) : RoomOk S.act.1 R := by
  rw [h.act1]
  exact ⟨rfl, rfl, h.room, h.used, h.sub, h.nn, h.no, h.nm⟩
theorem lenOf_set {fs : List File} (i : Nat) (f : File) (j : Nat) (hj : j ≠ i) : Sh.lenOf { S with fs := S.fs.set i f } j = S.lenOf j := by
  unfold Sh.lenOf
  rw [List.getElem?_set_ne (fun e => hj e.symm)]
theorem lenOf_same (i : Nat) (f : File) (hi : i < S.fs.length) : Sh.lenOf { S with fs := S.fs.set i f } i = f.p.length := by
  unfold Sh.lenOf
  rw [List.getElem?_set_self hi]
theorem RoomOk.files (h : RoomOk S R) {l : List File} (hl : ∀ i, Sh.lenOf { S with fs := l } i ≤ S.lenOf i) : RoomOk { S with fs := l } R :=
  ⟨h.left, h.off, h.room, Int.le_trans (Int.ofNat_le.2 (used_le (S := S) (S' := { S with fs := l }) (fun i hi => .inl ⟨hi, hl i⟩))) h.used, h.sub, h.nn, h.no, h.nm⟩
theorem RoomOk.setFile (h : RoomOk S R) {i : Nat} {f f' : File} (hf : S.fs[i]? = some f) (hl : f'.p.length ≤ f.p.length) : RoomOk (S.setFile i f') R := by
  refine h.files (fun j => ?_)
  by_cases e : j = i
  · subst e
    rw [lenOf_same (S := S) j f' (List.getElem?_eq_some_iff.1 hf).1]
    unfold Sh.lenOf
    rw [hf]
    exact hl
  · rw [lenOf_set (S := S) (fs := S.fs) i f' j e]
    exact Nat.le_refl _
theorem RoomOk.create (h : RoomOk S R) {s : Nm} (hs : s.length ≤ 3) : RoomOk (S.create s).1 R := by
  unfold Sh.create
  split
  · exact h
  split
  · exact h.act
  split
  · exact h.act
  · rw [h.act1]
    have hid : ∀ i, i ∈ Sh.ids (Sh.setTo { { S with left := -1, off := false, done := wrap64 (S.done + 1) } with fs := S.fs ++ [⟨[], 0⟩] } s (some S.fs.length)) ↔ i ∈ S.ids ∨ i = S.fs.length := by
      intro i
      rw [mem_ids, mem_ids]
      simp only [Sh.setTo, List.mem_append, List.mem_singleton]
      constructor
      · rintro (h | ⟨m, h | rfl, hm⟩)
        · exact .inl (.inl h)
        · exact .inl (.inr ⟨m, h, hm⟩)
        · exact .inr (by simpa using hm.symm)
      · rintro ((h | ⟨m, h, hm⟩) | rfl)
        · exact .inl h
        · exact .inr ⟨m, .inl h, hm⟩
        · exact .inr ⟨_, .inr rfl, rfl⟩
    refine ⟨rfl, rfl, h.room, Int.le_trans (Int.ofNat_le.2 (used_le (S := S) (fun i hi => ?_))) h.used, fun q hq => ?_, fun q hq => ?_, h.no, fun m hm => ?_⟩
    · by_cases e : i = S.fs.length
      · subst e
        right
        simp [Sh.lenOf, Sh.setTo]
      · refine .inl ⟨((hid i).1 hi).resolve_right e, ?_⟩
        unfold Sh.lenOf Sh.setTo
        by_cases hi2 : i < S.fs.length
        · simp only [List.getElem?_append_left hi2]
          exact Nat.le_refl _
        · have h1 : S.fs.length ≤ i := by omega
          have h2 : (S.fs ++ [(⟨[], 0⟩ : File)])[i]? = none := List.getElem?_eq_none (by simp; omega)
          simp only [h2]
          exact Nat.zero_le _
    · rcases mem_put hq with rfl | hq
      · exact (hid _).2 (.inr rfl)
      · exact (hid _).2 (.inl (h.sub q hq))
    · rcases mem_put hq with rfl | hq
      · exact hs
      · exact h.nn q hq
    · rcases List.mem_append.1 hm with hm | hm
      · exact h.nm m hm
      · simp at hm
        subst hm
        exact hs
theorem RoomOk.append (h : RoomOk S R) (s : Nm) (p : List UInt8) : RoomOk (S.append s p).1 R := by
  unfold Sh.append
  split
  · exact h.act
  split
  · exact h.act
  · rename_i i hi
    split
    · exact h.act
    · rename_i hroom
      split
      · exact h.act
      · rename_i f hf
        rw [h.act1]
        have hlt := (List.getElem?_eq_some_iff.1 hf).1
        refine ⟨rfl, rfl, h.room, ?_, h.sub, h.nn, h.no, h.nm⟩
        have hu : Sh.used (Sh.setFile { S with left := -1, off := false, done := wrap64 (S.done + 1) } i { f with p := f.p ++ p }) ≤ S.used + p.length := by
          refine sum_add (i := i) ?_ (fun x hx => ?_) _ (ids_nodup S)
          · have h1 : Sh.lenOf (Sh.setFile { S with left := -1, off := false, done := wrap64 (S.done + 1) } i { f with p := f.p ++ p }) i = f.p.length + p.length := by
              unfold Sh.lenOf Sh.setFile
              simp [hlt]
            have h2 : S.lenOf i = f.p.length := by unfold Sh.lenOf; rw [hf]
            omega
          · unfold Sh.lenOf Sh.setFile
            simp only
            rw [List.getElem?_set_ne (fun e => hx e.symm)]
            exact Nat.le_refl _
        have h9 := h.room
        show (Sh.used (Sh.setFile { S with left := -1, off := false, done := wrap64 (S.done + 1) } i { f with p := f.p ++ p }) : Int) ≤ R
        omega
theorem RoomOk.sync (h : RoomOk S R) (s : Nm) : RoomOk (S.sync s).1 R := by
  unfold Sh.sync
  split
  · exact h.act
  split
  · exact h.act
  split
  · exact h.act
  · rename_i f hf
    exact h.act.setFile (f := f) (by rw [act_fs]; exact hf) (Nat.le_refl _)
theorem RoomOk.cut (h : RoomOk S R) (s : Nm) (n : Int) : RoomOk (S.cut s n).1 R := by
  unfold Sh.cut
  split
  · exact h.act
  split
  · exact h.act
  split
  · exact h.act
  split
  · exact h.act
  · rename_i f hf
    exact h.act.setFile (f := f) (by rw [act_fs]; exact hf) (by simp; omega)
theorem RoomOk.names (h : RoomOk S R) : RoomOk S.names.1 R := by
  unfold Sh.names
  rw [h.act1]
  refine ⟨rfl, rfl, h.room, Int.le_trans (Int.ofNat_le.2 (used_le (S := S) (fun i hi => ?_))) h.used, fun q hq => mem_ids.2 (.inl ⟨q, hq, rfl⟩), h.nn, h.nn, fun m hm => (nomatch hm)⟩
  rcases mem_ids.1 hi with ⟨q, hq, rfl⟩ | ⟨m, hm, _⟩
  · exact .inl ⟨h.sub q hq, Nat.le_refl _⟩
  · cases hm
theorem RoomOk.delete (h : RoomOk S R) {s : Nm} (hs : s.length ≤ 3) : RoomOk (S.delete s).1 R := by
  unfold Sh.delete
  split
  · exact h.act
  split
  · exact h.act
  · rw [h.act1]
    have hid : ∀ i, i ∈ Sh.ids (Sh.setTo { S with left := -1, off := false, done := wrap64 (S.done + 1) } s none) ↔ i ∈ S.ids := by
      intro i
      rw [mem_ids, mem_ids]
      simp only [Sh.setTo, List.mem_append, List.mem_singleton]
      constructor
      · rintro (h | ⟨m, h | rfl, hm⟩)
        · exact .inl h
        · exact .inr ⟨m, h, hm⟩
        · cases hm
      · rintro (h | ⟨m, h, hm⟩)
        · exact .inl h
        · exact .inr ⟨m, .inl h, hm⟩
    refine ⟨rfl, rfl, h.room, Int.le_trans (Int.ofNat_le.2 (used_le (S := S) (fun i hi => .inl ⟨(hid i).1 hi, Nat.le_refl _⟩))) h.used, fun q hq => (hid _).2 (h.sub q (mem_del hq)), fun q hq => h.nn q (mem_del hq), h.no, fun m hm => ?_⟩
    rcases List.mem_append.1 hm with hm | hm
    · exact h.nm m hm
    · simp at hm
      subst hm
      exact hs
theorem RoomOk.rename (h : RoomOk S R) {s t : Nm} (ht : t.length ≤ 3) : RoomOk (S.rename s t).1 R := by
  unfold Sh.rename
  split
  · exact h
  split
  · exact h.act
  split
  · exact h.act
  · rename_i j hj
    split
    · exact h.act
    · rw [h.act1]
      have hjs := h.sub _ (mem_of_look hj)
      have hid : ∀ i, i ∈ Sh.ids { { S with left := -1, off := false, done := wrap64 (S.done + 1) } with now := del (put S.now t j) s, moves := S.moves ++ [⟨t, some j, s⟩] } ↔ i ∈ S.ids := by
        intro i
        rw [mem_ids, mem_ids]
        simp only [List.mem_append, List.mem_singleton]
        constructor
        · rintro (h | ⟨m, h | rfl, hm⟩)
          · exact .inl h
          · exact .inr ⟨m, h, hm⟩
          · simp at hm
            subst hm
            exact mem_ids.1 hjs
        · rintro (h | ⟨m, h, hm⟩)
          · exact .inl h
          · exact .inr ⟨m, .inl h, hm⟩
      refine ⟨rfl, rfl, h.room, Int.le_trans (Int.ofNat_le.2 (used_le (S := S) (fun i hi => .inl ⟨(hid i).1 hi, Nat.le_refl _⟩))) h.used, fun q hq => (hid _).2 ?_, fun q hq => ?_, h.no, fun m hm => ?_⟩
      · rcases mem_put (mem_del hq) with rfl | hq
        · exact hjs
        · exact h.sub q hq
      · rcases mem_put (mem_del hq) with rfl | hq
        · exact ht
        · exact h.nn q hq
      · rcases List.mem_append.1 hm with hm | hm
        · exact h.nm m hm
        · simp at hm
          subst hm
          exact ht
theorem redos_in {P : Nat → Prop} {Q : Nm → Prop} : ∀ (l : List Mv) (m : List (Nm × Nat)), (∀ q ∈ m, P q.2 ∧ Q q.1) → (∀ v ∈ l, (∀ i, v.b = some i → P i) ∧ Q v.name) → ∀ q ∈ l.foldl Sh.redo m, P q.2 ∧ Q q.1
  | [], m, h, _ => h
  | v :: r, m, h, h2 => by
    refine redos_in r (Sh.redo m v) (fun q hq => ?_) (fun x hx => h2 x (List.mem_cons_of_mem _ hx))
    unfold Sh.redo at hq
    have hv := h2 v List.mem_cons_self
    cases hb : v.b with
    | none =>
      rw [hb] at hq
      exact h q (mem_del (mem_del hq))
    | some i =>
      rw [hb] at hq
      rcases mem_put (mem_del hq) with rfl | hq
      · exact ⟨hv.1 i hb, hv.2⟩
      · exact h q hq
theorem RoomOk.fall (h : RoomOk S R) (names bytes : Int) : RoomOk (S.fall names bytes) R := by
  have hk := redos_in (P := fun i => i ∈ S.ids) (Q := fun s => s.length ≤ 3) (S.moves.take (min (max names 0) S.moves.length).toNat) S.old (fun q hq => ⟨mem_ids.2 (.inl ⟨q, hq, rfl⟩), h.no q hq⟩)
    (fun v hv => ⟨fun i hi => mem_ids.2 (.inr ⟨v, List.mem_of_mem_take hv, hi⟩), h.nm v (List.mem_of_mem_take hv)⟩)
  refine ⟨rfl, rfl, h.room, Int.le_trans (Int.ofNat_le.2 (used_le (S := S) (fun i hi => ?_))) h.used, fun q hq => mem_ids.2 (.inl ⟨q, hq, rfl⟩), fun q hq => (hk q hq).2, fun q hq => (hk q hq).2, fun m hm => (nomatch hm)⟩
  rcases mem_ids.1 hi with ⟨q, hq, rfl⟩ | ⟨m, hm, _⟩
  · refine .inl ⟨(hk q hq).1, ?_⟩
    unfold Sh.lenOf
    show (match (S.fallFiles (S.fallNow names) bytes)[q.2]? with | some f => f.p.length | none => 0) ≤ _
    unfold Sh.fallFiles
    rw [List.getElem?_mapIdx]
    cases S.fs[q.2]? with
    | none => exact Nat.le_refl _
    | some f =>
      simp only [Option.map_some]
      split
      · exact lost_len bytes f
      · exact Nat.le_refl _
  · cases hm
theorem RoomOk.do_ (h : RoomOk S R) (x : LAct) (hx : x.k % 12 ≠ 9) : RoomOk (doS S x) R := by
  have ha := nmOf_le x.a
  have hb := nmOf_le x.b
  unfold doS
  split
  · exact h.create ha
  split
  · exact h.append _ _
  split
  · exact h.sync _
  split
  · exact h.names
  split
  · exact h.rename hb
  split
  · exact h.delete ha
  split
  · exact h.cut _ _
  exact h.fall _ _
theorem RoomOk.new (R : Int) (h : 0 ≤ R) : RoomOk (Sh.new R) R :=
  ⟨rfl, rfl, rfl, h, fun q hq => (nomatch hq), fun q hq => (nomatch hq), fun q hq => (nomatch hq), fun m hm => (nomatch hm)⟩
/-- Behind the names: nothing is left of what has no name. -/
theorem gone_used (h : RoomOk S R) (hn : S.now = []) : S.names = ({ S with left := -1, off := false, done := wrap64 (S.done + 1), old := [], moves := [] }, 0) ∧ Sh.used { S with left := -1, off := false, done := wrap64 (S.done + 1), old := [], moves := [] } = 0 := by
  refine ⟨?_, rfl⟩
  unfold Sh.names
  rw [h.act1, hn]
  rfl
theorem delete_now (h : RoomOk S R) (s : Nm) : ∀ q ∈ (S.delete s).1.now, q ∈ S.now ∧ q.1 ≠ s := by
  intro q hq
  unfold Sh.delete at hq
  rw [h.act1] at hq
  simp only [Bool.true_eq_false, if_false] at hq
  split at hq
  · rename_i hl
    refine ⟨hq, fun e => ?_⟩
    cases hlk : look S.now s with
    | none => exact look_none_iff.1 hlk q hq e
    | some i => rw [hlk] at hl; cases hl
  · have hq : q ∈ del S.now s := hq
    exact ⟨mem_del hq, by have := (List.mem_filter.1 hq).2; simpa using this⟩
theorem delete_moves (s : Nm) : (S.delete s).1.moves.length ≤ S.moves.length + 1 ∧ (S.delete s).1.fs = S.fs := by
  unfold Sh.delete
  split
  · rw [act_moves, act_fs]; exact ⟨by omega, rfl⟩
  split
  · rw [act_moves, act_fs]; exact ⟨by omega, rfl⟩
  · refine ⟨?_, ?_⟩
    · show (S.act.1.moves ++ [_]).length ≤ _
      rw [act_moves]
      simp
    · show S.act.1.fs = _
      rw [act_fs]
end
end Go.Proofs.Ytpmbeeddciepjaa
