/- The plain law behind ShelfSafe: what is safe stays, whatever is done. -/
import Derived.Test.YtpmbeeddciepjaaRh
namespace Go.Proofs.Ytpmbeeddciepjaa
set_option linter.unusedSimpArgs false
set_option linter.unusedVariables false

def Zz : Nm := [122]
/-- A file with bytes p, all safe, has the name z now and did when names were safe; no other name has it, and nobody has touched either since. -/
structure SafeZ (S : Sh) (p : List UInt8) (i : Nat) : Prop where
  now : look S.now Zz = some i
  old : look S.old Zz = some i
  file : S.fs[i]? = some ⟨p, p.length⟩
  nowi : ∀ q ∈ S.now, q.2 = i → q.1 = Zz
  oldi : ∀ q ∈ S.old, q.2 = i → q.1 = Zz
  mvn : ∀ m ∈ S.moves, m.name ≠ Zz
  mvf : ∀ m ∈ S.moves, m.frm ≠ Zz
  mvb : ∀ m ∈ S.moves, m.b ≠ some i

section
variable {S : Sh} {p : List UInt8} {i : Nat}
theorem SafeZ.act (h : SafeZ S p i) : SafeZ S.act.1 p i :=
  ⟨by rw [act_now]; exact h.now, by rw [act_old]; exact h.old, by rw [act_fs]; exact h.file, by rw [act_now]; exact h.nowi, by rw [act_old]; exact h.oldi, by rw [act_moves]; exact h.mvn, by rw [act_moves]; exact h.mvf, by rw [act_moves]; exact h.mvb⟩
theorem SafeZ.lt (h : SafeZ S p i) : i < S.fs.length := (List.getElem?_eq_some_iff.1 h.file).1
theorem SafeZ.ne (h : SafeZ S p i) {s : Nm} (hs : s ≠ Zz) {j : Nat} (hl : look S.now s = some j) : j ≠ i := fun e => hs (h.nowi _ (mem_of_look hl) e)
theorem mem_put {m : List (Nm × Nat)} {s : Nm} {i : Nat} {q : Nm × Nat} (h : q ∈ put m s i) : q = (s, i) ∨ q ∈ m := by
  rcases List.mem_cons.1 h with h | h
  · exact .inl h
  · exact .inr (List.mem_filter.1 h).1
theorem mem_del {m : List (Nm × Nat)} {s : Nm} {q : Nm × Nat} (h : q ∈ del m s) : q ∈ m := (List.mem_filter.1 h).1
theorem SafeZ.set (h : SafeZ S p i) {s : Nm} (hs : s ≠ Zz) (b : Option Nat) (hb : b ≠ some i) : SafeZ (S.setTo s b) p i := by
  have hz : Zz ≠ s := fun e => hs e.symm
  have hnil : ([] : Nm) ≠ Zz := by decide
  cases b with
  | none =>
    refine ⟨?_, h.old, h.file, fun q hq e => h.nowi q (mem_del hq) e, h.oldi, fun m hm => ?_, fun m hm => ?_, fun m hm => ?_⟩
    · show look (del S.now s) Zz = _
      rw [look_del_other _ hz]
      exact h.now
    all_goals
      rcases List.mem_append.1 hm with hm | hm
    · exact h.mvn m hm
    · simp at hm; subst hm; exact hs
    · exact h.mvf m hm
    · simp at hm; subst hm; exact hnil
    · exact h.mvb m hm
    · simp at hm; subst hm; simp
  | some j =>
    refine ⟨?_, h.old, h.file, fun q hq e => ?_, h.oldi, fun m hm => ?_, fun m hm => ?_, fun m hm => ?_⟩
    · show look (put S.now s j) Zz = _
      rw [look_put_other _ _ hz]
      exact h.now
    · rcases mem_put hq with rfl | hq
      · exact absurd (congrArg some e) hb
      · exact h.nowi q hq e
    all_goals
      rcases List.mem_append.1 hm with hm | hm
    · exact h.mvn m hm
    · simp at hm; subst hm; exact hs
    · exact h.mvf m hm
    · simp at hm; subst hm; exact hnil
    · exact h.mvb m hm
    · simp at hm; subst hm; exact hb
theorem SafeZ.files (h : SafeZ S p i) {l : List File} (hl : l[i]? = S.fs[i]?) : SafeZ { S with fs := l } p i :=
  ⟨h.now, h.old, hl.trans h.file, h.nowi, h.oldi, h.mvn, h.mvf, h.mvb⟩
theorem SafeZ.setFile (h : SafeZ S p i) {j : Nat} (hj : j ≠ i) (f : File) : SafeZ (S.setFile j f) p i := h.files (by rw [List.getElem?_set_ne hj])
theorem SafeZ.create (h : SafeZ S p i) {s : Nm} (hs : s ≠ Zz) : SafeZ (S.create s).1 p i := by
  unfold Sh.create
  split
  · exact h
  split
  · exact h.act
  split
  · exact h.act
  · show SafeZ (Sh.setTo { S.act.1 with fs := S.fs ++ [⟨[], 0⟩] } s (some S.fs.length)) p i
    refine SafeZ.set ?_ hs _ ?_
    · have h2 := h.act.files (l := S.fs ++ [⟨[], 0⟩]) (by rw [act_fs, List.getElem?_append_left h.lt])
      exact h2
    · have := h.lt
      simp
      omega
theorem SafeZ.append (h : SafeZ S p i) {s : Nm} (hs : s ≠ Zz) (q : List UInt8) : SafeZ (S.append s q).1 p i := by
  unfold Sh.append
  split
  · exact h.act
  split
  · exact h.act
  · rename_i j hj
    split
    · exact h.act
    split
    · exact h.act
    · exact h.act.setFile (h.ne hs hj) _
theorem SafeZ.sync (h : SafeZ S p i) {s : Nm} (hs : s ≠ Zz) : SafeZ (S.sync s).1 p i := by
  unfold Sh.sync
  split
  · exact h.act
  split
  · exact h.act
  · rename_i j hj
    split
    · exact h.act
    · exact h.act.setFile (h.ne hs hj) _
theorem SafeZ.cut (h : SafeZ S p i) {s : Nm} (hs : s ≠ Zz) (n : Int) : SafeZ (S.cut s n).1 p i := by
  unfold Sh.cut
  split
  · exact h.act
  split
  · exact h.act
  · rename_i j hj
    split
    · exact h.act
    split
    · exact h.act
    · exact h.act.setFile (h.ne hs hj) _
theorem SafeZ.names (h : SafeZ S p i) : SafeZ S.names.1 p i := by
  unfold Sh.names
  split
  · exact h.act
  · exact ⟨h.act.now, h.now, h.act.file, h.act.nowi, h.nowi, fun m hm => (nomatch hm), fun m hm => (nomatch hm), fun m hm => (nomatch hm)⟩
theorem SafeZ.delete (h : SafeZ S p i) {s : Nm} (hs : s ≠ Zz) : SafeZ (S.delete s).1 p i := by
  unfold Sh.delete
  split
  · exact h.act
  split
  · exact h.act
  · exact h.act.set hs none (by simp)
theorem SafeZ.rename (h : SafeZ S p i) {s t : Nm} (hs : s ≠ Zz) (ht : t ≠ Zz) : SafeZ (S.rename s t).1 p i := by
  unfold Sh.rename
  split
  · exact h
  split
  · exact h.act
  split
  · exact h.act
  · rename_i j hj
    have hji := h.ne hs hj
    split
    · exact h.act
    · refine ⟨?_, h.act.old, h.act.file, fun q hq e => ?_, h.act.oldi, fun m hm => ?_, fun m hm => ?_, fun m hm => ?_⟩
      · show look (del (put S.now t j) s) Zz = _
        rw [look_del_other _ (fun e => hs e.symm), look_put_other _ _ (fun e => ht e.symm)]
        exact h.now
      · rcases mem_put (mem_del hq) with rfl | hq
        · exact absurd e hji
        · exact h.nowi q hq e
      all_goals
        rcases List.mem_append.1 hm with hm | hm
        · first | exact h.mvn m hm | exact h.mvf m hm | exact h.mvb m hm
        · simp at hm; subst hm; first | exact ht | exact hs | (simp; exact hji)
theorem redo_safe {m : List (Nm × Nat)} {v : Mv} (hl : look m Zz = some i) (hi : ∀ q ∈ m, q.2 = i → q.1 = Zz) (h1 : v.name ≠ Zz) (h2 : v.frm ≠ Zz) (h3 : v.b ≠ some i) : look (Sh.redo m v) Zz = some i ∧ ∀ q ∈ Sh.redo m v, q.2 = i → q.1 = Zz := by
  unfold Sh.redo
  cases hb : v.b with
  | none =>
    exact ⟨by rw [look_del_other _ (fun e => h2 e.symm)]; dsimp only; rw [look_del_other _ (fun e => h1 e.symm)]; exact hl, fun q hq e => hi q (mem_del (mem_del hq)) e⟩
  | some j =>
    refine ⟨by rw [look_del_other _ (fun e => h2 e.symm)]; dsimp only; rw [look_put_other _ _ (fun e => h1 e.symm)]; exact hl, fun q hq e => ?_⟩
    rcases mem_put (mem_del hq) with rfl | hq
    · exact absurd (hb.trans (congrArg some e)) h3
    · exact hi q hq e
theorem redos_safe : ∀ (l : List Mv) (m : List (Nm × Nat)), look m Zz = some i → (∀ q ∈ m, q.2 = i → q.1 = Zz) → (∀ v ∈ l, v.name ≠ Zz) → (∀ v ∈ l, v.frm ≠ Zz) → (∀ v ∈ l, v.b ≠ some i) →
    look (l.foldl Sh.redo m) Zz = some i ∧ ∀ q ∈ l.foldl Sh.redo m, q.2 = i → q.1 = Zz
  | [], m, h1, h2, _, _, _ => ⟨h1, h2⟩
  | v :: r, m, h1, h2, h3, h4, h5 => by
    obtain ⟨k1, k2⟩ := redo_safe h1 h2 (h3 v List.mem_cons_self) (h4 v List.mem_cons_self) (h5 v List.mem_cons_self)
    exact redos_safe r _ k1 k2 (fun x hx => h3 x (List.mem_cons_of_mem _ hx)) (fun x hx => h4 x (List.mem_cons_of_mem _ hx)) (fun x hx => h5 x (List.mem_cons_of_mem _ hx))
theorem lost_whole (bytes : Int) (p : List UInt8) : Sh.lost bytes ⟨p, p.length⟩ = ⟨p, p.length⟩ := by
  unfold Sh.lost
  have : min p.length (p.length + (min (max bytes 0) (p.length : Int)).toNat) = p.length := by omega
  simp only [this, List.take_length]
theorem SafeZ.fall (h : SafeZ S p i) (names bytes : Int) : SafeZ (S.fall names bytes) p i := by
  obtain ⟨k1, k2⟩ := redos_safe (S.moves.take (min (max names 0) S.moves.length).toNat) S.old h.old h.oldi (fun v hv => h.mvn v (List.mem_of_mem_take hv)) (fun v hv => h.mvf v (List.mem_of_mem_take hv)) (fun v hv => h.mvb v (List.mem_of_mem_take hv))
  refine ⟨k1, k1, ?_, k2, k2, fun m hm => (nomatch hm), fun m hm => (nomatch hm), fun m hm => (nomatch hm)⟩
  show (S.fallFiles (S.fallNow names) bytes)[i]? = _
  unfold Sh.fallFiles
  rw [List.getElem?_mapIdx, h.file]
  simp only [Option.map_some]
  split
  · rw [lost_whole]
  · rfl
theorem SafeZ.do_ (h : SafeZ S p i) (x : LAct) : SafeZ (doS S x) p i := by
  have ha := nmOf_z x.a
  have hb := nmOf_z x.b
  unfold doS
  split
  · exact h.create ha
  split
  · exact h.append ha _
  split
  · exact h.sync ha
  split
  · exact h.names
  split
  · exact h.rename ha hb
  split
  · exact h.delete ha
  split
  · exact h.cut ha _
  split
  · exact ⟨h.now, h.old, h.file, h.nowi, h.oldi, h.mvn, h.mvf, h.mvb⟩
  · exact h.fall _ _
end
end Go.Proofs.Ytpmbeeddciepjaa
