/- Walks: Delete, Sync, Cut. -/
import Derived.Test.YtpmbeeddciepjaaH
namespace Go.Proofs.Ytpmbeeddciepjaa
open Go.RowKit Go.Maps
set_option linter.unusedSimpArgs false
set_option linter.unusedVariables false

/-- One file has turned: its block, and the array that it had. -/
theorem IsShelf.setFileAt {w w' : World} {G : Gh} {S : Sh} (h : IsShelf w G S) {i b c c' : Nat} {a a' : Option Addr} {f f' : File} (hb : G.bl[i]? = some b) (hba : G.ba[i]? = some (a, c)) (hf : S.fs[i]? = some f)
    (hu : Upd w w' (fun k => k = b ∨ blockOf a = some k)) (hfile : FileIs w' b a' c' f') (ha : blockOf a' = blockOf a ∨ ∃ g, blockOf a' = some g ∧ w.heap.size ≤ g) :
    IsShelf w' { G with ba := G.ba.set i (a', c') } (S.setFile i f') ∧ Upd w w' G.own ∧ ∀ k, Gh.own { G with ba := G.ba.set i (a', c') } k → G.own k ∨ w.heap.size ≤ k := by
  have hil : i < G.ba.length := (List.getElem?_eq_some_iff.1 hba).1
  have hif : i < S.fs.length := (List.getElem?_eq_some_iff.1 hf).1
  have hra : ∀ g, blockOf a = some g → G.blk (.arr i) = some g := fun g hg => by simp [Gh.blk, hba, hg]
  have hrb : G.blk (.file i) = some b := hb
  have hblk : ∀ r k, Gh.blk { G with ba := G.ba.set i (a', c') } r = some k → G.blk r = some k ∨ (r = .arr i ∧ w.heap.size ≤ k) := by
    intro r k hr
    cases r with
    | arr j =>
      simp only [Gh.blk] at hr ⊢
      rw [List.getElem?_set] at hr
      split at hr
      · rename_i e
        subst e
        simp at hr
        rcases ha with ha | ⟨g, hg, hl⟩
        · rw [ha] at hr
          exact .inl (by simp [hba, hr])
        · rw [hg] at hr
          cases hr
          exact .inr ⟨rfl, hl⟩
      · exact .inl hr
    | _ => exact .inl hr
  have far : ∀ r k, G.blk r = some k → r ≠ .file i → r ≠ .arr i → ¬ (k = b ∨ blockOf a = some k) := by
    intro r k hr h1 h2 e
    rcases e with e | e
    · exact h.ne hr hrb h1 e
    · exact h.ne hr (hra k e) h2 rfl
  refine ⟨?_, hu.mono (fun k _ hk => ?_), fun k hk => ?_⟩
  · exact {
      cells := hu.heap h.cells (far .sh _ rfl (by simp) (by simp))
      now := h.now.upd hu (far .now _ rfl (by simp) (by simp))
      old := h.old.upd hu (far .old _ rfl (by simp) (by simp))
      mv := h.mv.upd hu (fun g hg => far .mv g hg (by simp) (by simp))
      mvlt := h.mvlt
      lbl := by simp [Sh.setFile, h.lbl]
      lba := by simp [Sh.setFile, h.lba]
      file := fun j b2 a2 c2 f2 h1 h2 h3 => by
        simp only [Sh.setFile] at h1 h2 h3
        rw [List.getElem?_set] at h2 h3
        by_cases e : i = j
        · subst e
          rw [if_pos rfl, if_pos hil] at h2
          rw [if_pos rfl, if_pos hif] at h3
          rw [hb] at h1
          cases h1; cases h2; cases h3
          exact hfile
        · rw [if_neg e] at h2 h3
          exact (h.file j b2 a2 c2 f2 h1 h2 h3).upd hu (far (.file j) _ h1 (by simp; omega) (by simp)) (fun g hg => far (.arr j) g (by simp [Gh.blk, h2, hg]) (by simp) (by simp; omega))
      apart := fun r r' k hr hr' => by
        rcases hblk r k hr with h1 | ⟨rfl, h1⟩
        · rcases hblk r' k hr' with h2 | ⟨rfl, h2⟩
          · exact h.apart r r' k h1 h2
          · have := h.lt h1; omega
        · rcases hblk r' k hr' with h2 | ⟨rfl, h2⟩
          · have := h.lt h2; omega
          · rfl
      left1 := h.left1
      left2 := h.left2
      small := h.small }
  · rcases hk with rfl | hk
    · exact ⟨.file i, hrb⟩
    · exact ⟨.arr i, hra k hk⟩
  · obtain ⟨r, hr⟩ := hk
    rcases hblk r k hr with h1 | ⟨_, h1⟩
    · exact .inl ⟨r, h1⟩
    · exact .inr h1

theorem IsShelf.setFile {w w' : World} {G : Gh} {S : Sh} (h : IsShelf w G S) {i b c c' : Nat} {a a' : Option Addr} {f f' : File} (hb : G.bl[i]? = some b) (hba : G.ba[i]? = some (a, c)) (hf : S.fs[i]? = some f)
    (hu : Upd w w' (fun k => k = b ∨ blockOf a = some k)) (hfile : FileIs w' b a' c' f') (ha : blockOf a' = blockOf a ∨ ∃ g, blockOf a' = some g ∧ w.heap.size ≤ g) : After w w' G (S.setFile i f') :=
  let ⟨h1, h2, h3⟩ := h.setFileAt hb hba hf hu hfile ha
  ⟨_, h1, rfl, h2, h3⟩

theorem IsShelf.at_ {w : World} {G : Gh} {S : Sh} (h : IsShelf w G S) {s : Nm} {i : Nat} (hl : look S.now s = some i) :
    ∃ b a c f, G.bl[i]? = some b ∧ G.ba[i]? = some (a, c) ∧ S.fs[i]? = some f ∧ FileIs w b a c f := by
  have hi : i < G.bl.length := h.now.look_lt hl
  have h1 : i < S.fs.length := by rw [← h.lbl]; exact hi
  have h2 : i < G.ba.length := by rw [h.lba]; exact h1
  refine ⟨_, (G.ba[i]).1, (G.ba[i]).2, _, List.getElem?_eq_getElem hi, List.getElem?_eq_getElem h2, List.getElem?_eq_getElem h1, ?_⟩
  exact h.file i _ _ _ _ (List.getElem?_eq_getElem hi) (List.getElem?_eq_getElem h2) (List.getElem?_eq_getElem h1)

set_option maxHeartbeats 400000 in
theorem delete_calls {G : Gh} {S : Sh} {w : World} (h : IsShelf w G S) (s : ByteArray) (hs : s.size ≤ Big) (hm : S.moves.length < Big) :
    Calls Try.prog 17 #[.pointer (some ⟨G.sb, 0, none⟩), .string s] w fun e w' => e = .returned (.int .i64 (S.delete s.data.toList).2) ∧ After w w' G (S.delete s.data.toList).1 := by
  by_cases h2 : S.act.2 = false
  · have he : S.delete s.data.toList = (S.act.1, 7) := by simp [Sh.delete, h2]
    rw [he]
    have H := Lib.hid h
    have HA := Lib.hid h2
    clear he h h2
    go_enter Try.func17, Try.ntmps17
    go_wp2_with (first
      | (go_at_call 20; refine (act_no H.out HA.out).mono ?_; rintro e w2 ⟨rfl, hi2, hu2, hs2⟩; have HS2 := Lib.hid hs2; clear hs2)
      | go_in)
    go_ret
    exact ⟨rfl, After.of_head hi2 hu2⟩
  simp only [Bool.not_eq_false] at h2
  have H := Lib.hid h
  have HA := Lib.hid h2
  cases hl : look S.now s.data.toList with
  | some i =>
    have he : S.delete s.data.toList = (S.act.1.setTo s.data.toList none, 0) := by simp [Sh.delete, h2, hl]
    rw [he]
    obtain ⟨bb, a, c, f, hbb, _, _, _⟩ := h.at_ hl
    have HL := Lib.hid (show look S.act.1.now s.data.toList = some i by rw [act_now]; exact hl)
    have hm' : S.act.1.moves.length < Big := by rw [act_moves]; exact hm
    have HB := Lib.hid hbb
    clear he h h2 hl hbb hm
    go_enter Try.func17, Try.ntmps17
    go_wp2_with (first
      | (go_at_call 20; refine (act_yes H.out HA.out).mono ?_; rintro e w2 ⟨rfl, hi2, hu2, hs2⟩; have HS2 := Lib.hid hs2; clear hs2; have H2 := Lib.hid hi2; clear hi2; have c0 : w2.cell? ⟨G.sb, 0, none⟩ = some (.map (some G.nb)) := (cell_of_heap H2.out.cells 0).trans rfl)
      | (at_lookup; refine wpList_look_found rfl _ _ 49 rfl 9 54 keyT Try.underlying49 zeroBook G.nb G.bl _ rfl H2.out.now s rfl (keyOfS hs) i HL.out bb HB.out ?_)
      | (go_at_call 21; refine (set_none H2.out s hs hm').mono ?_; rintro e w3 ⟨rfl, ha3⟩; have HA3 := Lib.hid ha3; clear ha3)
      | go_in)
    go_ret
    exact ⟨rfl, After.cons1 hu2 HA3.out⟩
  | none =>
    have he : S.delete s.data.toList = (S.act.1, 2) := by simp [Sh.delete, h2, hl]
    rw [he]
    have HL := Lib.hid (show look S.act.1.now s.data.toList = none by rw [act_now]; exact hl)
    clear he h h2 hl hm
    go_enter Try.func17, Try.ntmps17
    go_wp2_with (first
      | (go_at_call 20; refine (act_yes H.out HA.out).mono ?_; rintro e w2 ⟨rfl, hi2, hu2, hs2⟩; have HS2 := Lib.hid hs2; clear hs2; have H2 := Lib.hid hi2; clear hi2; have c0 : w2.cell? ⟨G.sb, 0, none⟩ = some (.map (some G.nb)) := (cell_of_heap H2.out.cells 0).trans rfl)
      | (at_lookup; refine wpList_look_none rfl _ _ 49 rfl 9 54 keyT Try.underlying49 zeroBook G.nb G.bl _ rfl H2.out.now s rfl (keyOfS hs) HL.out ?_)
      | go_in)
    go_ret
    exact ⟨rfl, After.of_head H2.out hu2⟩

set_option maxHeartbeats 400000 in
theorem sync_calls {G : Gh} {S : Sh} {w : World} (h : IsShelf w G S) (s : ByteArray) (hs : s.size ≤ Big) :
    Calls Try.prog 9 #[.pointer (some ⟨G.sb, 0, none⟩), .string s] w fun e w' => e = .returned (.int .i64 (S.sync s.data.toList).2) ∧ After w w' G (S.sync s.data.toList).1 := by
  by_cases h2 : S.act.2 = false
  · have he : S.sync s.data.toList = (S.act.1, 7) := by simp [Sh.sync, h2]
    rw [he]
    have H := Lib.hid h
    have HA := Lib.hid h2
    clear he h h2
    go_enter Try.func9, Try.ntmps9
    go_wp2_with (first
      | (go_at_call 20; refine (act_no H.out HA.out).mono ?_; rintro e w2 ⟨rfl, hi2, hu2, hs2⟩; have HS2 := Lib.hid hs2; clear hs2)
      | go_in)
    go_ret
    exact ⟨rfl, After.of_head hi2 hu2⟩
  simp only [Bool.not_eq_false] at h2
  have H := Lib.hid h
  have HA := Lib.hid h2
  cases hl : look S.now s.data.toList with
  | some i =>
    obtain ⟨bb, a, c, f, hbb, hba, hf, hfile⟩ := h.at_ hl
    have he : S.sync s.data.toList = (S.act.1.setFile i { f with safe := f.p.length }, 0) := by simp [Sh.sync, h2, hl, hf]
    rw [he]
    have HL := Lib.hid (show look S.act.1.now s.data.toList = some i by rw [act_now]; exact hl)
    have HB := Lib.hid hbb
    have HBA := Lib.hid hba
    have HFS := Lib.hid (show S.act.1.fs[i]? = some f by rw [act_fs]; exact hf)
    clear he h h2 hl hbb hfile hf hba
    go_enter Try.func9, Try.ntmps9
    go_wp2_with (first
      | (go_at_call 20; refine (act_yes H.out HA.out).mono ?_; rintro e w2 ⟨rfl, hi2, hu2, hs2⟩; have HS2 := Lib.hid hs2; clear hs2; have H2 := Lib.hid hi2; clear hi2; have c0 : w2.cell? ⟨G.sb, 0, none⟩ = some (.map (some G.nb)) := (cell_of_heap H2.out.cells 0).trans rfl; have HF := Lib.hid (H2.out.file i _ _ _ _ HB.out HBA.out HFS.out); have d0 : w2.cell? ⟨bb, 0, none⟩ = some (.slice a f.p.length c) := (cell_of_heap HF.out.1 0).trans rfl; have d1 : w2.cell? ⟨bb, 1, none⟩ = some (.int .i64 f.safe) := (cell_of_heap HF.out.1 1).trans rfl; have f1 : w2.frozen? ⟨bb, 1, none⟩ = false := free_of_heap HF.out.1 1)
      | (at_lookup; refine wpList_look_found rfl _ _ 49 rfl 9 54 keyT Try.underlying49 zeroBook G.nb G.bl _ rfl H2.out.now s rfl (keyOfS hs) i HL.out bb HB.out ?_)
      | go_in)
    go_ret
    refine ⟨rfl, After.cons1 hu2 ?_⟩
    have hu3 : Upd w2 (w2.setCell ⟨bb, 1, none⟩ (.int .i64 f.p.length)) (fun k => k = bb ∨ blockOf a = some k) := (Upd.refl w2 _).put (.inl (.inl rfl))
    have hne : ∀ g, blockOf a = some g → g ≠ bb := fun g hg => H2.out.ne (r := .arr i) (r' := .file i) (by simp [Gh.blk, HBA.out, hg]) HB.out (by simp)
    refine H2.out.setFile HB.out HBA.out HFS.out hu3 ⟨heap_setCell_same (i := 1) HF.out.1 _, HF.out.2.1.upd ((Upd.refl w2 (fun k => k = bb)).put (.inl rfl)) (fun g hg => hne g hg), HF.out.2.2.1, Nat.le_refl _⟩ (.inl rfl)
  | none =>
    have he : S.sync s.data.toList = (S.act.1, 2) := by simp [Sh.sync, h2, hl]
    rw [he]
    have HL := Lib.hid (show look S.act.1.now s.data.toList = none by rw [act_now]; exact hl)
    clear he h h2 hl
    go_enter Try.func9, Try.ntmps9
    go_wp2_with (first
      | (go_at_call 20; refine (act_yes H.out HA.out).mono ?_; rintro e w2 ⟨rfl, hi2, hu2, hs2⟩; have HS2 := Lib.hid hs2; clear hs2; have H2 := Lib.hid hi2; clear hi2; have c0 : w2.cell? ⟨G.sb, 0, none⟩ = some (.map (some G.nb)) := (cell_of_heap H2.out.cells 0).trans rfl)
      | (at_lookup; refine wpList_look_none rfl _ _ 49 rfl 9 54 keyT Try.underlying49 zeroBook G.nb G.bl _ rfl H2.out.now s rfl (keyOfS hs) HL.out ?_)
      | go_in)
    go_ret
    exact ⟨rfl, After.of_head H2.out hu2⟩
end Go.Proofs.Ytpmbeeddciepjaa
