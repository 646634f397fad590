/- Walks: Cut. -/
import Derived.Test.YtpmbeeddciepjaaI
namespace Go.Proofs.Ytpmbeeddciepjaa
open Go.RowKit Go.Maps
set_option linter.unusedSimpArgs false
set_option linter.unusedVariables false

set_option maxHeartbeats 400000 in
theorem cut_calls {G : Gh} {S : Sh} {w : World} (h : IsShelf w G S) (s : ByteArray) (hs : s.size ≤ Big) (n : Int) :
    Calls Try.prog 31 #[.pointer (some ⟨G.sb, 0, none⟩), .string s, .int .i64 n] w fun e w' => e = .returned (.int .i64 (S.cut s.data.toList n).2) ∧ After w w' G (S.cut s.data.toList n).1 := by
  by_cases h2 : S.act.2 = false
  · have he : S.cut s.data.toList n = (S.act.1, 7) := by simp [Sh.cut, h2]
    rw [he]
    have H := Lib.hid h
    have HA := Lib.hid h2
    clear he h h2
    go_enter Try.func31, Try.ntmps31
    go_wp2_with (first
        | (go_at_call 20; refine (act_no H.out HA.out).mono ?_; rintro e w2 ⟨rfl, hi2, hu2, hs2⟩; have HS2 := Lib.hid hs2; clear hs2)
        | go_in)
    go_ret
    exact ⟨rfl, After.of_head hi2 hu2⟩
  simp only [Bool.not_eq_false] at h2
  have H := Lib.hid h
  have HA := Lib.hid h2
  cases hl : look S.now s.data.toList with
  | none =>
    have he : S.cut s.data.toList n = (S.act.1, 2) := by simp [Sh.cut, h2, hl]
    rw [he]
    have HL := Lib.hid (show look S.act.1.now s.data.toList = none by rw [act_now]; exact hl)
    clear he h h2 hl
    go_enter Try.func31, Try.ntmps31
    go_wp2_with (first
        | (go_at_call 20; refine (act_yes H.out HA.out).mono ?_; rintro e w2 ⟨rfl, hi2, hu2, hs2⟩; have HS2 := Lib.hid hs2; clear hs2; have H2 := Lib.hid hi2; clear hi2; have c0 : w2.cell? ⟨G.sb, 0, none⟩ = some (.map (some G.nb)) := (cell_of_heap H2.out.cells 0).trans rfl)
        | (at_lookup; refine wpList_look_none rfl _ _ 49 rfl 9 54 keyT Try.underlying49 zeroBook G.nb G.bl _ rfl H2.out.now s rfl (keyOfS hs) HL.out ?_)
        | go_in)
    go_ret
    exact ⟨rfl, After.of_head H2.out hu2⟩
  | some i =>
    obtain ⟨bb, a, c, f, hbb, hba, hf, hfile⟩ := h.at_ hl
    have hlen : S.lenOf i = f.p.length := by simp [Sh.lenOf, hf]
    have HL := Lib.hid (show look S.act.1.now s.data.toList = some i by rw [act_now]; exact hl)
    have HB := Lib.hid hbb
    have HBA := Lib.hid hba
    have HFS := Lib.hid (show S.act.1.fs[i]? = some f by rw [act_fs]; exact hf)
    by_cases hn0 : n < 0
    · have he : S.cut s.data.toList n = (S.act.1, 1) := by simp [Sh.cut, h2, hl, hn0]
      rw [he]
      clear he h h2 hl hbb hfile hf hba hlen
      go_enter Try.func31, Try.ntmps31
      go_wp2_with (first
        | (go_at_call 20; refine (act_yes H.out HA.out).mono ?_; rintro e w2 ⟨rfl, hi2, hu2, hs2⟩; have HS2 := Lib.hid hs2; clear hs2; have H2 := Lib.hid hi2; clear hi2; have c0 : w2.cell? ⟨G.sb, 0, none⟩ = some (.map (some G.nb)) := (cell_of_heap H2.out.cells 0).trans rfl; have HF := Lib.hid (H2.out.file i _ _ _ _ HB.out HBA.out HFS.out); have d0 : w2.cell? ⟨bb, 0, none⟩ = some (.slice a f.p.length c) := (cell_of_heap HF.out.1 0).trans rfl; have d1 : w2.cell? ⟨bb, 1, none⟩ = some (.int .i64 f.safe) := (cell_of_heap HF.out.1 1).trans rfl; have f0 : w2.frozen? ⟨bb, 0, none⟩ = false := free_of_heap HF.out.1 0; have f1 : w2.frozen? ⟨bb, 1, none⟩ = false := free_of_heap HF.out.1 1)
        | (at_lookup; refine wpList_look_found rfl _ _ 49 rfl 9 54 keyT Try.underlying49 zeroBook G.nb G.bl _ rfl H2.out.now s rfl (keyOfS hs) i HL.out bb HB.out ?_)
        | go_in)
      go_ret
      exact ⟨rfl, After.of_head H2.out hu2⟩
    · obtain ⟨k, rfl⟩ := Int.eq_ofNat_of_zero_le (Int.not_lt.1 hn0)
      by_cases hn1 : f.p.length < k
      · have he : S.cut s.data.toList k = (S.act.1, 1) := by
          have : ((k : Int) < 0 ∨ (k : Int) > S.lenOf i) := by rw [hlen]; omega
          unfold Sh.cut
          rw [if_neg (by simp [h2])]
          simp only [hl]
          rw [if_pos this]
        rw [he]
        clear he h h2 hl hbb hfile hf hba hlen
        go_enter Try.func31, Try.ntmps31
        go_wp2_with (first
        | (go_at_call 20; refine (act_yes H.out HA.out).mono ?_; rintro e w2 ⟨rfl, hi2, hu2, hs2⟩; have HS2 := Lib.hid hs2; clear hs2; have H2 := Lib.hid hi2; clear hi2; have c0 : w2.cell? ⟨G.sb, 0, none⟩ = some (.map (some G.nb)) := (cell_of_heap H2.out.cells 0).trans rfl; have HF := Lib.hid (H2.out.file i _ _ _ _ HB.out HBA.out HFS.out); have d0 : w2.cell? ⟨bb, 0, none⟩ = some (.slice a f.p.length c) := (cell_of_heap HF.out.1 0).trans rfl; have d1 : w2.cell? ⟨bb, 1, none⟩ = some (.int .i64 f.safe) := (cell_of_heap HF.out.1 1).trans rfl; have f0 : w2.frozen? ⟨bb, 0, none⟩ = false := free_of_heap HF.out.1 0; have f1 : w2.frozen? ⟨bb, 1, none⟩ = false := free_of_heap HF.out.1 1)
        | (at_lookup; refine wpList_look_found rfl _ _ 49 rfl 9 54 keyT Try.underlying49 zeroBook G.nb G.bl _ rfl H2.out.now s rfl (keyOfS hs) i HL.out bb HB.out ?_)
        | go_in)
        go_ret
        exact ⟨rfl, After.of_head H2.out hu2⟩
      · have he : S.cut s.data.toList k = (S.act.1.setFile i ⟨f.p.take k, k⟩, 0) := by
          have : ¬ ((k : Int) < 0 ∨ (k : Int) > S.lenOf i) := by rw [hlen]; omega
          unfold Sh.cut
          rw [if_neg (by simp [h2])]
          simp only [hl, hf]
          rw [if_neg this]
          rfl
        rw [he]
        have hcap := hfile.2.1.cap
        clear he h h2 hl hbb hfile hf hba hlen
        have hk : k ≤ f.p.length := by omega
        go_enter Try.func31, Try.ntmps31
        go_wp2_with (first
        | (go_at_call 20; refine (act_yes H.out HA.out).mono ?_; rintro e w2 ⟨rfl, hi2, hu2, hs2⟩; have HS2 := Lib.hid hs2; clear hs2; have H2 := Lib.hid hi2; clear hi2; have c0 : w2.cell? ⟨G.sb, 0, none⟩ = some (.map (some G.nb)) := (cell_of_heap H2.out.cells 0).trans rfl; have HF := Lib.hid (H2.out.file i _ _ _ _ HB.out HBA.out HFS.out); have d0 : w2.cell? ⟨bb, 0, none⟩ = some (.slice a f.p.length c) := (cell_of_heap HF.out.1 0).trans rfl; have d1 : w2.cell? ⟨bb, 1, none⟩ = some (.int .i64 f.safe) := (cell_of_heap HF.out.1 1).trans rfl; have f0 : w2.frozen? ⟨bb, 0, none⟩ = false := free_of_heap HF.out.1 0; have f1 : w2.frozen? ⟨bb, 1, none⟩ = false := free_of_heap HF.out.1 1)
        | (at_lookup; refine wpList_look_found rfl _ _ 49 rfl 9 54 keyT Try.underlying49 zeroBook G.nb G.bl _ rfl H2.out.now s rfl (keyOfS hs) i HL.out bb HB.out ?_)
        | go_in)
        go_ret
        refine ⟨rfl, After.cons1 hu2 ?_⟩
        have ht : (f.p.take k).length = k := by rw [List.length_take]; omega
        have hu3 : Upd w2 ((w2.setCell ⟨bb, 0, none⟩ (.slice a k k)).setCell ⟨bb, 1, none⟩ (.int .i64 k)) (fun x => x = bb) := ((Upd.refl w2 (fun x => x = bb)).put (.inl rfl)).put (.inl rfl)
        have hne : ∀ g, blockOf a = some g → g ≠ bb := fun g hg => H2.out.ne (r := .arr i) (r' := .file i) (by simp [Gh.blk, HBA.out, hg]) HB.out (by simp)
        refine H2.out.setFile (a' := a) (c' := k) HB.out HBA.out HFS.out (hu3.mono (fun _ _ h => .inl h)) ⟨?_, ?_, ?_, ?_⟩ (.inl rfl)
        · rw [ht]
          exact heap_setCell_same (i := 1) (heap_setCell_same (i := 0) HF.out.1 (.slice a k k)) (.int .i64 k)
        · rw [ht]
          have hr := (HF.out.2.1.cut hk (Nat.le_refl k) (Nat.le_trans hk hcap)).upd hu3 hne
          rw [Nat.mul_one, encB, ← List.map_take] at hr
          exact hr
        · rw [ht]
          exact Nat.le_trans hk HF.out.2.2.1
        · rw [ht]
          exact Nat.le_refl k
end Go.Proofs.Ytpmbeeddciepjaa
