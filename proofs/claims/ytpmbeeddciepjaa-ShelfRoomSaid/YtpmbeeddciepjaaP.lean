/- Walks: Append. -/
import Derived.Test.YtpmbeeddciepjaaO
import Derived.Deep.RegionHeld3
import Derived.IntWalk
namespace Go.Proofs.Ytpmbeeddciepjaa
open Go.RowKit Go.Maps
set_option linter.unusedSimpArgs false
set_option linter.unusedVariables false

theorem act_lenOf (S : Sh) : S.act.1.lenOf = S.lenOf := by funext i; unfold Sh.lenOf; rw [act_fs]
theorem act_used (S : Sh) : S.act.1.used = S.used := by unfold Sh.used Sh.ids; rw [act_old, act_moves, act_lenOf]
theorem IsShelf.ids_lt {w : World} {G : Gh} {S : Sh} (h : IsShelf w G S) : ∀ i ∈ S.ids, i < G.bl.length := by
  intro i hi
  unfold Sh.ids at hi
  rw [mem_dedup, List.mem_append] at hi
  rcases hi with hi | hi
  · obtain ⟨p, hp, rfl⟩ := List.mem_map.1 hi
    exact h.old.vals p hp
  · obtain ⟨m, hm, e⟩ := List.mem_filterMap.1 hi
    exact h.mvlt m hm i e
theorem IsShelf.used_le {w : World} {G : Gh} {S : Sh} (h : IsShelf w G S) (hfs : S.fs.length ≤ 1048576) : S.used ≤ 1152921504606846976 := by
  have h1 := sum_bound S.lenOf Big S.ids (fun i hi => h.lenOf_le i (h.ids_lt i hi))
  have h2 := nodup_bound G.bl.length S.ids (nodup_dedup _) h.ids_lt
  have h3 : S.ids.length * Big ≤ 1048576 * Big := Nat.mul_le_mul_right _ (by have := h.lbl; omega)
  unfold Sh.used
  unfold Big at h1 h3
  omega

theorem used_at {G : Gh} {S : Sh} {w : World} (h : IsShelf w G S) (hfs : S.fs.length ≤ 1048576) (hmv : S.moves.length ≤ 9223372036854775807) {u : Nat} (hu : S.used = u) :
    Calls Try.prog 15 #[.pointer (some ⟨G.sb, 0, none⟩)] w fun e w' => e = .returned (.int .i64 u) ∧ Upd w w' (fun _ => False) := hu ▸ used_calls h hfs hmv

theorem Rd.upd2 {w w' : World} {size n : Nat} {a : Option Addr} {xs : List Value} {F : Nat → Prop} (h : Rd w size a n xs) (hu : Upd w w' F) (hn : xs = [] ∨ ∀ g, blockOf a = some g → ¬ F g) : Rd w' size a n xs := by
  rcases hn with rfl | hn
  · exact ⟨h.1, fun j u hj => by simp at hj⟩
  · exact h.upd hu (fun g hg _ => hn g hg)
set_option maxRecDepth 20000 in
set_option maxHeartbeats 1000000 in
theorem append_calls {G : Gh} {S : Sh} {w : World} (h : IsShelf w G S) (s : ByteArray) (hs : s.size ≤ Big) (p : List UInt8) (pa : Option Addr) (pc : Nat) (hp : Rd w 1 pa p.length (encB p)) (hpn : p = [] ∨ ∀ g, blockOf pa = some g → ¬ G.own g)
    (hfs : S.fs.length ≤ 1048576) (hml : S.moves.length ≤ 9223372036854775807) (hbig : ∀ (i : Nat) (f : File), S.fs[i]? = some f → f.p.length + p.length ≤ Big) (hr1 : -1152921504606846976 ≤ S.room) (hr2 : S.room ≤ 1152921504606846976) :
    Calls Try.prog 8 #[.pointer (some ⟨G.sb, 0, none⟩), .string s, .slice pa p.length pc] w fun e w' => e = .returned (.int .i64 (S.append s.data.toList p).2) ∧ After w w' G (S.append s.data.toList p).1 := by
  by_cases h2 : S.act.2 = false
  · have he : S.append s.data.toList p = (S.act.1, 7) := by simp [Sh.append, h2]
    rw [he]
    have H := Lib.hid h
    have HA := Lib.hid h2
    clear he h h2 hp hpn hbig
    go_enter Try.func8, Try.ntmps8
    go_wp2_with (first
        | (go_at_call 20; refine (act_no H.out HA.out).mono ?_; rintro e w2 ⟨rfl, hi2, hu2, hs2⟩; have HS2 := Lib.hid hs2; clear hs2)
        | go_in)
    go_ret
    exact ⟨rfl, After.of_head hi2 hu2⟩
  simp only [Bool.not_eq_false] at h2
  have H := Lib.hid h
  have HA := Lib.hid h2
  cases hl : look S.now s.data.toList with
  | none =>
    have he : S.append s.data.toList p = (S.act.1, 2) := by simp [Sh.append, h2, hl]
    rw [he]
    have HL := Lib.hid (show look S.act.1.now s.data.toList = none by rw [act_now]; exact hl)
    clear he h h2 hl hp hpn hbig
    go_enter Try.func8, Try.ntmps8
    go_wp2_with (first
        | (go_at_call 20; refine (act_yes H.out HA.out).mono ?_; rintro e w2 ⟨rfl, hi2, hu2, hs2⟩; have HS2 := Lib.hid hs2; clear hs2; have H2 := Lib.hid hi2; clear hi2; have c0 : w2.cell? ⟨G.sb, 0, none⟩ = some (.map (some G.nb)) := (cell_of_heap H2.out.cells 0).trans rfl)
        | (at_lookup; refine wpList_look_none rfl _ _ 49 rfl 9 54 keyT Try.underlying49 zeroBook G.nb G.bl _ rfl H2.out.now s rfl (keyOfS hs) HL.out ?_)
        | go_in)
    go_ret
    exact ⟨rfl, After.of_head H2.out hu2⟩
  | some i =>
    obtain ⟨bb, a, c, f, hbb, hba, hf, hfile⟩ := h.at_ hl
    have hus := h.used_le hfs
    have HFL := Lib.hid (show S.act.1.fs.length ≤ 1048576 by rw [act_fs]; exact hfs)
    have HML := Lib.hid (show S.act.1.moves.length ≤ 9223372036854775807 by rw [act_moves]; exact hml)
    have HL := Lib.hid (show look S.act.1.now s.data.toList = some i by rw [act_now]; exact hl)
    have HB := Lib.hid hbb
    have HBA := Lib.hid hba
    have HFS := Lib.hid (show S.act.1.fs[i]? = some f by rw [act_fs]; exact hf)
    have HP := Lib.hid hp
    have HPN := Lib.hid hpn
    have hsum := hbig i f hf
    have hpl : p.length ≤ 1099511627776 := by unfold Big at hsum; omega
    have HSUM := Lib.hid hsum
    obtain ⟨room, hroom⟩ : ∃ r, r = S.room := ⟨_, rfl⟩
    obtain ⟨us, hus0⟩ : ∃ u, u = S.used := ⟨_, rfl⟩
    have HROOM := Lib.hid (show S.act.1.room = room by rw [act_room, hroom])
    have HUS := Lib.hid (show S.act.1.used = us by rw [act_used, hus0])
    rw [← hus0] at hus
    rw [← hroom] at hr1 hr2
    by_cases hc : (p.length : Int) > room - us
    · have he : S.append s.data.toList p = (S.act.1, 3) := by
        unfold Sh.append
        rw [if_neg (by simp [h2])]
        simp only [hl]
        rw [if_pos (by rw [← hroom, ← hus0]; exact hc)]
      rw [he]
      clear he h h2 hl hbb hba hf hfile hp hpn hbig hsum hroom hus0 hfs hml
      go_enter Try.func8, Try.ntmps8
      go_wp2_with (first
        | (go_at_call 20; refine (act_yes H.out HA.out).mono ?_; rintro e w2 ⟨rfl, hi2, hu2, hs2⟩; have HS2 := Lib.hid hs2; clear hs2; have H2 := Lib.hid hi2; clear hi2; have c0 : w2.cell? ⟨G.sb, 0, none⟩ = some (.map (some G.nb)) := (cell_of_heap H2.out.cells 0).trans rfl; have HF := Lib.hid (H2.out.file i _ _ _ _ HB.out HBA.out HFS.out); have d0 : w2.cell? ⟨bb, 0, none⟩ = some (.slice a f.p.length c) := (cell_of_heap HF.out.1 0).trans rfl; have d1 : w2.cell? ⟨bb, 1, none⟩ = some (.int .i64 f.safe) := (cell_of_heap HF.out.1 1).trans rfl; have f0 : w2.frozen? ⟨bb, 0, none⟩ = false := free_of_heap HF.out.1 0; have f1 : w2.frozen? ⟨bb, 1, none⟩ = false := free_of_heap HF.out.1 1)
        | (at_lookup; refine wpList_look_found rfl _ _ 49 rfl 9 54 keyT Try.underlying49 zeroBook G.nb G.bl _ rfl H2.out.now s rfl (keyOfS hs) i HL.out bb HB.out ?_)
        | go_in)
      have c3 : w2.cell? ⟨G.sb, 3, none⟩ = some (.int .i64 room) := by rw [← HROOM.out]; exact (cell_of_heap H2.out.cells 3).trans rfl
      have hlt := H2.out.lt (r := .sh) rfl
      clear c0 d0 d1 f0 f1
      have hc' : room - (us : Int) < (p.length : Int) := hc
      have hwr : IntKind.i64.wrap (room - (us : Int)) = room - (us : Int) := IntWalk.i64_in _ (by omega)
      go_region_held3 (fun W => W.cell? ⟨G.sb, 3, none⟩ = some (.int .i64 room)) (first | go_keep | exact (hu3.cell (p := ⟨G.sb, 3, none⟩) hlt (fun h => h)).trans c3) (first | (go_at_call 15; refine (used_at (G := G) (S := S.act.1) (by first | exact H2.out | exact H2.out.upd ((Upd.refl w2 (fun _ => False)).drew) (fun _ _ h => h) | exact H2.out.upd ((Upd.refl w2 (fun _ => False)).drewN _) (fun _ _ h => h)) HFL.out HML.out HUS.out).mono ?_; rintro e w3 ⟨rfl, hu3⟩))
      have hu3' : Upd w2 w3 (fun _ => False) := ⟨hu3.os, hu3.tape, hu3.output, hu3.size, hu3.block⟩
      clear c3 hlt hwr
      go_wp2_with fail
      go_ret
      exact ⟨rfl, After.cons1 hu2 (After.of_upd H2.out hu3')⟩
    · have he : S.append s.data.toList p = (S.act.1.setFile i { f with p := f.p ++ p }, 0) := by
        unfold Sh.append
        rw [if_neg (by simp [h2])]
        simp only [hl, hf]
        rw [if_neg (by rw [← hroom, ← hus0]; exact hc)]
      rw [he]
      clear he h h2 hl hbb hba hf hfile hp hpn hbig hsum hroom hus0 hfs hml
      go_enter Try.func8, Try.ntmps8
      go_wp2_with (first
        | (go_at_call 20; refine (act_yes H.out HA.out).mono ?_; rintro e w2 ⟨rfl, hi2, hu2, hs2⟩; have HS2 := Lib.hid hs2; clear hs2; have H2 := Lib.hid hi2; clear hi2; have c0 : w2.cell? ⟨G.sb, 0, none⟩ = some (.map (some G.nb)) := (cell_of_heap H2.out.cells 0).trans rfl; have HF := Lib.hid (H2.out.file i _ _ _ _ HB.out HBA.out HFS.out); have d0 : w2.cell? ⟨bb, 0, none⟩ = some (.slice a f.p.length c) := (cell_of_heap HF.out.1 0).trans rfl; have d1 : w2.cell? ⟨bb, 1, none⟩ = some (.int .i64 f.safe) := (cell_of_heap HF.out.1 1).trans rfl; have f0 : w2.frozen? ⟨bb, 0, none⟩ = false := free_of_heap HF.out.1 0; have f1 : w2.frozen? ⟨bb, 1, none⟩ = false := free_of_heap HF.out.1 1)
        | (at_lookup; refine wpList_look_found rfl _ _ 49 rfl 9 54 keyT Try.underlying49 zeroBook G.nb G.bl _ rfl H2.out.now s rfl (keyOfS hs) i HL.out bb HB.out ?_)
        | go_in)
      have c3 : w2.cell? ⟨G.sb, 3, none⟩ = some (.int .i64 room) := by rw [← HROOM.out]; exact (cell_of_heap H2.out.cells 3).trans rfl
      have hlt := H2.out.lt (r := .sh) rfl
      clear c0 d0 d1 f0 f1
      have hc' : ¬ (room - (us : Int) < (p.length : Int)) := by omega
      have hwr : IntKind.i64.wrap (room - (us : Int)) = room - (us : Int) := IntWalk.i64_in _ (by omega)
      go_region_held3 (fun W => W.cell? ⟨G.sb, 3, none⟩ = some (.int .i64 room)) (first | go_keep | exact (hu3.cell (p := ⟨G.sb, 3, none⟩) hlt (fun h => h)).trans c3) (first | (go_at_call 15; refine (used_at (G := G) (S := S.act.1) (by first | exact H2.out | exact H2.out.upd ((Upd.refl w2 (fun _ => False)).drew) (fun _ _ h => h) | exact H2.out.upd ((Upd.refl w2 (fun _ => False)).drewN _) (fun _ _ h => h)) HFL.out HML.out HUS.out).mono ?_; rintro e w3 ⟨rfl, hu3⟩))
      have hu3' : Upd w2 w3 (fun _ => False) := ⟨hu3.os, hu3.tape, hu3.output, hu3.size, hu3.block⟩
      clear c3 hlt hwr
      obtain ⟨i0, hi0, hz0, hz1, hz2⟩ := info_parts infoByte
      have HI := Lib.hid hi0
      have Z0 := Lib.hid hz0
      have Z1 := Lib.hid hz1
      have Z2 := Lib.hid hz2
      have HF3 := Lib.hid (FileIs.upd HF.out hu3' (fun h => h) (fun _ _ h => h))
      have HI3 := Lib.hid (H2.out.upd hu3' (fun _ _ h => h))
      have d0 : w3.cell? ⟨bb, 0, none⟩ = some (.slice a f.p.length c) := (cell_of_heap HF3.out.1 0).trans rfl
      have HP3 := Lib.hid ((HP.out.upd2 (hu2.mono (F' := G.own) (fun k _ hk => ⟨.sh, by rw [hk]; rfl⟩)) (HPN.out.imp (fun e => by rw [e]; rfl) (fun hh => hh))).upd hu3' (fun _ _ _ h => h))
      have hne : ∀ g, blockOf a = some g → g ≠ bb := fun g hg => HI3.out.ne (r := .arr i) (r' := .file i) (by simp [Gh.blk, HBA.out, hg]) HB.out (by simp)
      clear hi0 hz0 hz1 hz2
      go_wp2_with (first
        | (at_builtin; go_loud (refine wpList_append_row rfl _ _ 22 rfl 5 i0 _ 1 1 Try.underlying22 HI.out Z0.out Z1.out Z2.out rfl (by decide) _ _ _ _ rfl HF3.out.2.1 _ _ _ _ rfl HP3.out (ones_encB p) HSUM.out (by decide) ?_; intro a' cap' w4 hrow hupd hor; have HC4 := Lib.hid (hupd.heap HF3.out.1 (fun e => hne bb e rfl)); have f4 : w4.frozen? ⟨bb, 0, none⟩ = false := free_of_heap HC4.out 0; have c4 : w4.cell? ⟨bb, 0, none⟩ = some (.slice a f.p.length c) := (cell_of_heap HC4.out 0).trans rfl; clear d0))
        | go_in)
      go_ret
      refine ⟨rfl, After.cons1 hu2 (After.cons0 hu3' ?_)⟩
      have hset : Upd w4 (w4.setCell ⟨bb, 0, none⟩ (.slice a' (f.p.length + p.length) cap')) (fun x => x = bb) := (Upd.refl w4 (fun x => x = bb)).put (.inl rfl)
      have hfree : ∀ g, blockOf a' = some g → g ≠ bb := by
        intro g hg
        rcases hor with ⟨rfl, _⟩ | ⟨rfl, _⟩
        · exact hne g hg
        · simp [blockOf] at hg
          have := lt_of_heap HF3.out.1
          omega
      refine HI3.out.setFile (a' := a') (c' := cap') HB.out HBA.out HFS.out ((hupd.mono (fun k _ hk => .inr hk)).trans hset (fun k _ hk => .inl hk)) ⟨?_, ?_, ?_, ?_⟩ ?_
      · have := heap_setCell_same (i := 0) HC4.out (.slice a' (f.p.length + p.length) cap')
        rw [List.length_append]
        exact this
      · have := hrow.upd hset hfree
        rw [List.length_append, encB, List.map_append]
        exact this
      · rw [List.length_append]
        exact HSUM.out
      · rw [List.length_append]
        have := HF.out.2.2.2
        show f.safe ≤ _
        omega
      · rcases hor with ⟨rfl, _⟩ | ⟨rfl, _⟩
        · exact .inl rfl
        · exact .inr ⟨_, rfl, Nat.le_refl _⟩
end Go.Proofs.Ytpmbeeddciepjaa
