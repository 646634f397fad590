/- ShelfRoom: the walk. -/
import Derived.Test.YtpmbeeddciepjaaSd
import Derived.Test.YtpmbeeddciepjaaSg
import Derived.OpenShut
namespace Go.Proofs.Ytpmbeeddciepjaa
open Go.RowKit Go.Maps Go.Sort
set_option linter.unusedSimpArgs false
set_option linter.unusedVariables false
theorem sat_used {w0 w : World} {b : Nat} {S : Sh} (h : SAt w0 b S w) (hf : S.fs.length ≤ 1048576) (hm : S.moves.length ≤ 9223372036854775807) :
    Calls Try.prog 15 #[.pointer (some ⟨b, 0, none⟩)] w fun e w' => e = .returned (.int .i64 S.used) ∧ Upd w w' (fun _ => False) := by
  obtain ⟨G, h1, rfl, h3, h4⟩ := h
  exact used_at h1 hf hm rfl
theorem sat_moves {w0 w : World} {b : Nat} {S : Sh} (h : SAt w0 b S w) : Calls Try.prog 18 #[.pointer (some ⟨b, 0, none⟩)] w fun e w' => e = .returned (.int .i64 S.moves.length) ∧ w = w' := by
  obtain ⟨G, h1, rfl, h3, h4⟩ := h
  exact moves_calls h1
theorem LInv.sat {w wl : World} {b bx k : Nat} {Q : Sh → Prop} {G : Gh} {S : Sh} {X : RSh} (h : LInv w b bx Q wl k G S X) : SAt w b S wl := ⟨G, h.i, h.sb, h.upd, fun q hq => (h.own q hq).1⟩
theorem new_small (r : Nat) (hr : r ≤ 255) : Small2 (Sh.new r) 1 :=
  Small2.mk' (Nat.zero_le _) (Nat.zero_le _) (Nat.zero_le _) (fun i f hf => by simp [Sh.new] at hf) (by show (0 : Int) ≤ r; omega) (by show (r : Int) ≤ 1048576; omega)
/-- While all that has a name is thrown away. -/
structure DInv (w : World) (b : Nat) (R : Int) (la : Option Addr) (lc : Nat) (l : List Nm) (wl : World) (k : Nat) (G : Gh) (S : Sh) : Prop where
  i : IsShelf wl G S
  sb : G.sb = b
  q : RoomOk S R
  left : ∀ q ∈ S.now, q.1 ∈ l.drop k
  mv : S.moves.length ≤ 100 + k
  fs : S.fs.length ≤ 100
  row : Row wl 9 1 la l.length lc (l.map strV)
  upd : Upd w wl (fun _ => False)
  own : ∀ q, G.own q → w.heap.size ≤ q ∧ ∀ g, blockOf la = some g → q ≠ g
theorem DInv.sat {w wl : World} {b k lc : Nat} {R : Int} {la : Option Addr} {l : List Nm} {G : Gh} {S : Sh} (h : DInv w b R la lc l wl k G S) : SAt w b S wl := ⟨G, h.i, h.sb, h.upd, fun q hq => (h.own q hq).1⟩
theorem DInv.step {w wl w9 : World} {b k lc : Nat} {R : Int} {la : Option Addr} {l : List Nm} {G : Gh} {S : Sh} {s : Nm} (h : DInv w b R la lc l wl k G S) (hk : l[k]? = some s) (hs : s.length ≤ 3) (ha : After wl w9 G (S.delete s).1) : ∃ G', DInv w b R la lc l w9 (k + 1) G' (S.delete s).1 := by
  obtain ⟨G', i, e, u, o⟩ := ha
  have hd := delete_moves (S := S) s
  refine ⟨G', i, e.trans h.sb, h.q.delete hs, fun q hq => ?_, by have := hd.1; have := h.mv; omega, by rw [hd.2]; exact h.fs, h.row.upd u (fun g hg ho => (h.own g ho).2 g hg rfl), ?_, fun q hq => ?_⟩
  · have h1 := delete_now h.q s q hq
    have h2 := h.left q h1.1
    have h3 : l.drop k = s :: l.drop (k + 1) := by
      have hlt := (List.getElem?_eq_some_iff.1 hk).1
      have he := (List.getElem?_eq_some_iff.1 hk).2
      rw [List.drop_eq_getElem_cons hlt, he]
    rw [h3] at h2
    rcases List.mem_cons.1 h2 with h2 | h2
    · exact absurd h2 h1.2
    · exact h2
  · exact ((h.upd.mono (F' := fun q => w.heap.size ≤ q) (fun _ _ h => h.elim)).trans u (fun q _ hq => (h.own q hq).1)) |>.mono (fun q hq e => by omega)
  · rcases o q hq with h8 | h8
    · exact h.own q h8
    · refine ⟨by have := h.upd.size; omega, fun g hg e => ?_⟩
      have := h.row.lt hg
      omega
theorem room_out {w : World} (r : Nat) {aa : Option Addr} {n : Nat} (ac : Nat) (h : 60 < n) :
    Calls Try.prog 4 #[.int .u8 r, .slice aa n ac] w fun e w' => e = .returned (.bool true) ∧ Upd w w' (fun _ => False) := by
  have hu1 : Upd w w (fun _ => False) := Upd.refl _ _
  have h2 : (60 : Int) < (n : Int) := by omega
  clear h
  go_enter Try.func4, Try.ntmps4
  go_wp2_with (first
        | (go_at_call 5; refine (awake_calls _).mono ?_; rintro e wa ⟨rfl, hua⟩; have hu2 := hu1.trans hua (fun _ _ h => h); clear hu1 hua; have hu1 := hu2; clear hu2)
        | go_in)
  go_ret
  exact ⟨rfl, hu1⟩
set_option maxHeartbeats 4000000 in
set_option maxRecDepth 100000 in
theorem room_in {w : World} (r : Nat) (hr : r < 256) {aa : Option Addr} {xs : List LAct} (ac : Nat) (ha : ActsOk w aa xs) (hn : xs.length ≤ 60) :
    Calls Try.prog 4 #[.int .u8 r, .slice aa xs.length ac] w fun e w' => e = .returned (.bool true) ∧ Upd w w' (fun _ => False) := by
  have hu1 : Upd w w (fun _ => False) := Upd.refl _ _
  have HA := Lib.hid ha
  have h2 : ¬ (60 : Int) < (xs.length : Int) := by omega
  have hr1 : (0 : Int) ≤ r := by omega
  have hr2 : (r : Int) ≤ 255 := by omega
  have HRR := Lib.hid hr
  clear ha hr
  go_enter Try.func4, Try.ntmps4
  go_wp2_with (first
        | (go_at_call 5; refine (awake_calls _).mono ?_; rintro e wa ⟨rfl, hua⟩; have hu2 := hu1.trans hua (fun _ _ h => h); clear hu1 hua; have hu1 := hu2; clear hu2)
        | (go_at_call 6; refine (sat_new _ _).mono ?_; rintro e w1 ⟨b, rfl, hsa⟩; have HSA := Lib.hid (hsa.rebase hu1); clear hsa hu1)
        | (go_at_call 11; obtain ⟨G, hi, hsb, hub, hown⟩ := HSA.out; refine (new_ref _ _ G.own (fun k hk => hi.own_lt hk)).mono ?_; rintro e wr ⟨X0, rfl, hr0, hur⟩; rw [RSh.v_rv]; unfold rv; have HR0 := Lib.hid hr0; have HI0 := Lib.hid (hi.upd hur (fun _ _ h => h)); have HSB0 := Lib.hid hsb; have HU0 := Lib.hid (hub.trans hur (fun _ _ h => h)); have HO0 := Lib.hid hown; clear hi hsb hub hown hr0 hur HSA)
        | go_in)
  have hinv := LInv.begin (Q := fun S => RoomOk S r) (RoomOk.new r hr1) (new_small r (by omega)) HI0.out HSB0.out HR0.out HU0.out HO0.out
  generalize wr.alloc (.cells #[.slice X0.la X0.L.length X0.lc, .slice X0.now.a X0.now.l.length X0.now.c, .slice X0.wa X0.was.length X0.wc, .int .i64 X0.room, .int .i64 X0.left, .bool X0.off, .int .i64 X0.done] 35) = w1 at hinv ⊢
  generalize wr.heap.size = bx at hinv ⊢
  clear HI0 HSB0 HR0 HU0 HO0
  go_loopw [7] (fun i wl => ∃ (k : Nat) (G : Gh) (S : Sh) (X : RSh), k ≤ xs.length ∧ i = .int .i64 k ∧ LInv w b bx (fun S => RoomOk S r) wl k G S X) (fun i _ => xs.length - (intOf i).toNat)
  case atStart => exact ⟨0, _, _, _, Nat.zero_le _, rfl, hinv⟩
  case round =>
    clear hinv
    obtain ⟨k, G, S, X, hk, rfl, hinv⟩ := hrel
    have HI := Lib.hid hinv
    clear hinv
    by_cases hlt : k < xs.length
    · have hki : (k : Int) < (xs.length : Int) := by omega
      obtain ⟨x, hx⟩ : ∃ x, xs[k]? = some x := ⟨_, List.getElem?_eq_getElem hlt⟩
      obtain ⟨ab, ao, haa, hab, hcells⟩ := HA.out.cells k x hx
      have HX := Lib.hid (HA.out.ok x (List.mem_of_getElem? hx))
      have hwc := fun j v hj => (HI.out.upd.cell (p := ⟨ab, ao + k * 5 + j, none⟩) hab (fun h => h)).trans (hcells j v hj)
      have a0 : wr.cell? ⟨ab, ao + k * 5, none⟩ = some (.int .u8 x.k) := hwc 0 _ rfl
      have a1 : wr.cell? ⟨ab, ao + k * 5 + 1, none⟩ = some (.int .u8 x.a) := hwc 1 _ rfl
      have a2 : wr.cell? ⟨ab, ao + k * 5 + 2, none⟩ = some (.int .u8 x.b) := hwc 2 _ rfl
      have a3 : wr.cell? ⟨ab, ao + k * 5 + 3, none⟩ = some (.int .i64 x.n) := hwc 3 _ rfl
      have a4 : wr.cell? ⟨ab, ao + k * 5 + 4, none⟩ = some (.slice x.pa x.p.length x.pc) := hwc 4 _ rfl
      have hk1 : (0 : Int) ≤ x.k := by omega
      have hk2 : (x.k : Int) ≤ 255 := by have := HX.out.k; omega
      have hkb : wrap64 ((k : Int) + 1) = (k : Int) + 1 := IntWalk.wrap64_in _ (by omega)
      have hm2 : xs.length - (k + 1) < xs.length - k := Nat.sub_lt_sub_left hlt (Nat.lt_succ_self k)
      have HM2 := Lib.hid hm2
      rw [haa]
      clear hx haa hcells hwc hm2
      by_cases h60 : (60 : Int) < (x.p.length : Int)
      · clear hkb
        go_wp2_with fail
        go_ret
        exact ⟨rfl, HI.out.upd⟩
      · by_cases h9 : x.k % 12 = 9
        · have h9i : (x.k : Int) % 12 = 9 := by omega
          go_wp2_with fail
          clear hkb
          exact ⟨⟨k + 1, G, S, X, hlt, rfl, HI.out.skip⟩, by simpa [intOf] using HM2.out⟩
        · by_cases h10 : x.k % 12 = 10
          · have h10i : (x.k : Int) % 12 = 10 := by omega
            go_wp2_with fail
            clear hkb
            exact ⟨⟨k + 1, G, S, X, hlt, rfl, HI.out.skip⟩, by simpa [intOf] using HM2.out⟩
          · have h9i : ((x.k : Int) % 12 == 9) = false := by simp; omega
            have h10i : ((x.k : Int) % 12 == 10) = false := by simp; omega
            have H10 := Lib.hid h10
            have H9 := Lib.hid h9
            have H60 := Lib.hid (show x.p.length ≤ 60 by omega)
            clear h10 h9
            go_wp2_with fail
            have HK := Lib.hid hkb
            have HK60 := Lib.hid (show k < 60 by omega)
            clear hkb
            have hi8 := HI.out.upd0 (Upd.drew (Upd.refl wr (fun _ => False)))
            have H8 := Lib.hid hi8
            obtain ⟨⟨x0, x1, x2, x3, x4, x5, x6⟩, g0, g1, g2, g3, g4, g5, g6⟩ := box7 HI.out.box
            clear hi8
            have hact : ActOk wr.drew x := ⟨HX.out.k, HX.out.a, HX.out.b, HX.out.n1, HX.out.n2, HX.out.p.upd H8.out.upd (fun _ _ _ h => h), H60.out⟩
            have hc := do_calls (x := x) (E := fun q => q = bx) H8.out.i H8.out.small.s (fun q e => by have := lt_of_heap H8.out.box; omega) H8.out.ref hact (HX.out.p.block_or.imp (fun e => e) (fun hh g hg ho => by have h1 := hh g hg; have h2 := (H8.out.own g ho).1; omega)) (by have := HK60.out; omega) H10.out
            rw [H8.out.sb, RSh.v_rv] at hc
            unfold rv LAct.v at hc
            have HC := Lib.hid hc
            clear hc hact
            go_upto_region 12 with fail
            go_cut [] (fun wx => ∃ (G1 : Gh) (X1 : RSh), LInv w b bx (fun S => RoomOk S r) wx (k + 1) G1 (doS S x) X1)
            case first =>
              go_region_with (go_at_call 12; refine HC.out.mono ?_; rintro e w9 ⟨X1, bb, G1, rfl, hi9, hsb9, hr9, hu9, ho9⟩; rw [RSh.v_rv]; unfold rv; have HB9 := Lib.hid (hu9.heap H8.out.box (fun hq => (H8.out.own _ hq).2 rfl)); have HI9 := Lib.hid hi9; have HS9 := Lib.hid hsb9; have HR9 := Lib.hid hr9; have HU9 := Lib.hid hu9; have HO9 := Lib.hid ho9; clear hi9 hsb9 hr9 hu9 ho9 x0 x1 x2 x3 x4 x5 x6 g0 g1 g2 g3 g4 g5 g6 a0 a1 a2 a3 a4; obtain ⟨⟨x0, x1, x2, x3, x4, x5, x6⟩, g0, g1, g2, g3, g4, g5, g6⟩ := box7 HB9.out)
              all_goals
                go_wp2_with fail
                go_simp
                have h7 := box_set7 (X1 := X1) HB9.out
                go_meet
                exact ⟨G1, X1, H8.out.step (H8.out.q.do_ x H9.out) H60.out HI9.out HS9.out HR9.out HU9.out HO9.out h7.1 h7.2⟩
            obtain ⟨G1, X1, hi1⟩ := hcut
            have H11 := Lib.hid hi1
            have hub := hi1.q.used
            have hkb := HK.out
            clear hi1 x0 x1 x2 x3 x4 x5 x6 g0 g1 g2 g3 g4 g5 g6 a0 a1 a2 a3 a4
            go_wp2_with (first | (go_at_call 15; refine (sat_used H11.out.sat (by have := H11.out.small.s.fs; omega) (by have := H11.out.small.s.moves; omega)).mono ?_; rintro e wu ⟨rfl, huu⟩; have H12 := Lib.hid (H11.out.upd0 huu); clear huu))
            clear hkb
            exact ⟨⟨k + 1, G1, doS S x, X1, hlt, rfl, H12.out⟩, by simpa [intOf] using HM2.out⟩
    · obtain rfl : k = xs.length := by omega
      have HSA := Lib.hid HI.out.sat
      have HNW := Lib.hid (show S.now.length ≤ Big by have := HI.out.small.s.now; unfold Big; omega)
      go_wp2_with (first | (go_at_call 16; refine (sat_list HSA.out HNW.out).mono ?_; rintro e wl ⟨la, lc, l, rfl, hpm, hrow, hul, hlb⟩; have HPM := Lib.hid hpm; have HROW := Lib.hid hrow; have HUL := Lib.hid hul; have HLB := Lib.hid hlb; clear hpm hrow hul hlb))
      have hl3 : ∀ s ∈ l, s.length ≤ 3 := fun s hs => by
        have h1 := HPM.out.mem_iff.1 hs
        unfold listed at h1
        rw [HI.out.q.off] at h1
        obtain ⟨q, hq, rfl⟩ := List.mem_map.1 h1
        exact HI.out.q.nn q hq
      have hd : DInv w b r la lc l wl 0 G S :=
        { i := HI.out.i.upd HUL.out (fun _ _ h => h)
          sb := HI.out.sb
          q := HI.out.q
          left := fun q hq => by
            rw [List.drop_zero]
            refine HPM.out.mem_iff.2 ?_
            unfold listed
            rw [HI.out.q.off]
            exact List.mem_map.2 ⟨q, hq, rfl⟩
          mv := by have := HI.out.small.s.moves; omega
          fs := by have := HI.out.small.s.fs; omega
          row := HROW.out
          upd := HI.out.upd.trans HUL.out (fun _ _ h => h)
          own := fun q hq => ⟨(HI.out.own q hq).1, fun g hg e => by have h1 := HLB.out g hg; have h2 := HI.out.i.own_lt hq; omega⟩ }
      have HL3 := Lib.hid hl3
      have HLL := Lib.hid (show l.length ≤ 61 by
        rw [HPM.out.length_eq]
        unfold listed
        rw [HI.out.q.off]
        have := HI.out.small.s.now
        simp
        omega)
      clear hl3 HPM HROW HUL HLB HSA HNW HI
      go_loopw [10] (fun i wl => ∃ (k : Nat) (G : Gh) (S : Sh), k ≤ l.length ∧ i = .int .i64 k ∧ DInv w b r la lc l wl k G S) (fun i _ => l.length - (intOf i).toNat)
      case atStart => exact ⟨0, _, _, Nat.zero_le _, rfl, hd⟩
      case round =>
        clear hd
        obtain ⟨k, G, S, hk, rfl, hd⟩ := hrel
        have HD := Lib.hid hd
        clear hd
        by_cases hlt2 : k < l.length
        · have hki : (k : Int) < (l.length : Int) := by omega
          obtain ⟨s, hs⟩ : ∃ s, l[k]? = some s := ⟨_, List.getElem?_eq_getElem hlt2⟩
          obtain ⟨g, hla, hg, hcw⟩ := HD.out.row.cellAt (by omega)
          have a0 : wr.cell? ⟨g, k, none⟩ = some (.string ⟨s.toArray⟩) := hcw k _ (by rw [List.getElem?_map, hs]; rfl)
          have HS := Lib.hid hs
          have hs3 := HL3.out s (List.mem_of_getElem? hs)
          have hkb : wrap64 ((k : Int) + 1) = (k : Int) + 1 := IntWalk.wrap64_in _ (by have := HLL.out; omega)
          have hm2 : l.length - (k + 1) < l.length - k := Nat.sub_lt_sub_left hlt2 (Nat.lt_succ_self k)
          have HM2 := Lib.hid hm2
          have hc := delete_calls HD.out.i ⟨s.toArray⟩ (nm_size s hs3) (by have := HD.out.mv; have := HLL.out; unfold Big; omega)
          rw [HD.out.sb] at hc
          have HC := Lib.hid hc
          have HS3 := Lib.hid hs3
          have HLA := Lib.hid hla
          have HKB := Lib.hid hkb
          rw [hla]
          clear hs hla hg hcw hc hm2 hs3
          go_wp2_with (first | (go_at_call 17; refine HC.out.mono ?_; rintro e w9 ⟨rfl, hA⟩; obtain ⟨G2, hD2⟩ := HD.out.step HS.out HS3.out hA; have HD2 := Lib.hid hD2; clear hA hD2))
          clear hkb
          try rw [HKB.out]
          rw [← HLA.out]
          exact ⟨⟨k + 1, G2, _, hlt2, rfl, HD2.out⟩, by simpa [intOf] using HM2.out⟩
        · obtain rfl : k = l.length := by omega
          have hnow : S.now = [] := List.eq_nil_iff_forall_not_mem.2 (fun q hq => by
            have h1 := HD.out.left q hq
            rw [List.drop_length] at h1
            cases h1)
          have hg := gone_used HD.out.q hnow
          have HG1 := Lib.hid hg.1
          have HG2 := Lib.hid hg.2
          have HSA := Lib.hid HD.out.sat
          have HFS := Lib.hid (show S.fs.length ≤ 1048576 by have := HD.out.fs; omega)
          clear hg hnow
          go_wp2_with (first | (go_at_call 10; go_loud (refine (sat_names HSA.out HG1.out).mono ?_; rintro e ws ⟨rfl, hsa⟩; clear HSA; have HSA := Lib.hid hsa; clear hsa)) | (go_at_call 15; go_loud (refine (sat_used HSA.out HFS.out (show (0 : Nat) ≤ _ by omega)).mono ?_; rintro e wu ⟨rfl, huu⟩; rw [HG2.out]; have hsa := HSA.out.upd huu; clear HSA huu; have HSA := Lib.hid hsa; clear hsa)) | (go_at_call 18; go_loud (refine (sat_moves HSA.out).mono ?_; rintro e wm ⟨rfl, rfl⟩)))
          go_ret
          exact ⟨rfl, HSA.out.base⟩
theorem room_law {w : World} (r : Nat) (hr : r < 256) {aa : Option Addr} {xs : List LAct} (ac : Nat) (ha : ActsOk w aa xs) :
    Calls Try.prog 4 #[.int .u8 r, .slice aa xs.length ac] w fun e w' => e = .returned (.bool true) ∧ Upd w w' (fun _ => False) := by
  by_cases h : 60 < xs.length
  · exact room_out r ac h
  · exact room_in r hr ac ha (by omega)
theorem room_law' {w : World} (r : Int) (hr : (Lit.int .u8 r).wf = true) {aa : Option Addr} {xs : List LAct} (ac : Nat) (ha : ActsOk w aa xs) :
    Calls Try.prog 4 #[.int .u8 r, .slice aa xs.length ac] w fun e w' => e = .returned (.bool true) ∧ Upd w w' (fun _ => False) := by
  have hb := bounds_u8 hr
  obtain ⟨n, rfl⟩ := Int.eq_ofNat_of_zero_le hb.1
  exact room_law n (by omega) ac ha
end Go.Proofs.Ytpmbeeddciepjaa
