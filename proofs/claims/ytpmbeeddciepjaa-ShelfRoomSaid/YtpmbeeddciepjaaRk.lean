/- The law's acts: those that cut. -/
import Derived.Test.YtpmbeeddciepjaaRh
namespace Go.Proofs.Ytpmbeeddciepjaa
open Go.RowKit Go.Maps Go.Sort
set_option linter.unusedSimpArgs false
set_option linter.unusedVariables false
set_option maxHeartbeats 8000000 in
set_option maxRecDepth 8000 in
theorem do_8 {w : World} {G : Gh} {S : Sh} {N : Nat} {E : Nat → Prop} {X : RSh} {x : LAct} (h : IsShelf w G S) (hs : SmallS S N) (hE : ∀ k, E k → k < w.heap.size) (hr : RefOk w (fun k => G.own k ∨ E k) N X) (hx : ActOk w x) (hpo : x.p = [] ∨ ∀ g, blockOf x.pa = some g → ¬ G.own g) (hN : N < 100) (hk : x.k % 12 = 8) :
    Calls Try.prog 12 #[.pointer (some ⟨G.sb, 0, none⟩), X.v, x.v] w (DoP w G S N E x) := by
  have H := Lib.hid h
  have HS := Lib.hid hs
  have HR := Lib.hid hr
  have HE := Lib.hid hE
  have HXA := Lib.hid hx
  have HPO := Lib.hid hpo
  have hkm : (x.k : Int) % 12 = 8 := by omega
  have hk1 : (0 : Int) ≤ x.k := by omega
  have hk2 : (x.k : Int) ≤ 255 := by have := hx.k; omega
  have hb1 : (0 : Int) ≤ x.b := by omega
  have hb2 : (x.b : Int) ≤ 255 := by have := hx.b; omega
  have hn1 := hx.n1
  have hn2 := hx.n2
  have HC := Lib.hid (do_box w X x)
  have hu1 := ((((Upd.refl w (fun _ => False)).alloc (.cells #[.slice X.la X.L.length X.lc, .slice X.now.a X.now.l.length X.now.c, .slice X.wa X.was.length X.wc, .int .i64 X.room, .int .i64 X.left, .bool X.off, .int .i64 X.done] 35)).alloc (.cells #[.int .u8 x.k, .int .u8 x.a, .int .u8 x.b, .int .i64 x.n, .slice x.pa x.p.length x.pc] 38)).alloc (.cells #[.slice none 0 0, .slice none 0 0, .slice none 0 0, .int .i64 0, .int .i64 0, .bool false, .int .i64 0] 35))
  obtain ⟨x0, x1, x2, x3, x4, x5, x6, a0, a1, a2, a3, a4, g0, g1, g2, g3, g4, g5, g6⟩ : True ∧ True ∧ True ∧ True ∧ True ∧ True ∧ True ∧ True ∧ True ∧ True ∧ True ∧ True ∧ True ∧ True ∧ True ∧ True ∧ True ∧ True ∧ True := by simp
  rw [RSh.v_rv]
  unfold rv LAct.v
  have HKK := Lib.hid hk
  clear h hs hr hx hk hpo hE
  go_enter Try.func12, Try.ntmps12
  go_upto_block 0 with fail
  go_cut [8, 9, 12] (fun e f _t wr => MidP w G S N E x e f wr)
  case first =>
    go_upto_region 27 with fail
    go_cut [8, 12] (fun e _t wr => Mid0 w G S N E x X e wr)
    case first =>
      go_region_with (first | (go_at_call 23; refine (name_law x.a HXA.out.a _).mono ?_; rintro e wn ⟨rfl, hun⟩; have hun := ((Upd.refl _ (fun _ => False)).drew).trans hun (fun _ _ h => h); have hc2 := HC.out.upd hun (fun _ h => h.elim); have hu2 := hu1.trans hun (fun _ _ h => h); clear hun; clear x0 x1 x2 x3 x4 x5 x6 a0 a1 a2 a3 a4 g0 g1 g2 g3 g4 g5 g6 HC hu1; have HC := Lib.hid hc2; have hu1 := hu2; clear hc2 hu2; obtain ⟨⟨x0, x1, x2, x3, x4, x5, x6⟩, a0, a1, a2, a3, a4⟩ := HC.out.cells; obtain ⟨g0, g1, g2, g3, g4, g5, g6⟩ := HC.out.free) | (go_at_call 31; refine (cut_law (H.out.upd hu1 (fun _ _ h => h)) (nmOf x.a) (nmOf_le _) x.n).mono ?_; rintro e ws ⟨rfl, G1, hi1, hsb1, hus1, hown1⟩; have hc2 := HC.out.upd hus1 (fun k ho => .inl (H.out.own_lt ho)); have H1 := Lib.hid hi1; have HT := Lib.hid ((hu1.mono (F' := G.own) (fun _ _ h => h.elim)).trans hus1 (fun _ _ h => h)); have HG : Hid (∀ k, G1.own k → G.own k ∨ w.heap.size + 3 ≤ k) := Lib.hid (fun k hk => (hown1 k hk).imp id (fun hkk => Nat.le_trans HC.out.size hkk)); have HR1 := Lib.hid (ref_after HR.out HT.out HG.out); have HSB := Lib.hid hsb1; have hu2 : Upd ws ws (fun _ => False) := Upd.refl _ _; clear hi1 hus1 hown1 hsb1; clear x0 x1 x2 x3 x4 x5 x6 a0 a1 a2 a3 a4 g0 g1 g2 g3 g4 g5 g6 HC hu1; have HC := Lib.hid hc2; have hu1 := hu2; clear hc2 hu2; obtain ⟨⟨x0, x1, x2, x3, x4, x5, x6⟩, a0, a1, a2, a3, a4⟩ := HC.out.cells; obtain ⟨g0, g1, g2, g3, g4, g5, g6⟩ := HC.out.free))
      all_goals
      go_wp2_with fail
      all_goals
      go_simp
      go_meet
      refine ⟨G1, _, rfl, HC.out, (by have h1 := H1.out; rw [doS_cut HKK.out]; exact h1), HSB.out, HR1.out, HT.out, HG.out⟩
    obtain ⟨G1, e1, rfl, hc2, hi1, hsb1, hr1, ht, hg1⟩ := hcut
    have hu2 : Upd wc wc (fun _ => False) := Upd.refl _ _
    have H1 := Lib.hid hi1
    have HSB := Lib.hid hsb1
    have HR1 := Lib.hid hr1
    have HT := Lib.hid ht
    have HG := Lib.hid hg1
    clear hi1 hsb1 hr1 ht hg1
    clear x0 x1 x2 x3 x4 x5 x6 a0 a1 a2 a3 a4 g0 g1 g2 g3 g4 g5 g6 HC hu1; have HC := Lib.hid hc2; have hu1 := hu2; clear hc2 hu2; obtain ⟨⟨x0, x1, x2, x3, x4, x5, x6⟩, a0, a1, a2, a3, a4⟩ := HC.out.cells; obtain ⟨g0, g1, g2, g3, g4, g5, g6⟩ := HC.out.free
    all_goals
    (try go_wp2_with fail)
    all_goals
    go_region_with (first | (go_at_call 23; refine (name_law x.a HXA.out.a _).mono ?_; rintro e wn ⟨rfl, hun⟩; have hun := ((Upd.refl _ (fun _ => False)).drew).trans hun (fun _ _ h => h); have hc2 := HC.out.upd hun (fun _ h => h.elim); have hu2 := hu1.trans hun (fun _ _ h => h); clear hun; clear x0 x1 x2 x3 x4 x5 x6 a0 a1 a2 a3 a4 g0 g1 g2 g3 g4 g5 g6 HC hu1; have HC := Lib.hid hc2; have hu1 := hu2; clear hc2 hu2; obtain ⟨⟨x0, x1, x2, x3, x4, x5, x6⟩, a0, a1, a2, a3, a4⟩ := HC.out.cells; obtain ⟨g0, g1, g2, g3, g4, g5, g6⟩ := HC.out.free) | (go_at_call 32; refine (cut_ref (HR1.out.upd hu1 (fun _ h => h.elim)) (fun k hk => by rcases hk with (hk | hk) | hk; exact Nat.lt_of_lt_of_le (H1.out.own_lt hk) hu1.size; have := HE.out k hk; have := HC.out.size; omega; have := HC.out.size; omega) (nmOf x.a) x.n (by omega)).mono ?_; rintro e wr ⟨X1, n1, rfl, hok1, hur⟩; have hc2 := HC.out.upd hur (fun _ h => h.elim); have hu2 := hu1.trans hur (fun _ _ h => h); have HOK := Lib.hid hok1; clear hur hok1; rw [RSh.v_rv]; unfold rv; clear x0 x1 x2 x3 x4 x5 x6 a0 a1 a2 a3 a4 g0 g1 g2 g3 g4 g5 g6 HC hu1; have HC := Lib.hid hc2; have hu1 := hu2; clear hc2 hu2; obtain ⟨⟨x0, x1, x2, x3, x4, x5, x6⟩, a0, a1, a2, a3, a4⟩ := HC.out.cells; obtain ⟨g0, g1, g2, g3, g4, g5, g6⟩ := HC.out.free))
    all_goals
    go_wp2_with fail
    all_goals
    have h7 := HC.out.set7 (X1 := X1)
    go_simp
    go_meet
    exact mid_of H.out H1.out (by first | exact (doS_cut HKK.out).symm | rfl) HT.out HG.out HSB.out HOK.out (by omega) hu1 h7.1 h7.2
  case rest =>
    obtain ⟨X1, G1, e1, f1, rfl, rfl, hc, hi, hsb, hok, hu, hg⟩ := hcut
    clear x0 x1 x2 x3 x4 x5 x6 a0 a1 a2 a3 a4 g0 g1 g2 g3 g4 g5 g6 HC hu1
    obtain ⟨⟨x0, x1, x2, x3, x4, x5, x6⟩, a0, a1, a2, a3, a4⟩ := hc.cells
    have HC := Lib.hid hc
    have HI := Lib.hid hi
    have HSB := Lib.hid hsb
    have HOK := Lib.hid hok
    have HU := Lib.hid hu
    have HG := Lib.hid hg
    clear hc hi hsb hok hu hg
    go_wp2_with (first
            | (refine gate_st _ (.tmp 6) rfl ?_; refine wpList_box7 _ _ rfl rfl rfl (w.heap.size + 2) rfl rfl HC.out.hz rfl rfl rfl rfl rfl rfl rfl ?_; intro wz hz2 hy2; have HZ2 := Lib.hid hz2; have HY2 := Lib.hid hy2; clear hz2 hy2)
            | go_in)
    obtain ⟨⟨y0, y1, y2, y3, y4, y5, y6⟩, y7⟩ := box7 HY2.out
    exact bodyPost_ret (v := .tuple #[.agg #[.slice X1.la X1.L.length X1.lc, .slice X1.now.a X1.now.l.length X1.now.c, .slice X1.wa X1.was.length X1.wc, .int .i64 X1.room, .int .i64 X1.left, .bool X1.off, .int .i64 X1.done], .bool (e1 == f1)]) (by simp [results, Try.results12, go_sem, y0, y1, y2, y3, y4, y5, y6]) rfl
      ⟨X1, _, G1, by rw [RSh.v_rv]; rfl, HI.out.upd HZ2.out (fun k hk => (own_off H.out HG.out hk).2), HSB.out, (HOK.out.upd HZ2.out (fun k hk => .inr (by omega))).sub (fun k hk => .inl hk), HU.out.trans HZ2.out (fun k hk e => by omega), fun k hk => (HG.out k hk).imp id (fun h => by omega)⟩

end Go.Proofs.Ytpmbeeddciepjaa
