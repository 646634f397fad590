/- The reference's shelf: walk of Fall. -/
import Derived.Test.YtpmbeeddciepjaaRe
import Derived.Deep.DeepCutAuto
namespace Go.Proofs.Ytpmbeeddciepjaa
open Go.RowKit Go.Maps Go.Sort
set_option linter.unusedSimpArgs false
set_option linter.unusedVariables false
def FallP (w : World) (Fs : Nat → Prop) (N : Nat) (e : Ending) (w' : World) : Prop :=
  ∃ (X' : RSh), e = .returned X'.v ∧ RefOk w' Fs N X' ∧ Upd w w' (fun _ => False)
/-- The blocks of Fs, and the two boxes of the call. -/
def BoxF (w : World) (Fs : Nat → Prop) : Nat → Prop := fun k => Fs k ∨ k = w.heap.size ∨ k = w.heap.size + 1
theorem box_or {w : World} {Fs : Nat → Prop} {k : Nat} (h : BoxF w Fs k) : Fs k ∨ w.heap.size ≤ k := by
  rcases h with h | h | h
  · exact .inl h
  · exact .inr (by omega)
  · exact .inr (by omega)
theorem infoBo : (Try.prog.info? 4).map (·.size) = some 1 := by kernel_rfl
theorem infoIn : (Try.prog.info? 3).map (·.size) = some 1 := by kernel_rfl
theorem RefOk.changed0 {w w' : World} {Fs F : Nat → Prop} {N : Nat} {X : RSh} (h : RefOk w Fs N X) (hu : Upd w w' F) (hF : ∀ k, F k → Fs k) {k : Nat} {x : RFile} (hx : FlOk w' Fs x) (hp : x.p.length ≤ 100 * N)
    {la : Option Addr} {lc : Nat} (hrow : Row w' 85 2 la X.L.length lc ((X.L.set k x).flatMap encRF)) (ho : Off Fs la) :
    RefOk w' Fs N {X with la := la, lc := lc, L := X.L.set k x} :=
  have h2 := h.upd hu hF
  { h2 with
    L := by simpa using hrow
    loff := ho
    files := fun y hy => by
      rcases List.mem_or_eq_of_mem_set hy with hy | rfl
      · exact h2.files y hy
      · exact ⟨hx, hp⟩
    now := by simpa using h2.now
    was := by simpa using h2.was
    l2 := by simpa using h2.l2 }
structure FInv (w : World) (Fs : Nat → Prop) (N : Nat) (X : RSh) (wr : World) (la : Option Addr) (lc : Nat) (L : List RFile) : Prop where
  len : L.length = X.L.length
  ok : RefOk wr (BoxF w Fs) N {X with la := la, lc := lc, L := L}
  bx : wr.heap[w.heap.size]? = some (.cells #[.slice la L.length lc, .slice X.now.a X.now.l.length X.now.c, .slice X.wa X.was.length X.wc, .int .i64 X.room, .int .i64 X.left, .bool X.off, .int .i64 X.done] 35)
  by_ : wr.heap[w.heap.size + 1]? = some (.cells #[.slice none 0 0, .slice none 0 0, .slice none 0 0, .int .i64 0, .int .i64 0, .bool false, .int .i64 0] 35)
  upd : Upd w wr (fun _ => False)
theorem RefOk.fallen {w w' : World} {Fs : Nat → Prop} {N : Nat} {X : RSh} (h : RefOk w Fs N X) (hu : Upd w w' (fun _ => False)) {y : RNames} (hy : NmOk w' Fs X.L.length y) (hyn : y.l.length ≤ N) {g : Option Addr} (hrow : Row w' 32 1 g 1 1 [y.v]) (ho : Off Fs g) :
    RefOk w' Fs N {X with now := y, wa := g, wc := 1, was := [y], left := -1, off := false} :=
  { h.upd hu (fun _ h => h.elim) with
    now := hy
    nown := hyn
    left := ⟨by show (-1 : Int) ≤ -1; omega, by show (-1 : Int) ≤ _; omega⟩
    W := hrow
    woff := ho
    was := fun x hx => by
      simp at hx
      subst hx
      exact ⟨hy, hyn⟩
    was1 := by simp
    was2 := by simp }
theorem Off.grow {w : World} {Fs Fs' : Nat → Prop} {a : Option Addr} (h : Off Fs a) (hl : ∀ g, blockOf a = some g → g < w.heap.size) (hF : ∀ k, Fs' k → Fs k ∨ w.heap.size ≤ k) : Off Fs' a := fun g hg hf => by
  rcases hF g hf with h1 | h1
  · exact h g hg h1
  · have := hl g hg
    omega
theorem NmOk.grow {w : World} {Fs Fs' : Nat → Prop} {n : Nat} {x : RNames} (h : NmOk w Fs n x) (hF : ∀ k, Fs' k → Fs k ∨ w.heap.size ≤ k) : NmOk w Fs' n x := ⟨h.row, h.off.grow (fun g hg => h.row.lt hg) hF, h.lt⟩
theorem FlOk.grow {w : World} {Fs Fs' : Nat → Prop} {x : RFile} (h : FlOk w Fs x) (hF : ∀ k, Fs' k → Fs k ∨ w.heap.size ≤ k) : FlOk w Fs' x := ⟨h.row, h.off.grow (fun g hg => h.row.lt hg) hF, h.s0, h.s1⟩
theorem RefOk.grow {w : World} {Fs Fs' : Nat → Prop} {N : Nat} {X : RSh} (h : RefOk w Fs N X) (hF : ∀ k, Fs' k → Fs k ∨ w.heap.size ≤ k) : RefOk w Fs' N X :=
  { h with
    loff := h.loff.grow (fun g hg => h.L.lt hg) hF
    files := fun x hx => ⟨(h.files x hx).1.grow hF, (h.files x hx).2⟩
    now := h.now.grow hF
    woff := h.woff.grow (fun g hg => h.W.lt hg) hF
    was := fun x hx => ⟨(h.was x hx).1.grow hF, (h.was x hx).2⟩ }
theorem RefOk.sub {w : World} {Fs Fs' : Nat → Prop} {N : Nat} {X : RSh} (h : RefOk w Fs' N X) (hF : ∀ k, Fs k → Fs' k) : RefOk w Fs N X :=
  { h with
    loff := fun g hg hf => h.loff g hg (hF g hf)
    files := fun x hx => ⟨⟨(h.files x hx).1.row, fun g hg hf => (h.files x hx).1.off g hg (hF g hf), (h.files x hx).1.s0, (h.files x hx).1.s1⟩, (h.files x hx).2⟩
    now := ⟨h.now.row, fun g hg hf => h.now.off g hg (hF g hf), h.now.lt⟩
    woff := fun g hg hf => h.woff g hg (hF g hf)
    was := fun x hx => ⟨⟨(h.was x hx).1.row, fun g hg hf => (h.was x hx).1.off g hg (hF g hf), (h.was x hx).1.lt⟩, (h.was x hx).2⟩ }
set_option maxHeartbeats 1600000 in
set_option maxRecDepth 8000 in
theorem fall_ref {w : World} {Fs : Nat → Prop} {N : Nat} {X : RSh} (h : RefOk w Fs N X) (hF : ∀ k, Fs k → k < w.heap.size) (names bytes : Int) (hN : N < 1000) :
    Calls Try.prog 35 #[X.v, .int .i64 names, .int .i64 bytes] w (FallP w Fs N) := by
  have H := Lib.hid h
  have hl2 := h.l2
  have hw2 := h.was2
  have hw1 := h.was1
  rw [RSh.v_rv]
  unfold rv
  clear h
  go_enter Try.func35, Try.ntmps35
  go_upto_if 12 with fail
  have hx := (two_box w (.cells #[.slice X.la X.L.length X.lc, .slice X.now.a X.now.l.length X.now.c, .slice X.wa X.was.length X.wc, .int .i64 X.room, .int .i64 X.left, .bool X.off, .int .i64 X.done] 35) (.cells #[.slice none 0 0, .slice none 0 0, .slice none 0 0, .int .i64 0, .int .i64 0, .bool false, .int .i64 0] 35))
  have hu1 : Upd w ((w.alloc (.cells #[.slice X.la X.L.length X.lc, .slice X.now.a X.now.l.length X.now.c, .slice X.wa X.was.length X.wc, .int .i64 X.room, .int .i64 X.left, .bool X.off, .int .i64 X.done] 35)).alloc (.cells #[.slice none 0 0, .slice none 0 0, .slice none 0 0, .int .i64 0, .int .i64 0, .bool false, .int .i64 0] 35)) (fun _ => False) := ((Upd.refl _ _).alloc _).alloc _
  generalize (w.alloc (.cells #[.slice X.la X.L.length X.lc, .slice X.now.a X.now.l.length X.now.c, .slice X.wa X.was.length X.wc, .int .i64 X.room, .int .i64 X.left, .bool X.off, .int .i64 X.done] 35)).alloc (.cells #[.slice none 0 0, .slice none 0 0, .slice none 0 0, .int .i64 0, .int .i64 0, .bool false, .int .i64 0] 35) = w1 at hx hu1 ⊢
  have HX := Lib.hid hx.1
  have HY := Lib.hid hx.2
  clear hx
  obtain ⟨⟨x0, x1, x2, x3, x4, x5, x6⟩, u0, u1, u2, u3, u4, u5, u6⟩ := box7 HX.out; obtain ⟨⟨y0, y1, y2, y3, y4, y5, y6⟩, v0, v1, v2, v3, v4, v5, v6⟩ := box7 HY.out
  have hwlen : (1 : Int) ≤ (X.was.length : Int) := by omega
  have hwr : wrap64 ((X.was.length : Int) - 1) = (X.was.length : Int) - 1 := IntWalk.wrap64_in _ (by omega)
  go_cut [1] (fun v wx => ∃ nn : Int, v = .int .i64 nn ∧ 0 ≤ nn ∧ wx = w1)
  case first =>
    by_cases hn : names < 0
    · go_wp2_with fail
      go_meet
      exact ⟨0, rfl, by omega, by first | rfl | exact True.intro⟩
    · go_wp2_with fail
      go_meet
      exact ⟨names, rfl, by omega, by first | rfl | exact True.intro⟩
  case rest =>
    obtain ⟨nn, rfl, hnn, rfl⟩ := hcut
    go_upto_if 18 with fail
    go_cut [1] (fun v wx2 => ∃ j : Nat, v = .int .i64 j ∧ j < X.was.length ∧ wx2 = wc)
    case first =>
      by_cases hn : (X.was.length : Int) - 1 < nn
      · go_wp2_with fail
        go_meet
        exact ⟨X.was.length - 1, by congr 1; omega, by omega, by first | rfl | exact True.intro⟩
      · go_wp2_with fail
        go_meet
        exact ⟨nn.toNat, by congr 1; omega, by omega, by first | rfl | exact True.intro⟩
    case rest =>
      obtain ⟨j, rfl, hj, rfl⟩ := hcut
      go_upto_if 24 with fail
      go_cut [2] (fun v wx3 => ∃ bb : Int, v = .int .i64 bb ∧ 0 ≤ bb ∧ wx3 = wc)
      case first =>
        by_cases hn : bytes < 0
        · go_wp2_with fail
          go_meet
          exact ⟨0, rfl, by omega, by first | rfl | exact True.intro⟩
        · go_wp2_with fail
          go_meet
          exact ⟨bytes, rfl, by omega, by first | rfl | exact True.intro⟩
      case rest =>
        obtain ⟨bb, rfl, hbb, rfl⟩ := hcut
        have hji : (j : Int) < (X.was.length : Int) := by omega
        have hji0 : (0 : Int) ≤ (j : Int) := Int.natCast_nonneg _
        obtain ⟨gw, hwa, -, hcw⟩ := (H.out.W.upd hu1 (fun _ _ h => h)).cellAt (by omega)
        obtain ⟨y, hy⟩ : ∃ y, X.was[j]? = some y := ⟨_, List.getElem?_eq_getElem hj⟩
        have p0 := hcw j _ (by rw [List.getElem?_map, hy]; rfl)
        have HYY := Lib.hid (H.out.was y (List.mem_of_getElem? hy))
        unfold RNames.v at p0
        rw [hwa] at x2
        clear hcw hwa hy
        go_wp2_with fail
        have hi0 : FInv w Fs N X wc X.la X.lc X.L := ⟨rfl, (H.out.grow (Fs' := BoxF w Fs) (fun k hk => box_or hk)).upd hu1 (fun _ h => h.elim), HX.out, HY.out, hu1⟩
        clear x0 x1 x3 x4 x5 x6 u0 u1 u2 u3 u4 u5 u6 y0 y1 y2 y3 y4 y5 y6 v0 v1 v2 v3 v4 v5 v6 HX HY hu1 p0 x2
        go_loopw [8] (fun i wr => ∃ (k : Nat) (la : Option Addr) (lc : Nat) (L : List RFile), k ≤ y.l.length ∧ i = .int .i64 k ∧ FInv w Fs N X wr la lc L) (fun i _ => y.l.length - (intOf i).toNat)
        case atStart => exact ⟨0, _, _, _, Nat.zero_le _, rfl, hi0⟩
        case round =>
          obtain ⟨k, la, lc, L, hk, rfl, hinv⟩ := hrel
          have HI2 := Lib.hid hinv
          clear hinv hi0
          have HX := Lib.hid HI2.out.bx
          have HY := Lib.hid HI2.out.by_
          have hu1 := HI2.out.upd
          obtain ⟨⟨x0, x1, x2, x3, x4, x5, x6⟩, u0, u1, u2, u3, u4, u5, u6⟩ := box7 HX.out; obtain ⟨⟨y0, y1, y2, y3, y4, y5, y6⟩, v0, v1, v2, v3, v4, v5, v6⟩ := box7 HY.out
          by_cases hlt : k < y.l.length
          · obtain ⟨gy, r, hya, hry, r0, r1⟩ := (HYY.out.1.upd hu1 (fun _ h => h.elim)).at_ hlt
            have hrf := HYY.out.1.lt r (List.mem_of_getElem? hry)
            obtain ⟨kf, hkf⟩ := Int.eq_ofNat_of_zero_le hrf.1
            rw [hkf] at r1
            have hki : (k : Int) < (y.l.length : Int) := by omega
            have hkf1 : (kf : Int) < (L.length : Int) := by have := HI2.out.len; omega
            have hkf0 : (0 : Int) ≤ (kf : Int) := Int.natCast_nonneg _
            have hkl : kf < L.length := by have := HI2.out.len; omega
            obtain ⟨x, hx⟩ : ∃ x, L[kf]? = some x := ⟨_, List.getElem?_eq_getElem hkl⟩
            have HK := Lib.hid hx
            have HLL := Lib.hid HI2.out.len
            obtain ⟨g, hla, -, -⟩ := HI2.out.ok.L.cellAt (show 0 < L.length by omega)
            have HLA : Hid (la = some ⟨g, 0, none⟩) := Lib.hid hla
            have HLR : Hid (Row wr 85 2 (some ⟨g, 0, none⟩) L.length lc (L.flatMap encRF)) := Lib.hid (hla ▸ HI2.out.ok.L)
            have hfx := HI2.out.ok.files x (List.mem_of_getElem? hx)
            have hsafe := hfx.1.s0
            obtain ⟨q0, q1, k0, k1⟩ := fileCells HLR.out hx
            have HYA := Lib.hid hya
            clear hx hla hry hkf hrf
            have HFX := Lib.hid hfx
            rw [HLA.out] at x0
            rw [HYA.out]
            clear hfx
            go_wp2_with fail
            go_region_held3 (fun W => W.cell? ⟨w.heap.size, 0, none⟩ = some (.slice (some ⟨g, 0, none⟩) L.length lc) ∧ W.cell? ⟨gy, k * 2 + 1, none⟩ = some (.int .i64 kf) ∧ W.cell? ⟨g, kf * 2, none⟩ = some (.slice x.a x.p.length x.c) ∧ W.cell? ⟨g, kf * 2 + 1, none⟩ = some (.int .i64 x.safe)) (first | go_keep) (first | fail)
            have hu3 : Upd wr (wr.alloc (.cells #[.slice x.a x.p.length x.c, .int .i64 x.safe] 85)).drew (fun _ => False) := ((Upd.refl _ _).alloc _).drew
            have hbx := (Upd.drew (Upd.refl (wr.alloc (.cells #[.slice x.a x.p.length x.c, .int .i64 x.safe] 85)) (fun _ => False))).heap (heap_alloc_new wr (.cells #[.slice x.a x.p.length x.c, .int .i64 x.safe] 85)) (fun h => h)
            generalize (wr.alloc (.cells #[.slice x.a x.p.length x.c, .int .i64 x.safe] 85)).drew = w3 at hu3 hbx ⊢
            have hx2 := hu3.heap HX.out (fun h => h)
            have hy2 := hu3.heap HY.out (fun h => h)
            have hu2 : Upd w w3 (fun _ => False) := hu1.trans hu3 (fun _ _ h => h)
            clear x0 x1 x2 x3 x4 x5 x6 u0 u1 u2 u3 u4 u5 u6 y0 y1 y2 y3 y4 y5 y6 v0 v1 v2 v3 v4 v5 v6 HX HY hu1; have HX := Lib.hid hx2; have HY := Lib.hid hy2; clear hx2 hy2; have hu1 := hu2; clear hu2; obtain ⟨⟨x0, x1, x2, x3, x4, x5, x6⟩, u0, u1, u2, u3, u4, u5, u6⟩ := box7 HX.out; obtain ⟨⟨y0, y1, y2, y3, y4, y5, y6⟩, v0, v1, v2, v3, v4, v5, v6⟩ := box7 HY.out
            rw [HLA.out] at x0
            have HBX := Lib.hid hbx
            have b0 := (cell_of_heap hbx 0).trans rfl
            have b1 := (cell_of_heap hbx 1).trans rfl
            have hsafe2 := HFX.out.1.s1
            have hpl := HFX.out.2
            have hs1 : wrap64 ((x.p.length : Int) - x.safe) = (x.p.length : Int) - x.safe := IntWalk.wrap64_in _ (by omega)
            clear hbx
            go_upto_if 53 with fail
            go_cut [10] (fun v wx => ∃ q : List UInt8, v = .int .i64 q.length ∧ q = x.p.take q.length ∧ q.length ≤ x.p.length ∧ wx = w3)
            case first =>
              as_aux_lemma =>
              by_cases hsh : bb < (x.p.length : Int) - x.safe
              · have hs2 : wrap64 (x.safe + bb) = x.safe + bb := IntWalk.wrap64_in _ (by omega)
                go_wp2_with fail
                go_meet
                exact ⟨x.p.take (x.safe + bb).toNat, by rw [List.length_take]; congr 1; omega, by rw [List.length_take, List.take_eq_take_iff]; omega, by rw [List.length_take]; omega, by first | rfl | exact True.intro⟩
              · go_wp2_with fail
                go_meet
                exact ⟨x.p, rfl, by simp, Nat.le_refl _, by first | rfl | exact True.intro⟩
            case rest =>
             obtain ⟨q, rfl, hq, hql, rfl⟩ := hcut
             have HQ := Lib.hid hq
             have HQL := Lib.hid hql
             clear hq
             go_upto_region 15 with fail
             rcases HFX.out.1.row.2 with ⟨ha, hz, hc⟩ | ⟨ga, cur, ha, hrest⟩
             · as_aux_lemma =>
              have HXA := Lib.hid ha
              obtain rfl : q = [] := List.eq_nil_of_length_eq_zero (by omega)
              clear ha hz hc
              have hqm : (([] : List UInt8).length : Int) ≤ (x.c : Int) := by have h1 := HFX.out.1.row.cap; omega
              have lr1 := World.block_lt_of_cell? _ _ r1
              refine wp_region_still_tail 13 (by kernel_rfl) (by kernel_rfl) ?_; have hu8 : Upd w wc.drew (fun _ => False) := hu1.drew; have hd8 : Upd wc wc.drew (fun _ => False) := (Upd.refl _ _).drew; have hx8 := (Upd.drew (Upd.refl wc (fun _ => False))).heap HX.out (fun h => h); have hy8 := (Upd.drew (Upd.refl wc (fun _ => False))).heap HY.out (fun h => h); change wpStill _ _ wc.drew (fun a' => wpList _ _ _ _ a' wc.drew) _ _; generalize wc.drew = w8 at hu8 hx8 hy8 hd8 ⊢; clear x0 x1 x2 x3 x4 x5 x6 u0 u1 u2 u3 u4 u5 u6 y0 y1 y2 y3 y4 y5 y6 v0 v1 v2 v3 v4 v5 v6 HX HY hu1; have HX := Lib.hid hx8; have HY := Lib.hid hy8; have hu1 := hu8; clear hx8 hy8 hu8; obtain ⟨⟨x0, x1, x2, x3, x4, x5, x6⟩, u0, u1, u2, u3, u4, u5, u6⟩ := box7 HX.out; obtain ⟨⟨y0, y1, y2, y3, y4, y5, y6⟩, v0, v1, v2, v3, v4, v5, v6⟩ := box7 HY.out; rw [HLA.out] at x0; have r1b := (hd8.cell (p := ⟨gy, k * 2 + 1, none⟩) (Nat.lt_of_lt_of_le lr1 hu3.size) (fun h => h)).trans ((hu3.cell (p := ⟨gy, k * 2 + 1, none⟩) lr1 (fun h => h)).trans r1); have hb8 := hd8.heap HBX.out (fun h => h); clear b0 b1; have b0 := (cell_of_heap hb8 0).trans rfl; have b1 := (cell_of_heap hb8 1).trans rfl; clear hb8; rw [HXA.out] at b0; simp only [List.take_succ_cons, List.take_zero, List.drop_succ_cons, List.drop_zero]; repeat still_step
              refine wpStill_nil ?_
              have HLB := Lib.hid (show L.length ≤ Big by have := HLL.out; unfold Big; omega)
              go_wp2_with (first
        | (go_at_call 49; refine (changed_calls _ _ L kf ⟨none, 0, [], 0⟩ _ _ _ _ _ _ _ _ _ _ (HLR.out.upd (F := fun _ => False) (hu3.trans hd8 (fun _ _ h => h)) (fun _ _ h => h)) HLB.out hkl).mono ?_; rintro e w6 ⟨la2, lc2, rfl, hrow6, ho6⟩; have HR6 := Lib.hid hrow6; have hsz8 := lt_of_heap HY.out; have HNE : Hid (∀ gg, blockOf la2 = some gg → w.heap.size + 1 < gg) := Lib.hid (fun gg hg2 => Nat.lt_of_lt_of_le hsz8 (ho6.fresh gg hg2)); have hx2 := ho6.upd.heap HX.out (fun h => h); have hy2 := ho6.upd.heap HY.out (fun h => h); have hu2 := hu1.trans ho6.upd (fun _ _ h => h); have hv6 : Upd wr w6 (fun _ => False) := (hu3.trans hd8 (fun _ _ h => h)).trans ho6.upd (fun _ _ h => h); clear hrow6 ho6; clear x0 x1 x2 x3 x4 x5 x6 u0 u1 u2 u3 u4 u5 u6 y0 y1 y2 y3 y4 y5 y6 v0 v1 v2 v3 v4 v5 v6 HX HY hu1; have HX := Lib.hid hx2; have HY := Lib.hid hy2; clear hx2 hy2; have hu1 := hu2; clear hu2; obtain ⟨⟨x0, x1, x2, x3, x4, x5, x6⟩, u0, u1, u2, u3, u4, u5, u6⟩ := box7 HX.out; obtain ⟨⟨y0, y1, y2, y3, y4, y5, y6⟩, v0, v1, v2, v3, v4, v5, v6⟩ := box7 HY.out)
        | (refine gate_st _ (.tmp 3) rfl ?_; (refine wpList_box7 _ _ rfl rfl rfl w.heap.size rfl rfl HX.out rfl rfl rfl rfl rfl rfl rfl ?_; intro w2 hb2 hx2; have hy2 := hb2.heap HY.out (by omega); have hu2 : Upd w w2 (fun _ => False) := hu1.trans hb2 (fun k hk e => by omega); clear x0 x1 x2 x3 x4 x5 x6 u0 u1 u2 u3 u4 u5 u6 y0 y1 y2 y3 y4 y5 y6 v0 v1 v2 v3 v4 v5 v6 HX HY hu1; have HX := Lib.hid hx2; have HY := Lib.hid hy2; clear hx2 hy2; have hu1 := hu2; clear hu2; obtain ⟨⟨x0, x1, x2, x3, x4, x5, x6⟩, u0, u1, u2, u3, u4, u5, u6⟩ := box7 HX.out; obtain ⟨⟨y0, y1, y2, y3, y4, y5, y6⟩, v0, v1, v2, v3, v4, v5, v6⟩ := box7 HY.out))
        | go_in)
              have hv2 : Upd wr w2 (BoxF w Fs) := (hv6.mono (F' := BoxF w Fs) (fun _ _ h => h.elim)).trans hb2 (fun k _ e => .inr (.inl e))
              have hkb : wrap64 ((k : Int) + 1) = (k : Int) + 1 := IntWalk.wrap64_in _ (by have := HYY.out.2; omega)
              have hrow2 := HR6.out.upd hb2 (fun g hg e => by have := HNE.out g hg; omega)
              have hfl : FlOk w2 (BoxF w Fs) ⟨x.a, ([] : List UInt8).length, [], ([] : List UInt8).length⟩ := by
                have h0 := HFX.out.1.cutTo HQ.out HQL.out (by omega) (Upd.refl wr _)
                exact h0.upd hv2 (fun _ h => h)
              rw [HXA.out] at hfl
              have hok := HI2.out.ok.changed0 (k := kf) hv2 (fun _ h => h) hfl (by have := HFX.out.2; have h2 := HQL.out; show ([] : List UInt8).length ≤ _; omega) hrow2 (fun gg hgg hf => by
                have h1 := HNE.out gg hgg
                rcases hf with h | h | h
                · have := hF gg h; omega
                · omega
                · omega)
              rw [hkb]
              have hnew : FInv w Fs N X w2 la2 lc2 (L.set kf ⟨none, 0, [], 0⟩) := ⟨by rw [List.length_set]; exact HLL.out, hok, by rw [List.length_set]; exact HX.out, HY.out, hu1⟩
              clear hok
              clear hkb hs1
              have hm2 : y.l.length - (k + 1) < y.l.length - k := Nat.sub_lt_sub_left hlt (Nat.lt_succ_self k)
              exact ⟨⟨k + 1, la2, lc2, _, hlt, rfl, hnew⟩, by simpa [intOf] using hm2⟩
             · as_aux_lemma =>
              have HXA := Lib.hid ha
              clear ha hrest
              have hqm : (q.length : Int) ≤ (x.c : Int) := by have h1 := HFX.out.1.row.cap; omega
              have lr1 := World.block_lt_of_cell? _ _ r1
              refine wp_region_still_tail 13 (by kernel_rfl) (by kernel_rfl) ?_; have hu8 : Upd w wc.drew (fun _ => False) := hu1.drew; have hd8 : Upd wc wc.drew (fun _ => False) := (Upd.refl _ _).drew; have hx8 := (Upd.drew (Upd.refl wc (fun _ => False))).heap HX.out (fun h => h); have hy8 := (Upd.drew (Upd.refl wc (fun _ => False))).heap HY.out (fun h => h); change wpStill _ _ wc.drew (fun a' => wpList _ _ _ _ a' wc.drew) _ _; generalize wc.drew = w8 at hu8 hx8 hy8 hd8 ⊢; clear x0 x1 x2 x3 x4 x5 x6 u0 u1 u2 u3 u4 u5 u6 y0 y1 y2 y3 y4 y5 y6 v0 v1 v2 v3 v4 v5 v6 HX HY hu1; have HX := Lib.hid hx8; have HY := Lib.hid hy8; have hu1 := hu8; clear hx8 hy8 hu8; obtain ⟨⟨x0, x1, x2, x3, x4, x5, x6⟩, u0, u1, u2, u3, u4, u5, u6⟩ := box7 HX.out; obtain ⟨⟨y0, y1, y2, y3, y4, y5, y6⟩, v0, v1, v2, v3, v4, v5, v6⟩ := box7 HY.out; rw [HLA.out] at x0; have r1b := (hd8.cell (p := ⟨gy, k * 2 + 1, none⟩) (Nat.lt_of_lt_of_le lr1 hu3.size) (fun h => h)).trans ((hu3.cell (p := ⟨gy, k * 2 + 1, none⟩) lr1 (fun h => h)).trans r1); have hb8 := hd8.heap HBX.out (fun h => h); clear b0 b1; have b0 := (cell_of_heap hb8 0).trans rfl; have b1 := (cell_of_heap hb8 1).trans rfl; clear hb8; rw [HXA.out] at b0; simp only [List.take_succ_cons, List.take_zero, List.drop_succ_cons, List.drop_zero]; repeat still_step
              refine wpStill_nil ?_
              have HLB := Lib.hid (show L.length ≤ Big by have := HLL.out; unfold Big; omega)
              go_wp2_with (first
        | (go_at_call 49; refine (changed_calls _ _ L kf ⟨some ⟨ga, 0, none⟩, q.length, q, q.length⟩ _ _ _ _ _ _ _ _ _ _ (HLR.out.upd (F := fun _ => False) (hu3.trans hd8 (fun _ _ h => h)) (fun _ _ h => h)) HLB.out hkl).mono ?_; rintro e w6 ⟨la2, lc2, rfl, hrow6, ho6⟩; have HR6 := Lib.hid hrow6; have hsz8 := lt_of_heap HY.out; have HNE : Hid (∀ gg, blockOf la2 = some gg → w.heap.size + 1 < gg) := Lib.hid (fun gg hg2 => Nat.lt_of_lt_of_le hsz8 (ho6.fresh gg hg2)); have hx2 := ho6.upd.heap HX.out (fun h => h); have hy2 := ho6.upd.heap HY.out (fun h => h); have hu2 := hu1.trans ho6.upd (fun _ _ h => h); have hv6 : Upd wr w6 (fun _ => False) := (hu3.trans hd8 (fun _ _ h => h)).trans ho6.upd (fun _ _ h => h); clear hrow6 ho6; clear x0 x1 x2 x3 x4 x5 x6 u0 u1 u2 u3 u4 u5 u6 y0 y1 y2 y3 y4 y5 y6 v0 v1 v2 v3 v4 v5 v6 HX HY hu1; have HX := Lib.hid hx2; have HY := Lib.hid hy2; clear hx2 hy2; have hu1 := hu2; clear hu2; obtain ⟨⟨x0, x1, x2, x3, x4, x5, x6⟩, u0, u1, u2, u3, u4, u5, u6⟩ := box7 HX.out; obtain ⟨⟨y0, y1, y2, y3, y4, y5, y6⟩, v0, v1, v2, v3, v4, v5, v6⟩ := box7 HY.out)
        | (refine gate_st _ (.tmp 3) rfl ?_; (refine wpList_box7 _ _ rfl rfl rfl w.heap.size rfl rfl HX.out rfl rfl rfl rfl rfl rfl rfl ?_; intro w2 hb2 hx2; have hy2 := hb2.heap HY.out (by omega); have hu2 : Upd w w2 (fun _ => False) := hu1.trans hb2 (fun k hk e => by omega); clear x0 x1 x2 x3 x4 x5 x6 u0 u1 u2 u3 u4 u5 u6 y0 y1 y2 y3 y4 y5 y6 v0 v1 v2 v3 v4 v5 v6 HX HY hu1; have HX := Lib.hid hx2; have HY := Lib.hid hy2; clear hx2 hy2; have hu1 := hu2; clear hu2; obtain ⟨⟨x0, x1, x2, x3, x4, x5, x6⟩, u0, u1, u2, u3, u4, u5, u6⟩ := box7 HX.out; obtain ⟨⟨y0, y1, y2, y3, y4, y5, y6⟩, v0, v1, v2, v3, v4, v5, v6⟩ := box7 HY.out))
        | go_in)
              have hv2 : Upd wr w2 (BoxF w Fs) := (hv6.mono (F' := BoxF w Fs) (fun _ _ h => h.elim)).trans hb2 (fun k _ e => .inr (.inl e))
              have hkb : wrap64 ((k : Int) + 1) = (k : Int) + 1 := IntWalk.wrap64_in _ (by have := HYY.out.2; omega)
              have hrow2 := HR6.out.upd hb2 (fun g hg e => by have := HNE.out g hg; omega)
              have hfl : FlOk w2 (BoxF w Fs) ⟨x.a, q.length, q, q.length⟩ := by
                have h0 := HFX.out.1.cutTo HQ.out HQL.out (by omega) (Upd.refl wr _)
                exact h0.upd hv2 (fun _ h => h)
              rw [HXA.out] at hfl
              have hok := HI2.out.ok.changed0 (k := kf) hv2 (fun _ h => h) hfl (by have := HFX.out.2; have h2 := HQL.out; show q.length ≤ _; omega) hrow2 (fun gg hgg hf => by
                have h1 := HNE.out gg hgg
                rcases hf with h | h | h
                · have := hF gg h; omega
                · omega
                · omega)
              rw [hkb]
              have hnew : FInv w Fs N X w2 la2 lc2 (L.set kf ⟨some ⟨ga, 0, none⟩, q.length, q, q.length⟩) := ⟨by rw [List.length_set]; exact HLL.out, hok, by rw [List.length_set]; exact HX.out, HY.out, hu1⟩
              clear hok
              clear hkb hs1
              have hm2 : y.l.length - (k + 1) < y.l.length - k := Nat.sub_lt_sub_left hlt (Nat.lt_succ_self k)
              exact ⟨⟨k + 1, la2, lc2, _, hlt, rfl, hnew⟩, by simpa [intOf] using hm2⟩
          · as_aux_lemma =>
            clear hwr hwlen
            have hv1 : Upd wr wr (BoxF w Fs) := Upd.refl _ _
            go_wp2_with (first
        | (refine gate_st _ (.tmp 6) rfl ?_; refine wpList_box7 _ _ rfl rfl rfl (w.heap.size + 1) rfl rfl HY.out rfl rfl rfl rfl rfl rfl rfl ?_; intro w9 hby hy2; have hu2 : Upd w w9 (fun _ => False) := Upd.trans (by (repeat (first | with_reducible assumption | with_reducible exact Upd.refl _ _ | with_reducible refine Upd.alloc (w' := _) ?_ _ | with_reducible refine Upd.drew (w' := _) ?_ | (with_reducible refine Upd.putR (w' := _) (.inr ?_) ?_; (· first | omega | (simp; done) | (simp; omega)))))) hby (fun k hk e => by omega); have HUY := Lib.hid hu2; clear x0 x1 x2 x3 x4 x5 x6 u0 u1 u2 u3 u4 u5 u6 y0 y1 y2 y3 y4 y5 y6 v0 v1 v2 v3 v4 v5 v6 hu2; have HY9 := Lib.hid hy2; clear hy2; obtain ⟨⟨y0, y1, y2, y3, y4, y5, y6⟩, v0, v1, v2, v3, v4, v5, v6⟩ := box7 HY9.out)
        | (refine wpList_ld7 (.tmp 3) rfl rfl w.heap.size rfl (by first | exact HX.out | exact heap_old HX.out | exact heap_old (heap_old HX.out) | exact (Upd.putR (F := fun k => k = w3.heap.size) (.inl rfl) (Upd.refl _ _)).heap HX.out (by omega)) ?_)
        | (refine wpList_fld1 32 _ _ rfl rfl rfl w.heap.size rfl rfl (by first | exact HX.out | exact heap_old HX.out | exact heap_old (heap_old HX.out) | exact (Upd.putR (F := fun k => k = w3.heap.size) (.inl rfl) (Upd.refl _ _)).heap HX.out (by omega)) infoNs1 ?_; intro w3 hbf hx2; have hy2 := hbf.heap (by first | exact HY.out | exact heap_old HY.out | exact heap_old (heap_old HY.out) | exact (Upd.putR (F := fun k => k = w3.heap.size) (.inl rfl) (Upd.refl _ _)).heap HY.out (by omega)) (by omega); have hu2 : Upd w w3 (fun _ => False) := Upd.trans (by (repeat (first | with_reducible assumption | with_reducible exact Upd.refl _ _ | with_reducible refine Upd.alloc (w' := _) ?_ _ | with_reducible refine Upd.drew (w' := _) ?_ | (with_reducible refine Upd.putR (w' := _) (.inr ?_) ?_; (· first | omega | (simp; done) | (simp; omega)))))) hbf (fun k hk e => by omega); have hsz := lt_of_heap HY.out; have hv2 : Upd wr w3 (BoxF w Fs) := Upd.trans (by (repeat (first | with_reducible assumption | with_reducible exact Upd.refl _ _ | with_reducible refine Upd.alloc (w' := _) ?_ _ | with_reducible refine Upd.drew (w' := _) ?_ | (with_reducible refine Upd.putR (w' := _) (.inr ?_) ?_; (· first | omega | (simp; done) | (simp; omega)))))) hbf (fun k _ e => .inr (.inl e)); clear hv1; have hv1 := hv2; clear hv2; clear x0 x1 x2 x3 x4 x5 x6 u0 u1 u2 u3 u4 u5 u6 y0 y1 y2 y3 y4 y5 y6 v0 v1 v2 v3 v4 v5 v6 HX HY hu1 hbf; have HX := Lib.hid hx2; have HY := Lib.hid hy2; clear hx2 hy2; have hu1 := hu2; clear hu2; obtain ⟨⟨x0, x1, x2, x3, x4, x5, x6⟩, u0, u1, u2, u3, u4, u5, u6⟩ := box7 HX.out; obtain ⟨⟨y0, y1, y2, y3, y4, y5, y6⟩, v0, v1, v2, v3, v4, v5, v6⟩ := box7 HY.out)
        | (refine wpList_fld2 33 _ _ rfl rfl rfl w.heap.size rfl rfl (by first | exact HX.out | exact heap_old HX.out | exact heap_old (heap_old HX.out) | exact (Upd.putR (F := fun k => k = w4.heap.size) (.inl rfl) (Upd.refl _ _)).heap HX.out (by omega)) infoWs ?_; intro w4 hbf hx2; have hy2 := hbf.heap (by first | exact HY.out | exact heap_old HY.out | exact heap_old (heap_old HY.out) | exact (Upd.putR (F := fun k => k = w4.heap.size) (.inl rfl) (Upd.refl _ _)).heap HY.out (by omega)) (by omega); have hu2 : Upd w w4 (fun _ => False) := Upd.trans (by (repeat (first | with_reducible assumption | with_reducible exact Upd.refl _ _ | with_reducible refine Upd.alloc (w' := _) ?_ _ | with_reducible refine Upd.drew (w' := _) ?_ | (with_reducible refine Upd.putR (w' := _) (.inr ?_) ?_; (· first | omega | (simp; done) | (simp; omega)))))) hbf (fun k hk e => by omega); have hsz := lt_of_heap HY.out; have hv2 : Upd wr w4 (BoxF w Fs) := Upd.trans (by (repeat (first | with_reducible assumption | with_reducible exact Upd.refl _ _ | with_reducible refine Upd.alloc (w' := _) ?_ _ | with_reducible refine Upd.drew (w' := _) ?_ | (with_reducible refine Upd.putR (w' := _) (.inr ?_) ?_; (· first | omega | (simp; done) | (simp; omega)))))) hbf (fun k _ e => .inr (.inl e)); clear hv1; have hv1 := hv2; clear hv2; have HR := Lib.hid (hbf.heap (heap_alloc_new _ _) (by omega)); have HSZ := Lib.hid hsz; clear x0 x1 x2 x3 x4 x5 x6 u0 u1 u2 u3 u4 u5 u6 y0 y1 y2 y3 y4 y5 y6 v0 v1 v2 v3 v4 v5 v6 HX HY hu1 hbf; have HX := Lib.hid hx2; have HY := Lib.hid hy2; clear hx2 hy2; have hu1 := hu2; clear hu2; obtain ⟨⟨x0, x1, x2, x3, x4, x5, x6⟩, u0, u1, u2, u3, u4, u5, u6⟩ := box7 HX.out; obtain ⟨⟨y0, y1, y2, y3, y4, y5, y6⟩, v0, v1, v2, v3, v4, v5, v6⟩ := box7 HY.out)
        | (refine wpList_fld5 4 _ _ rfl rfl rfl w.heap.size rfl rfl (by first | exact HX.out | exact heap_old HX.out | exact heap_old (heap_old HX.out) | exact (Upd.putR (F := fun k => k = w5.heap.size) (.inl rfl) (Upd.refl _ _)).heap HX.out (by omega)) infoBo ?_; intro w5 hbf hx2; have hy2 := hbf.heap (by first | exact HY.out | exact heap_old HY.out | exact heap_old (heap_old HY.out) | exact (Upd.putR (F := fun k => k = w5.heap.size) (.inl rfl) (Upd.refl _ _)).heap HY.out (by omega)) (by omega); have hu2 : Upd w w5 (fun _ => False) := Upd.trans (by (repeat (first | with_reducible assumption | with_reducible exact Upd.refl _ _ | with_reducible refine Upd.alloc (w' := _) ?_ _ | with_reducible refine Upd.drew (w' := _) ?_ | (with_reducible refine Upd.putR (w' := _) (.inr ?_) ?_; (· first | omega | (simp; done) | (simp; omega)))))) hbf (fun k hk e => by omega); have hsz := lt_of_heap HY.out; have hv2 : Upd wr w5 (BoxF w Fs) := Upd.trans (by (repeat (first | with_reducible assumption | with_reducible exact Upd.refl _ _ | with_reducible refine Upd.alloc (w' := _) ?_ _ | with_reducible refine Upd.drew (w' := _) ?_ | (with_reducible refine Upd.putR (w' := _) (.inr ?_) ?_; (· first | omega | (simp; done) | (simp; omega)))))) hbf (fun k _ e => .inr (.inl e)); clear hv1; have hv1 := hv2; clear hv2; have HR2 := Lib.hid (hbf.heap HR.out (by have := HSZ.out; omega)); clear x0 x1 x2 x3 x4 x5 x6 u0 u1 u2 u3 u4 u5 u6 y0 y1 y2 y3 y4 y5 y6 v0 v1 v2 v3 v4 v5 v6 HX HY hu1 hbf; have HX := Lib.hid hx2; have HY := Lib.hid hy2; clear hx2 hy2; have hu1 := hu2; clear hu2; obtain ⟨⟨x0, x1, x2, x3, x4, x5, x6⟩, u0, u1, u2, u3, u4, u5, u6⟩ := box7 HX.out; obtain ⟨⟨y0, y1, y2, y3, y4, y5, y6⟩, v0, v1, v2, v3, v4, v5, v6⟩ := box7 HY.out)
        | (refine wpList_fld4 3 _ _ rfl rfl rfl w.heap.size rfl rfl (by first | exact HX.out | exact heap_old HX.out | exact heap_old (heap_old HX.out) | exact (Upd.putR (F := fun k => k = w7.heap.size) (.inl rfl) (Upd.refl _ _)).heap HX.out (by omega)) infoIn ?_; intro w7 hbf hx2; have hy2 := hbf.heap (by first | exact HY.out | exact heap_old HY.out | exact heap_old (heap_old HY.out) | exact (Upd.putR (F := fun k => k = w7.heap.size) (.inl rfl) (Upd.refl _ _)).heap HY.out (by omega)) (by omega); have hu2 : Upd w w7 (fun _ => False) := Upd.trans (by (repeat (first | with_reducible assumption | with_reducible exact Upd.refl _ _ | with_reducible refine Upd.alloc (w' := _) ?_ _ | with_reducible refine Upd.drew (w' := _) ?_ | (with_reducible refine Upd.putR (w' := _) (.inr ?_) ?_; (· first | omega | (simp; done) | (simp; omega)))))) hbf (fun k hk e => by omega); have hsz := lt_of_heap HY.out; have hv2 : Upd wr w7 (BoxF w Fs) := Upd.trans (by (repeat (first | with_reducible assumption | with_reducible exact Upd.refl _ _ | with_reducible refine Upd.alloc (w' := _) ?_ _ | with_reducible refine Upd.drew (w' := _) ?_ | (with_reducible refine Upd.putR (w' := _) (.inr ?_) ?_; (· first | omega | (simp; done) | (simp; omega)))))) hbf (fun k _ e => .inr (.inl e)); clear hv1; have hv1 := hv2; clear hv2; have HR3 := Lib.hid (hbf.heap HR2.out (by have := HSZ.out; omega)); clear x0 x1 x2 x3 x4 x5 x6 u0 u1 u2 u3 u4 u5 u6 y0 y1 y2 y3 y4 y5 y6 v0 v1 v2 v3 v4 v5 v6 HX HY hu1 hbf; have HX := Lib.hid hx2; have HY := Lib.hid hy2; clear hx2 hy2; have hu1 := hu2; clear hu2; obtain ⟨⟨x0, x1, x2, x3, x4, x5, x6⟩, u0, u1, u2, u3, u4, u5, u6⟩ := box7 HX.out; obtain ⟨⟨y0, y1, y2, y3, y4, y5, y6⟩, v0, v1, v2, v3, v4, v5, v6⟩ := box7 HY.out)
        | go_in)
            go_frame
            have hv9 : Upd wr w9 (BoxF w Fs) := hv1.trans hby (fun k _ e => .inr (.inr e))
            have hrow : Row w9 32 1 (some ⟨w3.heap.size, 0, none⟩) 1 1 [y.v] := ⟨rfl, .inr ⟨_, _, rfl, hby.heap HR3.out (by have := HSZ.out; omega), Nat.le_refl _, by decide, by simp, rfl⟩⟩
            have hlen := HI2.out.len
            have hok := (HI2.out.ok.upd hv9 (fun _ h => h)).sub (Fs := Fs) (fun _ h => .inl h)
            have hyy := HYY.out.1.upd HUY.out (fun _ h => h.elim)
            refine bodyPost_ret (v := .agg #[.slice la L.length lc, .slice y.a y.l.length y.c, .slice (some ⟨w3.heap.size, 0, none⟩) 1 1, .int .i64 X.room, .int .i64 (-1), .bool false, .int .i64 X.done]) ?_ ?_ ?_
            · simp [results, Try.results35, go_sem, y0, y1, y2, y3, y4, y5, y6, v0]
            · rfl
            · refine ⟨_, ?_, RefOk.fallen hok (Upd.refl _ _) (y := y) (by rw [← hlen] at hyy; exact hyy) HYY.out.2 hrow (fun gg hgg hf => by have := HSZ.out; have := hF gg hf; simp [blockOf] at hgg; omega), HUY.out⟩
              simp [RSh.v, RNames.v, hlen]
end Go.Proofs.Ytpmbeeddciepjaa
