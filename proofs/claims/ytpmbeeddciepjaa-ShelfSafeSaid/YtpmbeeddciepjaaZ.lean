/- The reference's shelf: walk of Delete. -/
import Derived.Test.YtpmbeeddciepjaaY
import Derived.Deep.RegionHeld3
namespace Go.Proofs.Ytpmbeeddciepjaa
open Go.RowKit Go.Maps Go.Sort
set_option linter.unusedSimpArgs false
set_option linter.unusedVariables false
section
variable {w w' : World} {Fs : Nat → Prop} {N : Nat} {X : RSh}
theorem RefOk.moved (h : RefOk w Fs N X) (hu : Upd w w' (fun _ => False)) {l d : Int} (hl : -1 ≤ l ∧ l ≤ 9223372036854775807) {x : RNames} (hx : NmOk w' Fs X.L.length x) (hn : x.l.length ≤ N + 1)
    {wa : Option Addr} {wc : Nat} (hrow : Row w' 32 1 wa (X.was.length + 1) wc ((X.was ++ [x]).map RNames.v)) (ho : Off Fs wa) {o : Bool} :
    RefOk w' Fs (N + 1) {X with now := x, wa := wa, wc := wc, was := X.was ++ [x], left := l, off := o, done := d} :=
  have h2 := (h.upd hu (fun _ h => h.elim)).more (Nat.le_succ N)
  { h2 with
    now := hx
    nown := hn
    W := by simpa using hrow
    woff := ho
    was := fun y hy => by
      rcases List.mem_append.1 hy with hy | hy
      · exact h2.was y hy
      · simp at hy; subst hy; exact ⟨hx, hn⟩
    was1 := by simp
    was2 := by have := h.was2; simp; omega
    left := hl }
theorem StepP.moved (h : RefOk w Fs N X) (hu : Upd w w' (fun _ => False)) {l : Int} (hl : -1 ≤ l ∧ l ≤ 9223372036854775807) {a : Option Addr} {c : Nat} {q : List RName} (hx : NmOk w' Fs X.L.length (⟨a, c, q⟩ : RNames)) (hn : q.length ≤ N + 1)
    {wa : Option Addr} {wc : Nat} (hrow : Row w' 32 1 wa (X.was.length + 1) wc ((X.was ++ [(⟨a, c, q⟩ : RNames)]).map RNames.v)) (ho : Off Fs wa) (o : Bool) (d n : Int) :
    StepP w Fs N (.returned (.tuple #[.agg #[.slice X.la X.L.length X.lc, .slice a q.length c, .slice wa (X.was.length + 1) wc, .int .i64 X.room, .int .i64 l, .bool o, .int .i64 d], .int .i64 n])) w' :=
  ⟨{X with now := ⟨a, c, q⟩, wa := wa, wc := wc, was := X.was ++ [(⟨a, c, q⟩ : RNames)], left := l, off := o, done := d}, n, by simp [RSh.v, RNames.v], h.moved hu hl hx hn hrow ho, hu⟩
theorem outR_mem {l : List RName} {s : Nm} {r : RName} (h : r ∈ outR l s) : r ∈ l := (List.mem_filter.1 h).1
end

set_option maxHeartbeats 400000 in
set_option maxRecDepth 8000 in
theorem delete_ref {w : World} {Fs : Nat → Prop} {N : Nat} {X : RSh} (h : RefOk w Fs N X) (hF : ∀ k, Fs k → k < w.heap.size) (s : Nm) (hN : N < 1000) :
    Calls Try.prog 30 #[X.v, .string ⟨s.toArray⟩] w (StepP w Fs N) := by
  have H := Lib.hid h
  have HL := Lib.hid h.left
  have HB := Lib.hid (show X.now.l.length ≤ 1099511627776 by have := h.nown; omega)
  have HB2 := Lib.hid (show X.now.l.length < Big by have := h.nown; unfold Big; omega)
  have HB3 := Lib.hid (show X.was.length < Big by have := h.was2; unfold Big; omega)
  have hfr := findR_range X.L.length X.now.l s h.now.lt
  have hl2 := h.l2
  rw [RSh.v_rv]
  unfold rv
  clear h
  by_cases hoff : X.off = true ∨ X.left = 0
  · have HOFF := Lib.hid hoff
    clear hoff
    go_enter Try.func30, Try.ntmps30
    go_wp2_with (first
        | (go_at_call 44; refine (act_ref_no _ _ _ _ _ _ _ _ _ _ _ _ _ HOFF.out).mono ?_; rintro e w1 ⟨rfl, hu0⟩; have HX := Lib.hid (hu0.heap (two_box _ _ _).1 (fun h => h)); have HY := Lib.hid (hu0.heap (two_box _ _ _).2 (fun h => h)); have hu1 : Upd w w1 (fun _ => False) := Upd.trans (by (repeat (first | with_reducible assumption | with_reducible exact Upd.refl _ _ | with_reducible refine Upd.alloc (w' := _) ?_ _ | with_reducible refine Upd.drew (w' := _) ?_ | (with_reducible refine Upd.putR (w' := _) (.inr ?_) ?_; (· first | omega | (simp; done) | (simp; omega)))))) hu0 (fun _ _ h => h); clear hu0; obtain ⟨⟨x0, x1, x2, x3, x4, x5, x6⟩, u0, u1, u2, u3, u4, u5, u6⟩ := box7 HX.out; obtain ⟨⟨y0, y1, y2, y3, y4, y5, y6⟩, v0, v1, v2, v3, v4, v5, v6⟩ := box7 HY.out)
        | (refine gate_st _ (.tmp 2) rfl ?_; (refine wpList_box7 _ _ rfl rfl rfl w.heap.size rfl rfl HX.out rfl rfl rfl rfl rfl rfl rfl ?_; intro w2 hb2 hx2; have hy2 := hb2.heap HY.out (by omega); have hu2 : Upd w w2 (fun _ => False) := hu1.trans hb2 (fun k hk e => by omega); clear x0 x1 x2 x3 x4 x5 x6 u0 u1 u2 u3 u4 u5 u6 y0 y1 y2 y3 y4 y5 y6 v0 v1 v2 v3 v4 v5 v6 HX HY hu1 hb2; have HX := Lib.hid hx2; have HY := Lib.hid hy2; clear hx2 hy2; have hu1 := hu2; clear hu2; obtain ⟨⟨x0, x1, x2, x3, x4, x5, x6⟩, u0, u1, u2, u3, u4, u5, u6⟩ := box7 HX.out; obtain ⟨⟨y0, y1, y2, y3, y4, y5, y6⟩, v0, v1, v2, v3, v4, v5, v6⟩ := box7 HY.out))
        | (refine gate_st _ (.tmp 4) rfl ?_; refine wpList_box7 _ _ rfl rfl rfl (w.heap.size + 1) rfl rfl HY.out rfl rfl rfl rfl rfl rfl rfl ?_; intro w9 hby hy2; have hu2 : Upd w w9 (fun _ => False) := Upd.trans (by (repeat (first | with_reducible assumption | with_reducible exact Upd.refl _ _ | with_reducible refine Upd.alloc (w' := _) ?_ _ | with_reducible refine Upd.drew (w' := _) ?_ | (with_reducible refine Upd.putR (w' := _) (.inr ?_) ?_; (· first | omega | (simp; done) | (simp; omega)))))) hby (fun k hk e => by omega); have HUY := Lib.hid hu2; clear x0 x1 x2 x3 x4 x5 x6 u0 u1 u2 u3 u4 u5 u6 y0 y1 y2 y3 y4 y5 y6 v0 v1 v2 v3 v4 v5 v6 hu2; have HY9 := Lib.hid hy2; clear hy2; obtain ⟨⟨y0, y1, y2, y3, y4, y5, y6⟩, v0, v1, v2, v3, v4, v5, v6⟩ := box7 HY9.out)
        | go_in)
    exact bodyPost_ret (v := .tuple #[.agg #[.slice X.la X.L.length X.lc, .slice X.now.a X.now.l.length X.now.c, .slice X.wa X.was.length X.wc, .int .i64 X.room, .int .i64 X.left, .bool true, .int .i64 X.done], .int .i64 7]) (by simp [results, Try.results30, go_sem, y0, y1, y2, y3, y4, y5, y6, v0]) rfl (StepP.act H.out HUY.out HL.out true _ 7)
  · have HOFF := Lib.hid hoff
    clear hoff
    rcases hfr with hf | ⟨hf0, hf1⟩
    · have HFR := Lib.hid hf
      clear hf
      go_enter Try.func30, Try.ntmps30
      go_wp2_with (first
        | (go_at_call 44; refine (act_ref_yes _ _ _ _ _ _ _ _ _ _ _ _ _ HL.out HOFF.out).mono ?_; rintro e w1 ⟨l, d, rfl, hl1, hl2, hu0⟩; have HX := Lib.hid (hu0.heap (two_box _ _ _).1 (fun h => h)); have HY := Lib.hid (hu0.heap (two_box _ _ _).2 (fun h => h)); have hu1 : Upd w w1 (fun _ => False) := Upd.trans (by (repeat (first | with_reducible assumption | with_reducible exact Upd.refl _ _ | with_reducible refine Upd.alloc (w' := _) ?_ _ | with_reducible refine Upd.drew (w' := _) ?_ | (with_reducible refine Upd.putR (w' := _) (.inr ?_) ?_; (· first | omega | (simp; done) | (simp; omega)))))) hu0 (fun _ _ h => h); have HL1 := Lib.hid (And.intro hl1 hl2); clear hu0 hl1 hl2; obtain ⟨⟨x0, x1, x2, x3, x4, x5, x6⟩, u0, u1, u2, u3, u4, u5, u6⟩ := box7 HX.out; obtain ⟨⟨y0, y1, y2, y3, y4, y5, y6⟩, v0, v1, v2, v3, v4, v5, v6⟩ := box7 HY.out)
        | (refine gate_st _ (.tmp 2) rfl ?_; (refine wpList_box7 _ _ rfl rfl rfl w.heap.size rfl rfl HX.out rfl rfl rfl rfl rfl rfl rfl ?_; intro w2 hb2 hx2; have hy2 := hb2.heap HY.out (by omega); have hu2 : Upd w w2 (fun _ => False) := hu1.trans hb2 (fun k hk e => by omega); clear x0 x1 x2 x3 x4 x5 x6 u0 u1 u2 u3 u4 u5 u6 y0 y1 y2 y3 y4 y5 y6 v0 v1 v2 v3 v4 v5 v6 HX HY hu1 hb2; have HX := Lib.hid hx2; have HY := Lib.hid hy2; clear hx2 hy2; have hu1 := hu2; clear hu2; obtain ⟨⟨x0, x1, x2, x3, x4, x5, x6⟩, u0, u1, u2, u3, u4, u5, u6⟩ := box7 HX.out; obtain ⟨⟨y0, y1, y2, y3, y4, y5, y6⟩, v0, v1, v2, v3, v4, v5, v6⟩ := box7 HY.out))
        | (refine gate_st _ (.tmp 4) rfl ?_; refine wpList_box7 _ _ rfl rfl rfl (w.heap.size + 1) rfl rfl HY.out rfl rfl rfl rfl rfl rfl rfl ?_; intro w9 hby hy2; have hu2 : Upd w w9 (fun _ => False) := Upd.trans (by (repeat (first | with_reducible assumption | with_reducible exact Upd.refl _ _ | with_reducible refine Upd.alloc (w' := _) ?_ _ | with_reducible refine Upd.drew (w' := _) ?_ | (with_reducible refine Upd.putR (w' := _) (.inr ?_) ?_; (· first | omega | (simp; done) | (simp; omega)))))) hby (fun k hk e => by omega); have HUY := Lib.hid hu2; clear x0 x1 x2 x3 x4 x5 x6 u0 u1 u2 u3 u4 u5 u6 y0 y1 y2 y3 y4 y5 y6 v0 v1 v2 v3 v4 v5 v6 hu2; have HY9 := Lib.hid hy2; clear hy2; obtain ⟨⟨y0, y1, y2, y3, y4, y5, y6⟩, v0, v1, v2, v3, v4, v5, v6⟩ := box7 HY9.out)
        | (go_at_call 45; refine (find_calls (NmOk.upd (F := fun _ => False) H.out.now (by (repeat (first | with_reducible assumption | with_reducible exact Upd.refl _ _ | with_reducible refine Upd.alloc (w' := _) ?_ _ | with_reducible refine Upd.drew (w' := _) ?_ | (with_reducible refine Upd.putR (w' := _) (.inr ?_) ?_; (· first | omega | (simp; done) | (simp; omega)))))) (fun _ h => h.elim)) s HB.out).mono ?_; rintro e w5 ⟨rfl, rfl⟩; rw [HFR.out])
        | go_in)
      exact bodyPost_ret (v := .tuple #[.agg #[.slice X.la X.L.length X.lc, .slice X.now.a X.now.l.length X.now.c, .slice X.wa X.was.length X.wc, .int .i64 X.room, .int .i64 l, .bool false, .int .i64 d], .int .i64 2]) (by simp [results, Try.results30, go_sem, y0, y1, y2, y3, y4, y5, y6, v0]) rfl (StepP.act H.out HUY.out HL1.out false d 2)
    · obtain ⟨k, hk⟩ := Int.eq_ofNat_of_zero_le hf0
      have HFR := Lib.hid hk
      clear hf0 hf1 hk
      go_enter Try.func30, Try.ntmps30
      go_wp2_with (first
        | (go_at_call 44; refine (act_ref_yes _ _ _ _ _ _ _ _ _ _ _ _ _ HL.out HOFF.out).mono ?_; rintro e w1 ⟨l, d, rfl, hl1, hl2, hu0⟩; have HX := Lib.hid (hu0.heap (two_box _ _ _).1 (fun h => h)); have HY := Lib.hid (hu0.heap (two_box _ _ _).2 (fun h => h)); have hu1 : Upd w w1 (fun _ => False) := Upd.trans (by (repeat (first | with_reducible assumption | with_reducible exact Upd.refl _ _ | with_reducible refine Upd.alloc (w' := _) ?_ _ | with_reducible refine Upd.drew (w' := _) ?_ | (with_reducible refine Upd.putR (w' := _) (.inr ?_) ?_; (· first | omega | (simp; done) | (simp; omega)))))) hu0 (fun _ _ h => h); have HL1 := Lib.hid (And.intro hl1 hl2); clear hu0 hl1 hl2; obtain ⟨⟨x0, x1, x2, x3, x4, x5, x6⟩, u0, u1, u2, u3, u4, u5, u6⟩ := box7 HX.out; obtain ⟨⟨y0, y1, y2, y3, y4, y5, y6⟩, v0, v1, v2, v3, v4, v5, v6⟩ := box7 HY.out)
        | (refine gate_st _ (.tmp 2) rfl ?_; (refine wpList_box7 _ _ rfl rfl rfl w.heap.size rfl rfl HX.out rfl rfl rfl rfl rfl rfl rfl ?_; intro w2 hb2 hx2; have hy2 := hb2.heap HY.out (by omega); have hu2 : Upd w w2 (fun _ => False) := hu1.trans hb2 (fun k hk e => by omega); clear x0 x1 x2 x3 x4 x5 x6 u0 u1 u2 u3 u4 u5 u6 y0 y1 y2 y3 y4 y5 y6 v0 v1 v2 v3 v4 v5 v6 HX HY hu1 hb2; have HX := Lib.hid hx2; have HY := Lib.hid hy2; clear hx2 hy2; have hu1 := hu2; clear hu2; obtain ⟨⟨x0, x1, x2, x3, x4, x5, x6⟩, u0, u1, u2, u3, u4, u5, u6⟩ := box7 HX.out; obtain ⟨⟨y0, y1, y2, y3, y4, y5, y6⟩, v0, v1, v2, v3, v4, v5, v6⟩ := box7 HY.out))
        | (refine gate_st _ (.tmp 4) rfl ?_; refine wpList_box7 _ _ rfl rfl rfl (w.heap.size + 1) rfl rfl HY.out rfl rfl rfl rfl rfl rfl rfl ?_; intro w9 hby hy2; have hu2 : Upd w w9 (fun _ => False) := Upd.trans (by (repeat (first | with_reducible assumption | with_reducible exact Upd.refl _ _ | with_reducible refine Upd.alloc (w' := _) ?_ _ | with_reducible refine Upd.drew (w' := _) ?_ | (with_reducible refine Upd.putR (w' := _) (.inr ?_) ?_; (· first | omega | (simp; done) | (simp; omega)))))) hby (fun k hk e => by omega); have HUY := Lib.hid hu2; clear x0 x1 x2 x3 x4 x5 x6 u0 u1 u2 u3 u4 u5 u6 y0 y1 y2 y3 y4 y5 y6 v0 v1 v2 v3 v4 v5 v6 hu2; have HY9 := Lib.hid hy2; clear hy2; obtain ⟨⟨y0, y1, y2, y3, y4, y5, y6⟩, v0, v1, v2, v3, v4, v5, v6⟩ := box7 HY9.out)
        | (refine wpList_ld7 (.tmp 2) rfl rfl w.heap.size rfl (by first | exact HX.out | exact heap_old HX.out | exact heap_old (heap_old HX.out)) ?_)
        | (go_at_call 45; refine (find_calls (NmOk.upd (F := fun _ => False) H.out.now (by (repeat (first | with_reducible assumption | with_reducible exact Upd.refl _ _ | with_reducible refine Upd.alloc (w' := _) ?_ _ | with_reducible refine Upd.drew (w' := _) ?_ | (with_reducible refine Upd.putR (w' := _) (.inr ?_) ?_; (· first | omega | (simp; done) | (simp; omega)))))) (fun _ h => h.elim)) s HB.out).mono ?_; rintro e w5 ⟨rfl, rfl⟩; rw [HFR.out])
        | go_in)
      go_region_held3 (fun W => W.cell? ⟨w.heap.size, 0, none⟩ = some (.slice X.la X.L.length X.lc) ∧ W.cell? ⟨w.heap.size, 1, none⟩ = some (.slice X.now.a X.now.l.length X.now.c) ∧ W.cell? ⟨w.heap.size, 2, none⟩ = some (.slice X.wa X.was.length X.wc) ∧ W.cell? ⟨w.heap.size, 3, none⟩ = some (.int .i64 X.room) ∧ W.cell? ⟨w.heap.size, 4, none⟩ = some (.int .i64 l) ∧ W.cell? ⟨w.heap.size, 5, none⟩ = some (.bool false) ∧ W.cell? ⟨w.heap.size, 6, none⟩ = some (.int .i64 d)) (first | go_keep | exact (box7 HX.out).1) (first | (go_at_call 50; go_loud (refine (without_calls (NmOk.upd (F := fun _ => False) H.out.now hu1.drew (fun _ h => h.elim)) s HB2.out (fun kk hkk => Nat.lt_of_lt_of_le (hF kk hkk) hu1.size)).mono ?_; rintro e w3 ⟨a3, c3, rfl, hrow3, hu3, hf3⟩; have hx2 := hu3.heap HX.out (fun h => h); have hy2 := hu3.heap HY.out (fun h => h); have hu2 := hu1.drew.trans hu3 (fun _ _ h => h); have HR3 := Lib.hid hrow3; have HF3 : Hid (∀ gg, blockOf a3 = some gg → w.heap.size + 1 < gg) := Lib.hid (fun gg h => Nat.lt_of_lt_of_le (lt_of_heap HY.out) (hf3 gg h)); clear hrow3 hu3 hf3; clear x0 x1 x2 x3 x4 x5 x6 u0 u1 u2 u3 u4 u5 u6 y0 y1 y2 y3 y4 y5 y6 v0 v1 v2 v3 v4 v5 v6 HX HY hu1; have HX := Lib.hid hx2; have HY := Lib.hid hy2; clear hx2 hy2; have hu1 := hu2; clear hu2; obtain ⟨⟨x0, x1, x2, x3, x4, x5, x6⟩, u0, u1, u2, u3, u4, u5, u6⟩ := box7 HX.out; obtain ⟨⟨y0, y1, y2, y3, y4, y5, y6⟩, v0, v1, v2, v3, v4, v5, v6⟩ := box7 HY.out)) | (go_at_call 46; go_loud (refine (moved_calls _ _ _ _ _ _ _ _ X.was ⟨a3, c3, outR X.now.l s⟩ _ _ _ _ (H.out.W.upd (F := fun _ => False) (by (repeat (first | with_reducible assumption | with_reducible exact Upd.refl _ _ | with_reducible refine Upd.alloc (w' := _) ?_ _ | with_reducible refine Upd.drew (w' := _) ?_ | (with_reducible refine Upd.putR (w' := _) (.inr ?_) ?_; (· first | omega | (simp; done) | (simp; omega)))))) (fun _ _ h => h)) HB3.out).mono ?_; rintro e w6 ⟨wa6, wc6, rfl, hrow6, ho6⟩; have hx2 := ho6.upd.heap HX.out (fun h => h); have hy2 := ho6.upd.heap HY.out (fun h => h); have hu2 := hu1.trans ho6.upd (fun _ _ h => h); have HR6 := Lib.hid hrow6; have HO6 := Lib.hid (ho6.base hu1); have HR4 := Lib.hid (HR3.out.upd ho6.upd (fun _ _ h => h)); have HNE : Hid (∀ gg, blockOf wa6 = some gg → w.heap.size + 1 < gg) := Lib.hid (fun gg hg2 => by have h1 := ho6.fresh gg hg2; have h2 := lt_of_heap HY.out; omega); clear hrow6 ho6; clear x0 x1 x2 x3 x4 x5 x6 u0 u1 u2 u3 u4 u5 u6 y0 y1 y2 y3 y4 y5 y6 v0 v1 v2 v3 v4 v5 v6 HX HY hu1; have HX := Lib.hid hx2; have HY := Lib.hid hy2; clear hx2 hy2; have hu1 := hu2; clear hu2; obtain ⟨⟨x0, x1, x2, x3, x4, x5, x6⟩, u0, u1, u2, u3, u4, u5, u6⟩ := box7 HX.out; obtain ⟨⟨y0, y1, y2, y3, y4, y5, y6⟩, v0, v1, v2, v3, v4, v5, v6⟩ := box7 HY.out)) | (refine gate_st _ (.tmp 4) rfl ?_; refine wpList_box7 _ _ rfl rfl rfl (w.heap.size + 1) rfl rfl HY.out rfl rfl rfl rfl rfl rfl rfl ?_; intro w9 hby hy2; have hu2 : Upd w w9 (fun _ => False) := Upd.trans (by (repeat (first | with_reducible assumption | with_reducible exact Upd.refl _ _ | with_reducible refine Upd.alloc (w' := _) ?_ _ | with_reducible refine Upd.drew (w' := _) ?_ | (with_reducible refine Upd.putR (w' := _) (.inr ?_) ?_; (· first | omega | (simp; done) | (simp; omega)))))) hby (fun k hk e => by omega); have HUY := Lib.hid hu2; clear x0 x1 x2 x3 x4 x5 x6 u0 u1 u2 u3 u4 u5 u6 y0 y1 y2 y3 y4 y5 y6 v0 v1 v2 v3 v4 v5 v6 hu2; have HY9 := Lib.hid hy2; clear hy2; obtain ⟨⟨y0, y1, y2, y3, y4, y5, y6⟩, v0, v1, v2, v3, v4, v5, v6⟩ := box7 HY9.out))
      go_wp2_with fail
      have hne1 := HNE.out
      have hne3 := HF3.out
      refine bodyPost_ret (v := .tuple #[.agg #[.slice X.la X.L.length X.lc, .slice a3 (outR X.now.l s).length c3, .slice wa6 (X.was.length + 1) wc6, .int .i64 X.room, .int .i64 l, .bool false, .int .i64 d], .int .i64 0]) ?_ ?_ ?_
      · simp [results, Try.results30, go_sem, y0, y1, y2, y3, y4, y5, y6, v0]
      · rfl
      · refine StepP.moved H.out ?_ HL1.out ⟨?_, ?_, ?_⟩ ?_ ?_ ?_ false d 0
        · (repeat (first | with_reducible assumption | with_reducible exact Upd.refl _ _ | with_reducible refine Upd.alloc (w' := _) ?_ _ | with_reducible refine Upd.drew (w' := _) ?_ | (with_reducible refine Upd.putR (w' := _) (.inr ?_) ?_; (· first | omega | (simp; done) | (simp; omega)))))
        · refine HR4.out.upd (F := fun k => k = w.heap.size + 1) ?_ (fun g hg hf => by have := hne3 g hg; omega)
          (repeat (first | with_reducible exact Upd.refl _ _ | (with_reducible refine Upd.putR (w' := _) (.inl ?_) ?_; (· first | exact .inl rfl | exact .inr rfl | exact rfl))))
        · exact (fun g hg hf => by have h1 := hne3 g hg; have h2 := hF g hf; omega)
        · exact fun r hr => H.out.now.lt r (outR_mem hr)
        · have h1 := outR_len X.now.l s
          have h2 := H.out.nown
          omega
        · refine HR6.out.upd (F := fun k => k = w.heap.size + 1) ?_ (fun g hg hf => by have := hne1 g hg; omega)
          (repeat (first | with_reducible exact Upd.refl _ _ | (with_reducible refine Upd.putR (w' := _) (.inl ?_) ?_; (· first | exact .inl rfl | exact .inr rfl | exact rfl))))
        · exact HO6.out.off hF
end Go.Proofs.Ytpmbeeddciepjaa
