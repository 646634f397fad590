/- The reference's shelf: walks of Names, Sync. -/
import Derived.Test.YtpmbeeddciepjaaV
namespace Go.Proofs.Ytpmbeeddciepjaa
open Go.RowKit Go.Maps Go.Sort
set_option linter.unusedSimpArgs false
set_option linter.unusedVariables false

/-- One step of the reference went well, or not: what is left of its answer. -/
def StepP (w : World) (Fs : Nat → Prop) (N : Nat) (e : Ending) (w' : World) : Prop :=
  ∃ (X' : RSh) (n : Int), e = .returned (.tuple #[X'.v, .int .i64 n]) ∧ RefOk w' Fs (N + 1) X' ∧ Upd w w' (fun _ => False)
section
variable {w w' : World} {Fs : Nat → Prop} {N : Nat} {X : RSh}
theorem RefOk.acted (h : RefOk w Fs N X) (hu : Upd w w' (fun _ => False)) {l : Int} (hl : -1 ≤ l ∧ l ≤ 9223372036854775807) (o : Bool) (d : Int) : RefOk w' Fs N {X with left := l, off := o, done := d} :=
  { h.upd hu (fun _ h => h.elim) with left := hl }
theorem StepP.act (h : RefOk w Fs N X) (hu : Upd w w' (fun _ => False)) {l : Int} (hl : -1 ≤ l ∧ l ≤ 9223372036854775807) (o : Bool) (d n : Int) :
    StepP w Fs N (.returned (.tuple #[.agg #[.slice X.la X.L.length X.lc, .slice X.now.a X.now.l.length X.now.c, .slice X.wa X.was.length X.wc, .int .i64 X.room, .int .i64 l, .bool o, .int .i64 d], .int .i64 n])) w' :=
  ⟨{X with left := l, off := o, done := d}, n, rfl, (h.acted hu hl o d).more (Nat.le_succ _), hu⟩
theorem RefOk.named (h : RefOk w Fs N X) (hu : Upd w w' (fun _ => False)) {l d : Int} (hl : -1 ≤ l ∧ l ≤ 9223372036854775807) {o : Bool} {g : Option Addr} (hrow : Row w' 32 1 g 1 1 [X.now.v]) (ho : Off Fs g) :
    RefOk w' Fs (N + 1) {X with wa := g, wc := 1, was := [X.now], left := l, off := o, done := d} :=
  { (h.upd hu (fun _ h => h.elim)).more (Nat.le_succ N) with
    left := hl
    W := hrow
    woff := ho
    was := fun x hx => by
      simp at hx
      subst hx
      exact ⟨h.now.upd hu (fun _ h => h.elim), by have := h.nown; omega⟩
    was1 := by simp
    was2 := by simp }
end

set_option maxHeartbeats 400000 in
theorem names_ref {w : World} {Fs : Nat → Prop} {N : Nat} {X : RSh} (h : RefOk w Fs N X) (hF : ∀ k, Fs k → k < w.heap.size) :
    Calls Try.prog 27 #[X.v] w (StepP w Fs N) := by
  have H := Lib.hid h
  have HL := Lib.hid h.left
  rw [RSh.v_rv]
  unfold rv
  clear h
  by_cases hoff : X.off = true ∨ X.left = 0
  · have HOFF := Lib.hid hoff
    clear hoff
    go_enter Try.func27, Try.ntmps27
    go_wp2_with (first
        | (go_at_call 44; refine (act_ref_no _ _ _ _ _ _ _ _ _ _ _ _ _ HOFF.out).mono ?_; rintro e w1 ⟨rfl, hu0⟩; have HX := Lib.hid (hu0.heap (two_box _ _ _).1 (fun h => h)); have HY := Lib.hid (hu0.heap (two_box _ _ _).2 (fun h => h)); have hu1 : Upd w w1 (fun _ => False) := Upd.trans (by (repeat (first | with_reducible assumption | with_reducible exact Upd.refl _ _ | with_reducible refine Upd.alloc (w' := _) ?_ _ | with_reducible refine Upd.drew (w' := _) ?_ | (with_reducible refine Upd.putR (w' := _) (.inr ?_) ?_; (· first | omega | (simp; done) | (simp; omega)))))) hu0 (fun _ _ h => h); clear hu0; obtain ⟨⟨x0, x1, x2, x3, x4, x5, x6⟩, u0, u1, u2, u3, u4, u5, u6⟩ := box7 HX.out; obtain ⟨⟨y0, y1, y2, y3, y4, y5, y6⟩, v0, v1, v2, v3, v4, v5, v6⟩ := box7 HY.out)
        | (refine gate_st _ (.tmp 1) rfl ?_; (refine wpList_box7 _ _ rfl rfl rfl w.heap.size rfl rfl HX.out rfl rfl rfl rfl rfl rfl rfl ?_; intro w2 hb2 hx2; have hy2 := hb2.heap HY.out (by omega); have hu2 : Upd w w2 (fun _ => False) := hu1.trans hb2 (fun k hk e => by omega); clear x0 x1 x2 x3 x4 x5 x6 u0 u1 u2 u3 u4 u5 u6 y0 y1 y2 y3 y4 y5 y6 v0 v1 v2 v3 v4 v5 v6 HX HY hu1 hb2; have HX := Lib.hid hx2; have HY := Lib.hid hy2; clear hx2 hy2; have hu1 := hu2; clear hu2; obtain ⟨⟨x0, x1, x2, x3, x4, x5, x6⟩, u0, u1, u2, u3, u4, u5, u6⟩ := box7 HX.out; obtain ⟨⟨y0, y1, y2, y3, y4, y5, y6⟩, v0, v1, v2, v3, v4, v5, v6⟩ := box7 HY.out))
        | (refine gate_st _ (.tmp 2) rfl ?_; refine wpList_box7 _ _ rfl rfl rfl (w.heap.size + 1) rfl rfl HY.out rfl rfl rfl rfl rfl rfl rfl ?_; intro w9 hby hy2; have hu2 : Upd w w9 (fun _ => False) := Upd.trans (by (repeat (first | with_reducible assumption | with_reducible exact Upd.refl _ _ | with_reducible refine Upd.alloc (w' := _) ?_ _ | with_reducible refine Upd.drew (w' := _) ?_ | (with_reducible refine Upd.putR (w' := _) (.inr ?_) ?_; (· first | omega | (simp; done) | (simp; omega)))))) hby (fun k hk e => by omega); have HUY := Lib.hid hu2; clear x0 x1 x2 x3 x4 x5 x6 u0 u1 u2 u3 u4 u5 u6 y0 y1 y2 y3 y4 y5 y6 v0 v1 v2 v3 v4 v5 v6 hu2; have HY9 := Lib.hid hy2; clear hy2; obtain ⟨⟨y0, y1, y2, y3, y4, y5, y6⟩, v0, v1, v2, v3, v4, v5, v6⟩ := box7 HY9.out)
        | go_in)
    all_goals exact bodyPost_ret (v := .tuple #[.agg #[.slice X.la X.L.length X.lc, .slice X.now.a X.now.l.length X.now.c, .slice X.wa X.was.length X.wc, .int .i64 X.room, .int .i64 X.left, .bool true, .int .i64 X.done], .int .i64 7]) (by simp [results, Try.results27, go_sem, y0, y1, y2, y3, y4, y5, y6, v0]) rfl (StepP.act H.out HUY.out HL.out true _ 7)
  · have HOFF := Lib.hid hoff
    clear hoff
    go_enter Try.func27, Try.ntmps27
    go_wp2_with (first
        | (go_at_call 44; refine (act_ref_yes _ _ _ _ _ _ _ _ _ _ _ _ _ HL.out HOFF.out).mono ?_; rintro e w1 ⟨l, d, rfl, hl1, hl2, hu0⟩; have HX := Lib.hid (hu0.heap (two_box _ _ _).1 (fun h => h)); have HY := Lib.hid (hu0.heap (two_box _ _ _).2 (fun h => h)); have hu1 : Upd w w1 (fun _ => False) := Upd.trans (by (repeat (first | with_reducible assumption | with_reducible exact Upd.refl _ _ | with_reducible refine Upd.alloc (w' := _) ?_ _ | with_reducible refine Upd.drew (w' := _) ?_ | (with_reducible refine Upd.putR (w' := _) (.inr ?_) ?_; (· first | omega | (simp; done) | (simp; omega)))))) hu0 (fun _ _ h => h); have HL1 := Lib.hid (And.intro hl1 hl2); clear hu0 hl1 hl2; obtain ⟨⟨x0, x1, x2, x3, x4, x5, x6⟩, u0, u1, u2, u3, u4, u5, u6⟩ := box7 HX.out; obtain ⟨⟨y0, y1, y2, y3, y4, y5, y6⟩, v0, v1, v2, v3, v4, v5, v6⟩ := box7 HY.out)
        | (refine gate_st _ (.tmp 1) rfl ?_; (refine wpList_box7 _ _ rfl rfl rfl w.heap.size rfl rfl HX.out rfl rfl rfl rfl rfl rfl rfl ?_; intro w2 hb2 hx2; have hy2 := hb2.heap HY.out (by omega); have hu2 : Upd w w2 (fun _ => False) := hu1.trans hb2 (fun k hk e => by omega); clear x0 x1 x2 x3 x4 x5 x6 u0 u1 u2 u3 u4 u5 u6 y0 y1 y2 y3 y4 y5 y6 v0 v1 v2 v3 v4 v5 v6 HX HY hu1 hb2; have HX := Lib.hid hx2; have HY := Lib.hid hy2; clear hx2 hy2; have hu1 := hu2; clear hu2; obtain ⟨⟨x0, x1, x2, x3, x4, x5, x6⟩, u0, u1, u2, u3, u4, u5, u6⟩ := box7 HX.out; obtain ⟨⟨y0, y1, y2, y3, y4, y5, y6⟩, v0, v1, v2, v3, v4, v5, v6⟩ := box7 HY.out))
        | (refine gate_st _ (.tmp 2) rfl ?_; refine wpList_box7 _ _ rfl rfl rfl (w.heap.size + 1) rfl rfl HY.out rfl rfl rfl rfl rfl rfl rfl ?_; intro w9 hby hy2; have hu2 : Upd w w9 (fun _ => False) := Upd.trans (by (repeat (first | with_reducible assumption | with_reducible exact Upd.refl _ _ | with_reducible refine Upd.alloc (w' := _) ?_ _ | with_reducible refine Upd.drew (w' := _) ?_ | (with_reducible refine Upd.putR (w' := _) (.inr ?_) ?_; (· first | omega | (simp; done) | (simp; omega)))))) hby (fun k hk e => by omega); have HUY := Lib.hid hu2; clear x0 x1 x2 x3 x4 x5 x6 u0 u1 u2 u3 u4 u5 u6 y0 y1 y2 y3 y4 y5 y6 v0 v1 v2 v3 v4 v5 v6 hu2; have HY9 := Lib.hid hy2; clear hy2; obtain ⟨⟨y0, y1, y2, y3, y4, y5, y6⟩, v0, v1, v2, v3, v4, v5, v6⟩ := box7 HY9.out)
        | (refine wpList_fld2 33 _ _ rfl rfl rfl w.heap.size rfl rfl (by first | exact HX.out | exact heap_old HX.out | exact heap_old (heap_old HX.out)) infoWs ?_; intro w3 hbf hx2; have hy2 := hbf.heap (by first | exact HY.out | exact heap_old HY.out | exact heap_old (heap_old HY.out)) (by omega); have hu2 : Upd w w3 (fun _ => False) := Upd.trans (by (repeat (first | with_reducible assumption | with_reducible exact Upd.refl _ _ | with_reducible refine Upd.alloc (w' := _) ?_ _ | with_reducible refine Upd.drew (w' := _) ?_ | (with_reducible refine Upd.putR (w' := _) (.inr ?_) ?_; (· first | omega | (simp; done) | (simp; omega)))))) hbf (fun k hk e => by omega); have hsz := lt_of_heap HY.out; have HR := Lib.hid (hbf.heap (heap_alloc_new _ _) (by omega)); clear x0 x1 x2 x3 x4 x5 x6 u0 u1 u2 u3 u4 u5 u6 y0 y1 y2 y3 y4 y5 y6 v0 v1 v2 v3 v4 v5 v6 HX HY hu1 hbf; have HX := Lib.hid hx2; have HY := Lib.hid hy2; clear hx2 hy2; have hu1 := hu2; clear hu2; obtain ⟨⟨x0, x1, x2, x3, x4, x5, x6⟩, u0, u1, u2, u3, u4, u5, u6⟩ := box7 HX.out; obtain ⟨⟨y0, y1, y2, y3, y4, y5, y6⟩, v0, v1, v2, v3, v4, v5, v6⟩ := box7 HY.out)
        | go_in)
    have hsz := hsz
    have hrow : Row w9 32 1 (some ⟨w2.heap.size, 0, none⟩) 1 1 [X.now.v] := ⟨rfl, .inr ⟨_, _, rfl, hby.heap HR.out (by omega), Nat.le_refl _, by decide, by simp, rfl⟩⟩
    exact bodyPost_ret (v := .tuple #[.agg #[.slice X.la X.L.length X.lc, .slice X.now.a X.now.l.length X.now.c, .slice (some ⟨w2.heap.size, 0, none⟩) 1 1, .int .i64 X.room, .int .i64 l, .bool false, .int .i64 d], .int .i64 0]) (by simp [results, Try.results27, go_sem, y0, y1, y2, y3, y4, y5, y6, v0]) rfl ⟨{X with wa := some ⟨w2.heap.size, 0, none⟩, wc := 1, was := [X.now], left := l, off := false, done := d}, 0, rfl, H.out.named HUY.out HL1.out hrow (Off.fresh hF (by omega)), HUY.out⟩
end Go.Proofs.Ytpmbeeddciepjaa
