/- The reference's shelf: walk of Sync. -/
import Derived.Test.YtpmbeeddciepjaaU
namespace Go.Proofs.Ytpmbeeddciepjaa
open Go.RowKit Go.Maps Go.Sort
set_option linter.unusedSimpArgs false
set_option linter.unusedVariables false
theorem fileCells {w : World} {g cap : Nat} {L : List RFile} (h : Row w 85 2 (some ⟨g, 0, none⟩) L.length cap (L.flatMap encRF)) {k : Nat} {x : RFile} (hk : L[k]? = some x) :
    w.cell? ⟨g, k * 2, none⟩ = some (.slice x.a x.p.length x.c) ∧ w.cell? ⟨g, k * 2 + 1, none⟩ = some (.int .i64 x.safe) ∧ w.frozen? ⟨g, k * 2, none⟩ = false ∧ w.frozen? ⟨g, k * 2 + 1, none⟩ = false := by
  have hlt : k < L.length := (List.getElem?_eq_some_iff.1 hk).1
  obtain ⟨g', ha, _, hc⟩ := h.cellAt (by omega)
  cases ha
  have e := List.getElem?_eq_some_iff.1 hk
  obtain ⟨_, e⟩ := e
  obtain ⟨_, _, k0, k1⟩ := h.two k hlt
  refine ⟨hc _ _ ?_, hc _ _ ?_, k0, k1⟩
  · have := flat_at encRF 2 (fun _ => rfl) L k hlt 0 (by omega)
    rw [e] at this
    exact this.trans rfl
  · have := flat_at encRF 2 (fun _ => rfl) L k hlt 1 (by omega)
    rw [e] at this
    exact this.trans rfl

section
variable {w w' : World} {Fs : Nat → Prop} {N : Nat} {X : RSh}
theorem FlOk.safed {x : RFile} (h : FlOk w Fs x) (hp : x.p.length ≤ 1099511627776) (hu : Upd w w' (fun _ => False)) : FlOk w' Fs ⟨x.a, x.c, x.p, x.p.length⟩ :=
  ⟨h.row.upd hu (fun _ _ h => h), h.off, by simp, by simp; omega⟩
theorem RefOk.changed (h : RefOk w Fs N X) (hu : Upd w w' (fun _ => False)) {l d : Int} (hl : -1 ≤ l ∧ l ≤ 9223372036854775807) {k : Nat} (hk : k < X.L.length) {x : RFile} (hx : FlOk w' Fs x) (hp : x.p.length ≤ 100 * (N + 1))
    {la : Option Addr} {lc : Nat} (hrow : Row w' 85 2 la X.L.length lc ((X.L.set k x).flatMap encRF)) (ho : Off Fs la) {o : Bool} :
    RefOk w' Fs (N + 1) {X with la := la, lc := lc, L := X.L.set k x, left := l, off := o, done := d} :=
  have h2 := (h.upd hu (fun _ h => h.elim)).more (Nat.le_succ N)
  { h2 with
    L := by simpa using hrow
    loff := ho
    files := fun y hy => by
      rcases List.mem_or_eq_of_mem_set hy with hy | rfl
      · exact h2.files y hy
      · exact ⟨hx, hp⟩
    now := by simpa using h2.now
    was := by simpa using h2.was
    l2 := by simpa using h2.l2
    left := hl }
theorem StepP.changed (h : RefOk w Fs N X) (hu : Upd w w' (fun _ => False)) {l : Int} (hl : -1 ≤ l ∧ l ≤ 9223372036854775807) {k : Nat} (hk : k < X.L.length) {x : RFile} (hx : FlOk w' Fs x) (hp : x.p.length ≤ 100 * (N + 1))
    {la : Option Addr} {lc : Nat} (hrow : Row w' 85 2 la X.L.length lc ((X.L.set k x).flatMap encRF)) (ho : Off Fs la) (o : Bool) (d n : Int) :
    StepP w Fs N (.returned (.tuple #[.agg #[.slice la X.L.length lc, .slice X.now.a X.now.l.length X.now.c, .slice X.wa X.was.length X.wc, .int .i64 X.room, .int .i64 l, .bool o, .int .i64 d], .int .i64 n])) w' :=
  ⟨{X with la := la, lc := lc, L := X.L.set k x, left := l, off := o, done := d}, n, by simp [RSh.v, RNames.v], h.changed hu hl hk hx hp hrow ho, hu⟩
end

set_option maxHeartbeats 400000 in
theorem sync_ref {w : World} {Fs : Nat → Prop} {N : Nat} {X : RSh} (h : RefOk w Fs N X) (hF : ∀ k, Fs k → k < w.heap.size) (s : Nm) (hN : N < 1000) :
    Calls Try.prog 26 #[X.v, .string ⟨s.toArray⟩] w (StepP w Fs N) := by
  have H := Lib.hid h
  have HL := Lib.hid h.left
  have HB := Lib.hid (show X.now.l.length ≤ 1099511627776 by have := h.nown; omega)
  have hfr := findR_range X.L.length X.now.l s h.now.lt
  have hl2 := h.l2
  rw [RSh.v_rv]
  unfold rv
  clear h
  by_cases hoff : X.off = true ∨ X.left = 0
  · have HOFF := Lib.hid hoff
    clear hoff
    go_enter Try.func26, Try.ntmps26
    go_wp2_with (first
        | (go_at_call 44; refine (act_ref_no _ _ _ _ _ _ _ _ _ _ _ _ _ HOFF.out).mono ?_; rintro e w1 ⟨rfl, hu0⟩; have HX := Lib.hid (hu0.heap (two_box _ _ _).1 (fun h => h)); have HY := Lib.hid (hu0.heap (two_box _ _ _).2 (fun h => h)); have hu1 : Upd w w1 (fun _ => False) := Upd.trans (by (repeat (first | with_reducible assumption | with_reducible exact Upd.refl _ _ | with_reducible refine Upd.alloc (w' := _) ?_ _ | with_reducible refine Upd.drew (w' := _) ?_ | (with_reducible refine Upd.putR (w' := _) (.inr ?_) ?_; (· first | omega | (simp; done) | (simp; omega)))))) hu0 (fun _ _ h => h); clear hu0; obtain ⟨⟨x0, x1, x2, x3, x4, x5, x6⟩, u0, u1, u2, u3, u4, u5, u6⟩ := box7 HX.out; obtain ⟨⟨y0, y1, y2, y3, y4, y5, y6⟩, v0, v1, v2, v3, v4, v5, v6⟩ := box7 HY.out)
        | (refine gate_st _ (.tmp 2) rfl ?_; (refine wpList_box7 _ _ rfl rfl rfl w.heap.size rfl rfl HX.out rfl rfl rfl rfl rfl rfl rfl ?_; intro w2 hb2 hx2; have hy2 := hb2.heap HY.out (by omega); have hu2 : Upd w w2 (fun _ => False) := hu1.trans hb2 (fun k hk e => by omega); clear x0 x1 x2 x3 x4 x5 x6 u0 u1 u2 u3 u4 u5 u6 y0 y1 y2 y3 y4 y5 y6 v0 v1 v2 v3 v4 v5 v6 HX HY hu1 hb2; have HX := Lib.hid hx2; have HY := Lib.hid hy2; clear hx2 hy2; have hu1 := hu2; clear hu2; obtain ⟨⟨x0, x1, x2, x3, x4, x5, x6⟩, u0, u1, u2, u3, u4, u5, u6⟩ := box7 HX.out; obtain ⟨⟨y0, y1, y2, y3, y4, y5, y6⟩, v0, v1, v2, v3, v4, v5, v6⟩ := box7 HY.out))
        | (refine gate_st _ (.tmp 4) rfl ?_; refine wpList_box7 _ _ rfl rfl rfl (w.heap.size + 1) rfl rfl HY.out rfl rfl rfl rfl rfl rfl rfl ?_; intro w9 hby hy2; have hu2 : Upd w w9 (fun _ => False) := Upd.trans (by (repeat (first | with_reducible assumption | with_reducible exact Upd.refl _ _ | with_reducible refine Upd.alloc (w' := _) ?_ _ | with_reducible refine Upd.drew (w' := _) ?_ | (with_reducible refine Upd.putR (w' := _) (.inr ?_) ?_; (· first | omega | (simp; done) | (simp; omega)))))) hby (fun k hk e => by omega); have HUY := Lib.hid hu2; clear x0 x1 x2 x3 x4 x5 x6 u0 u1 u2 u3 u4 u5 u6 y0 y1 y2 y3 y4 y5 y6 v0 v1 v2 v3 v4 v5 v6 hu2; have HY9 := Lib.hid hy2; clear hy2; obtain ⟨⟨y0, y1, y2, y3, y4, y5, y6⟩, v0, v1, v2, v3, v4, v5, v6⟩ := box7 HY9.out)
        | (refine wpList_ld7 (.tmp 2) rfl rfl w.heap.size rfl (by first | exact HX.out | exact heap_old HX.out | exact heap_old (heap_old HX.out)) ?_)
        | go_in)
    exact bodyPost_ret (v := .tuple #[.agg #[.slice X.la X.L.length X.lc, .slice X.now.a X.now.l.length X.now.c, .slice X.wa X.was.length X.wc, .int .i64 X.room, .int .i64 X.left, .bool true, .int .i64 X.done], .int .i64 7]) (by simp [results, Try.results26, go_sem, y0, y1, y2, y3, y4, y5, y6, v0]) rfl (StepP.act H.out HUY.out HL.out true _ 7)
  · have HOFF := Lib.hid hoff
    clear hoff
    rcases hfr with hf | ⟨hf0, hf1⟩
    · have HFR := Lib.hid hf
      clear hf
      go_enter Try.func26, Try.ntmps26
      go_wp2_with (first
        | (go_at_call 44; refine (act_ref_yes _ _ _ _ _ _ _ _ _ _ _ _ _ HL.out HOFF.out).mono ?_; rintro e w1 ⟨l, d, rfl, hl1, hl2, hu0⟩; have HX := Lib.hid (hu0.heap (two_box _ _ _).1 (fun h => h)); have HY := Lib.hid (hu0.heap (two_box _ _ _).2 (fun h => h)); have hu1 : Upd w w1 (fun _ => False) := Upd.trans (by (repeat (first | with_reducible assumption | with_reducible exact Upd.refl _ _ | with_reducible refine Upd.alloc (w' := _) ?_ _ | with_reducible refine Upd.drew (w' := _) ?_ | (with_reducible refine Upd.putR (w' := _) (.inr ?_) ?_; (· first | omega | (simp; done) | (simp; omega)))))) hu0 (fun _ _ h => h); have HL1 := Lib.hid (And.intro hl1 hl2); clear hu0 hl1 hl2; obtain ⟨⟨x0, x1, x2, x3, x4, x5, x6⟩, u0, u1, u2, u3, u4, u5, u6⟩ := box7 HX.out; obtain ⟨⟨y0, y1, y2, y3, y4, y5, y6⟩, v0, v1, v2, v3, v4, v5, v6⟩ := box7 HY.out)
        | (refine gate_st _ (.tmp 2) rfl ?_; (refine wpList_box7 _ _ rfl rfl rfl w.heap.size rfl rfl HX.out rfl rfl rfl rfl rfl rfl rfl ?_; intro w2 hb2 hx2; have hy2 := hb2.heap HY.out (by omega); have hu2 : Upd w w2 (fun _ => False) := hu1.trans hb2 (fun k hk e => by omega); clear x0 x1 x2 x3 x4 x5 x6 u0 u1 u2 u3 u4 u5 u6 y0 y1 y2 y3 y4 y5 y6 v0 v1 v2 v3 v4 v5 v6 HX HY hu1 hb2; have HX := Lib.hid hx2; have HY := Lib.hid hy2; clear hx2 hy2; have hu1 := hu2; clear hu2; obtain ⟨⟨x0, x1, x2, x3, x4, x5, x6⟩, u0, u1, u2, u3, u4, u5, u6⟩ := box7 HX.out; obtain ⟨⟨y0, y1, y2, y3, y4, y5, y6⟩, v0, v1, v2, v3, v4, v5, v6⟩ := box7 HY.out))
        | (refine gate_st _ (.tmp 4) rfl ?_; refine wpList_box7 _ _ rfl rfl rfl (w.heap.size + 1) rfl rfl HY.out rfl rfl rfl rfl rfl rfl rfl ?_; intro w9 hby hy2; have hu2 : Upd w w9 (fun _ => False) := Upd.trans (by (repeat (first | with_reducible assumption | with_reducible exact Upd.refl _ _ | with_reducible refine Upd.alloc (w' := _) ?_ _ | with_reducible refine Upd.drew (w' := _) ?_ | (with_reducible refine Upd.putR (w' := _) (.inr ?_) ?_; (· first | omega | (simp; done) | (simp; omega)))))) hby (fun k hk e => by omega); have HUY := Lib.hid hu2; clear x0 x1 x2 x3 x4 x5 x6 u0 u1 u2 u3 u4 u5 u6 y0 y1 y2 y3 y4 y5 y6 v0 v1 v2 v3 v4 v5 v6 hu2; have HY9 := Lib.hid hy2; clear hy2; obtain ⟨⟨y0, y1, y2, y3, y4, y5, y6⟩, v0, v1, v2, v3, v4, v5, v6⟩ := box7 HY9.out)
        | (refine wpList_ld7 (.tmp 2) rfl rfl w.heap.size rfl (by first | exact HX.out | exact heap_old HX.out | exact heap_old (heap_old HX.out)) ?_)
        | (go_at_call 45; refine (find_calls (NmOk.upd (F := fun _ => False) H.out.now (by (repeat (first | with_reducible assumption | with_reducible exact Upd.refl _ _ | with_reducible refine Upd.alloc (w' := _) ?_ _ | with_reducible refine Upd.drew (w' := _) ?_ | (with_reducible refine Upd.putR (w' := _) (.inr ?_) ?_; (· first | omega | (simp; done) | (simp; omega)))))) (fun _ h => h.elim)) s HB.out).mono ?_; rintro e w5 ⟨rfl, rfl⟩; rw [HFR.out])
        | go_in)
      exact bodyPost_ret (v := .tuple #[.agg #[.slice X.la X.L.length X.lc, .slice X.now.a X.now.l.length X.now.c, .slice X.wa X.was.length X.wc, .int .i64 X.room, .int .i64 l, .bool false, .int .i64 d], .int .i64 2]) (by simp [results, Try.results26, go_sem, y0, y1, y2, y3, y4, y5, y6, v0]) rfl (StepP.act H.out HUY.out HL1.out false d 2)
    · obtain ⟨k, hk⟩ := Int.eq_ofNat_of_zero_le hf0
      have hkl : k < X.L.length := by omega
      obtain ⟨x, hx⟩ : ∃ x, X.L[k]? = some x := ⟨_, List.getElem?_eq_getElem hkl⟩
      have HFR := Lib.hid hk
      have HK := Lib.hid hx
      obtain ⟨g, hla, hg, -⟩ := H.out.L.cellAt (by omega)
      have HLA := Lib.hid hla
      clear hf0 hf1 hk hx
      have hlr := H.out.L
      rw [hla] at hlr
      have HLR := Lib.hid hlr
      have HLB := Lib.hid (show X.L.length ≤ Big by unfold Big; omega)
      clear hlr
      rw [hla]
      clear hla
      go_enter Try.func26, Try.ntmps26
      go_wp2_with (first
        | (go_at_call 44; refine (act_ref_yes _ _ _ _ _ _ _ _ _ _ _ _ _ HL.out HOFF.out).mono ?_; rintro e w1 ⟨l, d, rfl, hl1, hl2, hu0⟩; have HX := Lib.hid (hu0.heap (two_box _ _ _).1 (fun h => h)); have HY := Lib.hid (hu0.heap (two_box _ _ _).2 (fun h => h)); have hu1 : Upd w w1 (fun _ => False) := Upd.trans (by (repeat (first | with_reducible assumption | with_reducible exact Upd.refl _ _ | with_reducible refine Upd.alloc (w' := _) ?_ _ | with_reducible refine Upd.drew (w' := _) ?_ | (with_reducible refine Upd.putR (w' := _) (.inr ?_) ?_; (· first | omega | (simp; done) | (simp; omega)))))) hu0 (fun _ _ h => h); have HL1 := Lib.hid (And.intro hl1 hl2); clear hu0 hl1 hl2; obtain ⟨⟨x0, x1, x2, x3, x4, x5, x6⟩, u0, u1, u2, u3, u4, u5, u6⟩ := box7 HX.out; obtain ⟨⟨y0, y1, y2, y3, y4, y5, y6⟩, v0, v1, v2, v3, v4, v5, v6⟩ := box7 HY.out)
        | (refine gate_st _ (.tmp 2) rfl ?_; (refine wpList_box7 _ _ rfl rfl rfl w.heap.size rfl rfl HX.out rfl rfl rfl rfl rfl rfl rfl ?_; intro w2 hb2 hx2; have hy2 := hb2.heap HY.out (by omega); have hu2 : Upd w w2 (fun _ => False) := hu1.trans hb2 (fun k hk e => by omega); clear x0 x1 x2 x3 x4 x5 x6 u0 u1 u2 u3 u4 u5 u6 y0 y1 y2 y3 y4 y5 y6 v0 v1 v2 v3 v4 v5 v6 HX HY hu1 hb2; have HX := Lib.hid hx2; have HY := Lib.hid hy2; clear hx2 hy2; have hu1 := hu2; clear hu2; obtain ⟨⟨x0, x1, x2, x3, x4, x5, x6⟩, u0, u1, u2, u3, u4, u5, u6⟩ := box7 HX.out; obtain ⟨⟨y0, y1, y2, y3, y4, y5, y6⟩, v0, v1, v2, v3, v4, v5, v6⟩ := box7 HY.out))
        | (refine gate_st _ (.tmp 4) rfl ?_; refine wpList_box7 _ _ rfl rfl rfl (w.heap.size + 1) rfl rfl HY.out rfl rfl rfl rfl rfl rfl rfl ?_; intro w9 hby hy2; have hu2 : Upd w w9 (fun _ => False) := Upd.trans (by (repeat (first | with_reducible assumption | with_reducible exact Upd.refl _ _ | with_reducible refine Upd.alloc (w' := _) ?_ _ | with_reducible refine Upd.drew (w' := _) ?_ | (with_reducible refine Upd.putR (w' := _) (.inr ?_) ?_; (· first | omega | (simp; done) | (simp; omega)))))) hby (fun k hk e => by omega); have HUY := Lib.hid hu2; clear x0 x1 x2 x3 x4 x5 x6 u0 u1 u2 u3 u4 u5 u6 y0 y1 y2 y3 y4 y5 y6 v0 v1 v2 v3 v4 v5 v6 hu2; have HY9 := Lib.hid hy2; clear hy2; obtain ⟨⟨y0, y1, y2, y3, y4, y5, y6⟩, v0, v1, v2, v3, v4, v5, v6⟩ := box7 HY9.out)
        | (refine wpList_ld7 (.tmp 2) rfl rfl w.heap.size rfl (by first | exact HX.out | exact heap_old HX.out | exact heap_old (heap_old HX.out)) ?_)
        | (go_at_call 45; refine (find_calls (NmOk.upd (F := fun _ => False) H.out.now (by (repeat (first | with_reducible assumption | with_reducible exact Upd.refl _ _ | with_reducible refine Upd.alloc (w' := _) ?_ _ | with_reducible refine Upd.drew (w' := _) ?_ | (with_reducible refine Upd.putR (w' := _) (.inr ?_) ?_; (· first | omega | (simp; done) | (simp; omega)))))) (fun _ h => h.elim)) s HB.out).mono ?_; rintro e w5 ⟨rfl, rfl⟩; rw [HFR.out]; have hLk := H.out.L.upd hu1 (fun _ _ h => h); rw [HLA.out] at hLk; obtain ⟨q0, q1, k0, k1⟩ := fileCells hLk HK.out;  clear hLk)
        | (go_at_call 49; refine (changed_calls _ _ X.L k ⟨x.a, x.c, x.p, x.p.length⟩ _ _ _ _ _ _ _ _ _ _ (HLR.out.upd (F := fun _ => False) (by (repeat (first | with_reducible assumption | with_reducible exact Upd.refl _ _ | with_reducible refine Upd.alloc (w' := _) ?_ _ | with_reducible refine Upd.drew (w' := _) ?_ | (with_reducible refine Upd.putR (w' := _) (.inr ?_) ?_; (· first | omega | (simp; done) | (simp; omega)))))) (fun _ _ h => h)) HLB.out hkl).mono ?_; rintro e w6 ⟨la2, lc2, rfl, hrow6, ho6⟩; have HR6 := Lib.hid hrow6; have HO6 := Lib.hid (ho6.base (w := w) (by (repeat (first | with_reducible assumption | with_reducible exact Upd.refl _ _ | with_reducible refine Upd.alloc (w' := _) ?_ _ | with_reducible refine Upd.drew (w' := _) ?_ | (with_reducible refine Upd.putR (w' := _) (.inr ?_) ?_; (· first | omega | (simp; done) | (simp; omega))))))); have hx2 := ho6.upd.heap (by first | exact HX.out | exact heap_old HX.out | exact heap_old (heap_old HX.out)) (fun h => h); have hy2 := ho6.upd.heap (by first | exact HY.out | exact heap_old HY.out | exact heap_old (heap_old HY.out)) (fun h => h); have hu6 : Upd w w6 (fun _ => False) := HO6.out.upd; have HNE : ∀ gg, blockOf la2 = some gg → w.heap.size + 1 < gg := (fun gg hg2 => by have h1 := ho6.fresh gg hg2; have h2 := lt_of_heap HY.out; (try simp at h1); omega); have HNE := Lib.hid HNE; clear x0 x1 x2 x3 x4 x5 x6 u0 u1 u2 u3 u4 u5 u6 y0 y1 y2 y3 y4 y5 y6 v0 v1 v2 v3 v4 v5 v6 HX HY hu1 hrow6 ho6; have HX := Lib.hid hx2; have HY := Lib.hid hy2; clear hx2 hy2; have hu1 := hu6; clear hu6; obtain ⟨⟨x0, x1, x2, x3, x4, x5, x6⟩, u0, u1, u2, u3, u4, u5, u6⟩ := box7 HX.out; obtain ⟨⟨y0, y1, y2, y3, y4, y5, y6⟩, v0, v1, v2, v3, v4, v5, v6⟩ := box7 HY.out)
        | go_in)
      have hfx := H.out.files x (List.mem_of_getElem? HK.out)
      exact bodyPost_ret (v := .tuple #[.agg #[.slice la2 X.L.length lc2, .slice X.now.a X.now.l.length X.now.c, .slice X.wa X.was.length X.wc, .int .i64 X.room, .int .i64 l, .bool false, .int .i64 d], .int .i64 0]) (by simp [results, Try.results26, go_sem, y0, y1, y2, y3, y4, y5, y6, v0]) rfl (StepP.changed H.out HUY.out HL1.out hkl (hfx.1.safed (w' := w9) (by have := hfx.2; omega) HUY.out) (by have := hfx.2; simp; omega) (HR6.out.upd hby (fun g hg hf => by have := HNE.out g hg; omega)) (HO6.out.off hF) false d 0)
end Go.Proofs.Ytpmbeeddciepjaa
