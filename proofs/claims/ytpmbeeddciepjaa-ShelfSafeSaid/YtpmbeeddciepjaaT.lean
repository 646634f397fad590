/- The reference's shelf: walks of moved, changed, Act. -/
import Derived.Test.YtpmbeeddciepjaaR
namespace Go.Proofs.Ytpmbeeddciepjaa
open Go.RowKit Go.Maps Go.Sort
set_option linter.unusedSimpArgs false
set_option linter.unusedVariables false

theorem Upd.putR {w w' : World} {F : Nat → Prop} {b i : Nat} {u : Value} (hp : F b ∨ w.heap.size ≤ b) (h : Upd w w' F) : Upd w (w'.setCell ⟨b, i, none⟩ u) F := h.put hp
/-- The reference's shelf as a value. -/
def rv (la : Option Addr) (ln lc : Nat) (na : Option Addr) (nn nc : Nat) (wa : Option Addr) (wn wc : Nat) (room left : Int) (off : Bool) (done : Int) : Value := .agg #[.slice la ln lc, .slice na nn nc, .slice wa wn wc, .int .i64 room, .int .i64 left, .bool off, .int .i64 done]
theorem RSh.v_rv (X : RSh) : X.v = rv X.la X.L.length X.lc X.now.a X.now.l.length X.now.c X.wa X.was.length X.wc X.room X.left X.off X.done := rfl
def ActNo (w : World) (la : Option Addr) (ln lc : Nat) (na : Option Addr) (nn nc : Nat) (wa : Option Addr) (wn wc : Nat) (room left done : Int) (e : Ending) (w' : World) : Prop := e = .returned (.tuple #[.agg #[.slice la ln lc, .slice na nn nc, .slice wa wn wc, .int .i64 room, .int .i64 left, .bool true, .int .i64 done], .bool false]) ∧ Upd w w' (fun _ => False)
def ActYes (w : World) (la : Option Addr) (ln lc : Nat) (na : Option Addr) (nn nc : Nat) (wa : Option Addr) (wn wc : Nat) (room : Int) (e : Ending) (w' : World) : Prop := ∃ (l d : Int), e = .returned (.tuple #[.agg #[.slice la ln lc, .slice na nn nc, .slice wa wn wc, .int .i64 room, .int .i64 l, .bool false, .int .i64 d], .bool true]) ∧ -1 ≤ l ∧ l ≤ 9223372036854775807 ∧ Upd w w' (fun _ => False)

set_option maxHeartbeats 400000 in
theorem act_ref_no {w : World} (la : Option Addr) (ln lc : Nat) (na : Option Addr) (nn nc : Nat) (wa : Option Addr) (wn wc : Nat) (room left : Int) (off : Bool) (done : Int) (h : off = true ∨ left = 0) :
    Calls Try.prog 44 #[rv la ln lc na nn nc wa wn wc room left off done] w (ActNo w la ln lc na nn nc wa wn wc room left done) := by
  unfold rv
  cases off
  · have h0 : left = 0 := by simpa using h
    subst h0
    go_enter Try.func44, Try.ntmps44
    go_wp2_with fail
    exact bodyPost_ret (v := .tuple #[.agg #[.slice la ln lc, .slice na nn nc, .slice wa wn wc, .int .i64 room, .int .i64 0, .bool true, .int .i64 done], .bool false]) (by simp [results, Try.results44, go_sem]) rfl ⟨rfl, by (repeat (first | with_reducible assumption | with_reducible exact Upd.refl _ _ | with_reducible refine Upd.alloc (w' := _) ?_ _ | with_reducible refine Upd.drew (w' := _) ?_ | (with_reducible refine Upd.putR (w' := _) (.inr ?_) ?_; (· first | omega | (simp; done) | (simp; omega)))))⟩
  · go_enter Try.func44, Try.ntmps44
    go_wp2_with fail
    exact bodyPost_ret (v := .tuple #[.agg #[.slice la ln lc, .slice na nn nc, .slice wa wn wc, .int .i64 room, .int .i64 left, .bool true, .int .i64 done], .bool false]) (by simp [results, Try.results44, go_sem]) rfl ⟨rfl, by (repeat (first | with_reducible assumption | with_reducible exact Upd.refl _ _ | with_reducible refine Upd.alloc (w' := _) ?_ _ | with_reducible refine Upd.drew (w' := _) ?_ | (with_reducible refine Upd.putR (w' := _) (.inr ?_) ?_; (· first | omega | (simp; done) | (simp; omega)))))⟩

set_option maxHeartbeats 400000 in
theorem act_ref_yes {w : World} (la : Option Addr) (ln lc : Nat) (na : Option Addr) (nn nc : Nat) (wa : Option Addr) (wn wc : Nat) (room left : Int) (off : Bool) (done : Int) (hl : -1 ≤ left ∧ left ≤ 9223372036854775807) (h : ¬ (off = true ∨ left = 0)) :
    Calls Try.prog 44 #[rv la ln lc na nn nc wa wn wc room left off done] w (ActYes w la ln lc na nn nc wa wn wc room) := by
  unfold rv
  obtain rfl : off = false := by cases off <;> simp_all
  have h0 : ¬ left = 0 := fun e => h (.inr e)
  clear h
  by_cases h1 : 0 < left
  · have h2 : IntKind.i64.wrap (left - 1) = left - 1 := IntWalk.i64_in _ (by omega)
    go_enter Try.func44, Try.ntmps44
    go_wp2_with fail
    exact bodyPost_ret (v := .tuple #[.agg #[.slice la ln lc, .slice na nn nc, .slice wa wn wc, .int .i64 room, .int .i64 (left - 1), .bool false, .int .i64 (wrap64 (done + 1))], .bool true]) (by simp [results, Try.results44, go_sem]) rfl ⟨left - 1, _, rfl, by omega, by omega, by (repeat (first | with_reducible assumption | with_reducible exact Upd.refl _ _ | with_reducible refine Upd.alloc (w' := _) ?_ _ | with_reducible refine Upd.drew (w' := _) ?_ | (with_reducible refine Upd.putR (w' := _) (.inr ?_) ?_; (· first | omega | (simp; done) | (simp; omega)))))⟩
  · go_enter Try.func44, Try.ntmps44
    go_wp2_with fail
    exact bodyPost_ret (v := .tuple #[.agg #[.slice la ln lc, .slice na nn nc, .slice wa wn wc, .int .i64 room, .int .i64 left, .bool false, .int .i64 (wrap64 (done + 1))], .bool true]) (by simp [results, Try.results44, go_sem]) rfl ⟨left, _, rfl, by omega, by omega, by (repeat (first | with_reducible assumption | with_reducible exact Upd.refl _ _ | with_reducible refine Upd.alloc (w' := _) ?_ _ | with_reducible refine Upd.drew (w' := _) ?_ | (with_reducible refine Upd.putR (w' := _) (.inr ?_) ?_; (· first | omega | (simp; done) | (simp; omega)))))⟩

/-- A slice that is nil, or lies in a block that the call has made; else nothing has turned. -/
structure Own (w wr : World) (a : Option Addr) : Prop where
  upd : Upd w wr (fun _ => False)
  fresh : ∀ g, blockOf a = some g → w.heap.size ≤ g
theorem Own.nil {w wr : World} (h : Upd w wr (fun _ => False)) : Own w wr none := ⟨h, fun g hg => nomatch hg⟩
theorem Own.alloc {w wr : World} {a : Option Addr} (h : Own w wr a) (o : Obj) : Own w (wr.alloc o) a := ⟨h.upd.alloc o, h.fresh⟩
theorem Own.app {w w1 w2 : World} {a a' : Option Addr} {m : Nat} (h : Own w w1 a) (hu : Upd w1 w2 (fun k => blockOf a = some k)) (hor : (a' = a ∧ (a = none → m = 0)) ∨ (a' = some ⟨w1.heap.size, 0, none⟩ ∧ w2.heap.size = w1.heap.size + 1)) : Own w w2 a' := by
  refine ⟨h.upd.trans hu (fun k hk hf => by have := h.fresh k hf; omega), fun g hg => ?_⟩
  rcases hor with ⟨rfl, _⟩ | ⟨rfl, _⟩
  · exact h.fresh g hg
  · have := h.upd.size
    simp [blockOf] at hg
    omega
theorem Own.off {w wr : World} {a : Option Addr} (h : Own w wr a) {Fs : Nat → Prop} (hF : ∀ k, Fs k → k < w.heap.size) : Off Fs a := fun g hg hf => by
  have h1 := h.fresh g hg
  have h2 := hF g hf
  omega
theorem Own.base {w w1 w2 : World} {a : Option Addr} (h : Own w1 w2 a) (hu : Upd w w1 (fun _ => False)) : Own w w2 a := ⟨hu.trans h.upd (fun _ _ h => h), fun g hg => Nat.le_trans hu.size (h.fresh g hg)⟩
theorem Own.base' {w w1 w2 w3 : World} {a : Option Addr} {F : Nat → Prop} (h : Own w1 w2 a) (hu : Upd w w1 (fun _ => False)) (hv : Upd w2 w3 F) (hF : ∀ k, F k → w.heap.size ≤ k) : Own w w3 a :=
  ⟨(hu.trans h.upd (fun _ _ h => h)).trans hv (fun k hk h => by have := hF k h; omega), fun g hg => Nat.le_trans hu.size (h.fresh g hg)⟩
theorem heap_old {w : World} {b : Nat} {o p : Obj} (h : w.heap[b]? = some o) : (w.alloc p).heap[b]? = some o := ((Upd.refl w (fun _ => False)).alloc p).heap h (fun h => h)
theorem two_box (w : World) (x y : Obj) : ((w.alloc x).alloc y).heap[w.heap.size]? = some x ∧ ((w.alloc x).alloc y).heap[w.heap.size + 1]? = some y := by
  refine ⟨heap_old (heap_alloc_new w x), ?_⟩
  have := heap_alloc_new (w.alloc x) y
  simpa using this
theorem box7 {w : World} {b : Nat} {x0 x1 x2 x3 x4 x5 x6 : Value} {t : TypeId} (h : w.heap[b]? = some (.cells #[x0, x1, x2, x3, x4, x5, x6] t (0, 0))) :
    (w.cell? ⟨b, 0, none⟩ = some x0 ∧ w.cell? ⟨b, 1, none⟩ = some x1 ∧ w.cell? ⟨b, 2, none⟩ = some x2 ∧ w.cell? ⟨b, 3, none⟩ = some x3 ∧ w.cell? ⟨b, 4, none⟩ = some x4 ∧ w.cell? ⟨b, 5, none⟩ = some x5 ∧ w.cell? ⟨b, 6, none⟩ = some x6) ∧
    (w.frozen? ⟨b, 0, none⟩ = false ∧ w.frozen? ⟨b, 1, none⟩ = false ∧ w.frozen? ⟨b, 2, none⟩ = false ∧ w.frozen? ⟨b, 3, none⟩ = false ∧ w.frozen? ⟨b, 4, none⟩ = false ∧ w.frozen? ⟨b, 5, none⟩ = false ∧ w.frozen? ⟨b, 6, none⟩ = false) :=
  ⟨⟨(cell_of_heap h 0).trans rfl, (cell_of_heap h 1).trans rfl, (cell_of_heap h 2).trans rfl, (cell_of_heap h 3).trans rfl, (cell_of_heap h 4).trans rfl, (cell_of_heap h 5).trans rfl, (cell_of_heap h 6).trans rfl⟩,
   free_of_heap h 0, free_of_heap h 1, free_of_heap h 2, free_of_heap h 3, free_of_heap h 4, free_of_heap h 5, free_of_heap h 6⟩
theorem infoNS : (Try.prog.info? 32).map (fun i => (i.zero, i.size, i.bytes)) = some (some (.slice none 0 0), 1, 24) := by kernel_rfl
theorem infoRF : (Try.prog.info? 85).map (fun i => (i.zero, i.size, i.bytes)) = some (some (.agg #[.slice none 0 0, .int .i64 0]), 2, 32) := by kernel_rfl
theorem ones_was (l : List RNames) : ∀ u ∈ l.map RNames.v, u.oneCell' = true := by
  intro u hu
  obtain ⟨x, _, rfl⟩ := List.mem_map.1 hu
  rfl
theorem ones_flat {α : Type} (enc : α → List Value) (h : ∀ x, ∀ u ∈ enc x, u.oneCell' = true) (l : List α) : ∀ u ∈ l.flatMap enc, u.oneCell' = true := by
  intro u hu
  obtain ⟨x, _, hx⟩ := List.mem_flatMap.1 hu
  exact h x u hx
theorem ones_encRF (x : RFile) : ∀ u ∈ encRF x, u.oneCell' = true := ones2 _ _ rfl rfl

def MovedP (w : World) (was : List RNames) (x : RNames) (la : Option Addr) (ln lc : Nat) (room left : Int) (off : Bool) (done : Int) (e : Ending) (w' : World) : Prop :=
  ∃ (wa : Option Addr) (wc : Nat), e = .returned (.agg #[.slice la ln lc, .slice x.a x.l.length x.c, .slice wa (was.length + 1) wc, .int .i64 room, .int .i64 left, .bool off, .int .i64 done]) ∧ Row w' 32 1 wa (was.length + 1) wc ((was ++ [x]).map RNames.v) ∧ Own w w' wa

set_option maxHeartbeats 400000 in
set_option maxRecDepth 4000 in
theorem moved_calls {w : World} (la : Option Addr) (ln lc : Nat) (na : Option Addr) (nn nc : Nat) (wa : Option Addr) (wc : Nat) (was : List RNames) (x : RNames) (room left : Int) (off : Bool) (done : Int)
    (hW : Row w 32 1 wa was.length wc (was.map RNames.v)) (hb : was.length < Big) :
    Calls Try.prog 46 #[rv la ln lc na nn nc wa was.length wc room left off done, x.v] w (MovedP w was x la ln lc room left off done) := by
  obtain ⟨i0, hi0, hz0, hz1, hz2⟩ := info_parts infoNS
  have HI := Lib.hid hi0
  have Z0 := Lib.hid hz0
  have Z1 := Lib.hid hz1
  have Z2 := Lib.hid hz2
  have HW := Lib.hid hW
  have HB1 := Lib.hid (show 0 + was.length ≤ Big by omega)
  have HB2 := Lib.hid (show was.length + 1 ≤ Big by omega)
  clear hi0 hz0 hz1 hz2 hW
  unfold rv RNames.v
  go_enter Try.func46, Try.ntmps46
  have tok : True := True.intro
  go_wp2_with (first
        | (have _t := tok; at_builtin; go_loud ( refine wpList_append_row rfl _ _ 33 rfl 32 i0 _ 1 24 Try.underlying33 HI.out Z0.out Z1.out Z2.out rfl (by decide) _ _ _ _ rfl (Row.nil _ _ _) _ _ _ _ rfl ?_ (ones_was was) HB1.out (by decide) ?_; exact HW.out.rd.upd (by (repeat (first | with_reducible assumption | with_reducible exact Upd.refl _ _ | with_reducible refine Upd.alloc (w' := _) ?_ _ | with_reducible refine Upd.drew (w' := _) ?_ | (with_reducible refine Upd.putR (w' := _) (.inr ?_) ?_; (· first | omega | (simp; done) | (simp; omega)))))) (fun _ _ _ h => h); intro a1 c1 w1 hrow1 hupd1 hor1; rw [Nat.zero_add, List.nil_append] at hrow1; have HROW1 := Lib.hid hrow1; have HO1 := Lib.hid (Own.app (Own.nil (by (repeat (first | with_reducible assumption | with_reducible exact Upd.refl _ _ | with_reducible refine Upd.alloc (w' := _) ?_ _ | with_reducible refine Upd.drew (w' := _) ?_ | (with_reducible refine Upd.putR (w' := _) (.inr ?_) ?_; (· first | omega | (simp; done) | (simp; omega))))))) hupd1 hor1); have HX1 := Lib.hid (hupd1.heap (two_box _ _ _).1 (fun e => nomatch e)); have HY1 := Lib.hid (hupd1.heap (two_box _ _ _).2 (fun e => nomatch e)); clear hrow1 hupd1 hor1 tok))
        | (at_builtin; go_loud (refine wpList_append_row rfl _ _ 33 rfl 32 i0 _ 1 24 Try.underlying33 HI.out Z0.out Z1.out Z2.out rfl (by decide) _ _ _ _ rfl (HROW1.out.upd ((Upd.refl _ (fun _ => False)).alloc _) (fun _ _ h => h)) _ 1 1 _ rfl (Rd.new _ 1 1 _ _ rfl) (by exact fun u hu => by simp at hu; subst hu; rfl) HB2.out (by decide) ?_; intro a2 c2 w2 hrow2 hupd2 hor2; have HROW2 := Lib.hid hrow2; have HO2 := Lib.hid ((HO1.out.alloc _).app hupd2 hor2); have hx2 := hupd2.heap (heap_old HX1.out) (fun e => by have h1 := HO1.out.fresh _ e; simp at h1; omega); have hy2 := hupd2.heap (heap_old HY1.out) (fun e => by have h1 := HO1.out.fresh _ e; simp at h1; omega); obtain ⟨⟨x0, x1, x2, x3, x4, x5, x6⟩, u0, u1, u2, u3, u4, u5, u6⟩ := box7 hx2; obtain ⟨⟨y0, y1, y2, y3, y4, y5, y6⟩, v0, v1, v2, v3, v4, v5, v6⟩ := box7 hy2; clear hx2 hy2 hrow2 hupd2 hor2))
        | go_in)
  all_goals
    refine bodyPost_ret (v := .agg #[.slice la ln lc, .slice x.a x.l.length x.c, .slice a2 (was.length + 1) c2, .int .i64 room, .int .i64 left, .bool off, .int .i64 done]) (by simp [results, Try.results46, go_sem, y0, y1, y2, y3, y4, y5, y6, v0]) rfl ⟨a2, c2, rfl, ?_, ?_⟩
    · rw [List.map_append]
      refine HROW2.out.upd (F := fun k => k = w.heap.size ∨ k = w.heap.size + 1) (by (repeat (first | with_reducible exact Upd.refl _ _ | (with_reducible refine Upd.putR (w' := _) (.inl ?_) ?_; (· first | exact .inl rfl | exact .inr rfl | exact rfl))))) (fun g hg hf => ?_)
      have h1 := HO2.out.fresh g hg
      simp at h1
      omega
    · exact HO2.out.base' (F := fun k => k = w.heap.size ∨ k = w.heap.size + 1) (by (repeat (first | with_reducible assumption | with_reducible exact Upd.refl _ _ | with_reducible refine Upd.alloc (w' := _) ?_ _ | with_reducible refine Upd.drew (w' := _) ?_ | (with_reducible refine Upd.putR (w' := _) (.inr ?_) ?_; (· first | omega | (simp; done) | (simp; omega)))))) (by (repeat (first | with_reducible exact Upd.refl _ _ | (with_reducible refine Upd.putR (w' := _) (.inl ?_) ?_; (· first | exact .inl rfl | exact .inr rfl | exact rfl))))) (fun k hk => by omega)

theorem Row.put {w : World} {e size n cap g : Nat} {xs : List Value} (h : Row w e size (some ⟨g, 0, none⟩) n cap xs) (i : Nat) (u : Value) (hi : i < n * size) : Row (w.setCell ⟨g, i, none⟩ u) e size (some ⟨g, 0, none⟩) n cap (xs.set i u) := by
  refine ⟨by rw [List.length_set, h.1], ?_⟩
  rcases h.2 with ⟨h2, _⟩ | ⟨g', cur, ha, hb, h1, h2, h3, h4⟩
  · cases h2
  · cases ha
    refine .inr ⟨g, _, rfl, heap_setCell_same hb u, h1, h2, by simpa using h3, ?_⟩
    rw [← h4]
    simp [List.take_set]
theorem flat_set {α : Type} (enc : α → List Value) (x : α) (a b : Value) (he : ∀ x, (enc x).length = 2) (hx : enc x = [a, b]) : ∀ (l : List α) (k : Nat), k < l.length → (l.set k x).flatMap enc = ((l.flatMap enc).set (k * 2) a).set (k * 2 + 1) b
  | [], k, h => by simp at h
  | y :: r, 0, _ => by
    match hy : enc y, he y with
    | [c, d], _ => simp [hx, hy]
  | y :: r, k + 1, h => by
    have := flat_set enc x a b he hx r k (by simpa using h)
    match hy : enc y, he y with
    | [c, d], _ =>
      have e1 : (k + 1) * 2 = k * 2 + 1 + 1 := by omega
      simp [hy, this, e1]

theorem three_box (w : World) (x y z : Obj) : (((w.alloc x).alloc y).alloc z).heap[w.heap.size]? = some x ∧ (((w.alloc x).alloc y).alloc z).heap[w.heap.size + 1]? = some y ∧ (((w.alloc x).alloc y).alloc z).heap[w.heap.size + 1 + 1]? = some z := by
  refine ⟨heap_old (two_box w x y).1, heap_old (two_box w x y).2, ?_⟩
  have := heap_alloc_new ((w.alloc x).alloc y) z
  simpa using this
theorem three_size (w : World) (x y z : Obj) : (some ⟨(((w.alloc x).alloc y).alloc z).heap.size, 0, none⟩ : Option Addr) = some ⟨w.heap.size + 1 + 1 + 1, 0, none⟩ := by simp
theorem Row.two {w : World} {e n cap g : Nat} {xs : List Value} (h : Row w e 2 (some ⟨g, 0, none⟩) n cap xs) (k : Nat) (hk : k < n) : (∃ u, w.cell? ⟨g, k * 2, none⟩ = some u) ∧ (∃ u, w.cell? ⟨g, k * 2 + 1, none⟩ = some u) ∧ w.frozen? ⟨g, k * 2, none⟩ = false ∧ w.frozen? ⟨g, k * 2 + 1, none⟩ = false := by
  rcases h.2 with ⟨h2, _⟩ | ⟨g', cur, ha, hb, h1, h2, h3, h4⟩
  · cases h2
  · cases ha
    refine ⟨⟨cur[k * 2]'(by omega), ?_⟩, ⟨cur[k * 2 + 1]'(by omega), ?_⟩, free_of_heap hb _, free_of_heap hb _⟩
    · rw [cell_of_heap hb]; simp
    · rw [cell_of_heap hb]; simp

def ChangedP (w : World) (L : List RFile) (k : Nat) (x : RFile) (na : Option Addr) (nn nc : Nat) (wa : Option Addr) (wn wc : Nat) (room left : Int) (off : Bool) (done : Int) (e : Ending) (w' : World) : Prop :=
  ∃ (la : Option Addr) (lc : Nat), e = .returned (.agg #[.slice la L.length lc, .slice na nn nc, .slice wa wn wc, .int .i64 room, .int .i64 left, .bool off, .int .i64 done]) ∧ Row w' 85 2 la L.length lc ((L.set k x).flatMap encRF) ∧ Own w w' la

set_option maxHeartbeats 400000 in
set_option maxRecDepth 4000 in
theorem changed_calls {w : World} (la : Option Addr) (lc : Nat) (L : List RFile) (k : Nat) (x : RFile) (na : Option Addr) (nn nc : Nat) (wa : Option Addr) (wn wc : Nat) (room left : Int) (off : Bool) (done : Int)
    (hL : Row w 85 2 la L.length lc (L.flatMap encRF)) (hb : L.length ≤ Big) (hk : k < L.length) :
    Calls Try.prog 49 #[rv la L.length lc na nn nc wa wn wc room left off done, .int .i64 k, .agg #[.slice x.a x.p.length x.c, .int .i64 x.safe]] w (ChangedP w L k x na nn nc wa wn wc room left off done) := by
  obtain ⟨i0, hi0, hz0, hz1, hz2⟩ := info_parts infoRF
  have HI := Lib.hid hi0
  have Z0 := Lib.hid hz0
  have Z1 := Lib.hid hz1
  have Z2 := Lib.hid hz2
  have HL := Lib.hid hL
  have HB1 := Lib.hid (show 0 + L.length ≤ Big by omega)
  clear hi0 hz0 hz1 hz2 hL
  unfold rv
  go_enter Try.func49, Try.ntmps49
  have tok : True := True.intro
  go_wp2_with (first
        | (have _t := tok; at_builtin; refine wpList_append_row rfl _ _ 31 rfl 85 i0 _ 2 32 Try.underlying31 HI.out Z0.out Z1.out Z2.out rfl (by decide) _ _ _ _ rfl (Row.nil _ _ _) _ _ _ _ rfl ?_ (ones_flat encRF ones_encRF L) HB1.out (by decide) ?_; exact HL.out.rd.upd (by (repeat (first | with_reducible assumption | with_reducible exact Upd.refl _ _ | with_reducible refine Upd.alloc (w' := _) ?_ _ | with_reducible refine Upd.drew (w' := _) ?_ | (with_reducible refine Upd.putR (w' := _) (.inr ?_) ?_; (· first | omega | (simp; done) | (simp; omega)))))) (fun _ _ _ h => h); intro a1 c1 w1 hrow1 hupd1 hor1; rw [Nat.zero_add, List.nil_append] at hrow1; have HO1 := Lib.hid (Own.app (Own.nil (by (repeat (first | with_reducible assumption | with_reducible exact Upd.refl _ _ | with_reducible refine Upd.alloc (w' := _) ?_ _ | with_reducible refine Upd.drew (w' := _) ?_ | (with_reducible refine Upd.putR (w' := _) (.inr ?_) ?_; (· first | omega | (simp; done) | (simp; omega))))))) hupd1 hor1); have HX1 := Lib.hid (hupd1.heap (three_box _ _ _ _).1 (fun e => nomatch e)); have HZ1 := Lib.hid (hupd1.heap (three_box _ _ _ _).2.1 (fun e => nomatch e)); have HY1 := Lib.hid (hupd1.heap (three_box _ _ _ _).2.2 (fun e => nomatch e)); obtain ⟨⟨x0, x1, x2, x3, x4, x5, x6⟩, u0, u1, u2, u3, u4, u5, u6⟩ := box7 HX1.out; obtain ⟨⟨y0, y1, y2, y3, y4, y5, y6⟩, v0, v1, v2, v3, v4, v5, v6⟩ := box7 HY1.out; have z0 := (cell_of_heap HZ1.out 0).trans rfl; have z1 := (cell_of_heap HZ1.out 1).trans rfl; rcases hor1 with ⟨_, hz⟩ | ⟨ha, hs⟩; (exfalso; have := hz rfl; omega); have ha2 := ha.trans (three_size _ _ _ _); clear ha; subst ha2; have HROW1 := Lib.hid hrow1; obtain ⟨⟨q0, t0⟩, ⟨q1, t1⟩, k0, k1⟩ := hrow1.two k hk; clear hs hrow1 hupd1 tok)
        | go_in)
  all_goals
    refine bodyPost_ret (v := .agg #[.slice (some ⟨w.heap.size + 1 + 1 + 1, 0, none⟩) L.length c1, .slice na nn nc, .slice wa wn wc, .int .i64 room, .int .i64 left, .bool off, .int .i64 done]) (by simp [results, Try.results49, go_sem, y0, y1, y2, y3, y4, y5, y6, v0]) rfl ⟨_, c1, rfl, ?_, ?_⟩
    · rw [flat_set encRF x (.slice x.a x.p.length x.c) (.int .i64 x.safe) (fun _ => rfl) rfl L k hk]
      refine Row.upd (F := fun k => k = w.heap.size ∨ k = w.heap.size + 1 + 1) ((HROW1.out.put (k * 2) _ (by omega)).put (k * 2 + 1) _ (by omega)) (by (repeat (first | with_reducible exact Upd.refl _ _ | (with_reducible refine Upd.putR (w' := _) (.inl ?_) ?_; (· first | exact .inl rfl | exact .inr rfl | exact rfl))))) (fun g hg hf => ?_)
      simp [blockOf] at hg
      omega
    · exact HO1.out.base' (F := fun k => w.heap.size ≤ k) (by (repeat (first | with_reducible assumption | with_reducible exact Upd.refl _ _ | with_reducible refine Upd.alloc (w' := _) ?_ _ | with_reducible refine Upd.drew (w' := _) ?_ | (with_reducible refine Upd.putR (w' := _) (.inr ?_) ?_; (· first | omega | (simp; done) | (simp; omega)))))) (by (repeat (first | with_reducible exact Upd.refl _ _ | (with_reducible refine Upd.putR (w' := _) (.inl ?_) ?_; (· omega)) | with_reducible refine Upd.alloc (w' := _) ?_ _))) (fun k hk => hk)
end Go.Proofs.Ytpmbeeddciepjaa
