/- Walks: Used. -/
import Derived.Test.YtpmbeeddciepjaaN
import Derived.Deep.CutBlock
import Derived.Deep.DeepCutAuto
namespace Go.Proofs.Ytpmbeeddciepjaa
open Go.RowKit Go.Maps Go.Sort
set_option linter.unusedSimpArgs false
set_option linter.unusedVariables false

theorem adds_start {G : Gh} {S : Sh} {w w1 : World} (h : IsShelf w G S) (hs : SeenIs w1 w.heap.size [none]) (hz : w1.heap.size = w.heap.size + 1) (U1 : Upd w w1 (fun k => k = w.heap.size)) :
    Adds ((w1.alloc (.cells #[.map (some w.heap.size)] 73)).alloc (.cells #[.int .i64 0] 3)) G S w1.heap.size (w1.heap.size + 1) w.heap.size [] ∧
    Upd w ((w1.alloc (.cells #[.map (some w.heap.size)] 73)).alloc (.cells #[.int .i64 0] 3)) (fun _ => False) ∧
    ((w1.alloc (.cells #[.map (some w.heap.size)] 73)).alloc (.cells #[.int .i64 0] 3)).heap.size = w1.heap.size + 2 := by
  have e1 : (w1.alloc (.cells #[.map (some w.heap.size)] 73)).heap.size = w1.heap.size + 1 := by simp
  refine ⟨⟨?_, ?_, ?_, List.nodup_nil, (fun i hi => nomatch hi), by omega, by omega, by omega, ?_⟩, ((U1.mono (F' := fun _ => False) (fun k hk e => by omega)).alloc _).alloc _, by simp⟩
  · exact hs.upd (((Upd.refl w1 (fun _ => False)).alloc _).alloc _) (fun h => h)
  · exact ((Upd.refl _ (fun _ => False)).alloc _).heap (heap_alloc_new w1 _) (fun h => h)
  · have := heap_alloc_new (w1.alloc (.cells #[.map (some w.heap.size)] 73)) (.cells #[.int .i64 0] 3)
    rw [e1] at this
    exact this
  · refine ⟨fun ho => ?_, fun ho => ?_, fun ho => ?_⟩ <;> (have := h.own_lt ho; omega)

/-- The first loop: those files are added that names lead to that have come already. -/
structure Lp1 (w wr : World) (G : Gh) (S : Sh) (s1 n1 mb : Nat) (L : List Nat) (left : Lit → Bool) : Prop where
  adds : Adds wr G S s1 n1 mb L
  upd : Upd w wr (fun _ => False)
  mem : ∀ i, i ∈ L ↔ ∃ s, look S.old s = some i ∧ left (.string s) = false
  lo : w.heap.size ≤ mb ∧ w.heap.size ≤ s1 ∧ w.heap.size ≤ n1

theorem Adds.upd {w w' : World} {G : Gh} {S : Sh} {s1 n1 mb : Nat} {L : List Nat} {F : Nat → Prop} (h : Adds w G S s1 n1 mb L) (hu : Upd w w' F) (h1 : ¬ F s1) (h2 : ¬ F n1) (h3 : ¬ F mb) : Adds w' G S s1 n1 mb L :=
  ⟨h.seen.upd hu h3, hu.heap h.sc h1, hu.heap h.nc h2, h.nodup, h.lt, h.ne1, h.ne2, h.ne3, h.own⟩
theorem ranges_upd {w w' : World} {P : Program} {k : TypeId} {R : Value → Option (DataW Unit × List MemPlace)} {b r n : Nat} {D : DataW Unit} {left : Lit → Bool} {cnt : Nat} {F : Nat → Prop} (h : w.ranges P k R b r n D left cnt) (hu : Upd w w' F) (h1 : ¬ F b) (h2 : ¬ F r) :
    w'.ranges P k R b r n D left cnt := by
  obtain ⟨es, clock, since, seen, c0, hb, x1, x2, x3, hr, x4⟩ := h
  exact ⟨es, clock, since, seen, c0, hu.heap hb h1, x1, x2, x3, hu.heap hr h2, x4⟩
theorem ranges_lt {w : World} {P : Program} {k : TypeId} {R : Value → Option (DataW Unit × List MemPlace)} {b r n : Nat} {D : DataW Unit} {left : Lit → Bool} {cnt : Nat} (h : w.ranges P k R b r n D left cnt) : b < w.heap.size ∧ r < w.heap.size ∧ b ≠ r := by
  obtain ⟨es, clock, since, seen, c0, hb, x1, x2, x3, hr, x4⟩ := h
  refine ⟨lt_of_heap hb, lt_of_heap hr, ?_⟩
  rintro rfl
  rw [hb] at hr
  cases hr
theorem invKey : ∀ key kl, keyOf Try.prog 9 key = some kl → ∃ x, key = encStr x := fun key kl hk => by
  obtain ⟨x, hx, _⟩ := Maps.keyOf_str Try.underlying9 hk
  exact ⟨x, hx⟩
theorem invPtr : ∀ (v : Value) (y : DataW Unit × List MemPlace), refElem v = some y → ∃ c, v = optPtr c := fun v y hv => by
  rcases refElem_shape hv with rfl | ⟨b, rfl⟩
  · exact ⟨none, rfl⟩
  · exact ⟨some b, rfl⟩
theorem next_what {D : DataW Unit} {bl : List Nat} {m : List (Nm × Nat)} (h : Tells D bl m) {s : Nm} {c : Option Nat} {yd : DataW Unit} {yp : List MemPlace} (hat : ∀ zd, D.atKey (.string s) zd = yd) (hv : refElem (optPtr c) = some (yd, yp)) :
    ∃ i b, look m s = some i ∧ bl[i]? = some b ∧ c = some b := by
  cases hl : look m s with
  | none =>
    have h1 := (h.at_ s .nil).symm.trans (hat .nil)
    have h2 := (h.at_ s (.lit (.bool true))).symm.trans (hat (.lit (.bool true)))
    unfold told at h1 h2
    rw [hl] at h1 h2
    rw [← h1] at h2
    cases h2
  | some i =>
    have hi := h.lt _ (mem_of_look hl)
    simp only at hi
    have h1 := (h.at_ s .nil).symm.trans (hat .nil)
    unfold told at h1
    rw [hl] at h1
    rw [← h1] at hv
    obtain ⟨h2, _⟩ := refElem_inv hv
    refine ⟨i, bl[i], rfl, List.getElem?_eq_getElem hi, ?_⟩
    cases c with
    | none => cases h2
    | some b =>
      simp only [optPtr, Value.pointer.injEq, Option.some.injEq, Addr.mk.injEq] at h2
      rw [h2.1]
      simp [List.getElem?_eq_getElem hi]
theorem lp1_start {w w3 w0 : World} {G : Gh} {S : Sh} {D : DataW Unit} {s1 n1 mb : Nat} (hT : Tells D G.bl S.old) (hA : Adds w3 G S s1 n1 mb []) (hU : Upd w w3 (fun _ => False)) (hg : w3.grownBy w0 none) (hlo : w.heap.size ≤ mb ∧ w.heap.size ≤ s1 ∧ w.heap.size ≤ n1) :
    Lp1 w w0 G S s1 n1 mb [] (Maps.has D) := by
  have hu : Upd w3 w0 (fun _ => False) := Upd.of_grown hg (fun k hk => nomatch hk)
  refine ⟨hA.upd hu (fun h => h) (fun h => h) (fun h => h), hU.trans hu (fun _ _ h => h), fun i => ⟨(fun h => nomatch h), ?_⟩, hlo⟩
  rintro ⟨s, hs, hf⟩
  rw [hT.has, hs] at hf
  cases hf
theorem Lp1.next {w wr w2 : World} {G : Gh} {S : Sh} {s1 n1 mb r : Nat} {L : List Nat} {left : Lit → Bool} (h : Lp1 w wr G S s1 n1 mb L left) (hr : w.heap.size ≤ r ∧ r ≠ s1 ∧ r ≠ n1 ∧ r ≠ mb) (hg : wr.grownBy w2 (some r)) : Lp1 w w2 G S s1 n1 mb L left := by
  have hu : Upd wr w2 (fun k => k = r) := Upd.of_grown hg (fun k hk => by injection hk with e; exact e.symm)
  exact ⟨h.adds.upd hu (fun e => hr.2.1 e.symm) (fun e => hr.2.2.1 e.symm) (fun e => hr.2.2.2 e.symm), h.upd.trans hu (fun k hk e => by omega), h.mem, h.lo⟩
theorem Lp1.add {w w2 w4 : World} {G : Gh} {S : Sh} {s1 n1 mb i : Nat} {L L' : List Nat} {left : Lit → Bool} {x : Nm} (h : Lp1 w w2 G S s1 n1 mb L left) (hi : look S.old x = some i) (hA : Adds w4 G S s1 n1 mb L') (hm : ∀ k, k ∈ L' ↔ k ∈ L ∨ k = i) (hu : Upd w2 w4 (fun k => k = mb ∨ k = n1)) :
    Lp1 w w4 G S s1 n1 mb L' (fun z => left z && !z.sameKey (.string x)) := by
  refine ⟨hA, h.upd.trans hu (fun k hk e => by have := h.lo; omega), fun k => ?_, h.lo⟩
  rw [hm k, h.mem k]
  constructor
  · rintro (⟨s, hs, hf⟩ | rfl)
    · exact ⟨s, hs, by simp [hf]⟩
    · exact ⟨x, hi, by rw [WideAt.sameKey_self (isKeyStr x)]; simp⟩
  · rintro ⟨s, hs, hf⟩
    by_cases e : s = x
    · subst e
      rw [hi] at hs
      cases hs
      exact .inr rfl
    · refine .inl ⟨s, hs, ?_⟩
      rw [sameKey_ne (ne_of_nm e)] at hf
      simpa using hf

/-- The second loop: so are those that were done something to, so far. -/
structure Lp2 (w wr : World) (G : Gh) (S : Sh) (s1 n1 mb : Nat) (L : List Nat) (k : Nat) : Prop where
  adds : Adds wr G S s1 n1 mb L
  upd : Upd w wr (fun _ => False)
  mem : ∀ i, i ∈ L ↔ (∃ s, look S.old s = some i) ∨ ∃ m ∈ S.moves.take k, m.b = some i
  lo : w.heap.size ≤ mb ∧ w.heap.size ≤ s1 ∧ w.heap.size ≤ n1
theorem Lp1.start2 {w wr : World} {G : Gh} {S : Sh} {s1 n1 mb : Nat} {L : List Nat} {left : Lit → Bool} (h : Lp1 w wr G S s1 n1 mb L left) (hl : ∀ kl, left kl = false) : Lp2 w wr G S s1 n1 mb L 0 := by
  refine ⟨h.adds, h.upd, fun i => ?_, h.lo⟩
  rw [h.mem i]
  simp [hl]
theorem Lp2.solid {w wr : World} {G : Gh} {S : Sh} {s1 n1 mb : Nat} {L : List Nat} {k : Nat} {o : Obj} (h : Lp2 w wr G S s1 n1 mb L k) (hI : IsShelf w G S) : ∀ y ∈ (none :: L.map (fun i => some (G.bl.getD i 0))), Solid (wr.alloc o) y := by
  have hJ := hI.upd (h.upd.alloc o) (fun _ _ h => h)
  intro y hy c hc
  rcases List.mem_cons.1 hy with rfl | hy
  · cases hc
  · obtain ⟨j, hj, rfl⟩ := List.mem_map.1 hy
    cases hc
    have hjl := h.adds.lt j hj
    have h1 : j < S.fs.length := by rw [← hI.lbl]; exact hjl
    have h2 : j < G.ba.length := by rw [hI.lba]; exact h1
    have := (hJ.file j (G.bl.getD j 0) (G.ba[j]).1 (G.ba[j]).2 _ (by simp [List.getElem?_eq_getElem hjl]) (List.getElem?_eq_getElem h2) (List.getElem?_eq_getElem h1)).1
    exact ⟨_, _, this⟩
theorem take_next {α : Type} {l : List α} {k : Nat} {x : α} (h : l[k]? = some x) : l.take (k + 1) = l.take k ++ [x] := by
  rw [List.take_add_one, h]
  rfl
theorem Lp2.skip {w wr w4 : World} {G : Gh} {S : Sh} {s1 n1 mb : Nat} {L : List Nat} {k : Nat} {m : Mv} (h : Lp2 w wr G S s1 n1 mb L k) (hm : S.moves[k]? = some m) (hb : m.b = none) (hu : Upd wr w4 (fun _ => False)) : Lp2 w w4 G S s1 n1 mb L (k + 1) := by
  refine ⟨h.adds.upd hu (fun h => h) (fun h => h) (fun h => h), h.upd.trans hu (fun _ _ h => h), fun i => ?_, h.lo⟩
  rw [h.mem i, take_next hm]
  refine or_congr Iff.rfl ⟨fun ⟨x, hx, e⟩ => ⟨x, List.mem_append_left _ hx, e⟩, fun ⟨x, hx, e⟩ => ?_⟩
  rcases List.mem_append.1 hx with hx | hx
  · exact ⟨x, hx, e⟩
  · simp at hx
    subst hx
    rw [hb] at e
    cases e
theorem Lp2.add {w wr w4 : World} {G : Gh} {S : Sh} {s1 n1 mb i : Nat} {L L' : List Nat} {k : Nat} {m : Mv} (h : Lp2 w wr G S s1 n1 mb L k) (hm : S.moves[k]? = some m) (hb : m.b = some i) (hA : Adds w4 G S s1 n1 mb L') (hm4 : ∀ j, j ∈ L' ↔ j ∈ L ∨ j = i)
    (hu : Upd wr w4 (fun k => k = mb ∨ k = n1)) : Lp2 w w4 G S s1 n1 mb L' (k + 1) := by
  refine ⟨hA, h.upd.trans hu (fun k hk e => by have := h.lo; omega), fun j => ?_, h.lo⟩
  rw [hm4 j, h.mem j, take_next hm, or_assoc]
  refine or_congr Iff.rfl ⟨fun hj => ?_, fun ⟨x, hx, e⟩ => ?_⟩
  · rcases hj with ⟨x, hx, e⟩ | rfl
    · exact ⟨x, List.mem_append_left _ hx, e⟩
    · exact ⟨m, by simp, hb⟩
  · rcases List.mem_append.1 hx with hx | hx
    · exact .inl ⟨x, hx, e⟩
    · simp at hx
      subst hx
      rw [hb] at e
      exact .inr (Option.some.inj e).symm
theorem sum_perm {a b : List Nat} (h : a.Perm b) : a.sum = b.sum := h.sum_nat
theorem Lp2.total {w wr : World} {G : Gh} {S : Sh} {s1 n1 mb : Nat} {L : List Nat} {k : Nat} (h : Lp2 w wr G S s1 n1 mb L k) (hI : IsShelf w G S) (hk : k = S.moves.length) : (((L.map S.lenOf).sum : Nat) : Int) = S.used := by
  subst hk
  have hp : L.Perm S.ids := by
    refine (List.perm_ext_iff_of_nodup h.adds.nodup (nodup_dedup _)).2 (fun i => ?_)
    rw [h.mem i, mem_dedup, List.mem_append, List.take_length]
    refine or_congr ⟨fun ⟨s, hs⟩ => List.mem_map.2 ⟨_, mem_of_look hs, rfl⟩, fun hm => ?_⟩ (by simp)
    obtain ⟨p, hp, rfl⟩ := List.mem_map.1 hm
    exact ⟨p.1, look_of_mem hI.old.nodup hp⟩
  have := sum_perm (hp.map S.lenOf)
  unfold Sh.used
  rw [this]

/-- The cells of one of the moves. -/
theorem IsShelf.mvAt {w : World} {G : Gh} {S : Sh} (h : IsShelf w G S) {k : Nat} (hk : k < S.moves.length) :
    ∃ g m, G.mva = some ⟨g, 0, none⟩ ∧ S.moves[k]? = some m ∧ w.cell? ⟨g, k * 3, none⟩ = some (strV m.name) ∧ w.cell? ⟨g, k * 3 + 1, none⟩ = some (ptrV G.bl m.b) ∧ w.cell? ⟨g, k * 3 + 2, none⟩ = some (strV m.frm) := by
  obtain ⟨hl, h2⟩ := h.mv
  rcases h2 with ⟨_, h2, _⟩ | ⟨g, cur, ha, hb, h3, h4, h5, h6⟩
  · omega
  · have hcell : ∀ j u, (S.moves.flatMap (encMv G.bl))[j]? = some u → w.cell? ⟨g, j, none⟩ = some u := by
      intro j u hu
      obtain ⟨ad, e, _, hc⟩ := h.mv.rd.2 j u hu
      rw [ha] at e
      cases e
      rw [Addr.add_lit] at hc
      simpa using hc
    have hflat : ∀ (l : List Mv) (k : Nat) (hk : k < l.length) (j : Nat), j < 3 → (l.flatMap (encMv G.bl))[k * 3 + j]? = (encMv G.bl l[k])[j]? := by
      intro l
      induction l with
      | nil => intro k hk; simp at hk
      | cons x r ih =>
        intro k hk j hj
        have hx : (encMv G.bl x).length = 3 := rfl
        cases k with
        | zero => simp only [List.flatMap_cons, Nat.zero_mul, Nat.zero_add]; rw [List.getElem?_append_left (by omega)]; rfl
        | succ k =>
          rw [List.flatMap_cons, List.getElem?_append_right (by rw [hx]; omega), hx]
          have : (k + 1) * 3 + j - 3 = k * 3 + j := by omega
          rw [this, ih k (by simpa using hk) j hj]
          rfl
    refine ⟨g, S.moves[k], ha, List.getElem?_eq_getElem hk, hcell _ _ ?_, hcell _ _ ?_, hcell _ _ ?_⟩
    · exact (hflat S.moves k hk 0 (by omega)).trans rfl
    · exact (hflat S.moves k hk 1 (by omega)).trans rfl
    · exact (hflat S.moves k hk 2 (by omega)).trans rfl

set_option maxHeartbeats 400000 in
set_option maxRecDepth 20000 in
theorem used_calls {G : Gh} {S : Sh} {w : World} (h : IsShelf w G S) (hfs : S.fs.length ≤ 1048576) (hmv : S.moves.length ≤ 9223372036854775807) :
    Calls Try.prog 15 #[.pointer (some ⟨G.sb, 0, none⟩)] w fun e w' => e = .returned (.int .i64 S.used) ∧ Upd w w' (fun _ => False) := by
  obtain ⟨j0, hj, hz⟩ := infoBook
  have HJ := Lib.hid hj
  have HMV := Lib.hid hmv
  have HFS := Lib.hid hfs
  have HZ := Lib.hid hz
  have H := Lib.hid h
  have hmm := @run_makeMap Try.prog
  have tok1 : True := True.intro
  obtain ⟨D, hD, hT⟩ := h.old
  have HD0 := Lib.hid hD
  have HT := Lib.hid hT
  have HNE := Lib.hid (show ¬ (G.sb = w.heap.size) from by have := h.lt (r := .sh) rfl; omega)
  clear hj hz h hfs hmv hD hT
  go_enter Try.func15, Try.ntmps15
  go_upto_region 6 with (first
        | (have _t := tok1; refine wpList_seen_add rfl _ _ _ 73 (.inr rfl) 54 4 57 j0 Try.underlying73 Try.underlying54 HJ.out HZ.out w.heap.size [] rfl (SeenIs.made w) none rfl rfl (fun _ h => nomatch h) (fun _ h => nomatch h) (fun h => nomatch h) ?_; intro w1 hs1 hu1 hz1; have HS1 := Lib.hid hs1; have U1 : Upd w w1 (fun k => k = w.heap.size) := ((Upd.refl w (fun k => k = w.heap.size)).alloc _).trans hu1 (fun _ _ h => h); have HC1 := Lib.hid (U1.heap H.out.cells HNE.out); have c1 : w1.cell? ⟨G.sb, 1, none⟩ = some (.map (some G.ob)) := (cell_of_heap HC1.out 1).trans rfl; have HZ1 := Lib.hid hz1; clear hs1 hz1 tok1 _t hmm hu1)
        | go_in)
  obtain ⟨hA3, hU3, hZ3⟩ := adds_start H.out HS1.out (by rw [HZ1.out]; simp) U1
  have HD3 := Lib.hid (ownsMap_upd HD0.out hU3 (fun h => h))
  have HI3 := Lib.hid (H.out.upd hU3 (fun _ _ h => h))
  have hz1 : w1.heap.size = w.heap.size + 1 := by rw [HZ1.out]; simp
  generalize ((w1.alloc (.cells #[.map (some w.heap.size)] 73)).alloc (.cells #[.int .i64 0] 3)) = w3 at hA3 hU3 hZ3 HD3 HI3 ⊢
  obtain ⟨s1, hs1⟩ : ∃ s1, s1 = w1.heap.size := ⟨_, rfl⟩
  rw [← hs1] at hA3 hZ3 hz1 ⊢
  have c1 : w3.cell? ⟨G.sb, 1, none⟩ = some (.map (some G.ob)) := (cell_of_heap HI3.out.cells 1).trans rfl
  have HA3 := Lib.hid hA3
  have HZ3 := Lib.hid hZ3
  have HZ2 := Lib.hid hz1
  have HR3 := Lib.hid (show w.heap.size ≤ w3.heap.size ∧ w3.heap.size ≠ s1 ∧ w3.heap.size ≠ s1 + 1 ∧ w3.heap.size ≠ w.heap.size from ⟨by omega, by omega, by omega, by omega⟩)
  clear hA3 hZ3 hz1 hs1
  go_wp2_with (first
        | (at_range; go_loud (refine wpList_range_own _ rfl _ 49 rfl 9 54 keyT Try.underlying49 refElem G.ob S.old.length D rfl HD3.out ?_; intro w0 hrg0 hg0 hs0; have HRG0 := Lib.hid hrg0; have HG0 := Lib.hid hg0; have HS0 := Lib.hid hs0; clear hrg0 hg0 hs0))
        | go_in)
  go_frame
  go_loopw [20] (fun _ wr => ∃ (left : Lit → Bool) (cnt : Nat) (L : List Nat), wr.ranges Try.prog 9 refElem G.ob w3.heap.size S.old.length D left cnt ∧ Lp1 w wr G S s1 (s1 + 1) w.heap.size L left) (fun _ wr => wr.rangeLeft G.ob w3.heap.size)
  case atStart => exact ⟨_, _, [], HRG0.out, lp1_start HT.out HA3.out hU3 HG0.out ⟨Nat.le_refl _, by have := HZ2.out; omega, by have := HZ2.out; omega⟩⟩
  case round =>
    obtain ⟨left, cnt, L, hrg, hlp⟩ := hrel
    have HRG := Lib.hid hrg
    have HLP := Lib.hid hlp
    clear hrg hlp
    go_wp2_with (first
      | (at_next; refine wpList_next_ranges _ rfl _ rfl 9 keyT refElem encStr optPtr invKey invPtr G.ob w3.heap.size S.old.length D left cnt rfl HRG.out ?_ ?_)
      | go_in)
    · intro hc0 hl0
      have HL0 := Lib.hid hl0
      clear hc0 hl0
      have hIr := H.out.upd HLP.out.upd (fun _ _ h => h)
      have HIR := Lib.hid hIr
      clear hIr
      obtain ⟨wo, rfl⟩ : ∃ wo : World, wo = wr := ⟨_, rfl⟩
      rcases H.out.mv.2 with ⟨hg, _⟩ | ⟨g, cur, hg, _⟩
      · have HGG := Lib.hid hg
        clear hg
        have c2 : wo.cell? ⟨G.sb, 2, none⟩ = some (.slice none S.moves.length G.mvc) := by rw [← HGG.out]; exact (cell_of_heap HIR.out.cells 2).trans rfl
        go_wp2_with fail
        have hlp2 := HLP.out.start2 HL0.out
        go_loopw [32] (fun iv wq => ∃ (k : Nat) (L : List Nat), k ≤ S.moves.length ∧ iv = .int .i64 k ∧ Lp2 w wq G S s1 (s1 + 1) w.heap.size L k) (fun iv _ => S.moves.length - (intOf iv).toNat)
        case atStart => exact ⟨0, L, Nat.zero_le _, rfl, hlp2⟩
        case round =>
          obtain ⟨k, L2, hk, rfl, hlq⟩ := hrel
          have HLQ := Lib.hid hlq
          have HIQ := Lib.hid (H.out.upd hlq.upd (fun _ _ h => h))
          have hbig := HMV.out
          clear hlq hlp2
          by_cases hlt : k < S.moves.length
          · obtain ⟨g', m, hg, _⟩ := HIQ.out.mvAt hlt
            rw [HGG.out] at hg
            cases hg
          · have hke : k = S.moves.length := by omega
            have HKE := Lib.hid hke
            have n1c : wr.cell? ⟨s1 + 1, 0, none⟩ = some (.int .i64 ((L2.map S.lenOf).sum : Nat)) := (cell_of_heap HLQ.out.adds.nc 0).trans rfl
            clear hke
            go_wp2_with fail
            go_ret
            exact ⟨ret_int (HLQ.out.total H.out HKE.out), HLQ.out.upd⟩
      · have HGG := Lib.hid hg
        clear hg
        have c2 : wo.cell? ⟨G.sb, 2, none⟩ = some (.slice (some ⟨g, 0, none⟩) S.moves.length G.mvc) := by rw [← HGG.out]; exact (cell_of_heap HIR.out.cells 2).trans rfl
        go_wp2_with fail
        have hlp2 := HLP.out.start2 HL0.out
        go_loopw [32] (fun iv wq => ∃ (k : Nat) (L : List Nat), k ≤ S.moves.length ∧ iv = .int .i64 k ∧ Lp2 w wq G S s1 (s1 + 1) w.heap.size L k) (fun iv _ => S.moves.length - (intOf iv).toNat)
        case atStart => exact ⟨0, L, Nat.zero_le _, rfl, hlp2⟩
        case round =>
          obtain ⟨k, L2, hk, rfl, hlq⟩ := hrel
          have HLQ := Lib.hid hlq
          have HIQ := Lib.hid (H.out.upd hlq.upd (fun _ _ h => h))
          have hbig := HMV.out
          clear hlq hlp2
          by_cases hlt : k < S.moves.length
          · obtain ⟨g', m, hg, hm, q0, q1, q2⟩ := HIQ.out.mvAt hlt
            have hgg : g' = g := by have := hg.symm.trans HGG.out; cases this; rfl
            subst hgg
            have HM := Lib.hid hm
            have hml := HMV.out
            clear hm hg
            unfold strV at q0 q2
            cases hmb : m.b with
            | none =>
              rw [hmb] at q1
              simp only [ptrV] at q1
              have HMB := Lib.hid hmb
              clear hmb
              go_wp2_with (first
        | (go_at_call 37; refine (add_seen none s1 (s1 + 1) w.heap.size _ _ (HLQ.out.adds.upd ((Upd.refl _ (fun _ => False)).alloc _) (fun h => h) (fun h => h) (fun h => h)).seen (fun _ h => nomatch h) (HLQ.out.solid H.out) (by simp) ((cell_of_heap (HLQ.out.adds.upd ((Upd.refl _ (fun _ => False)).alloc _) (fun h => h) (fun h => h) (fun h => h)).sc 0).trans rfl)).mono ?_; rintro e w4 ⟨rfl, rfl⟩)
        | go_in)
              go_roundw
              case rel => exact ⟨k + 1, L2, by omega, by go_num, HLQ.out.skip HM.out HMB.out ((Upd.refl _ (fun _ => False)).alloc _)⟩
              case measure => simp [intOf]; omega
            | some i =>
              rw [hmb] at q1
              simp only [ptrV] at q1
              have hil := H.out.mvlt m (List.mem_of_getElem? HM.out) i hmb
              obtain ⟨b, hb⟩ : ∃ b, G.bl[i]? = some b := ⟨_, List.getElem?_eq_getElem hil⟩
              rw [getD_of hb] at q1
              have HB := Lib.hid hb
              have HMB := Lib.hid hmb
              clear hmb hil hb
              go_wp2_with (first
        | (go_at_call 37; refine (add_step (H.out.upd (HLQ.out.upd.alloc _) (fun _ _ h => h)) (HLQ.out.adds.upd ((Upd.refl _ (fun _ => False)).alloc _) (fun h => h) (fun h => h) (fun h => h)) HFS.out HB.out).mono ?_; rintro e w4 ⟨rfl, L', hA4, hm4, hu4⟩; have HA4 := Lib.hid hA4; have HM4 := Lib.hid hm4; clear hA4 hm4)
        | go_in)
              go_roundw
              case rel => exact ⟨k + 1, L', by omega, by go_num, HLQ.out.add HM.out HMB.out HA4.out HM4.out ((((Upd.refl _ (fun _ => False)).alloc _).mono (fun _ _ h => h.elim)).trans hu4 (fun _ _ h => h))⟩
              case measure => simp [intOf]; omega
          · have hke : k = S.moves.length := by omega
            have HKE := Lib.hid hke
            have n1c : wr.cell? ⟨s1 + 1, 0, none⟩ = some (.int .i64 ((L2.map S.lenOf).sum : Nat)) := (cell_of_heap HLQ.out.adds.nc 0).trans rfl
            clear hke
            go_wp2_with fail
            go_ret
            exact ⟨ret_int (HLQ.out.total H.out HKE.out), HLQ.out.upd⟩
    · intro x c kl yd yp w2 cnt2 hkey hlk hv hat hrg2 hlt hg2 hs2 hen
      obtain ⟨x', ex, rfl, _⟩ := Maps.keyOf_str Try.underlying9 hkey
      obtain rfl : x = x' := encStr_inj ex
      obtain ⟨i, b, hi, hb, rfl⟩ := next_what HT.out hat hv
      have HB := Lib.hid hb
      have HI := Lib.hid hi
      have HRG2 := Lib.hid hrg2
      have HLT := Lib.hid hlt
      have hlp2 := HLP.out.next HR3.out hg2
      have HLP2 := Lib.hid hlp2
      have HI2 := Lib.hid (H.out.upd hlp2.upd (fun _ _ h => h))
      have HA2 := Lib.hid hlp2.adds
      clear hkey hv hat hrg2 hlt hb hi hs2 hlk ex hlp2 hg2
      simp only [optPtr] at hen ⊢
      go_wp2_with (first | (go_at_call 37; refine (add_step HI2.out HA2.out HFS.out HB.out).mono ?_; rintro e w4 ⟨rfl, L', hA4, hm4, hu4⟩; have HA4 := Lib.hid hA4; have HM4 := Lib.hid hm4; clear hA4 hm4) | go_in)
      go_roundw
      case rel =>
        have hob := H.out.lt (r := .old) rfl
        have hr3 := HR3.out
        have hz2 := HZ2.out
        exact ⟨_, cnt2, L', ranges_upd HRG2.out hu4 (by rintro (e | e) <;> omega) (by rintro (e | e) <;> omega), HLP2.out.add HI.out HA4.out HM4.out hu4⟩
      case measure =>
        have hob := H.out.lt (r := .old) rfl
        have hr3 := HR3.out
        have hz2 := HZ2.out
        have h4 := ranges_upd HRG2.out hu4 (by rintro (e | e) <;> omega) (by rintro (e | e) <;> omega)
        rw [h4.left_eq, HRG.out.left_eq]
        exact HLT.out
end Go.Proofs.Ytpmbeeddciepjaa
