/- The reference's shelf, as it lies in memory; walks: Find, without, with. -/
import Derived.Test.YtpmbeeddciepjaaQ
namespace Go.Proofs.Ytpmbeeddciepjaa
open Go.RowKit Go.Maps Go.Sort
set_option linter.unusedSimpArgs false
set_option linter.unusedVariables false

structure RName where
  s : Nm
  f : Int
structure RFile where
  a : Option Addr
  c : Nat
  p : List UInt8
  safe : Int
structure RNames where
  a : Option Addr
  c : Nat
  l : List RName
structure RSh where
  la : Option Addr
  lc : Nat
  L : List RFile
  now : RNames
  wa : Option Addr
  wc : Nat
  was : List RNames
  room : Int
  left : Int
  off : Bool
  done : Int
def encRN (x : RName) : List Value := [strV x.s, .int .i64 x.f]
def encRF (x : RFile) : List Value := [.slice x.a x.p.length x.c, .int .i64 x.safe]
def RNames.v (x : RNames) : Value := .slice x.a x.l.length x.c
def RSh.v (X : RSh) : Value := .agg #[.slice X.la X.L.length X.lc, X.now.v, .slice X.wa X.was.length X.wc, .int .i64 X.room, .int .i64 X.left, .bool X.off, .int .i64 X.done]
/-- Not among the blocks of Fs. -/
def Off (Fs : Nat → Prop) (a : Option Addr) : Prop := ∀ g, blockOf a = some g → ¬ Fs g
structure NmOk (w : World) (Fs : Nat → Prop) (n : Nat) (x : RNames) : Prop where
  row : Row w 92 2 x.a x.l.length x.c (x.l.flatMap encRN)
  off : Off Fs x.a
  lt : ∀ r ∈ x.l, 0 ≤ r.f ∧ r.f < n
structure FlOk (w : World) (Fs : Nat → Prop) (x : RFile) : Prop where
  row : Row w 5 1 x.a x.p.length x.c (encB x.p)
  off : Off Fs x.a
  s0 : 0 ≤ x.safe
  s1 : x.safe ≤ 1099511627776
structure RefOk (w : World) (Fs : Nat → Prop) (N : Nat) (X : RSh) : Prop where
  L : Row w 85 2 X.la X.L.length X.lc (X.L.flatMap encRF)
  loff : Off Fs X.la
  files : ∀ x ∈ X.L, FlOk w Fs x ∧ x.p.length ≤ 100 * N
  now : NmOk w Fs X.L.length X.now
  nown : X.now.l.length ≤ N
  W : Row w 32 1 X.wa X.was.length X.wc (X.was.map RNames.v)
  woff : Off Fs X.wa
  was : ∀ x ∈ X.was, NmOk w Fs X.L.length x ∧ x.l.length ≤ N
  was1 : 0 < X.was.length
  was2 : X.was.length ≤ N + 1
  l2 : X.L.length ≤ N
  left : -1 ≤ X.left ∧ X.left ≤ 9223372036854775807

theorem Off.fresh {Fs : Nat → Prop} {w : World} (hF : ∀ k, Fs k → k < w.heap.size) {n : Nat} (hn : w.heap.size ≤ n) : Off Fs (some ⟨n, 0, none⟩) := by
  intro g hg hf
  simp [blockOf] at hg
  have := hF g hf
  omega
theorem Off.nil {Fs : Nat → Prop} : Off Fs none := fun g hg => nomatch hg
section
variable {w w' : World} {Fs F : Nat → Prop} {n N : Nat}
theorem NmOk.upd {x : RNames} (h : NmOk w Fs n x) (hu : Upd w w' F) (hF : ∀ k, F k → Fs k) : NmOk w' Fs n x := ⟨h.row.upd hu (fun g hg hf => h.off g hg (hF g hf)), h.off, h.lt⟩
theorem FlOk.upd {x : RFile} (h : FlOk w Fs x) (hu : Upd w w' F) (hF : ∀ k, F k → Fs k) : FlOk w' Fs x := ⟨h.row.upd hu (fun g hg hf => h.off g hg (hF g hf)), h.off, h.s0, h.s1⟩
theorem NmOk.more {x : RNames} (h : NmOk w Fs n x) {n' : Nat} (hn : n ≤ n') : NmOk w Fs n' x := ⟨h.row, h.off, fun r hr => ⟨(h.lt r hr).1, by have := (h.lt r hr).2; omega⟩⟩
theorem RefOk.upd {X : RSh} (h : RefOk w Fs N X) (hu : Upd w w' F) (hF : ∀ k, F k → Fs k) : RefOk w' Fs N X where
  L := h.L.upd hu (fun g hg hf => h.loff g hg (hF g hf))
  loff := h.loff
  files := fun x hx => ⟨(h.files x hx).1.upd hu hF, (h.files x hx).2⟩
  now := h.now.upd hu hF
  nown := h.nown
  W := h.W.upd hu (fun g hg hf => h.woff g hg (hF g hf))
  woff := h.woff
  was := fun x hx => ⟨(h.was x hx).1.upd hu hF, (h.was x hx).2⟩
  was1 := h.was1
  was2 := h.was2
  l2 := h.l2
  left := h.left
theorem RefOk.more {X : RSh} (h : RefOk w Fs N X) {N' : Nat} (hN : N ≤ N') : RefOk w Fs N' X :=
  { h with
    files := fun x hx => ⟨(h.files x hx).1, by have := (h.files x hx).2; omega⟩
    nown := Nat.le_trans h.nown hN
    was := fun x hx => ⟨(h.was x hx).1, Nat.le_trans (h.was x hx).2 hN⟩
    was2 := by have := h.was2; omega
    l2 := Nat.le_trans h.l2 hN }
theorem flat_at {α : Type} (enc : α → List Value) (s : Nat) (he : ∀ x, (enc x).length = s) : ∀ (l : List α) (k : Nat) (hk : k < l.length) (j : Nat), j < s → (l.flatMap enc)[k * s + j]? = (enc l[k])[j]?
  | [], k, hk, _, _ => by simp at hk
  | x :: r, 0, hk, j, hj => by simp only [List.flatMap_cons, Nat.zero_mul, Nat.zero_add]; rw [List.getElem?_append_left (by rw [he]; exact hj)]; rfl
  | x :: r, k + 1, hk, j, hj => by
    rw [List.flatMap_cons, List.getElem?_append_right (by rw [he, Nat.add_mul]; omega), he]
    have : (k + 1) * s + j - s = k * s + j := by rw [Nat.add_mul]; omega
    rw [this, flat_at enc s he r k (by simpa using hk) j hj]
    rfl
theorem Row.cellAt {e size cap : Nat} {a : Option Addr} {xs : List Value} (h : Row w e size a n cap xs) (hn : 0 < n) : ∃ g, a = some ⟨g, 0, none⟩ ∧ g < w.heap.size ∧ ∀ j u, xs[j]? = some u → w.cell? ⟨g, j, none⟩ = some u := by
  rcases h.2 with ⟨_, h2, _⟩ | ⟨g, cur, ha, hb, _⟩
  · omega
  · refine ⟨g, ha, lt_of_heap hb, fun j u hu => ?_⟩
    obtain ⟨ad, e, _, hc⟩ := h.rd.2 j u hu
    rw [ha] at e
    cases e
    rw [Addr.add_lit] at hc
    simpa using hc
theorem NmOk.at_ {x : RNames} (h : NmOk w Fs n x) {k : Nat} (hk : k < x.l.length) : ∃ g r, x.a = some ⟨g, 0, none⟩ ∧ x.l[k]? = some r ∧ w.cell? ⟨g, k * 2, none⟩ = some (.string ⟨r.s.toArray⟩) ∧ w.cell? ⟨g, k * 2 + 1, none⟩ = some (.int .i64 r.f) := by
  obtain ⟨g, ha, _, hc⟩ := h.row.cellAt (by omega)
  refine ⟨g, x.l[k], ha, List.getElem?_eq_getElem hk, hc _ _ ?_, hc _ _ ?_⟩
  · exact (flat_at encRN 2 (fun _ => rfl) x.l k hk 0 (by omega)).trans rfl
  · exact (flat_at encRN 2 (fun _ => rfl) x.l k hk 1 (by omega)).trans rfl
end

/-- What Find answers. -/
def findR : List RName → Nm → Int
  | [], _ => -1
  | x :: r, s => if x.s = s then x.f else findR r s
theorem findR_skip : ∀ (l : List RName) (k : Nat) (s : Nm) (r : RName), l[k]? = some r → r.s ≠ s → findR (l.drop k) s = findR (l.drop (k + 1)) s
  | [], k, s, r, h, _ => by simp at h
  | x :: l, 0, s, r, h, hn => by simp at h; subst h; simp [findR, hn]
  | x :: l, k + 1, s, r, h, hn => by simpa using findR_skip l k s r (by simpa using h) hn
theorem findR_hit : ∀ (l : List RName) (k : Nat) (s : Nm) (r : RName), l[k]? = some r → r.s = s → findR (l.drop k) s = r.f
  | [], k, s, r, h, _ => by simp at h
  | x :: l, 0, s, r, h, hn => by simp at h; subst h; simp [findR, hn]
  | x :: l, k + 1, s, r, h, hn => by simpa using findR_hit l k s r (by simpa using h) hn
theorem findR_range (n : Nat) : ∀ (l : List RName) (s : Nm), (∀ r ∈ l, 0 ≤ r.f ∧ r.f < n) → findR l s = -1 ∨ (0 ≤ findR l s ∧ findR l s < n)
  | [], _, _ => .inl rfl
  | x :: r, s, h => by
    unfold findR
    split
    · exact .inr (h x (by simp))
    · exact findR_range n r s (fun y hy => h y (by simp [hy]))

set_option maxHeartbeats 400000 in
theorem find_calls {Fs : Nat → Prop} {n : Nat} {x : RNames} {w : World} (h : NmOk w Fs n x) (s : Nm) (hb : x.l.length ≤ 1099511627776) :
    Calls Try.prog 45 #[x.v, .string ⟨s.toArray⟩] w fun e w' => e = .returned (.int .i64 (findR x.l s)) ∧ w = w' := by
  unfold RNames.v
  rcases h.row.2 with ⟨ha, hz, hc⟩ | ⟨g, cur, ha, _⟩
  · rw [ha, hz, hc]
    have hx : x.l = [] := List.eq_nil_of_length_eq_zero hz
    rw [hx]
    clear ha hz hc hx h
    go_enter Try.func45, Try.ntmps45
    go_wp2_with fail
    go_loopw [5] (fun i wr => i = .int .i64 0 ∧ w = wr) (fun _ _ => 0)
    case atStart => exact ⟨rfl, rfl⟩
    case round =>
      obtain ⟨rfl, rfl⟩ := hrel
      go_wp2_with fail
      go_ret
      exact ⟨rfl, rfl⟩
  · rw [ha]
    have H := Lib.hid h
    have HA := Lib.hid ha
    clear h ha
    go_enter Try.func45, Try.ntmps45
    go_wp2_with fail
    go_loopw [5] (fun i wr => ∃ k : Nat, k ≤ x.l.length ∧ i = .int .i64 k ∧ Hid (findR x.l s = findR (x.l.drop k) s) ∧ w = wr) (fun i _ => x.l.length - (intOf i).toNat)
    case atStart => exact ⟨0, Nat.zero_le _, rfl, rfl, rfl⟩
    case round =>
      obtain ⟨k, hk, rfl, hf, rfl⟩ := hrel
      by_cases hlt : k < x.l.length
      · obtain ⟨g', r, hg, hr, q0, q1⟩ := H.out.at_ hlt
        have hgg : g' = g := by have := hg.symm.trans HA.out; cases this; rfl
        subst hgg
        have HR := Lib.hid hr
        clear hr hg
        by_cases hs : r.s = s
        · have HS := Lib.hid hs
          rw [hs] at q0
          clear hs
          go_wp2_with fail
          go_ret
          refine ⟨ret_int ?_, rfl⟩
          rw [hf.out, findR_hit _ _ _ _ HR.out HS.out]
        · have hs2 : (r.s == s) = false := by simpa using hs
          have HS := Lib.hid hs
          clear hs
          go_wp2_with fail
          go_roundw
          case rel => exact ⟨k + 1, by omega, by go_num, by rw [hf.out, findR_skip _ _ _ _ HR.out HS.out]; rfl, (by first | rfl | exact True.intro)⟩
          case measure => simp [intOf]; omega
      · have hke : k = x.l.length := by omega
        have HKE := Lib.hid hke
        clear hke
        go_wp2_with fail
        go_ret
        refine ⟨ret_int ?_, rfl⟩
        rw [hf.out, HKE.out, List.drop_length]
        rfl

theorem ones2 (a b : Value) (ha : a.oneCell' = true) (hb : b.oneCell' = true) : ∀ u ∈ [a, b], u.oneCell' = true := by
  intro u hu
  simp at hu
  rcases hu with rfl | rfl <;> assumption
theorem infoRN : (Try.prog.info? 92).map (fun i => (i.zero, i.size, i.bytes)) = some (some (.agg #[.string ⟨#[]⟩, .int .i64 0]), 2, 24) := by kernel_rfl
/-- Names but one. -/
def outR (l : List RName) (s : Nm) : List RName := l.filter (fun x => !(x.s == s))
theorem outR_next (l : List RName) (k : Nat) (s : Nm) (r : RName) (h : l[k]? = some r) : outR (l.take (k + 1)) s = outR (l.take k) s ++ (if r.s = s then [] else [r]) := by
  rw [take_next h]
  unfold outR
  rw [List.filter_append]
  by_cases e : r.s = s <;> simp [e]
/-- A new row of names: how it grows. -/
structure OutIs (w wr : World) (l : List RName) (s : Nm) (k : Nat) (a : Option Addr) (c : Nat) : Prop where
  row : Row wr 92 2 a (outR (l.take k) s).length c ((outR (l.take k) s).flatMap encRN)
  upd : Upd w wr (fun _ => False)
  fresh : ∀ g, blockOf a = some g → w.heap.size ≤ g
theorem flat_snoc {α : Type} (enc : α → List Value) (l : List α) (x : α) : (l ++ [x]).flatMap enc = l.flatMap enc ++ enc x := by simp
theorem OutIs.add {w wr w2 : World} {l : List RName} {s : Nm} {k : Nat} {a a' : Option Addr} {c c' : Nat} {r : RName} {o : Obj} (h : OutIs w wr l s k a c) (hr : l[k]? = some r) (hs : r.s ≠ s)
    (hrow : Row w2 92 2 a' ((outR (l.take k) s).length + 1) c' ((outR (l.take k) s).flatMap encRN ++ [.string ⟨r.s.toArray⟩, .int .i64 r.f])) (hu : Upd (wr.alloc o) w2 (fun g => blockOf a = some g))
    (hor : (a' = a ∧ (a = none → 1 = 0)) ∨ (a' = some ⟨(wr.alloc o).heap.size, 0, none⟩ ∧ w2.heap.size = (wr.alloc o).heap.size + 1)) : OutIs w w2 l s (k + 1) a' c' := by
  have e := outR_next l k s r hr
  rw [if_neg hs] at e
  have hsz := h.upd.size
  refine ⟨?_, ?_, ?_⟩
  · rw [e, flat_snoc, List.length_append]
    exact hrow
  · exact (h.upd.alloc o).trans hu (fun g hg hf => by have := h.fresh g hf; omega)
  · intro g hg
    rcases hor with ⟨rfl, _⟩ | ⟨rfl, _⟩
    · exact h.fresh g hg
    · simp [blockOf] at hg
      omega
theorem OutIs.skip {w wr : World} {l : List RName} {s : Nm} {k : Nat} {a : Option Addr} {c : Nat} {r : RName} (h : OutIs w wr l s k a c) (hr : l[k]? = some r) (hs : r.s = s) : OutIs w wr l s (k + 1) a c := by
  have e := outR_next l k s r hr
  rw [if_pos hs, List.append_nil] at e
  exact ⟨by rw [e]; exact h.row, h.upd, h.fresh⟩
theorem outR_len (l : List RName) (s : Nm) : (outR l s).length ≤ l.length := List.length_filter_le _ _

set_option maxHeartbeats 400000 in
theorem without_calls {Fs : Nat → Prop} {n : Nat} {x : RNames} {w : World} (h : NmOk w Fs n x) (s : Nm) (hb : x.l.length < Big) (hF : ∀ k, Fs k → k < w.heap.size) :
    Calls Try.prog 50 #[x.v, .string ⟨s.toArray⟩] w fun e w' => ∃ a c, e = .returned (.slice a (outR x.l s).length c) ∧ Row w' 92 2 a (outR x.l s).length c ((outR x.l s).flatMap encRN) ∧ Upd w w' (fun _ => False) ∧ ∀ g, blockOf a = some g → w.heap.size ≤ g := by
  unfold RNames.v
  rcases h.row.2 with ⟨ha, hz, hc⟩ | ⟨g, cur, ha, _⟩
  · rw [ha, hz, hc]
    have hx : x.l = [] := List.eq_nil_of_length_eq_zero hz
    rw [hx]
    clear ha hz hc hx h
    go_enter Try.func50, Try.ntmps50
    go_wp2_with fail
    go_loopw [5, 6] (fun v i wr => v = .slice none 0 0 ∧ i = .int .i64 0 ∧ w = wr) (fun _ _ _ => 0)
    case atStart => exact ⟨rfl, rfl, rfl⟩
    case round =>
      obtain ⟨rfl, rfl, rfl⟩ := hrel
      go_wp2_with fail
      go_ret
      exact ⟨none, 0, rfl, Row.nil _ _ _, Upd.refl _ _, fun g hg => nomatch hg⟩
  · rw [ha]
    have hb2 : x.l.length ≤ 1099511627776 := by unfold Big at hb; omega
    obtain ⟨i0, hi0, hz0, hz1, hz2⟩ := info_parts infoRN
    have H := Lib.hid h
    have HA := Lib.hid ha
    have HI := Lib.hid hi0
    have Z0 := Lib.hid hz0
    have Z1 := Lib.hid hz1
    have Z2 := Lib.hid hz2
    have HB := Lib.hid hb
    clear h ha hi0 hz0 hz1 hz2 hb
    go_enter Try.func50, Try.ntmps50
    go_wp2_with fail
    go_loopw [5, 6] (fun v i wr => ∃ (k : Nat) (a : Option Addr) (c m : Nat), k ≤ x.l.length ∧ i = .int .i64 k ∧ v = .slice a m c ∧ Hid (m = (outR (x.l.take k) s).length) ∧ OutIs w wr x.l s k a c) (fun _ i _ => x.l.length - (intOf i).toNat)
    case atStart => exact ⟨0, none, 0, 0, Nat.zero_le _, rfl, rfl, rfl, ⟨Row.nil _ _ _, Upd.refl _ _, fun g hg => nomatch hg⟩⟩
    case round =>
      obtain ⟨k, a, c, m, hk, rfl, rfl, hm, ho⟩ := hrel
      have HRW := Lib.hid ho
      clear ho
      by_cases hlt : k < x.l.length
      · obtain ⟨g', r, hg, hr, q0, q1⟩ := (H.out.upd (HRW.out.upd.mono (F' := fun _ => False) (fun _ _ h => h)) (fun _ h => h.elim)).at_ hlt
        have hgg : g' = g := by have := hg.symm.trans HA.out; cases this; rfl
        subst hgg
        have HR := Lib.hid hr
        have HBD := Lib.hid (show (outR (x.l.take k) s).length + 1 ≤ Big by
          have h1 := outR_len (x.l.take k) s
          have h2 := List.length_take_le' k x.l
          have h3 := HB.out
          omega)
        clear hr hg
        by_cases hs : r.s = s
        · have hs2 : (r.s == s) = true := by simpa using hs
          have HS := Lib.hid hs
          clear hs
          go_wp2_with fail
          go_roundw
          case rel => exact ⟨k + 1, a, c, m, by omega, by go_num, rfl, by rw [hm.out, outR_next _ _ _ _ HR.out, if_pos HS.out, List.append_nil]; rfl, HRW.out.skip HR.out HS.out⟩
          case measure => simp [intOf]; omega
        · have hs2 : (r.s == s) = false := by simpa using hs
          have HS := Lib.hid hs
          clear hs
          have hm' := hm.out
          subst hm'
          go_wp2_with (first
        | (at_builtin; refine wpList_append_row rfl _ _ 32 rfl 92 i0 _ 2 24 Try.underlying32 HI.out Z0.out Z1.out Z2.out rfl (by decide) _ _ _ _ rfl (HRW.out.row.upd ((Upd.refl _ (fun _ => False)).alloc _) (fun _ _ h => h)) _ 1 1 _ rfl (Rd.new _ 2 1 _ _ rfl) (by exact ones2 _ _ rfl rfl) HBD.out (by decide) ?_; intro a' cap' w2 hrow hupd hor; have HROW := Lib.hid hrow; have HUPD := Lib.hid hupd; have HOR := Lib.hid hor; clear hrow hupd hor)
        | go_in)
          go_roundw
          case rel => exact ⟨k + 1, a', cap', _, by omega, by go_num, rfl, by rw [outR_next _ _ _ _ HR.out, if_neg HS.out, List.length_append]; rfl, HRW.out.add HR.out HS.out HROW.out HUPD.out HOR.out⟩
          case measure => simp [intOf]; omega
      · have hke : k = x.l.length := by omega
        have HKE := Lib.hid hke
        clear hke
        go_wp2_with fail
        go_ret
        have hr := HRW.out.row
        rw [hm.out, HKE.out, List.take_length]
        rw [HKE.out, List.take_length] at hr
        exact ⟨a, c, rfl, hr, HRW.out.upd, HRW.out.fresh⟩

set_option maxHeartbeats 400000 in
theorem with_calls {Fs : Nat → Prop} {n : Nat} {x : RNames} {w : World} (h : NmOk w Fs n x) (s : Nm) (f : Int) (hb : x.l.length < Big) (hF : ∀ k, Fs k → k < w.heap.size) :
    Calls Try.prog 47 #[x.v, .string ⟨s.toArray⟩, .int .i64 f] w fun e w' => ∃ a c, e = .returned (.slice a ((outR x.l s).length + 1) c) ∧ Row w' 92 2 a ((outR x.l s).length + 1) c ((outR x.l s ++ [(⟨s, f⟩ : RName)]).flatMap encRN) ∧ Upd w w' (fun _ => False) ∧ ∀ g, blockOf a = some g → w.heap.size ≤ g := by
  obtain ⟨i0, hi0, hz0, hz1, hz2⟩ := info_parts infoRN
  have HI := Lib.hid hi0
  have Z0 := Lib.hid hz0
  have Z1 := Lib.hid hz1
  have Z2 := Lib.hid hz2
  have HBD := Lib.hid (show (outR x.l s).length + 1 ≤ Big by have h1 := outR_len x.l s; omega)
  clear hi0 hz0 hz1 hz2
  go_enter Try.func47, Try.ntmps47
  go_wp2_with (first
        | (go_at_call 50; refine (without_calls h s hb hF).mono ?_; rintro e w1 ⟨a1, c1, rfl, hrow1, hu1, hf1⟩; have HRW1 := Lib.hid hrow1; have HF1 := Lib.hid hf1; clear hrow1)
        | (at_builtin; refine wpList_append_row rfl _ _ 32 rfl 92 i0 _ 2 24 Try.underlying32 HI.out Z0.out Z1.out Z2.out rfl (by decide) _ _ _ _ rfl (HRW1.out.upd ((Upd.refl _ (fun _ => False)).alloc _) (fun _ _ h => h)) _ 1 1 _ rfl (Rd.new _ 2 1 _ _ rfl) (by exact ones2 _ _ rfl rfl) HBD.out (by decide) ?_; intro a' cap' w2 hrow hupd hor; have HROW := Lib.hid hrow; have HUPD := Lib.hid hupd; have HOR := Lib.hid hor; clear hrow hupd hor)
        | go_in)
  go_ret
  refine ⟨a', cap', rfl, ?_, ?_, ?_⟩
  · exact HROW.out
  · exact (hu1.alloc _).trans HUPD.out (fun g hg hf => by have := HF1.out g hf; omega)
  · intro g hg
    rcases HOR.out with ⟨rfl, _⟩ | ⟨rfl, _⟩
    · exact HF1.out g hg
    · have := hu1.size
      simp [blockOf] at hg
      omega
end Go.Proofs.Ytpmbeeddciepjaa
