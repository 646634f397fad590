/- ShelfSafe: the walk. -/
import Derived.Test.YtpmbeeddciepjaaSc
import Derived.Test.YtpmbeeddciepjaaRl
namespace Go.Proofs.Ytpmbeeddciepjaa
open Go.RowKit Go.Maps Go.Sort
set_option linter.unusedSimpArgs false
set_option linter.unusedVariables false
def encAct (x : LAct) : List Value := [.int .u8 x.k, .int .u8 x.a, .int .u8 x.b, .int .i64 x.n, .slice x.pa x.p.length x.pc]
structure ActOk0 (w : World) (x : LAct) : Prop where
  k : x.k < 256
  a : x.a < 256
  b : x.b < 256
  n1 : -9223372036854775808 ≤ x.n
  n2 : x.n ≤ 9223372036854775807
  p : Rd w 1 x.pa x.p.length (encB x.p)
  pl : x.p.length ≤ maxLen
/-- What the arguments are: a slice of acts can be read. -/
structure ActsOk (w : World) (aa : Option Addr) (xs : List LAct) : Prop where
  cells : ∀ (k : Nat) (x : LAct), xs[k]? = some x → ∃ ab ao, aa = some ⟨ab, ao, none⟩ ∧ ab < w.heap.size ∧ ∀ (j : Nat) (v : Value), (encAct x)[j]? = some v → w.cell? ⟨ab, ao + k * 5 + j, none⟩ = some v
  ok : ∀ x ∈ xs, ActOk0 w x
  len : xs.length ≤ maxLen
theorem Rd.block_or {w : World} {a : Option Addr} {p : List UInt8} (h : Rd w 1 a p.length (encB p)) : p = [] ∨ ∀ g, blockOf a = some g → g < w.heap.size := by
  match p with
  | [] => exact .inl rfl
  | b :: r =>
    obtain ⟨ad, h1, h2, h3⟩ := h.2 0 (.int .u8 b.toNat) rfl
    refine .inr (fun g hg => ?_)
    rw [h1] at hg
    simp [blockOf] at hg
    omega
structure LInv (w : World) (b bx : Nat) (Q : Sh → Prop) (wl : World) (k : Nat) (G : Gh) (S : Sh) (X : RSh) : Prop where
  i : IsShelf wl G S
  sb : G.sb = b
  q : Q S
  small : Small2 S (k + 1)
  ref : RefOk wl (fun q => G.own q ∨ q = bx) (k + 1) X
  box : wl.heap[bx]? = some (.cells #[.slice X.la X.L.length X.lc, .slice X.now.a X.now.l.length X.now.c, .slice X.wa X.was.length X.wc, .int .i64 X.room, .int .i64 X.left, .bool X.off, .int .i64 X.done] 35 (0, 0))
  upd : Upd w wl (fun _ => False)
  own : ∀ q, G.own q → w.heap.size ≤ q ∧ q ≠ bx
  bx : w.heap.size ≤ bx
theorem LInv.skip {w wl : World} {b bx k : Nat} {Q : Sh → Prop} {G : Gh} {S : Sh} {X : RSh} (h : LInv w b bx Q wl k G S X) : LInv w b bx Q wl (k + 1) G S X :=
  { h with small := h.small.up, ref := h.ref.more (Nat.le_succ _) }
theorem LInv.upd0 {w wl w8 : World} {b bx k : Nat} {Q : Sh → Prop} {G : Gh} {S : Sh} {X : RSh} (h : LInv w b bx Q wl k G S X) (hu : Upd wl w8 (fun _ => False)) : LInv w b bx Q w8 k G S X :=
  { h with i := h.i.upd hu (fun _ _ h => h), ref := h.ref.upd hu (fun _ h => h.elim), box := hu.heap h.box (fun h => h), upd := h.upd.trans hu (fun _ _ h => h) }
theorem LInv.step {w wl w9 w10 : World} {b bx k : Nat} {Q : Sh → Prop} {G G' : Gh} {S : Sh} {X X' : RSh} {x : LAct} (h : LInv w b bx Q wl k G S X) (hq : Q (doS S x)) (hx : x.p.length ≤ 60) (h1 : IsShelf w9 G' (doS S x)) (h2 : G'.sb = G.sb)
    (h3 : RefOk w9 (fun q => G'.own q ∨ q = bx) (k + 1 + 1) X') (h4 : Upd wl w9 G.own) (h5 : ∀ q, G'.own q → G.own q ∨ wl.heap.size ≤ q) (h6 : Upd w9 w10 (fun q => q = bx))
    (h7 : w10.heap[bx]? = some (.cells #[.slice X'.la X'.L.length X'.lc, .slice X'.now.a X'.now.l.length X'.now.c, .slice X'.wa X'.was.length X'.wc, .int .i64 X'.room, .int .i64 X'.left, .bool X'.off, .int .i64 X'.done] 35 (0, 0))) : LInv w b bx Q w10 (k + 1) G' (doS S x) X' := by
  have hbx := lt_of_heap h.box
  have ho : ∀ q, G'.own q → w.heap.size ≤ q ∧ q ≠ bx := fun q hq => by
    rcases h5 q hq with h8 | h8
    · exact h.own q h8
    · have := h.upd.size
      omega
  exact {
    i := h1.upd h6 (fun q hq => (ho q hq).2)
    sb := h2.trans h.sb
    q := hq
    small := h.small.do_ x hx
    ref := h3.upd h6 (fun q hq => .inr hq)
    box := h7
    upd := ((h.upd.mono (F' := fun q => w.heap.size ≤ q) (fun _ _ h => h.elim)).trans h4 (fun q _ hq => (h.own q hq).1)).trans h6 (fun q hq e => by have := h.bx; omega) |>.mono (fun q hq e => by omega)
    own := ho
    bx := h.bx }
theorem box_set7 {bx : Nat} {X X1 : RSh} {wr : World} (h : wr.heap[bx]? = some (.cells #[.slice X.la X.L.length X.lc, .slice X.now.a X.now.l.length X.now.c, .slice X.wa X.was.length X.wc, .int .i64 X.room, .int .i64 X.left, .bool X.off, .int .i64 X.done] 35 (0, 0))) : Upd wr (wr.setCells bx 0 [.slice X1.la X1.L.length X1.lc, .slice X1.now.a X1.now.l.length X1.now.c, .slice X1.wa X1.was.length X1.wc, .int .i64 X1.room, .int .i64 X1.left, .bool X1.off, .int .i64 X1.done]) (fun k => k = bx) ∧ (wr.setCells bx 0 [.slice X1.la X1.L.length X1.lc, .slice X1.now.a X1.now.l.length X1.now.c, .slice X1.wa X1.was.length X1.wc, .int .i64 X1.room, .int .i64 X1.left, .bool X1.off, .int .i64 X1.done]).heap[bx]? = some (.cells #[.slice X1.la X1.L.length X1.lc, .slice X1.now.a X1.now.l.length X1.now.c, .slice X1.wa X1.was.length X1.wc, .int .i64 X1.room, .int .i64 X1.left, .bool X1.off, .int .i64 X1.done] 35 (0, 0)) :=
  ⟨Upd.cells (F := fun k => k = bx) rfl _ 0 _ (Upd.refl _ _), (heap_setCells _ 0 wr _ h).trans (by simp [putAll])⟩
theorem safe_out {w : World} {p : List UInt8} {pa : Option Addr} (pc : Nat) {aa : Option Addr} {n : Nat} (ac : Nat) (names bytes : Int) (h : 100 < p.length ∨ 40 < n) :
    Calls Try.prog 3 #[.slice pa p.length pc, .slice aa n ac, .int .i64 names, .int .i64 bytes] w fun e w' => e = .returned (.bool true) ∧ Upd w w' (fun _ => False) := by
  have hu1 : Upd w w (fun _ => False) := Upd.refl _ _
  by_cases h1 : (100 : Int) < (p.length : Int)
  · go_enter Try.func3, Try.ntmps3
    go_wp2_with (first
        | (go_at_call 5; refine (awake_calls _).mono ?_; rintro e wa ⟨rfl, hua⟩; have hu2 := hu1.trans hua (fun _ _ h => h); clear hu1 hua; have hu1 := hu2; clear hu2)
        | go_in)
    go_ret
    exact ⟨rfl, hu1⟩
  · have h2 : (40 : Int) < (n : Int) := by omega
    clear h
    go_enter Try.func3, Try.ntmps3
    go_wp2_with (first
        | (go_at_call 5; refine (awake_calls _).mono ?_; rintro e wa ⟨rfl, hua⟩; have hu2 := hu1.trans hua (fun _ _ h => h); clear hu1 hua; have hu1 := hu2; clear hu2)
        | go_in)
    go_ret
    exact ⟨rfl, hu1⟩
theorem z_sm1 : SmallS { fs := [⟨[], 0⟩], now := [(Zz, 0)], old := [], moves := [⟨Zz, some 0, []⟩], room := 1048576, left := -1, off := false, done := 1 } 9 := ⟨by decide, by decide, by decide, by decide, fun i f hf => by
  have hm := List.mem_of_getElem? hf
  simp at hm
  subst hm
  simp, by show (0 : Int) ≤ 1048576; omega, by show (1048576 : Int) ≤ _; omega⟩
theorem LInv.begin {w wr : World} {b : Nat} {Q : Sh → Prop} {G : Gh} {S : Sh} {X : RSh} (hq : Q S) (hs : Small2 S 1) (hi : IsShelf wr G S) (hsb : G.sb = b) (hr : RefOk wr G.own 1 X) (hu : Upd w wr (fun _ => False)) (ho : ∀ k, G.own k → w.heap.size ≤ k) :
    LInv w b wr.heap.size Q (wr.alloc (.cells #[.slice X.la X.L.length X.lc, .slice X.now.a X.now.l.length X.now.c, .slice X.wa X.was.length X.wc, .int .i64 X.room, .int .i64 X.left, .bool X.off, .int .i64 X.done] 35)) 0 G S X :=
  have ha : Upd wr (wr.alloc (.cells #[.slice X.la X.L.length X.lc, .slice X.now.a X.now.l.length X.now.c, .slice X.wa X.was.length X.wc, .int .i64 X.room, .int .i64 X.left, .bool X.off, .int .i64 X.done] 35)) (fun _ => False) := (Upd.refl _ _).alloc _
  { i := hi.upd ha (fun _ _ h => h)
    sb := hsb
    q := hq
    small := hs
    ref := (hr.grow (Fs' := fun q => G.own q ∨ q = wr.heap.size) (fun k h => h.imp (fun h => h) (fun e => by omega))).upd ha (fun _ h => h.elim)
    box := heap_alloc_new _ _
    upd := hu.trans ha (fun _ _ h => h)
    own := fun q hq => ⟨ho q hq, by have := hi.own_lt hq; omega⟩
    bx := hu.size }
set_option maxHeartbeats 4000000 in
set_option maxRecDepth 100000 in
theorem safe_in {w : World} {p : List UInt8} {pa : Option Addr} (pc : Nat) {aa : Option Addr} {xs : List LAct} (ac : Nat) (names bytes : Int) (hp : Rd w 1 pa p.length (encB p)) (ha : ActsOk w aa xs) (hp1 : p.length ≤ 100) (hn : xs.length ≤ 40) :
    Calls Try.prog 3 #[.slice pa p.length pc, .slice aa xs.length ac, .int .i64 names, .int .i64 bytes] w fun e w' => e = .returned (.bool true) ∧ Upd w w' (fun _ => False) := by
  have hu1 : Upd w w (fun _ => False) := Upd.refl _ _
  have HP := Lib.hid hp
  have HA := Lib.hid ha
  have h1 : ¬ (100 : Int) < (p.length : Int) := by omega
  have h2 : ¬ (40 : Int) < (xs.length : Int) := by omega
  clear hp ha
  go_enter Try.func3, Try.ntmps3
  go_wp2_with (first
        | (go_at_call 5; refine (awake_calls _).mono ?_; rintro e wa ⟨rfl, hua⟩; have hu2 := hu1.trans hua (fun _ _ h => h); clear hu1 hua; have hu1 := hu2; clear hu2)
        | (go_at_call 6; refine (sat_new _ _).mono ?_; rintro e w1 ⟨b, rfl, hsa⟩; have HSA := Lib.hid (hsa.rebase hu1); clear hsa hu1)
        | (go_at_call 7; refine (sat_create HSA.out Zz (by decide) z_create (by unfold Big; decide) (by unfold Big; decide)).mono ?_; rintro e ws ⟨rfl, hsa⟩; clear HSA; have HSA := Lib.hid hsa; clear hsa)
        | (go_at_call 8; refine (sat_append HSA.out (Upd.refl _ _) Zz (by decide) pc (z_append p hp1) (N := 9) (by decide) z_sm1 (HP.out.upd HSA.out.base (fun _ _ _ h => h)) (HP.out.block_or.imp (fun e => e) (fun hh g hg => .inr (hh g hg))) hp1).mono ?_; rintro e ws ⟨rfl, hsa⟩; clear HSA; have HSA := Lib.hid hsa; clear hsa)
        | (go_at_call 9; refine (sat_sync HSA.out Zz (by decide) (z_sync p)).mono ?_; rintro e ws ⟨rfl, hsa⟩; clear HSA; have HSA := Lib.hid hsa; clear hsa)
        | (go_at_call 10; refine (sat_names HSA.out (z_names p)).mono ?_; rintro e ws ⟨rfl, hsa⟩; clear HSA; have HSA := Lib.hid hsa; clear hsa)
        | (go_at_call 11; obtain ⟨G, hi, hsb, hub, hown⟩ := HSA.out; refine (new_ref _ _ G.own (fun k hk => hi.own_lt hk)).mono ?_; rintro e wr ⟨X0, rfl, hr0, hur⟩; rw [RSh.v_rv]; unfold rv; have HR0 := Lib.hid hr0; have HI0 := Lib.hid (hi.upd hur (fun _ _ h => h)); have HSB0 := Lib.hid hsb; have HU0 := Lib.hid (hub.trans hur (fun _ _ h => h)); have HO0 := Lib.hid hown; clear hi hsb hub hown hr0 hur HSA)
        | go_in)
  have hinv := LInv.begin (Q := fun S => SafeZ S p 0) (z_safe p) (z_small p hp1) HI0.out HSB0.out HR0.out HU0.out HO0.out
  generalize wr.alloc (.cells #[.slice X0.la X0.L.length X0.lc, .slice X0.now.a X0.now.l.length X0.now.c, .slice X0.wa X0.was.length X0.wc, .int .i64 X0.room, .int .i64 X0.left, .bool X0.off, .int .i64 X0.done] 35) = w1 at hinv ⊢
  generalize wr.heap.size = bx at hinv ⊢
  clear HI0 HSB0 HR0 HU0 HO0
  go_loopw [11] (fun i wl => ∃ (k : Nat) (G : Gh) (S : Sh) (X : RSh), k ≤ xs.length ∧ i = .int .i64 k ∧ LInv w b bx (fun S => SafeZ S p 0) wl k G S X) (fun i _ => xs.length - (intOf i).toNat)
  case atStart => exact ⟨0, _, _, _, Nat.zero_le _, rfl, hinv⟩
  case round =>
    clear hinv
    obtain ⟨k, G, S, X, hk, rfl, hinv⟩ := hrel
    have HI := Lib.hid hinv
    clear hinv
    by_cases hlt : k < xs.length
    · have hki : (k : Int) < (xs.length : Int) := by omega
      obtain ⟨x, hx⟩ : ∃ x, xs[k]? = some x := ⟨_, List.getElem?_eq_getElem hlt⟩
      obtain ⟨ab, ao, haa, hab, hcells⟩ := HA.out.cells k x hx
      have HX := Lib.hid (HA.out.ok x (List.mem_of_getElem? hx))
      have hwc := fun j v hj => (HI.out.upd.cell (p := ⟨ab, ao + k * 5 + j, none⟩) hab (fun h => h)).trans (hcells j v hj)
      have a0 : wr.cell? ⟨ab, ao + k * 5, none⟩ = some (.int .u8 x.k) := hwc 0 _ rfl
      have a1 : wr.cell? ⟨ab, ao + k * 5 + 1, none⟩ = some (.int .u8 x.a) := hwc 1 _ rfl
      have a2 : wr.cell? ⟨ab, ao + k * 5 + 2, none⟩ = some (.int .u8 x.b) := hwc 2 _ rfl
      have a3 : wr.cell? ⟨ab, ao + k * 5 + 3, none⟩ = some (.int .i64 x.n) := hwc 3 _ rfl
      have a4 : wr.cell? ⟨ab, ao + k * 5 + 4, none⟩ = some (.slice x.pa x.p.length x.pc) := hwc 4 _ rfl
      have hk1 : (0 : Int) ≤ x.k := by omega
      have hk2 : (x.k : Int) ≤ 255 := by have := HX.out.k; omega
      have hkb : wrap64 ((k : Int) + 1) = (k : Int) + 1 := IntWalk.wrap64_in _ (by omega)
      have hm2 : xs.length - (k + 1) < xs.length - k := Nat.sub_lt_sub_left hlt (Nat.lt_succ_self k)
      have HM2 := Lib.hid hm2
      rw [haa]
      clear hx haa hcells hwc hm2
      by_cases h60 : (60 : Int) < (x.p.length : Int)
      · clear hkb
        go_wp2_with fail
        go_ret
        exact ⟨rfl, HI.out.upd⟩
      · by_cases h10 : x.k % 12 = 10
        · have h10i : (x.k : Int) % 12 = 10 := by omega
          go_wp2_with fail
          clear hkb
          exact ⟨⟨k + 1, G, S, X, hlt, rfl, HI.out.skip⟩, by simpa [intOf] using HM2.out⟩
        · have h10i : ((x.k : Int) % 12 == 10) = false := by simp; omega
          have H10 := Lib.hid h10
          have H60 := Lib.hid (show x.p.length ≤ 60 by omega)
          clear h10
          go_wp2_with fail
          have HK := Lib.hid hkb
          have HK40 := Lib.hid (show k < 40 by omega)
          clear hkb
          have hi8 := HI.out.upd0 (Upd.drew (Upd.refl wr (fun _ => False)))
          have H8 := Lib.hid hi8
          obtain ⟨⟨x0, x1, x2, x3, x4, x5, x6⟩, g0, g1, g2, g3, g4, g5, g6⟩ := box7 HI.out.box
          clear hi8
          have hact : ActOk wr.drew x := ⟨HX.out.k, HX.out.a, HX.out.b, HX.out.n1, HX.out.n2, HX.out.p.upd H8.out.upd (fun _ _ _ h => h), H60.out⟩
          have hc := do_calls (x := x) (E := fun q => q = bx) H8.out.i H8.out.small.s (fun q e => by have := lt_of_heap H8.out.box; omega) H8.out.ref hact (HX.out.p.block_or.imp (fun e => e) (fun hh g hg ho => by have h1 := hh g hg; have h2 := (H8.out.own g ho).1; omega)) (by have := HK40.out; omega) H10.out
          rw [H8.out.sb, RSh.v_rv] at hc
          unfold rv LAct.v at hc
          have HC := Lib.hid hc
          clear hc hact
          go_region_with (go_at_call 12; refine HC.out.mono ?_; rintro e w9 ⟨X1, bb, G1, rfl, hi9, hsb9, hr9, hu9, ho9⟩; rw [RSh.v_rv]; unfold rv; have HB9 := Lib.hid (hu9.heap H8.out.box (fun hq => (H8.out.own _ hq).2 rfl)); have HI9 := Lib.hid hi9; have HS9 := Lib.hid hsb9; have HR9 := Lib.hid hr9; have HU9 := Lib.hid hu9; have HO9 := Lib.hid ho9; clear hi9 hsb9 hr9 hu9 ho9 x0 x1 x2 x3 x4 x5 x6 g0 g1 g2 g3 g4 g5 g6 a0 a1 a2 a3 a4; obtain ⟨⟨x0, x1, x2, x3, x4, x5, x6⟩, g0, g1, g2, g3, g4, g5, g6⟩ := box7 HB9.out)
          all_goals
            have hkb := HK.out
            go_wp2_with fail
            clear hkb
            have h7 := box_set7 (X1 := X1) HB9.out
            exact ⟨⟨k + 1, G1, doS S x, X1, hlt, rfl, H8.out.step (H8.out.q.do_ x) H60.out HI9.out HS9.out HR9.out HU9.out HO9.out h7.1 h7.2⟩, by simpa [intOf] using HM2.out⟩
    · obtain rfl : k = xs.length := by omega
      have hsa : SAt w b S wr := ⟨G, HI.out.i, HI.out.sb, HI.out.upd, fun q hq => (HI.out.own q hq).1⟩
      have HSA := Lib.hid hsa
      have HSM := Lib.hid (show S.old.length + S.moves.length < Big by have := HI.out.small.om; unfold Big; omega)
      clear hsa
      go_wp2_with (first
        | (go_at_call 13; refine (sat_fall HSA.out names bytes rfl HSM.out).mono ?_; rintro e ws ⟨rfl, hsa⟩; clear HSA; have HSA := Lib.hid hsa; clear hsa)
        | (go_at_call 14; refine (sat_read HSA.out Zz (by decide) (z_read HI.out.q names bytes)).mono ?_; rintro e wz ⟨a, kc2, rfl, hrow, huz⟩; have huu := HSA.out.base.trans huz (fun _ _ h => h); have hcv : (convert 22 9 (.slice a p.length kc2)).run Try.prog wz = .ok (.string ⟨p.toArray⟩) wz := Rd.str kc2 hrow.rd; have hcp : (convert 22 9 (.slice pa p.length pc)).run Try.prog wz = .ok (.string ⟨p.toArray⟩) wz := Rd.str pc (HP.out.upd huu (fun _ _ _ h => h)); have HUZ := Lib.hid huu; clear hrow huz huu)
        | go_in)
      go_ret
      exact ⟨rfl, HUZ.out⟩
theorem safe_calls {w : World} {p : List UInt8} {pa : Option Addr} (pc : Nat) {aa : Option Addr} {xs : List LAct} (ac : Nat) (names bytes : Int) (hp : Rd w 1 pa p.length (encB p)) (ha : ActsOk w aa xs) :
    Calls Try.prog 3 #[.slice pa p.length pc, .slice aa xs.length ac, .int .i64 names, .int .i64 bytes] w fun e w' => e = .returned (.bool true) ∧ Upd w w' (fun _ => False) := by
  by_cases h : 100 < p.length ∨ 40 < xs.length
  · exact safe_out pc ac names bytes h
  · exact safe_in pc ac names bytes hp ha (by omega) (by omega)
end Go.Proofs.Ytpmbeeddciepjaa
