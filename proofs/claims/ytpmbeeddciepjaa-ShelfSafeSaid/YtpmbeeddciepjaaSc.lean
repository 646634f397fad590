/- The document's example. -/
import Derived.Test.YtpmbeeddciepjaaSb
import Derived.Lib.SlBytesConst
import Derived.Lib.BufferRead
namespace Go.Proofs.Ytpmbeeddciepjaa
open Go.RowKit Go.Maps Go.Sort
set_option linter.unusedSimpArgs false
set_option linter.unusedVariables false
/-- A shelf that the call at hand has made lies at b: it is as S says. -/
def SAt (w0 : World) (b : Nat) (S : Sh) (w : World) : Prop := ∃ G : Gh, IsShelf w G S ∧ G.sb = b ∧ Upd w0 w (fun _ => False) ∧ ∀ k, G.own k → w0.heap.size ≤ k
theorem SAt.upd {w0 w w' : World} {b : Nat} {S : Sh} (h : SAt w0 b S w) (hu : Upd w w' (fun _ => False)) : SAt w0 b S w' := by
  obtain ⟨G, h1, h2, h3, h4⟩ := h
  exact ⟨G, h1.upd hu (fun _ _ h => h), h2, h3.trans hu (fun _ _ h => h), h4⟩
theorem SAt.rebase {w0 w1 w : World} {b : Nat} {S : Sh} (h : SAt w1 b S w) (hu : Upd w0 w1 (fun _ => False)) : SAt w0 b S w := by
  obtain ⟨G, h1, h2, h3, h4⟩ := h
  exact ⟨G, h1, h2, hu.trans h3 (fun _ _ h => h), fun k hk => Nat.le_trans hu.size (h4 k hk)⟩
theorem SAt.base {w0 w : World} {b : Nat} {S : Sh} (h : SAt w0 b S w) : Upd w0 w (fun _ => False) := by
  obtain ⟨G, h1, h2, h3, h4⟩ := h
  exact h3
theorem SAt.after {w0 w w' : World} {b : Nat} {S' : Sh} {G : Gh} (h2 : G.sb = b) (h3 : Upd w0 w (fun _ => False)) (h4 : ∀ k, G.own k → w0.heap.size ≤ k) (h : After w w' G S') : SAt w0 b S' w' := by
  obtain ⟨G', i, e, u, o⟩ := h
  refine ⟨G', i, e.trans h2, (h3.mono (F' := fun k => w0.heap.size ≤ k) (fun _ _ h => h.elim)).trans u (fun k _ hk => h4 k hk) |>.mono (fun k hk h => by omega), fun k hk => ?_⟩
  rcases o k hk with h | h
  · exact h4 k h
  · have := h3.size
    omega
theorem sat_new (room : Int) (w : World) : Calls Try.prog 6 #[.int .i64 room] w fun e w' => ∃ b, e = .returned (.pointer (some ⟨b, 0, none⟩)) ∧ SAt w b (Sh.new room) w' := by
  refine (new_calls room w).mono ?_
  rintro e w' ⟨G, rfl, h1, h2, h3⟩
  exact ⟨G.sb, rfl, G, h1, rfl, h2, h3⟩
section
variable {w0 w : World} {b : Nat} {S S' : Sh} {c : Int}
theorem sat_create (h : SAt w0 b S w) (s : Nm) (hs : s.length ≤ 3) (hr : S.create s = (S', c)) (hm : S.moves.length < Big) (hn : S.now.length < Big) :
    Calls Try.prog 7 #[.pointer (some ⟨b, 0, none⟩), .string ⟨s.toArray⟩] w fun e w' => e = .returned (.int .i64 c) ∧ SAt w0 b S' w' := by
  obtain ⟨G, h1, rfl, h3, h4⟩ := h
  refine (create_calls h1 ⟨s.toArray⟩ (nm_size s hs) hm hn).mono ?_
  have h : S.create (⟨s.toArray⟩ : ByteArray).data.toList = (S', c) := hr
  rw [h]
  rintro e w' ⟨he, ha⟩
  exact ⟨he, SAt.after rfl h3 h4 ha⟩
theorem sat_append (h : SAt w0 b S w) {w1 : World} (hu : Upd w w1 (fun _ => False)) (s : Nm) (hs : s.length ≤ 3) {p : List UInt8} {pa : Option Addr} (pc : Nat) (hr : S.append s p = (S', c)) {N : Nat} (hN : N < 100) (hS : SmallS S N) (hp : Rd w1 1 pa p.length (encB p)) (hpn : p = [] ∨ ∀ g, blockOf pa = some g → w.heap.size ≤ g ∨ g < w0.heap.size) (hpl : p.length ≤ 100) :
    Calls Try.prog 8 #[.pointer (some ⟨b, 0, none⟩), .string ⟨s.toArray⟩, .slice pa p.length pc] w1 fun e w' => e = .returned (.int .i64 c) ∧ SAt w0 b S' w' := by
  obtain ⟨G, h1, rfl, h3, h4⟩ := h
  refine (append_law (h1.upd hu (fun _ _ h => h)) s hs hN hS pc hp ?_ hpl).mono ?_
  · rcases hpn with e | hh
    · exact .inl e
    · refine .inr (fun g hg ho => ?_)
      have i1 := h1.own_lt ho
      have i2 := h4 g ho
      rcases hh g hg with h | h <;> omega
  · rw [hr]
    rintro e w' ⟨he, ha⟩
    exact ⟨he, SAt.after rfl (h3.trans hu (fun _ _ h => h)) h4 ha⟩
theorem sat_sync (h : SAt w0 b S w) (s : Nm) (hs : s.length ≤ 3) (hr : S.sync s = (S', c)) :
    Calls Try.prog 9 #[.pointer (some ⟨b, 0, none⟩), .string ⟨s.toArray⟩] w fun e w' => e = .returned (.int .i64 c) ∧ SAt w0 b S' w' := by
  obtain ⟨G, h1, rfl, h3, h4⟩ := h
  refine (sync_law h1 s hs).mono ?_
  rw [hr]
  rintro e w' ⟨he, ha⟩
  exact ⟨he, SAt.after rfl h3 h4 ha⟩
theorem sat_names (h : SAt w0 b S w) (hr : S.names = (S', c)) :
    Calls Try.prog 10 #[.pointer (some ⟨b, 0, none⟩)] w fun e w' => e = .returned (.int .i64 c) ∧ SAt w0 b S' w' := by
  obtain ⟨G, h1, rfl, h3, h4⟩ := h
  refine (names_calls h1).mono ?_
  rw [hr]
  rintro e w' ⟨he, ha⟩
  exact ⟨he, SAt.after rfl h3 h4 ha⟩
theorem sat_fall (h : SAt w0 b S w) (names bytes : Int) (hr : S.fall names bytes = S') (hm : S.old.length + S.moves.length < Big) :
    Calls Try.prog 13 #[.pointer (some ⟨b, 0, none⟩), .int .i64 names, .int .i64 bytes] w fun e w' => e = .returned (.tuple #[]) ∧ SAt w0 b S' w' := by
  obtain ⟨G, h1, rfl, h3, h4⟩ := h
  refine (fall_calls h1 names bytes hm).mono ?_
  rw [hr]
  rintro e w' ⟨he, ha⟩
  exact ⟨he, SAt.after rfl h3 h4 ha⟩
theorem sat_list (h : SAt w0 b S w) (hm : S.now.length ≤ Big) : Calls Try.prog 16 #[.pointer (some ⟨b, 0, none⟩)] w (ListP w S) := by
  obtain ⟨G, h1, rfl, h3, h4⟩ := h
  exact list_calls h1 hm
theorem sat_read (h : SAt w0 b S w) (s : Nm) (hs : s.length ≤ 3) {q : List UInt8} (hr : S.read s = (q, c)) :
    Calls Try.prog 14 #[.pointer (some ⟨b, 0, none⟩), .string ⟨s.toArray⟩] w fun e w' => ∃ a k, e = .returned (.tuple #[.slice a q.length k, .int .i64 c]) ∧ Row w' 5 1 a q.length k (encB q) ∧ Upd w w' (fun _ => False) := by
  obtain ⟨G, h1, rfl, h3, h4⟩ := h
  refine (read_calls h1 ⟨s.toArray⟩ (nm_size s hs)).mono ?_
  have h : S.read (⟨s.toArray⟩ : ByteArray).data.toList = (q, c) := hr
  rw [h]
  rintro e w' ⟨a, k, he, h5, h6, h7⟩
  exact ⟨a, k, he, h5, h6⟩
end
theorem ok_a : Sh.nameOk [97] = true := by decide
theorem ok_b : Sh.nameOk [98] = true := by decide
theorem aw1 : (Sh.new 100).create [97] = (({ fs := [⟨[], 0⟩], now := [([97], 0)], old := [], moves := [⟨[97], some 0, []⟩], room := 100, left := -1, off := false, done := wrap64 (0 + 1) } : Sh), 0) := by
  unfold Sh.create
  rw [ok_a, act_on _ rfl rfl]
  rfl
theorem aw2 : ({ fs := [⟨[], 0⟩], now := [([97], 0)], old := [], moves := [⟨[97], some 0, []⟩], room := 100, left := -1, off := false, done := wrap64 (0 + 1) } : Sh).append [97] [120, 121] = (({ fs := [⟨[120, 121], 0⟩], now := [([97], 0)], old := [], moves := [⟨[97], some 0, []⟩], room := 100, left := -1, off := false, done := wrap64 (wrap64 (0 + 1) + 1) } : Sh), 0) := by
  unfold Sh.append
  rw [act_on _ rfl rfl]
  rfl
theorem aw3 : ({ fs := [⟨[120, 121], 0⟩], now := [([97], 0)], old := [], moves := [⟨[97], some 0, []⟩], room := 100, left := -1, off := false, done := wrap64 (wrap64 (0 + 1) + 1) } : Sh).sync [97] = (({ fs := [⟨[120, 121], 2⟩], now := [([97], 0)], old := [], moves := [⟨[97], some 0, []⟩], room := 100, left := -1, off := false, done := wrap64 (wrap64 (wrap64 (0 + 1) + 1) + 1) } : Sh), 0) := by
  unfold Sh.sync
  rw [act_on _ rfl rfl]
  rfl
theorem aw4 : ({ fs := [⟨[120, 121], 2⟩], now := [([97], 0)], old := [], moves := [⟨[97], some 0, []⟩], room := 100, left := -1, off := false, done := wrap64 (wrap64 (wrap64 (0 + 1) + 1) + 1) } : Sh).fall 0 0 = ({ fs := [⟨[120, 121], 2⟩], now := [], old := [], moves := [], room := 100, left := -1, off := false, done := wrap64 (wrap64 (wrap64 (0 + 1) + 1) + 1) } : Sh) := rfl
theorem bw1 : ({ fs := [⟨[120, 121], 2⟩], now := [], old := [], moves := [], room := 100, left := -1, off := false, done := wrap64 (wrap64 (wrap64 (0 + 1) + 1) + 1) } : Sh).create [98] = (({ fs := [⟨[120, 121], 2⟩, ⟨[], 0⟩], now := [([98], 1)], old := [], moves := [⟨[98], some 1, []⟩], room := 100, left := -1, off := false, done := wrap64 (wrap64 (wrap64 (wrap64 (0 + 1) + 1) + 1) + 1) } : Sh), 0) := by
  unfold Sh.create
  rw [ok_b, act_on _ rfl rfl]
  rfl
theorem bw2 : ({ fs := [⟨[120, 121], 2⟩, ⟨[], 0⟩], now := [([98], 1)], old := [], moves := [⟨[98], some 1, []⟩], room := 100, left := -1, off := false, done := wrap64 (wrap64 (wrap64 (wrap64 (0 + 1) + 1) + 1) + 1) } : Sh).append [98] [120, 121] = (({ fs := [⟨[120, 121], 2⟩, ⟨[120, 121], 0⟩], now := [([98], 1)], old := [], moves := [⟨[98], some 1, []⟩], room := 100, left := -1, off := false, done := wrap64 (wrap64 (wrap64 (wrap64 (wrap64 (0 + 1) + 1) + 1) + 1) + 1) } : Sh), 0) := by
  unfold Sh.append
  rw [act_on _ rfl rfl]
  rfl
theorem bw3 : ({ fs := [⟨[120, 121], 2⟩, ⟨[120, 121], 0⟩], now := [([98], 1)], old := [], moves := [⟨[98], some 1, []⟩], room := 100, left := -1, off := false, done := wrap64 (wrap64 (wrap64 (wrap64 (wrap64 (0 + 1) + 1) + 1) + 1) + 1) } : Sh).sync [98] = (({ fs := [⟨[120, 121], 2⟩, ⟨[120, 121], 2⟩], now := [([98], 1)], old := [], moves := [⟨[98], some 1, []⟩], room := 100, left := -1, off := false, done := wrap64 (wrap64 (wrap64 (wrap64 (wrap64 (wrap64 (0 + 1) + 1) + 1) + 1) + 1) + 1) } : Sh), 0) := by
  unfold Sh.sync
  rw [act_on _ rfl rfl]
  rfl
theorem bw4 : ({ fs := [⟨[120, 121], 2⟩, ⟨[120, 121], 2⟩], now := [([98], 1)], old := [], moves := [⟨[98], some 1, []⟩], room := 100, left := -1, off := false, done := wrap64 (wrap64 (wrap64 (wrap64 (wrap64 (wrap64 (0 + 1) + 1) + 1) + 1) + 1) + 1) } : Sh).names = (({ fs := [⟨[120, 121], 2⟩, ⟨[120, 121], 2⟩], now := [([98], 1)], old := [([98], 1)], moves := [], room := 100, left := -1, off := false, done := wrap64 (wrap64 (wrap64 (wrap64 (wrap64 (wrap64 (wrap64 (0 + 1) + 1) + 1) + 1) + 1) + 1) + 1) } : Sh), 0) := by
  unfold Sh.names
  rw [act_on _ rfl rfl]
  rfl
theorem bw5 : ({ fs := [⟨[120, 121], 2⟩, ⟨[120, 121], 2⟩], now := [([98], 1)], old := [([98], 1)], moves := [], room := 100, left := -1, off := false, done := wrap64 (wrap64 (wrap64 (wrap64 (wrap64 (wrap64 (wrap64 (0 + 1) + 1) + 1) + 1) + 1) + 1) + 1) } : Sh).fall 0 0 = ({ fs := [⟨[120, 121], 2⟩, ⟨[120, 121], 2⟩], now := [([98], 1)], old := [([98], 1)], moves := [], room := 100, left := -1, off := false, done := wrap64 (wrap64 (wrap64 (wrap64 (wrap64 (wrap64 (wrap64 (0 + 1) + 1) + 1) + 1) + 1) + 1) + 1) } : Sh) := rfl
theorem bw6 : ({ fs := [⟨[120, 121], 2⟩, ⟨[120, 121], 2⟩], now := [([98], 1)], old := [([98], 1)], moves := [], room := 100, left := -1, off := false, done := wrap64 (wrap64 (wrap64 (wrap64 (wrap64 (wrap64 (wrap64 (0 + 1) + 1) + 1) + 1) + 1) + 1) + 1) } : Sh).read [98] = ([120, 121], 0) := rfl
theorem Rd.newm (w : World) (size n : Nat) (cs : Array Value) (e : TypeId) (f : Nat × Nat) (hl : cs.size = n * size) : Rd (w.alloc (.cells cs e f)) size (some ⟨w.heap.size, 0, none⟩) n cs.toList := by
  refine ⟨by simpa using hl, fun j u hu => ⟨_, rfl, by simp, ?_⟩⟩
  rw [Addr.add_lit, cell_of_heap (heap_alloc_new w _)]
  simpa using hu
theorem Rd.str {w : World} {a : Option Addr} {p : List UInt8} (c : Nat) (h : Rd w 1 a p.length (encB p)) : (convert 22 9 (.slice a p.length c)).run Try.prog w = .ok (.string ⟨p.toArray⟩) w := by
  cases a with
  | none =>
    obtain ⟨h1, h2⟩ := h.none_len (by decide)
    obtain rfl : p = [] := List.eq_nil_of_length_eq_zero h1
    exact Lib.run_convert_nil_bytes w _ _ _ c Try.underlying22 Try.underlying5 Try.underlying9
  | some ad =>
    refine run_convert_bytes_back w _ _ _ ad c p Try.underlying22 Try.underlying5 Try.underlying9 ?_
    intro j hj
    obtain ⟨ad', h1, h2, h3⟩ := h.2 j (.int .u8 p[j].toNat) (by simp [encB, hj])
    cases h1
    exact h3
theorem sm1 : SmallS ({ fs := [⟨[], 0⟩], now := [([97], 0)], old := [], moves := [⟨[97], some 0, []⟩], room := 100, left := -1, off := false, done := wrap64 (0 + 1) } : Sh) 9 := ⟨by decide, by decide, by decide, by decide, fun i f hf => by
  have hm := List.mem_of_getElem? hf
  simp at hm
  subst hm
  simp, by show (0 : Int) ≤ 100; omega, by show (100 : Int) ≤ _; omega⟩
theorem sm2 : SmallS ({ fs := [⟨[120, 121], 2⟩, ⟨[], 0⟩], now := [([98], 1)], old := [], moves := [⟨[98], some 1, []⟩], room := 100, left := -1, off := false, done := wrap64 (wrap64 (wrap64 (wrap64 (0 + 1) + 1) + 1) + 1) } : Sh) 9 := ⟨by decide, by decide, by decide, by decide, fun i f hf => by
  have hm := List.mem_of_getElem? hf
  simp at hm
  rcases hm with rfl | rfl <;> simp, by show (0 : Int) ≤ 100; omega, by show (100 : Int) ≤ _; omega⟩
set_option maxHeartbeats 1600000 in
set_option maxRecDepth 100000 in
theorem awake_calls (w : World) : Calls Try.prog 5 #[] w fun e w' => e = .returned (.bool true) ∧ Upd w w' (fun _ => False) := by
  have kc := fun (w : World) (C : Array Value) (n c : Nat) => Lib.run_convert_bytes_const (P := Try.prog) w 22 5 C n c Try.underlying22 Try.underlying5
  go_enter Try.func5, Try.ntmps5
  go_wp2_with (first
        | (go_at_call 6; refine (sat_new _ _).mono ?_; rintro e w1 ⟨b, rfl, hsa⟩; have HSA := Lib.hid hsa; clear hsa)
        | (go_at_call 7; refine (sat_create HSA.out [97] (by decide) aw1 (by unfold Big; decide) (by unfold Big; decide)).mono ?_; rintro e ws ⟨rfl, hsa⟩; clear HSA; have HSA := Lib.hid hsa; clear hsa)
        | (go_at_call 7; refine (sat_create HSA.out [98] (by decide) bw1 (by unfold Big; decide) (by unfold Big; decide)).mono ?_; rintro e ws ⟨rfl, hsa⟩; clear HSA; have HSA := Lib.hid hsa; clear hsa)
        | (go_at_call 8; refine (sat_append HSA.out ((Upd.refl _ _).alloc _) [97] (by decide) 2 aw2 (N := 9) (by decide) sm1 (p := [120, 121]) (Rd.newm _ 1 2 #[.int .u8 120, .int .u8 121] 5 (2, 3) rfl) (.inr (fun g hg => by simp [blockOf] at hg; omega)) (by decide)).mono ?_; rintro e ws ⟨rfl, hsa⟩; clear HSA; have HSA := Lib.hid hsa; clear hsa)
        | (go_at_call 8; refine (sat_append HSA.out ((Upd.refl _ _).alloc _) [98] (by decide) 2 bw2 (N := 9) (by decide) sm2 (p := [120, 121]) (Rd.newm _ 1 2 #[.int .u8 120, .int .u8 121] 5 (2, 3) rfl) (.inr (fun g hg => by simp [blockOf] at hg; omega)) (by decide)).mono ?_; rintro e ws ⟨rfl, hsa⟩; clear HSA; have HSA := Lib.hid hsa; clear hsa)
        | (go_at_call 9; refine (sat_sync HSA.out [97] (by decide) aw3).mono ?_; rintro e ws ⟨rfl, hsa⟩; clear HSA; have HSA := Lib.hid hsa; clear hsa)
        | (go_at_call 9; refine (sat_sync HSA.out [98] (by decide) bw3).mono ?_; rintro e ws ⟨rfl, hsa⟩; clear HSA; have HSA := Lib.hid hsa; clear hsa)
        | (go_at_call 13; refine (sat_fall HSA.out 0 0 aw4 (by unfold Big; decide)).mono ?_; rintro e ws ⟨rfl, hsa⟩; clear HSA; have HSA := Lib.hid hsa; clear hsa)
        | (go_at_call 13; refine (sat_fall HSA.out 0 0 bw5 (by unfold Big; decide)).mono ?_; rintro e ws ⟨rfl, hsa⟩; clear HSA; have HSA := Lib.hid hsa; clear hsa)
        | (go_at_call 10; refine (sat_names HSA.out bw4).mono ?_; rintro e ws ⟨rfl, hsa⟩; clear HSA; have HSA := Lib.hid hsa; clear hsa)
        | (go_at_call 16; refine (sat_list HSA.out (by unfold Big; decide)).mono ?_; rintro e wl ⟨a, c, l, rfl, hpm, -, hul, -⟩; obtain rfl : l = [] := List.eq_nil_of_length_eq_zero hpm.length_eq; have hsa := HSA.out.upd hul; clear HSA hpm hul; have HSA := Lib.hid hsa; clear hsa)
        | (go_at_call 14; refine (sat_read HSA.out [98] (by decide) bw6).mono ?_; rintro e wr ⟨a, kc2, rfl, hrow, hur⟩; have hcv : (convert 22 9 (.slice a 2 kc2)).run Try.prog wr = .ok (.string ⟨#[120, 121]⟩) wr := Rd.str (p := [120, 121]) kc2 hrow.rd; have HUR := Lib.hid hur; clear hrow hur)
        | go_in)
  go_ret
  exact ⟨rfl, HSA.out.base.trans HUR.out (fun _ _ h => h)⟩
end Go.Proofs.Ytpmbeeddciepjaa
