/- Walks: a copy of bytes; Moves, Done, Arm, Room, Names, Sync. -/
import Derived.Test.YtpmbeeddciepjaaF
import Derived.Lib.SliceRun
namespace Go.Proofs.Ytpmbeeddciepjaa
open Go.RowKit Go.Maps
set_option linter.unusedSimpArgs false
set_option linter.unusedVariables false

theorem Rd.none_len {w : World} {size n : Nat} {xs : List Value} (h : Rd w size none n xs) (hs : 0 < size) : n = 0 ∧ xs = [] := by
  have hx : xs = [] := by
    match xs, h.2 with
    | [], _ => rfl
    | u :: l, h2 => obtain ⟨ad, h, _⟩ := h2 0 u rfl; cases h
  subst hx
  refine ⟨?_, rfl⟩
  rcases Nat.mul_eq_zero.1 (h.1.symm.trans List.length_nil) with h | h
  · exact h
  · omega
theorem ones_encB (p : List UInt8) : ∀ u ∈ encB p, u.oneCell' = true := by
  intro u hu
  obtain ⟨b, _, rfl⟩ := List.mem_map.1 hu
  rfl
theorem Row.empty_new (w : World) (e size : Nat) : Row (w.alloc (.cells #[] e)) e size (some ⟨w.heap.size, 0, none⟩) 0 0 [] :=
  ⟨by simp, .inr ⟨w.heap.size, #[], rfl, heap_alloc_new w _, Nat.le_refl _, by decide, by simp, by simp⟩⟩

theorem clone_nil (w : World) (n cap : Nat) :
    Calls Try.prog 36 #[.slice none n cap] w fun e w' => e = .returned (.slice none 0 0) ∧ w = w' := by
  have hq := fun (w : World) => Lib.run_eql_slice_nil (P := Try.prog) w 22 5 none n cap 0 0 Try.underlying22
  go_enter Try.func36, Try.ntmps36
  go_wp2
  go_ret
  exact ⟨rfl, rfl⟩
set_option maxHeartbeats 400000 in
theorem clone_some {w : World} {ad : Addr} {n cap : Nat} {p : List UInt8} (h : Rd w 1 (some ad) n (encB p)) (hn : n ≤ Big) :
    Calls Try.prog 36 #[.slice (some ad) n cap] w fun e w' => ∃ a' c', e = .returned (.slice a' n c') ∧ Row w' 5 1 a' n c' (encB p) ∧ Upd w w' (fun _ => False) ∧ ∀ g, blockOf a' = some g → w.heap.size ≤ g := by
  obtain ⟨i0, hi0, hz0, hz1, hz2⟩ := info_parts infoByte
  have H := Lib.hid h
  have HI := Lib.hid hi0
  have Z0 := Lib.hid hz0
  have Z1 := Lib.hid hz1
  have Z2 := Lib.hid hz2
  have HN : 0 + n ≤ Big := by omega
  clear hi0 hz0 hz1 hz2 h
  have hq := fun (w : World) => Lib.run_eql_slice_nil (P := Try.prog) w 22 5 (some ad) n cap 0 0 Try.underlying22
  go_enter Try.func36, Try.ntmps36
  go_wp2_with (first
    | (at_builtin; refine wpList_append_row rfl _ _ 22 rfl 5 i0 _ 1 1 Try.underlying22 HI.out Z0.out Z1.out Z2.out rfl (by decide) _ _ _ _ rfl (Row.empty_new _ _ _) _ _ _ _ rfl (H.out.upd ((Upd.refl w (fun _ => False)).alloc _) (fun _ _ _ h => h)) (ones_encB p) HN (by decide) ?_; intro a' cap' w1 hrow hupd hor)
    | go_in)
  go_ret
  refine ⟨a', cap', by simp, by simpa using hrow, ⟨hupd.os, hupd.tape, hupd.output, by have := hupd.size; simp at this; omega, fun k hk _ => ?_⟩, ?_⟩
  · rw [hupd.block k (by simp; omega) (by simp [blockOf]; omega)]
    exact Below.heap_alloc _ _ _ hk
  · intro g hg
    rcases hor with ⟨rfl, _⟩ | ⟨rfl, _⟩
    · simp [blockOf] at hg; omega
    · simp [blockOf] at hg; omega
/-- A copy of bytes: in new memory. -/
theorem clone_calls {w : World} {a : Option Addr} {n cap : Nat} {p : List UInt8} (h : Rd w 1 a n (encB p)) (hn : n ≤ Big) :
    Calls Try.prog 36 #[.slice a n cap] w fun e w' => ∃ a' c', e = .returned (.slice a' n c') ∧ Row w' 5 1 a' n c' (encB p) ∧ Upd w w' (fun _ => False) ∧ ∀ g, blockOf a' = some g → w.heap.size ≤ g := by
  cases a with
  | none =>
    obtain ⟨rfl, hx⟩ := h.none_len (by decide)
    refine (clone_nil w 0 cap).mono ?_
    rintro e w' ⟨rfl, rfl⟩
    exact ⟨none, 0, rfl, by rw [hx]; exact Row.nil w _ _, Upd.refl _ _, fun g hg => by cases hg⟩
  | some ad => exact clone_some h hn
end Go.Proofs.Ytpmbeeddciepjaa
