/- Walks over the methods of a shelf: act. -/
import Derived.Test.YtpmbeeddciepjaaC
import Derived.WalkLawsBesides
import Derived.Lib.Hide
namespace Go.Proofs.Ytpmbeeddciepjaa
open Go.RowKit Go.Maps

theorem ret_int {k : IntKind} {a b : Int} (h : a = b) : Ending.returned (.int k a) = .returned (.int k b) := by rw [h]

theorem setIf_upd {w : World} {b i : Nat} (v : Value) : Upd w (w.setCell ⟨b, i, none⟩ v) (fun k => k = b) := (Upd.refl w _).put (.inl rfl)

theorem act_nil (w : World) : Calls Try.prog 20 #[.pointer none] w fun e w' => e = .returned (.int .i64 7) ∧ w = w' := by
  go_enter Try.func20, Try.ntmps20
  go_wp2
  go_ret
  exact ⟨rfl, rfl⟩

set_option maxHeartbeats 400000 in
theorem act_yes {G : Gh} {S : Sh} {w : World} (h : IsShelf w G S) (hy : S.act.2 = true) :
    Calls Try.prog 20 #[.pointer (some ⟨G.sb, 0, none⟩)] w fun e w' => e = .returned (.int .i64 0) ∧ IsShelf w' G S.act.1 ∧ Upd w w' (fun k => k = G.sb) ∧ w'.heap.size = w.heap.size := by
  have hoff : S.off = false := by
    cases ho : S.off
    · rfl
    · simp [Sh.act, ho] at hy
  have hl : (S.left == 0) = false := by
    by_cases h0 : S.left = 0
    · simp [Sh.act, h0] at hy
    · simpa using h0
  have hS : S.act.1 = { S with left := max (S.left - 1) (-1), done := wrap64 (S.done + 1) } := by
    have : ¬ (S.off = true ∨ S.left = 0) := by rw [hoff]; simpa using hl
    simp [Sh.act, this]
  have HS := Lib.hid hS
  clear hS hy
  have h4 : w.cell? ⟨G.sb, 4, none⟩ = some (.int .i64 S.left) := by rw [cell_of_heap h.cells]; rfl
  have h5 : w.cell? ⟨G.sb, 5, none⟩ = some (.bool false) := by rw [cell_of_heap h.cells, hoff]; rfl
  have h6 : w.cell? ⟨G.sb, 6, none⟩ = some (.int .i64 S.done) := by rw [cell_of_heap h.cells]; rfl
  have f4 : w.frozen? ⟨G.sb, 4, none⟩ = false := free_of_heap h.cells 4
  have f6 : w.frozen? ⟨G.sb, 6, none⟩ = false := free_of_heap h.cells 6
  have b1 := h.left1
  have b2 := h.left2
  have H := Lib.hid h
  have HO := Lib.hid hoff
  clear h hoff
  go_enter Try.func20, Try.ntmps20
  go_wp2
  all_goals
    go_ret
    refine ⟨rfl, ?_, ?_, by simp [World.setCell]⟩
    · rw [HS.out]
      have hc := heap_setCell_same (i := 6) (heap_setCell_same (i := 4) H.out.cells (.int .i64 (max (S.left - 1) (-1)))) (.int .i64 (wrap64 (S.done + 1)))
      rw [HO.out] at hc
      have hm : max (S.left - 1) (-1) = -1 ∨ max (S.left - 1) (-1) = S.left - 1 := by omega
      have := H.out.head S.room (max (S.left - 1) (-1)) (wrap64 (S.done + 1)) S.off (((Upd.refl w (fun k => k = G.sb)).put (.inl rfl)).put (.inl rfl)) (by omega) (by omega) (by rw [HO.out]; exact hc)
      first
        | exact this
        | (rw [show max (S.left - 1) (-1) = -1 from by omega] at this ⊢; exact this)
        | (rw [show max (S.left - 1) (-1) = S.left - 1 from by omega] at this ⊢; exact this)
    · exact ((Upd.refl w (fun k => k = G.sb)).put (.inl rfl)).put (.inl rfl)

set_option maxHeartbeats 400000 in
theorem act_no {G : Gh} {S : Sh} {w : World} (h : IsShelf w G S) (hy : S.act.2 = false) :
    Calls Try.prog 20 #[.pointer (some ⟨G.sb, 0, none⟩)] w fun e w' => e = .returned (.int .i64 7) ∧ IsShelf w' G S.act.1 ∧ Upd w w' (fun k => k = G.sb) ∧ w'.heap.size = w.heap.size := by
  have hS : S.act.1 = { S with off := true } := by
    unfold Sh.act at hy ⊢
    split at hy
    · rename_i hc; rw [if_pos hc]
    · cases hy
  have HS := Lib.hid hS
  have h5 : w.cell? ⟨G.sb, 5, none⟩ = some (.bool S.off) := by rw [cell_of_heap h.cells]; rfl
  have h4 : w.cell? ⟨G.sb, 4, none⟩ = some (.int .i64 S.left) := by rw [cell_of_heap h.cells]; rfl
  have f5 : w.frozen? ⟨G.sb, 5, none⟩ = false := free_of_heap h.cells 5
  cases ho : S.off with
  | true =>
    have H := Lib.hid h
    have HO := Lib.hid ho
    rw [ho] at h5
    clear h ho hS hy
    go_enter Try.func20, Try.ntmps20
    go_wp2
    go_ret
    refine ⟨rfl, ?_, Upd.refl _ _, rfl⟩
    rw [HS.out, ← HO.out]
    exact H.out
  | false =>
    have hl : S.left = 0 := by
      unfold Sh.act at hy
      split at hy
      · rename_i hc
        rw [ho] at hc
        simpa using hc
      · cases hy
    have H := Lib.hid h
    rw [ho] at h5
    rw [hl] at h4
    have HL := Lib.hid hl
    clear h ho hS hy hl
    go_enter Try.func20, Try.ntmps20
    go_wp2
    go_ret
    refine ⟨rfl, ?_, (Upd.refl w (fun k => k = G.sb)).put (.inl rfl), by simp [World.setCell]⟩
    rw [HS.out]
    have hc := heap_setCell_same (i := 5) H.out.cells (.bool true)
    exact H.out.head S.room S.left S.done true ((Upd.refl w (fun k => k = G.sb)).put (.inl rfl)) H.out.left1 H.out.left2 hc
end Go.Proofs.Ytpmbeeddciepjaa
