/- Walks: New, Moves, Arm, Room, Read. -/
import Derived.Test.YtpmbeeddciepjaaK
namespace Go.Proofs.Ytpmbeeddciepjaa
open Go.RowKit Go.Maps
set_option linter.unusedSimpArgs false
set_option linter.unusedVariables false

def Sh.new (room : Int) : Sh := { fs := [], now := [], old := [], moves := [], room := room, left := -1, off := false, done := 0 }

theorem IsShelf.made (w : World) (room : Int) :
    IsShelf (((w.alloc (.map #[] 0)).alloc (.map #[] 0)).alloc (.cells #[.map (some w.heap.size), .map (some (w.heap.size + 1)), .slice none 0 0, .int .i64 room, .int .i64 (-1), .bool false, .int .i64 0] 52))
      { sb := w.heap.size + 2, nb := w.heap.size, ob := w.heap.size + 1, mva := none, mvc := 0, bl := [], ba := [] } (Sh.new room) := by
  have e1 : (w.alloc (.map #[] 0)).heap.size = w.heap.size + 1 := by simp
  have e2 : ((w.alloc (.map #[] 0)).alloc (.map #[] 0)).heap.size = w.heap.size + 2 := by simp
  have m1 := (MapIs.made w Try.prog 9 []).upd ((Upd.refl (w.alloc (.map #[] 0)) (fun _ => False)).alloc (.map #[] 0)) (fun h => h)
  have m2 := MapIs.made (w.alloc (.map #[] 0)) Try.prog 9 []
  rw [e1] at m2
  have hu : Upd ((w.alloc (.map #[] 0)).alloc (.map #[] 0)) (((w.alloc (.map #[] 0)).alloc (.map #[] 0)).alloc (.cells #[.map (some w.heap.size), .map (some (w.heap.size + 1)), .slice none 0 0, .int .i64 room, .int .i64 (-1), .bool false, .int .i64 0] 52)) (fun _ => False) := (Upd.refl _ _).alloc _
  exact {
    cells := by
      have := heap_alloc_new ((w.alloc (.map #[] 0)).alloc (.map #[] 0)) (.cells #[.map (some w.heap.size), .map (some (w.heap.size + 1)), .slice none 0 0, .int .i64 room, .int .i64 (-1), .bool false, .int .i64 0] 52)
      rw [e2] at this
      exact this
    now := m1.upd hu (fun h => h)
    old := m2.upd hu (fun h => h)
    mv := Row.nil _ _ _
    mvlt := fun m hm => by cases hm
    lbl := rfl
    lba := rfl
    file := fun i b a c f h => by simp at h
    apart := fun r r' k hr hr' => by
      cases r <;> cases r' <;> simp [Gh.blk, blockOf] at hr hr' <;> first | rfl | omega
    left1 := by show (-1 : Int) ≤ -1; decide
    left2 := by show (-1 : Int) ≤ 9223372036854775807; decide
    small := fun m hm => nomatch hm }
theorem made_own {n : Nat} {k : Nat} (h : Gh.own { sb := n + 2, nb := n, ob := n + 1, mva := none, mvc := 0, bl := [], ba := [] } k) : n ≤ k := by
  obtain ⟨r, hr⟩ := h
  cases r <;> simp [Gh.blk, blockOf] at hr <;> omega

theorem new_calls (room : Int) (w : World) :
    Calls Try.prog 6 #[.int .i64 room] w fun e w' => ∃ G, e = .returned (.pointer (some ⟨G.sb, 0, none⟩)) ∧ IsShelf w' G (Sh.new room) ∧ Upd w w' (fun _ => False) ∧ ∀ k, G.own k → w.heap.size ≤ k := by
  have hmm := @run_makeMap Try.prog
  go_enter Try.func6, Try.ntmps6
  go_wp2
  go_ret
  refine ⟨_, rfl, IsShelf.made w room, ((Upd.refl w _).alloc _ |>.alloc _).alloc _, fun k hk => made_own hk⟩

theorem moves_calls {G : Gh} {S : Sh} {w : World} (h : IsShelf w G S) :
    Calls Try.prog 18 #[.pointer (some ⟨G.sb, 0, none⟩)] w fun e w' => e = .returned (.int .i64 S.moves.length) ∧ w = w' := by
  have c2 : w.cell? ⟨G.sb, 2, none⟩ = some (.slice G.mva S.moves.length G.mvc) := (cell_of_heap h.cells 2).trans rfl
  clear h
  go_enter Try.func18, Try.ntmps18
  go_wp2
  go_ret
  exact ⟨rfl, rfl⟩

theorem arm_calls {G : Gh} {S : Sh} {w : World} (h : IsShelf w G S) (n : Int) (hn : n ≤ 9223372036854775807) :
    Calls Try.prog 33 #[.pointer (some ⟨G.sb, 0, none⟩), .int .i64 n] w fun e w' => e = .returned (.tuple #[]) ∧ After w w' G { S with left := max n (-1) } := by
  have c4 : w.cell? ⟨G.sb, 4, none⟩ = some (.int .i64 S.left) := (cell_of_heap h.cells 4).trans rfl
  have f4 : w.frozen? ⟨G.sb, 4, none⟩ = false := free_of_heap h.cells 4
  have H := Lib.hid h
  clear h
  go_enter Try.func33, Try.ntmps33
  go_wp2
  all_goals
    go_end0
    refine ⟨rfl, ?_⟩
    have hu : ∀ v, Upd w (w.setCell ⟨G.sb, 4, none⟩ v) (fun k => k = G.sb) := fun v => (Upd.refl w (fun k => k = G.sb)).put (.inl rfl)
    have := H.out.head S.room (max n (-1)) S.done S.off (hu _) (by omega) (by omega) (heap_setCell_same (i := 4) H.out.cells (.int .i64 (max n (-1))))
    first
      | exact After.of_head this (hu _)
      | (rw [show max n (-1) = -1 from by omega] at this ⊢; exact After.of_head this (hu _))
      | (rw [show max n (-1) = n from by omega] at this ⊢; exact After.of_head this (hu _))

theorem room_calls {G : Gh} {S : Sh} {w : World} (h : IsShelf w G S) (n : Int) :
    Calls Try.prog 34 #[.pointer (some ⟨G.sb, 0, none⟩), .int .i64 n] w fun e w' => e = .returned (.tuple #[]) ∧ After w w' G { S with room := n } := by
  have c3 : w.cell? ⟨G.sb, 3, none⟩ = some (.int .i64 S.room) := (cell_of_heap h.cells 3).trans rfl
  have f3 : w.frozen? ⟨G.sb, 3, none⟩ = false := free_of_heap h.cells 3
  have H := Lib.hid h
  clear h
  go_enter Try.func34, Try.ntmps34
  go_wp2
  go_end0
  refine ⟨rfl, ?_⟩
  have hu : Upd w (w.setCell ⟨G.sb, 3, none⟩ (.int .i64 n)) (fun k => k = G.sb) := (Upd.refl w (fun k => k = G.sb)).put (.inl rfl)
  exact After.of_head (H.out.head n S.left S.done S.off hu H.out.left1 H.out.left2 (heap_setCell_same (i := 3) H.out.cells (.int .i64 n))) hu

set_option maxHeartbeats 400000 in
theorem read_calls {G : Gh} {S : Sh} {w : World} (h : IsShelf w G S) (s : ByteArray) (hs : s.size ≤ Big) :
    Calls Try.prog 14 #[.pointer (some ⟨G.sb, 0, none⟩), .string s] w fun e w' => ∃ a c, e = .returned (.tuple #[.slice a (S.read s.data.toList).1.length c, .int .i64 (S.read s.data.toList).2]) ∧
      Row w' 5 1 a (S.read s.data.toList).1.length c (encB (S.read s.data.toList).1) ∧ Upd w w' (fun _ => False) ∧ ∀ g, blockOf a = some g → w.heap.size ≤ g := by
  have c5 : w.cell? ⟨G.sb, 5, none⟩ = some (.bool S.off) := (cell_of_heap h.cells 5).trans rfl
  have c0 : w.cell? ⟨G.sb, 0, none⟩ = some (.map (some G.nb)) := (cell_of_heap h.cells 0).trans rfl
  have H := Lib.hid h
  cases ho : S.off with
  | true =>
    have he : S.read s.data.toList = ([], 7) := by simp [Sh.read, ho]
    rw [he]
    rw [ho] at c5
    clear he h ho
    go_enter Try.func14, Try.ntmps14
    go_wp2
    go_ret2
    exact ⟨none, 0, rfl, Row.nil _ _ _, Upd.refl _ _, fun g hg => by cases hg⟩
  | false =>
    rw [ho] at c5
    cases hl : look S.now s.data.toList with
    | none =>
      have he : S.read s.data.toList = ([], 2) := by simp [Sh.read, ho, hl]
      rw [he]
      have HL := Lib.hid hl
      clear he h ho hl
      go_enter Try.func14, Try.ntmps14
      go_wp2_with (first
        | (at_lookup; refine wpList_look_none rfl _ _ 49 rfl 9 54 keyT Try.underlying49 zeroBook G.nb G.bl _ rfl H.out.now s rfl (keyOfS hs) HL.out ?_)
        | go_in)
      go_ret2
      exact ⟨none, 0, rfl, Row.nil _ _ _, Upd.refl _ _, fun g hg => by cases hg⟩
    | some i =>
      obtain ⟨bb, a, c, f, hbb, hba, hf, hfile⟩ := h.at_ hl
      have he : S.read s.data.toList = (f.p, 0) := by simp [Sh.read, ho, hl, hf]
      rw [he]
      have HL := Lib.hid hl
      have HB := Lib.hid hbb
      have HF := Lib.hid hfile
      have d0 : w.cell? ⟨bb, 0, none⟩ = some (.slice a f.p.length c) := (cell_of_heap hfile.1 0).trans rfl
      clear he h ho hl hbb hba hf hfile
      go_enter Try.func14, Try.ntmps14
      go_wp2_with (first
        | (go_at_call 36; refine (clone_calls HF.out.2.1.rd HF.out.2.2.1).mono ?_; rintro e w3 ⟨a3, c3, rfl, hr3, hu3, hf3⟩; have HR3 := Lib.hid hr3; clear hr3)
        | (at_lookup; refine wpList_look_found rfl _ _ 49 rfl 9 54 keyT Try.underlying49 zeroBook G.nb G.bl _ rfl H.out.now s rfl (keyOfS hs) i HL.out bb HB.out ?_)
        | go_in)
      go_ret2
      exact ⟨a3, c3, rfl, HR3.out, hu3, hf3⟩
end Go.Proofs.Ytpmbeeddciepjaa
