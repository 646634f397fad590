/- The reference's shelf: walk of Used. -/
import Derived.Test.YtpmbeeddciepjaaRc
namespace Go.Proofs.Ytpmbeeddciepjaa
open Go.RowKit Go.Maps Go.Sort
set_option linter.unusedSimpArgs false
set_option linter.unusedVariables false
def UsedP (w : World) (e : Ending) (w' : World) : Prop := ∃ n : Int, e = .returned (.int .i64 n) ∧ Upd w w' (fun _ => False)
set_option maxHeartbeats 1600000 in
set_option maxRecDepth 8000 in
theorem used_ref {w : World} {Fs : Nat → Prop} {N : Nat} {X : RSh} (h : RefOk w Fs N X) (hN : N < 1000) :
    Calls Try.prog 48 #[X.v] w (UsedP w) := by
  have H := Lib.hid h
  have hl2 := h.l2
  have hw2 := h.was2
  rw [RSh.v_rv]
  unfold rv
  clear h
  go_enter Try.func48, Try.ntmps48
  go_wp2_with fail
  have hx := heap_alloc_new w (.cells #[.slice X.la X.L.length X.lc, .slice X.now.a X.now.l.length X.now.c, .slice X.wa X.was.length X.wc, .int .i64 X.room, .int .i64 X.left, .bool X.off, .int .i64 X.done] 35)
  have hu1 : Upd w (w.alloc (.cells #[.slice X.la X.L.length X.lc, .slice X.now.a X.now.l.length X.now.c, .slice X.wa X.was.length X.wc, .int .i64 X.room, .int .i64 X.left, .bool X.off, .int .i64 X.done] 35)) (fun _ => False) := (Upd.refl _ _).alloc _
  generalize w.alloc (.cells #[.slice X.la X.L.length X.lc, .slice X.now.a X.now.l.length X.now.c, .slice X.wa X.was.length X.wc, .int .i64 X.room, .int .i64 X.left, .bool X.off, .int .i64 X.done] 35) = w1 at hx hu1 ⊢
  have HX := Lib.hid hx
  have HU := Lib.hid hu1
  clear hx hu1
  go_loopw [3, 4] (fun n i wr => ∃ (k : Nat) (m : Int), k ≤ X.L.length ∧ n = .int .i64 m ∧ i = .int .i64 k ∧ wr = w1) (fun _ i _ => X.L.length - (intOf i).toNat)
  case atStart => exact ⟨0, 0, Nat.zero_le _, rfl, rfl, rfl⟩
  case round =>
    obtain ⟨k, m, hk, rfl, rfl, rfl⟩ := hrel
    obtain ⟨⟨x0, x1, x2, x3, x4, x5, x6⟩, -⟩ := box7 HX.out
    by_cases hlt : k < X.L.length
    · have hki : (k : Int) < (X.L.length : Int) := by omega
      have hki0 : (0 : Int) ≤ (k : Int) := Int.natCast_nonneg _
      obtain ⟨g, hla, -, -⟩ := H.out.L.cellAt (by omega)
      have HLA := Lib.hid hla
      have hLk := H.out.L.upd HU.out (fun _ _ h => h)
      rw [hla] at hLk x0
      obtain ⟨x, hx⟩ : ∃ x, X.L[k]? = some x := ⟨_, List.getElem?_eq_getElem hlt⟩
      obtain ⟨q0, q1, -, -⟩ := fileCells hLk hx
      clear hLk hla hx
      go_wp2_with fail
      go_loopw [5, 6] (fun b j wr2 => ∃ (jj : Nat) (bb : Bool), jj ≤ X.was.length ∧ b = .bool bb ∧ j = .int .i64 jj ∧ wr2 = wr) (fun _ j _ => X.was.length - (intOf j).toNat)
      case atStart => exact ⟨0, false, Nat.zero_le _, rfl, rfl, rfl⟩
      case round =>
        obtain ⟨jj, bb, hjj, rfl, rfl, rfl⟩ := hrel
        by_cases hj : jj < X.was.length
        · have hji : (jj : Int) < (X.was.length : Int) := by omega
          have hji0 : (0 : Int) ≤ (jj : Int) := Int.natCast_nonneg _
          obtain ⟨gw, hwa, -, hcw⟩ := (H.out.W.upd HU.out (fun _ _ h => h)).cellAt (by omega)
          obtain ⟨y, hy⟩ : ∃ y, X.was[jj]? = some y := ⟨_, List.getElem?_eq_getElem hj⟩
          have p0 := hcw jj _ (by rw [List.getElem?_map, hy]; rfl)
          have hyok := (H.out.was y (List.mem_of_getElem? hy))
          have HY := Lib.hid (hyok.1.upd HU.out (fun _ h => h.elim))
          have hyn := hyok.2
          unfold RNames.v at p0
          rw [hwa] at x2
          clear hcw hwa hyok hy
          go_wp2_with fail
          go_loopw [5, 7] (fun b kk wr3 => ∃ (k2 : Nat) (bb2 : Bool), k2 ≤ y.l.length ∧ b = .bool bb2 ∧ kk = .int .i64 k2 ∧ wr3 = wr) (fun _ kk _ => y.l.length - (intOf kk).toNat)
          case atStart => exact ⟨0, bb, Nat.zero_le _, rfl, rfl, rfl⟩
          case round =>
            obtain ⟨k2, bb2, hk2, rfl, rfl, rfl⟩ := hrel
            by_cases hk3 : k2 < y.l.length
            · have hk3i : (k2 : Int) < (y.l.length : Int) := by omega
              have hk3i0 : (0 : Int) ≤ (k2 : Int) := Int.natCast_nonneg _
              obtain ⟨gy, r, hya, -, r0, r1⟩ := HY.out.at_ hk3
              rw [hya] at p0
              clear hya
              cases bb2
              · go_wp2_with fail
                go_roundw
                case rel => exact ⟨k2 + 1, _, by omega, rfl, by go_num, (by first | exact True.intro | rfl)⟩
                case measure => simp [intOf]; omega
              · go_wp2_with fail
                go_roundw
                case rel => exact ⟨k2 + 1, _, by omega, rfl, by go_num, (by first | exact True.intro | rfl)⟩
                case measure => simp [intOf]; omega
            · go_wp2_with fail
              go_roundw
              case rel => exact ⟨jj + 1, bb2, by omega, rfl, by go_num, (by first | exact True.intro | rfl)⟩
              case measure => simp [intOf]; omega
        · cases bb
          · go_wp2_with fail
            go_roundw
            case rel => exact ⟨k + 1, m, by omega, rfl, by go_num, (by first | exact True.intro | rfl)⟩
            case measure => simp [intOf]; omega
          · go_wp2_with fail
            go_roundw
            case rel => exact ⟨k + 1, _, by omega, rfl, by go_num, (by first | exact True.intro | rfl)⟩
            case measure => simp [intOf]; omega
    · go_wp2_with fail
      go_ret
      exact ⟨m, rfl, HU.out⟩
end Go.Proofs.Ytpmbeeddciepjaa
