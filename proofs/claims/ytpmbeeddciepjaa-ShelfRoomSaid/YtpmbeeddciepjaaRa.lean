/- The reference: walk of Right. -/
import Derived.Test.YtpmbeeddciepjaaZ
namespace Go.Proofs.Ytpmbeeddciepjaa
open Go.RowKit Go.Maps Go.Sort
set_option linter.unusedSimpArgs false
set_option linter.unusedVariables false
def okR (b : UInt8) : Bool := decide ((97 ≤ b.toNat ∧ b.toNat ≤ 122) ∨ (48 ≤ b.toNat ∧ b.toNat ≤ 57) ∨ b.toNat = 46)
def rightR (s : Nm) : Bool := s.all okR && decide (0 < s.length) && decide (s.length ≤ 32)
theorem all_take_next {s : Nm} {k : Nat} {b : UInt8} (h : s[k]? = some b) (h1 : (s.take k).all okR = true) (h2 : okR b = true) : (s.take (k + 1)).all okR = true := by
  rw [take_next h, List.all_append, h1]
  simp [h2]
theorem right_bad {s : Nm} {k : Nat} {b : UInt8} (h : s[k]? = some b) (h2 : okR b = false) : rightR s = false := by
  unfold rightR
  have : s.all okR = false := by
    rw [List.all_eq_false]
    exact ⟨b, List.mem_of_getElem? h, by simp [h2]⟩
  rw [this]
  rfl
set_option maxHeartbeats 400000 in
theorem right_calls {w : World} (s : Nm) (hs : s.length ≤ 100000) :
    Calls Try.prog 43 #[.string ⟨s.toArray⟩] w fun e w' => e = .returned (.bool (rightR s)) ∧ w = w' := by
  go_enter Try.func43, Try.ntmps43
  go_wp2_with fail
  go_loopw [3] (fun i wr => ∃ k : Nat, k ≤ s.length ∧ i = .int .i64 k ∧ Hid ((s.take k).all okR = true) ∧ w = wr) (fun i _ => s.length - (intOf i).toNat)
  case atStart => exact ⟨0, Nat.zero_le _, rfl, Lib.hid rfl, rfl⟩
  case round =>
    obtain ⟨k, hk, rfl, hall, rfl⟩ := hrel
    by_cases hlt : k < s.length
    · obtain ⟨b, hb⟩ : ∃ b, s[k]? = some b := ⟨_, List.getElem?_eq_getElem hlt⟩
      have hk1 : (k : Int) < (s.length : Int) := by omega
      have HBB := Lib.hid hb
      have hwr : wrap64 ((k : Int) + 1) = (k : Int) + 1 := IntWalk.wrap64_in _ (by omega)
      have HE : Hid (∀ h, ((⟨s.toArray⟩ : ByteArray)[k]'h).toNat = b.toNat) := Lib.hid (fun h => by
        have h1 : s[k]'hlt = b := by
          have := List.getElem?_eq_getElem hlt
          rw [hb] at this
          exact (Option.some.inj this).symm
        rw [← h1]
        rfl)
      clear hb
      go_wp2_with fail
      all_goals
        have he := HE.out (by simpa [ByteArray.size] using hlt)
        try simp only [Bool.not_eq_true', Bool.not_eq_false', decide_eq_true_eq, decide_eq_false_iff_not, beq_iff_eq, beq_eq_false_iff_ne, ne_eq, Bool.not_eq_eq_eq_not, Bool.not_false, Bool.not_true] at *
        first
          | (go_ret; refine ⟨ret_bool ?_, rfl⟩; exact (right_bad HBB.out (by unfold okR; simp only [decide_eq_false_iff_not]; omega)).symm)
          | ((try rw [hwr]); refine ⟨⟨k + 1, by omega, by go_num, Lib.hid (all_take_next HBB.out hall.out (by unfold okR; simp only [decide_eq_true_eq]; omega)), trivial⟩, by simp [intOf]; omega⟩)
    · have hke : k = s.length := by omega
      subst hke
      have hq := hall.out
      rw [List.take_length] at hq
      have HQ := Lib.hid hq
      clear hq
      go_wp2_with fail
      all_goals
        go_ret
        refine ⟨ret_bool ?_, rfl⟩
        unfold rightR
        rw [HQ.out]
        first | (simp; done) | (simp; omega) | (rw [Bool.eq_iff_iff]; simp; omega)
end Go.Proofs.Ytpmbeeddciepjaa
