/- Walks: which names a file may have; a copy of bytes. -/
import Derived.Test.YtpmbeeddciepjaaE
import Derived.Test.YtpmbeeddciepjaaS
namespace Go.Proofs.Ytpmbeeddciepjaa
open Go.RowKit Go.Maps
set_option linter.unusedSimpArgs false
set_option linter.unusedVariables false

theorem ret_bool {a b : Bool} (h : a = b) : Ending.returned (.bool a) = .returned (.bool b) := by rw [h]

theorem bad_calls (x : Nat) (w : World) : Calls Try.prog 40 #[.int .i32 x] w fun e w' => e = .returned (.bool (Sh.badRune x)) ∧ w' = w := by
  go_enter Try.func40, Try.ntmps40
  go_wp2
  all_goals
    go_ret
    refine ⟨ret_bool ?_, rfl⟩
    unfold Sh.badRune
    have e1 : decide ((97 : Int) ≤ x) = decide (97 ≤ x) := by simp; omega
    have e2 : decide ((x : Int) ≤ 122) = decide (x ≤ 122) := by simp; omega
    have e3 : decide ((48 : Int) ≤ x) = decide (48 ≤ x) := by simp; omega
    have e4 : decide ((x : Int) ≤ 57) = decide (x ≤ 57) := by simp; omega
    have e5 : ((x : Int) == 46) = (x == 46) := by rw [Bool.eq_iff_iff]; simp; omega
    try rw [e2]
    try rw [e4]
    try rw [e5]
    by_cases h1 : 97 ≤ x <;> by_cases h2 : x ≤ 122 <;> by_cases h3 : 48 ≤ x <;> by_cases h4 : x ≤ 57 <;> by_cases h5 : x = 46 <;> first | (exfalso; omega) | simp [h1, h2, h3, h4, h5]

theorem bad_pays (lb : Array Value) (hlb : lb = #[]) (w : World) : Go.Proofs.PredAtRunes Try.prog 40 lb Sh.badRune w := by
  intro W x _ _
  subst hlb
  exact (bad_calls x W).mono fun e w' ⟨he, hw⟩ => ⟨he, 0, hw⟩

theorem eg_bad : ∀ args w, (callFunc 40 args).run Try.prog w = .ok (.enter 40 args) w := by
  intro args w
  exact enters_of Try.func40 (by kernel_rfl) rfl args w

theorem idx_neg (b : Nat → Bool) (s : ByteArray) : (!decide (0 ≤ Lib.idxFunc b true s)) = decide (Lib.idxFunc b true s < 0) := by
  rw [← decide_not]
  exact decide_eq_decide.2 (by omega)

theorem name_calls (s : ByteArray) (w : World) : Calls Try.prog 19 #[.string s] w fun e w' => e = .returned (.bool (Sh.nameOk s.data.toList)) ∧ Upd w w' (fun _ => False) := by
  have hsz : s.data.toList.length = s.size := by simp
  have hmk : (⟨s.data.toList.toArray⟩ : ByteArray) = s := by cases s; simp
  have hcf := Lib.hid (fun w' => Try.strings_ContainsFunc_runes 40 #[] eg_bad Sh.badRune s w' (bad_pays #[] rfl w'))
  clear hsz hmk
  go_enter Try.func19, Try.ntmps19
  go_wp2_with (first | (go_at_call 41; refine (hcf.out _).mono ?_; rintro e w' ⟨rfl, hb⟩) | go_in)
  all_goals
    go_ret
    refine ⟨ret_bool ?_, by first | exact Upd.of_below hb _ | exact Upd.refl _ _⟩
  all_goals
    have hsz : s.data.toList.length = s.size := by simp
    have hmk : (⟨s.data.toList.toArray⟩ : ByteArray) = s := by cases s; simp
    have hz : s.data.toList = [] → s.size = 0 := fun h => by rw [← hsz, h]; rfl
    unfold Sh.nameOk
    rw [hsz, hmk]
    try rw [idx_neg]
    clear hcf hmk
    simp only [ByteArray.toList_eq] at *
    by_cases q1 : s.data.toList = []
    · have q3 := hz q1
      simp [q1]
      try (exfalso; exact absurd q1 (by assumption))
    · by_cases q2 : s.size ≤ 32
      · first
          | (exfalso; omega)
          | (exfalso; contradiction)
          | (rw [decide_eq_true (p := s.data.toList ≠ []) q1, decide_eq_true q2]; rw [show s.data.toList.isEmpty = false from by rw [List.isEmpty_eq_false_iff]; exact q1]; rfl)
      · first
          | (exfalso; omega)
          | simp [q2]
end Go.Proofs.Ytpmbeeddciepjaa
