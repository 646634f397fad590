/- Walks: the names of a shelf; the law's names; an empty shelf of the reference. -/
import Derived.Test.YtpmbeeddciepjaaRf
namespace Go.Proofs.Ytpmbeeddciepjaa
open Go.RowKit Go.Maps Go.Sort
set_option linter.unusedSimpArgs false
set_option linter.unusedVariables false

theorem keys_perm {P : Program} {tk : TypeId} {w : World} {b n : Nat} {bl : List Nat} {m : List (Nm × Nat)} {D : DataW Unit} (h : w.ownsMap P tk refElem b n D) (T : Tells D bl m) (K : Keyed P tk) (hk : P.underlying tk = some .string) :
    (m.map (·.1)).Perm (strKeys D) := by
  obtain ⟨es, hD, hpw, _⟩ := h.entries K
  obtain ⟨es', hD', hko⟩ := h.keysOf
  obtain rfl : es = es' := by rw [hD] at hD'; simpa using hD'
  subst hD
  refine perm_strKeys hpw (fun p hp => by obtain ⟨v, hv⟩ := hko p hp; obtain ⟨x, _, hx, _⟩ := Maps.keyOf_str hk hv; exact ⟨x, hx⟩) T.nodup (fun x => ?_)
  rw [T.has]
  constructor
  · intro hx
    obtain ⟨p, hp, rfl⟩ := List.mem_map.1 hx
    rw [look_of_mem T.nodup (i := p.2) hp]
    rfl
  · intro hx
    obtain ⟨i, hi⟩ := Option.isSome_iff_exists.1 hx
    exact List.mem_map.2 ⟨_, mem_of_look hi, rfl⟩

def listed (S : Sh) : List Nm := if S.off = true then [] else S.now.map (·.1)
def ListP (w : World) (S : Sh) (e : Ending) (w' : World) : Prop :=
  ∃ (a : Option Addr) (c : Nat) (l : List Nm), e = .returned (.slice a l.length c) ∧ l.Perm (listed S) ∧ Row w' 9 1 a l.length c (l.map strV) ∧ Upd w w' (fun _ => False) ∧ ∀ g, blockOf a = some g → w.heap.size ≤ g

set_option maxHeartbeats 400000 in
theorem list_calls {G : Gh} {S : Sh} {w : World} (h : IsShelf w G S) (hm : S.now.length ≤ Big) :
    Calls Try.prog 16 #[.pointer (some ⟨G.sb, 0, none⟩)] w (ListP w S) := by
  have c5 : w.cell? ⟨G.sb, 5, none⟩ = some (.bool S.off) := (cell_of_heap h.cells 5).trans rfl
  have c0 : w.cell? ⟨G.sb, 0, none⟩ = some (.map (some G.nb)) := (cell_of_heap h.cells 0).trans rfl
  have H := Lib.hid h
  cases ho : S.off with
  | true =>
    have hl : listed S = [] := by simp [listed, ho]
    have HL := Lib.hid hl
    rw [ho] at c5
    clear h ho hl
    go_enter Try.func16, Try.ntmps16
    go_wp2
    go_ret
    exact ⟨none, 0, [], rfl, by rw [HL.out], Row.nil _ _ _, Upd.refl _ _, fun g hg => by cases hg⟩
  | false =>
    have hl : listed S = S.now.map (·.1) := by simp [listed, ho]
    have HL := Lib.hid hl
    rw [ho] at c5
    obtain ⟨D, hown, T⟩ := h.now
    have hsz := T.size
    have HP := Lib.hid (keys_perm hown T keyT Try.underlying9)
    have hK := Lib.hid (fun W => callsIn_wide.1 (Try.maps_Keys_39 (some G.nb) W))
    have hS := Lib.hid (callsIn_wide.1 (Try.slices_Sorted_keys_38_39 G.nb _ D refElem w hown (by rw [hsz]; unfold Big at hm; unfold maxLen; omega) (by rw [hsz]; unfold Big at hm; omega)))
    clear h ho hl hown T hsz hm
    go_enter Try.func16, Try.ntmps16
    go_wp2_with (first
      | (go_at_call 39; refine (hK.out _).mono ?_; rintro e w1 ⟨rfl, rfl⟩)
      | (go_at_call 38; refine hS.out.mono ?_; rintro e w2 ⟨v, ss, rfl, hp, hrow, hnil, hb⟩; have HQ := Lib.hid hp; have HR := Lib.hid hrow; have HB := Lib.hid hb; clear hp hrow hnil hb)
      | go_in)
    go_ret
    have hu : Upd w w2 (fun _ => False) := ((Upd.refl w (fun _ => False)).alloc _).trans (Upd.of_below HB.out _) (fun _ _ h => h)
    obtain ⟨hlen, hcase⟩ := HR.out
    have hll : (ss.mergeSort (fun x y => decide (x ≤ y))).length = ss.length := (List.mergeSort_perm _ _).length_eq
    have hpm : (ss.mergeSort (fun x y => decide (x ≤ y))).Perm (listed S) := by rw [HL.out]; exact ((List.mergeSort_perm _ _).trans HQ.out).trans HP.out.symm
    rcases hcase with ⟨rfl, hz⟩ | ⟨g, cap, cur, rfl, hg, hbk, h1, h2, h3, h4⟩
    · refine ⟨none, 0, ss.mergeSort (fun x y => decide (x ≤ y)), by rw [hll, hz]; rfl, hpm, ?_, hu, fun g hg => by cases hg⟩
      have : ss.mergeSort (fun x y => decide (x ≤ y)) = [] := List.eq_nil_of_length_eq_zero (hll.trans hz)
      rw [this]
      exact Row.nil _ _ _
    · refine ⟨some ⟨g, 0, none⟩, cap, ss.mergeSort (fun x y => decide (x ≤ y)), by rw [hll]; rfl, hpm, ⟨by simp, .inr ⟨g, cur, rfl, hbk, by rw [hll]; exact h1, h2, by omega, ?_⟩⟩, hu, fun k hk => ?_⟩
      · rw [hll, h4]
        rfl
      · simp [blockOf] at hk
        subst hk
        simp at hg
        omega

theorem new_ref (room : Int) (w : World) (Fs : Nat → Prop) (hF : ∀ k, Fs k → k < w.heap.size) :
    Calls Try.prog 11 #[.int .i64 room] w (fun e w' => ∃ X : RSh, e = .returned X.v ∧ RefOk w' Fs 1 X ∧ Upd w w' (fun _ => False)) := by
  go_enter Try.func11, Try.ntmps11
  go_wp2
  have hb := heap_alloc_new (w.alloc (.cells #[.slice none 0 0, .slice none 0 0, .slice (some ⟨w.heap.size + 1, 0, none⟩) 1 1, .int .i64 room, .int .i64 (-1), .bool false, .int .i64 0] 35)) (.cells #[.slice none 0 0] 32)
  have hz : (w.alloc (.cells #[.slice none 0 0, .slice none 0 0, .slice (some ⟨w.heap.size + 1, 0, none⟩) 1 1, .int .i64 room, .int .i64 (-1), .bool false, .int .i64 0] 35)).heap.size = w.heap.size + 1 := by simp
  rw [hz] at hb
  refine bodyPost_ret (v := .agg #[.slice none 0 0, .slice none 0 0, .slice (some ⟨w.heap.size + 1, 0, none⟩) 1 1, .int .i64 room, .int .i64 (-1), .bool false, .int .i64 0]) (by simp [results, Try.results11, go_sem]) rfl
    ⟨⟨none, 0, [], ⟨none, 0, []⟩, some ⟨w.heap.size + 1, 0, none⟩, 1, [⟨none, 0, []⟩], room, -1, false, 0⟩, rfl, ?_, ((Upd.refl _ _).alloc _).alloc _⟩
  have hn : ∀ n, NmOk ((w.alloc (.cells #[.slice none 0 0, .slice none 0 0, .slice (some ⟨w.heap.size + 1, 0, none⟩) 1 1, .int .i64 room, .int .i64 (-1), .bool false, .int .i64 0] 35)).alloc (.cells #[.slice none 0 0] 32)) Fs n ⟨none, 0, []⟩ :=
    fun n => ⟨Row.nil _ _ _, Off.nil, fun r hr => nomatch hr⟩
  exact {
    L := Row.nil _ _ _
    loff := Off.nil
    files := fun x hx => nomatch hx
    now := hn _
    nown := Nat.zero_le _
    W := ⟨rfl, .inr ⟨_, _, rfl, hb, Nat.le_refl _, (by decide : 1 ≤ maxLen), by simp, rfl⟩⟩
    woff := Off.fresh hF (Nat.le_succ _)
    was := fun x hx => by
      simp at hx
      subst hx
      exact ⟨hn _, Nat.zero_le _⟩
    was1 := by simp
    was2 := by simp
    l2 := by simp
    left := ⟨by show (-1 : Int) ≤ -1; omega, by show (-1 : Int) ≤ _; omega⟩ }

def nmOf (n : Nat) : Nm := match n % 6 with | 0 => [97] | 1 => [98] | 2 => [99, 46, 49] | 3 => [100] | 4 => [69] | _ => []
theorem nmOf_le (n : Nat) : (nmOf n).length ≤ 3 := by unfold nmOf; split <;> decide
theorem nmOf_z (n : Nat) : nmOf n ≠ [122] := by unfold nmOf; split <;> decide
theorem name_law (n : Nat) (hn : n < 256) (w : World) :
    Calls Try.prog 23 #[.int .u8 n] w (fun e w' => e = .returned (.string ⟨(nmOf n).toArray⟩) ∧ Upd w w' (fun _ => False)) := by
  have h1 : (0 : Int) ≤ n := by omega
  have h2 : (n : Int) ≤ 255 := by omega
  obtain ⟨m, hm, hm6⟩ : ∃ m : Nat, n % 6 = m ∧ m < 6 := ⟨_, rfl, by omega⟩
  have hmi : (n : Int) % 6 = (m : Int) := by omega
  have hw : ∀ x : Obj, Upd w (w.alloc x) (fun _ => False) := fun x => (Upd.refl _ _).alloc _
  have h6 : m = 0 ∨ m = 1 ∨ m = 2 ∨ m = 3 ∨ m = 4 ∨ m = 5 := by omega
  go_enter Try.func23, Try.ntmps23
  go_wp2
  go_ret
  refine ⟨?_, hw _⟩
  unfold nmOf
  rw [hm]
  rcases h6 with rfl | rfl | rfl | rfl | rfl | rfl <;> rfl
end Go.Proofs.Ytpmbeeddciepjaa
