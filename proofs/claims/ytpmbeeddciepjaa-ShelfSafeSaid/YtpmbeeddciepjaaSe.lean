/- The laws' arguments, opened. -/
import Derived.Test.YtpmbeeddciepjaaSd
import Derived.ProofKit
import Derived.OpenShut
import Derived.ChangeOld
import Derived.Deep.Slices
namespace Go.Proofs.Ytpmbeeddciepjaa
open Go.ChangeShapes Go.WideShapes Go.RowKit Go.Deep
set_option linter.unusedSimpArgs false
set_option linter.unusedVariables false
section
variable {H : Type} {enc : TypeId × Value → H} {w : World} {base : Nat} {spare : Nat → Bool} {held : Bool} {fuel : Nat}
theorem open_bytes {a : Option Addr} {n c : Nat} {x : DataW H × List MemPlace} (h : DataW.trod enc Try.prog w base spare held fuel 22 [.slice a n c] = some x) :
    ∃ p : List UInt8, p.length = n ∧ Rd w 1 a n (encB p) ∧ n ≤ maxLen := by
  rcases open_ints Try.underlying22 Try.underlying5 (by kernel_rfl) h with ⟨hcs, _⟩ | ⟨ad, l, cap, zs, hcs, _, hl, hm, hz, _, hcell, hwz⟩
  · simp at hcs
    obtain ⟨rfl, rfl, rfl⟩ := hcs
    exact ⟨[], rfl, ⟨rfl, fun j u hj => by simp [encB] at hj⟩, Nat.zero_le _⟩
  · simp at hcs
    obtain ⟨rfl, rfl, rfl⟩ := hcs
    have hzl : n ≤ zs.length := by rw [hz]; split <;> omega
    refine ⟨(zs.take n).map (fun z => UInt8.ofNat z.toNat), by simp; omega, ⟨by simp [encB]; omega, fun j u hj => ?_⟩, by omega⟩
    simp only [encB, List.map_map, List.getElem?_map, Option.map_eq_some_iff] at hj
    obtain ⟨z, hzj, rfl⟩ := hj
    rw [List.getElem?_take] at hzj
    split at hzj
    · have hjl : j < zs.length := (List.getElem?_eq_some_iff.1 hzj).1
      have hc := hcell j hjl
      have hg : zs.getD j 0 = z := by simp [List.getD, hzj]
      rw [hg] at hc
      have hb := bounds_u8 (hwz z (List.mem_of_getElem? hzj))
      have hlt := World.block_lt_of_cell? _ _ hc
      have hbk : (ad.add j).block = ad.block := by unfold Addr.add; split <;> rfl
      rw [hbk] at hlt
      refine ⟨ad, rfl, hlt, ?_⟩
      rw [hc]
      have : ((UInt8.ofNat z.toNat).toNat : Int) = z := by
        rw [UInt8.toNat_ofNat_of_lt' (by have := hb.2; show z.toNat < 256; omega)]
        omega
      simp only [Function.comp_apply, this]
    · cases hzj
theorem spot_none {a : Addr} {v : Value} (h : w.cell? (a.add 0) = some v) : a.spot = none := by
  have h1 := World.cell?_spot h
  unfold Addr.add at h1
  rw [if_pos rfl] at h1
  exact h1
theorem list5 {α : Type} {l : List α} (h : l.length = 5) : ∃ a b c d e, l = [a, b, c, d, e] := by
  match l, h with
  | [a, b, c, d, e], _ => exact ⟨a, b, c, d, e, rfl⟩
theorem open_acts {aa : Option Addr} {n c : Nat} {x : DataW H × List MemPlace} (h : DataW.trod enc Try.prog w base spare held fuel 23 [.slice aa n c] = some x) :
    ∃ xs : List LAct, xs.length = n ∧ ActsOk w aa xs := by
  have hC : Try.prog.cellsOf 38 = 5 := by kernel_rfl
  have c1 : Try.prog.cellsOf 5 = 1 := by kernel_rfl
  have c3 : Try.prog.cellsOf 3 = 1 := by kernel_rfl
  have c22 : Try.prog.cellsOf 22 = 1 := by kernel_rfl
  rcases open_slice Try.underlying23 h with ⟨hcs, _⟩ | ⟨a, len, cap, m, n', D, Pl, hcs, hb, hl, hm, hmm, hx, hi⟩
  · simp at hcs
    obtain ⟨rfl, rfl, rfl⟩ := hcs
    exact ⟨[], rfl, fun k x hk => by simp at hk, fun x hx => by simp at hx, Nat.zero_le _⟩
  · simp at hcs
    obtain ⟨rfl, rfl, rfl⟩ := hcs
    have hnm : n ≤ m := by rw [hmm]; split <;> omega
    have hspot : ∀ {i}, i < n → a.spot = none := fun {i} hin => by
      obtain ⟨cs', hc', ht'⟩ := hi 0 (by omega)
      obtain ⟨_, hlen, hat⟩ := World.cells?_some hc'
      have d0 := hat 0 (by rw [hC]; omega)
      rw [add_add, Nat.zero_mul] at d0
      rw [hC] at hlen
      obtain ⟨v0, v1, v2, v3, v4, rfl⟩ := list5 hlen
      exact spot_none (d0.trans rfl)
    have key : ∀ i, i < n → ∃ x : LAct, (∃ ab ao, a = ⟨ab, ao, none⟩ ∧ ab < w.heap.size ∧ ∀ (j : Nat) (v : Value), (encAct x)[j]? = some v → w.cell? ⟨ab, ao + i * 5 + j, none⟩ = some v) ∧ ActOk0 w x := by
      intro i hin
      obtain ⟨cs', hc', ht'⟩ := hi i (by omega)
      rw [hC] at hc'
      obtain ⟨ys, n2, _, _, hlen, hyl, hf⟩ := DataW.trod_struct Try.underlying38 ht'
      rw [hC] at hlen
      obtain ⟨_, _, hat⟩ := World.cells?_some hc'
      obtain ⟨v0, v1, v2, v3, v4, rfl⟩ := list5 hlen
      have h0 : DataW.trod enc Try.prog w base spare held n2 5 (([v0, v1, v2, v3, v4].drop 0).take (Try.prog.cellsOf 5)) = ys[0]? := hf 0 _ rfl
      rw [c1] at h0
      have h1 : DataW.trod enc Try.prog w base spare held n2 5 (([v0, v1, v2, v3, v4].drop 1).take (Try.prog.cellsOf 5)) = ys[1]? := hf 1 _ rfl
      rw [c1] at h1
      have h2 : DataW.trod enc Try.prog w base spare held n2 5 (([v0, v1, v2, v3, v4].drop 2).take (Try.prog.cellsOf 5)) = ys[2]? := hf 2 _ rfl
      rw [c1] at h2
      have h3 : DataW.trod enc Try.prog w base spare held n2 3 (([v0, v1, v2, v3, v4].drop 3).take (Try.prog.cellsOf 3)) = ys[3]? := hf 3 _ rfl
      rw [c3] at h3
      have h4 : DataW.trod enc Try.prog w base spare held n2 22 (([v0, v1, v2, v3, v4].drop 4).take (Try.prog.cellsOf 22)) = ys[4]? := hf 4 _ rfl
      rw [c22] at h4
      obtain ⟨y0, y1, y2, y3, y4, rfl⟩ := list5 hyl
      obtain ⟨z0, e0, -, w0⟩ := DataW.trod_int Try.underlying5 (h0.trans rfl)
      obtain ⟨z1, e1, -, w1⟩ := DataW.trod_int Try.underlying5 (h1.trans rfl)
      obtain ⟨z2, e2, -, w2⟩ := DataW.trod_int Try.underlying5 (h2.trans rfl)
      obtain ⟨z3, e3, -, w3⟩ := DataW.trod_int Try.underlying3 (h3.trans rfl)
      obtain rfl : v0 = _ := by simpa using e0
      obtain rfl : v1 = _ := by simpa using e1
      obtain rfl : v2 = _ := by simpa using e2
      obtain rfl : v3 = _ := by simpa using e3
      have b0 := bounds_u8 w0
      have b1 := bounds_u8 w1
      have b2 := bounds_u8 w2
      have b3 := bounds_i64 w3
      obtain ⟨pa, pn, pc, hv4⟩ : ∃ pa pn pc, v4 = .slice pa pn pc := by
        rcases DataW.trod_slice Try.underlying22 (h4.trans rfl) with ⟨e, _⟩ | ⟨a4, l4, c4, _, _, _, _, e, _⟩
        · simp at e; exact ⟨_, _, _, e⟩
        · simp at e; exact ⟨_, _, _, e⟩
      subst hv4
      obtain ⟨p, hp, hrd, hpm⟩ := open_bytes (h4.trans rfl)
      subst hp
      have d0 := hat 0 (by omega)
      have hsp := hspot hin
      have hlt := World.block_lt_of_cell? _ _ d0
      obtain ⟨ab, ao, sp⟩ := a
      simp only at hsp
      subst hsp
      rw [add_add, Addr.add_lit] at hlt
      refine ⟨⟨z0.toNat, z1.toNat, z2.toNat, z3, pa, pc, p⟩, ⟨ab, ao, rfl, hlt, fun j v hj => ?_⟩, ⟨by show z0.toNat < 256; omega, by show z1.toNat < 256; omega, by show z2.toNat < 256; omega, by show _ ≤ z3; omega, by show z3 ≤ _; omega, hrd, hpm⟩⟩
      have hj5 : j < 5 := (List.getElem?_eq_some_iff.1 hj).1
      have dj := hat j hj5
      rw [add_add, Addr.add_lit, ← Nat.add_assoc] at dj
      rw [dj, ← hj]
      unfold encAct
      rw [show ((z0.toNat : Nat) : Int) = z0 by omega, show ((z1.toNat : Nat) : Int) = z1 by omega, show ((z2.toNat : Nat) : Int) = z2 by omega]
    classical
    have : ∃ f : Nat → LAct, ∀ i, i < n → (∃ ab ao, a = ⟨ab, ao, none⟩ ∧ ab < w.heap.size ∧ ∀ (j : Nat) (v : Value), (encAct (f i))[j]? = some v → w.cell? ⟨ab, ao + i * 5 + j, none⟩ = some v) ∧ ActOk0 w (f i) := by
      refine ⟨fun i => if hi : i < n then Classical.choose (key i hi) else ⟨0, 0, 0, 0, none, 0, []⟩, fun i hi => ?_⟩
      simp only [dif_pos hi]
      exact Classical.choose_spec (key i hi)
    obtain ⟨f, hf⟩ := this
    refine ⟨(List.range n).map f, by simp, fun k x hk => ?_, fun x hx => ?_, by simp; omega⟩
    · obtain ⟨i, hi', rfl⟩ := Option.map_eq_some_iff.1 (by rwa [List.getElem?_map] at hk)
      have hkn : k < n := by have := (List.getElem?_eq_some_iff.1 hi').1; simpa using this
      have : i = k := by rw [List.getElem?_range hkn] at hi'; simpa using hi'.symm
      subst this
      obtain ⟨ab, ao, e, h1, h2⟩ := (hf i hkn).1
      exact ⟨ab, ao, by rw [e], h1, h2⟩
    · obtain ⟨i, hi', rfl⟩ := List.mem_map.1 hx
      exact (hf i (List.mem_range.1 hi')).2
end
end Go.Proofs.Ytpmbeeddciepjaa
