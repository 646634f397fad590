/- The plain law: how much a shelf holds behind so many acts; the shelf with which ShelfSafe begins. -/
import Derived.Test.YtpmbeeddciepjaaSa
namespace Go.Proofs.Ytpmbeeddciepjaa
open Go.RowKit
set_option linter.unusedSimpArgs false
set_option linter.unusedVariables false

structure Small2 (S : Sh) (N : Nat) : Prop where
  s : SmallS S N
  om : S.old.length + S.moves.length ≤ N
theorem len_del (m : List (Nm × Nat)) (s : Nm) : (del m s).length ≤ m.length := List.length_filter_le _ _
theorem len_put (m : List (Nm × Nat)) (s : Nm) (i : Nat) : (put m s i).length ≤ m.length + 1 := by
  have := len_del m s
  unfold put
  rw [List.length_cons]
  omega
theorem Small2.mk' {S : Sh} {N : Nat} (h1 : S.fs.length ≤ N) (h2 : S.now.length ≤ N) (h3 : S.old.length + S.moves.length ≤ N) (h4 : ∀ (i : Nat) (f : File), S.fs[i]? = some f → f.p.length ≤ 100 * N) (h5 : 0 ≤ S.room) (h6 : S.room ≤ 1048576) : Small2 S N :=
  ⟨⟨h1, h2, by omega, by omega, h4, h5, h6⟩, h3⟩
section
variable {S : Sh} {N : Nat}
theorem Small2.act (h : Small2 S N) : Small2 S.act.1 N :=
  Small2.mk' (by rw [act_fs]; exact h.s.fs) (by rw [act_now]; exact h.s.now) (by rw [act_old, act_moves]; exact h.om) (by rw [act_fs]; exact h.s.p) (by rw [act_room]; exact h.s.room1) (by rw [act_room]; exact h.s.room2)
theorem Small2.up (h : Small2 S N) : Small2 S (N + 1) :=
  Small2.mk' (by have := h.s.fs; omega) (by have := h.s.now; omega) (by have := h.om; omega) (fun i f hf => by have := h.s.p i f hf; omega) h.s.room1 h.s.room2
theorem Small2.set (h : Small2 S N) (s : Nm) (b : Option Nat) : Small2 (S.setTo s b) (N + 1) := by
  have h1 := h.s.fs
  have h2 := h.s.now
  have h3 := h.om
  cases b with
  | none => exact Small2.mk' (by show S.fs.length ≤ _; omega) (by show (del S.now s).length ≤ _; have := len_del S.now s; omega) (by show S.old.length + (S.moves ++ [_]).length ≤ _; simp; omega) (fun i f hf => by have := h.s.p i f hf; omega) h.s.room1 h.s.room2
  | some j => exact Small2.mk' (by show S.fs.length ≤ _; omega) (by show (put S.now s j).length ≤ _; have := len_put S.now s j; omega) (by show S.old.length + (S.moves ++ [_]).length ≤ _; simp; omega) (fun i f hf => by have := h.s.p i f hf; omega) h.s.room1 h.s.room2
theorem Small2.setFile (h : Small2 S N) (i : Nat) (f : File) (hf : f.p.length ≤ 100 * N) : Small2 (S.setFile i f) N :=
  Small2.mk' (by show (S.fs.set i f).length ≤ _; rw [List.length_set]; exact h.s.fs) h.s.now h.om (fun j g hg => by
    rcases List.mem_or_eq_of_mem_set (List.mem_of_getElem? hg) with hm | rfl
    · obtain ⟨k, hk⟩ := List.mem_iff_getElem?.1 hm
      exact h.s.p k g hk
    · exact hf) h.s.room1 h.s.room2
theorem len_redo (m : List (Nm × Nat)) (v : Mv) : (Sh.redo m v).length ≤ m.length + 1 := by
  unfold Sh.redo
  refine Nat.le_trans (len_del _ _) ?_
  cases v.b with
  | none => have := len_del m v.name; dsimp only; omega
  | some i => exact len_put _ _ _
theorem len_redos : ∀ (l : List Mv) (m : List (Nm × Nat)), (l.foldl Sh.redo m).length ≤ m.length + l.length
  | [], m => Nat.le_refl _
  | v :: r, m => by
    have h1 := len_redos r (Sh.redo m v)
    have h2 := len_redo m v
    simp only [List.foldl_cons, List.length_cons]
    omega
theorem len_fall (S : Sh) (names : Int) : (S.fallNow names).length ≤ S.old.length + S.moves.length := by
  unfold Sh.fallNow
  have h1 := len_redos (S.moves.take (min (max names 0) S.moves.length).toNat) S.old
  have h2 : (S.moves.take (min (max names 0) S.moves.length).toNat).length ≤ S.moves.length := by rw [List.length_take]; omega
  omega
theorem lost_len (bytes : Int) (f : File) : (Sh.lost bytes f).p.length ≤ f.p.length := by
  unfold Sh.lost
  simp only [List.length_take]
  omega
theorem Small2.do_ (h : Small2 S N) (x : LAct) (hx : x.p.length ≤ 60) : Small2 (doS S x) (N + 1) := by
  unfold doS
  split
  · unfold Sh.create
    split
    · exact h.up
    split
    · exact h.act.up
    split
    · exact h.act.up
    · have h1 := h.s.fs
      have h2 := h.s.now
      have h3 := h.om
      refine Small2.mk' ?_ ?_ ?_ (fun i f hf => ?_) ?_ ?_
      · show (S.fs ++ [_]).length ≤ _
        simp
        omega
      · show (put S.act.1.now _ _).length ≤ _
        rw [act_now]
        have := len_put S.now (nmOf x.a) S.fs.length
        omega
      · show S.act.1.old.length + (S.act.1.moves ++ [_]).length ≤ _
        rw [act_old, act_moves]
        simp
        omega
      · have hf : (S.fs ++ [(⟨[], 0⟩ : File)])[i]? = some f := hf
        rcases List.mem_append.1 (List.mem_of_getElem? hf) with hm | hm
        · obtain ⟨k, hk⟩ := List.mem_iff_getElem?.1 hm
          have := h.s.p k f hk
          omega
        · simp at hm
          subst hm
          simp
      · show 0 ≤ S.act.1.room
        rw [act_room]
        exact h.s.room1
      · show S.act.1.room ≤ _
        rw [act_room]
        exact h.s.room2
  split
  · unfold Sh.append
    split
    · exact h.act.up
    split
    · exact h.act.up
    split
    · exact h.act.up
    split
    · exact h.act.up
    · rename_i f hf
      refine h.act.up.setFile _ _ ?_
      have := h.s.p _ f hf
      simp
      omega
  split
  · unfold Sh.sync
    split
    · exact h.act.up
    split
    · exact h.act.up
    split
    · exact h.act.up
    · rename_i f hf
      refine h.act.up.setFile _ _ ?_
      have := h.s.p _ f hf
      dsimp only
      omega
  split
  · unfold Sh.names
    split
    · exact h.act.up
    · exact Small2.mk' h.act.up.s.fs h.act.up.s.now (by have := h.s.now; show S.now.length + 0 ≤ _; omega) h.act.up.s.p h.act.up.s.room1 h.act.up.s.room2
  split
  · unfold Sh.rename
    split
    · exact h.up
    split
    · exact h.act.up
    split
    · exact h.act.up
    split
    · exact h.act.up
    · rename_i i _ _
      have h2 := h.s.now
      have h3 := h.om
      refine Small2.mk' h.act.up.s.fs ?_ ?_ h.act.up.s.p h.act.up.s.room1 h.act.up.s.room2
      · show (del (put S.now _ _) _).length ≤ _
        have h4 := len_del (put S.now (nmOf x.b) i) (nmOf x.a)
        have h5 := len_put S.now (nmOf x.b) i
        omega
      · show S.act.1.old.length + (S.moves ++ [_]).length ≤ _
        rw [act_old]
        simp
        omega
  split
  · unfold Sh.delete
    split
    · exact h.act.up
    split
    · exact h.act.up
    · exact h.act.set _ none
  split
  · unfold Sh.cut
    split
    · exact h.act.up
    split
    · exact h.act.up
    split
    · exact h.act.up
    split
    · exact h.act.up
    · rename_i f hf
      refine h.act.up.setFile _ _ ?_
      have := h.s.p _ f hf
      simp
      omega
  split
  · exact Small2.mk' h.up.s.fs h.up.s.now h.up.om h.up.s.p h.s.room1 h.s.room2
  · have h1 := len_fall S x.n
    have h3 := h.om
    refine Small2.mk' ?_ ?_ ?_ (fun i f hf => ?_) h.s.room1 h.s.room2
    · show (S.fallFiles _ _).length ≤ _
      unfold Sh.fallFiles
      rw [List.length_mapIdx]
      exact h.up.s.fs
    · show (S.fallNow _).length ≤ _
      omega
    · show (S.fallNow _).length + 0 ≤ _
      omega
    · have hf : (S.fallFiles (S.fallNow x.n) x.b)[i]? = some f := hf
      unfold Sh.fallFiles at hf
      rw [List.getElem?_mapIdx] at hf
      obtain ⟨g, hg, rfl⟩ := Option.map_eq_some_iff.1 hf
      have h5 := h.s.p i g hg
      split
      · have := lost_len x.b g
        omega
      · omega
end
/-- The shelf with which ShelfSafe begins. -/
def zStart (p : List UInt8) : Sh := { fs := [⟨p, p.length⟩], now := [(Zz, 0)], old := [(Zz, 0)], moves := [], room := 1048576, left := -1, off := false, done := 4 }
theorem z_ok : Sh.nameOk Zz = true := by decide
theorem w1 : wrap64 (0 + 1) = 1 := by unfold wrap64; omega
theorem w2 : wrap64 (1 + 1) = 2 := by unfold wrap64; omega
theorem w3 : wrap64 (2 + 1) = 3 := by unfold wrap64; omega
theorem w4 : wrap64 (3 + 1) = 4 := by unfold wrap64; omega
theorem act_on (S : Sh) (h1 : S.off = false) (h2 : S.left = -1) : S.act = ({ S with left := -1, off := false, done := wrap64 (S.done + 1) }, true) := by
  unfold Sh.act
  rw [h1, h2]
  rfl
theorem z_create : (Sh.new 1048576).create Zz = ({ fs := [⟨[], 0⟩], now := [(Zz, 0)], old := [], moves := [⟨Zz, some 0, []⟩], room := 1048576, left := -1, off := false, done := 1 }, 0) := by
  unfold Sh.create
  rw [z_ok, act_on _ rfl rfl]
  show (({ fs := [⟨[], 0⟩], now := [(Zz, 0)], old := [], moves := [⟨Zz, some 0, []⟩], room := 1048576, left := -1, off := false, done := wrap64 (0 + 1) } : Sh), (0 : Int)) = _
  rw [w1]
theorem z_append (p : List UInt8) (hp : p.length ≤ 100) : ({ fs := [⟨[], 0⟩], now := [(Zz, 0)], old := [], moves := [⟨Zz, some 0, []⟩], room := 1048576, left := -1, off := false, done := 1 } : Sh).append Zz p =
    ({ fs := [⟨p, 0⟩], now := [(Zz, 0)], old := [], moves := [⟨Zz, some 0, []⟩], room := 1048576, left := -1, off := false, done := 2 }, 0) := by
  unfold Sh.append
  rw [act_on _ rfl rfl]
  have h : ¬ (p.length : Int) > 1048576 - ((0 : Nat) : Int) := by omega
  show (if (p.length : Int) > 1048576 - ((0 : Nat) : Int) then _ else _) = _
  rw [if_neg h]
  show (({ fs := [⟨p, 0⟩], now := [(Zz, 0)], old := [], moves := [⟨Zz, some 0, []⟩], room := 1048576, left := -1, off := false, done := wrap64 (1 + 1) } : Sh), (0 : Int)) = _
  rw [w2]
theorem z_sync (p : List UInt8) : ({ fs := [⟨p, 0⟩], now := [(Zz, 0)], old := [], moves := [⟨Zz, some 0, []⟩], room := 1048576, left := -1, off := false, done := 2 } : Sh).sync Zz =
    ({ fs := [⟨p, p.length⟩], now := [(Zz, 0)], old := [], moves := [⟨Zz, some 0, []⟩], room := 1048576, left := -1, off := false, done := 3 }, 0) := by
  unfold Sh.sync
  rw [act_on _ rfl rfl]
  show (({ fs := [⟨p, p.length⟩], now := [(Zz, 0)], old := [], moves := [⟨Zz, some 0, []⟩], room := 1048576, left := -1, off := false, done := wrap64 (2 + 1) } : Sh), (0 : Int)) = _
  rw [w3]
theorem z_names (p : List UInt8) : ({ fs := [⟨p, p.length⟩], now := [(Zz, 0)], old := [], moves := [⟨Zz, some 0, []⟩], room := 1048576, left := -1, off := false, done := 3 } : Sh).names = (zStart p, 0) := by
  unfold Sh.names
  rw [act_on _ rfl rfl]
  show (({ fs := [⟨p, p.length⟩], now := [(Zz, 0)], old := [(Zz, 0)], moves := [], room := 1048576, left := -1, off := false, done := wrap64 (3 + 1) } : Sh), (0 : Int)) = _
  rw [w4]
  rfl
theorem z_safe (p : List UInt8) : SafeZ (zStart p) p 0 :=
  ⟨rfl, rfl, rfl, fun q hq _ => by simp [zStart] at hq; rw [hq], fun q hq _ => by simp [zStart] at hq; rw [hq], fun m hm => (nomatch hm), fun m hm => (nomatch hm), fun m hm => (nomatch hm)⟩
theorem z_small (p : List UInt8) (hp : p.length ≤ 100) : Small2 (zStart p) 1 :=
  Small2.mk' (Nat.le_refl _) (Nat.le_refl _) (Nat.le_refl _) (fun i f hf => by
    have hm := List.mem_of_getElem? hf
    simp [zStart] at hm
    subst hm
    simpa using hp) (by show (0 : Int) ≤ 1048576; omega) (by show (1048576 : Int) ≤ 1048576; omega)
/-- What is read of it behind a fall. -/
theorem z_read {S : Sh} {p : List UInt8} {i : Nat} (h : SafeZ S p i) (names bytes : Int) : (S.fall names bytes).read Zz = (p, 0) := by
  have h1 := h.fall names bytes
  have ho : (S.fall names bytes).off = false := rfl
  unfold Sh.read
  rw [ho, h1.now]
  simp only [Bool.false_eq_true, if_false, h1.file]
end Go.Proofs.Ytpmbeeddciepjaa
