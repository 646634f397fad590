/- The model of a shelf: what it holds, as plain data; and what it means that a block of a heap is one. -/
import Derived.Test.YtpmbeeddciepjaaB
import Derived.Test.YtpmbeeddciepjaaRows
import Derived.Shelf.GgClosure.StringsIndexFunc
namespace Go.Proofs.Ytpmbeeddciepjaa
open Go.RowKit Go.Maps

structure File where
  p : List UInt8
  safe : Nat
structure Mv where
  name : Nm
  b : Option Nat
  frm : Nm
structure Sh where
  fs : List File
  now : List (Nm × Nat)
  old : List (Nm × Nat)
  moves : List Mv
  room : Int
  left : Int
  off : Bool
  done : Int

/-- Each once. -/
def dedup : List Nat → List Nat
  | [] => []
  | x :: r => if x ∈ r then dedup r else x :: dedup r
theorem mem_dedup (i : Nat) : ∀ l : List Nat, i ∈ dedup l ↔ i ∈ l
  | [] => Iff.rfl
  | x :: r => by
    unfold dedup
    split
    · rename_i hx
      rw [mem_dedup i r, List.mem_cons]
      exact ⟨.inr, fun h => h.elim (fun e => e ▸ hx) id⟩
    · rw [List.mem_cons, List.mem_cons, mem_dedup i r]
theorem nodup_dedup : ∀ l : List Nat, (dedup l).Nodup
  | [] => List.nodup_nil
  | x :: r => by
    unfold dedup
    split
    · exact nodup_dedup r
    · rename_i hx
      exact List.nodup_cons.2 ⟨fun h => hx ((mem_dedup x r).1 h), nodup_dedup r⟩

namespace Sh
def act (S : Sh) : Sh × Bool :=
  if S.off = true ∨ S.left = 0 then ({ S with off := true }, false) else ({ S with left := max (S.left - 1) (-1), done := wrap64 (S.done + 1) }, true)
def badRune (x : Nat) : Bool := !((decide (97 ≤ x) && decide (x ≤ 122)) || (decide (48 ≤ x) && decide (x ≤ 57)) || x == 46)
def nameOk (s : Nm) : Bool := decide (s ≠ []) && decide (s.length ≤ 32) && decide (Lib.idxFunc badRune true ⟨s.toArray⟩ < 0)
def setTo (S : Sh) (name : Nm) : Option Nat → Sh
  | none => { S with now := del S.now name, moves := S.moves ++ [⟨name, none, []⟩] }
  | some i => { S with now := put S.now name i, moves := S.moves ++ [⟨name, some i, []⟩] }
def lenOf (S : Sh) (i : Nat) : Nat := match S.fs[i]? with | some f => f.p.length | none => 0
def ids (S : Sh) : List Nat := dedup (S.old.map (·.2) ++ S.moves.filterMap (·.b))
def used (S : Sh) : Nat := (S.ids.map S.lenOf).sum
def setFile (S : Sh) (i : Nat) (f : File) : Sh := { S with fs := S.fs.set i f }
def create (S : Sh) (name : Nm) : Sh × Int :=
  if nameOk name = false then (S, 1) else
  if S.act.2 = false then (S.act.1, 7) else
  if (look S.now name).isSome then (S.act.1, 9) else
  (({ S.act.1 with fs := S.fs ++ [⟨[], 0⟩] } : Sh).setTo name (some S.fs.length), 0)
def append (S : Sh) (name : Nm) (p : List UInt8) : Sh × Int :=
  if S.act.2 = false then (S.act.1, 7) else
  match look S.now name with
  | none => (S.act.1, 2)
  | some i => if (p.length : Int) > S.room - S.used then (S.act.1, 3) else
    match S.fs[i]? with
    | none => (S.act.1, 0)
    | some f => (S.act.1.setFile i { f with p := f.p ++ p }, 0)
def sync (S : Sh) (name : Nm) : Sh × Int :=
  if S.act.2 = false then (S.act.1, 7) else
  match look S.now name with
  | none => (S.act.1, 2)
  | some i => match S.fs[i]? with
    | none => (S.act.1, 0)
    | some f => (S.act.1.setFile i { f with safe := f.p.length }, 0)
def names (S : Sh) : Sh × Int :=
  if S.act.2 = false then (S.act.1, 7) else ({ S.act.1 with old := S.now, moves := [] }, 0)
def rename (S : Sh) (frm to : Nm) : Sh × Int :=
  if nameOk to = false then (S, 1) else
  if S.act.2 = false then (S.act.1, 7) else
  match look S.now frm with
  | none => (S.act.1, 2)
  | some i => if frm = to then (S.act.1, 0) else ({ S.act.1 with now := del (put S.now to i) frm, moves := S.moves ++ [⟨to, some i, frm⟩] }, 0)
def delete (S : Sh) (name : Nm) : Sh × Int :=
  if S.act.2 = false then (S.act.1, 7) else
  if (look S.now name).isSome = false then (S.act.1, 2) else (S.act.1.setTo name none, 0)
def cut (S : Sh) (name : Nm) (n : Int) : Sh × Int :=
  if S.act.2 = false then (S.act.1, 7) else
  match look S.now name with
  | none => (S.act.1, 2)
  | some i => if n < 0 ∨ n > S.lenOf i then (S.act.1, 1) else
    match S.fs[i]? with
    | none => (S.act.1, 0)
    | some f => (S.act.1.setFile i ⟨f.p.take n.toNat, n.toNat⟩, 0)
def read (S : Sh) (name : Nm) : List UInt8 × Int :=
  if S.off = true then ([], 7) else
  match look S.now name with
  | none => ([], 2)
  | some i => match S.fs[i]? with
    | none => ([], 2)
    | some f => (f.p, 0)
/-- One move, as a fall redoes it. -/
def redo (m : List (Nm × Nat)) (v : Mv) : List (Nm × Nat) :=
  del (match v.b with | none => del m v.name | some i => put m v.name i) v.frm
def lost (bytes : Int) (f : File) : File :=
  let n := min f.p.length (f.safe + (min (max bytes 0) f.p.length).toNat)
  ⟨f.p.take n, n⟩
def fallNow (S : Sh) (names : Int) : List (Nm × Nat) := (S.moves.take (min (max names 0) S.moves.length).toNat).foldl redo S.old
def fallFiles (S : Sh) (now : List (Nm × Nat)) (bytes : Int) : List File :=
  S.fs.mapIdx (fun i f => if now.any (fun p => p.2 == i) then lost bytes f else f)
def fall (S : Sh) (names bytes : Int) : Sh :=
  { S with fs := S.fallFiles (S.fallNow names) bytes, now := S.fallNow names, old := S.fallNow names, moves := [], off := false, left := -1 }
end Sh

/-- Where the parts of a shelf lie. -/
structure Gh where
  sb : Nat
  nb : Nat
  ob : Nat
  mva : Option Addr
  mvc : Nat
  bl : List Nat
  ba : List (Option Addr × Nat)
inductive Role where
  | sh | now | old | mv
  | file (i : Nat)
  | arr (i : Nat)
def Gh.blk (G : Gh) : Role → Option Nat
  | .sh => some G.sb
  | .now => some G.nb
  | .old => some G.ob
  | .mv => blockOf G.mva
  | .file i => G.bl[i]?
  | .arr i => (G.ba[i]?).bind (fun x => blockOf x.1)
def Gh.own (G : Gh) (k : Nat) : Prop := ∃ r, G.blk r = some k

def encB (p : List UInt8) : List Value := p.map (fun b => Value.int .u8 b.toNat)
def strV (s : Nm) : Value := .string ⟨s.toArray⟩
def ptrV (bl : List Nat) : Option Nat → Value
  | none => .pointer none
  | some i => .pointer (some ⟨bl.getD i 0, 0, none⟩)
def encMv (bl : List Nat) (m : Mv) : List Value := [strV m.name, ptrV bl m.b, strV m.frm]

def FileIs (w : World) (b : Nat) (a : Option Addr) (c : Nat) (f : File) : Prop :=
  w.heap[b]? = some (.cells #[.slice a f.p.length c, .int .i64 f.safe] 57 (0, 0)) ∧ Row w 5 1 a f.p.length c (encB f.p) ∧ f.p.length ≤ Big ∧ f.safe ≤ f.p.length

structure IsShelf (w : World) (G : Gh) (S : Sh) : Prop where
  cells : w.heap[G.sb]? = some (.cells #[.map (some G.nb), .map (some G.ob), .slice G.mva S.moves.length G.mvc, .int .i64 S.room, .int .i64 S.left, .bool S.off, .int .i64 S.done] 52 (0, 0))
  now : MapIs Try.prog 9 w G.nb G.bl S.now
  old : MapIs Try.prog 9 w G.ob G.bl S.old
  mv : Row w 71 3 G.mva S.moves.length G.mvc (S.moves.flatMap (encMv G.bl))
  mvlt : ∀ m ∈ S.moves, ∀ i, m.b = some i → i < G.bl.length
  lbl : G.bl.length = S.fs.length
  lba : G.ba.length = S.fs.length
  file : ∀ (i b : Nat) (a : Option Addr) (c : Nat) (f : File), G.bl[i]? = some b → G.ba[i]? = some (a, c) → S.fs[i]? = some f → FileIs w b a c f
  apart : ∀ (r r' : Role) (k : Nat), G.blk r = some k → G.blk r' = some k → r = r'
  left1 : -1 ≤ S.left
  left2 : S.left ≤ 9223372036854775807
  small : ∀ m ∈ S.moves, m.name.length ≤ Big ∧ m.frm.length ≤ Big

/-- What becomes of a shelf: it stands where it stood, and of what was there nothing but its own has turned. -/
def After (w w' : World) (G : Gh) (S' : Sh) : Prop :=
  ∃ G', IsShelf w' G' S' ∧ G'.sb = G.sb ∧ Upd w w' G.own ∧ ∀ k, G'.own k → G.own k ∨ w.heap.size ≤ k

theorem FileIs.upd {w w' : World} {b : Nat} {a : Option Addr} {c : Nat} {f : File} {F : Nat → Prop} (h : FileIs w b a c f) (hu : Upd w w' F) (h1 : ¬ F b) (h2 : ∀ g, blockOf a = some g → ¬ F g) : FileIs w' b a c f :=
  ⟨hu.heap h.1 h1, h.2.1.upd hu h2, h.2.2⟩

section
variable {w w' : World} {G : Gh} {S : Sh}
theorem IsShelf.lt (h : IsShelf w G S) {r : Role} {k : Nat} (hr : G.blk r = some k) : k < w.heap.size := by
  cases r with
  | sh => cases hr; exact lt_of_heap h.cells
  | now => cases hr; exact h.now.lt
  | old => cases hr; exact h.old.lt
  | mv => exact h.mv.lt hr
  | file i =>
    have hi : i < G.bl.length := (List.getElem?_eq_some_iff.1 hr).1
    have h1 : i < S.fs.length := by have := h.lbl; omega
    have h2 : i < G.ba.length := by have := h.lba; omega
    exact lt_of_heap (h.file i k _ _ _ hr (List.getElem?_eq_getElem h2) (List.getElem?_eq_getElem h1)).1
  | arr i =>
    simp only [Gh.blk] at hr
    cases hx : G.ba[i]? with
    | none => rw [hx] at hr; cases hr
    | some x =>
      rw [hx] at hr
      have h2 : i < G.ba.length := (List.getElem?_eq_some_iff.1 hx).1
      have h1 : i < S.fs.length := by have := h.lba; omega
      have h3 : i < G.bl.length := by have := h.lbl; omega
      exact (h.file i _ x.1 x.2 _ (List.getElem?_eq_getElem h3) hx (List.getElem?_eq_getElem h1)).2.1.lt hr
theorem IsShelf.own_lt (h : IsShelf w G S) {k : Nat} (hk : G.own k) : k < w.heap.size := by obtain ⟨r, hr⟩ := hk; exact h.lt hr
/-- The parts stay what they are while blocks that aren't theirs are written. -/
theorem IsShelf.upd {F : Nat → Prop} (h : IsShelf w G S) (hu : Upd w w' F) (hn : ∀ k, G.own k → ¬ F k) : IsShelf w' G S where
  cells := hu.heap h.cells (hn _ ⟨.sh, rfl⟩)
  now := h.now.upd hu (hn _ ⟨.now, rfl⟩)
  old := h.old.upd hu (hn _ ⟨.old, rfl⟩)
  mv := h.mv.upd hu (fun g hg => hn _ ⟨.mv, hg⟩)
  mvlt := h.mvlt
  lbl := h.lbl
  lba := h.lba
  file := fun i b a c f h1 h2 h3 => (h.file i b a c f h1 h2 h3).upd hu (hn _ ⟨.file i, h1⟩) (fun g hg => hn _ ⟨.arr i, by simp [Gh.blk, h2, hg]⟩)
  apart := h.apart
  left1 := h.left1
  left2 := h.left2
  small := h.small
/-- The numbers alone are others. -/
theorem IsShelf.head (h : IsShelf w G S) (room left done : Int) (off : Bool) (hu : Upd w w' (fun k => k = G.sb)) (hl1 : -1 ≤ left) (hl2 : left ≤ 9223372036854775807)
    (hc : w'.heap[G.sb]? = some (.cells #[.map (some G.nb), .map (some G.ob), .slice G.mva S.moves.length G.mvc, .int .i64 room, .int .i64 left, .bool off, .int .i64 done] 52 (0, 0))) :
    IsShelf w' G { S with room := room, left := left, off := off, done := done } where
  cells := hc
  now := h.now.upd hu (fun e => by cases h.apart .now .sh _ rfl (by rw [e]; rfl))
  old := h.old.upd hu (fun e => by cases h.apart .old .sh _ rfl (by rw [e]; rfl))
  mv := h.mv.upd hu (fun g hg e => by cases h.apart .mv .sh _ hg (by rw [e]; rfl))
  mvlt := h.mvlt
  lbl := h.lbl
  lba := h.lba
  file := fun i b a c f h1 h2 h3 => (h.file i b a c f h1 h2 h3).upd hu (fun e => by cases h.apart (.file i) .sh _ h1 (by rw [e]; rfl)) (fun g hg e => by cases h.apart (.arr i) .sh g (by simp [Gh.blk, h2, hg]) (by rw [e]; rfl))
  apart := h.apart
  left1 := hl1
  left2 := hl2
  small := h.small
theorem IsShelf.ne (h : IsShelf w G S) {r r' : Role} {k k' : Nat} (hr : G.blk r = some k) (hr' : G.blk r' = some k') (hne : r ≠ r') : k ≠ k' :=
  fun e => hne (h.apart r r' k hr (e ▸ hr'))
/-- The names' part has turned: the map of names as they are, and what was done to them. -/
theorem IsShelf.turned (h : IsShelf w G S) {m : List (Nm × Nat)} {mv : List Mv} {a : Option Addr} {c : Nat}
    (hu : Upd w w' (fun k => k = G.sb ∨ k = G.nb ∨ blockOf G.mva = some k))
    (hc : w'.heap[G.sb]? = some (.cells #[.map (some G.nb), .map (some G.ob), .slice a mv.length c, .int .i64 S.room, .int .i64 S.left, .bool S.off, .int .i64 S.done] 52 (0, 0)))
    (hnow : MapIs Try.prog 9 w' G.nb G.bl m) (hmv : Row w' 71 3 a mv.length c (mv.flatMap (encMv G.bl)))
    (hlt : ∀ x ∈ mv, ∀ i, x.b = some i → i < G.bl.length) (hsm : ∀ x ∈ mv, x.name.length ≤ Big ∧ x.frm.length ≤ Big) (ha : blockOf a = blockOf G.mva ∨ ∃ f, blockOf a = some f ∧ w.heap.size ≤ f ∨ blockOf a = none) :
    After w w' G { S with now := m, moves := mv } := by
  have hblk : ∀ r k, Gh.blk { G with mva := a, mvc := c } r = some k → G.blk r = some k ∨ (r = .mv ∧ w.heap.size ≤ k) := by
    intro r k hr
    cases r with
    | mv =>
      rcases ha with ha | ⟨f, ⟨hf, hl⟩ | hf⟩
      · exact .inl (ha.symm.trans hr)
      · have : blockOf a = some k := hr
        rw [hf] at this
        cases this
        exact .inr ⟨rfl, hl⟩
      · have : blockOf a = some k := hr
        rw [hf] at this
        cases this
    | _ => exact .inl hr
  refine ⟨{ G with mva := a, mvc := c }, ?_, rfl, hu.mono (fun k _ hk => ?_), fun k hk => ?_⟩
  · exact {
      cells := hc
      now := hnow
      old := h.old.upd hu (fun e => by
        rcases e with e | e | e
        · exact h.ne (r := .old) (r' := .sh) rfl rfl (by simp) e
        · exact h.ne (r := .old) (r' := .now) rfl rfl (by simp) e
        · exact h.ne (r := .mv) (r' := .old) e rfl (by simp) rfl)
      mv := hmv
      mvlt := hlt
      lbl := h.lbl
      lba := h.lba
      file := fun i b a c f h1 h2 h3 => (h.file i b a c f h1 h2 h3).upd hu
        (fun e => by
          rcases e with e | e | e
          · exact h.ne (r := .file i) (r' := .sh) h1 rfl (by simp) e
          · exact h.ne (r := .file i) (r' := .now) h1 rfl (by simp) e
          · exact h.ne (r := .mv) (r' := .file i) e h1 (by simp) rfl)
        (fun g hg e => by
          have hr : G.blk (.arr i) = some g := by simp [Gh.blk, h2, hg]
          rcases e with e | e | e
          · exact h.ne (r := .arr i) (r' := .sh) hr rfl (by simp) e
          · exact h.ne (r := .arr i) (r' := .now) hr rfl (by simp) e
          · exact h.ne (r := .mv) (r' := .arr i) e hr (by simp) rfl)
      apart := fun r r' k hr hr' => by
        rcases hblk r k hr with h1 | ⟨rfl, h1⟩
        · rcases hblk r' k hr' with h2 | ⟨rfl, h2⟩
          · exact h.apart r r' k h1 h2
          · have := h.lt h1; omega
        · rcases hblk r' k hr' with h2 | ⟨rfl, h2⟩
          · have := h.lt h2; omega
          · rfl
      left1 := h.left1
      left2 := h.left2
      small := hsm }
  · rcases hk with rfl | rfl | hk
    · exact ⟨.sh, rfl⟩
    · exact ⟨.now, rfl⟩
    · exact ⟨.mv, hk⟩
  · obtain ⟨r, hr⟩ := hk
    rcases hblk r k hr with h1 | ⟨_, h1⟩
    · exact .inl ⟨r, h1⟩
    · exact .inr h1
theorem After.refl (h : IsShelf w G S) : After w w G S := ⟨G, h, rfl, Upd.refl _ _, fun _ h => .inl h⟩
theorem After.trans {w1 w2 : World} {S' : Sh} (hG : ∀ G1, IsShelf w1 G1 S → G1.sb = G.sb → After w1 w2 G1 S') (h1 : After w w1 G S) : After w w2 G S' := by
  obtain ⟨G1, i1, e1, u1, o1⟩ := h1
  obtain ⟨G2, i2, e2, u2, o2⟩ := hG G1 i1 e1
  refine ⟨G2, i2, e2.trans e1, u1.trans u2 (fun k hk ho => ?_), fun k hk => ?_⟩
  · rcases o1 k ho with h | h
    · exact h
    · omega
  · rcases o2 k hk with h | h
    · exact o1 k h
    · exact .inr (Nat.le_trans u1.size h)
end
end Go.Proofs.Ytpmbeeddciepjaa
