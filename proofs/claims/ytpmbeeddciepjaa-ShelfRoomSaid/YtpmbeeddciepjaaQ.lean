/- Walks: Fall. -/
import Derived.Test.YtpmbeeddciepjaaP
import Derived.Deep.CutBlock
import Derived.Deep.DeepCutAuto
namespace Go.Proofs.Ytpmbeeddciepjaa
open Go.RowKit Go.Maps Go.Sort
set_option linter.unusedSimpArgs false
set_option linter.unusedVariables false

theorem lost_lost (b : Int) (f : File) : Sh.lost b (Sh.lost b f) = Sh.lost b f := by
  unfold Sh.lost
  simp only [List.length_take]
  have h : ∀ n : Nat, n ≤ f.p.length → min (min n f.p.length) (n + (min (max b 0) ((min n f.p.length : Nat) : Int)).toNat) = n := fun n hn => by omega
  have hn : min f.p.length (f.safe + (min (max b 0) f.p.length).toNat) ≤ f.p.length := Nat.min_le_left _ _
  rw [h _ hn, List.take_take, Nat.min_self]
theorem redo_len (m : List (Nm × Nat)) (v : Mv) : (Sh.redo m v).length ≤ m.length + 1 := by
  have hd : ∀ (m : List (Nm × Nat)) (s : Nm), (del m s).length ≤ m.length := fun m s => List.length_filter_le _ _
  unfold Sh.redo
  cases v.b with
  | none => have h1 := hd (del m v.name) v.frm; have h2 := hd m v.name; simp only; omega
  | some i => have h1 := hd (put m v.name i) v.frm; have h2 := hd m v.name; simp only [put, List.length_cons] at h1 ⊢; omega
theorem redo_all_len : ∀ (l : List Mv) (m : List (Nm × Nat)), (l.foldl Sh.redo m).length ≤ m.length + l.length
  | [], m => Nat.le_refl _
  | v :: r, m => by
    have h1 := redo_all_len r (Sh.redo m v)
    have h2 := redo_len m v
    simp only [List.foldl_cons, List.length_cons]
    omega

/-- The first loop of a fall: the names as the first so many moves leave them. -/
structure Fl1 (w wr : World) (G : Gh) (S : Sh) (mb k : Nat) : Prop where
  shelf : IsShelf wr G S
  map : MapIs Try.prog 9 wr mb G.bl ((S.moves.take k).foldl Sh.redo S.old)
  upd : Upd w wr (fun _ => False)
theorem Fl1.step {w wr w5 : World} {G : Gh} {S : Sh} {k : Nat} {m : Mv} (h : Fl1 w wr G S w.heap.size k) (hm : S.moves[k]? = some m) (hmap : MapIs Try.prog 9 w5 w.heap.size G.bl (Sh.redo ((S.moves.take k).foldl Sh.redo S.old) m)) (hu : Upd wr w5 (fun x => x = w.heap.size)) (hI : IsShelf w G S) :
    Fl1 w w5 G S w.heap.size (k + 1) := by
  refine ⟨h.shelf.upd hu (fun x hx e => by have := hI.own_lt hx; omega), ?_, h.upd.trans hu (fun x hx e => by omega)⟩
  rw [take_next hm, List.foldl_append]
  exact hmap
theorem keyOfN (s : Nm) (h : s.length ≤ Big) : keyOf Try.prog 9 (.string ⟨s.toArray⟩) = some (.string (⟨s.toArray⟩ : ByteArray).data.toList) := keyOfS (by show s.toArray.size ≤ Big; simpa using h)

/-- How many of the moves stay. -/
def stay (S : Sh) (names : Int) : Nat := (min (max names 0) S.moves.length).toNat

/-- The second loop of a fall: the files that names lead to that have come already have lost what they lose. -/
structure Fl2 (w wr : World) (G : Gh) (S : Sh) (m : List (Nm × Nat)) (bytes : Int) (left : Lit → Bool) (ba1 : List (Option Addr × Nat)) (fs1 : List File) : Prop where
  shelf : IsShelf wr { G with ba := ba1 } { S with fs := fs1 }
  own : ∀ r, Gh.blk { G with ba := ba1 } r = G.blk r
  len : fs1.length = S.fs.length
  some_ : ∀ (i : Nat) (f : File), S.fs[i]? = some f → (∃ s, look m s = some i ∧ left (.string s) = false) → fs1[i]? = some (Sh.lost bytes f)
  none_ : ∀ (i : Nat) (f : File), S.fs[i]? = some f → (¬ ∃ s, look m s = some i ∧ left (.string s) = false) → fs1[i]? = some f
  upd : Upd w wr G.own
theorem fl2_start {w wo w0 : World} {G : Gh} {S : Sh} {D : DataW Unit} {m : List (Nm × Nat)} {bytes : Int} (hT : Tells D G.bl m) (hI : IsShelf wo G S) (hU : Upd w wo (fun _ => False)) (hg : wo.grownBy w0 none) :
    Fl2 w w0 G S m bytes (Maps.has D) G.ba S.fs := by
  have hu : Upd wo w0 (fun _ => False) := Upd.of_grown hg (fun k hk => nomatch hk)
  refine ⟨hI.upd hu (fun _ _ h => h), fun _ => rfl, rfl, fun i f hf ⟨s, hs, hl⟩ => ?_, fun i f hf _ => hf, (hU.trans hu (fun _ _ h => h)).mono (fun _ _ h => h.elim)⟩
  rw [hT.has, hs] at hl
  cases hl
theorem Fl2.next {w wr w3 : World} {G : Gh} {S : Sh} {m : List (Nm × Nat)} {bytes : Int} {left : Lit → Bool} {ba1 : List (Option Addr × Nat)} {fs1 : List File} {r : Nat} (h : Fl2 w wr G S m bytes left ba1 fs1) (hr : w.heap.size ≤ r) (hI : IsShelf w G S) (hg : wr.grownBy w3 (some r)) :
    Fl2 w w3 G S m bytes left ba1 fs1 := by
  have hu : Upd wr w3 (fun k => k = r) := Upd.of_grown hg (fun k hk => by injection hk with e; exact e.symm)
  refine ⟨h.shelf.upd hu (fun k ⟨x, hx⟩ e => ?_), h.own, h.len, h.some_, h.none_, h.upd.trans hu (fun k hk e => by omega)⟩
  have := hI.lt ((h.own x).symm.trans hx)
  omega
theorem Fl2.fileAt {w wr : World} {G : Gh} {S : Sh} {m : List (Nm × Nat)} {bytes : Int} {left : Lit → Bool} {ba1 : List (Option Addr × Nat)} {fs1 : List File} (h : Fl2 w wr G S m bytes left ba1 fs1) {i b : Nat} (hb : G.bl[i]? = some b) :
    ∃ a c f1, ba1[i]? = some (a, c) ∧ fs1[i]? = some f1 ∧ FileIs wr b a c f1 := by
  have hi : i < G.bl.length := (List.getElem?_eq_some_iff.1 hb).1
  have h1 : i < fs1.length := by rw [← h.shelf.lbl]; exact hi
  have h2 : i < ba1.length := by rw [h.shelf.lba]; exact h1
  exact ⟨(ba1[i]).1, (ba1[i]).2, fs1[i], List.getElem?_eq_getElem h2, List.getElem?_eq_getElem h1, h.shelf.file i b _ _ _ hb (List.getElem?_eq_getElem h2) (List.getElem?_eq_getElem h1)⟩

theorem Fl2.step {w w3 w4 : World} {G : Gh} {S : Sh} {m : List (Nm × Nat)} {bytes : Int} {left : Lit → Bool} {ba1 : List (Option Addr × Nat)} {fs1 : List File} {i b c n : Nat} {a : Option Addr} {f1 : File} {x : Nm}
    (h : Fl2 w w3 G S m bytes left ba1 fs1) (hb : G.bl[i]? = some b) (hba : ba1[i]? = some (a, c)) (hff : fs1[i]? = some f1) (hfi : FileIs w3 b a c f1) (hi : look m x = some i) (hl : (⟨f1.p.take n, n⟩ : File) = Sh.lost bytes f1)
    (hu : Upd w3 w4 (fun k => k = b)) (hc : w4.heap[b]? = some (.cells #[.slice a n n, .int .i64 n] 57 (0, 0))) (hn : n ≤ f1.p.length) :
    Fl2 w w4 G S m bytes (fun z => left z && !z.sameKey (.string x)) (ba1.set i (a, n)) (fs1.set i ⟨f1.p.take n, n⟩) := by
  have ht : (f1.p.take n).length = n := by rw [List.length_take]; omega
  have hne : ∀ g, blockOf a = some g → g ≠ b := fun g hg => h.shelf.ne (r := .arr i) (r' := .file i) (by simp [Gh.blk, hba, hg]) hb (by simp)
  have hcap := hfi.2.1.cap
  have hfile : FileIs w4 b a n ⟨f1.p.take n, n⟩ := by
    refine ⟨?_, ?_, ?_, ?_⟩
    · rw [ht]; exact hc
    · rw [ht]
      have hr := (hfi.2.1.cut hn (Nat.le_refl n) (Nat.le_trans hn hcap)).upd hu hne
      rw [Nat.mul_one, encB, ← List.map_take] at hr
      exact hr
    · rw [ht]; exact Nat.le_trans hn hfi.2.2.1
    · rw [ht]; exact Nat.le_refl n
  obtain ⟨h1, h2, _⟩ := h.shelf.setFileAt (i := i) (a' := a) (c' := n) hb hba hff (hu.mono (fun _ _ h => .inl h)) hfile (.inl rfl)
  have hil : i < ba1.length := (List.getElem?_eq_some_iff.1 hba).1
  have hif : i < fs1.length := (List.getElem?_eq_some_iff.1 hff).1
  have hvis : ∀ j, (∃ s, look m s = some j ∧ (left (.string s) && !(Lit.string s).sameKey (.string x)) = false) ↔ ((∃ s, look m s = some j ∧ left (.string s) = false) ∨ j = i) := by
    intro j
    constructor
    · rintro ⟨s, hs, hf⟩
      by_cases e : s = x
      · subst e
        rw [hi] at hs
        cases hs
        exact .inr rfl
      · refine .inl ⟨s, hs, ?_⟩
        rw [sameKey_ne (ne_of_nm e)] at hf
        simpa using hf
    · rintro (⟨s, hs, hf⟩ | rfl)
      · exact ⟨s, hs, by simp [hf]⟩
      · exact ⟨x, hi, by rw [WideAt.sameKey_self (isKeyStr x)]; simp⟩
  have hlost : ∀ f, S.fs[i]? = some f → Sh.lost bytes f1 = Sh.lost bytes f := by
    intro f hf
    by_cases hv : ∃ s, look m s = some i ∧ left (.string s) = false
    · have := h.some_ i f hf hv
      rw [hff] at this
      cases this
      exact lost_lost bytes f
    · have := h.none_ i f hf hv
      rw [hff] at this
      cases this
      rfl
  refine ⟨h1, fun r => ?_, by rw [List.length_set]; exact h.len, fun j f hf hv => ?_, fun j f hf hv => ?_, h.upd.trans hu (fun k hk e => ?_)⟩
  · rw [← h.own r]
    cases r with
    | arr j =>
      simp only [Gh.blk]
      rw [List.getElem?_set]
      split
      · rename_i e
        subst e
        rw [hba]
        first | rfl | (simp; done) | (rw [if_pos hil]; rfl)
      · rfl
    | _ => rfl
  · rw [hvis] at hv
    rw [List.getElem?_set]
    by_cases e : i = j
    · subst e
      rw [if_pos rfl, if_pos hif, hl, hlost f hf]
    · rw [if_neg e]
      exact h.some_ j f hf (hv.elim id (fun e' => absurd e'.symm e))
  · rw [hvis] at hv
    rw [List.getElem?_set, if_neg (fun e => hv (.inr e.symm))]
    exact h.none_ j f hf (fun hx => hv (.inl hx))
  · subst e
    exact ⟨.file i, hb⟩

theorem Fl2.done {w wr w6 w7 : World} {G : Gh} {S : Sh} {m : List (Nm × Nat)} {bytes : Int} {left : Lit → Bool} {ba1 : List (Option Addr × Nat)} {fs1 : List File}
    (h : Fl2 w wr G S m bytes left ba1 fs1) (hI : IsShelf w G S) (hl : ∀ kl, left kl = false) (hm : MapIs Try.prog 9 wr w.heap.size G.bl m) (hm6 : MapIs Try.prog 9 w6 wr.heap.size G.bl m) (hu6 : Upd wr w6 (fun _ => False)) (hsz : w.heap.size < wr.heap.size)
    (hs : Upd w6 w7 (fun x => x = G.sb)) (hc : w7.heap[G.sb]? = some (.cells #[.map (some w.heap.size), .map (some wr.heap.size), .slice none 0 0, .int .i64 S.room, .int .i64 (-1), .bool false, .int .i64 S.done] 52 (0, 0))) :
    After w w7 G { S with fs := S.fallFiles m bytes, now := m, old := m, moves := [], off := false, left := -1 } := by
  have hlen : (S.fallFiles m bytes).length = S.fs.length := by unfold Sh.fallFiles; simp
  have hvis : ∀ i, (∃ s, look m s = some i ∧ left (.string s) = false) ↔ m.any (fun p => p.2 == i) = true := by
    intro i
    rw [List.any_eq_true]
    constructor
    · rintro ⟨s, hs, _⟩
      exact ⟨_, mem_of_look hs, by simp⟩
    · rintro ⟨p, hp, e⟩
      have e : p.2 = i := by simpa using e
      subst e
      exact ⟨p.1, look_of_mem hm.nodup hp, hl _⟩
  have hfs : fs1 = S.fallFiles m bytes := by
    refine List.ext_getElem? (fun i => ?_)
    unfold Sh.fallFiles
    rw [List.getElem?_mapIdx]
    cases hf : S.fs[i]? with
    | none =>
      have : S.fs.length ≤ i := List.getElem?_eq_none_iff.1 hf
      rw [List.getElem?_eq_none (by rw [h.len]; exact this)]
      rfl
    | some f =>
      by_cases hv : ∃ s, look m s = some i ∧ left (.string s) = false
      · rw [h.some_ i f hf hv]
        simp only [Option.map_some]
        rw [if_pos ((hvis i).1 hv)]
      · rw [h.none_ i f hf hv]
        simp only [Option.map_some]
        rw [if_neg (fun e => hv ((hvis i).2 e))]
  subst hfs
  have hUp : Upd wr w7 (fun x => x = G.sb) := (hu6.mono (fun _ _ h => h.elim)).trans hs (fun _ _ h => h)
  have h1 := h.shelf
  have hblk : ∀ r k, Gh.blk { G with ba := ba1, nb := w.heap.size, ob := wr.heap.size, mva := none, mvc := 0 } r = some k → (G.blk r = some k ∧ r ≠ .now ∧ r ≠ .old) ∨ (r = .now ∧ k = w.heap.size) ∨ (r = .old ∧ k = wr.heap.size) := by
    intro r k hr
    cases r with
    | now => cases hr; exact .inr (.inl ⟨rfl, rfl⟩)
    | old => cases hr; exact .inr (.inr ⟨rfl, rfl⟩)
    | mv => simp [Gh.blk, blockOf] at hr
    | sh => exact .inl ⟨hr, by simp, by simp⟩
    | file i => exact .inl ⟨hr, by simp, by simp⟩
    | arr i => exact .inl ⟨(h.own (.arr i)).symm.trans hr, by simp, by simp⟩
  have far : ∀ r k, Gh.blk { G with ba := ba1 } r = some k → r ≠ .sh → ¬ (k = G.sb) := fun r k hr hne e => h1.ne hr (r' := .sh) rfl hne e
  have hlt0 := h1.lt (r := .sh) rfl
  refine ⟨{ G with ba := ba1, nb := w.heap.size, ob := wr.heap.size, mva := none, mvc := 0 }, ?_, rfl, h.upd.trans hUp (fun k hk e => ⟨.sh, by rw [e]; rfl⟩), fun k hk => ?_⟩
  · have hsb := hI.lt (r := .sh) rfl
    exact {
      cells := hc
      now := hm.upd hUp (by omega)
      old := hm6.upd hs (by omega)
      mv := Row.nil _ _ _
      mvlt := fun m hm => by cases hm
      lbl := h1.lbl
      lba := h1.lba
      file := fun i b a c f g1 g2 g3 => (h1.file i b a c f g1 g2 g3).upd hUp (far (.file i) _ g1 (by simp)) (fun g hg => far (.arr i) g (by simp only [Gh.blk]; rw [show ba1[i]? = some (a, c) from g2]; exact hg) (by simp))
      apart := fun r r' k hr hr' => by
        rcases hblk r k hr with ⟨q1, q2, q3⟩ | ⟨rfl, q1⟩ | ⟨rfl, q1⟩
        · rcases hblk r' k hr' with ⟨p1, p2, p3⟩ | ⟨rfl, p1⟩ | ⟨rfl, p1⟩
          · exact hI.apart r r' k q1 p1
          · have := hI.lt q1; omega
          · have := hI.lt q1; omega
        · rcases hblk r' k hr' with ⟨p1, p2, p3⟩ | ⟨rfl, p1⟩ | ⟨rfl, p1⟩
          · have := hI.lt p1; omega
          · rfl
          · omega
        · rcases hblk r' k hr' with ⟨p1, p2, p3⟩ | ⟨rfl, p1⟩ | ⟨rfl, p1⟩
          · have := hI.lt p1; omega
          · omega
          · rfl
      left1 := by show (-1 : Int) ≤ -1; decide
      left2 := by show (-1 : Int) ≤ 9223372036854775807; decide
      small := fun m hm => nomatch hm }
  · obtain ⟨r, hr⟩ := hk
    rcases hblk r k hr with ⟨q1, _, _⟩ | ⟨_, q1⟩ | ⟨_, q1⟩
    · exact .inl ⟨r, q1⟩
    · exact .inr (by omega)
    · exact .inr (by omega)

set_option maxRecDepth 20000 in
set_option maxHeartbeats 1000000 in
theorem fall_calls {G : Gh} {S : Sh} {w : World} (h : IsShelf w G S) (names bytes : Int) (hml : S.old.length + S.moves.length < Big) :
    Calls Try.prog 13 #[.pointer (some ⟨G.sb, 0, none⟩), .int .i64 names, .int .i64 bytes] w fun e w' => e = .returned (.tuple #[]) ∧ After w w' G (S.fall names bytes) := by
  have hml' : S.moves.length < 1099511627776 := by unfold Big at hml; omega
  have H := Lib.hid h
  have c1 : w.cell? ⟨G.sb, 1, none⟩ = some (.map (some G.ob)) := (cell_of_heap h.cells 1).trans rfl
  rcases h.mv.2 with ⟨hg, hz, hz2⟩ | ⟨g, cur, hg, hx, hy, _⟩
  · have HGG := Lib.hid hg
    have hcap : S.moves.length ≤ G.mvc := by omega
    clear hg h
    go_enter Try.func13, Try.ntmps13
    go_wp2_with (first
        | (go_at_call 22; refine (clone_map (G := G) H.out.old).mono ?_; rintro e w1 ⟨rfl, hm1, hu1⟩; have HM1 := Lib.hid hm1; have HC1 := Lib.hid (hu1.heap H.out.cells (fun h => h)); have c2 : w1.cell? ⟨G.sb, 2, none⟩ = some (.slice none S.moves.length G.mvc) := (cell_of_heap HC1.out 2).trans (by rw [HGG.out]; rfl); clear hm1 c1)
        | go_in)
    obtain ⟨nn, hnn⟩ : ∃ nn, nn = stay S names := ⟨_, rfl⟩
    have hnl : nn ≤ S.moves.length := by rw [hnn]; unfold stay; omega
    have hcast : min (max names 0) (S.moves.length : Int) = (nn : Int) := by rw [hnn]; unfold stay; omega
    have HNN := Lib.hid hnn
    have hmx : max (nn : Int) 0 = nn := by omega
    clear hnn
    go_quiet (fail)
    clear hcast hmx c2
    have hfl0 : Fl1 w (w1.drewN nq) G S w.heap.size 0 := ⟨H.out.upd (hu1.drewN nq) (fun _ _ h => h), HM1.out.upd ((Upd.refl w1 (fun _ => False)).drewN nq) (fun h => h), hu1.drewN nq⟩
    have hw1s : w.heap.size < (w1.drewN nq).heap.size := HM1.out.lt
    generalize w1.drewN nq = w2 at hfl0 hw1s ⊢
    have HFL0 := Lib.hid hfl0
    clear hfl0
    go_wp2_with fail
    go_loopw [33] (fun iv wr => ∃ k : Nat, k ≤ nn ∧ iv = .int .i64 k ∧ Fl1 w wr G S w.heap.size k) (fun iv _ => nn - (intOf iv).toNat)
    case atStart => exact ⟨0, Nat.zero_le _, rfl, HFL0.out⟩
    case round =>
      obtain ⟨k, hk, rfl, hfl⟩ := hrel
      have HFL := Lib.hid hfl
      have HLT := Lib.hid hfl.map.lt
      clear hfl
      by_cases hlt : k < nn
      · exfalso
        omega
      · have hke : k = nn := by omega
        subst hke
        obtain ⟨names1, hnames1⟩ : ∃ m, m = (S.moves.take k).foldl Sh.redo S.old := ⟨_, rfl⟩
        obtain ⟨D, hD, hT⟩ := HFL.out.map
        have hfu := HFL.out.upd
        have hfs := HFL.out.shelf
        rw [← hnames1] at hD hT
        have HNM := Lib.hid hnames1
        have HD := Lib.hid hD
        have HT := Lib.hid hT
        have HLW := Lib.hid (show w.heap.size < wr.heap.size from hD.lt)
        clear hD hT hnames1
        obtain ⟨wo, rfl⟩ : ∃ wo : World, wo = wr := ⟨_, rfl⟩
        go_wp2_with (first
        | (at_range; refine wpList_range_own _ rfl _ 49 rfl 9 54 keyT Try.underlying49 refElem w.heap.size _ D rfl HD.out ?_; intro w0 hrg0 hg0 hs0; have HRG0 := Lib.hid hrg0; have HG0 := Lib.hid hg0; have HS0 := Lib.hid hs0; clear hrg0 hg0 hs0)
        | go_in)
        go_frame
        have hf20 := fl2_start (bytes := bytes) HT.out hfs hfu HG0.out
        clear hfs hfu
        go_loopw [54] (fun _ wr => ∃ (left : Lit → Bool) (cnt : Nat) (ba1 : List (Option Addr × Nat)) (fs1 : List File), wr.ranges Try.prog 9 refElem w.heap.size wo.heap.size names1.length D left cnt ∧ Fl2 w wr G S names1 bytes left ba1 fs1) (fun _ wr => wr.rangeLeft w.heap.size wo.heap.size)
        case atStart => exact ⟨_, _, _, _, HRG0.out, hf20⟩
        case round =>
          obtain ⟨left, cnt, ba1, fs1, hrg, hf2⟩ := hrel
          have HRG := Lib.hid hrg
          have HF2 := Lib.hid hf2
          clear hrg hf2 hf20
          go_wp2_with (first
            | (at_next; refine wpList_next_ranges _ rfl _ rfl 9 keyT refElem encStr optPtr invKey invPtr w.heap.size wo.heap.size names1.length D left cnt rfl HRG.out ?_ ?_)
            | go_in)
          · intro hc0 hl0
            have HL0 := Lib.hid hl0
            have HMD := Lib.hid (show MapIs Try.prog 9 wr w.heap.size G.bl names1 from ⟨D, HRG.out.owns, HT.out⟩)
            clear hc0 hl0
            go_wp2_with (first
        | (go_at_call 22; refine (clone_map (G := G) HMD.out).mono ?_; rintro e w6 ⟨rfl, hm6, hu6⟩; have HM6 := Lib.hid hm6; have HC6 := Lib.hid (hu6.heap HF2.out.shelf.cells (fun h => h)); have k0 : w6.cell? ⟨G.sb, 0, none⟩ = some (.map (some G.nb)) := (cell_of_heap HC6.out 0).trans rfl; have k1 : w6.cell? ⟨G.sb, 1, none⟩ = some (.map (some G.ob)) := (cell_of_heap HC6.out 1).trans rfl; have k2 : w6.cell? ⟨G.sb, 2, none⟩ = some (.slice G.mva S.moves.length G.mvc) := (cell_of_heap HC6.out 2).trans rfl; have k4 : w6.cell? ⟨G.sb, 4, none⟩ = some (.int .i64 S.left) := (cell_of_heap HC6.out 4).trans rfl; have k5 : w6.cell? ⟨G.sb, 5, none⟩ = some (.bool S.off) := (cell_of_heap HC6.out 5).trans rfl; have z0 : w6.frozen? ⟨G.sb, 0, none⟩ = false := free_of_heap HC6.out 0; have z1 : w6.frozen? ⟨G.sb, 1, none⟩ = false := free_of_heap HC6.out 1; have z2 : w6.frozen? ⟨G.sb, 2, none⟩ = false := free_of_heap HC6.out 2; have z4 : w6.frozen? ⟨G.sb, 4, none⟩ = false := free_of_heap HC6.out 4; have z5 : w6.frozen? ⟨G.sb, 5, none⟩ = false := free_of_heap HC6.out 5; clear hm6)
        | go_in)
            go_end0
            refine ⟨rfl, ?_⟩
            have hs6 : Upd w6 (((((w6.setCell ⟨G.sb, 0, none⟩ (.map (some w.heap.size))).setCell ⟨G.sb, 1, none⟩ (.map (some wr.heap.size))).setCell ⟨G.sb, 2, none⟩ (.slice none 0 0)).setCell ⟨G.sb, 5, none⟩ (.bool false)).setCell ⟨G.sb, 4, none⟩ (.int .i64 (-1))) (fun x => x = G.sb) :=
              (((((Upd.refl w6 (fun x => x = G.sb)).put (.inl rfl)).put (.inl rfl)).put (.inl rfl)).put (.inl rfl)).put (.inl rfl)
            have hc6 := heap_setCell_same (i := 4) (heap_setCell_same (i := 5) (heap_setCell_same (i := 2) (heap_setCell_same (i := 1) (heap_setCell_same (i := 0) HC6.out (.map (some w.heap.size))) (.map (some wr.heap.size))) (.slice none 0 0)) (.bool false)) (.int .i64 (-1))
            have hlt6 := H.out.lt (r := .sh) rfl
            have hn := HNM.out
            rw [HNN.out] at hn
            have := HF2.out.done H.out HL0.out HMD.out HM6.out hu6 HMD.out.lt hs6 hc6
            rw [hn] at this
            exact this
          · intro x c kl yd yp w3 cnt2 hkey hlk hv hat hrg2 hlt2 hg2 hs2 hen
            obtain ⟨x', ex, rfl, _⟩ := Maps.keyOf_str Try.underlying9 hkey
            obtain rfl : x = x' := encStr_inj ex
            obtain ⟨i, b, hi, hb, rfl⟩ := next_what HT.out hat hv
            have HB := Lib.hid hb
            have HI := Lib.hid hi
            have HRG2 := Lib.hid hrg2
            have HLT2 := Lib.hid hlt2
            have hf3 := HF2.out.next (show w.heap.size ≤ wo.heap.size by have := HLW.out; omega) H.out hg2
            obtain ⟨a, c, f1, hba, hff, hfile⟩ := hf3.fileAt hb
            have HF3 := Lib.hid hf3
            have HBA := Lib.hid hba
            have HFF := Lib.hid hff
            have HFI := Lib.hid hfile
            have d0 : w3.cell? ⟨b, 0, none⟩ = some (.slice a f1.p.length c) := (cell_of_heap hfile.1 0).trans rfl
            have d1 : w3.cell? ⟨b, 1, none⟩ = some (.int .i64 f1.safe) := (cell_of_heap hfile.1 1).trans rfl
            have z0 : w3.frozen? ⟨b, 0, none⟩ = false := free_of_heap hfile.1 0
            have z1 : w3.frozen? ⟨b, 1, none⟩ = false := free_of_heap hfile.1 1
            have hcap1 := hfile.2.1.cap
            have hbg := hfile.2.2.1
            have hsf := hfile.2.2.2
            have hbg2 : f1.p.length ≤ 1099511627776 := by unfold Big at hbg; omega
            clear hkey hv hat hrg2 hlt2 hb hi hs2 hlk ex hg2 hf3 hba hff hfile hbg
            simp only [optPtr] at hen ⊢
            obtain ⟨q, hq⟩ : ∃ q : Nat, q = (min (max bytes 0) f1.p.length).toNat := ⟨_, rfl⟩
            obtain ⟨n, hn⟩ : ∃ n : Nat, n = min f1.p.length (f1.safe + q) := ⟨_, rfl⟩
            have e1 : min (max bytes 0) (f1.p.length : Int) = (q : Int) := by omega
            have e2 : IntKind.i64.wrap ((f1.safe : Int) + (q : Int)) = (f1.safe : Int) + (q : Int) := IntWalk.i64_in _ (by omega)
            have e3 : min (f1.p.length : Int) ((f1.safe : Int) + (q : Int)) = (n : Int) := by omega
            have hnl2 : n ≤ f1.p.length := by omega
            have HN2 := Lib.hid (show (⟨f1.p.take n, n⟩ : File) = Sh.lost bytes f1 from by unfold Sh.lost; rw [hn, hq])
            clear hq hn
            go_wp2_with fail
            go_quiet (fail)
            go_wp2_with fail
            clear e1 e2 e3
            go_roundw
            case rel =>
              have hset : Upd w3 (((w3.drewN nq).setCell ⟨b, 0, none⟩ (.slice a n n)).setCell ⟨b, 1, none⟩ (.int .i64 n)) (fun x => x = b) := ((((Upd.refl w3 (fun x => x = b)).drewN nq).put (.inl rfl)).put (.inl rfl))
              have hbl := H.out.lt (r := .file i) HB.out
              have hlw := HLW.out
              exact ⟨_, cnt2, _, _, ranges_upd HRG2.out hset (by omega) (by omega), HF3.out.step HB.out HBA.out HFF.out HFI.out HI.out HN2.out hset (heap_setCell_same (i := 1) (heap_setCell_same (i := 0) HFI.out.1 (.slice a n n)) (.int .i64 n)) hnl2⟩
            case measure =>
              have hset : Upd w3 (((w3.drewN nq).setCell ⟨b, 0, none⟩ (.slice a n n)).setCell ⟨b, 1, none⟩ (.int .i64 n)) (fun x => x = b) := ((((Upd.refl w3 (fun x => x = b)).drewN nq).put (.inl rfl)).put (.inl rfl))
              have hbl := H.out.lt (r := .file i) HB.out
              have hlw := HLW.out
              have h4 := ranges_upd HRG2.out hset (by omega) (by omega)
              rw [h4.left_eq, HRG.out.left_eq]
              exact HLT2.out
  · have HGG := Lib.hid hg
    have hcap := hy
    clear hg hx h
    go_enter Try.func13, Try.ntmps13
    go_wp2_with (first
        | (go_at_call 22; refine (clone_map (G := G) H.out.old).mono ?_; rintro e w1 ⟨rfl, hm1, hu1⟩; have HM1 := Lib.hid hm1; have HC1 := Lib.hid (hu1.heap H.out.cells (fun h => h)); have c2 : w1.cell? ⟨G.sb, 2, none⟩ = some (.slice (some ⟨g, 0, none⟩) S.moves.length G.mvc) := (cell_of_heap HC1.out 2).trans (by rw [HGG.out]; rfl); clear hm1 c1)
        | go_in)
    obtain ⟨nn, hnn⟩ : ∃ nn, nn = stay S names := ⟨_, rfl⟩
    have hnl : nn ≤ S.moves.length := by rw [hnn]; unfold stay; omega
    have hcast : min (max names 0) (S.moves.length : Int) = (nn : Int) := by rw [hnn]; unfold stay; omega
    have HNN := Lib.hid hnn
    have hmx : max (nn : Int) 0 = nn := by omega
    clear hnn
    go_quiet (fail)
    clear hcast hmx c2
    have hfl0 : Fl1 w (w1.drewN nq) G S w.heap.size 0 := ⟨H.out.upd (hu1.drewN nq) (fun _ _ h => h), HM1.out.upd ((Upd.refl w1 (fun _ => False)).drewN nq) (fun h => h), hu1.drewN nq⟩
    have hw1s : w.heap.size < (w1.drewN nq).heap.size := HM1.out.lt
    generalize w1.drewN nq = w2 at hfl0 hw1s ⊢
    have HFL0 := Lib.hid hfl0
    clear hfl0
    go_wp2_with fail
    go_loopw [33] (fun iv wr => ∃ k : Nat, k ≤ nn ∧ iv = .int .i64 k ∧ Fl1 w wr G S w.heap.size k) (fun iv _ => nn - (intOf iv).toNat)
    case atStart => exact ⟨0, Nat.zero_le _, rfl, HFL0.out⟩
    case round =>
      obtain ⟨k, hk, rfl, hfl⟩ := hrel
      have HFL := Lib.hid hfl
      have HLT := Lib.hid hfl.map.lt
      clear hfl
      by_cases hlt : k < nn
      · obtain ⟨g', m, hg, hm, q0, q1, q2⟩ := HFL.out.shelf.mvAt (Nat.lt_of_lt_of_le hlt hnl)
        have hgg : g' = g := by have := hg.symm.trans HGG.out; cases this; rfl
        subst hgg
        have HM := Lib.hid hm
        have HN0 := Lib.hid (H.out.small m (List.mem_of_getElem? hm)).1
        have HN1 := Lib.hid (H.out.small m (List.mem_of_getElem? hm)).2
        have HROOM := Lib.hid (show ((S.moves.take k).foldl Sh.redo S.old).length < maxLen from by
          have h1 := redo_all_len (S.moves.take k) S.old
          have h2 : (S.moves.take k).length ≤ S.moves.length := List.length_take_le' _ _
          unfold Big at hml
          unfold maxLen
          omega)
        have tokD : True := True.intro
        have tokE : True := True.intro
        clear hm hg
        unfold strV at q0 q2
        cases hmb : m.b with
        | none =>
          rw [hmb] at q1
          simp only [ptrV] at q1
          have HMB := Lib.hid hmb
          clear hmb
          go_wp2_with (first
        | (at_delete; have _t := tokD; (refine wpList_strike rfl _ _ 49 9 rfl 54 keyT Try.underlying49 w.heap.size G.bl _ rfl (HFL.out.map.upd ((Upd.refl _ (fun _ => False)).alloc _) (fun h => h)) ⟨m.name.toArray⟩ rfl (keyOfN m.name HN0.out) ?_; intro w4 hm4 hu4 hs4; have HM4 := Lib.hid hm4; have d2 : w4.cell? ⟨wr.heap.size, 2, none⟩ = some (.string ⟨m.frm.toArray⟩) := (hu4.cell (p := ⟨wr.heap.size, 2, none⟩) (by simp) (fun e : wr.heap.size = w.heap.size => by have := HLT.out; omega)).trans ((cell_of_heap (heap_alloc_new wr _) 2).trans rfl); clear hm4 tokD _t hs4))
        | (at_delete; have _t := tokE; refine wpList_strike rfl _ _ 49 9 rfl 54 keyT Try.underlying49 w.heap.size G.bl _ rfl HM4.out ⟨m.frm.toArray⟩ rfl (keyOfN m.frm HN1.out) ?_; intro w5 hm5 hu5 hs5; have HM5 := Lib.hid hm5; clear hm5 hs5 tokE _t)
        | go_in)
          go_roundw
          case rel => exact ⟨k + 1, by omega, by go_num, HFL.out.step HM.out (by unfold Sh.redo; rw [HMB.out]; exact HM5.out) ((((Upd.refl _ (fun _ => False)).alloc _).mono (fun _ _ h => h.elim)).trans (hu4.trans hu5 (fun _ _ h => h)) (fun _ _ h => h)) H.out⟩
          case measure => simp [intOf]; omega
        | some i =>
          rw [hmb] at q1
          simp only [ptrV] at q1
          have hil := H.out.mvlt m (List.mem_of_getElem? HM.out) i hmb
          obtain ⟨b, hb⟩ : ∃ b, G.bl[i]? = some b := ⟨_, List.getElem?_eq_getElem hil⟩
          rw [getD_of hb] at q1
          have HB := Lib.hid hb
          have HMB := Lib.hid hmb
          clear hmb hil hb tokD
          go_wp2_with (first
        | (at_mapUpdate; refine wpList_put rfl _ _ _ 49 rfl 9 54 keyT Try.underlying49 w.heap.size G.bl _ rfl (HFL.out.map.upd ((Upd.refl _ (fun _ => False)).alloc _) (fun h => h)) HROOM.out ⟨m.name.toArray⟩ rfl (keyOfN m.name HN0.out) i b HB.out rfl ?_; intro w4 hm4 hu4 hs4; have HM4 := Lib.hid hm4; have d2 : w4.cell? ⟨wr.heap.size, 2, none⟩ = some (.string ⟨m.frm.toArray⟩) := (hu4.cell (p := ⟨wr.heap.size, 2, none⟩) (by simp) (fun e : wr.heap.size = w.heap.size => by have := HLT.out; omega)).trans ((cell_of_heap (heap_alloc_new wr _) 2).trans rfl); clear hm4 hs4)
        | (at_delete; have _t := tokE; refine wpList_strike rfl _ _ 49 9 rfl 54 keyT Try.underlying49 w.heap.size G.bl _ rfl HM4.out ⟨m.frm.toArray⟩ rfl (keyOfN m.frm HN1.out) ?_; intro w5 hm5 hu5 hs5; have HM5 := Lib.hid hm5; clear hm5 hs5 tokE _t)
        | go_in)
          go_roundw
          case rel => exact ⟨k + 1, by omega, by go_num, HFL.out.step HM.out (by unfold Sh.redo; rw [HMB.out]; exact HM5.out) ((((Upd.refl _ (fun _ => False)).alloc _).mono (fun _ _ h => h.elim)).trans (hu4.trans hu5 (fun _ _ h => h)) (fun _ _ h => h)) H.out⟩
          case measure => simp [intOf]; omega
      · have hke : k = nn := by omega
        subst hke
        obtain ⟨names1, hnames1⟩ : ∃ m, m = (S.moves.take k).foldl Sh.redo S.old := ⟨_, rfl⟩
        obtain ⟨D, hD, hT⟩ := HFL.out.map
        have hfu := HFL.out.upd
        have hfs := HFL.out.shelf
        rw [← hnames1] at hD hT
        have HNM := Lib.hid hnames1
        have HD := Lib.hid hD
        have HT := Lib.hid hT
        have HLW := Lib.hid (show w.heap.size < wr.heap.size from hD.lt)
        clear hD hT hnames1
        obtain ⟨wo, rfl⟩ : ∃ wo : World, wo = wr := ⟨_, rfl⟩
        go_wp2_with (first
        | (at_range; refine wpList_range_own _ rfl _ 49 rfl 9 54 keyT Try.underlying49 refElem w.heap.size _ D rfl HD.out ?_; intro w0 hrg0 hg0 hs0; have HRG0 := Lib.hid hrg0; have HG0 := Lib.hid hg0; have HS0 := Lib.hid hs0; clear hrg0 hg0 hs0)
        | go_in)
        go_frame
        have hf20 := fl2_start (bytes := bytes) HT.out hfs hfu HG0.out
        clear hfs hfu
        go_loopw [54] (fun _ wr => ∃ (left : Lit → Bool) (cnt : Nat) (ba1 : List (Option Addr × Nat)) (fs1 : List File), wr.ranges Try.prog 9 refElem w.heap.size wo.heap.size names1.length D left cnt ∧ Fl2 w wr G S names1 bytes left ba1 fs1) (fun _ wr => wr.rangeLeft w.heap.size wo.heap.size)
        case atStart => exact ⟨_, _, _, _, HRG0.out, hf20⟩
        case round =>
          obtain ⟨left, cnt, ba1, fs1, hrg, hf2⟩ := hrel
          have HRG := Lib.hid hrg
          have HF2 := Lib.hid hf2
          clear hrg hf2 hf20
          go_wp2_with (first
            | (at_next; refine wpList_next_ranges _ rfl _ rfl 9 keyT refElem encStr optPtr invKey invPtr w.heap.size wo.heap.size names1.length D left cnt rfl HRG.out ?_ ?_)
            | go_in)
          · intro hc0 hl0
            have HL0 := Lib.hid hl0
            have HMD := Lib.hid (show MapIs Try.prog 9 wr w.heap.size G.bl names1 from ⟨D, HRG.out.owns, HT.out⟩)
            clear hc0 hl0
            go_wp2_with (first
        | (go_at_call 22; refine (clone_map (G := G) HMD.out).mono ?_; rintro e w6 ⟨rfl, hm6, hu6⟩; have HM6 := Lib.hid hm6; have HC6 := Lib.hid (hu6.heap HF2.out.shelf.cells (fun h => h)); have k0 : w6.cell? ⟨G.sb, 0, none⟩ = some (.map (some G.nb)) := (cell_of_heap HC6.out 0).trans rfl; have k1 : w6.cell? ⟨G.sb, 1, none⟩ = some (.map (some G.ob)) := (cell_of_heap HC6.out 1).trans rfl; have k2 : w6.cell? ⟨G.sb, 2, none⟩ = some (.slice G.mva S.moves.length G.mvc) := (cell_of_heap HC6.out 2).trans rfl; have k4 : w6.cell? ⟨G.sb, 4, none⟩ = some (.int .i64 S.left) := (cell_of_heap HC6.out 4).trans rfl; have k5 : w6.cell? ⟨G.sb, 5, none⟩ = some (.bool S.off) := (cell_of_heap HC6.out 5).trans rfl; have z0 : w6.frozen? ⟨G.sb, 0, none⟩ = false := free_of_heap HC6.out 0; have z1 : w6.frozen? ⟨G.sb, 1, none⟩ = false := free_of_heap HC6.out 1; have z2 : w6.frozen? ⟨G.sb, 2, none⟩ = false := free_of_heap HC6.out 2; have z4 : w6.frozen? ⟨G.sb, 4, none⟩ = false := free_of_heap HC6.out 4; have z5 : w6.frozen? ⟨G.sb, 5, none⟩ = false := free_of_heap HC6.out 5; clear hm6)
        | go_in)
            go_end0
            refine ⟨rfl, ?_⟩
            have hs6 : Upd w6 (((((w6.setCell ⟨G.sb, 0, none⟩ (.map (some w.heap.size))).setCell ⟨G.sb, 1, none⟩ (.map (some wr.heap.size))).setCell ⟨G.sb, 2, none⟩ (.slice none 0 0)).setCell ⟨G.sb, 5, none⟩ (.bool false)).setCell ⟨G.sb, 4, none⟩ (.int .i64 (-1))) (fun x => x = G.sb) :=
              (((((Upd.refl w6 (fun x => x = G.sb)).put (.inl rfl)).put (.inl rfl)).put (.inl rfl)).put (.inl rfl)).put (.inl rfl)
            have hc6 := heap_setCell_same (i := 4) (heap_setCell_same (i := 5) (heap_setCell_same (i := 2) (heap_setCell_same (i := 1) (heap_setCell_same (i := 0) HC6.out (.map (some w.heap.size))) (.map (some wr.heap.size))) (.slice none 0 0)) (.bool false)) (.int .i64 (-1))
            have hlt6 := H.out.lt (r := .sh) rfl
            have hn := HNM.out
            rw [HNN.out] at hn
            have := HF2.out.done H.out HL0.out HMD.out HM6.out hu6 HMD.out.lt hs6 hc6
            rw [hn] at this
            exact this
          · intro x c kl yd yp w3 cnt2 hkey hlk hv hat hrg2 hlt2 hg2 hs2 hen
            obtain ⟨x', ex, rfl, _⟩ := Maps.keyOf_str Try.underlying9 hkey
            obtain rfl : x = x' := encStr_inj ex
            obtain ⟨i, b, hi, hb, rfl⟩ := next_what HT.out hat hv
            have HB := Lib.hid hb
            have HI := Lib.hid hi
            have HRG2 := Lib.hid hrg2
            have HLT2 := Lib.hid hlt2
            have hf3 := HF2.out.next (show w.heap.size ≤ wo.heap.size by have := HLW.out; omega) H.out hg2
            obtain ⟨a, c, f1, hba, hff, hfile⟩ := hf3.fileAt hb
            have HF3 := Lib.hid hf3
            have HBA := Lib.hid hba
            have HFF := Lib.hid hff
            have HFI := Lib.hid hfile
            have d0 : w3.cell? ⟨b, 0, none⟩ = some (.slice a f1.p.length c) := (cell_of_heap hfile.1 0).trans rfl
            have d1 : w3.cell? ⟨b, 1, none⟩ = some (.int .i64 f1.safe) := (cell_of_heap hfile.1 1).trans rfl
            have z0 : w3.frozen? ⟨b, 0, none⟩ = false := free_of_heap hfile.1 0
            have z1 : w3.frozen? ⟨b, 1, none⟩ = false := free_of_heap hfile.1 1
            have hcap1 := hfile.2.1.cap
            have hbg := hfile.2.2.1
            have hsf := hfile.2.2.2
            have hbg2 : f1.p.length ≤ 1099511627776 := by unfold Big at hbg; omega
            clear hkey hv hat hrg2 hlt2 hb hi hs2 hlk ex hg2 hf3 hba hff hfile hbg
            simp only [optPtr] at hen ⊢
            obtain ⟨q, hq⟩ : ∃ q : Nat, q = (min (max bytes 0) f1.p.length).toNat := ⟨_, rfl⟩
            obtain ⟨n, hn⟩ : ∃ n : Nat, n = min f1.p.length (f1.safe + q) := ⟨_, rfl⟩
            have e1 : min (max bytes 0) (f1.p.length : Int) = (q : Int) := by omega
            have e2 : IntKind.i64.wrap ((f1.safe : Int) + (q : Int)) = (f1.safe : Int) + (q : Int) := IntWalk.i64_in _ (by omega)
            have e3 : min (f1.p.length : Int) ((f1.safe : Int) + (q : Int)) = (n : Int) := by omega
            have hnl2 : n ≤ f1.p.length := by omega
            have HN2 := Lib.hid (show (⟨f1.p.take n, n⟩ : File) = Sh.lost bytes f1 from by unfold Sh.lost; rw [hn, hq])
            clear hq hn
            go_wp2_with fail
            go_quiet (fail)
            go_wp2_with fail
            clear e1 e2 e3
            go_roundw
            case rel =>
              have hset : Upd w3 (((w3.drewN nq).setCell ⟨b, 0, none⟩ (.slice a n n)).setCell ⟨b, 1, none⟩ (.int .i64 n)) (fun x => x = b) := ((((Upd.refl w3 (fun x => x = b)).drewN nq).put (.inl rfl)).put (.inl rfl))
              have hbl := H.out.lt (r := .file i) HB.out
              have hlw := HLW.out
              exact ⟨_, cnt2, _, _, ranges_upd HRG2.out hset (by omega) (by omega), HF3.out.step HB.out HBA.out HFF.out HFI.out HI.out HN2.out hset (heap_setCell_same (i := 1) (heap_setCell_same (i := 0) HFI.out.1 (.slice a n n)) (.int .i64 n)) hnl2⟩
            case measure =>
              have hset : Upd w3 (((w3.drewN nq).setCell ⟨b, 0, none⟩ (.slice a n n)).setCell ⟨b, 1, none⟩ (.int .i64 n)) (fun x => x = b) := ((((Upd.refl w3 (fun x => x = b)).drewN nq).put (.inl rfl)).put (.inl rfl))
              have hbl := H.out.lt (r := .file i) HB.out
              have hlw := HLW.out
              have h4 := ranges_upd HRG2.out hset (by omega) (by omega)
              rw [h4.left_eq, HRG.out.left_eq]
              exact HLT2.out
end Go.Proofs.Ytpmbeeddciepjaa
