/- Walks: Create. -/
import Derived.Test.YtpmbeeddciepjaaG
namespace Go.Proofs.Ytpmbeeddciepjaa
open Go.RowKit Go.Maps
set_option linter.unusedSimpArgs false
set_option linter.unusedVariables false

theorem act_now (S : Sh) : S.act.1.now = S.now := by unfold Sh.act; split <;> rfl
theorem act_old (S : Sh) : S.act.1.old = S.old := by unfold Sh.act; split <;> rfl
theorem act_fs (S : Sh) : S.act.1.fs = S.fs := by unfold Sh.act; split <;> rfl
theorem act_moves (S : Sh) : S.act.1.moves = S.moves := by unfold Sh.act; split <;> rfl
theorem act_room (S : Sh) : S.act.1.room = S.room := by unfold Sh.act; split <;> rfl

section
variable {w w' w'' : World} {G : Gh} {S S' S'' : Sh}
theorem After.of_upd (h : IsShelf w G S) (hu : Upd w w' (fun _ => False)) : After w w' G S :=
  ⟨G, h.upd hu (fun _ _ h => h), rfl, hu.mono (fun _ _ h => h.elim), fun _ h => .inl h⟩
theorem After.of_head (h : IsShelf w' G S') (hu : Upd w w' (fun k => k = G.sb)) : After w w' G S' :=
  ⟨G, h, rfl, hu.mono (fun _ _ h => ⟨.sh, by rw [h]; rfl⟩), fun _ h => .inl h⟩
theorem After.step (h1 : After w w' G S') (h2 : ∀ G1, IsShelf w' G1 S' → G1.sb = G.sb → After w' w'' G1 S'') : After w w'' G S'' := After.trans h2 h1
theorem After.cons {G1 : Gh} {F : Nat → Prop} (hu : Upd w w' F) (hF : ∀ k, k < w.heap.size → F k → G.own k) (hG : ∀ k, G1.own k → G.own k ∨ w.heap.size ≤ k) (e : G1.sb = G.sb) (h : After w' w'' G1 S'') : After w w'' G S'' := by
  obtain ⟨G2, i2, e2, u2, o2⟩ := h
  refine ⟨G2, i2, e2.trans e, (hu.mono hF).trans u2 (fun k hk ho => ?_), fun k hk => ?_⟩
  · rcases hG k ho with h | h
    · exact h
    · omega
  · rcases o2 k hk with h | h
    · exact hG k h
    · exact .inr (Nat.le_trans hu.size h)
theorem After.cons0 (hu : Upd w w' (fun _ => False)) (h : After w' w'' G S'') : After w w'' G S'' := h.cons hu (fun _ _ h => h.elim) (fun _ h => .inl h) rfl
theorem After.cons1 (hu : Upd w w' (fun k => k = G.sb)) (h : After w' w'' G S'') : After w w'' G S'' := h.cons hu (fun _ _ h => ⟨.sh, by rw [h]; rfl⟩) (fun _ h => .inl h) rfl
/-- A new file, without bytes. -/
theorem IsShelf.newFile (h : IsShelf w G S) :
    IsShelf (w.alloc (.cells #[.slice none 0 0, .int .i64 0] 57)) { G with bl := G.bl ++ [w.heap.size], ba := G.ba ++ [(none, 0)] } { S with fs := S.fs ++ [⟨[], 0⟩] } ∧
    Upd w (w.alloc (.cells #[.slice none 0 0, .int .i64 0] 57)) (fun _ => False) := by
  have hu : Upd w (w.alloc (.cells #[.slice none 0 0, .int .i64 0] 57)) (fun _ => False) := (Upd.refl w _).alloc _
  have h' := h.upd hu (fun _ _ h => h)
  have hblk : ∀ r k, Gh.blk { G with bl := G.bl ++ [w.heap.size], ba := G.ba ++ [(none, 0)] } r = some k → G.blk r = some k ∨ (r = .file G.bl.length ∧ k = w.heap.size) := by
    intro r k hr
    cases r with
    | file i =>
      simp only [Gh.blk] at hr ⊢
      rw [List.getElem?_append] at hr
      split at hr
      · exact .inl hr
      · rename_i hi
        have : i - G.bl.length = 0 := by
          cases hx : i - G.bl.length with
          | zero => rfl
          | succ j => rw [hx] at hr; simp at hr
        rw [this] at hr
        simp at hr
        exact .inr ⟨by congr 1; omega, hr.symm⟩
    | arr i =>
      simp only [Gh.blk] at hr ⊢
      rw [List.getElem?_append] at hr
      split at hr
      · exact .inl hr
      · cases hx : i - G.ba.length with
        | zero => rw [hx] at hr; simp [blockOf] at hr
        | succ j => rw [hx] at hr; simp at hr
    | _ => exact .inl hr
  have hmv : S.moves.flatMap (encMv (G.bl ++ [w.heap.size])) = S.moves.flatMap (encMv G.bl) := by
    rw [List.flatMap_def, List.flatMap_def]
    congr 1
    refine List.map_congr_left (fun m hm => ?_)
    unfold encMv
    cases hb : m.b with
    | none => rfl
    | some i =>
      have := h.mvlt m hm i hb
      simp [ptrV, List.getD_eq_getElem?_getD, List.getElem?_append_left this]
  refine ⟨?_, hu⟩
  exact {
    cells := h'.cells
    now := h'.now.more _
    old := h'.old.more _
    mv := by rw [show ({ S with fs := S.fs ++ [⟨[], 0⟩] } : Sh).moves = S.moves from rfl, hmv]; exact h'.mv
    mvlt := fun m hm i hi => by have := h.mvlt m hm i hi; simp; omega
    lbl := by simp [h.lbl]
    lba := by simp [h.lba]
    file := fun i b a c f h1 h2 h3 => by
      by_cases hi : i < S.fs.length
      · have e1 : G.bl[i]? = some b := by
          have : i < G.bl.length := by rw [h.lbl]; exact hi
          rw [← h1]; exact (List.getElem?_append_left this).symm
        have e2 : G.ba[i]? = some (a, c) := by
          have : i < G.ba.length := by rw [h.lba]; exact hi
          rw [← h2]; exact (List.getElem?_append_left this).symm
        have e3 : S.fs[i]? = some f := by rw [← h3]; exact (List.getElem?_append_left hi).symm
        exact h'.file i b a c f e1 e2 e3
      · have hi' : i = S.fs.length := by
          have := (List.getElem?_eq_some_iff.1 h3).1
          simp at this
          omega
        subst hi'
        have e3 : f = ⟨[], 0⟩ := by
          simp at h3; exact h3.symm
        have e1 : b = w.heap.size := by
          have : (G.bl ++ [w.heap.size])[S.fs.length]? = some w.heap.size := by rw [← h.lbl]; simp
          rw [show ({ G with bl := G.bl ++ [w.heap.size], ba := G.ba ++ [(none, 0)] } : Gh).bl = G.bl ++ [w.heap.size] from rfl, this] at h1
          exact (Option.some.inj h1).symm
        have e2 : (a, c) = (none, 0) := by
          have : (G.ba ++ [(none, 0)])[S.fs.length]? = some (none, 0) := by rw [← h.lba]; simp
          rw [show ({ G with bl := G.bl ++ [w.heap.size], ba := G.ba ++ [(none, 0)] } : Gh).ba = G.ba ++ [(none, 0)] from rfl, this] at h2
          exact (Option.some.inj h2).symm
        cases e2
        subst e1 e3
        exact ⟨heap_alloc_new w _, Row.nil _ _ _, Nat.zero_le _, Nat.le_refl _⟩
    apart := fun r r' k hr hr' => by
      rcases hblk r k hr with h1 | ⟨rfl, h1⟩
      · rcases hblk r' k hr' with h2 | ⟨rfl, h2⟩
        · exact h.apart r r' k h1 h2
        · have := h.lt h1; omega
      · rcases hblk r' k hr' with h2 | ⟨rfl, h2⟩
        · have := h.lt h2; omega
        · rfl
    left1 := h.left1
    left2 := h.left2
    small := h.small }
theorem newFile_own (w : World) (G : Gh) (k : Nat) (h : Gh.own { G with bl := G.bl ++ [w.heap.size], ba := G.ba ++ [(none, 0)] } k) : G.own k ∨ w.heap.size ≤ k := by
  obtain ⟨r, hr⟩ := h
  cases r with
  | file i =>
    simp only [Gh.blk] at hr
    rw [List.getElem?_append] at hr
    split at hr
    · exact .inl ⟨.file i, hr⟩
    · cases hx : i - G.bl.length with
      | zero => rw [hx] at hr; simp at hr; exact .inr (by omega)
      | succ j => rw [hx] at hr; simp at hr
  | arr i =>
    simp only [Gh.blk] at hr
    rw [List.getElem?_append] at hr
    split at hr
    · exact .inl ⟨.arr i, hr⟩
    · cases hx : i - G.ba.length with
      | zero => rw [hx] at hr; simp [blockOf] at hr
      | succ j => rw [hx] at hr; simp at hr
  | sh => exact .inl ⟨.sh, hr⟩
  | now => exact .inl ⟨.now, hr⟩
  | old => exact .inl ⟨.old, hr⟩
  | mv => exact .inl ⟨.mv, hr⟩
end

set_option maxHeartbeats 400000 in
theorem create_calls {G : Gh} {S : Sh} {w : World} (h : IsShelf w G S) (s : ByteArray) (hs : s.size ≤ Big) (hm : S.moves.length < Big) (hn : S.now.length < Big) :
    Calls Try.prog 7 #[.pointer (some ⟨G.sb, 0, none⟩), .string s] w fun e w' => e = .returned (.int .i64 (S.create s.data.toList).2) ∧ After w w' G (S.create s.data.toList).1 := by
  have hnm := name_calls s
  by_cases h1 : Sh.nameOk s.data.toList = false
  · have he : S.create s.data.toList = (S, 1) := by simp [Sh.create, h1]
    rw [he]
    rw [h1] at hnm
    have HN := Lib.hid hnm
    have H := Lib.hid h
    clear hnm he h1 h
    go_enter Try.func7, Try.ntmps7
    go_wp2_with (first | (go_at_call 19; refine (HN.out _).mono ?_; rintro e w1 ⟨rfl, hu1⟩) | go_in)
    go_ret
    exact ⟨rfl, After.of_upd H.out hu1⟩
  simp only [Bool.not_eq_false] at h1
  rw [h1] at hnm
  by_cases h2 : S.act.2 = false
  · have he : S.create s.data.toList = (S.act.1, 7) := by simp [Sh.create, h1, h2]
    rw [he]
    have HN := Lib.hid hnm
    have H := Lib.hid h
    have HA := Lib.hid h2
    clear hnm he h1 h h2
    go_enter Try.func7, Try.ntmps7
    go_wp2_with (first
      | (go_at_call 19; refine (HN.out _).mono ?_; rintro e w1 ⟨rfl, hu1⟩)
      | (go_at_call 20; refine (act_no (H.out.upd hu1 (fun _ _ h => h)) HA.out).mono ?_; rintro e w2 ⟨rfl, hi2, hu2, hs2⟩; have HS2 := Lib.hid hs2; clear hs2)
      | go_in)
    go_ret
    exact ⟨rfl, (After.of_head hi2 hu2).cons0 hu1⟩
  simp only [Bool.not_eq_false] at h2
  have HN := Lib.hid hnm
  have H := Lib.hid h
  have HA := Lib.hid h2
  cases hl : look S.now s.data.toList with
  | some i =>
    have he : S.create s.data.toList = (S.act.1, 9) := by simp [Sh.create, h1, h2, hl]
    rw [he]
    have hi : i < G.bl.length := h.now.look_lt hl
    obtain ⟨bb, hbb⟩ : ∃ bb, G.bl[i]? = some bb := ⟨_, List.getElem?_eq_getElem hi⟩
    have HL := Lib.hid (show look S.act.1.now s.data.toList = some i by rw [act_now]; exact hl)
    have HB := Lib.hid hbb
    clear hnm he h1 h h2 hl hi hbb
    go_enter Try.func7, Try.ntmps7
    go_wp2_with (first
      | (go_at_call 19; refine (HN.out _).mono ?_; rintro e w1 ⟨rfl, hu1⟩)
      | (go_at_call 20; refine (act_yes (H.out.upd hu1 (fun _ _ h => h)) HA.out).mono ?_; rintro e w2 ⟨rfl, hi2, hu2, hs2⟩; have HS2 := Lib.hid hs2; clear hs2; have H2 := Lib.hid hi2; clear hi2; have c0 : w2.cell? ⟨G.sb, 0, none⟩ = some (.map (some G.nb)) := (cell_of_heap H2.out.cells 0).trans rfl)
      | (at_lookup; refine wpList_look_found rfl _ _ 49 rfl 9 54 keyT Try.underlying49 zeroBook G.nb G.bl _ rfl H2.out.now s rfl (keyOfS hs) i HL.out bb HB.out ?_)
      | go_in)
    go_ret
    exact ⟨rfl, (After.of_head H2.out hu2).cons0 hu1⟩
  | none =>
    have he : S.create s.data.toList = (({ S.act.1 with fs := S.fs ++ [⟨[], 0⟩] } : Sh).setTo s.data.toList (some S.fs.length), 0) := by simp [Sh.create, h1, h2, hl]
    rw [he]
    have HL := Lib.hid (show look S.act.1.now s.data.toList = none by rw [act_now]; exact hl)
    have hm' : S.act.1.moves.length < Big := by rw [act_moves]; exact hm
    have hn' : S.act.1.now.length < Big := by rw [act_now]; exact hn
    have hb : ∀ b, (G.bl ++ [b])[S.fs.length]? = some b := fun b => by rw [← h.lbl]; simp
    have HB := Lib.hid hb
    have hfs := act_fs S
    have HF := Lib.hid hfs
    clear hnm he h1 h h2 hl hm hn hb hfs
    go_enter Try.func7, Try.ntmps7
    go_wp2_with (first
      | (go_at_call 19; refine (HN.out _).mono ?_; rintro e w1 ⟨rfl, hu1⟩)
      | (go_at_call 20; refine (act_yes (H.out.upd hu1 (fun _ _ h => h)) HA.out).mono ?_; rintro e w2 ⟨rfl, hi2, hu2, hs2⟩; have HS2 := Lib.hid hs2; clear hs2; have H2 := Lib.hid hi2; clear hi2; have c0 : w2.cell? ⟨G.sb, 0, none⟩ = some (.map (some G.nb)) := (cell_of_heap H2.out.cells 0).trans rfl)
      | (at_lookup; refine wpList_look_none rfl _ _ 49 rfl 9 54 keyT Try.underlying49 zeroBook G.nb G.bl _ rfl H2.out.now s rfl (keyOfS hs) HL.out ?_)
      | (go_at_call 21; refine (set_some (G := { G with bl := G.bl ++ [w2.heap.size], ba := G.ba ++ [(none, 0)] }) H2.out.newFile.1 s hs S.fs.length w2.heap.size (HB.out _) hm' hn').mono ?_; rintro e w3 ⟨rfl, ha3⟩; have HA3 := Lib.hid ha3; clear ha3)
      | go_in)
    go_ret
    have hA3 := HA3.out
    rw [HF.out] at hA3
    refine ⟨rfl, After.cons0 hu1 (After.cons1 hu2 (hA3.cons H2.out.newFile.2 (fun _ _ h => h.elim) (fun k hk => newFile_own w2 G k hk) rfl))⟩
end Go.Proofs.Ytpmbeeddciepjaa
