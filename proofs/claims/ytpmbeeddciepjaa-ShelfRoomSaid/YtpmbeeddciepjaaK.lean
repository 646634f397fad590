/- Walks: Names, Rename. -/
import Derived.Test.YtpmbeeddciepjaaJ
namespace Go.Proofs.Ytpmbeeddciepjaa
open Go.RowKit Go.Maps
set_option linter.unusedSimpArgs false
set_option linter.unusedVariables false

theorem clone_map {G : Gh} {w : World} {b : Nat} {bl : List Nat} {m : List (Nm × Nat)} (h : MapIs Try.prog 9 w b bl m) :
    Calls Try.prog 22 #[.map (some b)] w fun e w' => e = .returned (.map (some w.heap.size)) ∧ MapIs Try.prog 9 w' w.heap.size bl m ∧ Upd w w' (fun _ => False) := by
  obtain ⟨D, hD, hT⟩ := h
  refine (Try.maps_Clone_22 9 refElem b m.length D w hD).mono ?_
  rintro e w' ⟨rfl, h1, h2, h3⟩
  exact ⟨rfl, ⟨D, h1, hT⟩, Upd.of_below h3 _⟩

/-- Names are safe as they are. -/
theorem IsShelf.names {w w' : World} {G : Gh} {S : Sh} (h : IsShelf w G S) {f : Nat} (hf : w.heap.size ≤ f) (hu : Upd w w' (fun k => k = G.sb))
    (hc : w'.heap[G.sb]? = some (.cells #[.map (some G.nb), .map (some f), .slice none 0 0, .int .i64 S.room, .int .i64 S.left, .bool S.off, .int .i64 S.done] 52 (0, 0)))
    (ho : MapIs Try.prog 9 w' f G.bl S.now) : After w w' G { S with old := S.now, moves := [] } := by
  have h' := h.head S.room S.left S.done S.off hu h.left1 h.left2
  have hblk : ∀ r k, Gh.blk { G with ob := f, mva := none, mvc := 0 } r = some k → G.blk r = some k ∨ (r = .old ∧ w.heap.size ≤ k) := by
    intro r k hr
    cases r with
    | old => cases hr; exact .inr ⟨rfl, hf⟩
    | mv => simp [Gh.blk, blockOf] at hr
    | _ => exact .inl hr
  have far : ∀ r k, G.blk r = some k → r ≠ .sh → ¬ (k = G.sb) := fun r k hr h1 e => h.ne hr (r' := .sh) rfl h1 e
  refine ⟨{ G with ob := f, mva := none, mvc := 0 }, ?_, rfl, hu.mono (fun k _ hk => ⟨.sh, by rw [hk]; rfl⟩), fun k hk => ?_⟩
  · exact {
      cells := hc
      now := h.now.upd hu (far .now _ rfl (by simp))
      old := ho
      mv := Row.nil _ _ _
      mvlt := fun m hm => by cases hm
      lbl := h.lbl
      lba := h.lba
      file := fun i b a c f h1 h2 h3 => (h.file i b a c f h1 h2 h3).upd hu (far (.file i) _ h1 (by simp)) (fun g hg => far (.arr i) g (by simp [Gh.blk, h2, hg]) (by simp))
      apart := fun r r' k hr hr' => by
        rcases hblk r k hr with h1 | ⟨rfl, h1⟩
        · rcases hblk r' k hr' with h2 | ⟨rfl, h2⟩
          · exact h.apart r r' k h1 h2
          · have := h.lt h1; omega
        · rcases hblk r' k hr' with h2 | ⟨rfl, h2⟩
          · have := h.lt h2; omega
          · rfl
      left1 := h.left1
      left2 := h.left2
      small := fun m hm => nomatch hm }
  · obtain ⟨r, hr⟩ := hk
    rcases hblk r k hr with h1 | ⟨_, h1⟩
    · exact .inl ⟨r, h1⟩
    · exact .inr h1

set_option maxHeartbeats 400000 in
theorem names_calls {G : Gh} {S : Sh} {w : World} (h : IsShelf w G S) :
    Calls Try.prog 10 #[.pointer (some ⟨G.sb, 0, none⟩)] w fun e w' => e = .returned (.int .i64 S.names.2) ∧ After w w' G S.names.1 := by
  by_cases h2 : S.act.2 = false
  · have he : S.names = (S.act.1, 7) := by simp [Sh.names, h2]
    rw [he]
    have H := Lib.hid h
    have HA := Lib.hid h2
    clear he h h2
    go_enter Try.func10, Try.ntmps10
    go_wp2_with (first
        | (go_at_call 20; refine (act_no H.out HA.out).mono ?_; rintro e w2 ⟨rfl, hi2, hu2, hs2⟩; have HS2 := Lib.hid hs2; clear hs2)
        | go_in)
    go_ret
    exact ⟨rfl, After.of_head hi2 hu2⟩
  simp only [Bool.not_eq_false] at h2
  have H := Lib.hid h
  have HA := Lib.hid h2
  have he : S.names = ({ S.act.1 with old := S.now, moves := [] }, 0) := by simp [Sh.names, h2]
  rw [he]
  have hnow := act_now S
  have HNW := Lib.hid hnow
  clear he h h2 hnow
  go_enter Try.func10, Try.ntmps10
  go_wp2_with (first
        | (go_at_call 20; refine (act_yes H.out HA.out).mono ?_; rintro e w2 ⟨rfl, hi2, hu2, hs2⟩; have HS2 := Lib.hid hs2; clear hs2; have H2 := Lib.hid hi2; clear hi2; have c0 : w2.cell? ⟨G.sb, 0, none⟩ = some (.map (some G.nb)) := (cell_of_heap H2.out.cells 0).trans rfl)
        | (go_at_call 22; refine (clone_map (G := G) H2.out.now).mono ?_; rintro e w3 ⟨rfl, hm3, hu3⟩; have HM3 := Lib.hid hm3; have HC3 := Lib.hid (hu3.heap H2.out.cells (fun h => h)); have c1 : w3.cell? ⟨G.sb, 1, none⟩ = some (.map (some G.ob)) := (cell_of_heap HC3.out 1).trans rfl; have c2 : w3.cell? ⟨G.sb, 2, none⟩ = some (.slice G.mva S.act.1.moves.length G.mvc) := (cell_of_heap HC3.out 2).trans rfl; have f1 : w3.frozen? ⟨G.sb, 1, none⟩ = false := free_of_heap HC3.out 1; have f2 : w3.frozen? ⟨G.sb, 2, none⟩ = false := free_of_heap HC3.out 2; clear hm3)
        | go_in)
  go_ret
  refine ⟨rfl, After.cons1 hu2 ?_⟩
  have hu4 : Upd w3 ((w3.setCell ⟨G.sb, 1, none⟩ (.map (some w2.heap.size))).setCell ⟨G.sb, 2, none⟩ (.slice none 0 0)) (fun k => k = G.sb) := ((Upd.refl w3 (fun k => k = G.sb)).put (.inl rfl)).put (.inl rfl)
  have hc := heap_setCell_same (i := 2) (heap_setCell_same (i := 1) HC3.out (.map (some w2.heap.size))) (.slice none 0 0)
  have hm4 := HM3.out.upd hu4 (fun e => by have := H2.out.lt (r := .sh) rfl; omega)
  have := H2.out.names (Nat.le_refl _) ((hu3.mono (fun _ _ h => h.elim)).trans hu4 (fun _ _ h => h)) hc hm4
  rw [show ({ S.act.1 with old := S.now, moves := [] } : Sh) = { S.act.1 with old := S.act.1.now, moves := [] } from by rw [HNW.out]]
  exact this

set_option maxHeartbeats 400000 in
theorem rename_calls {G : Gh} {S : Sh} {w : World} (h : IsShelf w G S) (s t : ByteArray) (hs : s.size ≤ Big) (ht : t.size ≤ Big) (hm : S.moves.length < Big) (hn : S.now.length < Big) :
    Calls Try.prog 28 #[.pointer (some ⟨G.sb, 0, none⟩), .string s, .string t] w fun e w' => e = .returned (.int .i64 (S.rename s.data.toList t.data.toList).2) ∧ After w w' G (S.rename s.data.toList t.data.toList).1 := by
  have hnm := name_calls t
  by_cases h1 : Sh.nameOk t.data.toList = false
  · have he : S.rename s.data.toList t.data.toList = (S, 1) := by simp [Sh.rename, h1]
    rw [he]
    rw [h1] at hnm
    have HN := Lib.hid hnm
    have H := Lib.hid h
    clear hnm he h1 h
    go_enter Try.func28, Try.ntmps28
    go_wp2_with (first
        | (go_at_call 19; refine (HN.out _).mono ?_; rintro e w1 ⟨rfl, hu1⟩)
        | go_in)
    go_ret
    exact ⟨rfl, After.of_upd H.out hu1⟩
  simp only [Bool.not_eq_false] at h1
  rw [h1] at hnm
  by_cases h2 : S.act.2 = false
  · have he : S.rename s.data.toList t.data.toList = (S.act.1, 7) := by simp [Sh.rename, h1, h2]
    rw [he]
    have HN := Lib.hid hnm
    have H := Lib.hid h
    have HA := Lib.hid h2
    clear hnm he h1 h h2
    go_enter Try.func28, Try.ntmps28
    go_wp2_with (first
        | (go_at_call 19; refine (HN.out _).mono ?_; rintro e w1 ⟨rfl, hu1⟩)
        | (go_at_call 20; refine (act_no (H.out.upd hu1 (fun _ _ h => h)) HA.out).mono ?_; rintro e w2 ⟨rfl, hi2, hu2, hs2⟩; have HS2 := Lib.hid hs2; clear hs2)
        | go_in)
    go_ret
    exact ⟨rfl, (After.of_head hi2 hu2).cons0 hu1⟩
  simp only [Bool.not_eq_false] at h2
  have HN := Lib.hid hnm
  have H := Lib.hid h
  have HA := Lib.hid h2
  cases hl : look S.now s.data.toList with
  | none =>
    have he : S.rename s.data.toList t.data.toList = (S.act.1, 2) := by simp [Sh.rename, h1, h2, hl]
    rw [he]
    have HL := Lib.hid (show look S.act.1.now s.data.toList = none by rw [act_now]; exact hl)
    clear hnm he h1 h h2 hl hm hn
    go_enter Try.func28, Try.ntmps28
    go_wp2_with (first
        | (go_at_call 19; refine (HN.out _).mono ?_; rintro e w1 ⟨rfl, hu1⟩)
        | (go_at_call 20; refine (act_yes (H.out.upd hu1 (fun _ _ h => h)) HA.out).mono ?_; rintro e w2 ⟨rfl, hi2, hu2, hs2⟩; have HS2 := Lib.hid hs2; clear hs2; have H2 := Lib.hid hi2; clear hi2; have c0 : w2.cell? ⟨G.sb, 0, none⟩ = some (.map (some G.nb)) := (cell_of_heap H2.out.cells 0).trans rfl)
        | (at_lookup; refine wpList_look_none rfl _ _ 49 rfl 9 54 keyT Try.underlying49 zeroBook G.nb G.bl _ rfl H2.out.now s rfl (keyOfS hs) HL.out ?_)
        | go_in)
    go_ret
    exact ⟨rfl, (After.of_head H2.out hu2).cons0 hu1⟩
  | some i =>
    obtain ⟨bb, a, c, f, hbb, hba, hf, hfile⟩ := h.at_ hl
    have HL := Lib.hid (show look S.act.1.now s.data.toList = some i by rw [act_now]; exact hl)
    have HB := Lib.hid hbb
    by_cases hst : s = t
    · subst hst
      have he : S.rename s.data.toList s.data.toList = (S.act.1, 0) := by simp [Sh.rename, h1, h2, hl]
      rw [he]
      clear hnm he h1 h h2 hl hm hn hbb hba hf hfile
      go_enter Try.func28, Try.ntmps28
      go_wp2_with (first
        | (go_at_call 19; refine (HN.out _).mono ?_; rintro e w1 ⟨rfl, hu1⟩)
        | (go_at_call 20; refine (act_yes (H.out.upd hu1 (fun _ _ h => h)) HA.out).mono ?_; rintro e w2 ⟨rfl, hi2, hu2, hs2⟩; have HS2 := Lib.hid hs2; clear hs2; have H2 := Lib.hid hi2; clear hi2; have c0 : w2.cell? ⟨G.sb, 0, none⟩ = some (.map (some G.nb)) := (cell_of_heap H2.out.cells 0).trans rfl)
        | (at_lookup; refine wpList_look_found rfl _ _ 49 rfl 9 54 keyT Try.underlying49 zeroBook G.nb G.bl _ rfl H2.out.now s rfl (keyOfS hs) i HL.out bb HB.out ?_)
        | go_in)
      go_ret
      exact ⟨rfl, (After.of_head H2.out hu2).cons0 hu1⟩
    · have hne : s.data.toList ≠ t.data.toList := fun e => hst (Go.WideShapes.bytes_inj e)
      have hst2 : (s.toList == t.toList) = false := by
        rw [ByteArray.toList_eq, ByteArray.toList_eq]
        simpa using hne
      have he : S.rename s.data.toList t.data.toList = ({ S.act.1 with now := del (put S.now t.data.toList i) s.data.toList, moves := S.moves ++ [⟨t.data.toList, some i, s.data.toList⟩] }, 0) := by simp [Sh.rename, h1, h2, hl, hne]
      rw [he]
      have hm' : S.act.1.moves.length < Big := by rw [act_moves]; exact hm
      have hn' : S.act.1.now.length < Big := by rw [act_now]; exact hn
      clear hnm he h1 h h2 hl hm hn hbb hba hf hfile hne hst
      obtain ⟨i0, hi0, hz0, hz1, hz2⟩ := info_parts infoMove
      have HI := Lib.hid hi0
      have Z0 := Lib.hid hz0
      have Z1 := Lib.hid hz1
      have Z2 := Lib.hid hz2
      clear hi0 hz0 hz1 hz2
      go_enter Try.func28, Try.ntmps28
      go_wp2_with (first
        | (go_at_call 19; refine (HN.out _).mono ?_; rintro e w1 ⟨rfl, hu1⟩)
        | (go_at_call 20; refine (act_yes (H.out.upd hu1 (fun _ _ h => h)) HA.out).mono ?_; rintro e w2 ⟨rfl, hi2, hu2, hs2⟩; have HS2 := Lib.hid hs2; clear hs2; have H2 := Lib.hid hi2; clear hi2; have c0 : w2.cell? ⟨G.sb, 0, none⟩ = some (.map (some G.nb)) := (cell_of_heap H2.out.cells 0).trans rfl)
        | (at_lookup; refine wpList_look_found rfl _ _ 49 rfl 9 54 keyT Try.underlying49 zeroBook G.nb G.bl _ rfl H2.out.now s rfl (keyOfS hs) i HL.out bb HB.out ?_)
        | (at_mapUpdate; refine wpList_put rfl _ _ _ 49 rfl 9 54 keyT Try.underlying49 G.nb G.bl _ rfl H2.out.now (by unfold maxLen; unfold Big at hn'; omega) t rfl (keyOfS ht) i bb HB.out rfl ?_; intro w3 hm3 hu3 hs3; have HM3 := Lib.hid hm3; have HC3 := Lib.hid (hu3.heap H2.out.cells (H2.out.ne (r := .sh) (r' := .now) rfl rfl (by simp))); have c3 : w3.cell? ⟨G.sb, 0, none⟩ = some (.map (some G.nb)) := (cell_of_heap HC3.out 0).trans rfl; clear c0 hm3 hs3)
        | (at_delete; refine wpList_strike rfl _ _ 49 9 rfl 54 keyT Try.underlying49 G.nb G.bl _ rfl HM3.out s rfl (keyOfS hs) ?_; intro w4 hm4 hu4 hs4; have HM4 := Lib.hid hm4; have U4 := hu3.trans hu4 (fun _ _ h => h); have HC4 := Lib.hid (hu4.heap HC3.out (H2.out.ne (r := .sh) (r' := .now) rfl rfl (by simp))); have c4 : w4.cell? ⟨G.sb, 2, none⟩ = some (.slice G.mva S.act.1.moves.length G.mvc) := (cell_of_heap HC4.out 2).trans rfl; clear c3 hm4 hs4)
        | (at_builtin; refine wpList_append_row rfl _ _ 50 rfl 71 i0 _ 3 40 Try.underlying50 HI.out Z0.out Z1.out Z2.out rfl (by decide) _ _ _ _ rfl ((H2.out.mv.upd U4 (fun g hg e => H2.out.ne (r := .mv) (r' := .now) hg rfl (by simp) e)).upd ((Upd.refl w4 (fun _ => False)).alloc _) (fun _ _ h => h)) _ 1 1 _ rfl (Rd.new _ 3 1 _ _ rfl) (by exact ones3 _ _ _ rfl rfl rfl) hm' (by decide) ?_; intro a' cap' w5 hrow hupd hor; have U5 : Upd w4 w5 (fun k => blockOf G.mva = some k) := ((Upd.refl w4 _).alloc _).trans hupd (fun _ _ h => h); have HC5 := Lib.hid (U5.heap HC4.out (fun e => H2.out.ne (r := .mv) (r' := .sh) e rfl (by simp) rfl)); have f5 : w5.frozen? ⟨G.sb, 2, none⟩ = false := free_of_heap HC5.out 2; have c5 : w5.cell? ⟨G.sb, 2, none⟩ = some (.slice G.mva S.act.1.moves.length G.mvc) := (cell_of_heap HC5.out 2).trans rfl; clear c4)
        | go_in)
      go_ret
      refine ⟨rfl, After.cons0 hu1 (After.cons1 hu2 ?_)⟩
      have hb : G.bl.getD i 0 = bb := by simp [HB.out]
      have hg : ∀ g, blockOf a' = some g → g ≠ G.sb := by
        intro g hg
        rcases hor with ⟨rfl, _⟩ | ⟨rfl, _⟩
        · exact H2.out.ne (r := .mv) (r' := .sh) hg rfl (by simp)
        · simp [blockOf] at hg
          have h1 := H2.out.lt (r := .sh) rfl
          have h2 := U4.size
          omega
      have hset : Upd w5 (w5.setCell ⟨G.sb, 2, none⟩ (.slice a' (S.act.1.moves.length + 1) cap')) (fun k => k = G.sb) := (Upd.refl w5 (fun k => k = G.sb)).put (.inl rfl)
      have hrow3 : Row (w5.setCell ⟨G.sb, 2, none⟩ (.slice a' (S.act.1.moves.length + 1) cap')) 71 3 a' (S.moves ++ [(⟨t.data.toList, some i, s.data.toList⟩ : Mv)]).length cap' ((S.moves ++ [(⟨t.data.toList, some i, s.data.toList⟩ : Mv)]).flatMap (encMv G.bl)) := by
        rw [flat_one, List.length_append]
        have e : encMv G.bl (⟨t.data.toList, some i, s.data.toList⟩ : Mv) = [.string t, .pointer (some ⟨bb, 0, none⟩), .string s] := by
          simp only [encMv, strV_mk, ptrV, hb]
        rw [e]
        have hr := hrow.upd hset hg
        rw [act_moves] at hr ⊢
        exact hr
      have hmap := (HM4.out.upd U5 (fun e => H2.out.ne (r := .mv) (r' := .now) e rfl (by simp) rfl)).upd hset (H2.out.ne (r := .now) (r' := .sh) rfl rfl (by simp))
      rw [act_now] at hmap
      refine H2.out.turned (c := cap') (a := a') ?_ ?_ hmap hrow3 ?_ ?_ (fresh_or (by have := U4.size; simp; omega) hor)
      · refine ((U4.mono (F' := fun k => k = G.sb ∨ k = G.nb ∨ blockOf G.mva = some k) (fun k _ h => .inr (.inl h))).trans U5 (fun k _ h => .inr (.inr h))).trans hset (fun k _ h => .inl h)
      · have := heap_setCell_same (i := 2) HC5.out (.slice a' (S.act.1.moves.length + 1) cap')
        rw [List.length_append, ← act_moves S]
        exact this
      · intro y hy k hk
        rcases List.mem_append.1 hy with hy | hy
        · exact H2.out.mvlt y (by rw [act_moves]; exact hy) k hk
        · simp at hy
          subst hy
          cases hk
          exact (List.getElem?_eq_some_iff.1 HB.out).1
      · intro y hy
        rcases List.mem_append.1 hy with hy | hy
        · exact H2.out.small y (by rw [act_moves]; exact hy)
        · simp at hy
          subst hy
          exact ⟨by simpa using ht, by simpa using hs⟩
end Go.Proofs.Ytpmbeeddciepjaa
