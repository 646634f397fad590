/- Walks: what Used adds up: its closure. -/
import Derived.Test.YtpmbeeddciepjaaM
import Derived.BigRegion
import Derived.BigQuiet
import Derived.StillTailTactics
import Derived.Deep.QuietTactic
namespace Go.Proofs.Ytpmbeeddciepjaa
open Go.RowKit Go.Maps
set_option linter.unusedSimpArgs false
set_option linter.unusedVariables false

theorem zeroBool (w : World) : (zeroValue 4).run Try.prog w = .ok (.bool false) w := by kernel_rfl
theorem infoBook : ∃ j, Try.prog.info? 57 = some j ∧ j.size ≠ 0 := by
  have h : (Try.prog.info? 57).map (fun i => i.size) = some 2 := by kernel_rfl
  cases hi : Try.prog.info? 57 with
  | none => rw [hi] at h; cases h
  | some j =>
    rw [hi] at h
    refine ⟨j, rfl, ?_⟩
    have : j.size = 2 := by simpa using h
    omega

set_option maxHeartbeats 400000 in
theorem add_seen (x : Option Nat) (s1 n1 mb : Nat) (l : List (Option Nat)) (w : World) (hs : SeenIs w mb l) (hx : Solid w x) (hl : ∀ y ∈ l, Solid w y) (hm : x ∈ l) (c0 : w.cell? ⟨s1, 0, none⟩ = some (.map (some mb))) :
    Calls Try.prog 37 #[optPtr x, .pointer (some ⟨s1, 0, none⟩), .pointer (some ⟨n1, 0, none⟩)] w fun e w' => e = .returned (.tuple #[]) ∧ w = w' := by
  obtain ⟨j0, hj, hz⟩ := infoBook
  have HJ := Lib.hid hj
  have HZ := Lib.hid hz
  have HS := Lib.hid hs
  have HX := Lib.hid hx
  have HL := Lib.hid hl
  have HM := Lib.hid (show decide (x ∈ l) = true by simpa using hm)
  clear hj hz hs hx hl hm
  go_enter Try.func37, Try.ntmps37
  go_wp2_with (first
        | (at_lookup; refine wpList_seen_look rfl _ _ 73 rfl 54 4 57 j0 Try.underlying73 Try.underlying54 HJ.out HZ.out zeroBool mb l rfl HS.out x rfl HX.out HL.out true HM.out ?_)
        | go_in)
  go_end0
  exact ⟨rfl, rfl⟩

set_option maxHeartbeats 400000 in
theorem add_new (b : Nat) (s1 n1 mb : Nat) (l : List (Option Nat)) (w : World) (hs : SeenIs w mb l) (hx : Solid w (some b)) (hl : ∀ y ∈ l, Solid w y) (hm : some b ∉ l) (c0 : w.cell? ⟨s1, 0, none⟩ = some (.map (some mb)))
    (n : Int) (a : Option Addr) (k c : Nat) (c1 : w.cell? ⟨n1, 0, none⟩ = some (.int .i64 n)) (f1 : w.frozen? ⟨n1, 0, none⟩ = false) (d0 : w.cell? ⟨b, 0, none⟩ = some (.slice a k c)) (hn0 : 0 ≤ n) (hn1 : n + k ≤ 4611686018427387904)
    (q1 : n1 < w.heap.size) (q2 : n1 ≠ mb) (q3 : b ≠ mb) :
    Calls Try.prog 37 #[.pointer (some ⟨b, 0, none⟩), .pointer (some ⟨s1, 0, none⟩), .pointer (some ⟨n1, 0, none⟩)] w fun e w' => e = .returned (.tuple #[]) ∧ ∃ w1 nq, SeenIs w1 mb (l ++ [some b]) ∧ Upd w w1 (fun k => k = mb) ∧ w1.heap.size = w.heap.size ∧ w' = (w1.setCell ⟨n1, 0, none⟩ (.int .i64 (n + k))).drewN nq := by
  obtain ⟨j0, hj, hz⟩ := infoBook
  have hb : b < w.heap.size := by obtain ⟨cs, e, h⟩ := hx b rfl; exact lt_of_heap h
  obtain ⟨x, hxx⟩ : ∃ x, x = some b := ⟨_, rfl⟩
  rw [← hxx] at hx hm
  have HXX := Lib.hid hxx
  have HJ := Lib.hid hj
  have HZ := Lib.hid hz
  have HS := Lib.hid hs
  have HX := Lib.hid hx
  have HL := Lib.hid hl
  have HM := Lib.hid (show decide (x ∈ l) = false by simpa using hm)
  have HNM := Lib.hid hm
  have N1 := Lib.hid q1
  have N2 := Lib.hid (show ¬ (n1 = mb) from q2)
  have B1 := Lib.hid hb
  have B2 := Lib.hid (show ¬ (b = mb) from q3)
  clear hj hz hs hx hl hm hxx q1 q2 q3 hb
  go_enter Try.func37, Try.ntmps37
  go_wp2_with (first
        | (at_lookup; refine wpList_seen_look rfl _ _ 73 rfl 54 4 57 j0 Try.underlying73 Try.underlying54 HJ.out HZ.out zeroBool mb l rfl HS.out x (by rw [HXX.out]; rfl) HX.out HL.out false HM.out ?_)
        | (at_mapUpdate; refine wpList_seen_add rfl _ _ _ 73 (.inl rfl) 54 4 57 j0 Try.underlying73 Try.underlying54 HJ.out HZ.out mb l rfl HS.out x (by rw [HXX.out]; rfl) rfl HX.out HL.out HNM.out ?_; intro w1 hs1 hu1 hz1; have HS1 := Lib.hid hs1; have HZ1 := Lib.hid hz1; have c1' : w1.cell? ⟨n1, 0, none⟩ = some (.int .i64 n) := (hu1.cell (p := ⟨n1, 0, none⟩) N1.out N2.out).trans c1; have f1' : w1.frozen? ⟨n1, 0, none⟩ = false := (World.frozen?_of_block (w := w) (hu1.block n1 N1.out N2.out)).trans f1; have d0' : w1.cell? ⟨b, 0, none⟩ = some (.slice a k c) := (hu1.cell (p := ⟨b, 0, none⟩) B1.out B2.out).trans d0; clear c0 c1 f1 d0 hs1 hz1)
        | go_in)
  go_frame
  go_region
  all_goals
    go_end0
    refine ⟨rfl, w1, 1, ?_, hu1, HZ1.out, rfl⟩
    have h1 := HS1.out
    rw [HXX.out] at h1
    exact h1

/-- What is added up so far: those files whose numbers are on the list, each once. -/
structure Adds (w : World) (G : Gh) (S : Sh) (s1 n1 mb : Nat) (L : List Nat) : Prop where
  seen : SeenIs w mb (none :: L.map (fun i => some (G.bl.getD i 0)))
  sc : w.heap[s1]? = some (.cells #[.map (some mb)] 73 (0, 0))
  nc : w.heap[n1]? = some (.cells #[.int .i64 ((L.map S.lenOf).sum : Nat)] 3 (0, 0))
  nodup : L.Nodup
  lt : ∀ i ∈ L, i < G.bl.length
  ne1 : s1 ≠ n1
  ne2 : s1 ≠ mb
  ne3 : n1 ≠ mb
  own : ¬ G.own s1 ∧ ¬ G.own n1 ∧ ¬ G.own mb

theorem nodup_bound : ∀ (n : Nat) (L : List Nat), L.Nodup → (∀ i ∈ L, i < n) → L.length ≤ n
  | 0, [], _, _ => Nat.le_refl _
  | 0, i :: r, _, h => absurd (h i (by simp)) (by omega)
  | n + 1, L, hd, h => by
    by_cases hn : n ∈ L
    · have := nodup_bound n (L.erase n) (hd.erase n) (fun i hi => by
        have h1 := h i (List.mem_of_mem_erase hi)
        have h2 : i ≠ n := (hd.mem_erase_iff.1 hi).1
        omega)
      rw [List.length_erase_of_mem hn] at this
      omega
    · have := nodup_bound n L hd (fun i hi => by
        have h1 := h i hi
        have h2 : i ≠ n := fun e => hn (e ▸ hi)
        omega)
      omega
theorem sum_bound (f : Nat → Nat) (B : Nat) : ∀ (L : List Nat), (∀ i ∈ L, f i ≤ B) → (L.map f).sum ≤ L.length * B
  | [], _ => by simp
  | i :: r, h => by
    have := sum_bound f B r (fun j hj => h j (by simp [hj]))
    have h2 := h i (by simp)
    simp only [List.map_cons, List.sum_cons, List.length_cons, Nat.add_mul, Nat.one_mul]
    omega
theorem IsShelf.lenOf_le {w : World} {G : Gh} {S : Sh} (h : IsShelf w G S) (i : Nat) (hi : i < G.bl.length) : S.lenOf i ≤ Big := by
  have h1 : i < S.fs.length := by rw [← h.lbl]; exact hi
  have h2 : i < G.ba.length := by rw [h.lba]; exact h1
  have := (h.file i _ (G.ba[i]).1 (G.ba[i]).2 _ (List.getElem?_eq_getElem hi) (List.getElem?_eq_getElem h2) (List.getElem?_eq_getElem h1)).2.2.1
  simpa [Sh.lenOf, List.getElem?_eq_getElem h1] using this
theorem IsShelf.bl_inj {w : World} {G : Gh} {S : Sh} (h : IsShelf w G S) {i j b : Nat} (hi : G.bl[i]? = some b) (hj : G.bl[j]? = some b) : i = j := by
  have := h.apart (.file i) (.file j) b hi hj
  injection this
theorem getD_of {l : List Nat} {i b : Nat} (h : l[i]? = some b) : l.getD i 0 = b := by simp [h]

/-- A file is added, once. -/
theorem add_step {G : Gh} {S : Sh} {w : World} (h : IsShelf w G S) {s1 n1 mb : Nat} {L : List Nat} (hA : Adds w G S s1 n1 mb L) (hfs : S.fs.length ≤ 1048576) {i b : Nat} (hb : G.bl[i]? = some b) :
    Calls Try.prog 37 #[.pointer (some ⟨b, 0, none⟩), .pointer (some ⟨s1, 0, none⟩), .pointer (some ⟨n1, 0, none⟩)] w fun e w' => e = .returned (.tuple #[]) ∧ ∃ L', Adds w' G S s1 n1 mb L' ∧ (∀ k, k ∈ L' ↔ k ∈ L ∨ k = i) ∧ Upd w w' (fun k => k = mb ∨ k = n1) := by
  have hi : i < G.bl.length := (List.getElem?_eq_some_iff.1 hb).1
  have hib : i < S.fs.length := by rw [← h.lbl]; exact hi
  have hia : i < G.ba.length := by rw [h.lba]; exact hib
  have hF := h.file i b (G.ba[i]).1 (G.ba[i]).2 _ hb (List.getElem?_eq_getElem hia) (List.getElem?_eq_getElem hib)
  have hsol : ∀ y ∈ (none :: L.map (fun i => some (G.bl.getD i 0))), Solid w y := by
    intro y hy c hc
    rcases List.mem_cons.1 hy with rfl | hy
    · cases hc
    · obtain ⟨j, hj, rfl⟩ := List.mem_map.1 hy
      cases hc
      have hjl := hA.lt j hj
      have h1 : j < S.fs.length := by rw [← h.lbl]; exact hjl
      have h2 : j < G.ba.length := by rw [h.lba]; exact h1
      have := (h.file j (G.bl.getD j 0) (G.ba[j]).1 (G.ba[j]).2 _ (by simp [List.getElem?_eq_getElem hjl]) (List.getElem?_eq_getElem h2) (List.getElem?_eq_getElem h1)).1
      exact ⟨_, _, this⟩
  have hx : Solid w (some b) := by
    intro c hc
    cases hc
    exact ⟨_, _, hF.1⟩
  have hmem : (some b) ∈ (none :: L.map (fun i => some (G.bl.getD i 0))) ↔ i ∈ L := by
    constructor
    · intro hm
      rcases List.mem_cons.1 hm with hm | hm
      · cases hm
      · obtain ⟨j, hj, e⟩ := List.mem_map.1 hm
        have hjl := hA.lt j hj
        have e : G.bl.getD j 0 = b := by injection e
        have : G.bl[j]? = some b := by rw [← e]; simp [List.getElem?_eq_getElem hjl]
        rw [h.bl_inj hb this]
        exact hj
    · intro hm
      exact List.mem_cons_of_mem _ (List.mem_map.2 ⟨i, hm, by rw [getD_of hb]⟩)
  by_cases hm : i ∈ L
  · refine (add_seen (some b) s1 n1 mb _ w hA.seen hx hsol (hmem.2 hm) ((cell_of_heap hA.sc 0).trans rfl)).mono ?_
    rintro e w' ⟨rfl, rfl⟩
    exact ⟨rfl, L, hA, fun k => ⟨.inl, fun hk => hk.elim id (fun e => e ▸ hm)⟩, Upd.refl _ _⟩
  · have hown : G.own b := ⟨.file i, hb⟩
    have hlen : S.lenOf i = (S.fs[i]).p.length := by simp [Sh.lenOf, List.getElem?_eq_getElem hib]
    have hs1 := sum_bound S.lenOf Big L (fun j hj => h.lenOf_le j (hA.lt j hj))
    have hs2 := nodup_bound G.bl.length L hA.nodup hA.lt
    have hs3 := hF.2.2.1
    have hs4 : L.length * Big ≤ 1048576 * Big := Nat.mul_le_mul_right _ (by have := h.lbl; omega)
    unfold Big at hs1 hs3 hs4
    refine (add_new b s1 n1 mb _ w hA.seen hx hsol (fun e => hm (hmem.1 e)) ((cell_of_heap hA.sc 0).trans rfl) ((L.map S.lenOf).sum : Nat) _ _ _ ((cell_of_heap hA.nc 0).trans rfl) (free_of_heap hA.nc 0) ((cell_of_heap hF.1 0).trans rfl) (by omega) (by omega) (lt_of_heap hA.nc) hA.ne3 (fun e => hA.own.2.2 (e ▸ hown))).mono ?_
    rintro e w' ⟨rfl, w1, nq, h1, h2, h3, rfl⟩
    have hset : Upd w1 ((w1.setCell ⟨n1, 0, none⟩ (.int .i64 (((L.map S.lenOf).sum : Nat) + (S.fs[i]).p.length))).drewN nq) (fun k => k = n1) := ((Upd.refl w1 (fun k => k = n1)).put (.inl rfl)).drewN nq
    have hnc := h2.heap hA.nc hA.ne3
    refine ⟨rfl, L ++ [i], ⟨?_, ?_, ?_, ?_, ?_, hA.ne1, hA.ne2, hA.ne3, hA.own⟩, fun k => by simp, (h2.mono (fun _ _ h => .inl h)).trans hset (fun _ _ h => .inr h)⟩
    · have := h1.upd hset (fun e => hA.ne3 e.symm)
      rw [List.map_append, List.map_singleton, getD_of hb]
      exact this
    · exact hset.heap (h2.heap hA.sc hA.ne2) hA.ne1
    · have := heap_setCell_same (i := 0) hnc (.int .i64 (((L.map S.lenOf).sum : Nat) + (S.fs[i]).p.length))
      rw [List.map_append, List.sum_append, List.map_singleton, List.sum_singleton, hlen, Int.natCast_add]
      exact this
    · rw [List.nodup_append]
      refine ⟨hA.nodup, by simp, ?_⟩
      intro a ha b hb e
      simp at hb
      subst hb
      exact hm (e ▸ ha)
    · intro j hj
      rcases List.mem_append.1 hj with hj | hj
      · exact hA.lt j hj
      · simp at hj; subst hj; exact hi
end Go.Proofs.Ytpmbeeddciepjaa
