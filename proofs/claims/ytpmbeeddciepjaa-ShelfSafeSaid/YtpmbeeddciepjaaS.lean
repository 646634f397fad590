/- The library's contracts that this program uses, laid at its numbers (made by the kit's tools lay-plain and lay-iter). -/
import Derived.Shelf.SlGeneric
import Derived.Ground.GgwProg
import Derived.Ground.GgzProg
import Derived.Ground.SlgmProg
import Derived.Ground.SlmcProg
import Derived.Shelf.GgClosure.StringsRunes
import Derived.Shelf.SlIter.Nil
import Derived.Shelf.SortM.Plain
import Derived.Shelf.SortM.SortNone
import Derived.Shelf.SlMaps.Clone
import Derived.Test.YtpmbeeddciepjaaProg
namespace Go.Proofs
open Go.Shelf
def Try.laysGw17_ren : Go.Shelf.Ren := ⟨fun | 17 => 41 | 15 => 54 | 20 => 58 | n => n, fun | 9 => 9 | 23 => 79 | 4 => 4 | 3 => 3 | 0 => 0 | 21 => 21 | n => n, fun | n => n⟩
theorem Try.laysGw17 : Go.Proofs.LaysGw.n17 Try.prog Try.laysGw17_ren := {
  mixed := by kernel_rfl
  f15 := Try.func54.trans (congrArg some (by kernel_rfl))
  f17 := Try.func41.trans (congrArg some (by kernel_rfl))
  f20 := Try.func58.trans (congrArg some (by kernel_rfl))
  t0 := Try.underlying0
  a0 := Try.isAgg0
  z0 := Try.sizeOf0
  v0 := Try.zeroValue0
  i0 := by kernel_rfl
  t3 := Try.underlying3
  a3 := Try.isAgg3
  z3 := Try.sizeOf3
  v3 := Try.zeroValue3
  i3 := by kernel_rfl
  t4 := Try.underlying4
  a4 := Try.isAgg4
  z4 := Try.sizeOf4
  v4 := Try.zeroValue4
  i4 := by kernel_rfl
  t9 := Try.underlying9
  a9 := Try.isAgg9
  z9 := Try.sizeOf9
  v9 := Try.zeroValue9
  i9 := by kernel_rfl
  t21 := Try.underlying21
  a21 := Try.isAgg21
  z21 := Try.sizeOf21
  v21 := Try.zeroValue21
  i21 := by kernel_rfl
  t23 := Try.underlying79
  a23 := Try.isAgg79
  z23 := Try.sizeOf79
  v23 := Try.zeroValue79
  i23 := by kernel_rfl }
def Try.cloneM22_ren : Go.Shelf.Ren := ⟨fun | 5 => 22 | 7 => 42 | n => n, fun | 23 => 49 | 25 => 9 | 3 => 54 | 4 => 4 | 20 => 20 | n => n, fun | n => n⟩
theorem Try.cloneM22 : Go.Proofs.SlLaysW.n5 Try.prog Try.cloneM22_ren := {
  mixed := by kernel_rfl
  f5 := ⟨Try.f22.name, by decide, Try.func22.trans (congrArg some (by kernel_rfl))⟩
  f7 := Try.func42.trans (congrArg some (by kernel_rfl))
  t4 := Try.underlying4
  a4 := Try.isAgg4
  z4 := Try.sizeOf4
  v4 := Try.zeroValue4
  t20 := Try.underlying20
  a20 := Try.isAgg20
  z20 := Try.sizeOf20
  v20 := Try.zeroValue20
  t23 := Try.underlying49
  a23 := Try.isAgg49
  z23 := Try.sizeOf49
  v23 := Try.zeroValue49 }
def Try.keys39_ren : Go.Shelf.Ren := ⟨fun | 7 => 39 | 10 => 53 | n => n, fun | 23 => 49 | 26 => 9 | 3 => 54 | 28 => 77 | 0 => 0 | 27 => 76 | 33 => 53 | 4 => 4 | n => n, fun | n => n⟩
theorem Try.keys39 : Go.Proofs.SlLaysZ.n7 Try.prog Try.keys39_ren := {
  mixed := by kernel_rfl
  f7 := ⟨Try.f39.name, by decide, Try.func39.trans (congrArg some (by kernel_rfl))⟩
  f10 := ⟨Try.f53.name, by decide, Try.func53.trans (congrArg some (by kernel_rfl))⟩
  t0 := Try.underlying0
  a0 := Try.isAgg0
  z0 := Try.sizeOf0
  v0 := Try.zeroValue0
  t4 := Try.underlying4
  a4 := Try.isAgg4
  z4 := Try.sizeOf4
  v4 := Try.zeroValue4
  t23 := Try.underlying49
  a23 := Try.isAgg49
  z23 := Try.sizeOf49
  v23 := Try.zeroValue49
  t26 := Try.underlying9
  a26 := Try.isAgg9
  z26 := Try.sizeOf9
  v26 := Try.zeroValue9
  t27 := Try.underlying76
  a27 := Try.isAgg76
  z27 := Try.sizeOf76
  v27 := Try.zeroValue76
  t28 := Try.underlying77
  a28 := Try.isAgg77
  z28 := Try.sizeOf77
  v28 := Try.zeroValue77
  t33 := Try.underlying53
  a33 := Try.isAgg53
  z33 := Try.sizeOf53
  v33 := Try.zeroValue53 }
def Try.sorted38_ren : Go.Shelf.Ren := ⟨fun | 6 => 38 | 8 => 51 | 9 => 52 | 11 => 55 | 13 => 57 | 12 => 56 | 23 => 68 | 24 => 69 | 14 => 59 | 15 => 60 | 16 => 61 | 17 => 62 | 18 => 63 | 19 => 64 | 20 => 65 | 21 => 66 | 22 => 67 | 25 => 70 | 26 => 71 | 27 => 72 | 28 => 73 | 29 => 74 | 30 => 75 | 31 => 76 | n => n, fun | 26 => 9 | 28 => 77 | 24 => 46 | 0 => 0 | 3 => 3 | 37 => 98 | 48 => 110 | 50 => 112 | 4 => 4 | 40 => 102 | 39 => 101 | 45 => 107 | 5 => 5 | 9 => 9 | 51 => 113 | 55 => 117 | 57 => 119 | 58 => 120 | 33 => 53 | n => n, fun | n => n⟩
theorem Try.sorted38 : Go.Proofs.SlLaysZ.n6 Try.prog Try.sorted38_ren := {
  mixed := by kernel_rfl
  f6 := ⟨Try.f38.name, by decide, Try.func38.trans (congrArg some (by kernel_rfl))⟩
  f8 := ⟨Try.f51.name, by decide, Try.func51.trans (congrArg some (by kernel_rfl))⟩
  f11 := ⟨Try.f55.name, by decide, Try.func55.trans (congrArg some (by kernel_rfl))⟩
  t0 := Try.underlying0
  a0 := Try.isAgg0
  z0 := Try.sizeOf0
  v0 := Try.zeroValue0
  t24 := Try.underlying46
  a24 := Try.isAgg46
  z24 := Try.sizeOf46
  v24 := Try.zeroValue46
  t26 := Try.underlying9
  a26 := Try.isAgg9
  z26 := Try.sizeOf9
  v26 := Try.zeroValue9
  t28 := Try.underlying77
  a28 := Try.isAgg77
  z28 := Try.sizeOf77
  v28 := Try.zeroValue77
  i26 := by kernel_rfl }
def Try.sort52_ren : Go.Shelf.Ren := ⟨fun | 6 => 52 | 8 => 57 | 9 => 56 | 19 => 68 | 20 => 69 | 21 => 59 | 22 => 60 | 23 => 61 | 24 => 62 | 25 => 63 | 26 => 64 | 27 => 65 | 28 => 66 | 29 => 67 | 36 => 70 | 31 => 71 | 32 => 72 | 37 => 73 | 38 => 74 | 39 => 75 | 41 => 76 | n => n, fun | 27 => 46 | 29 => 9 | 3 => 3 | 32 => 98 | 26 => 46 | 0 => 0 | 44 => 110 | 46 => 112 | 4 => 4 | 36 => 102 | 35 => 101 | 41 => 107 | 5 => 5 | 9 => 9 | 53 => 113 | 57 => 117 | 63 => 119 | 64 => 120 | n => n, fun | n => n⟩
theorem Try.sort52 : Go.Proofs.SlLaysM.n6 Try.prog Try.sort52_ren := {
  mixed := by kernel_rfl
  f6 := ⟨Try.f52.name, by decide, Try.func52.trans (congrArg some (by kernel_rfl))⟩
  f8 := Try.func57.trans (congrArg some (by kernel_rfl))
  f9 := ⟨Try.f56.name, by decide, Try.func56.trans (congrArg some (by kernel_rfl))⟩
  f19 := Try.func68.trans (congrArg some (by kernel_rfl))
  f20 := Try.func69.trans (congrArg some (by kernel_rfl))
  f21 := ⟨Try.f59.name, by decide, Try.func59.trans (congrArg some (by kernel_rfl))⟩
  f22 := ⟨Try.f60.name, by decide, Try.func60.trans (congrArg some (by kernel_rfl))⟩
  f23 := ⟨Try.f61.name, by decide, Try.func61.trans (congrArg some (by kernel_rfl))⟩
  f24 := ⟨Try.f62.name, by decide, Try.func62.trans (congrArg some (by kernel_rfl))⟩
  f25 := ⟨Try.f63.name, by decide, Try.func63.trans (congrArg some (by kernel_rfl))⟩
  f26 := ⟨Try.f64.name, by decide, Try.func64.trans (congrArg some (by kernel_rfl))⟩
  f27 := ⟨Try.f65.name, by decide, Try.func65.trans (congrArg some (by kernel_rfl))⟩
  f28 := ⟨Try.f66.name, by decide, Try.func66.trans (congrArg some (by kernel_rfl))⟩
  f29 := ⟨Try.f67.name, by decide, Try.func67.trans (congrArg some (by kernel_rfl))⟩
  f31 := Try.func71.trans (congrArg some (by kernel_rfl))
  f32 := Try.func72.trans (congrArg some (by kernel_rfl))
  f36 := ⟨Try.f70.name, by decide, Try.func70.trans (congrArg some (by kernel_rfl))⟩
  f37 := ⟨Try.f73.name, by decide, Try.func73.trans (congrArg some (by kernel_rfl))⟩
  f38 := ⟨Try.f74.name, by decide, Try.func74.trans (congrArg some (by kernel_rfl))⟩
  f39 := ⟨Try.f75.name, by decide, Try.func75.trans (congrArg some (by kernel_rfl))⟩
  f41 := ⟨Try.f76.name, by decide, Try.func76.trans (congrArg some (by kernel_rfl))⟩
  t0 := Try.underlying0
  a0 := Try.isAgg0
  z0 := Try.sizeOf0
  v0 := Try.zeroValue0
  t3 := Try.underlying3
  a3 := Try.isAgg3
  z3 := Try.sizeOf3
  v3 := Try.zeroValue3
  t4 := Try.underlying4
  a4 := Try.isAgg4
  z4 := Try.sizeOf4
  v4 := Try.zeroValue4
  t5 := Try.underlying5
  a5 := Try.isAgg5
  z5 := Try.sizeOf5
  v5 := Try.zeroValue5
  t9 := Try.underlying9
  a9 := Try.isAgg9
  z9 := Try.sizeOf9
  v9 := Try.zeroValue9
  t26 := Try.underlying46
  a26 := Try.isAgg46
  z26 := Try.sizeOf46
  v26 := Try.zeroValue46
  t27 := Try.underlying46
  a27 := Try.isAgg46
  z27 := Try.sizeOf46
  v27 := Try.zeroValue46
  t29 := Try.underlying9
  a29 := Try.isAgg9
  z29 := Try.sizeOf9
  v29 := Try.zeroValue9
  t32 := Try.underlying98
  a32 := Try.isAgg98
  z32 := Try.sizeOf98
  v32 := Try.zeroValue98
  t35 := Try.underlying101
  a35 := Try.isAgg101
  z35 := Try.sizeOf101
  v35 := Try.zeroValue101
  t36 := Try.underlying102
  a36 := Try.isAgg102
  z36 := Try.sizeOf102
  v36 := Try.zeroValue102
  t41 := Try.underlying107
  a41 := Try.isAgg107
  z41 := Try.sizeOf107
  v41 := Try.zeroValue107
  t44 := Try.underlying110
  a44 := Try.isAgg110
  z44 := Try.sizeOf110
  v44 := Try.zeroValue110
  t46 := Try.underlying112
  a46 := Try.isAgg112
  z46 := Try.sizeOf112
  v46 := Try.zeroValue112
  t53 := Try.underlying113
  a53 := Try.isAgg113
  z53 := Try.sizeOf113
  v53 := Try.zeroValue113
  t57 := Try.underlying117
  a57 := Try.isAgg117
  z57 := Try.sizeOf117
  v57 := Try.zeroValue117
  t63 := Try.underlying119
  a63 := Try.isAgg119
  z63 := Try.sizeOf119
  v63 := Try.zeroValue119
  t64 := Try.underlying120
  a64 := Try.isAgg120
  z64 := Try.sizeOf120
  v64 := Try.zeroValue120 }
open Go.RowKit Go.Maps Go.Sort Go.Lib
theorem Try.strings_ContainsFunc_runes (g : Nat) (lb : Array Value) (eg : ∀ args w, (callFunc g args).run Try.prog w = .ok (.enter g args) w) (p : Nat → Bool) (s : ByteArray) (w : World) (hp : PredAtRunes Try.prog g lb p w) :
    Calls Try.prog 41 #[.string s, .func (.func g) #[] lb] w fun e w' => e = .returned (.bool (decide (0 ≤ Lib.idxFunc p true s))) ∧ Below w.heap.size w w' := Any.strings_ContainsFunc_runes Try.laysGw17 g lb eg p s w hp
theorem Try.maps_Clone_22 {H : Type} (k : TypeId) (R : Value → Option (DataW H × List MemPlace)) (b n : Nat) (D : DataW H) (w : World) (hown : w.ownsMap Try.prog k R b n D) :
    Calls Try.prog 22 #[.map (some b)] w fun e w' => e = .returned (.map (some w.heap.size)) ∧ w'.ownsMap Try.prog k R w.heap.size n D ∧ w'.ownsMap Try.prog k R b n D ∧ Below w.heap.size w w' :=
  AnyW.maps_Clone_owns Try.cloneM22 k R b n D w hown

/-- slices.Sort's two contracts at this dump, at the fence that asks nothing. -/
theorem Try.sorts38 (m : Nat) : AnyZ.SortsIn Try.prog Try.sorted38_ren Fence.wide m :=
  ⟨fun blk off cap ss W hH hblk hsz => callsIn_wide.2 (AnyM.slices_Sort_string Try.sort52 blk off cap ss W hH hblk hsz),
   fun p cap W => callsIn_wide.2 (AnyM.slices_Sort_string_none Try.sort52 p cap W)⟩

/-- **maps.Keys[map[string]*milestone/shelf.book,string,*milestone/shelf.book], at whatever map, the nil one too:** a function value over ONE NEW BLOCK, which holds the map. -/
theorem Try.maps_Keys_39 (mb : Option Nat) (W : World) : CallsIn Fence.wide 5 Try.prog 39 #[.map mb] W fun e w' => e = .returned (.func (.func 53) #[] #[.pointer (some ⟨W.heap.size, 0, none⟩)]) ∧ w' = W.alloc (.cells #[.map mb] 49) :=
  AnyZ.keys_in Try.keys39 Fence.wide 5 trivial rfl mb W

set_option maxHeartbeats 1000000 in
/-- **slices.Sorted[string] AT WHAT maps.Keys[map[string]*milestone/shelf.book,string,*milestone/shelf.book] HANDED BACK FOR A MAP THAT IS NOT nil** ('w': the world AHEAD of maps.Keys' call): A NEW SLICE THAT HOLDS THE MAP's KEYS, SORTED; nil just where it has none; nothing that lay before has turned. -/
theorem Try.slices_Sorted_keys_38_39 {H : Type} (b nn : Nat) (D0 : DataW H) (R : Value → Option (DataW H × List MemPlace)) (w : World) (hown : w.ownsMap Try.prog 9 R b nn D0) (hmax : Maps.size D0 ≤ maxLen) (hbytes : Maps.size D0 * 16 ≤ 140737488355328) :
    CallsIn Fence.wide 5 Try.prog 38 #[.func (.func 53) #[] #[.pointer (some ⟨w.heap.size, 0, none⟩)]] (w.alloc (.cells #[.map (some b)] 49)) fun e w' => ∃ (v : Value) (ss : List (List UInt8)), e = .returned v ∧ ss.Perm (strKeys D0) ∧
      w'.ownsRow (w.alloc (.cells #[.map (some b)] 49)).heap.size 9 1 v ss.length ((ss.mergeSort (fun x y => decide (x ≤ y))).map encStr) ∧ (v = .slice none 0 0 ↔ ss = []) ∧ Below (w.alloc (.cells #[.map (some b)] 49)).heap.size (w.alloc (.cells #[.map (some b)] 49)) w' := by
  have hbl := hown.lt
  have hseq : SeqGives Fence.wide 2 Try.prog 53 #[.pointer (some ⟨w.heap.size, 0, none⟩)] encStr (fun ss => ss.Perm (strKeys D0)) (Maps.size D0) (w.alloc (.cells #[.map (some b)] 49)) :=
    AnyZ.keys_gives (ρ := Try.keys39_ren) { Try.keys39 with } Fence.wide _ trivial rfl (by omega) w.heap.size b nn D0 _ (by simp) (by simp) (by
      obtain ⟨es, clock, hb, Ft, hs, hD⟩ := hown
      exact ⟨es, clock, (Below.heap_alloc _ _ b hbl).trans hb, Ft, hs, hD⟩)
  exact AnyZ.sorted_in Try.sorted38 Fence.wide 5 trivial trivial trivial trivial rfl (by omega) (Try.sorts38 _) (enters_of Try.func52 (by kernel_rfl) rfl) 53 #[.pointer (some ⟨w.heap.size, 0, none⟩)] trivial (enters_of Try.func53 (by kernel_rfl) rfl) _ _ hmax hbytes _ hseq

set_option maxHeartbeats 1000000 in
/-- **.. AND FOR THE nil MAP: nil.** -/
theorem Try.slices_Sorted_keys_nil_38_39 (w : World) :
    CallsIn Fence.wide 5 Try.prog 38 #[.func (.func 53) #[] #[.pointer (some ⟨w.heap.size, 0, none⟩)]] (w.alloc (.cells #[.map none] 49)) fun e w' => ∃ (v : Value) (ss : List (List UInt8)), e = .returned v ∧ ss = [] ∧
      w'.ownsRow (w.alloc (.cells #[.map none] 49)).heap.size 9 1 v ss.length ((ss.mergeSort (fun x y => decide (x ≤ y))).map encStr) ∧ (v = .slice none 0 0 ↔ ss = []) ∧ Below (w.alloc (.cells #[.map none] 49)).heap.size (w.alloc (.cells #[.map none] 49)) w' := by
  have hseq : SeqGives Fence.wide 2 Try.prog 53 #[.pointer (some ⟨w.heap.size, 0, none⟩)] encStr (fun ss : List (List UInt8) => ss = []) 0 (w.alloc (.cells #[.map none] 49)) :=
    AnyZ.keys_gives_nil (ρ := Try.keys39_ren) { Try.keys39 with } Fence.wide _ trivial rfl w.heap.size _ (by simp) (by simp)
  exact AnyZ.sorted_in Try.sorted38 Fence.wide 5 trivial trivial trivial trivial rfl (by omega) (Try.sorts38 _) (enters_of Try.func52 (by kernel_rfl) rfl) 53 #[.pointer (some ⟨w.heap.size, 0, none⟩)] trivial (enters_of Try.func53 (by kernel_rfl) rfl) _ 0 (Nat.zero_le _) (by omega) _ hseq

end Go.Proofs
