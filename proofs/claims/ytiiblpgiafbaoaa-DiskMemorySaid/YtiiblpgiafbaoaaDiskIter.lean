/-
  slices.Sorted over maps.Keys of a map of texts answers the keys in order: the library's contracts laid at this program. Conditions: the map holds at most maxLen entries.
-/
import Derived.Shelf.SlIter.Nil
import Derived.Shelf.SortM.Plain
import Derived.Shelf.SortM.SortNone
import Derived.Ground.GgzProg
import Derived.Ground.SlgmProg
import Derived.Test.YtiiblpgiafbaoaaProg
namespace Go.Proofs
open Go.Shelf
def Try.keys57_ren : Go.Shelf.Ren := ⟨fun | 7 => 57 | 10 => 68 | n => n, fun | 23 => 77 | 26 => 9 | 3 => 81 | 28 => 98 | 0 => 0 | 27 => 97 | 33 => 109 | 4 => 4 | n => n, fun | n => n⟩
theorem Try.keys57 : Go.Proofs.SlLaysZ.n7 Try.prog Try.keys57_ren := {
  mixed := by kernel_rfl
  f7 := ⟨Try.f57.name, by decide, Try.func57.trans (congrArg some (by kernel_rfl))⟩
  f10 := ⟨Try.f68.name, by decide, Try.func68.trans (congrArg some (by kernel_rfl))⟩
  t0 := Try.underlying0
  a0 := Try.isAgg0
  z0 := Try.sizeOf0
  v0 := Try.zeroValue0
  t4 := Try.underlying4
  a4 := Try.isAgg4
  z4 := Try.sizeOf4
  v4 := Try.zeroValue4
  t23 := Try.underlying77
  a23 := Try.isAgg77
  z23 := Try.sizeOf77
  v23 := Try.zeroValue77
  t26 := Try.underlying9
  a26 := Try.isAgg9
  z26 := Try.sizeOf9
  v26 := Try.zeroValue9
  t27 := Try.underlying97
  a27 := Try.isAgg97
  z27 := Try.sizeOf97
  v27 := Try.zeroValue97
  t28 := Try.underlying98
  a28 := Try.isAgg98
  z28 := Try.sizeOf98
  v28 := Try.zeroValue98
  t33 := Try.underlying109
  a33 := Try.isAgg109
  z33 := Try.sizeOf109
  v33 := Try.zeroValue109 }
def Try.sorted56_ren : Go.Shelf.Ren := ⟨fun | 6 => 56 | 8 => 66 | 9 => 67 | 11 => 69 | 13 => 71 | 12 => 70 | 23 => 81 | 24 => 82 | 14 => 72 | 15 => 73 | 16 => 74 | 17 => 75 | 18 => 76 | 19 => 77 | 20 => 78 | 21 => 79 | 22 => 80 | 25 => 83 | 26 => 84 | 27 => 85 | 28 => 86 | 29 => 87 | 30 => 88 | 31 => 89 | n => n, fun | 26 => 9 | 28 => 98 | 24 => 27 | 0 => 0 | 3 => 3 | 37 => 70 | 48 => 123 | 50 => 125 | 4 => 4 | 40 => 115 | 39 => 114 | 45 => 120 | 5 => 5 | 9 => 9 | 51 => 126 | 55 => 130 | 57 => 132 | 58 => 133 | 33 => 109 | n => n, fun | n => n⟩
theorem Try.sorted56 : Go.Proofs.SlLaysZ.n6 Try.prog Try.sorted56_ren := {
  mixed := by kernel_rfl
  f6 := ⟨Try.f56.name, by decide, Try.func56.trans (congrArg some (by kernel_rfl))⟩
  f8 := ⟨Try.f66.name, by decide, Try.func66.trans (congrArg some (by kernel_rfl))⟩
  f11 := ⟨Try.f69.name, by decide, Try.func69.trans (congrArg some (by kernel_rfl))⟩
  t0 := Try.underlying0
  a0 := Try.isAgg0
  z0 := Try.sizeOf0
  v0 := Try.zeroValue0
  t24 := Try.underlying27
  a24 := Try.isAgg27
  z24 := Try.sizeOf27
  v24 := Try.zeroValue27
  t26 := Try.underlying9
  a26 := Try.isAgg9
  z26 := Try.sizeOf9
  v26 := Try.zeroValue9
  t28 := Try.underlying98
  a28 := Try.isAgg98
  z28 := Try.sizeOf98
  v28 := Try.zeroValue98
  i26 := by kernel_rfl }
def Try.sort67_ren : Go.Shelf.Ren := ⟨fun | 6 => 67 | 8 => 71 | 9 => 70 | 19 => 81 | 20 => 82 | 21 => 72 | 22 => 73 | 23 => 74 | 24 => 75 | 25 => 76 | 26 => 77 | 27 => 78 | 28 => 79 | 29 => 80 | 36 => 83 | 31 => 84 | 32 => 85 | 37 => 86 | 38 => 87 | 39 => 88 | 41 => 89 | n => n, fun | 27 => 27 | 29 => 9 | 3 => 3 | 32 => 70 | 26 => 27 | 0 => 0 | 44 => 123 | 46 => 125 | 4 => 4 | 36 => 115 | 35 => 114 | 41 => 120 | 5 => 5 | 9 => 9 | 53 => 126 | 57 => 130 | 63 => 132 | 64 => 133 | n => n, fun | n => n⟩
theorem Try.sort67 : Go.Proofs.SlLaysM.n6 Try.prog Try.sort67_ren := {
  mixed := by kernel_rfl
  f6 := ⟨Try.f67.name, by decide, Try.func67.trans (congrArg some (by kernel_rfl))⟩
  f8 := Try.func71.trans (congrArg some (by kernel_rfl))
  f9 := ⟨Try.f70.name, by decide, Try.func70.trans (congrArg some (by kernel_rfl))⟩
  f19 := Try.func81.trans (congrArg some (by kernel_rfl))
  f20 := Try.func82.trans (congrArg some (by kernel_rfl))
  f21 := ⟨Try.f72.name, by decide, Try.func72.trans (congrArg some (by kernel_rfl))⟩
  f22 := ⟨Try.f73.name, by decide, Try.func73.trans (congrArg some (by kernel_rfl))⟩
  f23 := ⟨Try.f74.name, by decide, Try.func74.trans (congrArg some (by kernel_rfl))⟩
  f24 := ⟨Try.f75.name, by decide, Try.func75.trans (congrArg some (by kernel_rfl))⟩
  f25 := ⟨Try.f76.name, by decide, Try.func76.trans (congrArg some (by kernel_rfl))⟩
  f26 := ⟨Try.f77.name, by decide, Try.func77.trans (congrArg some (by kernel_rfl))⟩
  f27 := ⟨Try.f78.name, by decide, Try.func78.trans (congrArg some (by kernel_rfl))⟩
  f28 := ⟨Try.f79.name, by decide, Try.func79.trans (congrArg some (by kernel_rfl))⟩
  f29 := ⟨Try.f80.name, by decide, Try.func80.trans (congrArg some (by kernel_rfl))⟩
  f31 := Try.func84.trans (congrArg some (by kernel_rfl))
  f32 := Try.func85.trans (congrArg some (by kernel_rfl))
  f36 := ⟨Try.f83.name, by decide, Try.func83.trans (congrArg some (by kernel_rfl))⟩
  f37 := ⟨Try.f86.name, by decide, Try.func86.trans (congrArg some (by kernel_rfl))⟩
  f38 := ⟨Try.f87.name, by decide, Try.func87.trans (congrArg some (by kernel_rfl))⟩
  f39 := ⟨Try.f88.name, by decide, Try.func88.trans (congrArg some (by kernel_rfl))⟩
  f41 := ⟨Try.f89.name, by decide, Try.func89.trans (congrArg some (by kernel_rfl))⟩
  t0 := Try.underlying0
  a0 := Try.isAgg0
  z0 := Try.sizeOf0
  v0 := Try.zeroValue0
  t3 := Try.underlying3
  a3 := Try.isAgg3
  z3 := Try.sizeOf3
  v3 := Try.zeroValue3
  t4 := Try.underlying4
  a4 := Try.isAgg4
  z4 := Try.sizeOf4
  v4 := Try.zeroValue4
  t5 := Try.underlying5
  a5 := Try.isAgg5
  z5 := Try.sizeOf5
  v5 := Try.zeroValue5
  t9 := Try.underlying9
  a9 := Try.isAgg9
  z9 := Try.sizeOf9
  v9 := Try.zeroValue9
  t26 := Try.underlying27
  a26 := Try.isAgg27
  z26 := Try.sizeOf27
  v26 := Try.zeroValue27
  t27 := Try.underlying27
  a27 := Try.isAgg27
  z27 := Try.sizeOf27
  v27 := Try.zeroValue27
  t29 := Try.underlying9
  a29 := Try.isAgg9
  z29 := Try.sizeOf9
  v29 := Try.zeroValue9
  t32 := Try.underlying70
  a32 := Try.isAgg70
  z32 := Try.sizeOf70
  v32 := Try.zeroValue70
  t35 := Try.underlying114
  a35 := Try.isAgg114
  z35 := Try.sizeOf114
  v35 := Try.zeroValue114
  t36 := Try.underlying115
  a36 := Try.isAgg115
  z36 := Try.sizeOf115
  v36 := Try.zeroValue115
  t41 := Try.underlying120
  a41 := Try.isAgg120
  z41 := Try.sizeOf120
  v41 := Try.zeroValue120
  t44 := Try.underlying123
  a44 := Try.isAgg123
  z44 := Try.sizeOf123
  v44 := Try.zeroValue123
  t46 := Try.underlying125
  a46 := Try.isAgg125
  z46 := Try.sizeOf125
  v46 := Try.zeroValue125
  t53 := Try.underlying126
  a53 := Try.isAgg126
  z53 := Try.sizeOf126
  v53 := Try.zeroValue126
  t57 := Try.underlying130
  a57 := Try.isAgg130
  z57 := Try.sizeOf130
  v57 := Try.zeroValue130
  t63 := Try.underlying132
  a63 := Try.isAgg132
  z63 := Try.sizeOf132
  v63 := Try.zeroValue132
  t64 := Try.underlying133
  a64 := Try.isAgg133
  z64 := Try.sizeOf133
  v64 := Try.zeroValue133 }
open Go.RowKit Go.Maps Go.Sort in
theorem Try.sorts56 (m : Nat) : AnyZ.SortsIn Try.prog Try.sorted56_ren Fence.wide m :=
  ⟨fun blk off cap ss W hH hblk hsz => callsIn_wide.2 (AnyM.slices_Sort_string Try.sort67 blk off cap ss W hH hblk hsz),
   fun p cap W => callsIn_wide.2 (AnyM.slices_Sort_string_none Try.sort67 p cap W)⟩
open Go.RowKit Go.Maps Go.Sort in
theorem Try.maps_Keys_57 (mb : Option Nat) (W : World) : CallsIn Fence.wide 5 Try.prog 57 #[.map mb] W fun e w' => e = .returned (.func (.func 68) #[] #[.pointer (some ⟨W.heap.size, 0, none⟩)]) ∧ w' = W.alloc (.cells #[.map mb] 77) :=
  AnyZ.keys_in Try.keys57 Fence.wide 5 trivial rfl mb W
open Go.RowKit Go.Maps Go.Sort in
theorem Try.slices_Sorted_keys_56_57 {H : Type} (b nn : Nat) (D0 : DataW H) (R : Value → Option (DataW H × List MemPlace)) (w : World) (hown : w.ownsMap Try.prog 9 R b nn D0) (hmax : Maps.size D0 ≤ maxLen) (hbytes : Maps.size D0 * 16 ≤ 140737488355328) :
    CallsIn Fence.wide 5 Try.prog 56 #[.func (.func 68) #[] #[.pointer (some ⟨w.heap.size, 0, none⟩)]] (w.alloc (.cells #[.map (some b)] 77)) fun e w' => ∃ (v : Value) (ss : List (List UInt8)), e = .returned v ∧ ss.Perm (strKeys D0) ∧
      w'.ownsRow (w.alloc (.cells #[.map (some b)] 77)).heap.size 9 1 v ss.length ((ss.mergeSort (fun x y => decide (x ≤ y))).map encStr) ∧ (v = .slice none 0 0 ↔ ss = []) ∧ Below (w.alloc (.cells #[.map (some b)] 77)).heap.size (w.alloc (.cells #[.map (some b)] 77)) w' := by
  have hbl := hown.lt
  have hseq : SeqGives Fence.wide 2 Try.prog 68 #[.pointer (some ⟨w.heap.size, 0, none⟩)] encStr (fun ss => ss.Perm (strKeys D0)) (Maps.size D0) (w.alloc (.cells #[.map (some b)] 77)) :=
    AnyZ.keys_gives (ρ := Try.keys57_ren) { Try.keys57 with } Fence.wide _ trivial rfl (by omega) w.heap.size b nn D0 _ (by simp) (by simp) (by
      obtain ⟨es, clock, hb, Ft, hs, hD⟩ := hown
      exact ⟨es, clock, (Below.heap_alloc _ _ b hbl).trans hb, Ft, hs, hD⟩)
  exact AnyZ.sorted_in Try.sorted56 Fence.wide 5 trivial trivial trivial trivial rfl (by omega) (Try.sorts56 _) (enters_of Try.func67 (by kernel_rfl) rfl) 68 #[.pointer (some ⟨w.heap.size, 0, none⟩)] trivial (enters_of Try.func68 (by kernel_rfl) rfl) _ _ hmax hbytes _ hseq
open Go.RowKit Go.Maps Go.Sort in
theorem Try.slices_Sorted_keys_nil_56_57 (w : World) :
    CallsIn Fence.wide 5 Try.prog 56 #[.func (.func 68) #[] #[.pointer (some ⟨w.heap.size, 0, none⟩)]] (w.alloc (.cells #[.map none] 77)) fun e w' => ∃ (v : Value) (ss : List (List UInt8)), e = .returned v ∧ ss = [] ∧
      w'.ownsRow (w.alloc (.cells #[.map none] 77)).heap.size 9 1 v ss.length ((ss.mergeSort (fun x y => decide (x ≤ y))).map encStr) ∧ (v = .slice none 0 0 ↔ ss = []) ∧ Below (w.alloc (.cells #[.map none] 77)).heap.size (w.alloc (.cells #[.map none] 77)) w' := by
  have hseq : SeqGives Fence.wide 2 Try.prog 68 #[.pointer (some ⟨w.heap.size, 0, none⟩)] encStr (fun ss : List (List UInt8) => ss = []) 0 (w.alloc (.cells #[.map none] 77)) :=
    AnyZ.keys_gives_nil (ρ := Try.keys57_ren) { Try.keys57 with } Fence.wide _ trivial rfl w.heap.size _ (by simp) (by simp)
  exact AnyZ.sorted_in Try.sorted56 Fence.wide 5 trivial trivial trivial trivial rfl (by omega) (Try.sorts56 _) (enters_of Try.func67 (by kernel_rfl) rfl) 68 #[.pointer (some ⟨w.heap.size, 0, none⟩)] trivial (enters_of Try.func68 (by kernel_rfl) rfl) _ 0 (Nat.zero_le _) (by omega) _ hseq
end Go.Proofs
