/-
  massiflaw05.CrcParts: the walk.
-/
import Derived.Test.YtholbjclfkdgbaaCrcLaws
import Derived.Test.YtholbjclfkdgbaaRegion
namespace Go.Proofs.Ytholbjclfkdgbaa
open Go.RowKit
namespace Crc
theorem fold_append (x : BitVec 32) (a b : List UInt8) : fold x (a ++ b) = fold (fold x a) b := List.foldl_append
theorem more_append (c : BitVec 32) (a b : List UInt8) : more c (a ++ b) = more (more c a) b := by
  unfold more; rw [fold_append, BitVec.not_not]
theorem more_nil (c : BitVec 32) : more c [] = c := by unfold more; exact BitVec.not_not
end Crc
theorem of_val (v : Value) (ps : List ByteArray) (n : Int) (w : World) (hv : SlV w v (ps.map Value.string)) (hl : ps.length ≤ 1000) (hs : ∀ p ∈ ps, p.size ≤ 9223372036854775807) (hn : ((Crc.ofParts 0#32 (ps.map bytesOf)).toNat : Int) = n) :
    Calls Try.prog 12 #[v] w fun e w' => e = .returned (.int .u32 n) ∧ Below w.heap.size w w' := by
  rw [← hn]
  exact of_any v ps w hv (by omega) hs
theorem more_val (c : Int) (s : ByteArray) (n : Int) (w : World) (x : BitVec 32) (hx : c = x.toNat) (hs : s.size ≤ 9223372036854775807) (hn : ((Crc.more x s.data.toList).toNat : Int) = n) :
    Calls Try.prog 13 #[.int .u32 c, .string s] w fun e w' => e = .returned (.int .u32 n) ∧ Below w.heap.size w w' := by
  rw [hx, ← hn]
  exact more_any x s w hs
theorem bytes_append (a b : ByteArray) : (a ++ b).data.toList = a.data.toList ++ b.data.toList := by simp
theorem bytes_halves (a : ByteArray) (n : Nat) : (a.extract 0 n).data.toList ++ (a.extract n a.size).data.toList = a.data.toList := by
  simp [ByteArray.data_extract, Array.toList_extract, List.take_of_length_le]
structure PartsEq (a b : ByteArray) (c : BitVec 32) (A AB M MAB : Int) : Prop where
  ha : ((Crc.more 0#32 a.data.toList).toNat : Int) = A
  hab : ((Crc.more 0#32 (a.data.toList ++ b.data.toList)).toNat : Int) = AB
  hm : ((Crc.more c a.data.toList).toNat : Int) = M
  hmab : ((Crc.more c (a.data.toList ++ b.data.toList)).toNat : Int) = MAB
theorem four_le {x y z : ByteArray} {n : Nat} (hx : x.size ≤ n) (hy : y.size ≤ n) (hz : z.size ≤ n) : ∀ p ∈ [x, ⟨#[]⟩, y, z], p.size ≤ n := by
  intro p hp
  simp only [List.mem_cons, List.not_mem_nil, or_false] at hp
  rcases hp with rfl | rfl | rfl | rfl
  · exact hx
  · exact Nat.zero_le _
  · exact hy
  · exact hz
theorem parts_four (a b : ByteArray) (h : (a.extract 0 (a.size / 2)).data.toList ++ (a.extract (a.size / 2) a.size).data.toList = a.data.toList) :
    ((Crc.ofParts 0#32 ([a.extract 0 (a.size / 2), ⟨#[]⟩, a.extract (a.size / 2) a.size, b].map bytesOf)).toNat : Int) = ((Crc.more 0#32 (a.data.toList ++ b.data.toList)).toNat : Int) := by
  have e : Crc.ofParts 0#32 ([a.extract 0 (a.size / 2), ⟨#[]⟩, a.extract (a.size / 2) a.size, b].map bytesOf) = Crc.more (Crc.more (Crc.more (Crc.more 0#32 (a.extract 0 (a.size / 2)).data.toList) []) (a.extract (a.size / 2) a.size).data.toList) b.data.toList := rfl
  rw [e, Crc.more_nil, ← Crc.more_append 0#32 _ (a.extract (a.size / 2) a.size).data.toList, h, ← Crc.more_append]
def partsL (a b : ByteArray) (ci A AB M MAB : Int) : List Sp :=
  [.is (.string a), .is (.string b), .sl [.string a, .string b], .is (.int .u32 AB), .is (.string a), .is (.string b), .is (.string (a ++ b)), .sl [.string (a ++ b)], .is (.int .u32 AB), .is (.bool true), .is (.bool true), .is (.string a), .is (.string b), .sl [.string a, .string b], .is (.int .u32 AB), .is (.string a), .sl [.string a], .is (.int .u32 A), .is (.string b), .is (.int .u32 AB), .is (.bool true), .is (.bool true), .is (.bool true), .is (.string a), .is (.int .i64 (↑a.size / 2)), .is (.string (a.extract 0 (a.size / 2))), .is (.string a), .is (.int .i64 (↑a.size / 2)), .is (.string (a.extract (a.size / 2) a.size)), .is (.string b), .sl [.string (a.extract 0 (a.size / 2)), .string ⟨#[]⟩, .string (a.extract (a.size / 2) a.size), .string b], .is (.int .u32 AB), .is (.string a), .is (.string b), .is (.string (a ++ b)), .sl [.string (a ++ b)], .is (.int .u32 AB), .is (.bool true), .is (.bool true), .is (.bool true), .is (.int .u32 ci), .is (.string a), .is (.int .u32 M), .is (.string b), .is (.int .u32 MAB), .is (.int .u32 ci), .is (.string a), .is (.string b), .is (.string (a ++ b)), .is (.int .u32 MAB), .is (.bool true), .is (.bool true), .is (.bool true), .is (.string a), .is (.int .u32 A), .is (.string a), .sl [.string a], .is (.int .u32 A), .is (.bool true), .is (.bool true), .is (.bool true), .is (.int .u32 ci), .is (.int .u32 ci), .is (.int .u32 ci), .is (.bool true), .is (.bool true), .is (.bool true)]
def partsU : List (List Nat) := [[], [], [0, 1], [2], [], [], [4, 5], [6], [7], [3, 8], [9], [10], [10], [10, 11, 12], [10, 13], [10], [10, 15], [10, 16], [10], [10, 17, 18], [10, 14, 19], [10, 20], [21], [22], [22], [22, 23, 24], [22], [22], [22, 26, 27], [22], [22, 25, 28, 29], [22, 30], [22], [22], [22, 32, 33], [22, 34], [22, 35], [22, 31, 36], [22, 37], [38], [39], [39], [39, 40, 41], [39], [39, 42, 43], [39], [39], [39], [39, 46, 47], [39, 45, 48], [39, 44, 49], [39, 50], [51], [52], [52, 53], [52], [52, 55], [52, 56], [52, 54, 57], [52, 58], [59], [60], [60, 61], [60], [60, 62, 63], [60, 64], [65]]
set_option maxHeartbeats 1600000 in
set_option maxRecDepth 100000 in
theorem parts_any (a b : ByteArray) (c : BitVec 32) (w : World) (ha : a.size ≤ 140737488351232) (hb : b.size ≤ 140737488351232) :
    Calls Try.prog 4 #[.string a, .string b, .int .u32 (c.toNat : Int)] w fun e w' => e = .returned (.bool true) ∧ Below w.heap.size w w' := by
  obtain ⟨ci, hci⟩ : ∃ ci : Int, ci = c.toNat := ⟨_, rfl⟩
  obtain ⟨A, hA⟩ : ∃ A : Int, ((Crc.more 0#32 a.data.toList).toNat : Int) = A := ⟨_, rfl⟩
  obtain ⟨AB, hAB⟩ : ∃ A : Int, ((Crc.more 0#32 (a.data.toList ++ b.data.toList)).toNat : Int) = A := ⟨_, rfl⟩
  obtain ⟨M, hM⟩ : ∃ A : Int, ((Crc.more c a.data.toList).toNat : Int) = A := ⟨_, rfl⟩
  obtain ⟨MAB, hMAB⟩ : ∃ A : Int, ((Crc.more c (a.data.toList ++ b.data.toList)).toNat : Int) = A := ⟨_, rfl⟩
  have E : PartsEq a b c A AB M MAB := ⟨hA, hAB, hM, hMAB⟩
  rw [← hci]
  have C := hide hci
  clear hA hAB hM hMAB hci
  have za : a.size ≤ 9223372036854775807 := by omega
  have zb : b.size ≤ 9223372036854775807 := by omega
  have hsum : (a ++ b).size ≤ 9223372036854775807 := by rw [ByteArray.size_append]; omega
  have hh := hide (bytes_halves a (a.size / 2))
  have zs := hide (And.intro (show (a.extract 0 (a.size / 2)).size ≤ 9223372036854775807 by rw [ByteArray.size_extract]; omega) (show (a.extract (a.size / 2) a.size).size ≤ 9223372036854775807 by rw [ByteArray.size_extract]; omega))
  have hsum := hide hsum
  have q0 : (0 : Int) ≤ (a.size : Int) / 2 := by omega
  have q1 : (a.size : Int) / 2 ≤ (a.size : Int) := by omega
  have q2 : a.size + b.size ≤ 9223372036854775807 := by omega
  go_enter Try.func4, Try.ntmps4
  go_wp2_with fail
  refine (alive_any _).mono ?_
  rintro e w1 ⟨rfl, hb1⟩
  have HB1 := hide hb1
  clear hb1
  go_wp2_with fail
  rename_i hrest
  refine wp_region_local (by kernel_rfl) (by kernel_rfl) (useList partsU) [66] (by kernel_rfl) (spR (partsL a b ci A AB M MAB)) (fun _ _ => True) (Below w.heap.size w) (fun _ w w' => Below w.heap.size w w') spR_stays (fun _ _ _ _ _ h _ => h) (fun _ _ => Below.refl _ _) (dsts_lt (N := 79) (by kernel_rfl)) HB1.out.drew (fun _ _ => trivial) (all_ops ?_) ?_
  · refine And.intro ?_ ?_
    · -- 0: slot 13 := Op.move (Operand.tmp 0)
      refine lstep_run fun fr wf left => ?_
      have o0 := (left.old 0 (by kernel_rfl)).trans rfl
      refine ⟨wanted_none rfl, fun K hK => ?_⟩
      have hB := hide left.base
      clear left
      go_simp
      exact hK _ _ rfl hB.out (Below.refl _ _)
    refine And.intro ?_ ?_
    · -- 1: slot 14 := Op.move (Operand.tmp 1)
      refine lstep_run fun fr wf left => ?_
      have o1 := (left.old 1 (by kernel_rfl)).trans rfl
      refine ⟨wanted_none rfl, fun K hK => ?_⟩
      have hB := hide left.base
      clear left
      go_simp
      exact hK _ _ rfl hB.out (Below.refl _ _)
    refine And.intro ?_ ?_
    · -- 2: slot 15 := Op.buildSlice 22 2 #[(0, Operand.tmp 13), (1, Operand.tmp 14)]
      refine lstep_run fun fr wf left => ?_
      obtain ⟨x0, e0, r0⟩ := left.slot 79 rfl 0 13 _ rfl rfl (by decide) rfl
      obtain rfl : x0 = .string a := r0
      obtain ⟨x1, e1, r1⟩ := left.slot 79 rfl 1 14 _ rfl rfl (by decide) rfl
      obtain rfl : x1 = .string b := r1
      refine ⟨wanted_none rfl, fun K hK => ?_⟩
      have hB := hide left.base
      clear left
      go_simp
      exact hK _ _ (slv_new _ _ _ _ rfl) (hB.out.alloc hB.out.size _) (Below.alloc (Below.refl _ _) (Nat.le_refl _) _)
    refine And.intro ?_ ?_
    · -- 3: slot 16 := Op.call { callee := Callee.value (Operand.func 12), args := #[Operand.tmp 15], argTypes :=
      refine lstep_run fun fr wf left => ?_
      obtain ⟨x2, e2, r2⟩ := left.slot 79 rfl 2 15 _ rfl rfl (by decide) rfl
      replace r2 : SlV wf x2 [.string a, .string b] := r2
      refine ⟨wanted_none rfl, fun K hK => ?_⟩
      have hB := hide left.base
      clear left
      go_simp
      refine (of_val _ [a, b] AB _ r2 (by simp) (by simp [za, zb]) (by rw [← E.hab, Crc.more_append]; rfl)).mono ?_
      rintro e w' ⟨rfl, hb⟩
      exact hK _ _ rfl (below_next hB.out hb) hb
    refine And.intro ?_ ?_
    · -- 4: slot 17 := Op.move (Operand.tmp 0)
      refine lstep_run fun fr wf left => ?_
      have o0 := (left.old 0 (by kernel_rfl)).trans rfl
      refine ⟨wanted_none rfl, fun K hK => ?_⟩
      have hB := hide left.base
      clear left
      go_simp
      exact hK _ _ rfl hB.out (Below.refl _ _)
    refine And.intro ?_ ?_
    · -- 5: slot 18 := Op.move (Operand.tmp 1)
      refine lstep_run fun fr wf left => ?_
      have o1 := (left.old 1 (by kernel_rfl)).trans rfl
      refine ⟨wanted_none rfl, fun K hK => ?_⟩
      have hB := hide left.base
      clear left
      go_simp
      exact hK _ _ rfl hB.out (Below.refl _ _)
    refine And.intro ?_ ?_
    · -- 6: slot 19 := Op.binOp BinOp.add 9 (Operand.tmp 17) (Operand.tmp 18) 9
      refine lstep_run fun fr wf left => ?_
      obtain ⟨x4, e4, r4⟩ := left.slot 79 rfl 4 17 _ rfl rfl (by decide) rfl
      obtain rfl : x4 = .string a := r4
      obtain ⟨x5, e5, r5⟩ := left.slot 79 rfl 5 18 _ rfl rfl (by decide) rfl
      obtain rfl : x5 = .string b := r5
      refine ⟨wanted_none rfl, fun K hK => ?_⟩
      have hB := hide left.base
      clear left
      go_simp
      go_step
      exact hK _ _ rfl hB.out (Below.refl _ _)
    refine And.intro ?_ ?_
    · -- 7: slot 20 := Op.buildSlice 22 1 #[(0, Operand.tmp 19)]
      refine lstep_run fun fr wf left => ?_
      obtain ⟨x6, e6, r6⟩ := left.slot 79 rfl 6 19 _ rfl rfl (by decide) rfl
      obtain rfl : x6 = .string (a ++ b) := r6
      refine ⟨wanted_none rfl, fun K hK => ?_⟩
      have hB := hide left.base
      clear left
      go_simp
      exact hK _ _ (slv_new _ _ _ _ rfl) (hB.out.alloc hB.out.size _) (Below.alloc (Below.refl _ _) (Nat.le_refl _) _)
    refine And.intro ?_ ?_
    · -- 8: slot 21 := Op.call { callee := Callee.value (Operand.func 12), args := #[Operand.tmp 20], argTypes :=
      refine lstep_run fun fr wf left => ?_
      obtain ⟨x7, e7, r7⟩ := left.slot 79 rfl 7 20 _ rfl rfl (by decide) rfl
      replace r7 : SlV wf x7 [.string (a ++ b)] := r7
      refine ⟨wanted_none rfl, fun K hK => ?_⟩
      have hB := hide left.base
      clear left
      go_simp
      refine (of_val _ [a ++ b] AB _ r7 (by simp) (by intro p hp; rw [List.mem_singleton.1 hp]; exact hsum.out) (by rw [← E.hab, ← bytes_append]; rfl)).mono ?_
      rintro e w' ⟨rfl, hb⟩
      exact hK _ _ rfl (below_next hB.out hb) hb
    refine And.intro ?_ ?_
    · -- 9: slot 22 := Op.binOp BinOp.eql 23 (Operand.tmp 16) (Operand.tmp 21) 23
      refine lstep_run fun fr wf left => ?_
      obtain ⟨x3, e3, r3⟩ := left.slot 79 rfl 3 16 _ rfl rfl (by decide) rfl
      obtain rfl : x3 = .int .u32 AB := r3
      obtain ⟨x8, e8, r8⟩ := left.slot 79 rfl 8 21 _ rfl rfl (by decide) rfl
      obtain rfl : x8 = .int .u32 AB := r8
      refine ⟨wanted_none rfl, fun K hK => ?_⟩
      have hB := hide left.base
      clear left
      go_simp
      exact hK _ _ rfl hB.out (Below.refl _ _)
    refine And.intro ?_ ?_
    · -- 10: slot 23 := Op.move (Operand.tmp 22)
      refine lstep_run fun fr wf left => ?_
      obtain ⟨x9, e9, r9⟩ := left.slot 79 rfl 9 22 _ rfl rfl (by decide) rfl
      obtain rfl : x9 = .bool true := r9
      refine ⟨wanted_none rfl, fun K hK => ?_⟩
      have hB := hide left.base
      clear left
      go_simp
      exact hK _ _ rfl hB.out (Below.refl _ _)
    refine And.intro ?_ ?_
    · -- 11: slot 24 := Op.move (Operand.tmp 0)
      refine lstep_run fun fr wf left => ?_
      obtain ⟨x10, e10, r10⟩ := left.slot 79 rfl 10 23 _ rfl rfl (by decide) rfl
      obtain rfl : x10 = .bool true := r10
      have o0 := (left.old 0 (by kernel_rfl)).trans rfl
      refine ⟨wanted_yes rfl rfl e10, fun K hK => ?_⟩
      have hB := hide left.base
      clear left
      go_simp
      exact hK _ _ rfl hB.out (Below.refl _ _)
    refine And.intro ?_ ?_
    · -- 12: slot 25 := Op.move (Operand.tmp 1)
      refine lstep_run fun fr wf left => ?_
      obtain ⟨x10, e10, r10⟩ := left.slot 79 rfl 10 23 _ rfl rfl (by decide) rfl
      obtain rfl : x10 = .bool true := r10
      have o1 := (left.old 1 (by kernel_rfl)).trans rfl
      refine ⟨wanted_yes rfl rfl e10, fun K hK => ?_⟩
      have hB := hide left.base
      clear left
      go_simp
      exact hK _ _ rfl hB.out (Below.refl _ _)
    refine And.intro ?_ ?_
    · -- 13: slot 26 := Op.buildSlice 22 2 #[(0, Operand.tmp 24), (1, Operand.tmp 25)]
      refine lstep_run fun fr wf left => ?_
      obtain ⟨x10, e10, r10⟩ := left.slot 79 rfl 10 23 _ rfl rfl (by decide) rfl
      obtain rfl : x10 = .bool true := r10
      obtain ⟨x11, e11, r11⟩ := left.slot 79 rfl 11 24 _ rfl rfl (by decide) rfl
      obtain rfl : x11 = .string a := r11
      obtain ⟨x12, e12, r12⟩ := left.slot 79 rfl 12 25 _ rfl rfl (by decide) rfl
      obtain rfl : x12 = .string b := r12
      refine ⟨wanted_yes rfl rfl e10, fun K hK => ?_⟩
      have hB := hide left.base
      clear left
      go_simp
      exact hK _ _ (slv_new _ _ _ _ rfl) (hB.out.alloc hB.out.size _) (Below.alloc (Below.refl _ _) (Nat.le_refl _) _)
    refine And.intro ?_ ?_
    · -- 14: slot 27 := Op.call { callee := Callee.value (Operand.func 12), args := #[Operand.tmp 26], argTypes :=
      refine lstep_run fun fr wf left => ?_
      obtain ⟨x10, e10, r10⟩ := left.slot 79 rfl 10 23 _ rfl rfl (by decide) rfl
      obtain rfl : x10 = .bool true := r10
      obtain ⟨x13, e13, r13⟩ := left.slot 79 rfl 13 26 _ rfl rfl (by decide) rfl
      replace r13 : SlV wf x13 [.string a, .string b] := r13
      refine ⟨wanted_yes rfl rfl e10, fun K hK => ?_⟩
      have hB := hide left.base
      clear left
      go_simp
      refine (of_val _ [a, b] AB _ r13 (by simp) (by simp [za, zb]) (by rw [← E.hab, Crc.more_append]; rfl)).mono ?_
      rintro e w' ⟨rfl, hb⟩
      exact hK _ _ rfl (below_next hB.out hb) hb
    refine And.intro ?_ ?_
    · -- 15: slot 28 := Op.move (Operand.tmp 0)
      refine lstep_run fun fr wf left => ?_
      obtain ⟨x10, e10, r10⟩ := left.slot 79 rfl 10 23 _ rfl rfl (by decide) rfl
      obtain rfl : x10 = .bool true := r10
      have o0 := (left.old 0 (by kernel_rfl)).trans rfl
      refine ⟨wanted_yes rfl rfl e10, fun K hK => ?_⟩
      have hB := hide left.base
      clear left
      go_simp
      exact hK _ _ rfl hB.out (Below.refl _ _)
    refine And.intro ?_ ?_
    · -- 16: slot 29 := Op.buildSlice 22 1 #[(0, Operand.tmp 28)]
      refine lstep_run fun fr wf left => ?_
      obtain ⟨x10, e10, r10⟩ := left.slot 79 rfl 10 23 _ rfl rfl (by decide) rfl
      obtain rfl : x10 = .bool true := r10
      obtain ⟨x15, e15, r15⟩ := left.slot 79 rfl 15 28 _ rfl rfl (by decide) rfl
      obtain rfl : x15 = .string a := r15
      refine ⟨wanted_yes rfl rfl e10, fun K hK => ?_⟩
      have hB := hide left.base
      clear left
      go_simp
      exact hK _ _ (slv_new _ _ _ _ rfl) (hB.out.alloc hB.out.size _) (Below.alloc (Below.refl _ _) (Nat.le_refl _) _)
    refine And.intro ?_ ?_
    · -- 17: slot 30 := Op.call { callee := Callee.value (Operand.func 12), args := #[Operand.tmp 29], argTypes :=
      refine lstep_run fun fr wf left => ?_
      obtain ⟨x10, e10, r10⟩ := left.slot 79 rfl 10 23 _ rfl rfl (by decide) rfl
      obtain rfl : x10 = .bool true := r10
      obtain ⟨x16, e16, r16⟩ := left.slot 79 rfl 16 29 _ rfl rfl (by decide) rfl
      replace r16 : SlV wf x16 [.string a] := r16
      refine ⟨wanted_yes rfl rfl e10, fun K hK => ?_⟩
      have hB := hide left.base
      clear left
      go_simp
      refine (of_val _ [a] A _ r16 (by simp) (by simp [za]) (E.ha)).mono ?_
      rintro e w' ⟨rfl, hb⟩
      exact hK _ _ rfl (below_next hB.out hb) hb
    refine And.intro ?_ ?_
    · -- 18: slot 31 := Op.move (Operand.tmp 1)
      refine lstep_run fun fr wf left => ?_
      obtain ⟨x10, e10, r10⟩ := left.slot 79 rfl 10 23 _ rfl rfl (by decide) rfl
      obtain rfl : x10 = .bool true := r10
      have o1 := (left.old 1 (by kernel_rfl)).trans rfl
      refine ⟨wanted_yes rfl rfl e10, fun K hK => ?_⟩
      have hB := hide left.base
      clear left
      go_simp
      exact hK _ _ rfl hB.out (Below.refl _ _)
    refine And.intro ?_ ?_
    · -- 19: slot 32 := Op.call { callee := Callee.value (Operand.func 13), args := #[Operand.tmp 30, Operand.tmp 
      refine lstep_run fun fr wf left => ?_
      obtain ⟨x10, e10, r10⟩ := left.slot 79 rfl 10 23 _ rfl rfl (by decide) rfl
      obtain rfl : x10 = .bool true := r10
      obtain ⟨x17, e17, r17⟩ := left.slot 79 rfl 17 30 _ rfl rfl (by decide) rfl
      obtain rfl : x17 = .int .u32 A := r17
      obtain ⟨x18, e18, r18⟩ := left.slot 79 rfl 18 31 _ rfl rfl (by decide) rfl
      obtain rfl : x18 = .string b := r18
      refine ⟨wanted_yes rfl rfl e10, fun K hK => ?_⟩
      have hB := hide left.base
      clear left
      go_simp
      refine (more_val A b AB _ (Crc.more 0#32 a.data.toList) (E.ha.symm) (zb) (by rw [← E.hab, Crc.more_append])).mono ?_
      rintro e w' ⟨rfl, hb⟩
      exact hK _ _ rfl (below_next hB.out hb) hb
    refine And.intro ?_ ?_
    · -- 20: slot 33 := Op.binOp BinOp.eql 23 (Operand.tmp 27) (Operand.tmp 32) 23
      refine lstep_run fun fr wf left => ?_
      obtain ⟨x10, e10, r10⟩ := left.slot 79 rfl 10 23 _ rfl rfl (by decide) rfl
      obtain rfl : x10 = .bool true := r10
      obtain ⟨x14, e14, r14⟩ := left.slot 79 rfl 14 27 _ rfl rfl (by decide) rfl
      obtain rfl : x14 = .int .u32 AB := r14
      obtain ⟨x19, e19, r19⟩ := left.slot 79 rfl 19 32 _ rfl rfl (by decide) rfl
      obtain rfl : x19 = .int .u32 AB := r19
      refine ⟨wanted_yes rfl rfl e10, fun K hK => ?_⟩
      have hB := hide left.base
      clear left
      go_simp
      exact hK _ _ rfl hB.out (Below.refl _ _)
    refine And.intro ?_ ?_
    · -- 21: slot 34 := Op.pick (Operand.tmp 23) (Operand.tmp 33) (Operand.const (Value.bool false))
      refine lstep_run fun fr wf left => ?_
      obtain ⟨x10, e10, r10⟩ := left.slot 79 rfl 10 23 _ rfl rfl (by decide) rfl
      obtain rfl : x10 = .bool true := r10
      obtain ⟨x20, e20, r20⟩ := left.slot 79 rfl 20 33 _ rfl rfl (by decide) rfl
      obtain rfl : x20 = .bool true := r20
      refine ⟨wanted_none rfl, fun K hK => ?_⟩
      have hB := hide left.base
      clear left
      go_simp
      exact hK _ _ rfl hB.out (Below.refl _ _)
    refine And.intro ?_ ?_
    · -- 22: slot 35 := Op.move (Operand.tmp 34)
      refine lstep_run fun fr wf left => ?_
      obtain ⟨x21, e21, r21⟩ := left.slot 79 rfl 21 34 _ rfl rfl (by decide) rfl
      obtain rfl : x21 = .bool true := r21
      refine ⟨wanted_none rfl, fun K hK => ?_⟩
      have hB := hide left.base
      clear left
      go_simp
      exact hK _ _ rfl hB.out (Below.refl _ _)
    refine And.intro ?_ ?_
    · -- 23: slot 36 := Op.move (Operand.tmp 0)
      refine lstep_run fun fr wf left => ?_
      obtain ⟨x22, e22, r22⟩ := left.slot 79 rfl 22 35 _ rfl rfl (by decide) rfl
      obtain rfl : x22 = .bool true := r22
      have o0 := (left.old 0 (by kernel_rfl)).trans rfl
      refine ⟨wanted_yes rfl rfl e22, fun K hK => ?_⟩
      have hB := hide left.base
      clear left
      go_simp
      exact hK _ _ rfl hB.out (Below.refl _ _)
    refine And.intro ?_ ?_
    · -- 24: slot 37 := Op.move (Operand.tmp 7)
      refine lstep_run fun fr wf left => ?_
      obtain ⟨x22, e22, r22⟩ := left.slot 79 rfl 22 35 _ rfl rfl (by decide) rfl
      obtain rfl : x22 = .bool true := r22
      have o7 := (left.old 7 (by kernel_rfl)).trans rfl
      refine ⟨wanted_yes rfl rfl e22, fun K hK => ?_⟩
      have hB := hide left.base
      clear left
      go_simp
      exact hK _ _ rfl hB.out (Below.refl _ _)
    refine And.intro ?_ ?_
    · -- 25: slot 38 := Op.slice 9 (Operand.tmp 36) none (some (Operand.tmp 37)) none
      refine lstep_run fun fr wf left => ?_
      obtain ⟨x22, e22, r22⟩ := left.slot 79 rfl 22 35 _ rfl rfl (by decide) rfl
      obtain rfl : x22 = .bool true := r22
      obtain ⟨x23, e23, r23⟩ := left.slot 79 rfl 23 36 _ rfl rfl (by decide) rfl
      obtain rfl : x23 = .string a := r23
      obtain ⟨x24, e24, r24⟩ := left.slot 79 rfl 24 37 _ rfl rfl (by decide) rfl
      obtain rfl : x24 = .int .i64 (↑a.size / 2) := r24
      refine ⟨wanted_yes rfl rfl e22, fun K hK => ?_⟩
      have hB := hide left.base
      clear left
      go_simp
      exact hK _ _ rfl hB.out (Below.refl _ _)
    refine And.intro ?_ ?_
    · -- 26: slot 39 := Op.move (Operand.tmp 0)
      refine lstep_run fun fr wf left => ?_
      obtain ⟨x22, e22, r22⟩ := left.slot 79 rfl 22 35 _ rfl rfl (by decide) rfl
      obtain rfl : x22 = .bool true := r22
      have o0 := (left.old 0 (by kernel_rfl)).trans rfl
      refine ⟨wanted_yes rfl rfl e22, fun K hK => ?_⟩
      have hB := hide left.base
      clear left
      go_simp
      exact hK _ _ rfl hB.out (Below.refl _ _)
    refine And.intro ?_ ?_
    · -- 27: slot 40 := Op.move (Operand.tmp 7)
      refine lstep_run fun fr wf left => ?_
      obtain ⟨x22, e22, r22⟩ := left.slot 79 rfl 22 35 _ rfl rfl (by decide) rfl
      obtain rfl : x22 = .bool true := r22
      have o7 := (left.old 7 (by kernel_rfl)).trans rfl
      refine ⟨wanted_yes rfl rfl e22, fun K hK => ?_⟩
      have hB := hide left.base
      clear left
      go_simp
      exact hK _ _ rfl hB.out (Below.refl _ _)
    refine And.intro ?_ ?_
    · -- 28: slot 41 := Op.slice 9 (Operand.tmp 39) (some (Operand.tmp 40)) none none
      refine lstep_run fun fr wf left => ?_
      obtain ⟨x22, e22, r22⟩ := left.slot 79 rfl 22 35 _ rfl rfl (by decide) rfl
      obtain rfl : x22 = .bool true := r22
      obtain ⟨x26, e26, r26⟩ := left.slot 79 rfl 26 39 _ rfl rfl (by decide) rfl
      obtain rfl : x26 = .string a := r26
      obtain ⟨x27, e27, r27⟩ := left.slot 79 rfl 27 40 _ rfl rfl (by decide) rfl
      obtain rfl : x27 = .int .i64 (↑a.size / 2) := r27
      refine ⟨wanted_yes rfl rfl e22, fun K hK => ?_⟩
      have hB := hide left.base
      clear left
      go_simp
      exact hK _ _ rfl hB.out (Below.refl _ _)
    refine And.intro ?_ ?_
    · -- 29: slot 42 := Op.move (Operand.tmp 1)
      refine lstep_run fun fr wf left => ?_
      obtain ⟨x22, e22, r22⟩ := left.slot 79 rfl 22 35 _ rfl rfl (by decide) rfl
      obtain rfl : x22 = .bool true := r22
      have o1 := (left.old 1 (by kernel_rfl)).trans rfl
      refine ⟨wanted_yes rfl rfl e22, fun K hK => ?_⟩
      have hB := hide left.base
      clear left
      go_simp
      exact hK _ _ rfl hB.out (Below.refl _ _)
    refine And.intro ?_ ?_
    · -- 30: slot 43 := Op.buildSlice 22 4 #[(0, Operand.tmp 38), (1, Operand.const (Value.string { data := #[] })
      refine lstep_run fun fr wf left => ?_
      obtain ⟨x22, e22, r22⟩ := left.slot 79 rfl 22 35 _ rfl rfl (by decide) rfl
      obtain rfl : x22 = .bool true := r22
      obtain ⟨x25, e25, r25⟩ := left.slot 79 rfl 25 38 _ rfl rfl (by decide) rfl
      obtain rfl : x25 = .string (a.extract 0 (a.size / 2)) := r25
      obtain ⟨x28, e28, r28⟩ := left.slot 79 rfl 28 41 _ rfl rfl (by decide) rfl
      obtain rfl : x28 = .string (a.extract (a.size / 2) a.size) := r28
      obtain ⟨x29, e29, r29⟩ := left.slot 79 rfl 29 42 _ rfl rfl (by decide) rfl
      obtain rfl : x29 = .string b := r29
      refine ⟨wanted_yes rfl rfl e22, fun K hK => ?_⟩
      have hB := hide left.base
      clear left
      go_simp
      exact hK _ _ (slv_new _ _ _ _ rfl) (hB.out.alloc hB.out.size _) (Below.alloc (Below.refl _ _) (Nat.le_refl _) _)
    refine And.intro ?_ ?_
    · -- 31: slot 44 := Op.call { callee := Callee.value (Operand.func 12), args := #[Operand.tmp 43], argTypes :=
      refine lstep_run fun fr wf left => ?_
      obtain ⟨x22, e22, r22⟩ := left.slot 79 rfl 22 35 _ rfl rfl (by decide) rfl
      obtain rfl : x22 = .bool true := r22
      obtain ⟨x30, e30, r30⟩ := left.slot 79 rfl 30 43 _ rfl rfl (by decide) rfl
      replace r30 : SlV wf x30 [.string (a.extract 0 (a.size / 2)), .string ⟨#[]⟩, .string (a.extract (a.size / 2) a.size), .string b] := r30
      refine ⟨wanted_yes rfl rfl e22, fun K hK => ?_⟩
      have hB := hide left.base
      clear left
      go_simp
      refine (of_val _ [a.extract 0 (a.size / 2), ⟨#[]⟩, a.extract (a.size / 2) a.size, b] AB _ r30 (by simp) (four_le zs.out.1 zs.out.2 zb) (by rw [← E.hab]; exact parts_four a b hh.out)).mono ?_
      rintro e w' ⟨rfl, hb⟩
      exact hK _ _ rfl (below_next hB.out hb) hb
    refine And.intro ?_ ?_
    · -- 32: slot 45 := Op.move (Operand.tmp 0)
      refine lstep_run fun fr wf left => ?_
      obtain ⟨x22, e22, r22⟩ := left.slot 79 rfl 22 35 _ rfl rfl (by decide) rfl
      obtain rfl : x22 = .bool true := r22
      have o0 := (left.old 0 (by kernel_rfl)).trans rfl
      refine ⟨wanted_yes rfl rfl e22, fun K hK => ?_⟩
      have hB := hide left.base
      clear left
      go_simp
      exact hK _ _ rfl hB.out (Below.refl _ _)
    refine And.intro ?_ ?_
    · -- 33: slot 46 := Op.move (Operand.tmp 1)
      refine lstep_run fun fr wf left => ?_
      obtain ⟨x22, e22, r22⟩ := left.slot 79 rfl 22 35 _ rfl rfl (by decide) rfl
      obtain rfl : x22 = .bool true := r22
      have o1 := (left.old 1 (by kernel_rfl)).trans rfl
      refine ⟨wanted_yes rfl rfl e22, fun K hK => ?_⟩
      have hB := hide left.base
      clear left
      go_simp
      exact hK _ _ rfl hB.out (Below.refl _ _)
    refine And.intro ?_ ?_
    · -- 34: slot 47 := Op.binOp BinOp.add 9 (Operand.tmp 45) (Operand.tmp 46) 9
      refine lstep_run fun fr wf left => ?_
      obtain ⟨x22, e22, r22⟩ := left.slot 79 rfl 22 35 _ rfl rfl (by decide) rfl
      obtain rfl : x22 = .bool true := r22
      obtain ⟨x32, e32, r32⟩ := left.slot 79 rfl 32 45 _ rfl rfl (by decide) rfl
      obtain rfl : x32 = .string a := r32
      obtain ⟨x33, e33, r33⟩ := left.slot 79 rfl 33 46 _ rfl rfl (by decide) rfl
      obtain rfl : x33 = .string b := r33
      refine ⟨wanted_yes rfl rfl e22, fun K hK => ?_⟩
      have hB := hide left.base
      clear left
      go_simp
      go_step
      exact hK _ _ rfl hB.out (Below.refl _ _)
    refine And.intro ?_ ?_
    · -- 35: slot 48 := Op.buildSlice 22 1 #[(0, Operand.tmp 47)]
      refine lstep_run fun fr wf left => ?_
      obtain ⟨x22, e22, r22⟩ := left.slot 79 rfl 22 35 _ rfl rfl (by decide) rfl
      obtain rfl : x22 = .bool true := r22
      obtain ⟨x34, e34, r34⟩ := left.slot 79 rfl 34 47 _ rfl rfl (by decide) rfl
      obtain rfl : x34 = .string (a ++ b) := r34
      refine ⟨wanted_yes rfl rfl e22, fun K hK => ?_⟩
      have hB := hide left.base
      clear left
      go_simp
      exact hK _ _ (slv_new _ _ _ _ rfl) (hB.out.alloc hB.out.size _) (Below.alloc (Below.refl _ _) (Nat.le_refl _) _)
    refine And.intro ?_ ?_
    · -- 36: slot 49 := Op.call { callee := Callee.value (Operand.func 12), args := #[Operand.tmp 48], argTypes :=
      refine lstep_run fun fr wf left => ?_
      obtain ⟨x22, e22, r22⟩ := left.slot 79 rfl 22 35 _ rfl rfl (by decide) rfl
      obtain rfl : x22 = .bool true := r22
      obtain ⟨x35, e35, r35⟩ := left.slot 79 rfl 35 48 _ rfl rfl (by decide) rfl
      replace r35 : SlV wf x35 [.string (a ++ b)] := r35
      refine ⟨wanted_yes rfl rfl e22, fun K hK => ?_⟩
      have hB := hide left.base
      clear left
      go_simp
      refine (of_val _ [a ++ b] AB _ r35 (by simp) (by intro p hp; rw [List.mem_singleton.1 hp]; exact hsum.out) (by rw [← E.hab, ← bytes_append]; rfl)).mono ?_
      rintro e w' ⟨rfl, hb⟩
      exact hK _ _ rfl (below_next hB.out hb) hb
    refine And.intro ?_ ?_
    · -- 37: slot 50 := Op.binOp BinOp.eql 23 (Operand.tmp 44) (Operand.tmp 49) 23
      refine lstep_run fun fr wf left => ?_
      obtain ⟨x22, e22, r22⟩ := left.slot 79 rfl 22 35 _ rfl rfl (by decide) rfl
      obtain rfl : x22 = .bool true := r22
      obtain ⟨x31, e31, r31⟩ := left.slot 79 rfl 31 44 _ rfl rfl (by decide) rfl
      obtain rfl : x31 = .int .u32 AB := r31
      obtain ⟨x36, e36, r36⟩ := left.slot 79 rfl 36 49 _ rfl rfl (by decide) rfl
      obtain rfl : x36 = .int .u32 AB := r36
      refine ⟨wanted_yes rfl rfl e22, fun K hK => ?_⟩
      have hB := hide left.base
      clear left
      go_simp
      exact hK _ _ rfl hB.out (Below.refl _ _)
    refine And.intro ?_ ?_
    · -- 38: slot 51 := Op.pick (Operand.tmp 35) (Operand.tmp 50) (Operand.const (Value.bool false))
      refine lstep_run fun fr wf left => ?_
      obtain ⟨x22, e22, r22⟩ := left.slot 79 rfl 22 35 _ rfl rfl (by decide) rfl
      obtain rfl : x22 = .bool true := r22
      obtain ⟨x37, e37, r37⟩ := left.slot 79 rfl 37 50 _ rfl rfl (by decide) rfl
      obtain rfl : x37 = .bool true := r37
      refine ⟨wanted_none rfl, fun K hK => ?_⟩
      have hB := hide left.base
      clear left
      go_simp
      exact hK _ _ rfl hB.out (Below.refl _ _)
    refine And.intro ?_ ?_
    · -- 39: slot 52 := Op.move (Operand.tmp 51)
      refine lstep_run fun fr wf left => ?_
      obtain ⟨x38, e38, r38⟩ := left.slot 79 rfl 38 51 _ rfl rfl (by decide) rfl
      obtain rfl : x38 = .bool true := r38
      refine ⟨wanted_none rfl, fun K hK => ?_⟩
      have hB := hide left.base
      clear left
      go_simp
      exact hK _ _ rfl hB.out (Below.refl _ _)
    refine And.intro ?_ ?_
    · -- 40: slot 53 := Op.move (Operand.tmp 2)
      refine lstep_run fun fr wf left => ?_
      obtain ⟨x39, e39, r39⟩ := left.slot 79 rfl 39 52 _ rfl rfl (by decide) rfl
      obtain rfl : x39 = .bool true := r39
      have o2 := (left.old 2 (by kernel_rfl)).trans rfl
      refine ⟨wanted_yes rfl rfl e39, fun K hK => ?_⟩
      have hB := hide left.base
      clear left
      go_simp
      exact hK _ _ rfl hB.out (Below.refl _ _)
    refine And.intro ?_ ?_
    · -- 41: slot 54 := Op.move (Operand.tmp 0)
      refine lstep_run fun fr wf left => ?_
      obtain ⟨x39, e39, r39⟩ := left.slot 79 rfl 39 52 _ rfl rfl (by decide) rfl
      obtain rfl : x39 = .bool true := r39
      have o0 := (left.old 0 (by kernel_rfl)).trans rfl
      refine ⟨wanted_yes rfl rfl e39, fun K hK => ?_⟩
      have hB := hide left.base
      clear left
      go_simp
      exact hK _ _ rfl hB.out (Below.refl _ _)
    refine And.intro ?_ ?_
    · -- 42: slot 55 := Op.call { callee := Callee.value (Operand.func 13), args := #[Operand.tmp 53, Operand.tmp 
      refine lstep_run fun fr wf left => ?_
      obtain ⟨x39, e39, r39⟩ := left.slot 79 rfl 39 52 _ rfl rfl (by decide) rfl
      obtain rfl : x39 = .bool true := r39
      obtain ⟨x40, e40, r40⟩ := left.slot 79 rfl 40 53 _ rfl rfl (by decide) rfl
      obtain rfl : x40 = .int .u32 ci := r40
      obtain ⟨x41, e41, r41⟩ := left.slot 79 rfl 41 54 _ rfl rfl (by decide) rfl
      obtain rfl : x41 = .string a := r41
      refine ⟨wanted_yes rfl rfl e39, fun K hK => ?_⟩
      have hB := hide left.base
      clear left
      go_simp
      refine (more_val ci a M _ c (C.out) (za) (E.hm)).mono ?_
      rintro e w' ⟨rfl, hb⟩
      exact hK _ _ rfl (below_next hB.out hb) hb
    refine And.intro ?_ ?_
    · -- 43: slot 56 := Op.move (Operand.tmp 1)
      refine lstep_run fun fr wf left => ?_
      obtain ⟨x39, e39, r39⟩ := left.slot 79 rfl 39 52 _ rfl rfl (by decide) rfl
      obtain rfl : x39 = .bool true := r39
      have o1 := (left.old 1 (by kernel_rfl)).trans rfl
      refine ⟨wanted_yes rfl rfl e39, fun K hK => ?_⟩
      have hB := hide left.base
      clear left
      go_simp
      exact hK _ _ rfl hB.out (Below.refl _ _)
    refine And.intro ?_ ?_
    · -- 44: slot 57 := Op.call { callee := Callee.value (Operand.func 13), args := #[Operand.tmp 55, Operand.tmp 
      refine lstep_run fun fr wf left => ?_
      obtain ⟨x39, e39, r39⟩ := left.slot 79 rfl 39 52 _ rfl rfl (by decide) rfl
      obtain rfl : x39 = .bool true := r39
      obtain ⟨x42, e42, r42⟩ := left.slot 79 rfl 42 55 _ rfl rfl (by decide) rfl
      obtain rfl : x42 = .int .u32 M := r42
      obtain ⟨x43, e43, r43⟩ := left.slot 79 rfl 43 56 _ rfl rfl (by decide) rfl
      obtain rfl : x43 = .string b := r43
      refine ⟨wanted_yes rfl rfl e39, fun K hK => ?_⟩
      have hB := hide left.base
      clear left
      go_simp
      refine (more_val M b MAB _ (Crc.more c a.data.toList) (E.hm.symm) (zb) (by rw [← E.hmab, Crc.more_append])).mono ?_
      rintro e w' ⟨rfl, hb⟩
      exact hK _ _ rfl (below_next hB.out hb) hb
    refine And.intro ?_ ?_
    · -- 45: slot 58 := Op.move (Operand.tmp 2)
      refine lstep_run fun fr wf left => ?_
      obtain ⟨x39, e39, r39⟩ := left.slot 79 rfl 39 52 _ rfl rfl (by decide) rfl
      obtain rfl : x39 = .bool true := r39
      have o2 := (left.old 2 (by kernel_rfl)).trans rfl
      refine ⟨wanted_yes rfl rfl e39, fun K hK => ?_⟩
      have hB := hide left.base
      clear left
      go_simp
      exact hK _ _ rfl hB.out (Below.refl _ _)
    refine And.intro ?_ ?_
    · -- 46: slot 59 := Op.move (Operand.tmp 0)
      refine lstep_run fun fr wf left => ?_
      obtain ⟨x39, e39, r39⟩ := left.slot 79 rfl 39 52 _ rfl rfl (by decide) rfl
      obtain rfl : x39 = .bool true := r39
      have o0 := (left.old 0 (by kernel_rfl)).trans rfl
      refine ⟨wanted_yes rfl rfl e39, fun K hK => ?_⟩
      have hB := hide left.base
      clear left
      go_simp
      exact hK _ _ rfl hB.out (Below.refl _ _)
    refine And.intro ?_ ?_
    · -- 47: slot 60 := Op.move (Operand.tmp 1)
      refine lstep_run fun fr wf left => ?_
      obtain ⟨x39, e39, r39⟩ := left.slot 79 rfl 39 52 _ rfl rfl (by decide) rfl
      obtain rfl : x39 = .bool true := r39
      have o1 := (left.old 1 (by kernel_rfl)).trans rfl
      refine ⟨wanted_yes rfl rfl e39, fun K hK => ?_⟩
      have hB := hide left.base
      clear left
      go_simp
      exact hK _ _ rfl hB.out (Below.refl _ _)
    refine And.intro ?_ ?_
    · -- 48: slot 61 := Op.binOp BinOp.add 9 (Operand.tmp 59) (Operand.tmp 60) 9
      refine lstep_run fun fr wf left => ?_
      obtain ⟨x39, e39, r39⟩ := left.slot 79 rfl 39 52 _ rfl rfl (by decide) rfl
      obtain rfl : x39 = .bool true := r39
      obtain ⟨x46, e46, r46⟩ := left.slot 79 rfl 46 59 _ rfl rfl (by decide) rfl
      obtain rfl : x46 = .string a := r46
      obtain ⟨x47, e47, r47⟩ := left.slot 79 rfl 47 60 _ rfl rfl (by decide) rfl
      obtain rfl : x47 = .string b := r47
      refine ⟨wanted_yes rfl rfl e39, fun K hK => ?_⟩
      have hB := hide left.base
      clear left
      go_simp
      go_step
      exact hK _ _ rfl hB.out (Below.refl _ _)
    refine And.intro ?_ ?_
    · -- 49: slot 62 := Op.call { callee := Callee.value (Operand.func 13), args := #[Operand.tmp 58, Operand.tmp 
      refine lstep_run fun fr wf left => ?_
      obtain ⟨x39, e39, r39⟩ := left.slot 79 rfl 39 52 _ rfl rfl (by decide) rfl
      obtain rfl : x39 = .bool true := r39
      obtain ⟨x45, e45, r45⟩ := left.slot 79 rfl 45 58 _ rfl rfl (by decide) rfl
      obtain rfl : x45 = .int .u32 ci := r45
      obtain ⟨x48, e48, r48⟩ := left.slot 79 rfl 48 61 _ rfl rfl (by decide) rfl
      obtain rfl : x48 = .string (a ++ b) := r48
      refine ⟨wanted_yes rfl rfl e39, fun K hK => ?_⟩
      have hB := hide left.base
      clear left
      go_simp
      refine (more_val ci (a ++ b) MAB _ c (C.out) (hsum.out) (by rw [← E.hmab, ← bytes_append])).mono ?_
      rintro e w' ⟨rfl, hb⟩
      exact hK _ _ rfl (below_next hB.out hb) hb
    refine And.intro ?_ ?_
    · -- 50: slot 63 := Op.binOp BinOp.eql 23 (Operand.tmp 57) (Operand.tmp 62) 23
      refine lstep_run fun fr wf left => ?_
      obtain ⟨x39, e39, r39⟩ := left.slot 79 rfl 39 52 _ rfl rfl (by decide) rfl
      obtain rfl : x39 = .bool true := r39
      obtain ⟨x44, e44, r44⟩ := left.slot 79 rfl 44 57 _ rfl rfl (by decide) rfl
      obtain rfl : x44 = .int .u32 MAB := r44
      obtain ⟨x49, e49, r49⟩ := left.slot 79 rfl 49 62 _ rfl rfl (by decide) rfl
      obtain rfl : x49 = .int .u32 MAB := r49
      refine ⟨wanted_yes rfl rfl e39, fun K hK => ?_⟩
      have hB := hide left.base
      clear left
      go_simp
      exact hK _ _ rfl hB.out (Below.refl _ _)
    refine And.intro ?_ ?_
    · -- 51: slot 64 := Op.pick (Operand.tmp 52) (Operand.tmp 63) (Operand.const (Value.bool false))
      refine lstep_run fun fr wf left => ?_
      obtain ⟨x39, e39, r39⟩ := left.slot 79 rfl 39 52 _ rfl rfl (by decide) rfl
      obtain rfl : x39 = .bool true := r39
      obtain ⟨x50, e50, r50⟩ := left.slot 79 rfl 50 63 _ rfl rfl (by decide) rfl
      obtain rfl : x50 = .bool true := r50
      refine ⟨wanted_none rfl, fun K hK => ?_⟩
      have hB := hide left.base
      clear left
      go_simp
      exact hK _ _ rfl hB.out (Below.refl _ _)
    refine And.intro ?_ ?_
    · -- 52: slot 65 := Op.move (Operand.tmp 64)
      refine lstep_run fun fr wf left => ?_
      obtain ⟨x51, e51, r51⟩ := left.slot 79 rfl 51 64 _ rfl rfl (by decide) rfl
      obtain rfl : x51 = .bool true := r51
      refine ⟨wanted_none rfl, fun K hK => ?_⟩
      have hB := hide left.base
      clear left
      go_simp
      exact hK _ _ rfl hB.out (Below.refl _ _)
    refine And.intro ?_ ?_
    · -- 53: slot 66 := Op.move (Operand.tmp 0)
      refine lstep_run fun fr wf left => ?_
      obtain ⟨x52, e52, r52⟩ := left.slot 79 rfl 52 65 _ rfl rfl (by decide) rfl
      obtain rfl : x52 = .bool true := r52
      have o0 := (left.old 0 (by kernel_rfl)).trans rfl
      refine ⟨wanted_yes rfl rfl e52, fun K hK => ?_⟩
      have hB := hide left.base
      clear left
      go_simp
      exact hK _ _ rfl hB.out (Below.refl _ _)
    refine And.intro ?_ ?_
    · -- 54: slot 67 := Op.call { callee := Callee.value (Operand.func 13), args := #[Operand.const (Value.int Int
      refine lstep_run fun fr wf left => ?_
      obtain ⟨x52, e52, r52⟩ := left.slot 79 rfl 52 65 _ rfl rfl (by decide) rfl
      obtain rfl : x52 = .bool true := r52
      obtain ⟨x53, e53, r53⟩ := left.slot 79 rfl 53 66 _ rfl rfl (by decide) rfl
      obtain rfl : x53 = .string a := r53
      refine ⟨wanted_yes rfl rfl e52, fun K hK => ?_⟩
      have hB := hide left.base
      clear left
      go_simp
      refine (more_val 0 a A _ 0#32 (rfl) (za) (E.ha)).mono ?_
      rintro e w' ⟨rfl, hb⟩
      exact hK _ _ rfl (below_next hB.out hb) hb
    refine And.intro ?_ ?_
    · -- 55: slot 68 := Op.move (Operand.tmp 0)
      refine lstep_run fun fr wf left => ?_
      obtain ⟨x52, e52, r52⟩ := left.slot 79 rfl 52 65 _ rfl rfl (by decide) rfl
      obtain rfl : x52 = .bool true := r52
      have o0 := (left.old 0 (by kernel_rfl)).trans rfl
      refine ⟨wanted_yes rfl rfl e52, fun K hK => ?_⟩
      have hB := hide left.base
      clear left
      go_simp
      exact hK _ _ rfl hB.out (Below.refl _ _)
    refine And.intro ?_ ?_
    · -- 56: slot 69 := Op.buildSlice 22 1 #[(0, Operand.tmp 68)]
      refine lstep_run fun fr wf left => ?_
      obtain ⟨x52, e52, r52⟩ := left.slot 79 rfl 52 65 _ rfl rfl (by decide) rfl
      obtain rfl : x52 = .bool true := r52
      obtain ⟨x55, e55, r55⟩ := left.slot 79 rfl 55 68 _ rfl rfl (by decide) rfl
      obtain rfl : x55 = .string a := r55
      refine ⟨wanted_yes rfl rfl e52, fun K hK => ?_⟩
      have hB := hide left.base
      clear left
      go_simp
      exact hK _ _ (slv_new _ _ _ _ rfl) (hB.out.alloc hB.out.size _) (Below.alloc (Below.refl _ _) (Nat.le_refl _) _)
    refine And.intro ?_ ?_
    · -- 57: slot 70 := Op.call { callee := Callee.value (Operand.func 12), args := #[Operand.tmp 69], argTypes :=
      refine lstep_run fun fr wf left => ?_
      obtain ⟨x52, e52, r52⟩ := left.slot 79 rfl 52 65 _ rfl rfl (by decide) rfl
      obtain rfl : x52 = .bool true := r52
      obtain ⟨x56, e56, r56⟩ := left.slot 79 rfl 56 69 _ rfl rfl (by decide) rfl
      replace r56 : SlV wf x56 [.string a] := r56
      refine ⟨wanted_yes rfl rfl e52, fun K hK => ?_⟩
      have hB := hide left.base
      clear left
      go_simp
      refine (of_val _ [a] A _ r56 (by simp) (by simp [za]) (E.ha)).mono ?_
      rintro e w' ⟨rfl, hb⟩
      exact hK _ _ rfl (below_next hB.out hb) hb
    refine And.intro ?_ ?_
    · -- 58: slot 71 := Op.binOp BinOp.eql 23 (Operand.tmp 67) (Operand.tmp 70) 23
      refine lstep_run fun fr wf left => ?_
      obtain ⟨x52, e52, r52⟩ := left.slot 79 rfl 52 65 _ rfl rfl (by decide) rfl
      obtain rfl : x52 = .bool true := r52
      obtain ⟨x54, e54, r54⟩ := left.slot 79 rfl 54 67 _ rfl rfl (by decide) rfl
      obtain rfl : x54 = .int .u32 A := r54
      obtain ⟨x57, e57, r57⟩ := left.slot 79 rfl 57 70 _ rfl rfl (by decide) rfl
      obtain rfl : x57 = .int .u32 A := r57
      refine ⟨wanted_yes rfl rfl e52, fun K hK => ?_⟩
      have hB := hide left.base
      clear left
      go_simp
      exact hK _ _ rfl hB.out (Below.refl _ _)
    refine And.intro ?_ ?_
    · -- 59: slot 72 := Op.pick (Operand.tmp 65) (Operand.tmp 71) (Operand.const (Value.bool false))
      refine lstep_run fun fr wf left => ?_
      obtain ⟨x52, e52, r52⟩ := left.slot 79 rfl 52 65 _ rfl rfl (by decide) rfl
      obtain rfl : x52 = .bool true := r52
      obtain ⟨x58, e58, r58⟩ := left.slot 79 rfl 58 71 _ rfl rfl (by decide) rfl
      obtain rfl : x58 = .bool true := r58
      refine ⟨wanted_none rfl, fun K hK => ?_⟩
      have hB := hide left.base
      clear left
      go_simp
      exact hK _ _ rfl hB.out (Below.refl _ _)
    refine And.intro ?_ ?_
    · -- 60: slot 73 := Op.move (Operand.tmp 72)
      refine lstep_run fun fr wf left => ?_
      obtain ⟨x59, e59, r59⟩ := left.slot 79 rfl 59 72 _ rfl rfl (by decide) rfl
      obtain rfl : x59 = .bool true := r59
      refine ⟨wanted_none rfl, fun K hK => ?_⟩
      have hB := hide left.base
      clear left
      go_simp
      exact hK _ _ rfl hB.out (Below.refl _ _)
    refine And.intro ?_ ?_
    · -- 61: slot 74 := Op.move (Operand.tmp 2)
      refine lstep_run fun fr wf left => ?_
      obtain ⟨x60, e60, r60⟩ := left.slot 79 rfl 60 73 _ rfl rfl (by decide) rfl
      obtain rfl : x60 = .bool true := r60
      have o2 := (left.old 2 (by kernel_rfl)).trans rfl
      refine ⟨wanted_yes rfl rfl e60, fun K hK => ?_⟩
      have hB := hide left.base
      clear left
      go_simp
      exact hK _ _ rfl hB.out (Below.refl _ _)
    refine And.intro ?_ ?_
    · -- 62: slot 75 := Op.call { callee := Callee.value (Operand.func 13), args := #[Operand.tmp 74, Operand.cons
      refine lstep_run fun fr wf left => ?_
      obtain ⟨x60, e60, r60⟩ := left.slot 79 rfl 60 73 _ rfl rfl (by decide) rfl
      obtain rfl : x60 = .bool true := r60
      obtain ⟨x61, e61, r61⟩ := left.slot 79 rfl 61 74 _ rfl rfl (by decide) rfl
      obtain rfl : x61 = .int .u32 ci := r61
      refine ⟨wanted_yes rfl rfl e60, fun K hK => ?_⟩
      have hB := hide left.base
      clear left
      go_simp
      refine (more_val ci ⟨#[]⟩ ci _ c (C.out) (by decide) (by rw [C.out, show (⟨#[]⟩ : ByteArray).data.toList = [] from rfl, Crc.more_nil])).mono ?_
      rintro e w' ⟨rfl, hb⟩
      exact hK _ _ rfl (below_next hB.out hb) hb
    refine And.intro ?_ ?_
    · -- 63: slot 76 := Op.move (Operand.tmp 2)
      refine lstep_run fun fr wf left => ?_
      obtain ⟨x60, e60, r60⟩ := left.slot 79 rfl 60 73 _ rfl rfl (by decide) rfl
      obtain rfl : x60 = .bool true := r60
      have o2 := (left.old 2 (by kernel_rfl)).trans rfl
      refine ⟨wanted_yes rfl rfl e60, fun K hK => ?_⟩
      have hB := hide left.base
      clear left
      go_simp
      exact hK _ _ rfl hB.out (Below.refl _ _)
    refine And.intro ?_ ?_
    · -- 64: slot 77 := Op.binOp BinOp.eql 23 (Operand.tmp 75) (Operand.tmp 76) 23
      refine lstep_run fun fr wf left => ?_
      obtain ⟨x60, e60, r60⟩ := left.slot 79 rfl 60 73 _ rfl rfl (by decide) rfl
      obtain rfl : x60 = .bool true := r60
      obtain ⟨x62, e62, r62⟩ := left.slot 79 rfl 62 75 _ rfl rfl (by decide) rfl
      obtain rfl : x62 = .int .u32 ci := r62
      obtain ⟨x63, e63, r63⟩ := left.slot 79 rfl 63 76 _ rfl rfl (by decide) rfl
      obtain rfl : x63 = .int .u32 ci := r63
      refine ⟨wanted_yes rfl rfl e60, fun K hK => ?_⟩
      have hB := hide left.base
      clear left
      go_simp
      exact hK _ _ rfl hB.out (Below.refl _ _)
    refine And.intro ?_ ?_
    · -- 65: slot 78 := Op.pick (Operand.tmp 73) (Operand.tmp 77) (Operand.const (Value.bool false))
      refine lstep_run fun fr wf left => ?_
      obtain ⟨x60, e60, r60⟩ := left.slot 79 rfl 60 73 _ rfl rfl (by decide) rfl
      obtain rfl : x60 = .bool true := r60
      obtain ⟨x64, e64, r64⟩ := left.slot 79 rfl 64 77 _ rfl rfl (by decide) rfl
      obtain rfl : x64 = .bool true := r64
      refine ⟨wanted_none rfl, fun K hK => ?_⟩
      have hB := hide left.base
      clear left
      go_simp
      exact hK _ _ rfl hB.out (Below.refl _ _)
    refine And.intro ?_ ?_
    · -- 66: slot 6 := Op.assign (Operand.tmp 78)
      refine lstep_run fun fr wf left => ?_
      obtain ⟨x65, e65, r65⟩ := left.slot 79 rfl 65 78 _ rfl rfl (by decide) rfl
      obtain rfl : x65 = .bool true := r65
      refine ⟨wanted_none rfl, fun K hK => ?_⟩
      have hB := hide left.base
      clear left
      go_simp
      exact hK _ _ rfl hB.out (Below.refl _ _)
    exact trivial
  · intro fr wf hB _ hd hall _
    have hv : fr.tmps.getD 6 undef = .bool true := hall 66 _ rfl (by simp)
    refine hrest _ _ (wp_ret ?_)
    exact bodyPost_ret (by rw [results_tmp rfl, hv]) hd ⟨rfl, hB⟩
#print axioms parts_any
end Go.Proofs.Ytholbjclfkdgbaa
