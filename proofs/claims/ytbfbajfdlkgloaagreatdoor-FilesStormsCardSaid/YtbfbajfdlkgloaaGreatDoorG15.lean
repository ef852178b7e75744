/-
  massifref18's Mark, ReadMark, Node, ReadNode, ReadPayload, Chain; record.Chain: the walks.
-/
import Derived.Test.YtbfbajfdlkgloaaGreatDoorG14
import Derived.Lib.SlicesS

namespace Go.Proofs.YtbfbajfdlkgloaaGreatDoor
open Go.RowKit
theorem big_val (p n : Nat) (s : ByteArray) (w : World) (hp : p < 18446744073709551616) (hn : n ≤ 1000) (hs : s = Rec.numB p n) : Calls Tryz.prog 144 #[.int .u64 (p : Int), .int .i64 (n : Int)] w fun e w' => e = .returned (.string s) ∧ Below w.heap.size w w' := by
  rw [hs]; exact big_any p n w hp hn
theorem zeros_val (n : Nat) (s : ByteArray) (w : World) (hn : n ≤ 1000) (hs : s = Rec.zeroB n) : Calls Tryz.prog 137 #[.int .i64 (n : Int)] w fun e w' => e = .returned (.string s) ∧ Below w.heap.size w w' := by
  rw [hs]; exact zeros_any n w hn
theorem summed_val (s t : ByteArray) (w : World) (hs : s.size ≤ 4611686018427387904) (ht : t = Rec.sealB s) : Calls Tryz.prog 143 #[.string s] w fun e w' => e = .returned (.string t) ∧ Below w.heap.size w w' := by
  rw [ht]; exact summed_any s w hs
theorem small_val (s : ByteArray) (l : List UInt8) (n : Nat) (w : World) (hs : s.size ≤ 8 ∧ bytesOf s = l) (hn : n = Rec.small l) :
    Calls Tryz.prog 116 #[.string s] w fun e w' => e = .returned (.int .u64 (n : Int)) ∧ w' = w := by
  rw [hn, ← hs.2]; exact small_any s w hs.1
def refmarkL (w : World) (kn sz it nd ch : Nat) (M N1 Z3 N2 N3 N4 N5 Z24 X : ByteArray) : List Sp :=
  [.is (.pointer (some ⟨w.heap.size, 0, none⟩)), .is (.int .i64 (kn : Int)), .is (.int .u64 (kn : Int)), .is (.string N1), .is (.string (M ++ N1)), .is (.string Z3), .is (.string (M ++ N1 ++ Z3)), .is (.pointer (some ⟨w.heap.size, 1, none⟩)), .is (.int .u64 (sz : Int)), .is (.string N2), .is (.string (M ++ N1 ++ Z3 ++ N2)), .is (.pointer (some ⟨w.heap.size, 2, none⟩)), .is (.int .u64 (it : Int)), .is (.string N3), .is (.string (M ++ N1 ++ Z3 ++ N2 ++ N3)), .is (.pointer (some ⟨w.heap.size, 3, none⟩)), .is (.int .u64 (nd : Int)), .is (.string N4), .is (.string (M ++ N1 ++ Z3 ++ N2 ++ N3 ++ N4)), .is (.pointer (some ⟨w.heap.size, 4, none⟩)), .is (.int .u32 (ch : Int)), .is (.int .u64 (ch : Int)), .is (.string N5), .is (.string (M ++ N1 ++ Z3 ++ N2 ++ N3 ++ N4 ++ N5)), .is (.string Z24), .is (.string (M ++ N1 ++ Z3 ++ N2 ++ N3 ++ N4 ++ N5 ++ Z24)), .is (.string X), .is (.string X)]
def refmarkU : List (List Nat) := [[], [0], [1], [2], [3], [], [4, 5], [], [7], [8], [6, 9], [], [11], [12], [10, 13], [], [15], [16], [14, 17], [], [19], [20], [21], [18, 22], [], [23, 24], [25], [26]]
set_option maxHeartbeats 1600000 in
set_option maxRecDepth 100000 in
theorem refMark_any (m : Rec.Mk) (w : World) (hm : m.ok) :
    Calls Tryz.prog 147 #[Rec.mkV m] w fun e w' => e = .returned (.string (Rec.markB m)) ∧ Below w.heap.size w w' := by
  obtain ⟨Y, hY⟩ : ∃ Y, Y = Rec.markB m := ⟨_, rfl⟩
  rw [← hY]
  have HY := hide hY
  clear hY
  obtain ⟨k, sz, it, nd, ch⟩ := m
  obtain ⟨hk, h1, h2, h3, h4⟩ := hm
  replace hk : (Lit.int .i64 k).wf = true := hk
  replace h1 : sz < 18446744073709551616 := h1
  replace h2 : it < 18446744073709551616 := h2
  replace h3 : nd < 18446744073709551616 := h3
  replace h4 : ch < 4294967296 := h4
  unfold Rec.mkV Rec.Mk.cells
  go_enter Tryz.func147, Tryz.ntmps147
  by_cases hk1 : k < 1
  · go_wp2_with fail
    go_ret
    refine ⟨?_, (Below.refl _ _).alloc (Nat.le_refl _) _⟩
    rw [HY.out]; unfold Rec.markB; rw [if_pos (.inl hk1)]; rfl
  by_cases hk2 : 32 < k
  · go_wp2_with fail
    go_ret
    refine ⟨?_, (Below.refl _ _).alloc (Nat.le_refl _) _⟩
    rw [HY.out]; unfold Rec.markB; rw [if_pos (.inr hk2)]; rfl
  obtain ⟨kn, rfl⟩ : ∃ kn : Nat, k = kn := ⟨k.toNat, by omega⟩
  go_wp2_with fail
  obtain ⟨W1, hW1⟩ : ∃ W1, W1 = w.alloc (.cells #[.int .i64 (kn : Int), .int .u64 (sz : Int), .int .u64 (it : Int), .int .u64 (nd : Int), .int .u32 (ch : Int)] 133) := ⟨_, rfl⟩
  rw [← hW1]
  have hblk : W1.heap[w.heap.size]? = some (.cells #[.int .i64 (kn : Int), .int .u64 (sz : Int), .int .u64 (it : Int), .int .u64 (nd : Int), .int .u32 (ch : Int)] 133) := by rw [hW1]; exact alloc_at _ _
  have hlt1 : w.heap.size < W1.heap.size := by rw [hW1]; simp
  have HB1 := hide (show Below w.heap.size w W1 by rw [hW1]; exact (Below.refl _ _).alloc (Nat.le_refl _) _)
  have HK := hide hblk
  have HLT := hide hlt1
  clear hW1 hblk hlt1
  have hkk : kn < 18446744073709551616 := by omega
  have hch : ch < 18446744073709551616 := by omega
  obtain ⟨M, hM⟩ : ∃ X, X = Rec.magicB := ⟨_, rfl⟩
  obtain ⟨N1, hN1⟩ : ∃ X, X = Rec.numB kn 1 := ⟨_, rfl⟩
  obtain ⟨Z3, hZ3⟩ : ∃ X, X = Rec.numB 0 3 := ⟨_, rfl⟩
  obtain ⟨N2, hN2⟩ : ∃ X, X = Rec.numB sz 8 := ⟨_, rfl⟩
  obtain ⟨N3, hN3⟩ : ∃ X, X = Rec.numB it 8 := ⟨_, rfl⟩
  obtain ⟨N4, hN4⟩ : ∃ X, X = Rec.numB nd 8 := ⟨_, rfl⟩
  obtain ⟨N5, hN5⟩ : ∃ X, X = Rec.numB ch 4 := ⟨_, rfl⟩
  obtain ⟨Z24, hZ24⟩ : ∃ X, X = Rec.numB 0 24 := ⟨_, rfl⟩
  obtain ⟨X, hX⟩ : ∃ X, X = Rec.sealB (M ++ N1 ++ Z3 ++ N2 ++ N3 ++ N4 ++ N5 ++ Z24) := ⟨_, rfl⟩
  have sM : M.size = 4 := by rw [hM]; rfl
  have s1 : N1.size = 1 := by rw [hN1, Rec.numB_size]
  have s3 : Z3.size = 3 := by rw [hZ3, Rec.numB_size]
  have s2 : N2.size = 8 := by rw [hN2, Rec.numB_size]
  have s4 : N3.size = 8 := by rw [hN3, Rec.numB_size]
  have s5 : N4.size = 8 := by rw [hN4, Rec.numB_size]
  have s6 : N5.size = 4 := by rw [hN5, Rec.numB_size]
  have s7 : Z24.size = 24 := by rw [hZ24, Rec.numB_size]
  have E := MarkEq.mk (m := ⟨kn, sz, it, nd, ch⟩) hM hN1 hZ3 hN2 hN3 hN4 hN5 hZ24 hX
  have hsum : (M ++ N1 ++ Z3 ++ N2 ++ N3 ++ N4 ++ N5 ++ Z24).size ≤ 4611686018427387904 := by simp only [ByteArray.size_append]; omega
  have HZ := hide hsum
  clear hM hN1 hZ3 hN2 hN3 hN4 hN5 hZ24 hX hsum
  rename_i hrest
  refine wp_region_local (by kernel_rfl) (by kernel_rfl) (useList refmarkU) [27] (by kernel_rfl) (spR (refmarkL w kn sz it nd ch M N1 Z3 N2 N3 N4 N5 Z24 X)) (fun _ _ => True) (Below W1.heap.size W1) (fun _ w w' => Below w.heap.size w w') spR_stays (fun _ _ _ _ _ h _ => h) (fun _ _ => Below.refl _ _) (dsts_lt (N := 38) (by kernel_rfl)) ((Below.refl _ _).drew) (fun _ _ => trivial) (all_ops ?_) ?_
  · refine And.intro ?_ ?_
    · refine lstep_run fun fr wf left => ?_
      have o1 := (left.old 1 (by kernel_rfl)).trans rfl
      refine ⟨wanted_none rfl, fun K hK => ?_⟩
      have hB := hide left.base
      clear left
      go_simp
      exact hK _ _ rfl hB.out (Below.refl _ _)
    refine And.intro ?_ ?_
    · refine lstep_run fun fr wf left => ?_
      obtain ⟨x0, e0, r0⟩ := left.slot 38 rfl 0 11 _ rfl rfl (by decide) rfl
      have s0 := Eq.symm (show x0 = .pointer (some ⟨w.heap.size, 0, none⟩) from r0)
      subst s0
      refine ⟨wanted_none rfl, fun K hK => ?_⟩
      have hB := hide left.base
      have hc := (cell_blk ((hB.out.block w.heap.size HLT.out).trans HK.out) 0).trans rfl
      clear left
      go_simp
      exact hK _ _ rfl hB.out (Below.refl _ _)
    refine And.intro ?_ ?_
    · refine lstep_run fun fr wf left => ?_
      obtain ⟨x1, e1, r1⟩ := left.slot 38 rfl 1 12 _ rfl rfl (by decide) rfl
      have s1 := Eq.symm (show x1 = .int .i64 (kn : Int) from r1)
      subst s1
      refine ⟨wanted_none rfl, fun K hK => ?_⟩
      have hB := hide left.base
      clear left
      go_simp
      exact hK _ _ (congrArg (Value.int .u64) (IntWalk.u64_in _ (by omega))) hB.out (Below.refl _ _)
    refine And.intro ?_ ?_
    · refine lstep_run fun fr wf left => ?_
      obtain ⟨x2, e2, r2⟩ := left.slot 38 rfl 2 13 _ rfl rfl (by decide) rfl
      have s2 := Eq.symm (show x2 = .int .u64 (kn : Int) from r2)
      subst s2
      refine ⟨wanted_none rfl, fun K hK => ?_⟩
      have hB := hide left.base
      clear left
      go_simp
      refine (big_val kn 1 N1 _ (hkk) (by decide) E.h1).mono ?_
      rintro e w' ⟨rfl, hb⟩
      exact hK _ _ rfl (hB.out.trans (hb.mono (le_base hB.out))) hb
    refine And.intro ?_ ?_
    · refine lstep_run fun fr wf left => ?_
      obtain ⟨x3, e3, r3⟩ := left.slot 38 rfl 3 14 _ rfl rfl (by decide) rfl
      have s3 := Eq.symm (show x3 = .string N1 from r3)
      subst s3
      refine ⟨wanted_none rfl, fun K hK => ?_⟩
      have hB := hide left.base
      clear left
      go_simp
      exact hK _ _ (by rw [E.hM]; rfl) hB.out (Below.refl _ _)
    refine And.intro ?_ ?_
    · refine lstep_run fun fr wf left => ?_
      refine ⟨wanted_none rfl, fun K hK => ?_⟩
      have hB := hide left.base
      clear left
      go_simp
      refine (zeros_val 3 Z3 _ (by decide) (E.z3.trans rfl)).mono ?_
      rintro e w' ⟨rfl, hb⟩
      exact hK _ _ rfl (hB.out.trans (hb.mono (le_base hB.out))) hb
    refine And.intro ?_ ?_
    · refine lstep_run fun fr wf left => ?_
      obtain ⟨x4, e4, r4⟩ := left.slot 38 rfl 4 15 _ rfl rfl (by decide) rfl
      have s4 := Eq.symm (show x4 = .string (M ++ N1) from r4)
      subst s4
      obtain ⟨x5, e5, r5⟩ := left.slot 38 rfl 5 16 _ rfl rfl (by decide) rfl
      have s5 := Eq.symm (show x5 = .string Z3 from r5)
      subst s5
      refine ⟨wanted_none rfl, fun K hK => ?_⟩
      have hB := hide left.base
      clear left
      go_simp
      exact hK _ _ rfl hB.out (Below.refl _ _)
    refine And.intro ?_ ?_
    · refine lstep_run fun fr wf left => ?_
      have o1 := (left.old 1 (by kernel_rfl)).trans rfl
      refine ⟨wanted_none rfl, fun K hK => ?_⟩
      have hB := hide left.base
      clear left
      go_simp
      exact hK _ _ rfl hB.out (Below.refl _ _)
    refine And.intro ?_ ?_
    · refine lstep_run fun fr wf left => ?_
      obtain ⟨x7, e7, r7⟩ := left.slot 38 rfl 7 18 _ rfl rfl (by decide) rfl
      have s7 := Eq.symm (show x7 = .pointer (some ⟨w.heap.size, 1, none⟩) from r7)
      subst s7
      refine ⟨wanted_none rfl, fun K hK => ?_⟩
      have hB := hide left.base
      have hc := (cell_blk ((hB.out.block w.heap.size HLT.out).trans HK.out) 1).trans rfl
      clear left
      go_simp
      exact hK _ _ rfl hB.out (Below.refl _ _)
    refine And.intro ?_ ?_
    · refine lstep_run fun fr wf left => ?_
      obtain ⟨x8, e8, r8⟩ := left.slot 38 rfl 8 19 _ rfl rfl (by decide) rfl
      have s8 := Eq.symm (show x8 = .int .u64 (sz : Int) from r8)
      subst s8
      refine ⟨wanted_none rfl, fun K hK => ?_⟩
      have hB := hide left.base
      clear left
      go_simp
      refine (big_val sz 8 N2 _ (h1) (by decide) E.h2).mono ?_
      rintro e w' ⟨rfl, hb⟩
      exact hK _ _ rfl (hB.out.trans (hb.mono (le_base hB.out))) hb
    refine And.intro ?_ ?_
    · refine lstep_run fun fr wf left => ?_
      obtain ⟨x6, e6, r6⟩ := left.slot 38 rfl 6 17 _ rfl rfl (by decide) rfl
      have s6 := Eq.symm (show x6 = .string (M ++ N1 ++ Z3) from r6)
      subst s6
      obtain ⟨x9, e9, r9⟩ := left.slot 38 rfl 9 20 _ rfl rfl (by decide) rfl
      have s9 := Eq.symm (show x9 = .string N2 from r9)
      subst s9
      refine ⟨wanted_none rfl, fun K hK => ?_⟩
      have hB := hide left.base
      clear left
      go_simp
      exact hK _ _ rfl hB.out (Below.refl _ _)
    refine And.intro ?_ ?_
    · refine lstep_run fun fr wf left => ?_
      have o1 := (left.old 1 (by kernel_rfl)).trans rfl
      refine ⟨wanted_none rfl, fun K hK => ?_⟩
      have hB := hide left.base
      clear left
      go_simp
      exact hK _ _ rfl hB.out (Below.refl _ _)
    refine And.intro ?_ ?_
    · refine lstep_run fun fr wf left => ?_
      obtain ⟨x11, e11, r11⟩ := left.slot 38 rfl 11 22 _ rfl rfl (by decide) rfl
      have s11 := Eq.symm (show x11 = .pointer (some ⟨w.heap.size, 2, none⟩) from r11)
      subst s11
      refine ⟨wanted_none rfl, fun K hK => ?_⟩
      have hB := hide left.base
      have hc := (cell_blk ((hB.out.block w.heap.size HLT.out).trans HK.out) 2).trans rfl
      clear left
      go_simp
      exact hK _ _ rfl hB.out (Below.refl _ _)
    refine And.intro ?_ ?_
    · refine lstep_run fun fr wf left => ?_
      obtain ⟨x12, e12, r12⟩ := left.slot 38 rfl 12 23 _ rfl rfl (by decide) rfl
      have s12 := Eq.symm (show x12 = .int .u64 (it : Int) from r12)
      subst s12
      refine ⟨wanted_none rfl, fun K hK => ?_⟩
      have hB := hide left.base
      clear left
      go_simp
      refine (big_val it 8 N3 _ (h2) (by decide) E.h3).mono ?_
      rintro e w' ⟨rfl, hb⟩
      exact hK _ _ rfl (hB.out.trans (hb.mono (le_base hB.out))) hb
    refine And.intro ?_ ?_
    · refine lstep_run fun fr wf left => ?_
      obtain ⟨x10, e10, r10⟩ := left.slot 38 rfl 10 21 _ rfl rfl (by decide) rfl
      have s10 := Eq.symm (show x10 = .string (M ++ N1 ++ Z3 ++ N2) from r10)
      subst s10
      obtain ⟨x13, e13, r13⟩ := left.slot 38 rfl 13 24 _ rfl rfl (by decide) rfl
      have s13 := Eq.symm (show x13 = .string N3 from r13)
      subst s13
      refine ⟨wanted_none rfl, fun K hK => ?_⟩
      have hB := hide left.base
      clear left
      go_simp
      exact hK _ _ rfl hB.out (Below.refl _ _)
    refine And.intro ?_ ?_
    · refine lstep_run fun fr wf left => ?_
      have o1 := (left.old 1 (by kernel_rfl)).trans rfl
      refine ⟨wanted_none rfl, fun K hK => ?_⟩
      have hB := hide left.base
      clear left
      go_simp
      exact hK _ _ rfl hB.out (Below.refl _ _)
    refine And.intro ?_ ?_
    · refine lstep_run fun fr wf left => ?_
      obtain ⟨x15, e15, r15⟩ := left.slot 38 rfl 15 26 _ rfl rfl (by decide) rfl
      have s15 := Eq.symm (show x15 = .pointer (some ⟨w.heap.size, 3, none⟩) from r15)
      subst s15
      refine ⟨wanted_none rfl, fun K hK => ?_⟩
      have hB := hide left.base
      have hc := (cell_blk ((hB.out.block w.heap.size HLT.out).trans HK.out) 3).trans rfl
      clear left
      go_simp
      exact hK _ _ rfl hB.out (Below.refl _ _)
    refine And.intro ?_ ?_
    · refine lstep_run fun fr wf left => ?_
      obtain ⟨x16, e16, r16⟩ := left.slot 38 rfl 16 27 _ rfl rfl (by decide) rfl
      have s16 := Eq.symm (show x16 = .int .u64 (nd : Int) from r16)
      subst s16
      refine ⟨wanted_none rfl, fun K hK => ?_⟩
      have hB := hide left.base
      clear left
      go_simp
      refine (big_val nd 8 N4 _ (h3) (by decide) E.h4).mono ?_
      rintro e w' ⟨rfl, hb⟩
      exact hK _ _ rfl (hB.out.trans (hb.mono (le_base hB.out))) hb
    refine And.intro ?_ ?_
    · refine lstep_run fun fr wf left => ?_
      obtain ⟨x14, e14, r14⟩ := left.slot 38 rfl 14 25 _ rfl rfl (by decide) rfl
      have s14 := Eq.symm (show x14 = .string (M ++ N1 ++ Z3 ++ N2 ++ N3) from r14)
      subst s14
      obtain ⟨x17, e17, r17⟩ := left.slot 38 rfl 17 28 _ rfl rfl (by decide) rfl
      have s17 := Eq.symm (show x17 = .string N4 from r17)
      subst s17
      refine ⟨wanted_none rfl, fun K hK => ?_⟩
      have hB := hide left.base
      clear left
      go_simp
      exact hK _ _ rfl hB.out (Below.refl _ _)
    refine And.intro ?_ ?_
    · refine lstep_run fun fr wf left => ?_
      have o1 := (left.old 1 (by kernel_rfl)).trans rfl
      refine ⟨wanted_none rfl, fun K hK => ?_⟩
      have hB := hide left.base
      clear left
      go_simp
      exact hK _ _ rfl hB.out (Below.refl _ _)
    refine And.intro ?_ ?_
    · refine lstep_run fun fr wf left => ?_
      obtain ⟨x19, e19, r19⟩ := left.slot 38 rfl 19 30 _ rfl rfl (by decide) rfl
      have s19 := Eq.symm (show x19 = .pointer (some ⟨w.heap.size, 4, none⟩) from r19)
      subst s19
      refine ⟨wanted_none rfl, fun K hK => ?_⟩
      have hB := hide left.base
      have hc := (cell_blk ((hB.out.block w.heap.size HLT.out).trans HK.out) 4).trans rfl
      clear left
      go_simp
      exact hK _ _ rfl hB.out (Below.refl _ _)
    refine And.intro ?_ ?_
    · refine lstep_run fun fr wf left => ?_
      obtain ⟨x20, e20, r20⟩ := left.slot 38 rfl 20 31 _ rfl rfl (by decide) rfl
      have s20 := Eq.symm (show x20 = .int .u32 (ch : Int) from r20)
      subst s20
      refine ⟨wanted_none rfl, fun K hK => ?_⟩
      have hB := hide left.base
      clear left
      go_simp
      exact hK _ _ (congrArg (Value.int .u64) (IntWalk.u64_in _ (by omega))) hB.out (Below.refl _ _)
    refine And.intro ?_ ?_
    · refine lstep_run fun fr wf left => ?_
      obtain ⟨x21, e21, r21⟩ := left.slot 38 rfl 21 32 _ rfl rfl (by decide) rfl
      have s21 := Eq.symm (show x21 = .int .u64 (ch : Int) from r21)
      subst s21
      refine ⟨wanted_none rfl, fun K hK => ?_⟩
      have hB := hide left.base
      clear left
      go_simp
      refine (big_val ch 4 N5 _ (hch) (by decide) E.h5).mono ?_
      rintro e w' ⟨rfl, hb⟩
      exact hK _ _ rfl (hB.out.trans (hb.mono (le_base hB.out))) hb
    refine And.intro ?_ ?_
    · refine lstep_run fun fr wf left => ?_
      obtain ⟨x18, e18, r18⟩ := left.slot 38 rfl 18 29 _ rfl rfl (by decide) rfl
      have s18 := Eq.symm (show x18 = .string (M ++ N1 ++ Z3 ++ N2 ++ N3 ++ N4) from r18)
      subst s18
      obtain ⟨x22, e22, r22⟩ := left.slot 38 rfl 22 33 _ rfl rfl (by decide) rfl
      have s22 := Eq.symm (show x22 = .string N5 from r22)
      subst s22
      refine ⟨wanted_none rfl, fun K hK => ?_⟩
      have hB := hide left.base
      clear left
      go_simp
      exact hK _ _ rfl hB.out (Below.refl _ _)
    refine And.intro ?_ ?_
    · refine lstep_run fun fr wf left => ?_
      refine ⟨wanted_none rfl, fun K hK => ?_⟩
      have hB := hide left.base
      clear left
      go_simp
      refine (zeros_val 24 Z24 _ (by decide) (E.z24.trans rfl)).mono ?_
      rintro e w' ⟨rfl, hb⟩
      exact hK _ _ rfl (hB.out.trans (hb.mono (le_base hB.out))) hb
    refine And.intro ?_ ?_
    · refine lstep_run fun fr wf left => ?_
      obtain ⟨x23, e23, r23⟩ := left.slot 38 rfl 23 34 _ rfl rfl (by decide) rfl
      have s23 := Eq.symm (show x23 = .string (M ++ N1 ++ Z3 ++ N2 ++ N3 ++ N4 ++ N5) from r23)
      subst s23
      obtain ⟨x24, e24, r24⟩ := left.slot 38 rfl 24 35 _ rfl rfl (by decide) rfl
      have s24 := Eq.symm (show x24 = .string Z24 from r24)
      subst s24
      refine ⟨wanted_none rfl, fun K hK => ?_⟩
      have hB := hide left.base
      clear left
      go_simp
      exact hK _ _ rfl hB.out (Below.refl _ _)
    refine And.intro ?_ ?_
    · refine lstep_run fun fr wf left => ?_
      obtain ⟨x25, e25, r25⟩ := left.slot 38 rfl 25 36 _ rfl rfl (by decide) rfl
      have s25 := Eq.symm (show x25 = .string (M ++ N1 ++ Z3 ++ N2 ++ N3 ++ N4 ++ N5 ++ Z24) from r25)
      subst s25
      refine ⟨wanted_none rfl, fun K hK => ?_⟩
      have hB := hide left.base
      clear left
      go_simp
      refine (summed_val _ X _ HZ.out E.hX).mono ?_
      rintro e w' ⟨rfl, hb⟩
      exact hK _ _ rfl (hB.out.trans (hb.mono (le_base hB.out))) hb
    refine And.intro ?_ ?_
    · refine lstep_run fun fr wf left => ?_
      obtain ⟨x26, e26, r26⟩ := left.slot 38 rfl 26 37 _ rfl rfl (by decide) rfl
      have s26 := Eq.symm (show x26 = .string X from r26)
      subst s26
      refine ⟨wanted_none rfl, fun K hK => ?_⟩
      have hB := hide left.base
      clear left
      go_simp
      exact hK _ _ rfl hB.out (Below.refl _ _)
    exact trivial
  · intro fr wf hB _ hd hall _
    have hv : fr.tmps.getD 2 undef = .string X := hall 27 _ rfl (by simp)
    refine hrest _ _ (wp_ret ?_)
    exact bodyPost_ret (by rw [results_tmp rfl, hv]) hd ⟨by rw [HY.out, E.hX, E.hM, E.h1, E.z3, E.h2, E.h3, E.h4, E.h5, E.z24]; unfold Rec.markB; rw [if_neg (by show ¬ ((kn : Int) < 1 ∨ 32 < (kn : Int)); omega)]; rfl, HB1.out.trans (hB.mono HB1.out.size)⟩
def refrmarkL (w W2 : World) (s : ByteArray) (c4 : UInt8) (v1 v2 v3 v4 : Nat) : List Sp :=
  [.is (.string s), .is (.int .u8 (c4.toNat : Int)), .is (.int .i64 (c4.toNat : Int)), .is (.string s), .is (.string (s.extract 8 (8 + 8))), .is (.int .u64 (v1 : Int)), .is (.string s), .is (.string (s.extract 16 (16 + 8))), .is (.int .u64 (v2 : Int)), .is (.string s), .is (.string (s.extract 24 (24 + 8))), .is (.int .u64 (v3 : Int)), .is (.string s), .is (.string (s.extract 32 (32 + 4))), .is (.int .u64 (v4 : Int)), .is (.int .u32 (v4 : Int)), .is (.agg #[.int .i64 (c4.toNat : Int), .int .u64 (v1 : Int), .int .u64 (v2 : Int), .int .u64 (v3 : Int), .int .u32 (v4 : Int)]), .blk (W2.heap.size) 5 133, .cont (W2.heap.size) 133 [.int .i64 (c4.toNat : Int), .int .u64 (v1 : Int), .int .u64 (v2 : Int), .int .u64 (v3 : Int), .int .u32 (v4 : Int)]]
def refrmarkU : List (List Nat) := [[], [0], [1], [], [3], [4], [], [6], [7], [], [9], [10], [], [12], [13], [14], [2, 5, 8, 11, 15], [], [16, 17]]
set_option maxHeartbeats 1600000 in
set_option maxRecDepth 100000 in
theorem refReadMark_any (s : ByteArray) (w : World) (hs : s.size ≤ 140737488351232) :
    Calls Tryz.prog 138 #[.string s] w fun e w' => e = .returned (Rec.readMarkV s) ∧ Below w.heap.size w w' := by
  have hcv := fun w s => run_bytes_of_string (P := Tryz.prog) w 9 46 5 s Tryz.underlying9 Tryz.underlying46 Tryz.underlying5
  obtain ⟨r, hr⟩ : ∃ r, r = Rec.readMarkV s := ⟨_, rfl⟩
  rw [← hr]
  have HR := hide hr
  clear hr
  go_enter Tryz.func138, Tryz.ntmps138
  by_cases h64 : s.size = 64
  · have h64i : (s.size : Int) = 64 := by omega
    have H64 := hide h64
    clear h64
    go_wp2_with fail
    obtain ⟨W2, hW2⟩ : ∃ W2, W2 = w.alloc (.cells #[.int .i64 0, .int .u64 0, .int .u64 0, .int .u64 0, .int .u32 0] 133) := ⟨_, rfl⟩
    rw [← hW2]
    have HZ2 := hide (show W2.heap[w.heap.size]? = some (.cells #[.int .i64 0, .int .u64 0, .int .u64 0, .int .u64 0, .int .u32 0] 133) by rw [hW2]; exact alloc_at _ _)
    have HB2 := hide (show Below w.heap.size w W2 by rw [hW2]; exact (Below.refl _ _).alloc (Nat.le_refl _) _)
    have HLT2 := hide (show w.heap.size < W2.heap.size by rw [hW2]; simp)
    clear hW2
    obtain ⟨c4, hc4⟩ : ∃ c, c = (bytesOf s).getD 4 0 := ⟨_, rfl⟩
    obtain ⟨v1, hv1⟩ : ∃ c, c = Rec.small (((bytesOf s).drop 8).take 8) := ⟨_, rfl⟩
    obtain ⟨v2, hv2⟩ : ∃ c, c = Rec.small (((bytesOf s).drop 16).take 8) := ⟨_, rfl⟩
    obtain ⟨v3, hv3⟩ : ∃ c, c = Rec.small (((bytesOf s).drop 24).take 8) := ⟨_, rfl⟩
    obtain ⟨v4, hv4⟩ : ∃ c, c = Rec.small (((bytesOf s).drop 32).take 4) := ⟨_, rfl⟩
    have hlen : ((bytesOf s).map byteV).length = 64 := by simp [bytesOf]; exact H64.out
    have hl64 : (bytesOf s).length = 64 := by simpa using hlen
    have hmk : Rec.markOf s = ⟨c4.toNat, v1, v2, v3, v4⟩ := by unfold Rec.markOf; rw [hc4, hv1, hv2, hv3, hv4]
    have hok := Rec.markOf_ok s
    rw [hmk] at hok
    have hv4lt : v4 < 4294967296 := hok.2.2.2.2
    have HOK := hide hok
    have HMK := hide hmk
    have h4 : ((s[4]'(by rw [H64.out]; decide)).toNat : Int) = (c4.toNat : Int) := by
      have h5 : 4 < s.data.toList.length := by rw [show s.data.toList.length = s.size from rfl, H64.out]; decide
      have h6 : (bytesOf s).getD 4 0 = s[4]'(by rw [H64.out]; decide) := by
        unfold bytesOf
        rw [List.getD, List.getElem?_eq_getElem h5]
        rfl
      rw [hc4, h6]
    have H4 := hide h4
    have HV := hide (And.intro hv1 (And.intro hv2 (And.intro hv3 hv4)))
    have hx : ∀ a n : Nat, a + n ≤ 64 → n ≤ 8 → (s.extract a (a + n)).size ≤ 8 ∧ bytesOf (s.extract a (a + n)) = ((bytesOf s).drop a).take n := fun a n h1 h2 => ⟨by rw [ByteArray.size_extract]; omega, by simp [bytesOf, List.take_drop]⟩
    have HX := hide hx
    clear hc4 hv1 hv2 hv3 hv4 hlen hl64 hmk hok h4 hx
    rename_i hrest
    refine wp_region_local (by kernel_rfl) (by kernel_rfl) (useList refrmarkU) [17, 18] (by kernel_rfl) (spR (refrmarkL w W2 s c4 v1 v2 v3 v4)) (asPre 17 (W2.heap.size)) (Below W2.heap.size W2) (asE 17 18 (W2.heap.size) 5 133) (as_stays (by simp [refrmarkL]) (by decide) rfl (by kernel_rfl)) (as_pre (by kernel_rfl)) as_refl (dsts_lt (N := 32) (by kernel_rfl)) ((Below.refl _ _).drew) (fun i _ => as_start (rfl)) (all_ops ?_) ?_
    · refine And.intro ?_ ?_
      · refine lstep_run fun fr wf left => ?_
        have o0 := (left.old 0 (by kernel_rfl)).trans rfl
        refine ⟨wanted_none rfl, fun K hK => ?_⟩
        have hB := hide left.base
        clear left
        go_simp
        exact hK _ _ rfl hB.out (And.intro (Below.refl _ _) rfl)
      refine And.intro ?_ ?_
      · refine lstep_run fun fr wf left => ?_
        obtain ⟨x0, e0, r0⟩ := left.slot 32 rfl 0 9 _ rfl rfl (by decide) rfl
        have s0 := Eq.symm (show x0 = .string s from r0)
        subst s0
        refine ⟨wanted_none rfl, fun K hK => ?_⟩
        have hB := hide left.base
        clear left
        go_simp
        exact hK _ _ (congrArg (Value.int .u8) H4.out) hB.out (And.intro (Below.refl _ _) rfl)
      refine And.intro ?_ ?_
      · refine lstep_run fun fr wf left => ?_
        obtain ⟨x1, e1, r1⟩ := left.slot 32 rfl 1 10 _ rfl rfl (by decide) rfl
        have s1 := Eq.symm (show x1 = .int .u8 (c4.toNat : Int) from r1)
        subst s1
        refine ⟨wanted_none rfl, fun K hK => ?_⟩
        have hB := hide left.base
        clear left
        go_simp
        exact hK _ _ (congrArg (Value.int .i64) (IntWalk.i64_in _ (by have := c4.toNat_lt; omega))) hB.out (And.intro (Below.refl _ _) rfl)
      refine And.intro ?_ ?_
      · refine lstep_run fun fr wf left => ?_
        have o0 := (left.old 0 (by kernel_rfl)).trans rfl
        refine ⟨wanted_none rfl, fun K hK => ?_⟩
        have hB := hide left.base
        clear left
        go_simp
        exact hK _ _ rfl hB.out (And.intro (Below.refl _ _) rfl)
      refine And.intro ?_ ?_
      · refine lstep_run fun fr wf left => ?_
        obtain ⟨x3, e3, r3⟩ := left.slot 32 rfl 3 12 _ rfl rfl (by decide) rfl
        have s3 := Eq.symm (show x3 = .string s from r3)
        subst s3
        refine ⟨wanted_none rfl, fun K hK => ?_⟩
        have hB := hide left.base
        clear left
        go_simp
        exact hK _ _ rfl hB.out (And.intro (Below.refl _ _) rfl)
      refine And.intro ?_ ?_
      · refine lstep_run fun fr wf left => ?_
        obtain ⟨x4, e4, r4⟩ := left.slot 32 rfl 4 13 _ rfl rfl (by decide) rfl
        have s4 := Eq.symm (show x4 = .string (s.extract 8 (8 + 8)) from r4)
        subst s4
        refine ⟨wanted_none rfl, fun K hK => ?_⟩
        have hB := hide left.base
        clear left
        go_simp
        refine (small_val _ _ v1 wf (HX.out 8 8 (by decide) (by decide)) HV.out.1).mono ?_
        rintro e w' ⟨rfl, rfl⟩
        exact hK _ _ rfl hB.out (And.intro (Below.refl _ _) rfl)
      refine And.intro ?_ ?_
      · refine lstep_run fun fr wf left => ?_
        have o0 := (left.old 0 (by kernel_rfl)).trans rfl
        refine ⟨wanted_none rfl, fun K hK => ?_⟩
        have hB := hide left.base
        clear left
        go_simp
        exact hK _ _ rfl hB.out (And.intro (Below.refl _ _) rfl)
      refine And.intro ?_ ?_
      · refine lstep_run fun fr wf left => ?_
        obtain ⟨x6, e6, r6⟩ := left.slot 32 rfl 6 15 _ rfl rfl (by decide) rfl
        have s6 := Eq.symm (show x6 = .string s from r6)
        subst s6
        refine ⟨wanted_none rfl, fun K hK => ?_⟩
        have hB := hide left.base
        clear left
        go_simp
        exact hK _ _ rfl hB.out (And.intro (Below.refl _ _) rfl)
      refine And.intro ?_ ?_
      · refine lstep_run fun fr wf left => ?_
        obtain ⟨x7, e7, r7⟩ := left.slot 32 rfl 7 16 _ rfl rfl (by decide) rfl
        have s7 := Eq.symm (show x7 = .string (s.extract 16 (16 + 8)) from r7)
        subst s7
        refine ⟨wanted_none rfl, fun K hK => ?_⟩
        have hB := hide left.base
        clear left
        go_simp
        refine (small_val _ _ v2 wf (HX.out 16 8 (by decide) (by decide)) HV.out.2.1).mono ?_
        rintro e w' ⟨rfl, rfl⟩
        exact hK _ _ rfl hB.out (And.intro (Below.refl _ _) rfl)
      refine And.intro ?_ ?_
      · refine lstep_run fun fr wf left => ?_
        have o0 := (left.old 0 (by kernel_rfl)).trans rfl
        refine ⟨wanted_none rfl, fun K hK => ?_⟩
        have hB := hide left.base
        clear left
        go_simp
        exact hK _ _ rfl hB.out (And.intro (Below.refl _ _) rfl)
      refine And.intro ?_ ?_
      · refine lstep_run fun fr wf left => ?_
        obtain ⟨x9, e9, r9⟩ := left.slot 32 rfl 9 18 _ rfl rfl (by decide) rfl
        have s9 := Eq.symm (show x9 = .string s from r9)
        subst s9
        refine ⟨wanted_none rfl, fun K hK => ?_⟩
        have hB := hide left.base
        clear left
        go_simp
        exact hK _ _ rfl hB.out (And.intro (Below.refl _ _) rfl)
      refine And.intro ?_ ?_
      · refine lstep_run fun fr wf left => ?_
        obtain ⟨x10, e10, r10⟩ := left.slot 32 rfl 10 19 _ rfl rfl (by decide) rfl
        have s10 := Eq.symm (show x10 = .string (s.extract 24 (24 + 8)) from r10)
        subst s10
        refine ⟨wanted_none rfl, fun K hK => ?_⟩
        have hB := hide left.base
        clear left
        go_simp
        refine (small_val _ _ v3 wf (HX.out 24 8 (by decide) (by decide)) HV.out.2.2.1).mono ?_
        rintro e w' ⟨rfl, rfl⟩
        exact hK _ _ rfl hB.out (And.intro (Below.refl _ _) rfl)
      refine And.intro ?_ ?_
      · refine lstep_run fun fr wf left => ?_
        have o0 := (left.old 0 (by kernel_rfl)).trans rfl
        refine ⟨wanted_none rfl, fun K hK => ?_⟩
        have hB := hide left.base
        clear left
        go_simp
        exact hK _ _ rfl hB.out (And.intro (Below.refl _ _) rfl)
      refine And.intro ?_ ?_
      · refine lstep_run fun fr wf left => ?_
        obtain ⟨x12, e12, r12⟩ := left.slot 32 rfl 12 21 _ rfl rfl (by decide) rfl
        have s12 := Eq.symm (show x12 = .string s from r12)
        subst s12
        refine ⟨wanted_none rfl, fun K hK => ?_⟩
        have hB := hide left.base
        clear left
        go_simp
        exact hK _ _ rfl hB.out (And.intro (Below.refl _ _) rfl)
      refine And.intro ?_ ?_
      · refine lstep_run fun fr wf left => ?_
        obtain ⟨x13, e13, r13⟩ := left.slot 32 rfl 13 22 _ rfl rfl (by decide) rfl
        have s13 := Eq.symm (show x13 = .string (s.extract 32 (32 + 4)) from r13)
        subst s13
        refine ⟨wanted_none rfl, fun K hK => ?_⟩
        have hB := hide left.base
        clear left
        go_simp
        refine (small_val _ _ v4 wf (HX.out 32 4 (by decide) (by decide)) HV.out.2.2.2).mono ?_
        rintro e w' ⟨rfl, rfl⟩
        exact hK _ _ rfl hB.out (And.intro (Below.refl _ _) rfl)
      refine And.intro ?_ ?_
      · refine lstep_run fun fr wf left => ?_
        obtain ⟨x14, e14, r14⟩ := left.slot 32 rfl 14 23 _ rfl rfl (by decide) rfl
        have s14 := Eq.symm (show x14 = .int .u64 (v4 : Int) from r14)
        subst s14
        refine ⟨wanted_none rfl, fun K hK => ?_⟩
        have hB := hide left.base
        clear left
        go_simp
        exact hK _ _ (congrArg (Value.int .u32) (IntWalk.u32_in _ (by omega))) hB.out (And.intro (Below.refl _ _) rfl)
      refine And.intro ?_ ?_
      · refine lstep_run fun fr wf left => ?_
        obtain ⟨x2, e2, r2⟩ := left.slot 32 rfl 2 11 _ rfl rfl (by decide) rfl
        have s2 := Eq.symm (show x2 = .int .i64 (c4.toNat : Int) from r2)
        subst s2
        obtain ⟨x5, e5, r5⟩ := left.slot 32 rfl 5 14 _ rfl rfl (by decide) rfl
        have s5 := Eq.symm (show x5 = .int .u64 (v1 : Int) from r5)
        subst s5
        obtain ⟨x8, e8, r8⟩ := left.slot 32 rfl 8 17 _ rfl rfl (by decide) rfl
        have s8 := Eq.symm (show x8 = .int .u64 (v2 : Int) from r8)
        subst s8
        obtain ⟨x11, e11, r11⟩ := left.slot 32 rfl 11 20 _ rfl rfl (by decide) rfl
        have s11 := Eq.symm (show x11 = .int .u64 (v3 : Int) from r11)
        subst s11
        obtain ⟨x15, e15, r15⟩ := left.slot 32 rfl 15 24 _ rfl rfl (by decide) rfl
        have s15 := Eq.symm (show x15 = .int .u32 (v4 : Int) from r15)
        subst s15
        refine ⟨wanted_none rfl, fun K hK => ?_⟩
        have hB := hide left.base
        clear left
        go_simp
        exact hK _ _ rfl hB.out (And.intro (Below.refl _ _) rfl)
      refine And.intro ?_ ?_
      · refine lstep_run fun fr wf left => ?_
        refine ⟨wanted_none rfl, fun K hK => ?_⟩
        have hB := hide left.base
        have hp := hide (show wf.heap.size = W2.heap.size from left.pre)
        clear left
        go_simp
        rw [hp.out]
        exact hK _ _ ⟨rfl, _, rfl, by rw [← hp.out]; exact alloc_at _ _⟩ (hB.out.alloc (le_base hB.out) _) (by rw [← hp.out]; exact Below.alloc (Below.refl _ _) (Nat.le_refl _) _)
      refine And.intro ?_ ?_
      · refine lstep_run fun fr wf left => ?_
        obtain ⟨x16, e16, r16⟩ := left.slot 32 rfl 16 25 _ rfl rfl (by decide) rfl
        have s16 := Eq.symm (show x16 = .agg #[.int .i64 (c4.toNat : Int), .int .u64 (v1 : Int), .int .u64 (v2 : Int), .int .u64 (v3 : Int), .int .u32 (v4 : Int)] from r16)
        subst s16
        obtain ⟨x17, e17, r17⟩ := left.slot 32 rfl 17 4 _ rfl rfl (by decide) rfl
        obtain ⟨s17, c17, n17, h17⟩ := (show x17 = .pointer (some ⟨W2.heap.size, 0, none⟩) ∧ ∃ cs : Array Value, cs.size = 5 ∧ wf.heap[W2.heap.size]? = some (.cells cs 133 (0, 0)) from r17)
        subst s17
        refine ⟨wanted_none rfl, fun K hK => ?_⟩
        have hB := hide left.base
        clear left
        refine wp_store_row 133 (.tmp 4) (.tmp 25) rfl (W2.heap.size) #[.int .i64 (c4.toNat : Int), .int .u64 (v1 : Int), .int .u64 (v2 : Int), .int .u64 (v3 : Int), .int .u32 (v4 : Int)] (eval_tmp e17) (eval_tmp e16) 133 c17 h17 (by kernel_rfl) n17 (by simp [Value.oneCell']) ?_
        exact hK _ _ (setRow_heap wf (W2.heap.size) c17 _ 133 (0, 0) h17) (Go.below_setRow hB.out (Nat.le_refl _) _) (as_fill_at rfl h17 rfl)
      exact trivial
    · intro fr wf hB hs hd hall hkeep
      have h5 : fr.tmps.getD 4 undef = .pointer (some ⟨W2.heap.size, 0, none⟩) ∧ ∃ cs : Array Value, cs.size = 5 ∧ wf.heap[W2.heap.size]? = some (.cells cs 133 (0, 0)) := hall 17 _ rfl (by simp)
      have h19 : wf.heap[W2.heap.size]? = some (.cells [.int .i64 (c4.toNat : Int), .int .u64 (v1 : Int), .int .u64 (v2 : Int), .int .u64 (v3 : Int), .int .u32 (v4 : Int)].toArray 133 (0, 0)) := hall 18 _ rfl (by simp)
      have hfr := act_ext (frame_set hs hkeep [9, 10, 11, 12, 13, 14, 15, 16, 17, 18, 19, 20, 21, 22, 23, 24, 25, 4] (by kernel_rfl)) hd
      obtain ⟨q9, hq9⟩ : ∃ q, q = fr.tmps.getD 9 undef := ⟨_, rfl⟩
      obtain ⟨q10, hq10⟩ : ∃ q, q = fr.tmps.getD 10 undef := ⟨_, rfl⟩
      obtain ⟨q11, hq11⟩ : ∃ q, q = fr.tmps.getD 11 undef := ⟨_, rfl⟩
      obtain ⟨q12, hq12⟩ : ∃ q, q = fr.tmps.getD 12 undef := ⟨_, rfl⟩
      obtain ⟨q13, hq13⟩ : ∃ q, q = fr.tmps.getD 13 undef := ⟨_, rfl⟩
      obtain ⟨q14, hq14⟩ : ∃ q, q = fr.tmps.getD 14 undef := ⟨_, rfl⟩
      obtain ⟨q15, hq15⟩ : ∃ q, q = fr.tmps.getD 15 undef := ⟨_, rfl⟩
      obtain ⟨q16, hq16⟩ : ∃ q, q = fr.tmps.getD 16 undef := ⟨_, rfl⟩
      obtain ⟨q17, hq17⟩ : ∃ q, q = fr.tmps.getD 17 undef := ⟨_, rfl⟩
      obtain ⟨q18, hq18⟩ : ∃ q, q = fr.tmps.getD 18 undef := ⟨_, rfl⟩
      obtain ⟨q19, hq19⟩ : ∃ q, q = fr.tmps.getD 19 undef := ⟨_, rfl⟩
      obtain ⟨q20, hq20⟩ : ∃ q, q = fr.tmps.getD 20 undef := ⟨_, rfl⟩
      obtain ⟨q21, hq21⟩ : ∃ q, q = fr.tmps.getD 21 undef := ⟨_, rfl⟩
      obtain ⟨q22, hq22⟩ : ∃ q, q = fr.tmps.getD 22 undef := ⟨_, rfl⟩
      obtain ⟨q23, hq23⟩ : ∃ q, q = fr.tmps.getD 23 undef := ⟨_, rfl⟩
      obtain ⟨q24, hq24⟩ : ∃ q, q = fr.tmps.getD 24 undef := ⟨_, rfl⟩
      obtain ⟨q25, hq25⟩ : ∃ q, q = fr.tmps.getD 25 undef := ⟨_, rfl⟩
      obtain ⟨q4, hq4⟩ : ∃ q, q = fr.tmps.getD 4 undef := ⟨_, rfl⟩
      rw [← hq4] at h5
      simp only [List.foldl, ← hq9, ← hq10, ← hq11, ← hq12, ← hq13, ← hq14, ← hq15, ← hq16, ← hq17, ← hq18, ← hq19, ← hq20, ← hq21, ← hq22, ← hq23, ← hq24, ← hq25, ← hq4] at hfr
      simp only [List.setIfInBounds_toArray, List.set_cons_zero, List.set_cons_succ] at hfr
      clear hall hkeep hs hd hq9 hq10 hq11 hq12 hq13 hq14 hq15 hq16 hq17 hq18 hq19 hq20 hq21 hq22 hq23 hq24 hq25 hq4
      subst hfr
      refine hrest _ _ ?_
      obtain ⟨s5, _⟩ := h5
      subst s5
      have HZ3 := hide ((hB.block w.heap.size HLT2.out).trans HZ2.out)
      have HB3 := hide (HB2.out.trans (hB.mono HB2.out.size))
      have HLT3 := hide (Nat.lt_of_lt_of_le HLT2.out hB.size)
      clear hB
      go_wp2_with (refine wpList_load_row rfl 133 (.tmp 4) rfl W2.heap.size rfl 133 _ (0, 0) _ h19 Tryz.underlying133 rfl (by kernel_rfl) ?_)
      refine (refMark_any ⟨c4.toNat, v1, v2, v3, v4⟩ _ HOK.out).mono ?_
      rintro e w4 ⟨rfl, hb4⟩
      have hz4 := (hb4.block w.heap.size HLT3.out).trans HZ3.out
      have hg4 := (hb4.block W2.heap.size (heap_lt h19)).trans h19
      have HB4 := hide (below_next HB3.out hb4)
      clear hb4 h19
      obtain ⟨Y, hY⟩ : ∃ Y, Y = Rec.markB ⟨c4.toNat, v1, v2, v3, v4⟩ := ⟨_, rfl⟩
      rw [← hY]
      have HY := hide hY
      clear hY
      obtain ⟨b, hbq⟩ : ∃ b, (Y.toList == s.toList) = b := ⟨_, rfl⟩
      cases b with
      | true =>
        go_wp2_with (first | refine wpList_load_row rfl 133 (.tmp 4) rfl W2.heap.size rfl 133 _ (0, 0) _ hg4 Tryz.underlying133 rfl (by kernel_rfl) ?_ | refine wpList_store_row rfl 133 (.tmp 2) (.tmp 31) rfl w.heap.size _ rfl rfl 133 _ hz4 (by kernel_rfl) rfl (by simp [Value.oneCell']) ?_)
        refine bodyPost_ret (results_row_tmp rfl _ _ w.heap.size 133 _ (0, 0) _ rfl (setRow_heap w4 _ _ _ _ (0, 0) hz4) Tryz.underlying133 rfl (by kernel_rfl)) rfl ⟨?_, Go.below_setRow HB4.out (Nat.le_refl _) _⟩
        rw [HR.out]; unfold Rec.readMarkV Rec.readMarkB; rw [if_pos H64.out, HMK.out, ← HY.out, hbq]; rfl
      | false =>
        go_wp2_with (refine wpList_store_row rfl 133 (.tmp 2) (.tmp 30) rfl w.heap.size _ rfl rfl 133 _ hz4 (by kernel_rfl) rfl (by simp [Value.oneCell']) ?_)
        refine bodyPost_ret (results_row_tmp rfl _ _ w.heap.size 133 _ (0, 0) _ rfl (setRow_heap w4 _ _ _ _ (0, 0) hz4) Tryz.underlying133 rfl (by kernel_rfl)) rfl ⟨?_, Go.below_setRow HB4.out (Nat.le_refl _) _⟩
        rw [HR.out]; unfold Rec.readMarkV Rec.readMarkB; rw [if_pos H64.out, HMK.out, ← HY.out, hbq]; rfl
  · have h64i : ¬ (s.size : Int) = 64 := by omega
    go_wp2_with fail
    refine bodyPost_ret (results_row_tmp rfl _ _ w.heap.size 133 _ (0, 0) _ rfl (heap_alloc_new _ _) Tryz.underlying133 rfl (by kernel_rfl)) rfl ⟨?_, (Below.refl _ _).alloc (Nat.le_refl _) _⟩
    rw [HR.out]; unfold Rec.readMarkV Rec.readMarkB; rw [if_neg h64]; rfl
end Go.Proofs.YtbfbajfdlkgloaaGreatDoor
