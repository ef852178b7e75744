/-
  massifref18's Node, ReadNode, ReadPayload: the walks.
-/
import Derived.Test.YtbfbajfdlkgloaaGreatDoorG15
import Derived.Test.YtbfbajfdlkgloaaGreatDoorG14
import Derived.Deep.CutRange

namespace Go.Proofs.YtbfbajfdlkgloaaGreatDoor
open Go.RowKit
set_option maxHeartbeats 1600000 in
set_option maxRecDepth 100000 in
theorem refNode_any (p : Nat) (d : ByteArray) (w : World) (hp : p < 18446744073709551616) (hd : d.size ≤ 140737488351232) :
    Calls Tryz.prog 119 #[.int .u64 (p : Int), .string d] w fun e w' => e = .returned (.string (Rec.nodeB p d)) ∧ Below w.heap.size w w' := by
  go_enter Tryz.func119, Tryz.ntmps119
  by_cases h32 : 32 < d.size
  · go_wp2_with fail
    go_ret
    refine ⟨?_, Below.refl _ _⟩
    unfold Rec.nodeB
    rw [if_pos h32]; rfl
  · obtain ⟨z, hz⟩ : ∃ z : Nat, z = 32 - d.size := ⟨_, rfl⟩
    have hzi : (32 : Int) - (d.size : Int) = (z : Int) := by omega
    have hz32 : z ≤ 32 := by omega
    have HZ := hide hz
    clear hz
    obtain ⟨Z, hZ⟩ : ∃ D, D = Rec.zeroB z := ⟨_, rfl⟩
    obtain ⟨N4, hN4⟩ : ∃ D, D = Rec.numB p 4 := ⟨_, rfl⟩
    have hZs : Z.size = z := by rw [hZ, Rec.zeroB_size]
    have hNs : N4.size = 4 := by rw [hN4, Rec.numB_size]
    obtain ⟨X, hX⟩ : ∃ X, X = Rec.sealB (d ++ Z ++ N4) := ⟨_, rfl⟩
    have HD := hide (And.intro hZ (And.intro hN4 hX))
    have hsum1 : d.size + Z.size ≤ 9223372036854775807 := by omega
    have hsum2 : (d ++ Z).size + N4.size ≤ 9223372036854775807 := by rw [ByteArray.size_append]; omega
    have hsum3 : (d ++ Z ++ N4).size ≤ 4611686018427387904 := by rw [ByteArray.size_append, ByteArray.size_append]; omega
    have HS := hide hsum3
    clear hZ hN4 hX hsum3
    go_wp2_with fail
    refine (zeros_val z Z _ (by omega) HD.out.1).mono ?_
    rintro e w1 ⟨rfl, hb1⟩
    have HB1 := hide hb1
    clear hb1
    go_wp2_with fail
    refine (big_val p 4 N4 _ hp (by decide) HD.out.2.1).mono ?_
    rintro e w2 ⟨rfl, hb2⟩
    have HB2 := hide (below_next HB1.out hb2)
    clear hb2
    go_wp2_with fail
    refine (summed_val (d ++ Z ++ N4) X _ HS.out HD.out.2.2).mono ?_
    rintro e w3 ⟨rfl, hb3⟩
    have HB3 := hide (below_next HB2.out hb3)
    clear hb3
    go_wp2_with fail
    go_ret
    refine ⟨?_, HB3.out⟩
    rw [HD.out.2.2, HD.out.1, HD.out.2.1]
    unfold Rec.nodeB
    rw [if_neg h32, ← HZ.out]; rfl
theorem refPay_val (s t : ByteArray) (w : World) (hs : s.size ≤ 140737488351232) (ht : t = Rec.payB s) : Calls Tryz.prog 117 #[.string s] w fun e w' => e = .returned (.string t) ∧ Below w.heap.size w w' := by
  rw [ht]; exact refPayload_any s w hs
theorem beq_lists (x y : ByteArray) : (x.toList == y.toList) = decide (x = y) := Rec.beqB x y
set_option maxHeartbeats 1600000 in
set_option maxRecDepth 100000 in
theorem refReadNode_any (k : Int) (p : Nat) (s : ByteArray) (w : World) (_hk : (Lit.int .i64 k).wf = true) (hp : p < 18446744073709551616) (hs : s.size ≤ 140737488351232) :
    Calls Tryz.prog 82 #[.int .i64 k, .int .u64 (p : Int), .string s] w fun e w' => e = .returned (Rec.readNodeV k p s) ∧ Below w.heap.size w w' := by
  obtain ⟨r, hr⟩ : ∃ r, r = Rec.readNodeV k p s := ⟨_, rfl⟩
  rw [← hr]
  have HR := hide hr
  clear hr
  go_enter Tryz.func82, Tryz.ntmps82
  by_cases hk1 : k < 1
  · go_wp2_with fail
    go_ret2
    refine ⟨?_, Below.refl _ _⟩
    rw [HR.out]; unfold Rec.readNodeV; rw [if_pos (.inl hk1)]; rfl
  by_cases hk2 : 32 < k
  · go_wp2_with fail
    go_ret2
    refine ⟨?_, Below.refl _ _⟩
    rw [HR.out]; unfold Rec.readNodeV; rw [if_pos (.inr hk2)]; rfl
  obtain ⟨kn, rfl⟩ : ∃ kn : Nat, k = kn := ⟨k.toNat, by omega⟩
  by_cases h40 : s.size = 40
  · have h40i : (s.size : Int) = 40 := by omega
    have HZ := hide h40
    have hkl : (kn : Int) ≤ (s.size : Int) := by omega
    obtain ⟨Y, hY⟩ : ∃ Y, Y = Rec.nodeB p (s.extract 0 kn) := ⟨_, rfl⟩
    have HY := hide hY
    obtain ⟨b, hb⟩ : ∃ b, Rec.nodeOk kn p s = b := ⟨_, rfl⟩
    have hsb : (s.toList == Y.toList) = b := by
      rw [beq_lists, hY, ← hb, Bool.eq_iff_iff, decide_eq_true_iff]
      exact Rec.node_eq s kn p (by omega) h40
    have HBQ := hide hb
    clear h40 hY hb
    go_wp2_with fail
    refine (refNode_any p (s.extract 0 kn) _ hp (by rw [ByteArray.size_extract]; have := HZ.out; omega)).mono ?_
    rw [← HY.out]
    rintro e w1 ⟨rfl, hb1⟩
    have HB1 := hide hb1
    clear hb1
    cases b with
    | false =>
      go_wp2_with fail
      go_ret2
      refine ⟨?_, HB1.out⟩
      rw [HR.out]; unfold Rec.readNodeV; rw [if_neg (by omega), if_neg]
      · rfl
      · rw [show ((kn : Int)).toNat = kn from rfl, HBQ.out]; simp
    | true =>
      go_wp2_with fail
      go_ret2
      refine ⟨?_, HB1.out⟩
      rw [HR.out]; unfold Rec.readNodeV; rw [if_neg (by omega), if_pos]
      · have hx : (⟨((bytesOf s).take kn).toArray⟩ : ByteArray) = s.extract 0 kn := by
          apply Rec.bytes_inj
          rw [Rec.bytes_extract, List.drop_zero]
          simp [bytesOf]
        rw [show ((kn : Int)).toNat = kn from rfl, hx]; rfl
      · exact HBQ.out
  · have h40i : ¬ (s.size : Int) = 40 := by omega
    go_wp2_with fail
    go_ret2
    refine ⟨?_, Below.refl _ _⟩
    rw [HR.out]; unfold Rec.readNodeV; rw [if_neg (by omega), if_neg]
    · rfl
    · unfold Rec.nodeOk; simp [h40]
def refpayL (s : ByteArray) (k : Nat) (X Y V : ByteArray) (b : Bool) : List Sp :=
  [.is (.string s), .is (.int .u64 (k : Int)), .is (.int .u64 ((k : Int) + 8)), .is (.string V), .is (.string X), .is (.string Y), .is (.bool (!b))]
def refpayU : List (List Nat) := [[], [], [1], [0, 2], [], [4], [3, 5]]
set_option maxHeartbeats 1600000 in
set_option maxRecDepth 100000 in
theorem refReadPayload_any (s : ByteArray) (w : World) (hs : s.size ≤ 140737488351232) :
    Calls Tryz.prog 79 #[.string s] w fun e w' => e = .returned (Rec.payV (Rec.readPayB s)) ∧ Below w.heap.size w w' := by
  obtain ⟨r, hr⟩ : ∃ r, r = Rec.readPayB s := ⟨_, rfl⟩
  rw [← hr]
  have HR := hide hr
  clear hr
  go_enter Tryz.func79, Tryz.ntmps79
  by_cases h4 : s.size < 4
  · go_wp2_with fail
    go_ret3
    refine ⟨?_, Below.refl _ _⟩
    rw [HR.out]; unfold Rec.readPayB; rw [if_pos h4]; rfl
  · obtain ⟨k, hk⟩ : ∃ k, k = Rec.small (bytesOf (s.extract 0 4)) := ⟨_, rfl⟩
    have hklt : k < 4294967296 := by
      rw [hk]
      have h1 := Rec.small_lt (bytesOf (s.extract 0 4))
      have h2 : (bytesOf (s.extract 0 4)).length = 4 := by show (s.extract 0 4).data.toList.length = 4; simp; omega
      rw [h2] at h1
      exact h1
    have HK := hide hk
    clear hk
    have h4' : 4 ≤ s.size := by omega
    go_wp2_with fail
    refine (small_any (s.extract 0 4) _ (by rw [ByteArray.size_extract]; omega)).mono ?_
    rw [← HK.out]
    rintro e w1 ⟨rfl, rfl⟩
    by_cases hbig : 1048576 < k ∨ s.size < k + 8
    · have hbi : 1048576 < (k : Int) ∨ (s.size : Int) < (k : Int) + 8 := by omega
      rcases hbi with hbi | hbi
      · go_wp2_with fail
        go_ret3
        refine ⟨?_, Below.refl _ _⟩
        rw [HR.out]; unfold Rec.readPayB
        rw [if_neg h4, ← HK.out, if_pos hbig]; rfl
      · go_wp2_with fail
        all_goals go_ret3
        all_goals refine ⟨?_, Below.refl _ _⟩
        all_goals rw [HR.out]; unfold Rec.readPayB
        all_goals rw [if_neg h4, ← HK.out, if_pos hbig]; rfl
    · have q1 : (k : Int) ≤ 1048576 := by omega
      have q2 : (k : Int) + 8 ≤ (s.size : Int) := by omega
      have hsl := fun w => run_slice_string (P := Tryz.prog) w 9 s .i64 .u64 4 ((k : Int) + 4) Tryz.underlying9 (by omega) (by omega) (by omega)
      have hsl2 := fun w => run_slice_string (P := Tryz.prog) w 9 s .i64 .u64 4 (4 + (k : Int)) Tryz.underlying9 (by omega) (by omega) (by omega)
      go_wp2_with fail
      have hpe : ((s.extract 0 (k + 8)).toList == (Rec.payB (s.extract 4 (4 + k))).toList) = Rec.wholeB (s.extract 0 (k + 8)) := by
        rw [beq_lists, Bool.eq_iff_iff, decide_eq_true_iff]
        exact Rec.pay_eq s k HK.out (by omega) (by omega)
      obtain ⟨X, hX⟩ : ∃ X, X = s.extract 4 (4 + k) := ⟨_, rfl⟩
      obtain ⟨Y, hY⟩ : ∃ Y, Y = Rec.payB X := ⟨_, rfl⟩
      obtain ⟨V, hV⟩ : ∃ V, V = s.extract 0 (k + 8) := ⟨_, rfl⟩
      rw [← hX, ← hY, ← hV] at hpe
      obtain ⟨b, hb⟩ : ∃ b, b = Rec.wholeB V := ⟨_, rfl⟩
      rw [← hb] at hpe
      have HP := hide (And.intro hpe (And.intro hX (And.intro hY (And.intro hV hb))))
      have hXs : X.size ≤ 140737488351232 := by rw [hX, ByteArray.size_extract]; omega
      rw [← hX]
      clear hpe hX hY hV hb hsl hsl2
      rename_i hrest
      refine wp_region_local (by kernel_rfl) (by kernel_rfl) (useList refpayU) [6] (by kernel_rfl) (spR (refpayL s k X Y V b)) (fun _ _ => True) (Below w1.heap.size w1) (fun _ w w' => Below w.heap.size w w') spR_stays (fun _ _ _ _ _ h _ => h) (fun _ _ => Below.refl _ _) (dsts_lt (N := 38) (by kernel_rfl)) ((Below.refl _ _).drew) (fun _ _ => trivial) (all_ops ?_) ?_
      · refine And.intro ?_ ?_
        · refine lstep_run fun fr wf left => ?_
          have o0 := (left.old 0 (by kernel_rfl)).trans rfl
          refine ⟨wanted_none rfl, fun K hK => ?_⟩
          have hB := hide left.base
          clear left
          go_simp
          exact hK _ _ rfl hB.out (Below.refl _ _)
        refine And.intro ?_ ?_
        · refine lstep_run fun fr wf left => ?_
          have o5 := (left.old 5 (by kernel_rfl)).trans rfl
          refine ⟨wanted_none rfl, fun K hK => ?_⟩
          have hB := hide left.base
          clear left
          go_simp
          exact hK _ _ rfl hB.out (Below.refl _ _)
        refine And.intro ?_ ?_
        · refine lstep_run fun fr wf left => ?_
          obtain ⟨x1, e1, r1⟩ := left.slot 38 rfl 1 28 _ rfl rfl (by decide) rfl
          have s1 := Eq.symm (show x1 = .int .u64 (k : Int) from r1)
          subst s1
          refine ⟨wanted_none rfl, fun K hK => ?_⟩
          have hB := hide left.base
          clear left
          go_simp
          exact hK _ _ (congrArg (Value.int .u64) (IntWalk.u64_in _ (by omega))) hB.out (Below.refl _ _)
        refine And.intro ?_ ?_
        · refine lstep_run fun fr wf left => ?_
          obtain ⟨x0, e0, r0⟩ := left.slot 38 rfl 0 27 _ rfl rfl (by decide) rfl
          have s0 := Eq.symm (show x0 = .string s from r0)
          subst s0
          obtain ⟨x2, e2, r2⟩ := left.slot 38 rfl 2 29 _ rfl rfl (by decide) rfl
          have s2 := Eq.symm (show x2 = .int .u64 ((k : Int) + 8) from r2)
          subst s2
          refine ⟨wanted_none rfl, fun K hK => ?_⟩
          have hB := hide left.base
          clear left
          go_simp
          go_step
          exact hK _ _ (congrArg Value.string (Eq.trans (by congr 1) HP.out.2.2.2.1.symm)) hB.out (Below.refl _ _)
        refine And.intro ?_ ?_
        · refine lstep_run fun fr wf left => ?_
          have o6 := (left.old 6 (by kernel_rfl)).trans rfl
          refine ⟨wanted_none rfl, fun K hK => ?_⟩
          have hB := hide left.base
          clear left
          go_simp
          exact hK _ _ rfl hB.out (Below.refl _ _)
        refine And.intro ?_ ?_
        · refine lstep_run fun fr wf left => ?_
          obtain ⟨x4, e4, r4⟩ := left.slot 38 rfl 4 31 _ rfl rfl (by decide) rfl
          have s4 := Eq.symm (show x4 = .string X from r4)
          subst s4
          refine ⟨wanted_none rfl, fun K hK => ?_⟩
          have hB := hide left.base
          clear left
          go_simp
          refine (refPay_val X Y _ hXs HP.out.2.2.1).mono ?_
          rintro e w' ⟨rfl, hb⟩
          exact hK _ _ rfl (hB.out.trans (hb.mono (le_base hB.out))) hb
        refine And.intro ?_ ?_
        · refine lstep_run fun fr wf left => ?_
          obtain ⟨x3, e3, r3⟩ := left.slot 38 rfl 3 30 _ rfl rfl (by decide) rfl
          have s3 := Eq.symm (show x3 = .string V from r3)
          subst s3
          obtain ⟨x5, e5, r5⟩ := left.slot 38 rfl 5 32 _ rfl rfl (by decide) rfl
          have s5 := Eq.symm (show x5 = .string Y from r5)
          subst s5
          refine ⟨wanted_none rfl, fun K hK => ?_⟩
          have hB := hide left.base
          clear left
          go_simp
          exact hK _ _ (congrArg Value.bool (congrArg (! ·) HP.out.1)) hB.out (Below.refl _ _)
        exact trivial
      · intro fr wf hB hs hd hall hkeep
        have h33 : fr.tmps.getD 33 undef = .bool (!b) := hall 6 _ rfl (by simp)
        have hfr := act_ext (frame_set hs hkeep [27, 28, 29, 30, 31, 32, 33] (by kernel_rfl)) hd
        obtain ⟨q27, hq27⟩ : ∃ q, q = fr.tmps.getD 27 undef := ⟨_, rfl⟩
        obtain ⟨q28, hq28⟩ : ∃ q, q = fr.tmps.getD 28 undef := ⟨_, rfl⟩
        obtain ⟨q29, hq29⟩ : ∃ q, q = fr.tmps.getD 29 undef := ⟨_, rfl⟩
        obtain ⟨q30, hq30⟩ : ∃ q, q = fr.tmps.getD 30 undef := ⟨_, rfl⟩
        obtain ⟨q31, hq31⟩ : ∃ q, q = fr.tmps.getD 31 undef := ⟨_, rfl⟩
        obtain ⟨q32, hq32⟩ : ∃ q, q = fr.tmps.getD 32 undef := ⟨_, rfl⟩
        obtain ⟨q33, hq33⟩ : ∃ q, q = fr.tmps.getD 33 undef := ⟨_, rfl⟩
        rw [← hq33] at h33
        simp only [List.foldl, ← hq27, ← hq28, ← hq29, ← hq30, ← hq31, ← hq32, ← hq33] at hfr
        simp only [List.setIfInBounds_toArray, List.set_cons_zero, List.set_cons_succ] at hfr
        clear hall hkeep hs hd hq27 hq28 hq29 hq30 hq31 hq32 hq33
        subst hfr
        refine hrest _ _ ?_
        have HB2 := hide hB
        clear hB
        subst h33
        cases b with
        | false =>
          go_wp2_with fail
          go_ret3
          refine ⟨?_, HB2.out⟩
          rw [HR.out]; unfold Rec.readPayB
          rw [if_neg h4, ← HK.out, if_neg (by omega), ← HP.out.2.2.2.1, ← HP.out.2.2.2.2]; rfl
        | true =>
          go_wp2_with fail
          go_ret3
          refine ⟨?_, HB2.out⟩
          rw [HR.out]; unfold Rec.readPayB
          rw [if_neg h4, ← HK.out, if_neg (by omega), ← HP.out.2.2.2.1, ← HP.out.2.2.2.2, show k + 4 = 4 + k by omega, ← HP.out.2.1]; rfl
end Go.Proofs.YtbfbajfdlkgloaaGreatDoor

/-
  massiflaw18.fixed: the records that the document gives: the walk.
-/
namespace Go.Proofs.YtbfbajfdlkgloaaGreatDoor
open Go.RowKit
theorem pay_val (s t : ByteArray) (w : World) (hs : s.size ≤ 140737488351232) (ht : t = Rec.payB s) : Calls Tryz.prog 59 #[.string s] w fun e w' => e = .returned (.string t) ∧ Below w.heap.size w w' := by
  rw [ht]; exact payload_any s w hs
theorem readPay_val (s : ByteArray) (r : Value) (w : World) (hs : s.size ≤ 4611686018427387904) (hr : Rec.payV (Rec.readPayB s) = r) : Calls Tryz.prog 75 #[.string s] w fun e w' => e = .returned r ∧ Below w.heap.size w w' := by
  rw [← hr]; exact readPayload_any s w hs
theorem node_val (p : Nat) (d t : ByteArray) (w : World) (hp : p < 18446744073709551616) (hd : d.size ≤ 140737488351232) (ht : t = Rec.nodeB p d) : Calls Tryz.prog 60 #[.int .u64 (p : Int), .string d] w fun e w' => e = .returned (.string t) ∧ Below w.heap.size w w' := by
  rw [ht]; exact node_any p d w hp hd
theorem readNode_val (k : Int) (p : Nat) (s : ByteArray) (r : Value) (w : World) (hk : (Lit.int .i64 k).wf = true) (hp : p < 18446744073709551616) (hs : s.size ≤ 140737488351232) (hr : Rec.readNodeV k p s = r) :
    Calls Tryz.prog 80 #[.int .i64 k, .int .u64 (p : Int), .string s] w fun e w' => e = .returned r ∧ Below w.heap.size w w' := by
  rw [← hr]; exact readNode_any k p s w hk hp hs
theorem mark_val (m : Rec.Mk) (t : ByteArray) (w : World) (hm : m.ok) (ht : t = Rec.markB m) : Calls Tryz.prog 63 #[.agg m.cells] w fun e w' => e = .returned (.string t) ∧ Below w.heap.size w w' := by
  rw [ht]; exact mark_any m w hm
theorem readMark_val (s : ByteArray) (r : Value) (w : World) (hs : s.size ≤ 140737488351232) (hr : Rec.readMarkV s = r) : Calls Tryz.prog 97 #[.string s] w fun e w' => e = .returned r ∧ Below w.heap.size w w' := by
  rw [← hr]; exact readMark_any s w hs
namespace Rec
theorem fix1 : (⟨#[0, 0, 0, 0, 72, 103, 75, 199]⟩ : ByteArray) = payB ⟨#[]⟩ := by decide +kernel
theorem fix2 : readPayB ⟨#[0, 0, 0, 0, 72, 103, 75, 199, 122]⟩ = some (⟨#[]⟩, 8) := by decide +kernel
theorem fix3 : (nodeB 5 ⟨#[120]⟩).size = 40 := by decide +kernel
theorem fix4 : nodeOk 1 5 (nodeB 5 ⟨#[120]⟩) = true ∧ (⟨((bytesOf (nodeB 5 ⟨#[120]⟩)).take 1).toArray⟩ : ByteArray) = ⟨#[120]⟩ := by decide +kernel
theorem fix5 : nodeOk 1 6 (nodeB 5 ⟨#[120]⟩) = false := by decide +kernel
theorem fix6 : (markB ⟨3, 7, 0, 0, 0⟩).size = 64 ∧ (markB (markOf (markB ⟨3, 7, 0, 0, 0⟩))) = markB ⟨3, 7, 0, 0, 0⟩ ∧ (markOf (markB ⟨3, 7, 0, 0, 0⟩)).k = 3 ∧ (markOf (markB ⟨3, 7, 0, 0, 0⟩)).size = 7 := by decide +kernel
end Rec
theorem fixNode : ∀ D, D = Rec.nodeB 5 ⟨#[120]⟩ → Rec.readNodeV 1 5 D = .tuple #[.string ⟨#[120]⟩, .int .i64 0] ∧ Rec.readNodeV 1 6 D = .tuple #[.string ⟨#[]⟩, .int .i64 180] := by
  intro D hD
  rw [hD]
  unfold Rec.readNodeV
  rw [show ((1 : Int)).toNat = 1 from rfl, if_neg (by decide), if_pos Rec.fix4.1, Rec.fix4.2, if_neg (by decide), if_neg (by rw [Rec.fix5]; decide)]
  exact ⟨rfl, rfl⟩
theorem fixMark : ∀ D, D = Rec.markB ⟨3, 7, 0, 0, 0⟩ → ∃ a b c : Int, Rec.readMarkV D = .tuple #[.agg #[.int .i64 3, .int .u64 7, .int .u64 a, .int .u64 b, .int .u32 c], .int .i64 0] := by
  intro D hD
  rw [hD]
  obtain ⟨h1, h2, h3, h4⟩ := Rec.fix6
  refine ⟨((Rec.markOf (Rec.markB ⟨3, 7, 0, 0, 0⟩)).items : Int), ((Rec.markOf (Rec.markB ⟨3, 7, 0, 0, 0⟩)).nodes : Int), ((Rec.markOf (Rec.markB ⟨3, 7, 0, 0, 0⟩)).chain : Int), ?_⟩
  unfold Rec.readMarkV Rec.readMarkB
  rw [if_pos h1, if_pos (by rw [Rec.beqB, h2]; simp)]
  unfold Rec.mkV Rec.Mk.cells
  simp only [h3, h4]
  rfl
end Go.Proofs.YtbfbajfdlkgloaaGreatDoor

/-
  The chain of package record and that of massifref18: the sum of the number ahead, the payload's record and the nodes' records.
-/
namespace Go.Proofs.YtbfbajfdlkgloaaGreatDoor
open Go.RowKit
namespace Rec
theorem fold_app (x : BitVec 32) (a b : List UInt8) : Crc.fold x (a ++ b) = Crc.fold (Crc.fold x a) b := List.foldl_append
theorem more_app (c : BitVec 32) (a b : List UInt8) : Crc.more c (a ++ b) = Crc.more (Crc.more c a) b := by
  unfold Crc.more; rw [fold_app, BitVec.not_not]
def catB (s : ByteArray) (xs : List ByteArray) : ByteArray := xs.foldl (· ++ ·) s
def chainB (c : Nat) (item : ByteArray) (xs : List ByteArray) : Nat := sumB (catB (numB c 4 ++ item) xs)
def sizes (xs : List ByteArray) : Nat := (xs.map ByteArray.size).sum
theorem catB_take (s : ByteArray) (xs : List ByteArray) (j : Nat) (x : ByteArray) (hj : j < xs.length) (hx : x = xs.getD j ByteArray.empty) : catB s (xs.take (j + 1)) = catB s (xs.take j) ++ x := by
  have hq : x = xs[j] := by rw [hx]; simp [List.getD, hj]
  rw [List.take_succ_eq_append_getElem hj, ← hq]
  unfold catB
  rw [List.foldl_append]; rfl
theorem catB_size : ∀ (xs : List ByteArray) (s : ByteArray), (catB s xs).size = s.size + sizes xs
  | [], s => by simp [catB, sizes]
  | x :: xs, s => by
    have h := catB_size xs (s ++ x)
    unfold catB sizes at h ⊢
    rw [List.foldl_cons, h, ByteArray.size_append, List.map_cons, List.sum_cons]; omega
theorem sizes_take (xs : List ByteArray) (j : Nat) : sizes (xs.take j) ≤ sizes xs := by
  have h : sizes xs = sizes (xs.take j) + sizes (xs.drop j) := by
    unfold sizes
    rw [← List.sum_append, ← List.map_append, List.take_append_drop]
  omega
theorem size_le_sizes {xs : List ByteArray} {x : ByteArray} (h : x ∈ xs) : x.size ≤ sizes xs := by
  induction xs with
  | nil => cases h
  | cons y ys ih =>
    have e : sizes (y :: ys) = y.size + sizes ys := by simp [sizes]
    rw [e]
    rcases List.mem_cons.1 h with rfl | h
    · omega
    · have := ih h; omega
theorem sum_more (s x : ByteArray) (b : BitVec 32) (hb : b = Crc.more 0#32 s.data.toList) : Crc.more b x.data.toList = Crc.more 0#32 (s ++ x).data.toList := by
  rw [hb, ← more_app]; simp
end Rec
theorem more_sum (a x t : ByteArray) (n : Nat) (w : World) (ha : n = Rec.sumB a) (hs : x.size ≤ 9223372036854775807) (ht : t = a ++ x) :
    Calls Tryz.prog 102 #[.int .u32 (n : Int), .string x] w fun e w' => e = .returned (.int .u32 (Rec.sumB t : Int)) ∧ Below w.heap.size w w' := by
  subst ha; subst ht
  have h := more_any (Crc.more 0#32 a.data.toList) x w hs
  rw [Rec.sum_more a x _ rfl] at h
  exact h
theorem of_two (v : Value) (s x : ByteArray) (w : World) (hv : SlV w v [.string s, .string x]) (hs : s.size ≤ 9223372036854775807) (hx : x.size ≤ 9223372036854775807) :
    Calls Tryz.prog 101 #[v] w fun e w' => e = .returned (.int .u32 (Rec.sumB (s ++ x) : Int)) ∧ Below w.heap.size w w' := by
  have h := of_any v [s, x] w hv (by simp) (by intro p hp; rcases List.mem_cons.1 hp with rfl | hp; exact hs; rw [List.mem_singleton.1 hp]; exact hx)
  have e : Crc.ofParts 0#32 ([s, x].map bytesOf) = Crc.more 0#32 (s ++ x).data.toList := by
    rw [← Rec.sum_more s x _ rfl]; rfl
  rw [e] at h
  exact h
set_option maxHeartbeats 1600000 in
set_option maxRecDepth 100000 in
theorem chain_any (c : Nat) (item : ByteArray) (v : Value) (xs : List ByteArray) (w : World) (hc : c < 4294967296) (hi : item.size ≤ 140737488351232) (hv : SlV w v (xs.map Value.string)) (hn : xs.length ≤ 140737488351232) (hxs : Rec.sizes xs ≤ 140737488351232) :
    Calls Tryz.prog 62 #[.int .u32 (c : Int), .string item, v] w fun e w' => e = .returned (.int .u32 (Rec.chainB c item xs : Int)) ∧ Below w.heap.size w w' := by
  obtain ⟨len, a, cap, hlen, rfl, _, HC⟩ := hv.form
  rw [List.length_map] at hlen
  have HL := hide hlen
  have HV := hide hv
  have HCC := hide HC
  have HXS := hide hxs
  have hl : len ≤ 140737488351232 := by rw [hlen]; exact hn
  clear hv hlen HC hn hxs
  obtain ⟨m, hm⟩ : ∃ m, m = Rec.numB c 4 := ⟨_, rfl⟩
  have hms : m.size = 4 := by rw [hm, Rec.numB_size]
  have HM := hide hm
  clear hm
  obtain ⟨n0, hn0⟩ : ∃ n, n = Rec.sumB (m ++ item) := ⟨_, rfl⟩
  have HN0 := hide hn0
  clear hn0
  go_enter Tryz.func62, Tryz.ntmps62
  go_wp2_with fail
  refine (number_any c 4 _ (by omega) (by omega)).mono ?_
  rw [← HM.out]
  rintro e w1 ⟨rfl, hb1⟩
  have HB1 := hide (below_next (Below.refl _ w) hb1)
  clear hb1
  go_wp2_with fail
  refine (of_two _ m item _ (slv_new _ _ _ _ rfl) (by omega) (by omega)).mono ?_
  rw [← HN0.out]
  rintro e w2 ⟨rfl, hb2⟩
  have HB2 := hide (below_new HB1.out _ hb2)
  clear hb2
  go_wp2_with fail
  go_loopg [7, 18] len (fun g v7 v18 wr => ∃ (j n : Nat), j ≤ len ∧ g = len - j ∧ v18 = .int .i64 j ∧ v7 = .int .u32 (n : Int) ∧ Hid (n = Rec.sumB (Rec.catB (m ++ item) (xs.take j)) ∧ Below w.heap.size w wr))
  case atStart => exact ⟨0, n0, by omega, rfl, rfl, rfl, HN0.out, HB2.out⟩
  case round =>
    obtain ⟨j, n, hj, rfl, rfl, rfl, HR⟩ := hrel
    by_cases hlt : j < len
    · obtain ⟨b, off, rfl, hbw, hcell⟩ := HCC.out j hlt
      have hjl : j < xs.length := by rw [← HL.out]; exact hlt
      have hcell : wr.cell? ⟨b, off + j, none⟩ = some (.string (xs.getD j ByteArray.empty)) := by rw [HR.out.2.cell (p := ⟨b, off + j, none⟩) hbw, hcell, getD_map _ _ _ _ hjl]
      obtain ⟨s, hsk⟩ : ∃ s, s = xs.getD j ByteArray.empty := ⟨_, rfl⟩
      rw [← hsk] at hcell
      have hss : s.size ≤ 9223372036854775807 := by
        have h1 := Rec.size_le_sizes (x := s) (xs := xs) (by rw [hsk]; simp [List.getD, hjl])
        have := HXS.out
        omega
      have HS := hide (Rec.catB_take (m ++ item) xs j s hjl hsk)
      clear hsk hjl
      go_wp2_with fail
      refine (more_sum (Rec.catB (m ++ item) (xs.take j)) s _ n _ HR.out.1 hss HS.out).mono ?_
      rintro e w3 ⟨rfl, hb3⟩
      have HB3 := hide (below_next HR.out.2 hb3)
      clear hb3
      go_wp2_with fail
      go_roundg (len - (j + 1))
      case measure => omega
      case rel => exact ⟨j + 1, _, by omega, rfl, by go_num, rfl, rfl, HB3.out⟩
    · have hj' : j = len := by omega
      have HJ := hide hj'
      clear hj'
      go_wp2_with fail
      go_ret
      refine ⟨congrArg (fun k : Nat => Ending.returned (.int .u32 (k : Int))) ?_, HR.out.2⟩
      rw [HR.out.1, HJ.out, HL.out, List.take_length]
      unfold Rec.chainB
      rw [HM.out]
set_option maxHeartbeats 1600000 in
set_option maxRecDepth 100000 in
theorem refChain_any (c : Nat) (item : ByteArray) (v : Value) (xs : List ByteArray) (w : World) (hc : c < 4294967296) (hi : item.size ≤ 140737488351232) (hv : SlV w v (xs.map Value.string)) (hn : xs.length ≤ 140737488351232) (hxs : Rec.sizes xs ≤ 140737488351232) :
    Calls Tryz.prog 140 #[.int .u32 (c : Int), .string item, v] w fun e w' => e = .returned (.int .u32 (Rec.chainB c item xs : Int)) ∧ Below w.heap.size w w' := by
  obtain ⟨len, a, cap, hlen, rfl, _, HC⟩ := hv.form
  rw [List.length_map] at hlen
  have HL := hide hlen
  have HV := hide hv
  have HCC := hide HC
  have HXS := hide hxs
  have hl : len ≤ 140737488351232 := by rw [hlen]; exact hn
  clear hv hlen HC hn hxs
  obtain ⟨m, hm⟩ : ∃ m, m = Rec.numB c 4 := ⟨_, rfl⟩
  have hms : m.size = 4 := by rw [hm, Rec.numB_size]
  have HM := hide hm
  clear hm
  have hmi : m.size + item.size ≤ 9223372036854775807 := by omega
  go_enter Tryz.func140, Tryz.ntmps140
  go_wp2_with fail
  refine (big_any c 4 _ (by omega) (by omega)).mono ?_
  rw [← HM.out]
  rintro e w1 ⟨rfl, hb1⟩
  have HB1 := hide (below_next (Below.refl _ w) hb1)
  clear hb1
  go_wp2_with fail
  go_loopg [7, 8] len (fun g v7 v8 wr => ∃ (j : Nat) (s : ByteArray), j ≤ len ∧ g = len - j ∧ v8 = .int .i64 j ∧ v7 = .string s ∧ Hid (s = Rec.catB (m ++ item) (xs.take j) ∧ Below w.heap.size w wr))
  case atStart => exact ⟨0, m ++ item, by omega, rfl, rfl, rfl, rfl, HB1.out⟩
  case round =>
    obtain ⟨j, t, hj, rfl, rfl, rfl, HR⟩ := hrel
    have hts : t.size ≤ 281474976702472 := by
      rw [HR.out.1, Rec.catB_size, ByteArray.size_append]
      have := Rec.sizes_take xs j
      have := HXS.out
      omega
    by_cases hlt : j < len
    · obtain ⟨b, off, rfl, hbw, hcell⟩ := HCC.out j hlt
      have hjl : j < xs.length := by rw [← HL.out]; exact hlt
      have hcell : wr.cell? ⟨b, off + j, none⟩ = some (.string (xs.getD j ByteArray.empty)) := by rw [HR.out.2.cell (p := ⟨b, off + j, none⟩) hbw, hcell, getD_map _ _ _ _ hjl]
      obtain ⟨s, hsk⟩ : ∃ s, s = xs.getD j ByteArray.empty := ⟨_, rfl⟩
      rw [← hsk] at hcell
      have hss : t.size + s.size ≤ 9223372036854775807 := by
        have h1 := Rec.size_le_sizes (x := s) (xs := xs) (by rw [hsk]; simp [List.getD, hjl])
        have := HXS.out
        omega
      have HS := hide (Rec.catB_take (m ++ item) xs j s hjl hsk)
      clear hsk hjl
      go_wp2_with fail
      go_roundg (len - (j + 1))
      case measure => omega
      case rel => exact ⟨j + 1, _, by omega, rfl, by go_num, rfl, by rw [HR.out.1]; exact HS.out.symm, HR.out.2⟩
    · have hj' : j = len := by omega
      have HJ := hide hj'
      clear hj'
      go_wp2_with fail
      refine (refSum_any t _ (by omega)).mono ?_
      rintro e w3 ⟨rfl, rfl⟩
      go_wp2_with fail
      go_ret
      refine ⟨congrArg (fun k : Nat => Ending.returned (.int .u32 (k : Int))) ?_, HR.out.2⟩
      rw [HR.out.1, HJ.out, HL.out, List.take_length]
      unfold Rec.chainB
      rw [HM.out]
end Go.Proofs.YtbfbajfdlkgloaaGreatDoor
