/-
  massiflaw18.fixed: the records that the document gives: the walk.
-/
import Derived.Test.YtoddjpkacaekbaaRecRefRead
namespace Go.Proofs.Ytoddjpkacaekbaa
open Go.RowKit
theorem pay_val (s t : ByteArray) (w : World) (hs : s.size ≤ 140737488351232) (ht : t = Rec.payB s) : Calls Try.prog 15 #[.string s] w fun e w' => e = .returned (.string t) ∧ Below w.heap.size w w' := by
  rw [ht]; exact payload_any s w hs
theorem readPay_val (s : ByteArray) (r : Value) (w : World) (hs : s.size ≤ 4611686018427387904) (hr : Rec.payV (Rec.readPayB s) = r) : Calls Try.prog 8 #[.string s] w fun e w' => e = .returned r ∧ Below w.heap.size w w' := by
  rw [← hr]; exact readPayload_any s w hs
theorem node_val (p : Nat) (d t : ByteArray) (w : World) (hp : p < 18446744073709551616) (hd : d.size ≤ 140737488351232) (ht : t = Rec.nodeB p d) : Calls Try.prog 16 #[.int .u64 (p : Int), .string d] w fun e w' => e = .returned (.string t) ∧ Below w.heap.size w w' := by
  rw [ht]; exact node_any p d w hp hd
theorem readNode_val (k : Int) (p : Nat) (s : ByteArray) (r : Value) (w : World) (hk : (Lit.int .i64 k).wf = true) (hp : p < 18446744073709551616) (hs : s.size ≤ 140737488351232) (hr : Rec.readNodeV k p s = r) :
    Calls Try.prog 10 #[.int .i64 k, .int .u64 (p : Int), .string s] w fun e w' => e = .returned r ∧ Below w.heap.size w w' := by
  rw [← hr]; exact readNode_any k p s w hk hp hs
theorem mark_val (m : Rec.Mk) (t : ByteArray) (w : World) (hm : m.ok) (ht : t = Rec.markB m) : Calls Try.prog 17 #[.agg m.cells] w fun e w' => e = .returned (.string t) ∧ Below w.heap.size w w' := by
  rw [ht]; exact mark_any m w hm
theorem readMark_val (s : ByteArray) (r : Value) (w : World) (hs : s.size ≤ 140737488351232) (hr : Rec.readMarkV s = r) : Calls Try.prog 12 #[.string s] w fun e w' => e = .returned r ∧ Below w.heap.size w w' := by
  rw [← hr]; exact readMark_any s w hs
namespace Rec
theorem fix1 : (⟨#[0, 0, 0, 0, 72, 103, 75, 199]⟩ : ByteArray) = payB ⟨#[]⟩ := by decide +kernel
theorem fix2 : readPayB ⟨#[0, 0, 0, 0, 72, 103, 75, 199, 122]⟩ = some (⟨#[]⟩, 8) := by decide +kernel
theorem fix3 : (nodeB 5 ⟨#[120]⟩).size = 40 := by decide +kernel
theorem fix4 : nodeOk 1 5 (nodeB 5 ⟨#[120]⟩) = true ∧ (⟨((bytesOf (nodeB 5 ⟨#[120]⟩)).take 1).toArray⟩ : ByteArray) = ⟨#[120]⟩ := by decide +kernel
theorem fix5 : nodeOk 1 6 (nodeB 5 ⟨#[120]⟩) = false := by decide +kernel
theorem fix6 : (markB ⟨3, 7, 0, 0, 0⟩).size = 64 ∧ (markB (markOf (markB ⟨3, 7, 0, 0, 0⟩))) = markB ⟨3, 7, 0, 0, 0⟩ ∧ (markOf (markB ⟨3, 7, 0, 0, 0⟩)).k = 3 ∧ (markOf (markB ⟨3, 7, 0, 0, 0⟩)).size = 7 := by decide +kernel
end Rec
theorem fixNode : ∀ D, D = Rec.nodeB 5 ⟨#[120]⟩ → Rec.readNodeV 1 5 D = .tuple #[.string ⟨#[120]⟩, .int .i64 0] ∧ Rec.readNodeV 1 6 D = .tuple #[.string ⟨#[]⟩, .int .i64 180] := by
  intro D hD
  rw [hD]
  unfold Rec.readNodeV
  rw [show ((1 : Int)).toNat = 1 from rfl, if_neg (by decide), if_pos Rec.fix4.1, Rec.fix4.2, if_neg (by decide), if_neg (by rw [Rec.fix5]; decide)]
  exact ⟨rfl, rfl⟩
theorem fixMark : ∀ D, D = Rec.markB ⟨3, 7, 0, 0, 0⟩ → ∃ a b c : Int, Rec.readMarkV D = .tuple #[.agg #[.int .i64 3, .int .u64 7, .int .u64 a, .int .u64 b, .int .u32 c], .int .i64 0] := by
  intro D hD
  rw [hD]
  obtain ⟨h1, h2, h3, h4⟩ := Rec.fix6
  refine ⟨((Rec.markOf (Rec.markB ⟨3, 7, 0, 0, 0⟩)).items : Int), ((Rec.markOf (Rec.markB ⟨3, 7, 0, 0, 0⟩)).nodes : Int), ((Rec.markOf (Rec.markB ⟨3, 7, 0, 0, 0⟩)).chain : Int), ?_⟩
  unfold Rec.readMarkV Rec.readMarkB
  rw [if_pos h1, if_pos (by rw [Rec.beqB, h2]; simp)]
  unfold Rec.mkV Rec.Mk.cells
  simp only [h3, h4]
  rfl
set_option maxHeartbeats 1600000 in
set_option maxRecDepth 100000 in
theorem fixed_any (w : World) : Calls Try.prog 7 #[] w fun e w' => e = .returned (.bool true) ∧ Below w.heap.size w w' := by
  obtain ⟨D, hD⟩ : ∃ D, D = Rec.nodeB 5 ⟨#[120]⟩ := ⟨_, rfl⟩
  have hDs : (D.size : Int) = 40 := by rw [hD, Rec.fix3]; rfl
  obtain ⟨hn1, hn2⟩ := fixNode D hD
  obtain ⟨M, hM⟩ : ∃ M, M = Rec.markB ⟨3, 7, 0, 0, 0⟩ := ⟨_, rfl⟩
  have hMs : M.size = 64 := by rw [hM]; exact Rec.fix6.1
  obtain ⟨ma, mb, mc, hm⟩ := fixMark M hM
  have HD := hide (And.intro hD (And.intro hn1 hn2))
  have HM := hide (And.intro hM hm)
  clear hD hn1 hn2 hM hm
  go_enter Try.func7, Try.ntmps7
  go_wp2_with fail
  refine (pay_val _ _ _ (by decide) Rec.fix1).mono ?_
  rintro e w1 ⟨rfl, hb1⟩
  have HB1 := hide hb1
  clear hb1
  go_wp2_with fail
  refine (readPay_val _ (.tuple #[.string ⟨#[]⟩, .int .i64 8, .int .i64 0]) _ (by decide) (congrArg Rec.payV Rec.fix2)).mono ?_
  rintro e w2 ⟨rfl, hb2⟩
  have HB2 := hide (below_next HB1.out hb2)
  clear hb2
  go_wp2_with fail
  refine (node_val 5 _ D _ (by decide) (by decide) HD.out.1).mono ?_
  rintro e w3 ⟨rfl, hb3⟩
  have HB3 := hide (below_next HB2.out hb3)
  clear hb3
  go_wp2_with fail
  refine (readNode_val 1 5 D _ _ (by decide) (by decide) (by omega) HD.out.2.1).mono ?_
  rintro e w4 ⟨rfl, hb4⟩
  have HB4 := hide (below_next HB3.out hb4)
  clear hb4
  go_wp2_with fail
  refine (readNode_val 1 6 D _ _ (by decide) (by decide) (by omega) HD.out.2.2).mono ?_
  rintro e w5 ⟨rfl, hb5⟩
  have HB5 := hide (below_next HB4.out hb5)
  clear hb5
  go_wp2_with fail
  refine (mark_val ⟨3, 7, 0, 0, 0⟩ M _ ⟨by decide, by decide, by decide, by decide, by decide⟩ HM.out.1).mono ?_
  rintro e w6 ⟨rfl, hb6⟩
  have HB6 := hide (below_next HB5.out hb6)
  clear hb6
  go_wp2_with fail
  refine (readMark_val M _ _ (by omega) HM.out.2).mono ?_
  rintro e w7 ⟨rfl, hb7⟩
  have HB7 := hide (below_next HB6.out hb7)
  clear hb7
  go_wp2
  go_ret
  exact ⟨rfl, HB7.out.alloc HB7.out.size _⟩
end Go.Proofs.Ytoddjpkacaekbaa
