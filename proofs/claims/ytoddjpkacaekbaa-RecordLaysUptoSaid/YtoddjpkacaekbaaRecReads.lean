/-
  massiflaw18.RecordReads: what is read of any bytes: the walk.
-/
import Derived.Test.YtoddjpkacaekbaaRecFixed
import Derived.Laws.StructEq
namespace Go.Proofs.Ytoddjpkacaekbaa
open Go.RowKit
theorem refReadPay_val (s : ByteArray) (r : Value) (w : World) (hs : s.size ≤ 140737488351232) (hr : Rec.payV (Rec.readPayB s) = r) : Calls Try.prog 9 #[.string s] w fun e w' => e = .returned r ∧ Below w.heap.size w w' := by
  rw [← hr]; exact refReadPayload_any s w hs
theorem refReadNode_val (k : Int) (p : Nat) (s : ByteArray) (r : Value) (w : World) (hk : (Lit.int .i64 k).wf = true) (hp : p < 18446744073709551616) (hs : s.size ≤ 140737488351232) (hr : Rec.readNodeV k p s = r) :
    Calls Try.prog 11 #[.int .i64 k, .int .u64 (p : Int), .string s] w fun e w' => e = .returned r ∧ Below w.heap.size w w' := by
  rw [← hr]; exact refReadNode_any k p s w hk hp hs
theorem refReadMark_val (s : ByteArray) (r : Value) (w : World) (hs : s.size ≤ 140737488351232) (hr : Rec.readMarkV s = r) : Calls Try.prog 13 #[.string s] w fun e w' => e = .returned r ∧ Below w.heap.size w w' := by
  rw [← hr]; exact refReadMark_any s w hs
theorem mine_val (m : Rec.Mk) (w : World) : Calls Try.prog 14 #[.agg m.cells] w fun e w' => e = .returned (.agg m.cells) ∧ Below w.heap.size w w' := mine_any m w
namespace Rec
theorem payV_form (r : Option (ByteArray × Nat)) : ∃ (x : ByteArray) (n e : Int), payV r = .tuple #[.string x, .int .i64 n, .int .i64 e] := by
  cases r with
  | none => exact ⟨_, _, _, rfl⟩
  | some r => exact ⟨r.1, r.2, 0, rfl⟩
theorem readNodeV_form (k : Int) (p : Nat) (s : ByteArray) : ∃ (x : ByteArray) (e : Int), readNodeV k p s = .tuple #[.string x, .int .i64 e] := by
  unfold readNodeV
  split
  · exact ⟨_, _, rfl⟩
  · split
    · exact ⟨_, _, rfl⟩
    · exact ⟨_, _, rfl⟩
theorem readMarkV_form (s : ByteArray) : ∃ (m : Mk) (e : Int), readMarkV s = .tuple #[.agg m.cells, .int .i64 e] := by
  unfold readMarkV
  split
  · exact ⟨_, _, rfl⟩
  · exact ⟨zeroMk, _, rfl⟩
end Rec
-- DEFS reads
def readsL (w6 w7 : World) (e3 k3 : Int) (a3 b3 c3 d3 : Nat) : List Sp :=
  [.is (.agg #[.int .i64 k3, .int .u64 (a3 : Int), .int .u64 (b3 : Int), .int .u64 (c3 : Int), .int .u32 (d3 : Int)]), .is (.agg #[.int .i64 k3, .int .u64 (a3 : Int), .int .u64 (b3 : Int), .int .u64 (c3 : Int), .int .u32 (d3 : Int)]), .is (.agg #[.int .i64 k3, .int .u64 (a3 : Int), .int .u64 (b3 : Int), .int .u64 (c3 : Int), .int .u32 (d3 : Int)]), .is (.bool true), .is (.bool true), .is (.int .i64 e3), .is (.int .i64 e3), .is (.bool true), .is (.bool true), .is (.bool true)]
def readsU : List (List Nat) := [[], [], [1], [0, 2], [3], [4], [4], [4, 5, 6], [4, 7], [8]]
-- END reads
set_option maxHeartbeats 1600000 in
set_option maxRecDepth 100000 in
theorem reads_any (s : ByteArray) (k : Int) (p : Nat) (w : World) (hs : s.size ≤ 140737488351232) (hk : (Lit.int .i64 k).wf = true) (hp : p < 18446744073709551616) :
    Calls Try.prog 3 #[.string s, .int .i64 k, .int .u64 (p : Int)] w fun e w' => e = .returned (.bool true) ∧ Below w.heap.size w w' := by
  obtain ⟨x1, n1, e1, hr1⟩ := Rec.payV_form (Rec.readPayB s)
  obtain ⟨x2, e2, hr2⟩ := Rec.readNodeV_form k p s
  obtain ⟨m3, e3, hr3⟩ := Rec.readMarkV_form s
  obtain ⟨k3, a3, b3, c3, d3⟩ := m3
  unfold Rec.Mk.cells at hr3
  have H1 := hide (And.intro hr1 (And.intro hr2 hr3))
  clear hr1 hr2 hr3
  go_enter Try.func3, Try.ntmps3
  go_wp2_with fail
  refine (fixed_any _).mono ?_
  rintro e w1 ⟨rfl, hb1⟩
  have HB1 := hide hb1
  clear hb1
  go_wp2_with fail
  refine (readPay_val s _ _ (by omega) H1.out.1).mono ?_
  rintro e w2 ⟨rfl, hb2⟩
  have HB2 := hide (below_next HB1.out hb2)
  clear hb2
  go_wp2_with fail
  refine (refReadPay_val s _ _ hs H1.out.1).mono ?_
  rintro e w3 ⟨rfl, hb3⟩
  have HB3 := hide (below_next HB2.out hb3)
  clear hb3
  go_wp2_with fail
  refine (readNode_val k p s _ _ hk hp hs H1.out.2.1).mono ?_
  rintro e w4 ⟨rfl, hb4⟩
  have HB4 := hide (below_next HB3.out hb4)
  clear hb4
  go_wp2_with fail
  refine (refReadNode_val k p s _ _ hk hp hs H1.out.2.1).mono ?_
  rintro e w5 ⟨rfl, hb5⟩
  have HB5 := hide (below_next HB4.out hb5)
  clear hb5
  go_wp2_with fail
  refine (readMark_val s _ _ hs H1.out.2.2).mono ?_
  rintro e w6 ⟨rfl, hb6⟩
  have HB6 := hide (below_next HB5.out hb6)
  clear hb6
  go_wp2_with fail
  obtain ⟨V6, hV6⟩ : ∃ V, V = w6.alloc (.cells #[.int .i64 k3, .int .u64 (a3 : Int), .int .u64 (b3 : Int), .int .u64 (c3 : Int), .int .u32 (d3 : Int)] 31) := ⟨_, rfl⟩
  rw [← hV6]
  have hz6 : V6.heap[w6.heap.size]? = some (.cells #[.int .i64 k3, .int .u64 (a3 : Int), .int .u64 (b3 : Int), .int .u64 (c3 : Int), .int .u32 (d3 : Int)] 31) := by rw [hV6]; exact alloc_at _ _
  have HV6 := hide (show Below w.heap.size w V6 by rw [hV6]; exact HB6.out.alloc HB6.out.size _)
  have HZ6 := hide hz6
  clear hz6 hV6
  refine (refReadMark_val s _ _ hs H1.out.2.2).mono ?_
  rintro e w7 ⟨rfl, hb7⟩
  have HB7 := hide (below_next HV6.out hb7)
  have HZ7 := hide ((hb7.block w6.heap.size (heap_lt HZ6.out)).trans HZ6.out)
  clear hb7
  go_wp2_with fail
  obtain ⟨V8, hV8⟩ : ∃ V, V = w7.alloc (.cells #[.int .i64 k3, .int .u64 (a3 : Int), .int .u64 (b3 : Int), .int .u64 (c3 : Int), .int .u32 (d3 : Int)] 34) := ⟨_, rfl⟩
  rw [← hV8]
  have hz8 : V8.heap[w7.heap.size]? = some (.cells #[.int .i64 k3, .int .u64 (a3 : Int), .int .u64 (b3 : Int), .int .u64 (c3 : Int), .int .u32 (d3 : Int)] 34) := by rw [hV8]; exact alloc_at _ _
  have HB8 := hide (show Below w.heap.size w V8 by rw [hV8]; exact HB7.out.alloc HB7.out.size _)
  have HY8 := hide (show V8.heap[w6.heap.size]? = some (.cells #[.int .i64 k3, .int .u64 (a3 : Int), .int .u64 (b3 : Int), .int .u64 (c3 : Int), .int .u32 (d3 : Int)] 31) by
    rw [hV8]; exact ((Below.alloc (Below.refl w7.heap.size w7) (Nat.le_refl _) _).block w6.heap.size (heap_lt HZ7.out)).trans HZ7.out)
  have HZ8 := hide hz8
  clear hz8 hV8
-- REGION reads
  rename_i hrest
  refine wp_region_local (by kernel_rfl) (by kernel_rfl) (useList readsU) [9] (by kernel_rfl) (spR (readsL w6 w7 e3 k3 a3 b3 c3 d3)) (fun _ _ => True) (Below V8.heap.size V8) (fun _ w w' => Below w.heap.size w w') spR_stays (fun _ _ _ _ _ h _ => h) (fun _ _ => Below.refl _ _) (dsts_lt (N := 85) (by kernel_rfl)) ((Below.refl _ _).drew) (fun _ _ => trivial) (all_ops ?_) ?_
  · refine And.intro ?_ ?_
    · -- 0: slot 76 := Op.load 31 (Operand.tmp 15)
      refine lstep_run fun fr wf left => ?_
      have o15 := (left.old 15 (by kernel_rfl)).trans rfl
      refine ⟨wanted_none rfl, fun K hK => ?_⟩
      have hB := hide left.base
      have hc := (hB.out.block w6.heap.size (heap_lt HY8.out)).trans HY8.out
      clear left
      refine wp_load_row 31 (.tmp 15) rfl w6.heap.size (eval_tmp (v := .pointer (some ⟨w6.heap.size, 0, none⟩)) o15) 31 _ (0, 0) _ hc Try.underlying31 rfl (by kernel_rfl) ?_
      exact hK _ _ rfl hB.out (Below.refl _ _)
    refine And.intro ?_ ?_
    · -- 1: slot 77 := Op.load 34 (Operand.tmp 16)
      refine lstep_run fun fr wf left => ?_
      have o16 := (left.old 16 (by kernel_rfl)).trans rfl
      refine ⟨wanted_none rfl, fun K hK => ?_⟩
      have hB := hide left.base
      have hc := (hB.out.block w7.heap.size (heap_lt HZ8.out)).trans HZ8.out
      clear left
      refine wp_load_row 34 (.tmp 16) rfl w7.heap.size (eval_tmp (v := .pointer (some ⟨w7.heap.size, 0, none⟩)) o16) 34 _ (0, 0) _ hc Try.underlying34 rfl (by kernel_rfl) ?_
      exact hK _ _ rfl hB.out (Below.refl _ _)
    refine And.intro ?_ ?_
    · -- 2: slot 78 := Op.call { callee := Callee.value (Operand.func 14), args := #[Operand.tmp 77], argTypes :=
      refine lstep_run fun fr wf left => ?_
      obtain ⟨x1, e1, r1⟩ := left.slot 85 rfl 1 77 _ rfl rfl (by decide) rfl
      have s1 := Eq.symm (show x1 = .agg #[.int .i64 k3, .int .u64 (a3 : Int), .int .u64 (b3 : Int), .int .u64 (c3 : Int), .int .u32 (d3 : Int)] from r1)
      subst s1
      refine ⟨wanted_none rfl, fun K hK => ?_⟩
      have hB := hide left.base
      clear left
      go_simp
      refine (mine_val ⟨k3, a3, b3, c3, d3⟩ _).mono ?_
      rintro e w' ⟨rfl, hb⟩
      exact hK _ _ rfl (hB.out.trans (hb.mono (le_base hB.out))) hb
    refine And.intro ?_ ?_
    · -- 3: slot 79 := Op.binOp BinOp.eql 31 (Operand.tmp 76) (Operand.tmp 78) 31
      refine lstep_run fun fr wf left => ?_
      obtain ⟨x0, e0, r0⟩ := left.slot 85 rfl 0 76 _ rfl rfl (by decide) rfl
      have s0 := Eq.symm (show x0 = .agg #[.int .i64 k3, .int .u64 (a3 : Int), .int .u64 (b3 : Int), .int .u64 (c3 : Int), .int .u32 (d3 : Int)] from r0)
      subst s0
      obtain ⟨x2, e2, r2⟩ := left.slot 85 rfl 2 78 _ rfl rfl (by decide) rfl
      have s2 := Eq.symm (show x2 = .agg #[.int .i64 k3, .int .u64 (a3 : Int), .int .u64 (b3 : Int), .int .u64 (c3 : Int), .int .u32 (d3 : Int)] from r2)
      subst s2
      refine ⟨wanted_none rfl, fun K hK => ?_⟩
      have hB := hide left.base
      clear left
      go_simp
      exact hK _ _ rfl hB.out (Below.refl _ _)
    refine And.intro ?_ ?_
    · -- 4: slot 80 := Op.move (Operand.tmp 79)
      refine lstep_run fun fr wf left => ?_
      obtain ⟨x3, e3, r3⟩ := left.slot 85 rfl 3 79 _ rfl rfl (by decide) rfl
      have s3 := Eq.symm (show x3 = .bool true from r3)
      subst s3
      refine ⟨wanted_none rfl, fun K hK => ?_⟩
      have hB := hide left.base
      clear left
      go_simp
      exact hK _ _ rfl hB.out (Below.refl _ _)
    refine And.intro ?_ ?_
    · -- 5: slot 81 := Op.move (Operand.tmp 9)
      refine lstep_run fun fr wf left => ?_
      obtain ⟨x4, e4, r4⟩ := left.slot 85 rfl 4 80 _ rfl rfl (by decide) rfl
      have s4 := Eq.symm (show x4 = .bool true from r4)
      subst s4
      have o9 := (left.old 9 (by kernel_rfl)).trans rfl
      refine ⟨wanted_yes rfl rfl e4, fun K hK => ?_⟩
      have hB := hide left.base
      clear left
      go_simp
      exact hK _ _ rfl hB.out (Below.refl _ _)
    refine And.intro ?_ ?_
    · -- 6: slot 82 := Op.move (Operand.tmp 12)
      refine lstep_run fun fr wf left => ?_
      obtain ⟨x4, e4, r4⟩ := left.slot 85 rfl 4 80 _ rfl rfl (by decide) rfl
      have s4 := Eq.symm (show x4 = .bool true from r4)
      subst s4
      have o12 := (left.old 12 (by kernel_rfl)).trans rfl
      refine ⟨wanted_yes rfl rfl e4, fun K hK => ?_⟩
      have hB := hide left.base
      clear left
      go_simp
      exact hK _ _ rfl hB.out (Below.refl _ _)
    refine And.intro ?_ ?_
    · -- 7: slot 83 := Op.binOp BinOp.eql 24 (Operand.tmp 81) (Operand.tmp 82) 24
      refine lstep_run fun fr wf left => ?_
      obtain ⟨x4, e4, r4⟩ := left.slot 85 rfl 4 80 _ rfl rfl (by decide) rfl
      have s4 := Eq.symm (show x4 = .bool true from r4)
      subst s4
      obtain ⟨x5, e5, r5⟩ := left.slot 85 rfl 5 81 _ rfl rfl (by decide) rfl
      have s5 := Eq.symm (show x5 = .int .i64 e3 from r5)
      subst s5
      obtain ⟨x6, e6, r6⟩ := left.slot 85 rfl 6 82 _ rfl rfl (by decide) rfl
      have s6 := Eq.symm (show x6 = .int .i64 e3 from r6)
      subst s6
      refine ⟨wanted_yes rfl rfl e4, fun K hK => ?_⟩
      have hB := hide left.base
      clear left
      go_simp
      exact hK _ _ rfl hB.out (Below.refl _ _)
    refine And.intro ?_ ?_
    · -- 8: slot 84 := Op.pick (Operand.tmp 80) (Operand.tmp 83) (Operand.const (Value.bool false))
      refine lstep_run fun fr wf left => ?_
      obtain ⟨x4, e4, r4⟩ := left.slot 85 rfl 4 80 _ rfl rfl (by decide) rfl
      have s4 := Eq.symm (show x4 = .bool true from r4)
      subst s4
      obtain ⟨x7, e7, r7⟩ := left.slot 85 rfl 7 83 _ rfl rfl (by decide) rfl
      have s7 := Eq.symm (show x7 = .bool true from r7)
      subst s7
      refine ⟨wanted_none rfl, fun K hK => ?_⟩
      have hB := hide left.base
      clear left
      go_simp
      exact hK _ _ rfl hB.out (Below.refl _ _)
    refine And.intro ?_ ?_
    · -- 9: slot 6 := Op.assign (Operand.tmp 84)
      refine lstep_run fun fr wf left => ?_
      obtain ⟨x8, e8, r8⟩ := left.slot 85 rfl 8 84 _ rfl rfl (by decide) rfl
      have s8 := Eq.symm (show x8 = .bool true from r8)
      subst s8
      refine ⟨wanted_none rfl, fun K hK => ?_⟩
      have hB := hide left.base
      clear left
      go_simp
      exact hK _ _ rfl hB.out (Below.refl _ _)
    exact trivial
  · intro fr wf hB _ hd hall _
    have hv : fr.tmps.getD 6 undef = .bool true := hall 9 _ rfl (by simp)
    refine hrest _ _ (wp_ret ?_)
    exact bodyPost_ret (by rw [results_tmp rfl, hv]) hd ⟨rfl, HB8.out.trans (hB.mono HB8.out.size)⟩
  -- END REGION reads
end Go.Proofs.Ytoddjpkacaekbaa
