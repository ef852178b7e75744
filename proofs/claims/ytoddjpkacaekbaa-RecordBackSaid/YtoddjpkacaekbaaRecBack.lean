/-
  massiflaw18.RecordBack: a record is read as what was laid: the walk.
-/
import Derived.Test.YtoddjpkacaekbaaRecReads
import Derived.Test.YtoddjpkacaekbaaRecBackLaw
namespace Go.Proofs.Ytoddjpkacaekbaa
open Go.RowKit
-- DEFS backa
def backaL (w w8 : World) (k' : Int) (a' b' c' d' : Nat) : List Sp :=
  [.is (.pointer (some ⟨w.heap.size, 0, none⟩)), .is (.int .i64 k'), .is (.bool true), .is (.bool true), .is (.pointer (some ⟨w.heap.size, 0, none⟩)), .is (.int .i64 k'), .is (.bool true), .is (.bool true), .is (.bool true), .is (.agg #[.int .i64 k', .int .u64 (a' : Int), .int .u64 (b' : Int), .int .u64 (c' : Int), .int .u32 (d' : Int)]), .is (.agg #[.int .i64 k', .int .u64 (a' : Int), .int .u64 (b' : Int), .int .u64 (c' : Int), .int .u32 (d' : Int)]), .is (.agg #[.int .i64 k', .int .u64 (a' : Int), .int .u64 (b' : Int), .int .u64 (c' : Int), .int .u32 (d' : Int)]), .is (.bool false), .is (.bool false), .is (.int .i64 0), .is (.bool false), .is (.bool false), .is (.bool false)]
def backaU : List (List Nat) := [[], [0], [1], [2], [3], [3, 4], [3, 5], [3, 6], [7], [8], [8], [8, 10], [8, 9, 11], [8, 12], [13], [13, 14], [8, 13, 15], [8, 16]]
-- END backa
-- DEFS backb
def backbL (w w8 : World) (mk : Int) : List Sp :=
  [.is (.pointer (some ⟨w.heap.size, 0, none⟩)), .is (.int .i64 mk), .is (.bool true), .is (.bool true), .is (.pointer (some ⟨w.heap.size, 0, none⟩)), .is (.int .i64 mk), .is (.bool false), .is (.bool false), .is (.bool false), .is (undef), .is (undef), .is (undef), .is (undef), .is (undef), .is (undef), .is (undef), .is (undef), .is (.bool false)]
def backbU : List (List Nat) := [[], [0], [1], [2], [3], [3, 4], [3, 5], [3, 6], [7], [8], [8], [8], [8], [8], [13], [13], [8], [8, 16]]
-- END backb
-- DEFS backc
def backcL (w w8 : World) (mk : Int) : List Sp :=
  [.is (.pointer (some ⟨w.heap.size, 0, none⟩)), .is (.int .i64 mk), .is (.bool false), .is (.bool false), .is (undef), .is (undef), .is (undef), .is (.bool false), .is (.bool false), .is (undef), .is (undef), .is (undef), .is (undef), .is (undef), .is (undef), .is (undef), .is (undef), .is (.bool false)]
def backcU : List (List Nat) := [[], [0], [1], [2], [3], [3], [3], [3, 6], [7], [8], [8], [8], [8], [8], [13], [13], [8], [8, 16]]
-- END backc
-- DEFS backn
def backnL (tail : ByteArray) : List Sp :=
  [.is (.int .i64 180), .is (.bool false), .is (.bool false), .is (undef), .is (undef), .is (undef), .is (undef), .is (undef), .is (undef), .is (undef), .is (undef), .is (undef), .is (undef), .is (undef), .is (undef), .is (undef), .is (undef), .is (undef), .is (undef), .is (.bool false)]
def backnU : List (List Nat) := [[], [0], [1], [2], [2], [2], [5], [5], [5], [5], [2], [2], [11], [11], [11], [11], [11], [11], [2], [2, 18]]
-- END backn
-- DEFS backs
def backsL (tail y : ByteArray) (n : Nat) : List Sp :=
  [.is (.int .i64 0), .is (.bool true), .is (.bool true), .is (.int .i64 (n : Int)), .is (.bool false), .is (.bool false), .is (.int .i64 (n : Int)), .is (.string tail), .is (.int .i64 (tail.size : Int)), .is (.bool false), .is (.bool false), .is (.bool false), .is (.string y), .is (.string (tail.extract 0 n)), .is (.string tail), .is (.int .i64 (n : Int)), .is (.string (tail.extract 0 n)), .is (.bool false), .is (.bool false), .is (.bool false)]
def backsU : List (List Nat) := [[], [0], [1], [2], [2, 3], [2, 4], [5], [5], [5, 7], [5, 6, 8], [2, 5, 9], [2, 10], [11], [11, 12], [11], [11], [11, 14, 15], [11, 13, 16], [2, 11, 17], [2, 18]]
-- END backs
set_option maxHeartbeats 1600000 in
set_option maxRecDepth 100000 in
theorem back_any (item : ByteArray) (p : Nat) (d : ByteArray) (m : Rec.Mk) (tail : ByteArray) (w : World) (hi : item.size ≤ 140737488351232) (hp : p < 18446744073709551616) (hd : d.size ≤ 140737488351232) (hm : m.ok) (ht : tail.size ≤ 140737488351232) :
    Calls Try.prog 4 #[.string item, .int .u64 (p : Int), .string d, .agg m.cells, .string tail] w fun e w' => e = .returned (.bool true) ∧ Below w.heap.size w w' := by
  obtain ⟨mk, ms, mi, mn, mc⟩ := m
  have HM := hide hm
  unfold Rec.Mk.cells
  go_enter Try.func4, Try.ntmps4
  go_wp2_with fail
  obtain ⟨W0, hW0⟩ : ∃ V, V = w.alloc (.cells #[.int .i64 mk, .int .u64 (ms : Int), .int .u64 (mi : Int), .int .u64 (mn : Int), .int .u32 (mc : Int)] 34) := ⟨_, rfl⟩
  rw [← hW0]
  have HZ0 := hide (show W0.heap[w.heap.size]? = some (.cells #[.int .i64 mk, .int .u64 (ms : Int), .int .u64 (mi : Int), .int .u64 (mn : Int), .int .u32 (mc : Int)] 34) by rw [hW0]; exact alloc_at _ _)
  have HB0 := hide (show Below w.heap.size w W0 by rw [hW0]; exact (Below.refl _ _).alloc (Nat.le_refl _) _)
  clear hW0 hm
  refine (fixed_any _).mono ?_
  rintro e w1 ⟨rfl, hb1⟩
  have HB1 := hide (show Below W0.heap.size W0 w1 from hb1)
  clear hb1
  obtain ⟨X, hX⟩ : ∃ X, X = Rec.payB item := ⟨_, rfl⟩
  have HX := hide hX
  clear hX
  go_wp2_with fail
  refine (pay_val item X _ hi HX.out).mono ?_
  rintro e w2 ⟨rfl, hb2⟩
  have HB2 := hide (below_next HB1.out hb2)
  clear hb2
  go_upto_if 28 with (fail)
  go_cut [12] from 13 (fun v12 wc => Hid (Below W0.heap.size W0 wc))
  case first =>
    by_cases hsz : item.size ≤ 1048576
    · have hszi : (item.size : Int) ≤ 1048576 := by omega
      have hxs : X.size = item.size + 8 := by rw [HX.out]; exact Rec.payB_size item hsz
      have hsum : X.size + tail.size ≤ 9223372036854775807 := by omega
      have hrd : Rec.payV (Rec.readPayB (X ++ tail)) = .tuple #[.string item, .int .i64 (item.size + 8 : Nat), .int .i64 0] := by rw [HX.out, Rec.readPay_back item tail hsz]; rfl
      have HR := hide hrd
      have hxi : (X.size : Int) = (item.size : Int) + 8 := by omega
      have HXS := hide hxs
      clear hrd hxs
      go_wp2_with fail
      refine (readPay_val (X ++ tail) _ _ (by rw [ByteArray.size_append, HXS.out]; omega) HR.out).mono ?_
      rintro e w3 ⟨rfl, hb3⟩
      have HB3 := hide (below_next HB2.out hb3)
      clear hb3
      go_wp2_with fail
      go_meet
      case rel => exact HB3.out
    · have hszi : ¬ (item.size : Int) ≤ 1048576 := by omega
      go_wp2_with fail
      go_meet
      case rel => exact HB2.out
  case rest =>
    have HB3 := hide hcut
    clear hcut
    go_upto_region 8 with (fail)
    obtain ⟨g, hg⟩ : ∃ g : Bool, g = decide (1 ≤ d.size ∧ d.size ≤ 32) := ⟨_, rfl⟩
    have HG := hide hg
    clear hg
    go_cut [64] from 13 (fun v64 wx => wx = wc ∧ v64 = .bool g)
    case first =>
      by_cases h1 : 1 ≤ d.size
      · by_cases h2 : d.size ≤ 32
        · have h1i : (1 : Int) ≤ (d.size : Int) := by omega
          have h2i : (d.size : Int) ≤ 32 := by omega
          go_wp2_with fail
          go_meet
          case rel => exact ⟨rfl, congrArg Value.bool (by rw [HG.out]; symm; exact decide_eq_true ⟨h1, h2⟩)⟩
        · have h1i : (1 : Int) ≤ (d.size : Int) := by omega
          have h2i : ¬ (d.size : Int) ≤ 32 := by omega
          go_wp2_with fail
          go_meet
          case rel => exact ⟨rfl, congrArg Value.bool (by rw [HG.out]; symm; exact decide_eq_false (fun h => h2 h.2))⟩
      · have h1i : ¬ (1 : Int) ≤ (d.size : Int) := by omega
        go_wp2_with fail
        go_meet
        case rel => exact ⟨rfl, congrArg Value.bool (by rw [HG.out]; symm; exact decide_eq_false (fun h => h1 h.1))⟩
    obtain ⟨rfl, rfl⟩ := hcut
    go_upto_if 64 with (fail)
    go_cut [15] from 16 (fun v15 wd => Hid (Below W0.heap.size W0 wd))
    case first =>
      cases g with
      | true =>
        obtain ⟨h1, h2⟩ := of_decide_eq_true HG.out.symm
        obtain ⟨Y, hY⟩ : ∃ Y, Y = Rec.nodeB p d := ⟨_, rfl⟩
        have hrd : Rec.readNodeV (d.size : Int) p Y = .tuple #[.string d, .int .i64 0] := by rw [hY]; exact Rec.readNode_back d p h1 h2
        have hys : Y.size = 40 := by rw [hY, Rec.node_body rfl h2, Rec.sealB_size, ByteArray.size_append, ByteArray.size_append, Rec.zeroB_size, Rec.numB_size]; omega
        have hwf : (Lit.int .i64 (d.size : Int)).wf = true := Rec.wf_i64 (by omega) (by omega)
        have HR := hide (And.intro hY (And.intro hrd hwf))
        clear hY hrd hwf h1 h2
        go_wp2_with fail
        refine (node_val p d Y _ hp hd HR.out.1).mono ?_
        rintro e w4 ⟨rfl, hb4⟩
        have HB4 := hide (below_next HB3.out hb4)
        clear hb4
        go_wp2_with fail
        refine (readNode_val (d.size : Int) p Y _ _ HR.out.2.2 hp (by omega) HR.out.2.1).mono ?_
        rintro e w5 ⟨rfl, hb5⟩
        have HB5 := hide (below_next HB4.out hb5)
        clear hb5
        go_wp2_with fail
        go_meet
        case rel => exact HB5.out
      | false =>
        go_wp2_with fail
        go_meet
        case rel => exact HB3.out
    case rest =>
      have HB6 := hide hcut
      clear hcut
      rename_i wd
      have hz6 := (HB6.out.block w.heap.size (heap_lt HZ0.out)).trans HZ0.out
      obtain ⟨M, hMq⟩ : ∃ M, M = Rec.markB ⟨mk, ms, mi, mn, mc⟩ := ⟨_, rfl⟩
      have hMs : M.size ≤ 64 := by
        rw [hMq]
        by_cases hr : 1 ≤ mk ∧ mk ≤ 32
        · rw [Rec.mark_size ⟨mk, ms, mi, mn, mc⟩ hr.1 hr.2]; exact Nat.le_refl _
        · unfold Rec.markB; rw [if_pos (by show mk < 1 ∨ 32 < mk; omega)]; decide
      obtain ⟨m', e', hrm⟩ := Rec.readMarkV_form M
      have hin : 1 ≤ mk → mk ≤ 32 → m' = ⟨mk, ms, mi, mn, mc⟩ ∧ e' = 0 := by
        intro h1 h2
        have hb := Rec.readMark_back ⟨mk, ms, mi, mn, mc⟩ HM.out h1 h2
        unfold Rec.readMarkV at hrm
        rw [hMq, hb] at hrm
        exact Rec.mk_inj hrm
      obtain ⟨k', a', b', c', d'⟩ := m'
      unfold Rec.Mk.cells at hrm
      have HQ := hide (And.intro hMq (And.intro hrm hin))
      clear hMq hrm hin
      go_wp2_with (refine wpList_load_row rfl 34 (.tmp 8) rfl w.heap.size rfl 34 _ (0, 0) _ hz6 Try.underlying34 rfl (by kernel_rfl) ?_)
      refine (mine_val ⟨mk, ms, mi, mn, mc⟩ _).mono ?_
      rintro e w6 ⟨rfl, hb6⟩
      have HB7 := hide (below_next HB6.out hb6)
      clear hb6 hz6
      go_wp2_with fail
      refine (mark_val ⟨mk, ms, mi, mn, mc⟩ M _ HM.out HQ.out.1).mono ?_
      rintro e w7 ⟨rfl, hb7⟩
      have HB8 := hide (below_next HB7.out hb7)
      clear hb7
      go_wp2_with fail
      refine (readMark_val M _ _ (by omega) HQ.out.2.1).mono ?_
      rintro e w8 ⟨rfl, hb8⟩
      have HB9 := hide (below_next HB8.out hb8)
      clear hb8
      go_upto_region 13 with (fail)
      obtain ⟨V9, hV9⟩ : ∃ V, V = w8.alloc (.cells #[.int .i64 k', .int .u64 (a' : Int), .int .u64 (b' : Int), .int .u64 (c' : Int), .int .u32 (d' : Int)] 31) := ⟨_, rfl⟩
      rw [← hV9]
      have HY9 := hide (show V9.heap[w8.heap.size]? = some (.cells #[.int .i64 k', .int .u64 (a' : Int), .int .u64 (b' : Int), .int .u64 (c' : Int), .int .u32 (d' : Int)] 31) by rw [hV9]; exact alloc_at _ _)
      have hb9 : Below W0.heap.size W0 V9 := by rw [hV9]; exact HB9.out.alloc HB9.out.size _
      have HZ9 := hide ((hb9.block w.heap.size (heap_lt HZ0.out)).trans HZ0.out)
      have HBV := hide hb9
      clear hV9 hb9
      go_cut [106] from 11 (fun v106 wx => v106 = .bool false ∧ Hid (Below W0.heap.size W0 wx))
      case first =>
        by_cases hr1 : 1 ≤ mk
        · by_cases hr2 : mk ≤ 32
          · obtain ⟨he1, he2⟩ := HQ.out.2.2 hr1 hr2
            injection he1 with x1 x2 x3 x4 x5
            subst x1; subst x2; subst x3; subst x4; subst x5; subst he2
-- REGION backa
            
            refine wp_region_local (by kernel_rfl) (by kernel_rfl) (useList backaU) [17] (by kernel_rfl) (spR (backaL w w8 k' a' b' c' d')) (fun _ _ => True) (Below V9.heap.size V9) (fun _ w w' => Below w.heap.size w w') spR_stays (fun _ _ _ _ _ h _ => h) (fun _ _ => Below.refl _ _) (dsts_lt (N := 146) (by kernel_rfl)) ((Below.refl _ _).drew) (fun _ _ => trivial) (all_ops ?_) ?_
            · refine And.intro ?_ ?_
              · -- 0: slot 89 := Op.fieldAddr 34 (Operand.tmp 8) 0
                refine lstep_run fun fr wf left => ?_
                have o8 := (left.old 8 (by kernel_rfl)).trans rfl
                refine ⟨wanted_none rfl, fun K hK => ?_⟩
                have hB := hide left.base
                clear left
                go_simp
                exact hK _ _ rfl hB.out (Below.refl _ _)
              refine And.intro ?_ ?_
              · -- 1: slot 90 := Op.load 3 (Operand.tmp 89)
                refine lstep_run fun fr wf left => ?_
                obtain ⟨x0, e0, r0⟩ := left.slot 146 rfl 0 89 _ rfl rfl (by decide) rfl
                have s0 := Eq.symm (show x0 = .pointer (some ⟨w.heap.size, 0, none⟩) from r0)
                subst s0
                refine ⟨wanted_none rfl, fun K hK => ?_⟩
                have hB := hide left.base
                have hc := (cell_blk ((hB.out.block w.heap.size (heap_lt HZ9.out)).trans HZ9.out) 0).trans rfl
                clear left
                go_simp
                exact hK _ _ rfl hB.out (Below.refl _ _)
              refine And.intro ?_ ?_
              · -- 2: slot 91 := Op.binOp BinOp.geq 3 (Operand.tmp 90) (Operand.const (Value.int IntKind.i64 1)) 3
                refine lstep_run fun fr wf left => ?_
                obtain ⟨x1, e1, r1⟩ := left.slot 146 rfl 1 90 _ rfl rfl (by decide) rfl
                have s1 := Eq.symm (show x1 = .int .i64 k' from r1)
                subst s1
                refine ⟨wanted_none rfl, fun K hK => ?_⟩
                have hB := hide left.base
                clear left
                go_simp
                exact hK _ _ rfl hB.out (Below.refl _ _)
              refine And.intro ?_ ?_
              · -- 3: slot 92 := Op.move (Operand.tmp 91)
                refine lstep_run fun fr wf left => ?_
                obtain ⟨x2, e2, r2⟩ := left.slot 146 rfl 2 91 _ rfl rfl (by decide) rfl
                have s2 := Eq.symm (show x2 = .bool true from r2)
                subst s2
                refine ⟨wanted_none rfl, fun K hK => ?_⟩
                have hB := hide left.base
                clear left
                go_simp
                exact hK _ _ rfl hB.out (Below.refl _ _)
              refine And.intro ?_ ?_
              · -- 4: slot 93 := Op.fieldAddr 34 (Operand.tmp 8) 0
                refine lstep_run fun fr wf left => ?_
                obtain ⟨x3, e3, r3⟩ := left.slot 146 rfl 3 92 _ rfl rfl (by decide) rfl
                have s3 := Eq.symm (show x3 = .bool true from r3)
                subst s3
                have o8 := (left.old 8 (by kernel_rfl)).trans rfl
                refine ⟨wanted_yes rfl rfl e3, fun K hK => ?_⟩
                have hB := hide left.base
                clear left
                go_simp
                exact hK _ _ rfl hB.out (Below.refl _ _)
              refine And.intro ?_ ?_
              · -- 5: slot 94 := Op.load 3 (Operand.tmp 93)
                refine lstep_run fun fr wf left => ?_
                obtain ⟨x3, e3, r3⟩ := left.slot 146 rfl 3 92 _ rfl rfl (by decide) rfl
                have s3 := Eq.symm (show x3 = .bool true from r3)
                subst s3
                obtain ⟨x4, e4, r4⟩ := left.slot 146 rfl 4 93 _ rfl rfl (by decide) rfl
                have s4 := Eq.symm (show x4 = .pointer (some ⟨w.heap.size, 0, none⟩) from r4)
                subst s4
                refine ⟨wanted_yes rfl rfl e3, fun K hK => ?_⟩
                have hB := hide left.base
                have hc := (cell_blk ((hB.out.block w.heap.size (heap_lt HZ9.out)).trans HZ9.out) 0).trans rfl
                clear left
                go_simp
                exact hK _ _ rfl hB.out (Below.refl _ _)
              refine And.intro ?_ ?_
              · -- 6: slot 95 := Op.binOp BinOp.leq 3 (Operand.tmp 94) (Operand.const (Value.int IntKind.i64 32)) 3
                refine lstep_run fun fr wf left => ?_
                obtain ⟨x3, e3, r3⟩ := left.slot 146 rfl 3 92 _ rfl rfl (by decide) rfl
                have s3 := Eq.symm (show x3 = .bool true from r3)
                subst s3
                obtain ⟨x5, e5, r5⟩ := left.slot 146 rfl 5 94 _ rfl rfl (by decide) rfl
                have s5 := Eq.symm (show x5 = .int .i64 k' from r5)
                subst s5
                refine ⟨wanted_yes rfl rfl e3, fun K hK => ?_⟩
                have hB := hide left.base
                clear left
                go_simp
                exact hK _ _ rfl hB.out (Below.refl _ _)
              refine And.intro ?_ ?_
              · -- 7: slot 96 := Op.pick (Operand.tmp 92) (Operand.tmp 95) (Operand.const (Value.bool false))
                refine lstep_run fun fr wf left => ?_
                obtain ⟨x3, e3, r3⟩ := left.slot 146 rfl 3 92 _ rfl rfl (by decide) rfl
                have s3 := Eq.symm (show x3 = .bool true from r3)
                subst s3
                obtain ⟨x6, e6, r6⟩ := left.slot 146 rfl 6 95 _ rfl rfl (by decide) rfl
                have s6 := Eq.symm (show x6 = .bool true from r6)
                subst s6
                refine ⟨wanted_none rfl, fun K hK => ?_⟩
                have hB := hide left.base
                clear left
                go_simp
                exact hK _ _ rfl hB.out (Below.refl _ _)
              refine And.intro ?_ ?_
              · -- 8: slot 97 := Op.move (Operand.tmp 96)
                refine lstep_run fun fr wf left => ?_
                obtain ⟨x7, e7, r7⟩ := left.slot 146 rfl 7 96 _ rfl rfl (by decide) rfl
                have s7 := Eq.symm (show x7 = .bool true from r7)
                subst s7
                refine ⟨wanted_none rfl, fun K hK => ?_⟩
                have hB := hide left.base
                clear left
                go_simp
                exact hK _ _ rfl hB.out (Below.refl _ _)
              refine And.intro ?_ ?_
              · -- 9: slot 98 := Op.load 31 (Operand.tmp 17)
                refine lstep_run fun fr wf left => ?_
                obtain ⟨x8, e8, r8⟩ := left.slot 146 rfl 8 97 _ rfl rfl (by decide) rfl
                have s8 := Eq.symm (show x8 = .bool true from r8)
                subst s8
                have o17 := (left.old 17 (by kernel_rfl)).trans rfl
                refine ⟨wanted_yes rfl rfl e8, fun K hK => ?_⟩
                have hB := hide left.base
                have hc := (hB.out.block w8.heap.size (heap_lt HY9.out)).trans HY9.out
                clear left
                refine wp_load_row 31 (.tmp 17) rfl w8.heap.size (eval_tmp (v := .pointer (some ⟨w8.heap.size, 0, none⟩)) o17) 31 _ (0, 0) _ hc Try.underlying31 rfl (by kernel_rfl) ?_
                exact hK _ _ rfl hB.out (Below.refl _ _)
              refine And.intro ?_ ?_
              · -- 10: slot 99 := Op.load 34 (Operand.tmp 8)
                refine lstep_run fun fr wf left => ?_
                obtain ⟨x8, e8, r8⟩ := left.slot 146 rfl 8 97 _ rfl rfl (by decide) rfl
                have s8 := Eq.symm (show x8 = .bool true from r8)
                subst s8
                have o8 := (left.old 8 (by kernel_rfl)).trans rfl
                refine ⟨wanted_yes rfl rfl e8, fun K hK => ?_⟩
                have hB := hide left.base
                have hc := (hB.out.block w.heap.size (heap_lt HZ9.out)).trans HZ9.out
                clear left
                refine wp_load_row 34 (.tmp 8) rfl w.heap.size (eval_tmp (v := .pointer (some ⟨w.heap.size, 0, none⟩)) o8) 34 _ (0, 0) _ hc Try.underlying34 rfl (by kernel_rfl) ?_
                exact hK _ _ rfl hB.out (Below.refl _ _)
              refine And.intro ?_ ?_
              · -- 11: slot 100 := Op.call { callee := Callee.value (Operand.func 14), args := #[Operand.tmp 99], argTypes :=
                refine lstep_run fun fr wf left => ?_
                obtain ⟨x8, e8, r8⟩ := left.slot 146 rfl 8 97 _ rfl rfl (by decide) rfl
                have s8 := Eq.symm (show x8 = .bool true from r8)
                subst s8
                obtain ⟨x10, e10, r10⟩ := left.slot 146 rfl 10 99 _ rfl rfl (by decide) rfl
                have s10 := Eq.symm (show x10 = .agg #[.int .i64 k', .int .u64 (a' : Int), .int .u64 (b' : Int), .int .u64 (c' : Int), .int .u32 (d' : Int)] from r10)
                subst s10
                refine ⟨wanted_yes rfl rfl e8, fun K hK => ?_⟩
                have hB := hide left.base
                clear left
                go_simp
                refine (mine_val ⟨k', a', b', c', d'⟩ _).mono ?_
                rintro e w' ⟨rfl, hb⟩
                exact hK _ _ rfl (hB.out.trans (hb.mono (le_base hB.out))) hb
              refine And.intro ?_ ?_
              · -- 12: slot 101 := Op.binOp BinOp.neq 31 (Operand.tmp 98) (Operand.tmp 100) 31
                refine lstep_run fun fr wf left => ?_
                obtain ⟨x8, e8, r8⟩ := left.slot 146 rfl 8 97 _ rfl rfl (by decide) rfl
                have s8 := Eq.symm (show x8 = .bool true from r8)
                subst s8
                obtain ⟨x9, e9, r9⟩ := left.slot 146 rfl 9 98 _ rfl rfl (by decide) rfl
                have s9 := Eq.symm (show x9 = .agg #[.int .i64 k', .int .u64 (a' : Int), .int .u64 (b' : Int), .int .u64 (c' : Int), .int .u32 (d' : Int)] from r9)
                subst s9
                obtain ⟨x11, e11, r11⟩ := left.slot 146 rfl 11 100 _ rfl rfl (by decide) rfl
                have s11 := Eq.symm (show x11 = .agg #[.int .i64 k', .int .u64 (a' : Int), .int .u64 (b' : Int), .int .u64 (c' : Int), .int .u32 (d' : Int)] from r11)
                subst s11
                refine ⟨wanted_yes rfl rfl e8, fun K hK => ?_⟩
                have hB := hide left.base
                clear left
                go_simp
                exact hK _ _ rfl hB.out (Below.refl _ _)
              refine And.intro ?_ ?_
              · -- 13: slot 102 := Op.move (Operand.tmp 101)
                refine lstep_run fun fr wf left => ?_
                obtain ⟨x8, e8, r8⟩ := left.slot 146 rfl 8 97 _ rfl rfl (by decide) rfl
                have s8 := Eq.symm (show x8 = .bool true from r8)
                subst s8
                obtain ⟨x12, e12, r12⟩ := left.slot 146 rfl 12 101 _ rfl rfl (by decide) rfl
                have s12 := Eq.symm (show x12 = .bool false from r12)
                subst s12
                refine ⟨wanted_yes rfl rfl e8, fun K hK => ?_⟩
                have hB := hide left.base
                clear left
                go_simp
                exact hK _ _ rfl hB.out (Below.refl _ _)
              refine And.intro ?_ ?_
              · -- 14: slot 103 := Op.move (Operand.tmp 18)
                refine lstep_run fun fr wf left => ?_
                obtain ⟨x13, e13, r13⟩ := left.slot 146 rfl 13 102 _ rfl rfl (by decide) rfl
                have s13 := Eq.symm (show x13 = .bool false from r13)
                subst s13
                have o18 := (left.old 18 (by kernel_rfl)).trans rfl
                refine ⟨wanted_yes rfl rfl e13, fun K hK => ?_⟩
                have hB := hide left.base
                clear left
                go_simp
                exact hK _ _ rfl hB.out (Below.refl _ _)
              refine And.intro ?_ ?_
              · -- 15: slot 104 := Op.binOp BinOp.neq 24 (Operand.tmp 103) (Operand.const (Value.int IntKind.i64 0)) 24
                refine lstep_run fun fr wf left => ?_
                obtain ⟨x13, e13, r13⟩ := left.slot 146 rfl 13 102 _ rfl rfl (by decide) rfl
                have s13 := Eq.symm (show x13 = .bool false from r13)
                subst s13
                obtain ⟨x14, e14, r14⟩ := left.slot 146 rfl 14 103 _ rfl rfl (by decide) rfl
                have s14 := Eq.symm (show x14 = .int .i64 0 from r14)
                subst s14
                refine ⟨wanted_yes rfl rfl e13, fun K hK => ?_⟩
                have hB := hide left.base
                clear left
                go_simp
                exact hK _ _ rfl hB.out (Below.refl _ _)
              refine And.intro ?_ ?_
              · -- 16: slot 105 := Op.pick (Operand.tmp 102) (Operand.const (Value.bool true)) (Operand.tmp 104)
                refine lstep_run fun fr wf left => ?_
                obtain ⟨x8, e8, r8⟩ := left.slot 146 rfl 8 97 _ rfl rfl (by decide) rfl
                have s8 := Eq.symm (show x8 = .bool true from r8)
                subst s8
                obtain ⟨x13, e13, r13⟩ := left.slot 146 rfl 13 102 _ rfl rfl (by decide) rfl
                have s13 := Eq.symm (show x13 = .bool false from r13)
                subst s13
                obtain ⟨x15, e15, r15⟩ := left.slot 146 rfl 15 104 _ rfl rfl (by decide) rfl
                have s15 := Eq.symm (show x15 = .bool false from r15)
                subst s15
                refine ⟨wanted_yes rfl rfl e8, fun K hK => ?_⟩
                have hB := hide left.base
                clear left
                go_simp
                exact hK _ _ rfl hB.out (Below.refl _ _)
              refine And.intro ?_ ?_
              · -- 17: slot 106 := Op.pick (Operand.tmp 97) (Operand.tmp 105) (Operand.const (Value.bool false))
                refine lstep_run fun fr wf left => ?_
                obtain ⟨x8, e8, r8⟩ := left.slot 146 rfl 8 97 _ rfl rfl (by decide) rfl
                have s8 := Eq.symm (show x8 = .bool true from r8)
                subst s8
                obtain ⟨x16, e16, r16⟩ := left.slot 146 rfl 16 105 _ rfl rfl (by decide) rfl
                have s16 := Eq.symm (show x16 = .bool false from r16)
                subst s16
                refine ⟨wanted_none rfl, fun K hK => ?_⟩
                have hB := hide left.base
                clear left
                go_simp
                exact hK _ _ rfl hB.out (Below.refl _ _)
              exact trivial
            · intro fr wf hB hs hd hall hkeep
              have h106 : fr.tmps.getD 106 undef = .bool false := hall 17 _ rfl (by simp)
              have hfr := act_ext (frame_set hs hkeep [89, 90, 91, 92, 93, 94, 95, 96, 97, 98, 99, 100, 101, 102, 103, 104, 105, 106] (by kernel_rfl)) hd
              obtain ⟨q89, hq89⟩ : ∃ q, q = fr.tmps.getD 89 undef := ⟨_, rfl⟩
              obtain ⟨q90, hq90⟩ : ∃ q, q = fr.tmps.getD 90 undef := ⟨_, rfl⟩
              obtain ⟨q91, hq91⟩ : ∃ q, q = fr.tmps.getD 91 undef := ⟨_, rfl⟩
              obtain ⟨q92, hq92⟩ : ∃ q, q = fr.tmps.getD 92 undef := ⟨_, rfl⟩
              obtain ⟨q93, hq93⟩ : ∃ q, q = fr.tmps.getD 93 undef := ⟨_, rfl⟩
              obtain ⟨q94, hq94⟩ : ∃ q, q = fr.tmps.getD 94 undef := ⟨_, rfl⟩
              obtain ⟨q95, hq95⟩ : ∃ q, q = fr.tmps.getD 95 undef := ⟨_, rfl⟩
              obtain ⟨q96, hq96⟩ : ∃ q, q = fr.tmps.getD 96 undef := ⟨_, rfl⟩
              obtain ⟨q97, hq97⟩ : ∃ q, q = fr.tmps.getD 97 undef := ⟨_, rfl⟩
              obtain ⟨q98, hq98⟩ : ∃ q, q = fr.tmps.getD 98 undef := ⟨_, rfl⟩
              obtain ⟨q99, hq99⟩ : ∃ q, q = fr.tmps.getD 99 undef := ⟨_, rfl⟩
              obtain ⟨q100, hq100⟩ : ∃ q, q = fr.tmps.getD 100 undef := ⟨_, rfl⟩
              obtain ⟨q101, hq101⟩ : ∃ q, q = fr.tmps.getD 101 undef := ⟨_, rfl⟩
              obtain ⟨q102, hq102⟩ : ∃ q, q = fr.tmps.getD 102 undef := ⟨_, rfl⟩
              obtain ⟨q103, hq103⟩ : ∃ q, q = fr.tmps.getD 103 undef := ⟨_, rfl⟩
              obtain ⟨q104, hq104⟩ : ∃ q, q = fr.tmps.getD 104 undef := ⟨_, rfl⟩
              obtain ⟨q105, hq105⟩ : ∃ q, q = fr.tmps.getD 105 undef := ⟨_, rfl⟩
              obtain ⟨q106, hq106⟩ : ∃ q, q = fr.tmps.getD 106 undef := ⟨_, rfl⟩
              rw [← hq106] at h106
              simp only [List.foldl, ← hq89, ← hq90, ← hq91, ← hq92, ← hq93, ← hq94, ← hq95, ← hq96, ← hq97, ← hq98, ← hq99, ← hq100, ← hq101, ← hq102, ← hq103, ← hq104, ← hq105, ← hq106] at hfr
              simp only [List.setIfInBounds_toArray, List.set_cons_zero, List.set_cons_succ] at hfr
              clear hall hkeep hs hd hq89 hq90 hq91 hq92 hq93 hq94 hq95 hq96 hq97 hq98 hq99 hq100 hq101 hq102 hq103 hq104 hq105 hq106
              subst hfr
              subst h106
              go_wp2_with fail
              go_meet
              case rel => exact ⟨rfl, HBV.out.trans (hB.mono HBV.out.size)⟩
            -- END REGION backa
          · have hr2' : ¬ mk ≤ 32 := hr2
-- REGION backb
            
            refine wp_region_local (by kernel_rfl) (by kernel_rfl) (useList backbU) [17] (by kernel_rfl) (spR (backbL w w8 mk)) (fun _ _ => True) (Below V9.heap.size V9) (fun _ w w' => Below w.heap.size w w') spR_stays (fun _ _ _ _ _ h _ => h) (fun _ _ => Below.refl _ _) (dsts_lt (N := 146) (by kernel_rfl)) ((Below.refl _ _).drew) (fun _ _ => trivial) (all_ops ?_) ?_
            · refine And.intro ?_ ?_
              · -- 0: slot 89 := Op.fieldAddr 34 (Operand.tmp 8) 0
                refine lstep_run fun fr wf left => ?_
                have o8 := (left.old 8 (by kernel_rfl)).trans rfl
                refine ⟨wanted_none rfl, fun K hK => ?_⟩
                have hB := hide left.base
                clear left
                go_simp
                exact hK _ _ rfl hB.out (Below.refl _ _)
              refine And.intro ?_ ?_
              · -- 1: slot 90 := Op.load 3 (Operand.tmp 89)
                refine lstep_run fun fr wf left => ?_
                obtain ⟨x0, e0, r0⟩ := left.slot 146 rfl 0 89 _ rfl rfl (by decide) rfl
                have s0 := Eq.symm (show x0 = .pointer (some ⟨w.heap.size, 0, none⟩) from r0)
                subst s0
                refine ⟨wanted_none rfl, fun K hK => ?_⟩
                have hB := hide left.base
                have hc := (cell_blk ((hB.out.block w.heap.size (heap_lt HZ9.out)).trans HZ9.out) 0).trans rfl
                clear left
                go_simp
                exact hK _ _ rfl hB.out (Below.refl _ _)
              refine And.intro ?_ ?_
              · -- 2: slot 91 := Op.binOp BinOp.geq 3 (Operand.tmp 90) (Operand.const (Value.int IntKind.i64 1)) 3
                refine lstep_run fun fr wf left => ?_
                obtain ⟨x1, e1, r1⟩ := left.slot 146 rfl 1 90 _ rfl rfl (by decide) rfl
                have s1 := Eq.symm (show x1 = .int .i64 mk from r1)
                subst s1
                refine ⟨wanted_none rfl, fun K hK => ?_⟩
                have hB := hide left.base
                clear left
                go_simp
                exact hK _ _ rfl hB.out (Below.refl _ _)
              refine And.intro ?_ ?_
              · -- 3: slot 92 := Op.move (Operand.tmp 91)
                refine lstep_run fun fr wf left => ?_
                obtain ⟨x2, e2, r2⟩ := left.slot 146 rfl 2 91 _ rfl rfl (by decide) rfl
                have s2 := Eq.symm (show x2 = .bool true from r2)
                subst s2
                refine ⟨wanted_none rfl, fun K hK => ?_⟩
                have hB := hide left.base
                clear left
                go_simp
                exact hK _ _ rfl hB.out (Below.refl _ _)
              refine And.intro ?_ ?_
              · -- 4: slot 93 := Op.fieldAddr 34 (Operand.tmp 8) 0
                refine lstep_run fun fr wf left => ?_
                obtain ⟨x3, e3, r3⟩ := left.slot 146 rfl 3 92 _ rfl rfl (by decide) rfl
                have s3 := Eq.symm (show x3 = .bool true from r3)
                subst s3
                have o8 := (left.old 8 (by kernel_rfl)).trans rfl
                refine ⟨wanted_yes rfl rfl e3, fun K hK => ?_⟩
                have hB := hide left.base
                clear left
                go_simp
                exact hK _ _ rfl hB.out (Below.refl _ _)
              refine And.intro ?_ ?_
              · -- 5: slot 94 := Op.load 3 (Operand.tmp 93)
                refine lstep_run fun fr wf left => ?_
                obtain ⟨x3, e3, r3⟩ := left.slot 146 rfl 3 92 _ rfl rfl (by decide) rfl
                have s3 := Eq.symm (show x3 = .bool true from r3)
                subst s3
                obtain ⟨x4, e4, r4⟩ := left.slot 146 rfl 4 93 _ rfl rfl (by decide) rfl
                have s4 := Eq.symm (show x4 = .pointer (some ⟨w.heap.size, 0, none⟩) from r4)
                subst s4
                refine ⟨wanted_yes rfl rfl e3, fun K hK => ?_⟩
                have hB := hide left.base
                have hc := (cell_blk ((hB.out.block w.heap.size (heap_lt HZ9.out)).trans HZ9.out) 0).trans rfl
                clear left
                go_simp
                exact hK _ _ rfl hB.out (Below.refl _ _)
              refine And.intro ?_ ?_
              · -- 6: slot 95 := Op.binOp BinOp.leq 3 (Operand.tmp 94) (Operand.const (Value.int IntKind.i64 32)) 3
                refine lstep_run fun fr wf left => ?_
                obtain ⟨x3, e3, r3⟩ := left.slot 146 rfl 3 92 _ rfl rfl (by decide) rfl
                have s3 := Eq.symm (show x3 = .bool true from r3)
                subst s3
                obtain ⟨x5, e5, r5⟩ := left.slot 146 rfl 5 94 _ rfl rfl (by decide) rfl
                have s5 := Eq.symm (show x5 = .int .i64 mk from r5)
                subst s5
                refine ⟨wanted_yes rfl rfl e3, fun K hK => ?_⟩
                have hB := hide left.base
                clear left
                go_simp
                exact hK _ _ rfl hB.out (Below.refl _ _)
              refine And.intro ?_ ?_
              · -- 7: slot 96 := Op.pick (Operand.tmp 92) (Operand.tmp 95) (Operand.const (Value.bool false))
                refine lstep_run fun fr wf left => ?_
                obtain ⟨x3, e3, r3⟩ := left.slot 146 rfl 3 92 _ rfl rfl (by decide) rfl
                have s3 := Eq.symm (show x3 = .bool true from r3)
                subst s3
                obtain ⟨x6, e6, r6⟩ := left.slot 146 rfl 6 95 _ rfl rfl (by decide) rfl
                have s6 := Eq.symm (show x6 = .bool false from r6)
                subst s6
                refine ⟨wanted_none rfl, fun K hK => ?_⟩
                have hB := hide left.base
                clear left
                go_simp
                exact hK _ _ rfl hB.out (Below.refl _ _)
              refine And.intro ?_ ?_
              · -- 8: slot 97 := Op.move (Operand.tmp 96)
                refine lstep_run fun fr wf left => ?_
                obtain ⟨x7, e7, r7⟩ := left.slot 146 rfl 7 96 _ rfl rfl (by decide) rfl
                have s7 := Eq.symm (show x7 = .bool false from r7)
                subst s7
                refine ⟨wanted_none rfl, fun K hK => ?_⟩
                have hB := hide left.base
                clear left
                go_simp
                exact hK _ _ rfl hB.out (Below.refl _ _)
              refine And.intro ?_ ?_
              · -- 9: slot 98 := Op.load 31 (Operand.tmp 17)
                refine lstep_skip fun fr wf left => ?_
                obtain ⟨x8, e8, r8⟩ := left.slot 146 rfl 8 97 _ rfl rfl (by decide) rfl
                have s8 := Eq.symm (show x8 = .bool false from r8)
                subst s8
                exact ⟨wanted_no rfl rfl e8 (by decide), rfl⟩
              refine And.intro ?_ ?_
              · -- 10: slot 99 := Op.load 34 (Operand.tmp 8)
                refine lstep_skip fun fr wf left => ?_
                obtain ⟨x8, e8, r8⟩ := left.slot 146 rfl 8 97 _ rfl rfl (by decide) rfl
                have s8 := Eq.symm (show x8 = .bool false from r8)
                subst s8
                exact ⟨wanted_no rfl rfl e8 (by decide), rfl⟩
              refine And.intro ?_ ?_
              · -- 11: slot 100 := Op.call { callee := Callee.value (Operand.func 14), args := #[Operand.tmp 99], argTypes :=
                refine lstep_skip fun fr wf left => ?_
                obtain ⟨x8, e8, r8⟩ := left.slot 146 rfl 8 97 _ rfl rfl (by decide) rfl
                have s8 := Eq.symm (show x8 = .bool false from r8)
                subst s8
                exact ⟨wanted_no rfl rfl e8 (by decide), rfl⟩
              refine And.intro ?_ ?_
              · -- 12: slot 101 := Op.binOp BinOp.neq 31 (Operand.tmp 98) (Operand.tmp 100) 31
                refine lstep_skip fun fr wf left => ?_
                obtain ⟨x8, e8, r8⟩ := left.slot 146 rfl 8 97 _ rfl rfl (by decide) rfl
                have s8 := Eq.symm (show x8 = .bool false from r8)
                subst s8
                exact ⟨wanted_no rfl rfl e8 (by decide), rfl⟩
              refine And.intro ?_ ?_
              · -- 13: slot 102 := Op.move (Operand.tmp 101)
                refine lstep_skip fun fr wf left => ?_
                obtain ⟨x8, e8, r8⟩ := left.slot 146 rfl 8 97 _ rfl rfl (by decide) rfl
                have s8 := Eq.symm (show x8 = .bool false from r8)
                subst s8
                exact ⟨wanted_no rfl rfl e8 (by decide), rfl⟩
              refine And.intro ?_ ?_
              · -- 14: slot 103 := Op.move (Operand.tmp 18)
                refine lstep_skip fun fr wf left => ?_
                obtain ⟨x13, e13, r13⟩ := left.slot 146 rfl 13 102 _ rfl rfl (by decide) rfl
                have s13 := Eq.symm (show x13 = undef from r13)
                subst s13
                exact ⟨wanted_undef rfl rfl e13, rfl⟩
              refine And.intro ?_ ?_
              · -- 15: slot 104 := Op.binOp BinOp.neq 24 (Operand.tmp 103) (Operand.const (Value.int IntKind.i64 0)) 24
                refine lstep_skip fun fr wf left => ?_
                obtain ⟨x13, e13, r13⟩ := left.slot 146 rfl 13 102 _ rfl rfl (by decide) rfl
                have s13 := Eq.symm (show x13 = undef from r13)
                subst s13
                exact ⟨wanted_undef rfl rfl e13, rfl⟩
              refine And.intro ?_ ?_
              · -- 16: slot 105 := Op.pick (Operand.tmp 102) (Operand.const (Value.bool true)) (Operand.tmp 104)
                refine lstep_skip fun fr wf left => ?_
                obtain ⟨x8, e8, r8⟩ := left.slot 146 rfl 8 97 _ rfl rfl (by decide) rfl
                have s8 := Eq.symm (show x8 = .bool false from r8)
                subst s8
                exact ⟨wanted_no rfl rfl e8 (by decide), rfl⟩
              refine And.intro ?_ ?_
              · -- 17: slot 106 := Op.pick (Operand.tmp 97) (Operand.tmp 105) (Operand.const (Value.bool false))
                refine lstep_run fun fr wf left => ?_
                obtain ⟨x8, e8, r8⟩ := left.slot 146 rfl 8 97 _ rfl rfl (by decide) rfl
                have s8 := Eq.symm (show x8 = .bool false from r8)
                subst s8
                obtain ⟨x16, e16, r16⟩ := left.slot 146 rfl 16 105 _ rfl rfl (by decide) rfl
                have s16 := Eq.symm (show x16 = undef from r16)
                subst s16
                refine ⟨wanted_none rfl, fun K hK => ?_⟩
                have hB := hide left.base
                clear left
                go_simp
                exact hK _ _ rfl hB.out (Below.refl _ _)
              exact trivial
            · intro fr wf hB hs hd hall hkeep
              have h106 : fr.tmps.getD 106 undef = .bool false := hall 17 _ rfl (by simp)
              have hfr := act_ext (frame_set hs hkeep [89, 90, 91, 92, 93, 94, 95, 96, 97, 98, 99, 100, 101, 102, 103, 104, 105, 106] (by kernel_rfl)) hd
              obtain ⟨q89, hq89⟩ : ∃ q, q = fr.tmps.getD 89 undef := ⟨_, rfl⟩
              obtain ⟨q90, hq90⟩ : ∃ q, q = fr.tmps.getD 90 undef := ⟨_, rfl⟩
              obtain ⟨q91, hq91⟩ : ∃ q, q = fr.tmps.getD 91 undef := ⟨_, rfl⟩
              obtain ⟨q92, hq92⟩ : ∃ q, q = fr.tmps.getD 92 undef := ⟨_, rfl⟩
              obtain ⟨q93, hq93⟩ : ∃ q, q = fr.tmps.getD 93 undef := ⟨_, rfl⟩
              obtain ⟨q94, hq94⟩ : ∃ q, q = fr.tmps.getD 94 undef := ⟨_, rfl⟩
              obtain ⟨q95, hq95⟩ : ∃ q, q = fr.tmps.getD 95 undef := ⟨_, rfl⟩
              obtain ⟨q96, hq96⟩ : ∃ q, q = fr.tmps.getD 96 undef := ⟨_, rfl⟩
              obtain ⟨q97, hq97⟩ : ∃ q, q = fr.tmps.getD 97 undef := ⟨_, rfl⟩
              obtain ⟨q98, hq98⟩ : ∃ q, q = fr.tmps.getD 98 undef := ⟨_, rfl⟩
              obtain ⟨q99, hq99⟩ : ∃ q, q = fr.tmps.getD 99 undef := ⟨_, rfl⟩
              obtain ⟨q100, hq100⟩ : ∃ q, q = fr.tmps.getD 100 undef := ⟨_, rfl⟩
              obtain ⟨q101, hq101⟩ : ∃ q, q = fr.tmps.getD 101 undef := ⟨_, rfl⟩
              obtain ⟨q102, hq102⟩ : ∃ q, q = fr.tmps.getD 102 undef := ⟨_, rfl⟩
              obtain ⟨q103, hq103⟩ : ∃ q, q = fr.tmps.getD 103 undef := ⟨_, rfl⟩
              obtain ⟨q104, hq104⟩ : ∃ q, q = fr.tmps.getD 104 undef := ⟨_, rfl⟩
              obtain ⟨q105, hq105⟩ : ∃ q, q = fr.tmps.getD 105 undef := ⟨_, rfl⟩
              obtain ⟨q106, hq106⟩ : ∃ q, q = fr.tmps.getD 106 undef := ⟨_, rfl⟩
              rw [← hq106] at h106
              simp only [List.foldl, ← hq89, ← hq90, ← hq91, ← hq92, ← hq93, ← hq94, ← hq95, ← hq96, ← hq97, ← hq98, ← hq99, ← hq100, ← hq101, ← hq102, ← hq103, ← hq104, ← hq105, ← hq106] at hfr
              simp only [List.setIfInBounds_toArray, List.set_cons_zero, List.set_cons_succ] at hfr
              clear hall hkeep hs hd hq89 hq90 hq91 hq92 hq93 hq94 hq95 hq96 hq97 hq98 hq99 hq100 hq101 hq102 hq103 hq104 hq105 hq106
              subst hfr
              subst h106
              go_wp2_with fail
              go_meet
              case rel => exact ⟨rfl, HBV.out.trans (hB.mono HBV.out.size)⟩
            -- END REGION backb
        · have hr1' : ¬ 1 ≤ mk := hr1
-- REGION backc
          
          refine wp_region_local (by kernel_rfl) (by kernel_rfl) (useList backcU) [17] (by kernel_rfl) (spR (backcL w w8 mk)) (fun _ _ => True) (Below V9.heap.size V9) (fun _ w w' => Below w.heap.size w w') spR_stays (fun _ _ _ _ _ h _ => h) (fun _ _ => Below.refl _ _) (dsts_lt (N := 146) (by kernel_rfl)) ((Below.refl _ _).drew) (fun _ _ => trivial) (all_ops ?_) ?_
          · refine And.intro ?_ ?_
            · -- 0: slot 89 := Op.fieldAddr 34 (Operand.tmp 8) 0
              refine lstep_run fun fr wf left => ?_
              have o8 := (left.old 8 (by kernel_rfl)).trans rfl
              refine ⟨wanted_none rfl, fun K hK => ?_⟩
              have hB := hide left.base
              clear left
              go_simp
              exact hK _ _ rfl hB.out (Below.refl _ _)
            refine And.intro ?_ ?_
            · -- 1: slot 90 := Op.load 3 (Operand.tmp 89)
              refine lstep_run fun fr wf left => ?_
              obtain ⟨x0, e0, r0⟩ := left.slot 146 rfl 0 89 _ rfl rfl (by decide) rfl
              have s0 := Eq.symm (show x0 = .pointer (some ⟨w.heap.size, 0, none⟩) from r0)
              subst s0
              refine ⟨wanted_none rfl, fun K hK => ?_⟩
              have hB := hide left.base
              have hc := (cell_blk ((hB.out.block w.heap.size (heap_lt HZ9.out)).trans HZ9.out) 0).trans rfl
              clear left
              go_simp
              exact hK _ _ rfl hB.out (Below.refl _ _)
            refine And.intro ?_ ?_
            · -- 2: slot 91 := Op.binOp BinOp.geq 3 (Operand.tmp 90) (Operand.const (Value.int IntKind.i64 1)) 3
              refine lstep_run fun fr wf left => ?_
              obtain ⟨x1, e1, r1⟩ := left.slot 146 rfl 1 90 _ rfl rfl (by decide) rfl
              have s1 := Eq.symm (show x1 = .int .i64 mk from r1)
              subst s1
              refine ⟨wanted_none rfl, fun K hK => ?_⟩
              have hB := hide left.base
              clear left
              go_simp
              exact hK _ _ rfl hB.out (Below.refl _ _)
            refine And.intro ?_ ?_
            · -- 3: slot 92 := Op.move (Operand.tmp 91)
              refine lstep_run fun fr wf left => ?_
              obtain ⟨x2, e2, r2⟩ := left.slot 146 rfl 2 91 _ rfl rfl (by decide) rfl
              have s2 := Eq.symm (show x2 = .bool false from r2)
              subst s2
              refine ⟨wanted_none rfl, fun K hK => ?_⟩
              have hB := hide left.base
              clear left
              go_simp
              exact hK _ _ rfl hB.out (Below.refl _ _)
            refine And.intro ?_ ?_
            · -- 4: slot 93 := Op.fieldAddr 34 (Operand.tmp 8) 0
              refine lstep_skip fun fr wf left => ?_
              obtain ⟨x3, e3, r3⟩ := left.slot 146 rfl 3 92 _ rfl rfl (by decide) rfl
              have s3 := Eq.symm (show x3 = .bool false from r3)
              subst s3
              exact ⟨wanted_no rfl rfl e3 (by decide), rfl⟩
            refine And.intro ?_ ?_
            · -- 5: slot 94 := Op.load 3 (Operand.tmp 93)
              refine lstep_skip fun fr wf left => ?_
              obtain ⟨x3, e3, r3⟩ := left.slot 146 rfl 3 92 _ rfl rfl (by decide) rfl
              have s3 := Eq.symm (show x3 = .bool false from r3)
              subst s3
              exact ⟨wanted_no rfl rfl e3 (by decide), rfl⟩
            refine And.intro ?_ ?_
            · -- 6: slot 95 := Op.binOp BinOp.leq 3 (Operand.tmp 94) (Operand.const (Value.int IntKind.i64 32)) 3
              refine lstep_skip fun fr wf left => ?_
              obtain ⟨x3, e3, r3⟩ := left.slot 146 rfl 3 92 _ rfl rfl (by decide) rfl
              have s3 := Eq.symm (show x3 = .bool false from r3)
              subst s3
              exact ⟨wanted_no rfl rfl e3 (by decide), rfl⟩
            refine And.intro ?_ ?_
            · -- 7: slot 96 := Op.pick (Operand.tmp 92) (Operand.tmp 95) (Operand.const (Value.bool false))
              refine lstep_run fun fr wf left => ?_
              obtain ⟨x3, e3, r3⟩ := left.slot 146 rfl 3 92 _ rfl rfl (by decide) rfl
              have s3 := Eq.symm (show x3 = .bool false from r3)
              subst s3
              obtain ⟨x6, e6, r6⟩ := left.slot 146 rfl 6 95 _ rfl rfl (by decide) rfl
              have s6 := Eq.symm (show x6 = undef from r6)
              subst s6
              refine ⟨wanted_none rfl, fun K hK => ?_⟩
              have hB := hide left.base
              clear left
              go_simp
              exact hK _ _ rfl hB.out (Below.refl _ _)
            refine And.intro ?_ ?_
            · -- 8: slot 97 := Op.move (Operand.tmp 96)
              refine lstep_run fun fr wf left => ?_
              obtain ⟨x7, e7, r7⟩ := left.slot 146 rfl 7 96 _ rfl rfl (by decide) rfl
              have s7 := Eq.symm (show x7 = .bool false from r7)
              subst s7
              refine ⟨wanted_none rfl, fun K hK => ?_⟩
              have hB := hide left.base
              clear left
              go_simp
              exact hK _ _ rfl hB.out (Below.refl _ _)
            refine And.intro ?_ ?_
            · -- 9: slot 98 := Op.load 31 (Operand.tmp 17)
              refine lstep_skip fun fr wf left => ?_
              obtain ⟨x8, e8, r8⟩ := left.slot 146 rfl 8 97 _ rfl rfl (by decide) rfl
              have s8 := Eq.symm (show x8 = .bool false from r8)
              subst s8
              exact ⟨wanted_no rfl rfl e8 (by decide), rfl⟩
            refine And.intro ?_ ?_
            · -- 10: slot 99 := Op.load 34 (Operand.tmp 8)
              refine lstep_skip fun fr wf left => ?_
              obtain ⟨x8, e8, r8⟩ := left.slot 146 rfl 8 97 _ rfl rfl (by decide) rfl
              have s8 := Eq.symm (show x8 = .bool false from r8)
              subst s8
              exact ⟨wanted_no rfl rfl e8 (by decide), rfl⟩
            refine And.intro ?_ ?_
            · -- 11: slot 100 := Op.call { callee := Callee.value (Operand.func 14), args := #[Operand.tmp 99], argTypes :=
              refine lstep_skip fun fr wf left => ?_
              obtain ⟨x8, e8, r8⟩ := left.slot 146 rfl 8 97 _ rfl rfl (by decide) rfl
              have s8 := Eq.symm (show x8 = .bool false from r8)
              subst s8
              exact ⟨wanted_no rfl rfl e8 (by decide), rfl⟩
            refine And.intro ?_ ?_
            · -- 12: slot 101 := Op.binOp BinOp.neq 31 (Operand.tmp 98) (Operand.tmp 100) 31
              refine lstep_skip fun fr wf left => ?_
              obtain ⟨x8, e8, r8⟩ := left.slot 146 rfl 8 97 _ rfl rfl (by decide) rfl
              have s8 := Eq.symm (show x8 = .bool false from r8)
              subst s8
              exact ⟨wanted_no rfl rfl e8 (by decide), rfl⟩
            refine And.intro ?_ ?_
            · -- 13: slot 102 := Op.move (Operand.tmp 101)
              refine lstep_skip fun fr wf left => ?_
              obtain ⟨x8, e8, r8⟩ := left.slot 146 rfl 8 97 _ rfl rfl (by decide) rfl
              have s8 := Eq.symm (show x8 = .bool false from r8)
              subst s8
              exact ⟨wanted_no rfl rfl e8 (by decide), rfl⟩
            refine And.intro ?_ ?_
            · -- 14: slot 103 := Op.move (Operand.tmp 18)
              refine lstep_skip fun fr wf left => ?_
              obtain ⟨x13, e13, r13⟩ := left.slot 146 rfl 13 102 _ rfl rfl (by decide) rfl
              have s13 := Eq.symm (show x13 = undef from r13)
              subst s13
              exact ⟨wanted_undef rfl rfl e13, rfl⟩
            refine And.intro ?_ ?_
            · -- 15: slot 104 := Op.binOp BinOp.neq 24 (Operand.tmp 103) (Operand.const (Value.int IntKind.i64 0)) 24
              refine lstep_skip fun fr wf left => ?_
              obtain ⟨x13, e13, r13⟩ := left.slot 146 rfl 13 102 _ rfl rfl (by decide) rfl
              have s13 := Eq.symm (show x13 = undef from r13)
              subst s13
              exact ⟨wanted_undef rfl rfl e13, rfl⟩
            refine And.intro ?_ ?_
            · -- 16: slot 105 := Op.pick (Operand.tmp 102) (Operand.const (Value.bool true)) (Operand.tmp 104)
              refine lstep_skip fun fr wf left => ?_
              obtain ⟨x8, e8, r8⟩ := left.slot 146 rfl 8 97 _ rfl rfl (by decide) rfl
              have s8 := Eq.symm (show x8 = .bool false from r8)
              subst s8
              exact ⟨wanted_no rfl rfl e8 (by decide), rfl⟩
            refine And.intro ?_ ?_
            · -- 17: slot 106 := Op.pick (Operand.tmp 97) (Operand.tmp 105) (Operand.const (Value.bool false))
              refine lstep_run fun fr wf left => ?_
              obtain ⟨x8, e8, r8⟩ := left.slot 146 rfl 8 97 _ rfl rfl (by decide) rfl
              have s8 := Eq.symm (show x8 = .bool false from r8)
              subst s8
              obtain ⟨x16, e16, r16⟩ := left.slot 146 rfl 16 105 _ rfl rfl (by decide) rfl
              have s16 := Eq.symm (show x16 = undef from r16)
              subst s16
              refine ⟨wanted_none rfl, fun K hK => ?_⟩
              have hB := hide left.base
              clear left
              go_simp
              exact hK _ _ rfl hB.out (Below.refl _ _)
            exact trivial
          · intro fr wf hB hs hd hall hkeep
            have h106 : fr.tmps.getD 106 undef = .bool false := hall 17 _ rfl (by simp)
            have hfr := act_ext (frame_set hs hkeep [89, 90, 91, 92, 93, 94, 95, 96, 97, 98, 99, 100, 101, 102, 103, 104, 105, 106] (by kernel_rfl)) hd
            obtain ⟨q89, hq89⟩ : ∃ q, q = fr.tmps.getD 89 undef := ⟨_, rfl⟩
            obtain ⟨q90, hq90⟩ : ∃ q, q = fr.tmps.getD 90 undef := ⟨_, rfl⟩
            obtain ⟨q91, hq91⟩ : ∃ q, q = fr.tmps.getD 91 undef := ⟨_, rfl⟩
            obtain ⟨q92, hq92⟩ : ∃ q, q = fr.tmps.getD 92 undef := ⟨_, rfl⟩
            obtain ⟨q93, hq93⟩ : ∃ q, q = fr.tmps.getD 93 undef := ⟨_, rfl⟩
            obtain ⟨q94, hq94⟩ : ∃ q, q = fr.tmps.getD 94 undef := ⟨_, rfl⟩
            obtain ⟨q95, hq95⟩ : ∃ q, q = fr.tmps.getD 95 undef := ⟨_, rfl⟩
            obtain ⟨q96, hq96⟩ : ∃ q, q = fr.tmps.getD 96 undef := ⟨_, rfl⟩
            obtain ⟨q97, hq97⟩ : ∃ q, q = fr.tmps.getD 97 undef := ⟨_, rfl⟩
            obtain ⟨q98, hq98⟩ : ∃ q, q = fr.tmps.getD 98 undef := ⟨_, rfl⟩
            obtain ⟨q99, hq99⟩ : ∃ q, q = fr.tmps.getD 99 undef := ⟨_, rfl⟩
            obtain ⟨q100, hq100⟩ : ∃ q, q = fr.tmps.getD 100 undef := ⟨_, rfl⟩
            obtain ⟨q101, hq101⟩ : ∃ q, q = fr.tmps.getD 101 undef := ⟨_, rfl⟩
            obtain ⟨q102, hq102⟩ : ∃ q, q = fr.tmps.getD 102 undef := ⟨_, rfl⟩
            obtain ⟨q103, hq103⟩ : ∃ q, q = fr.tmps.getD 103 undef := ⟨_, rfl⟩
            obtain ⟨q104, hq104⟩ : ∃ q, q = fr.tmps.getD 104 undef := ⟨_, rfl⟩
            obtain ⟨q105, hq105⟩ : ∃ q, q = fr.tmps.getD 105 undef := ⟨_, rfl⟩
            obtain ⟨q106, hq106⟩ : ∃ q, q = fr.tmps.getD 106 undef := ⟨_, rfl⟩
            rw [← hq106] at h106
            simp only [List.foldl, ← hq89, ← hq90, ← hq91, ← hq92, ← hq93, ← hq94, ← hq95, ← hq96, ← hq97, ← hq98, ← hq99, ← hq100, ← hq101, ← hq102, ← hq103, ← hq104, ← hq105, ← hq106] at hfr
            simp only [List.setIfInBounds_toArray, List.set_cons_zero, List.set_cons_succ] at hfr
            clear hall hkeep hs hd hq89 hq90 hq91 hq92 hq93 hq94 hq95 hq96 hq97 hq98 hq99 hq100 hq101 hq102 hq103 hq104 hq105 hq106
            subst hfr
            subst h106
            go_wp2_with fail
            go_meet
            case rel => exact ⟨rfl, HBV.out.trans (hB.mono HBV.out.size)⟩
          -- END REGION backc
      case rest =>
        obtain ⟨rfl, HBX⟩ := hcut
        rename_i wx
        cases hrp : Rec.readPayB tail with
        | none =>
          have hv : Rec.payV (Rec.readPayB tail) = .tuple #[.string ⟨#[]⟩, .int .i64 0, .int .i64 180] := by rw [hrp]; rfl
          have HV := hide hv
          clear hrp hv
          go_wp2_with fail
          refine (readPay_val tail _ _ (by omega) HV.out).mono ?_
          rintro e w10 ⟨rfl, hb10⟩
          have HB10 := hide (below_next HBX.out hb10)
          clear hb10
          go_wp2_with fail
-- REGION backn
          rename_i hrest
          refine wp_region_local (by kernel_rfl) (by kernel_rfl) (useList backnU) [19] (by kernel_rfl) (spR (backnL tail)) (fun _ _ => True) (Below w10.heap.size w10) (fun _ w w' => Below w.heap.size w w') spR_stays (fun _ _ _ _ _ h _ => h) (fun _ _ => Below.refl _ _) (dsts_lt (N := 146) (by kernel_rfl)) ((Below.refl _ _).drew) (fun _ _ => trivial) (all_ops ?_) ?_
          · refine And.intro ?_ ?_
            · -- 0: slot 113 := Op.move (Operand.tmp 18)
              refine lstep_run fun fr wf left => ?_
              have o18 := (left.old 18 (by kernel_rfl)).trans rfl
              refine ⟨wanted_none rfl, fun K hK => ?_⟩
              have hB := hide left.base
              clear left
              go_simp
              exact hK _ _ rfl hB.out (Below.refl _ _)
            refine And.intro ?_ ?_
            · -- 1: slot 114 := Op.binOp BinOp.eql 24 (Operand.tmp 113) (Operand.const (Value.int IntKind.i64 0)) 24
              refine lstep_run fun fr wf left => ?_
              obtain ⟨x0, e0, r0⟩ := left.slot 146 rfl 0 113 _ rfl rfl (by decide) rfl
              have s0 := Eq.symm (show x0 = .int .i64 180 from r0)
              subst s0
              refine ⟨wanted_none rfl, fun K hK => ?_⟩
              have hB := hide left.base
              clear left
              go_simp
              exact hK _ _ rfl hB.out (Below.refl _ _)
            refine And.intro ?_ ?_
            · -- 2: slot 115 := Op.move (Operand.tmp 114)
              refine lstep_run fun fr wf left => ?_
              obtain ⟨x1, e1, r1⟩ := left.slot 146 rfl 1 114 _ rfl rfl (by decide) rfl
              have s1 := Eq.symm (show x1 = .bool false from r1)
              subst s1
              refine ⟨wanted_none rfl, fun K hK => ?_⟩
              have hB := hide left.base
              clear left
              go_simp
              exact hK _ _ rfl hB.out (Below.refl _ _)
            refine And.intro ?_ ?_
            · -- 3: slot 116 := Op.move (Operand.tmp 20)
              refine lstep_skip fun fr wf left => ?_
              obtain ⟨x2, e2, r2⟩ := left.slot 146 rfl 2 115 _ rfl rfl (by decide) rfl
              have s2 := Eq.symm (show x2 = .bool false from r2)
              subst s2
              exact ⟨wanted_no rfl rfl e2 (by decide), rfl⟩
            refine And.intro ?_ ?_
            · -- 4: slot 117 := Op.binOp BinOp.lss 3 (Operand.tmp 116) (Operand.const (Value.int IntKind.i64 0)) 3
              refine lstep_skip fun fr wf left => ?_
              obtain ⟨x2, e2, r2⟩ := left.slot 146 rfl 2 115 _ rfl rfl (by decide) rfl
              have s2 := Eq.symm (show x2 = .bool false from r2)
              subst s2
              exact ⟨wanted_no rfl rfl e2 (by decide), rfl⟩
            refine And.intro ?_ ?_
            · -- 5: slot 118 := Op.move (Operand.tmp 117)
              refine lstep_skip fun fr wf left => ?_
              obtain ⟨x2, e2, r2⟩ := left.slot 146 rfl 2 115 _ rfl rfl (by decide) rfl
              have s2 := Eq.symm (show x2 = .bool false from r2)
              subst s2
              exact ⟨wanted_no rfl rfl e2 (by decide), rfl⟩
            refine And.intro ?_ ?_
            · -- 6: slot 119 := Op.move (Operand.tmp 20)
              refine lstep_skip fun fr wf left => ?_
              obtain ⟨x5, e5, r5⟩ := left.slot 146 rfl 5 118 _ rfl rfl (by decide) rfl
              have s5 := Eq.symm (show x5 = undef from r5)
              subst s5
              exact ⟨wanted_undef rfl rfl e5, rfl⟩
            refine And.intro ?_ ?_
            · -- 7: slot 120 := Op.move (Operand.tmp 4)
              refine lstep_skip fun fr wf left => ?_
              obtain ⟨x5, e5, r5⟩ := left.slot 146 rfl 5 118 _ rfl rfl (by decide) rfl
              have s5 := Eq.symm (show x5 = undef from r5)
              subst s5
              exact ⟨wanted_undef rfl rfl e5, rfl⟩
            refine And.intro ?_ ?_
            · -- 8: slot 121 := Op.call { callee := Callee.builtin Builtin.len, args := #[Operand.tmp 120], argTypes := #[
              refine lstep_skip fun fr wf left => ?_
              obtain ⟨x5, e5, r5⟩ := left.slot 146 rfl 5 118 _ rfl rfl (by decide) rfl
              have s5 := Eq.symm (show x5 = undef from r5)
              subst s5
              exact ⟨wanted_undef rfl rfl e5, rfl⟩
            refine And.intro ?_ ?_
            · -- 9: slot 122 := Op.binOp BinOp.gtr 3 (Operand.tmp 119) (Operand.tmp 121) 3
              refine lstep_skip fun fr wf left => ?_
              obtain ⟨x5, e5, r5⟩ := left.slot 146 rfl 5 118 _ rfl rfl (by decide) rfl
              have s5 := Eq.symm (show x5 = undef from r5)
              subst s5
              exact ⟨wanted_undef rfl rfl e5, rfl⟩
            refine And.intro ?_ ?_
            · -- 10: slot 123 := Op.pick (Operand.tmp 118) (Operand.const (Value.bool true)) (Operand.tmp 122)
              refine lstep_skip fun fr wf left => ?_
              obtain ⟨x2, e2, r2⟩ := left.slot 146 rfl 2 115 _ rfl rfl (by decide) rfl
              have s2 := Eq.symm (show x2 = .bool false from r2)
              subst s2
              exact ⟨wanted_no rfl rfl e2 (by decide), rfl⟩
            refine And.intro ?_ ?_
            · -- 11: slot 124 := Op.move (Operand.tmp 123)
              refine lstep_skip fun fr wf left => ?_
              obtain ⟨x2, e2, r2⟩ := left.slot 146 rfl 2 115 _ rfl rfl (by decide) rfl
              have s2 := Eq.symm (show x2 = .bool false from r2)
              subst s2
              exact ⟨wanted_no rfl rfl e2 (by decide), rfl⟩
            refine And.intro ?_ ?_
            · -- 12: slot 125 := Op.move (Operand.tmp 19)
              refine lstep_skip fun fr wf left => ?_
              obtain ⟨x11, e11, r11⟩ := left.slot 146 rfl 11 124 _ rfl rfl (by decide) rfl
              have s11 := Eq.symm (show x11 = undef from r11)
              subst s11
              exact ⟨wanted_undef rfl rfl e11, rfl⟩
            refine And.intro ?_ ?_
            · -- 13: slot 126 := Op.call { callee := Callee.value (Operand.func 15), args := #[Operand.tmp 125], argTypes :
              refine lstep_skip fun fr wf left => ?_
              obtain ⟨x11, e11, r11⟩ := left.slot 146 rfl 11 124 _ rfl rfl (by decide) rfl
              have s11 := Eq.symm (show x11 = undef from r11)
              subst s11
              exact ⟨wanted_undef rfl rfl e11, rfl⟩
            refine And.intro ?_ ?_
            · -- 14: slot 127 := Op.move (Operand.tmp 4)
              refine lstep_skip fun fr wf left => ?_
              obtain ⟨x11, e11, r11⟩ := left.slot 146 rfl 11 124 _ rfl rfl (by decide) rfl
              have s11 := Eq.symm (show x11 = undef from r11)
              subst s11
              exact ⟨wanted_undef rfl rfl e11, rfl⟩
            refine And.intro ?_ ?_
            · -- 15: slot 128 := Op.move (Operand.tmp 20)
              refine lstep_skip fun fr wf left => ?_
              obtain ⟨x11, e11, r11⟩ := left.slot 146 rfl 11 124 _ rfl rfl (by decide) rfl
              have s11 := Eq.symm (show x11 = undef from r11)
              subst s11
              exact ⟨wanted_undef rfl rfl e11, rfl⟩
            refine And.intro ?_ ?_
            · -- 16: slot 129 := Op.slice 9 (Operand.tmp 127) none (some (Operand.tmp 128)) none
              refine lstep_skip fun fr wf left => ?_
              obtain ⟨x11, e11, r11⟩ := left.slot 146 rfl 11 124 _ rfl rfl (by decide) rfl
              have s11 := Eq.symm (show x11 = undef from r11)
              subst s11
              exact ⟨wanted_undef rfl rfl e11, rfl⟩
            refine And.intro ?_ ?_
            · -- 17: slot 130 := Op.binOp BinOp.neq 9 (Operand.tmp 126) (Operand.tmp 129) 9
              refine lstep_skip fun fr wf left => ?_
              obtain ⟨x11, e11, r11⟩ := left.slot 146 rfl 11 124 _ rfl rfl (by decide) rfl
              have s11 := Eq.symm (show x11 = undef from r11)
              subst s11
              exact ⟨wanted_undef rfl rfl e11, rfl⟩
            refine And.intro ?_ ?_
            · -- 18: slot 131 := Op.pick (Operand.tmp 124) (Operand.const (Value.bool true)) (Operand.tmp 130)
              refine lstep_skip fun fr wf left => ?_
              obtain ⟨x2, e2, r2⟩ := left.slot 146 rfl 2 115 _ rfl rfl (by decide) rfl
              have s2 := Eq.symm (show x2 = .bool false from r2)
              subst s2
              exact ⟨wanted_no rfl rfl e2 (by decide), rfl⟩
            refine And.intro ?_ ?_
            · -- 19: slot 132 := Op.pick (Operand.tmp 115) (Operand.tmp 131) (Operand.const (Value.bool false))
              refine lstep_run fun fr wf left => ?_
              obtain ⟨x2, e2, r2⟩ := left.slot 146 rfl 2 115 _ rfl rfl (by decide) rfl
              have s2 := Eq.symm (show x2 = .bool false from r2)
              subst s2
              obtain ⟨x18, e18, r18⟩ := left.slot 146 rfl 18 131 _ rfl rfl (by decide) rfl
              have s18 := Eq.symm (show x18 = undef from r18)
              subst s18
              refine ⟨wanted_none rfl, fun K hK => ?_⟩
              have hB := hide left.base
              clear left
              go_simp
              exact hK _ _ rfl hB.out (Below.refl _ _)
            exact trivial
          · intro fr wf hB hs hd hall hkeep
            have h132 : fr.tmps.getD 132 undef = .bool false := hall 19 _ rfl (by simp)
            have hfr := act_ext (frame_set hs hkeep [113, 114, 115, 116, 117, 118, 119, 120, 121, 122, 123, 124, 125, 126, 127, 128, 129, 130, 131, 132] (by kernel_rfl)) hd
            obtain ⟨q113, hq113⟩ : ∃ q, q = fr.tmps.getD 113 undef := ⟨_, rfl⟩
            obtain ⟨q114, hq114⟩ : ∃ q, q = fr.tmps.getD 114 undef := ⟨_, rfl⟩
            obtain ⟨q115, hq115⟩ : ∃ q, q = fr.tmps.getD 115 undef := ⟨_, rfl⟩
            obtain ⟨q116, hq116⟩ : ∃ q, q = fr.tmps.getD 116 undef := ⟨_, rfl⟩
            obtain ⟨q117, hq117⟩ : ∃ q, q = fr.tmps.getD 117 undef := ⟨_, rfl⟩
            obtain ⟨q118, hq118⟩ : ∃ q, q = fr.tmps.getD 118 undef := ⟨_, rfl⟩
            obtain ⟨q119, hq119⟩ : ∃ q, q = fr.tmps.getD 119 undef := ⟨_, rfl⟩
            obtain ⟨q120, hq120⟩ : ∃ q, q = fr.tmps.getD 120 undef := ⟨_, rfl⟩
            obtain ⟨q121, hq121⟩ : ∃ q, q = fr.tmps.getD 121 undef := ⟨_, rfl⟩
            obtain ⟨q122, hq122⟩ : ∃ q, q = fr.tmps.getD 122 undef := ⟨_, rfl⟩
            obtain ⟨q123, hq123⟩ : ∃ q, q = fr.tmps.getD 123 undef := ⟨_, rfl⟩
            obtain ⟨q124, hq124⟩ : ∃ q, q = fr.tmps.getD 124 undef := ⟨_, rfl⟩
            obtain ⟨q125, hq125⟩ : ∃ q, q = fr.tmps.getD 125 undef := ⟨_, rfl⟩
            obtain ⟨q126, hq126⟩ : ∃ q, q = fr.tmps.getD 126 undef := ⟨_, rfl⟩
            obtain ⟨q127, hq127⟩ : ∃ q, q = fr.tmps.getD 127 undef := ⟨_, rfl⟩
            obtain ⟨q128, hq128⟩ : ∃ q, q = fr.tmps.getD 128 undef := ⟨_, rfl⟩
            obtain ⟨q129, hq129⟩ : ∃ q, q = fr.tmps.getD 129 undef := ⟨_, rfl⟩
            obtain ⟨q130, hq130⟩ : ∃ q, q = fr.tmps.getD 130 undef := ⟨_, rfl⟩
            obtain ⟨q131, hq131⟩ : ∃ q, q = fr.tmps.getD 131 undef := ⟨_, rfl⟩
            obtain ⟨q132, hq132⟩ : ∃ q, q = fr.tmps.getD 132 undef := ⟨_, rfl⟩
            rw [← hq132] at h132
            simp only [List.foldl, ← hq113, ← hq114, ← hq115, ← hq116, ← hq117, ← hq118, ← hq119, ← hq120, ← hq121, ← hq122, ← hq123, ← hq124, ← hq125, ← hq126, ← hq127, ← hq128, ← hq129, ← hq130, ← hq131, ← hq132] at hfr
            simp only [List.setIfInBounds_toArray, List.set_cons_zero, List.set_cons_succ] at hfr
            clear hall hkeep hs hd hq113 hq114 hq115 hq116 hq117 hq118 hq119 hq120 hq121 hq122 hq123 hq124 hq125 hq126 hq127 hq128 hq129 hq130 hq131 hq132
            subst hfr
            refine hrest _ _ ?_
            have HB11 := hide (HB10.out.trans (hB.mono HB10.out.size))
            clear hB
            subst h132
            cases hrm : Rec.readMarkB tail with
            | none =>
              have hv : Rec.readMarkV tail = .tuple #[.agg #[.int .i64 0, .int .u64 0, .int .u64 0, .int .u64 0, .int .u32 0], .int .i64 180] := by unfold Rec.readMarkV; rw [hrm]; rfl
              have HW := hide hv
              clear hrm hv
              go_wp2_with fail
              refine (readMark_val tail _ _ ht HW.out).mono ?_
              rintro e w12 ⟨rfl, hb12⟩
              have HB12 := hide (below_next HB11.out hb12)
              clear hb12
              go_wp2_with fail
              go_ret
              exact ⟨rfl, HB0.out.trans ((HB12.out.alloc HB12.out.size _).mono HB0.out.size)⟩
            | some z =>
              have hzt := Rec.readMark_laid hrm
              have hzo : z.ok := by
                unfold Rec.readMarkB at hrm
                split at hrm
                · split at hrm
                  · injection hrm with hrm
                    rw [← hrm]; exact Rec.markOf_ok tail
                  · cases hrm
                · cases hrm
              have hv : Rec.readMarkV tail = .tuple #[Rec.mkV z, .int .i64 0] := by unfold Rec.readMarkV; rw [hrm]
              obtain ⟨zk, za, zb, zc, zd⟩ := z
              have HW := hide (And.intro hv (And.intro hzt hzo))
              clear hrm hv hzt hzo
              go_wp2_with fail
              refine (readMark_val tail (.tuple #[.agg #[.int .i64 zk, .int .u64 (za : Int), .int .u64 (zb : Int), .int .u64 (zc : Int), .int .u32 (zd : Int)], .int .i64 0]) _ ht HW.out.1).mono ?_
              rintro e w12 ⟨rfl, hb12⟩
              have HB12 := hide (below_next HB11.out hb12)
              clear hb12
              go_wp2_with fail
              refine (mark_val ⟨zk, za, zb, zc, zd⟩ tail _ HW.out.2.2 HW.out.2.1.symm).mono ?_
              rintro e w13 ⟨rfl, hb13⟩
              have HB13 := hide (below_new HB12.out _ hb13)
              clear hb13
              go_wp2_with fail
              go_ret
              exact ⟨rfl, HB0.out.trans (HB13.out.mono HB0.out.size)⟩
          -- END REGION backn
        | some yn =>
          obtain ⟨y, n⟩ := yn
          obtain ⟨hn, hpy⟩ := Rec.readPay_laid hrp
          have hys : y.size ≤ 140737488351232 := by
            by_cases h : 1048576 < y.size
            · have h2 : Rec.payB y = ⟨#[]⟩ := by unfold Rec.payB; rw [if_pos h]
              rw [h2] at hpy
              have h3 := congrArg ByteArray.size hpy
              rw [ByteArray.size_extract] at h3
              have h4 : (⟨#[]⟩ : ByteArray).size = 0 := rfl
              have h5 := Rec.readPay_pos hrp
              omega
            · omega
          have hv : Rec.payV (Rec.readPayB tail) = .tuple #[.string y, .int .i64 (n : Int), .int .i64 0] := by rw [hrp]; rfl
          have HV := hide (And.intro hv hpy)
          clear hrp hv hpy
          go_wp2_with fail
          refine (readPay_val tail _ _ (by omega) HV.out.1).mono ?_
          rintro e w10 ⟨rfl, hb10⟩
          have HB10 := hide (below_next HBX.out hb10)
          clear hb10
          go_wp2_with fail
-- REGION backs
          rename_i hrest
          refine wp_region_local (by kernel_rfl) (by kernel_rfl) (useList backsU) [19] (by kernel_rfl) (spR (backsL tail y n)) (fun _ _ => True) (Below w10.heap.size w10) (fun _ w w' => Below w.heap.size w w') spR_stays (fun _ _ _ _ _ h _ => h) (fun _ _ => Below.refl _ _) (dsts_lt (N := 146) (by kernel_rfl)) ((Below.refl _ _).drew) (fun _ _ => trivial) (all_ops ?_) ?_
          · refine And.intro ?_ ?_
            · -- 0: slot 113 := Op.move (Operand.tmp 18)
              refine lstep_run fun fr wf left => ?_
              have o18 := (left.old 18 (by kernel_rfl)).trans rfl
              refine ⟨wanted_none rfl, fun K hK => ?_⟩
              have hB := hide left.base
              clear left
              go_simp
              exact hK _ _ rfl hB.out (Below.refl _ _)
            refine And.intro ?_ ?_
            · -- 1: slot 114 := Op.binOp BinOp.eql 24 (Operand.tmp 113) (Operand.const (Value.int IntKind.i64 0)) 24
              refine lstep_run fun fr wf left => ?_
              obtain ⟨x0, e0, r0⟩ := left.slot 146 rfl 0 113 _ rfl rfl (by decide) rfl
              have s0 := Eq.symm (show x0 = .int .i64 0 from r0)
              subst s0
              refine ⟨wanted_none rfl, fun K hK => ?_⟩
              have hB := hide left.base
              clear left
              go_simp
              exact hK _ _ rfl hB.out (Below.refl _ _)
            refine And.intro ?_ ?_
            · -- 2: slot 115 := Op.move (Operand.tmp 114)
              refine lstep_run fun fr wf left => ?_
              obtain ⟨x1, e1, r1⟩ := left.slot 146 rfl 1 114 _ rfl rfl (by decide) rfl
              have s1 := Eq.symm (show x1 = .bool true from r1)
              subst s1
              refine ⟨wanted_none rfl, fun K hK => ?_⟩
              have hB := hide left.base
              clear left
              go_simp
              exact hK _ _ rfl hB.out (Below.refl _ _)
            refine And.intro ?_ ?_
            · -- 3: slot 116 := Op.move (Operand.tmp 20)
              refine lstep_run fun fr wf left => ?_
              obtain ⟨x2, e2, r2⟩ := left.slot 146 rfl 2 115 _ rfl rfl (by decide) rfl
              have s2 := Eq.symm (show x2 = .bool true from r2)
              subst s2
              have o20 := (left.old 20 (by kernel_rfl)).trans rfl
              refine ⟨wanted_yes rfl rfl e2, fun K hK => ?_⟩
              have hB := hide left.base
              clear left
              go_simp
              exact hK _ _ rfl hB.out (Below.refl _ _)
            refine And.intro ?_ ?_
            · -- 4: slot 117 := Op.binOp BinOp.lss 3 (Operand.tmp 116) (Operand.const (Value.int IntKind.i64 0)) 3
              refine lstep_run fun fr wf left => ?_
              obtain ⟨x2, e2, r2⟩ := left.slot 146 rfl 2 115 _ rfl rfl (by decide) rfl
              have s2 := Eq.symm (show x2 = .bool true from r2)
              subst s2
              obtain ⟨x3, e3, r3⟩ := left.slot 146 rfl 3 116 _ rfl rfl (by decide) rfl
              have s3 := Eq.symm (show x3 = .int .i64 (n : Int) from r3)
              subst s3
              refine ⟨wanted_yes rfl rfl e2, fun K hK => ?_⟩
              have hB := hide left.base
              clear left
              go_simp
              exact hK _ _ rfl hB.out (Below.refl _ _)
            refine And.intro ?_ ?_
            · -- 5: slot 118 := Op.move (Operand.tmp 117)
              refine lstep_run fun fr wf left => ?_
              obtain ⟨x2, e2, r2⟩ := left.slot 146 rfl 2 115 _ rfl rfl (by decide) rfl
              have s2 := Eq.symm (show x2 = .bool true from r2)
              subst s2
              obtain ⟨x4, e4, r4⟩ := left.slot 146 rfl 4 117 _ rfl rfl (by decide) rfl
              have s4 := Eq.symm (show x4 = .bool false from r4)
              subst s4
              refine ⟨wanted_yes rfl rfl e2, fun K hK => ?_⟩
              have hB := hide left.base
              clear left
              go_simp
              exact hK _ _ rfl hB.out (Below.refl _ _)
            refine And.intro ?_ ?_
            · -- 6: slot 119 := Op.move (Operand.tmp 20)
              refine lstep_run fun fr wf left => ?_
              obtain ⟨x5, e5, r5⟩ := left.slot 146 rfl 5 118 _ rfl rfl (by decide) rfl
              have s5 := Eq.symm (show x5 = .bool false from r5)
              subst s5
              have o20 := (left.old 20 (by kernel_rfl)).trans rfl
              refine ⟨wanted_yes rfl rfl e5, fun K hK => ?_⟩
              have hB := hide left.base
              clear left
              go_simp
              exact hK _ _ rfl hB.out (Below.refl _ _)
            refine And.intro ?_ ?_
            · -- 7: slot 120 := Op.move (Operand.tmp 4)
              refine lstep_run fun fr wf left => ?_
              obtain ⟨x5, e5, r5⟩ := left.slot 146 rfl 5 118 _ rfl rfl (by decide) rfl
              have s5 := Eq.symm (show x5 = .bool false from r5)
              subst s5
              have o4 := (left.old 4 (by kernel_rfl)).trans rfl
              refine ⟨wanted_yes rfl rfl e5, fun K hK => ?_⟩
              have hB := hide left.base
              clear left
              go_simp
              exact hK _ _ rfl hB.out (Below.refl _ _)
            refine And.intro ?_ ?_
            · -- 8: slot 121 := Op.call { callee := Callee.builtin Builtin.len, args := #[Operand.tmp 120], argTypes := #[
              refine lstep_run fun fr wf left => ?_
              obtain ⟨x5, e5, r5⟩ := left.slot 146 rfl 5 118 _ rfl rfl (by decide) rfl
              have s5 := Eq.symm (show x5 = .bool false from r5)
              subst s5
              obtain ⟨x7, e7, r7⟩ := left.slot 146 rfl 7 120 _ rfl rfl (by decide) rfl
              have s7 := Eq.symm (show x7 = .string tail from r7)
              subst s7
              refine ⟨wanted_yes rfl rfl e5, fun K hK => ?_⟩
              have hB := hide left.base
              clear left
              go_simp
              exact hK _ _ rfl hB.out (Below.refl _ _)
            refine And.intro ?_ ?_
            · -- 9: slot 122 := Op.binOp BinOp.gtr 3 (Operand.tmp 119) (Operand.tmp 121) 3
              refine lstep_run fun fr wf left => ?_
              obtain ⟨x5, e5, r5⟩ := left.slot 146 rfl 5 118 _ rfl rfl (by decide) rfl
              have s5 := Eq.symm (show x5 = .bool false from r5)
              subst s5
              obtain ⟨x6, e6, r6⟩ := left.slot 146 rfl 6 119 _ rfl rfl (by decide) rfl
              have s6 := Eq.symm (show x6 = .int .i64 (n : Int) from r6)
              subst s6
              obtain ⟨x8, e8, r8⟩ := left.slot 146 rfl 8 121 _ rfl rfl (by decide) rfl
              have s8 := Eq.symm (show x8 = .int .i64 (tail.size : Int) from r8)
              subst s8
              refine ⟨wanted_yes rfl rfl e5, fun K hK => ?_⟩
              have hB := hide left.base
              clear left
              go_simp
              exact hK _ _ (congrArg Value.bool (decide_eq_false (by omega))) hB.out (Below.refl _ _)
            refine And.intro ?_ ?_
            · -- 10: slot 123 := Op.pick (Operand.tmp 118) (Operand.const (Value.bool true)) (Operand.tmp 122)
              refine lstep_run fun fr wf left => ?_
              obtain ⟨x2, e2, r2⟩ := left.slot 146 rfl 2 115 _ rfl rfl (by decide) rfl
              have s2 := Eq.symm (show x2 = .bool true from r2)
              subst s2
              obtain ⟨x5, e5, r5⟩ := left.slot 146 rfl 5 118 _ rfl rfl (by decide) rfl
              have s5 := Eq.symm (show x5 = .bool false from r5)
              subst s5
              obtain ⟨x9, e9, r9⟩ := left.slot 146 rfl 9 122 _ rfl rfl (by decide) rfl
              have s9 := Eq.symm (show x9 = .bool false from r9)
              subst s9
              refine ⟨wanted_yes rfl rfl e2, fun K hK => ?_⟩
              have hB := hide left.base
              clear left
              go_simp
              exact hK _ _ rfl hB.out (Below.refl _ _)
            refine And.intro ?_ ?_
            · -- 11: slot 124 := Op.move (Operand.tmp 123)
              refine lstep_run fun fr wf left => ?_
              obtain ⟨x2, e2, r2⟩ := left.slot 146 rfl 2 115 _ rfl rfl (by decide) rfl
              have s2 := Eq.symm (show x2 = .bool true from r2)
              subst s2
              obtain ⟨x10, e10, r10⟩ := left.slot 146 rfl 10 123 _ rfl rfl (by decide) rfl
              have s10 := Eq.symm (show x10 = .bool false from r10)
              subst s10
              refine ⟨wanted_yes rfl rfl e2, fun K hK => ?_⟩
              have hB := hide left.base
              clear left
              go_simp
              exact hK _ _ rfl hB.out (Below.refl _ _)
            refine And.intro ?_ ?_
            · -- 12: slot 125 := Op.move (Operand.tmp 19)
              refine lstep_run fun fr wf left => ?_
              obtain ⟨x11, e11, r11⟩ := left.slot 146 rfl 11 124 _ rfl rfl (by decide) rfl
              have s11 := Eq.symm (show x11 = .bool false from r11)
              subst s11
              have o19 := (left.old 19 (by kernel_rfl)).trans rfl
              refine ⟨wanted_yes rfl rfl e11, fun K hK => ?_⟩
              have hB := hide left.base
              clear left
              go_simp
              exact hK _ _ rfl hB.out (Below.refl _ _)
            refine And.intro ?_ ?_
            · -- 13: slot 126 := Op.call { callee := Callee.value (Operand.func 15), args := #[Operand.tmp 125], argTypes :
              refine lstep_run fun fr wf left => ?_
              obtain ⟨x11, e11, r11⟩ := left.slot 146 rfl 11 124 _ rfl rfl (by decide) rfl
              have s11 := Eq.symm (show x11 = .bool false from r11)
              subst s11
              obtain ⟨x12, e12, r12⟩ := left.slot 146 rfl 12 125 _ rfl rfl (by decide) rfl
              have s12 := Eq.symm (show x12 = .string y from r12)
              subst s12
              refine ⟨wanted_yes rfl rfl e11, fun K hK => ?_⟩
              have hB := hide left.base
              clear left
              go_simp
              refine (pay_val y _ _ hys HV.out.2.symm).mono ?_
              rintro e w' ⟨rfl, hb⟩
              exact hK _ _ rfl (hB.out.trans (hb.mono (le_base hB.out))) hb
            refine And.intro ?_ ?_
            · -- 14: slot 127 := Op.move (Operand.tmp 4)
              refine lstep_run fun fr wf left => ?_
              obtain ⟨x11, e11, r11⟩ := left.slot 146 rfl 11 124 _ rfl rfl (by decide) rfl
              have s11 := Eq.symm (show x11 = .bool false from r11)
              subst s11
              have o4 := (left.old 4 (by kernel_rfl)).trans rfl
              refine ⟨wanted_yes rfl rfl e11, fun K hK => ?_⟩
              have hB := hide left.base
              clear left
              go_simp
              exact hK _ _ rfl hB.out (Below.refl _ _)
            refine And.intro ?_ ?_
            · -- 15: slot 128 := Op.move (Operand.tmp 20)
              refine lstep_run fun fr wf left => ?_
              obtain ⟨x11, e11, r11⟩ := left.slot 146 rfl 11 124 _ rfl rfl (by decide) rfl
              have s11 := Eq.symm (show x11 = .bool false from r11)
              subst s11
              have o20 := (left.old 20 (by kernel_rfl)).trans rfl
              refine ⟨wanted_yes rfl rfl e11, fun K hK => ?_⟩
              have hB := hide left.base
              clear left
              go_simp
              exact hK _ _ rfl hB.out (Below.refl _ _)
            refine And.intro ?_ ?_
            · -- 16: slot 129 := Op.slice 9 (Operand.tmp 127) none (some (Operand.tmp 128)) none
              refine lstep_run fun fr wf left => ?_
              obtain ⟨x11, e11, r11⟩ := left.slot 146 rfl 11 124 _ rfl rfl (by decide) rfl
              have s11 := Eq.symm (show x11 = .bool false from r11)
              subst s11
              obtain ⟨x14, e14, r14⟩ := left.slot 146 rfl 14 127 _ rfl rfl (by decide) rfl
              have s14 := Eq.symm (show x14 = .string tail from r14)
              subst s14
              obtain ⟨x15, e15, r15⟩ := left.slot 146 rfl 15 128 _ rfl rfl (by decide) rfl
              have s15 := Eq.symm (show x15 = .int .i64 (n : Int) from r15)
              subst s15
              refine ⟨wanted_yes rfl rfl e11, fun K hK => ?_⟩
              have hB := hide left.base
              clear left
              go_simp
              exact hK _ _ rfl hB.out (Below.refl _ _)
            refine And.intro ?_ ?_
            · -- 17: slot 130 := Op.binOp BinOp.neq 9 (Operand.tmp 126) (Operand.tmp 129) 9
              refine lstep_run fun fr wf left => ?_
              obtain ⟨x11, e11, r11⟩ := left.slot 146 rfl 11 124 _ rfl rfl (by decide) rfl
              have s11 := Eq.symm (show x11 = .bool false from r11)
              subst s11
              obtain ⟨x13, e13, r13⟩ := left.slot 146 rfl 13 126 _ rfl rfl (by decide) rfl
              have s13 := Eq.symm (show x13 = .string (tail.extract 0 n) from r13)
              subst s13
              obtain ⟨x16, e16, r16⟩ := left.slot 146 rfl 16 129 _ rfl rfl (by decide) rfl
              have s16 := Eq.symm (show x16 = .string (tail.extract 0 n) from r16)
              subst s16
              refine ⟨wanted_yes rfl rfl e11, fun K hK => ?_⟩
              have hB := hide left.base
              clear left
              go_simp
              exact hK _ _ rfl hB.out (Below.refl _ _)
            refine And.intro ?_ ?_
            · -- 18: slot 131 := Op.pick (Operand.tmp 124) (Operand.const (Value.bool true)) (Operand.tmp 130)
              refine lstep_run fun fr wf left => ?_
              obtain ⟨x2, e2, r2⟩ := left.slot 146 rfl 2 115 _ rfl rfl (by decide) rfl
              have s2 := Eq.symm (show x2 = .bool true from r2)
              subst s2
              obtain ⟨x11, e11, r11⟩ := left.slot 146 rfl 11 124 _ rfl rfl (by decide) rfl
              have s11 := Eq.symm (show x11 = .bool false from r11)
              subst s11
              obtain ⟨x17, e17, r17⟩ := left.slot 146 rfl 17 130 _ rfl rfl (by decide) rfl
              have s17 := Eq.symm (show x17 = .bool false from r17)
              subst s17
              refine ⟨wanted_yes rfl rfl e2, fun K hK => ?_⟩
              have hB := hide left.base
              clear left
              go_simp
              exact hK _ _ rfl hB.out (Below.refl _ _)
            refine And.intro ?_ ?_
            · -- 19: slot 132 := Op.pick (Operand.tmp 115) (Operand.tmp 131) (Operand.const (Value.bool false))
              refine lstep_run fun fr wf left => ?_
              obtain ⟨x2, e2, r2⟩ := left.slot 146 rfl 2 115 _ rfl rfl (by decide) rfl
              have s2 := Eq.symm (show x2 = .bool true from r2)
              subst s2
              obtain ⟨x18, e18, r18⟩ := left.slot 146 rfl 18 131 _ rfl rfl (by decide) rfl
              have s18 := Eq.symm (show x18 = .bool false from r18)
              subst s18
              refine ⟨wanted_none rfl, fun K hK => ?_⟩
              have hB := hide left.base
              clear left
              go_simp
              exact hK _ _ rfl hB.out (Below.refl _ _)
            exact trivial
          · intro fr wf hB hs hd hall hkeep
            have h132 : fr.tmps.getD 132 undef = .bool false := hall 19 _ rfl (by simp)
            have hfr := act_ext (frame_set hs hkeep [113, 114, 115, 116, 117, 118, 119, 120, 121, 122, 123, 124, 125, 126, 127, 128, 129, 130, 131, 132] (by kernel_rfl)) hd
            obtain ⟨q113, hq113⟩ : ∃ q, q = fr.tmps.getD 113 undef := ⟨_, rfl⟩
            obtain ⟨q114, hq114⟩ : ∃ q, q = fr.tmps.getD 114 undef := ⟨_, rfl⟩
            obtain ⟨q115, hq115⟩ : ∃ q, q = fr.tmps.getD 115 undef := ⟨_, rfl⟩
            obtain ⟨q116, hq116⟩ : ∃ q, q = fr.tmps.getD 116 undef := ⟨_, rfl⟩
            obtain ⟨q117, hq117⟩ : ∃ q, q = fr.tmps.getD 117 undef := ⟨_, rfl⟩
            obtain ⟨q118, hq118⟩ : ∃ q, q = fr.tmps.getD 118 undef := ⟨_, rfl⟩
            obtain ⟨q119, hq119⟩ : ∃ q, q = fr.tmps.getD 119 undef := ⟨_, rfl⟩
            obtain ⟨q120, hq120⟩ : ∃ q, q = fr.tmps.getD 120 undef := ⟨_, rfl⟩
            obtain ⟨q121, hq121⟩ : ∃ q, q = fr.tmps.getD 121 undef := ⟨_, rfl⟩
            obtain ⟨q122, hq122⟩ : ∃ q, q = fr.tmps.getD 122 undef := ⟨_, rfl⟩
            obtain ⟨q123, hq123⟩ : ∃ q, q = fr.tmps.getD 123 undef := ⟨_, rfl⟩
            obtain ⟨q124, hq124⟩ : ∃ q, q = fr.tmps.getD 124 undef := ⟨_, rfl⟩
            obtain ⟨q125, hq125⟩ : ∃ q, q = fr.tmps.getD 125 undef := ⟨_, rfl⟩
            obtain ⟨q126, hq126⟩ : ∃ q, q = fr.tmps.getD 126 undef := ⟨_, rfl⟩
            obtain ⟨q127, hq127⟩ : ∃ q, q = fr.tmps.getD 127 undef := ⟨_, rfl⟩
            obtain ⟨q128, hq128⟩ : ∃ q, q = fr.tmps.getD 128 undef := ⟨_, rfl⟩
            obtain ⟨q129, hq129⟩ : ∃ q, q = fr.tmps.getD 129 undef := ⟨_, rfl⟩
            obtain ⟨q130, hq130⟩ : ∃ q, q = fr.tmps.getD 130 undef := ⟨_, rfl⟩
            obtain ⟨q131, hq131⟩ : ∃ q, q = fr.tmps.getD 131 undef := ⟨_, rfl⟩
            obtain ⟨q132, hq132⟩ : ∃ q, q = fr.tmps.getD 132 undef := ⟨_, rfl⟩
            rw [← hq132] at h132
            simp only [List.foldl, ← hq113, ← hq114, ← hq115, ← hq116, ← hq117, ← hq118, ← hq119, ← hq120, ← hq121, ← hq122, ← hq123, ← hq124, ← hq125, ← hq126, ← hq127, ← hq128, ← hq129, ← hq130, ← hq131, ← hq132] at hfr
            simp only [List.setIfInBounds_toArray, List.set_cons_zero, List.set_cons_succ] at hfr
            clear hall hkeep hs hd hq113 hq114 hq115 hq116 hq117 hq118 hq119 hq120 hq121 hq122 hq123 hq124 hq125 hq126 hq127 hq128 hq129 hq130 hq131 hq132
            subst hfr
            refine hrest _ _ ?_
            have HB11 := hide (HB10.out.trans (hB.mono HB10.out.size))
            clear hB
            subst h132
            cases hrm : Rec.readMarkB tail with
            | none =>
              have hv : Rec.readMarkV tail = .tuple #[.agg #[.int .i64 0, .int .u64 0, .int .u64 0, .int .u64 0, .int .u32 0], .int .i64 180] := by unfold Rec.readMarkV; rw [hrm]; rfl
              have HW := hide hv
              clear hrm hv
              go_wp2_with fail
              refine (readMark_val tail _ _ ht HW.out).mono ?_
              rintro e w12 ⟨rfl, hb12⟩
              have HB12 := hide (below_next HB11.out hb12)
              clear hb12
              go_wp2_with fail
              go_ret
              exact ⟨rfl, HB0.out.trans ((HB12.out.alloc HB12.out.size _).mono HB0.out.size)⟩
            | some z =>
              have hzt := Rec.readMark_laid hrm
              have hzo : z.ok := by
                unfold Rec.readMarkB at hrm
                split at hrm
                · split at hrm
                  · injection hrm with hrm
                    rw [← hrm]; exact Rec.markOf_ok tail
                  · cases hrm
                · cases hrm
              have hv : Rec.readMarkV tail = .tuple #[Rec.mkV z, .int .i64 0] := by unfold Rec.readMarkV; rw [hrm]
              obtain ⟨zk, za, zb, zc, zd⟩ := z
              have HW := hide (And.intro hv (And.intro hzt hzo))
              clear hrm hv hzt hzo
              go_wp2_with fail
              refine (readMark_val tail (.tuple #[.agg #[.int .i64 zk, .int .u64 (za : Int), .int .u64 (zb : Int), .int .u64 (zc : Int), .int .u32 (zd : Int)], .int .i64 0]) _ ht HW.out.1).mono ?_
              rintro e w12 ⟨rfl, hb12⟩
              have HB12 := hide (below_next HB11.out hb12)
              clear hb12
              go_wp2_with fail
              refine (mark_val ⟨zk, za, zb, zc, zd⟩ tail _ HW.out.2.2 HW.out.2.1.symm).mono ?_
              rintro e w13 ⟨rfl, hb13⟩
              have HB13 := hide (below_new HB12.out _ hb13)
              clear hb13
              go_wp2_with fail
              go_ret
              exact ⟨rfl, HB0.out.trans (HB13.out.mono HB0.out.size)⟩
          -- END REGION backs
#print axioms back_any
end Go.Proofs.Ytoddjpkacaekbaa
