/-
  massiflaw18.RecordTurned: a record that is cut, or of which one byte is another one, is not read: the walk.
-/
import Derived.Test.YtoddjpkacaekbaaRecReads
import Derived.Test.YtoddjpkacaekbaaRecTurnLaw
import Derived.Deep.CutRange
namespace Go.Proofs.Ytoddjpkacaekbaa
open Go.RowKit
theorem u8_byte {a : Int} (h : (Lit.int .u8 a).wf = true) : ∃ b : UInt8, a = (b.toNat : Int) := by
  have h2 : IntKind.u8.min ≤ a ∧ a ≤ IntKind.u8.max := by simpa [Lit.wf] using h
  have h3 : 0 ≤ a ∧ a ≤ 255 := h2
  refine ⟨UInt8.ofNat a.toNat, ?_⟩
  rw [UInt8.toNat_ofNat']
  omega
theorem tmod_bounds (a : Int) (n : Nat) (hn : 0 < n) : -(n : Int) < a.tmod (n : Int) ∧ a.tmod (n : Int) < (n : Int) := by
  have h1 := Int.tmod_lt_of_pos a (show 0 < (n : Int) by omega)
  have h2 := Int.lt_tmod_of_pos a (show 0 < (n : Int) by omega)
  exact ⟨h2, h1⟩
-- DEFS turna
def turnaL (w : World) (it : ByteArray) (p : Nat) (d' : ByteArray) (k : Int) (ms mi mn mc : Nat) (X0 X1 X2 : ByteArray) : List Sp :=
  [.is (.string it), .is (.string X0), .is (.int .u64 (p : Int)), .is (.string d'), .is (.string X1), .is (.agg #[.int .i64 k, .int .u64 (ms : Int), .int .u64 (mi : Int), .int .u64 (mn : Int), .int .u32 (mc : Int)]), .is (.agg #[.int .i64 k, .int .u64 (ms : Int), .int .u64 (mi : Int), .int .u64 (mn : Int), .int .u32 (mc : Int)]), .is (.string X2), .sl [.string X0, .string X1, .string X2], .sl [.string X0, .string X1, .string X2]]
def turnaU : List (List Nat) := [[], [0], [], [], [2, 3], [], [5], [6], [1, 4, 7], [8]]
-- END turna
-- DEFS turnb
def turnbL (p : Nat) (d' X0 X1 X2 : ByteArray) (bl ol cl kk k0 k1 k2 : Nat) : List Sp :=
  [.is (.slice (some ⟨bl, ol, none⟩) 3 cl), .is (.pointer (some ⟨bl, ol, none⟩)), .is (.string X0), .is (.int .i64 (kk : Int)), .is (.slice (some ⟨bl, ol, none⟩) 3 cl), .is (.pointer (some ⟨bl, ol, none⟩)), .is (.string X0), .is (.int .i64 (X0.size : Int)), .is (.int .i64 (k0 : Int)), .is (.string (X0.extract 0 k0)), .is (.tuple #[.string ⟨#[]⟩, .int .i64 0, .int .i64 180]), .is (.tuple #[.string ⟨#[]⟩, .int .i64 0, .int .i64 180]), .is (.string ⟨#[]⟩), .is (.int .i64 0), .is (.int .i64 180), .is (.string ⟨#[]⟩), .is (.int .i64 0), .is (.int .i64 180)]
def turnbU : List (List Nat) := [[], [0], [1], [], [], [4], [5], [6], [3, 7], [2, 8], [9], [10], [11], [11], [11], [12], [13], [14]]
-- END turnb
-- DEFS turnc
def turncL (p : Nat) (d' X0 X1 X2 : ByteArray) (bl ol cl kk k0 k1 k2 : Nat) : List Sp :=
  [.is (.string d'), .is (.int .i64 (d'.size : Int)), .is (.int .u64 (p : Int)), .is (.slice (some ⟨bl, ol, none⟩) 3 cl), .is (.pointer (some ⟨bl, ol + 1, none⟩)), .is (.string X1), .is (.int .i64 (kk : Int)), .is (.slice (some ⟨bl, ol, none⟩) 3 cl), .is (.pointer (some ⟨bl, ol + 1, none⟩)), .is (.string X1), .is (.int .i64 (X1.size : Int)), .is (.int .i64 (k1 : Int)), .is (.string (X1.extract 0 k1)), .is (.tuple #[.string ⟨#[]⟩, .int .i64 180]), .is (.tuple #[.string ⟨#[]⟩, .int .i64 180]), .is (.string ⟨#[]⟩), .is (.int .i64 180), .is (.string ⟨#[]⟩), .is (.int .i64 180)]
def turncU : List (List Nat) := [[], [0], [], [], [3], [4], [], [], [7], [8], [9], [6, 10], [5, 11], [1, 2, 12], [13], [14], [14], [15], [16]]
-- END turnc
-- DEFS turnd
def turndL (wr : World) (p : Nat) (d' X0 X1 X2 : ByteArray) (bl ol cl kk k0 k1 k2 : Nat) : List Sp :=
  [.is (.slice (some ⟨bl, ol, none⟩) 3 cl), .is (.pointer (some ⟨bl, ol + 2, none⟩)), .is (.string X2), .is (.int .i64 (kk : Int)), .is (.slice (some ⟨bl, ol, none⟩) 3 cl), .is (.pointer (some ⟨bl, ol + 2, none⟩)), .is (.string X2), .is (.int .i64 (X2.size : Int)), .is (.int .i64 (k2 : Int)), .is (.string (X2.extract 0 k2)), .is (.tuple #[.agg #[.int .i64 0, .int .u64 0, .int .u64 0, .int .u64 0, .int .u32 0], .int .i64 180]), .is (.tuple #[.agg #[.int .i64 0, .int .u64 0, .int .u64 0, .int .u64 0, .int .u32 0], .int .i64 180]), .is (.agg #[.int .i64 0, .int .u64 0, .int .u64 0, .int .u64 0, .int .u32 0]), .is (.int .i64 180), .fresh (wr.heap.size) 5 31, .full (wr.heap.size) 31 [.int .i64 0, .int .u64 0, .int .u64 0, .int .u64 0, .int .u32 0], .is (.int .i64 180)]
def turndU : List (List Nat) := [[], [0], [1], [], [], [4], [5], [6], [3, 7], [2, 8], [9], [10], [11], [11], [], [12, 14], [13]]
-- END turnd
set_option maxHeartbeats 1600000 in
set_option maxRecDepth 100000 in
theorem turned_any (item : ByteArray) (p : Nat) (d : ByteArray) (m : Rec.Mk) (at_ : Int) (b : UInt8) (w : World) (hi : item.size ≤ 140737488351232) (hp : p < 18446744073709551616) (hd : d.size ≤ 140737488351232) (hm : m.ok) (hat : (Lit.int .i64 at_).wf = true) :
    Calls Try.prog 5 #[.string item, .int .u64 (p : Int), .string d, .agg m.cells, .int .i64 at_, .int .u8 (b.toNat : Int)] w fun e w' => e = .returned (.bool true) ∧ Below w.heap.size w w' := by
  obtain ⟨mk, ms, mi, mn, mc⟩ := m
  obtain ⟨hmk, hm4⟩ := hm
  have HM := hide (show _ ∧ _ from ⟨hmk, hm4⟩)
  unfold Rec.Mk.cells
  have hb8 := b.toNat_lt
  go_enter Try.func5, Try.ntmps5
  go_wp2_with fail
  obtain ⟨W0, hW0⟩ : ∃ V, V = w.alloc (.cells #[.int .i64 mk, .int .u64 (ms : Int), .int .u64 (mi : Int), .int .u64 (mn : Int), .int .u32 (mc : Int)] 34) := ⟨_, rfl⟩
  rw [← hW0]
  have HZ0 := hide (show W0.heap[w.heap.size]? = some (.cells #[.int .i64 mk, .int .u64 (ms : Int), .int .u64 (mi : Int), .int .u64 (mn : Int), .int .u32 (mc : Int)] 34) by rw [hW0]; exact alloc_at _ _)
  have HB0 := hide (show Below w.heap.size w W0 by rw [hW0]; exact (Below.refl _ _).alloc (Nat.le_refl _) _)
  clear hW0 hmk hm4
  refine (fixed_any _).mono ?_
  rintro e w1 ⟨rfl, hb1⟩
  have HB1 := hide (show Below W0.heap.size W0 w1 from hb1)
  clear hb1
  go_upto_if 28 with (fail)
  go_cut [5] from 27 to 28 (fun v5 wc => wc = w1 ∧ ∃ c : UInt8, v5 = .int .u8 (c.toNat : Int) ∧ c ≠ 0)
  case first =>
    by_cases hb0 : b = 0
    · have hbi : ((b.toNat : Int) == 0) = true := by rw [hb0]; rfl
      go_wp2_with fail
      go_meet
      case rel => exact ⟨rfl, 1, rfl, by decide⟩
    · have hbi : ((b.toNat : Int) == 0) = false := by
        rw [beq_eq_false_iff_ne]
        intro h
        exact hb0 (UInt8.toNat_inj.1 (by simpa using h))
      go_wp2_with fail
      go_meet
      case rel => exact ⟨rfl, b, rfl, hb0⟩
  case rest =>
    obtain ⟨rfl, c, rfl, hc0⟩ := hcut
    have HC := hide hc0
    clear hc0 hb8
    go_upto_region 5 with (fail)
    obtain ⟨g, hg⟩ : ∃ g : Bool, g = decide (d.size < 1 ∨ 32 < d.size) := ⟨_, rfl⟩
    have HG := hide hg
    clear hg
    go_cut [36] from 29 to 36 (fun v36 wx => wx = wc ∧ v36 = .bool g)
    case first =>
      by_cases h1 : d.size < 1
      · have h1i : (d.size : Int) < 1 := by omega
        go_wp2_with fail
        go_meet
        case rel => exact ⟨rfl, congrArg Value.bool (by rw [HG.out]; symm; exact decide_eq_true (.inl h1))⟩
      · have h1i : ¬ (d.size : Int) < 1 := by omega
        by_cases h2 : 32 < d.size
        · have h2i : 32 < (d.size : Int) := by omega
          go_wp2_with fail
          go_meet
          case rel => exact ⟨rfl, congrArg Value.bool (by rw [HG.out]; symm; exact decide_eq_true (.inr h2))⟩
        · have h2i : ¬ 32 < (d.size : Int) := by omega
          go_wp2_with fail
          go_meet
          case rel => exact ⟨rfl, congrArg Value.bool (by rw [HG.out]; symm; exact decide_eq_false (fun h => h.elim h1 h2))⟩
    obtain ⟨rfl, rfl⟩ := hcut
    go_upto_if 36 with (fail)
    go_cut [2] from 29 to 36 (fun v2 wd => wd = wc ∧ ∃ d' : ByteArray, v2 = .string d' ∧ 1 ≤ d'.size ∧ d'.size ≤ 32)
    case first =>
      cases g with
      | true =>
        go_wp2_with fail
        go_meet
        case rel => exact ⟨rfl, ⟨#[100]⟩, rfl, by decide, by decide⟩
      | false =>
        have h := of_decide_eq_false HG.out.symm
        go_wp2_with fail
        go_meet
        case rel => exact ⟨rfl, d, rfl, by omega, by omega⟩
    case rest =>
      obtain ⟨rfl, d', rfl, hd1, hd2⟩ := hcut
      clear hd HG
      have HZ1 := hide ((HB1.out.block w.heap.size (heap_lt HZ0.out)).trans HZ0.out)
      have hz1 : wc.cell? ⟨w.heap.size, 0, none⟩ = some (.int .i64 mk) := cell_blk HZ1.out 0
      have hf1 : wc.frozen? ⟨w.heap.size, 0, none⟩ = false := frozen_blk HZ1.out 0
      go_upto_region 7 with (fail)
      obtain ⟨g2, hg2⟩ : ∃ g : Bool, g = decide (mk < 1 ∨ 32 < mk) := ⟨_, rfl⟩
      have HG2 := hide hg2
      clear hg2
      go_cut [44] from 37 to 44 (fun v44 wx => wx = wc ∧ v44 = .bool g2)
      case first =>
        by_cases h1 : mk < 1
        · go_wp2_with fail
          go_meet
          case rel => exact ⟨rfl, congrArg Value.bool (by rw [HG2.out]; symm; exact decide_eq_true (by omega))⟩
        · by_cases h2 : 32 < mk
          · go_wp2_with fail
            go_meet
            case rel => exact ⟨rfl, congrArg Value.bool (by rw [HG2.out]; symm; exact decide_eq_true (by omega))⟩
          · go_wp2_with fail
            go_meet
            case rel => exact ⟨rfl, congrArg Value.bool (by rw [HG2.out]; symm; exact decide_eq_false (by omega))⟩
      obtain ⟨rfl, rfl⟩ := hcut
      go_upto_if 44 with (fail)
      go_cut [36] from 37 to 45 (fun v36 we => Hid (Below w.heap.size w we ∧ ∃ k : Int, 1 ≤ k ∧ k ≤ 32 ∧ we.heap[w.heap.size]? = some (.cells #[.int .i64 k, .int .u64 (ms : Int), .int .u64 (mi : Int), .int .u64 (mn : Int), .int .u32 (mc : Int)] 34)))
      case first =>
        cases g2 with
        | true =>
          go_wp2_with fail
          go_meet
          case rel =>
            refine ⟨(HB0.out.trans (HB1.out.mono HB0.out.size)).setCell (Nat.le_refl _) _, 1, by decide, by decide, ?_⟩
            rw [heap_setCell_same _ _ _ _ _ _ HZ1.out]; rfl
        | false =>
          have h := of_decide_eq_false HG2.out.symm
          go_wp2_with fail
          go_meet
          case rel => exact ⟨HB0.out.trans (HB1.out.mono HB0.out.size), mk, by omega, by omega, HZ1.out⟩
      case rest =>
        obtain ⟨hb3, k, hk1, hk2, hz3⟩ := hcut.out
        have HB3 := hide hb3
        have HZ3 := hide hz3
        clear hb3 hz3 hz1 hf1 HZ1 HB1 hcut HG2
        go_upto_if 48 with (fail)
        go_cut [0] from 46 to 50 (fun v0 wf => wf = wc ∧ ∃ it : ByteArray, v0 = .string it ∧ it.size ≤ 2000)
        case first =>
          by_cases h2000 : 2000 < item.size
          · have h2i : (2000 : Int) < (item.size : Int) := by omega
            go_wp2_with fail
            go_meet
            case rel => exact ⟨rfl, item.extract 0 2000, rfl, by rw [ByteArray.size_extract]; omega⟩
          · have h2i : ¬ (2000 : Int) < (item.size : Int) := by omega
            go_wp2_with fail
            go_meet
            case rel => exact ⟨rfl, item, rfl, by omega⟩
        case rest =>
          obtain ⟨rfl, it, rfl, hit⟩ := hcut
          have hits : it.size ≤ 140737488351232 := by omega
          obtain ⟨X0, hX0⟩ : ∃ X, X = Rec.payB it := ⟨_, rfl⟩
          obtain ⟨X1, hX1⟩ : ∃ X, X = Rec.nodeB p d' := ⟨_, rfl⟩
          obtain ⟨X2, hX2⟩ : ∃ X, X = Rec.markB ⟨k, ms, mi, mn, mc⟩ := ⟨_, rfl⟩
          have hwk : (Lit.int .i64 k).wf = true := Rec.wf_i64 (by omega) (by omega)
          have hok : (⟨k, ms, mi, mn, mc⟩ : Rec.Mk).ok := ⟨hwk, HM.out.2.1, HM.out.2.2.1, HM.out.2.2.2.1, HM.out.2.2.2.2⟩
          have s0 : X0.size = it.size + 8 := by rw [hX0]; exact Rec.payB_size it (by omega)
          have s1 : X1.size = 40 := by rw [hX1, Rec.node_body rfl hd2, Rec.sealB_size, ByteArray.size_append, ByteArray.size_append, Rec.zeroB_size, Rec.numB_size]; omega
          have s2 : X2.size = 64 := by rw [hX2]; exact Rec.mark_size _ hk1 hk2
          have HX := hide (And.intro hX0 (And.intro hX1 (And.intro hX2 hok)))
          clear hX0 hX1 hX2 hok
          go_upto_region 11 with (fail)
          go_cut [13] from 51 to 59 (fun v13 wx => Hid (SlV wx v13 ([X0, X1, X2].map Value.string) ∧ Below w.heap.size w wx))
          case first =>
-- REGION turna
            
            refine wp_region_local (by kernel_rfl) (by kernel_rfl) (useList turnaU) [9] (by kernel_rfl) (spR (turnaL w it p d' k ms mi mn mc X0 X1 X2)) (fun _ _ => True) (Below wc.heap.size wc) (fun _ w w' => Below w.heap.size w w') spR_stays (fun _ _ _ _ _ h _ => h) (fun _ _ => Below.refl _ _) (dsts_lt (N := 185) (by kernel_rfl)) ((Below.refl _ _).drew) (fun _ _ => trivial) (all_ops ?_) ?_
            · refine And.intro ?_ ?_
              · -- 0: slot 51 := Op.move (Operand.tmp 0)
                refine lstep_run fun fr wf left => ?_
                have o0 := (left.old 0 (by kernel_rfl)).trans rfl
                refine ⟨wanted_none rfl, fun K hK => ?_⟩
                have hB := hide left.base
                clear left
                go_simp
                exact hK _ _ rfl hB.out (Below.refl _ _)
              refine And.intro ?_ ?_
              · -- 1: slot 52 := Op.call { callee := Callee.value (Operand.func 15), args := #[Operand.tmp 51], argTypes :=
                refine lstep_run fun fr wf left => ?_
                obtain ⟨x0, e0, r0⟩ := left.slot 185 rfl 0 51 _ rfl rfl (by decide) rfl
                have s0 := Eq.symm (show x0 = .string it from r0)
                subst s0
                refine ⟨wanted_none rfl, fun K hK => ?_⟩
                have hB := hide left.base
                clear left
                go_simp
                refine (pay_val it X0 _ hits HX.out.1).mono ?_
                rintro e w' ⟨rfl, hb⟩
                exact hK _ _ rfl (hB.out.trans (hb.mono (le_base hB.out))) hb
              refine And.intro ?_ ?_
              · -- 2: slot 53 := Op.move (Operand.tmp 1)
                refine lstep_run fun fr wf left => ?_
                have o1 := (left.old 1 (by kernel_rfl)).trans rfl
                refine ⟨wanted_none rfl, fun K hK => ?_⟩
                have hB := hide left.base
                clear left
                go_simp
                exact hK _ _ rfl hB.out (Below.refl _ _)
              refine And.intro ?_ ?_
              · -- 3: slot 54 := Op.move (Operand.tmp 2)
                refine lstep_run fun fr wf left => ?_
                have o2 := (left.old 2 (by kernel_rfl)).trans rfl
                refine ⟨wanted_none rfl, fun K hK => ?_⟩
                have hB := hide left.base
                clear left
                go_simp
                exact hK _ _ rfl hB.out (Below.refl _ _)
              refine And.intro ?_ ?_
              · -- 4: slot 55 := Op.call { callee := Callee.value (Operand.func 16), args := #[Operand.tmp 53, Operand.tmp 
                refine lstep_run fun fr wf left => ?_
                obtain ⟨x2, e2, r2⟩ := left.slot 185 rfl 2 53 _ rfl rfl (by decide) rfl
                have s2 := Eq.symm (show x2 = .int .u64 (p : Int) from r2)
                subst s2
                obtain ⟨x3, e3, r3⟩ := left.slot 185 rfl 3 54 _ rfl rfl (by decide) rfl
                have s3 := Eq.symm (show x3 = .string d' from r3)
                subst s3
                refine ⟨wanted_none rfl, fun K hK => ?_⟩
                have hB := hide left.base
                clear left
                go_simp
                refine (node_val p d' X1 _ hp (by omega) HX.out.2.1).mono ?_
                rintro e w' ⟨rfl, hb⟩
                exact hK _ _ rfl (hB.out.trans (hb.mono (le_base hB.out))) hb
              refine And.intro ?_ ?_
              · -- 5: slot 56 := Op.load 34 (Operand.tmp 9)
                refine lstep_run fun fr wf left => ?_
                have o9 := (left.old 9 (by kernel_rfl)).trans rfl
                refine ⟨wanted_none rfl, fun K hK => ?_⟩
                have hB := hide left.base
                have hc := (hB.out.block w.heap.size (heap_lt HZ3.out)).trans HZ3.out
                clear left
                refine wp_load_row 34 (.tmp 9) rfl w.heap.size (eval_tmp (v := .pointer (some ⟨w.heap.size, 0, none⟩)) o9) 34 _ (0, 0) _ hc Try.underlying34 rfl (by kernel_rfl) ?_
                exact hK _ _ rfl hB.out (Below.refl _ _)
              refine And.intro ?_ ?_
              · -- 6: slot 57 := Op.call { callee := Callee.value (Operand.func 14), args := #[Operand.tmp 56], argTypes :=
                refine lstep_run fun fr wf left => ?_
                obtain ⟨x5, e5, r5⟩ := left.slot 185 rfl 5 56 _ rfl rfl (by decide) rfl
                have s5 := Eq.symm (show x5 = .agg #[.int .i64 k, .int .u64 (ms : Int), .int .u64 (mi : Int), .int .u64 (mn : Int), .int .u32 (mc : Int)] from r5)
                subst s5
                refine ⟨wanted_none rfl, fun K hK => ?_⟩
                have hB := hide left.base
                clear left
                go_simp
                refine (mine_val ⟨k, ms, mi, mn, mc⟩ _).mono ?_
                rintro e w' ⟨rfl, hb⟩
                exact hK _ _ rfl (hB.out.trans (hb.mono (le_base hB.out))) hb
              refine And.intro ?_ ?_
              · -- 7: slot 58 := Op.call { callee := Callee.value (Operand.func 17), args := #[Operand.tmp 57], argTypes :=
                refine lstep_run fun fr wf left => ?_
                obtain ⟨x6, e6, r6⟩ := left.slot 185 rfl 6 57 _ rfl rfl (by decide) rfl
                have s6 := Eq.symm (show x6 = .agg #[.int .i64 k, .int .u64 (ms : Int), .int .u64 (mi : Int), .int .u64 (mn : Int), .int .u32 (mc : Int)] from r6)
                subst s6
                refine ⟨wanted_none rfl, fun K hK => ?_⟩
                have hB := hide left.base
                clear left
                go_simp
                refine (mark_val ⟨k, ms, mi, mn, mc⟩ X2 _ HX.out.2.2.2 HX.out.2.2.1).mono ?_
                rintro e w' ⟨rfl, hb⟩
                exact hK _ _ rfl (hB.out.trans (hb.mono (le_base hB.out))) hb
              refine And.intro ?_ ?_
              · -- 8: slot 59 := Op.buildSlice 43 3 #[(0, Operand.tmp 52), (1, Operand.tmp 55), (2, Operand.tmp 58)]
                refine lstep_run fun fr wf left => ?_
                obtain ⟨x1, e1, r1⟩ := left.slot 185 rfl 1 52 _ rfl rfl (by decide) rfl
                have s1 := Eq.symm (show x1 = .string X0 from r1)
                subst s1
                obtain ⟨x4, e4, r4⟩ := left.slot 185 rfl 4 55 _ rfl rfl (by decide) rfl
                have s4 := Eq.symm (show x4 = .string X1 from r4)
                subst s4
                obtain ⟨x7, e7, r7⟩ := left.slot 185 rfl 7 58 _ rfl rfl (by decide) rfl
                have s7 := Eq.symm (show x7 = .string X2 from r7)
                subst s7
                refine ⟨wanted_none rfl, fun K hK => ?_⟩
                have hB := hide left.base
                clear left
                go_simp
                exact hK _ _ (slv_new _ _ _ _ rfl) (hB.out.alloc (le_base hB.out) _) (Below.alloc (Below.refl _ _) (Nat.le_refl _) _)
              refine And.intro ?_ ?_
              · -- 9: slot 13 := Op.assign (Operand.tmp 59)
                refine lstep_run fun fr wf left => ?_
                obtain ⟨x8, e8, r8⟩ := left.slot 185 rfl 8 59 _ rfl rfl (by decide) rfl
                replace r8 : SlV wf x8 [.string X0, .string X1, .string X2] := r8
                refine ⟨wanted_none rfl, fun K hK => ?_⟩
                have hB := hide left.base
                clear left
                go_simp
                exact hK _ _ r8 hB.out (Below.refl _ _)
              exact trivial
            · intro fr wf hB hs hd hall hkeep
              have h13 : SlV wf (fr.tmps.getD 13 undef) [.string X0, .string X1, .string X2] := hall 9 _ rfl (by simp)
              have hfr := act_ext (frame_set hs hkeep [51, 52, 53, 54, 55, 56, 57, 58, 59, 13] (by kernel_rfl)) hd
              obtain ⟨q51, hq51⟩ : ∃ q, q = fr.tmps.getD 51 undef := ⟨_, rfl⟩
              obtain ⟨q52, hq52⟩ : ∃ q, q = fr.tmps.getD 52 undef := ⟨_, rfl⟩
              obtain ⟨q53, hq53⟩ : ∃ q, q = fr.tmps.getD 53 undef := ⟨_, rfl⟩
              obtain ⟨q54, hq54⟩ : ∃ q, q = fr.tmps.getD 54 undef := ⟨_, rfl⟩
              obtain ⟨q55, hq55⟩ : ∃ q, q = fr.tmps.getD 55 undef := ⟨_, rfl⟩
              obtain ⟨q56, hq56⟩ : ∃ q, q = fr.tmps.getD 56 undef := ⟨_, rfl⟩
              obtain ⟨q57, hq57⟩ : ∃ q, q = fr.tmps.getD 57 undef := ⟨_, rfl⟩
              obtain ⟨q58, hq58⟩ : ∃ q, q = fr.tmps.getD 58 undef := ⟨_, rfl⟩
              obtain ⟨q59, hq59⟩ : ∃ q, q = fr.tmps.getD 59 undef := ⟨_, rfl⟩
              obtain ⟨q13, hq13⟩ : ∃ q, q = fr.tmps.getD 13 undef := ⟨_, rfl⟩
              rw [← hq13] at h13
              simp only [List.foldl, ← hq51, ← hq52, ← hq53, ← hq54, ← hq55, ← hq56, ← hq57, ← hq58, ← hq59, ← hq13] at hfr
              simp only [List.setIfInBounds_toArray, List.set_cons_zero, List.set_cons_succ] at hfr
              clear hall hkeep hs hd hq51 hq52 hq53 hq54 hq55 hq56 hq57 hq58 hq59 hq13
              subst hfr
              go_wp2_with fail
              go_meet
              case rel => exact ⟨h13, HB3.out.trans (hB.mono HB3.out.size)⟩
            -- END REGION turna
          case rest =>
            obtain ⟨bl, ol, cl, hvl, hcl, hbl, hxl⟩ := hcut.out.1.pos (by simp)
            have HB4 := hide hcut.out.2
            have HXL := hide (And.intro hbl hxl)
            clear hcut hbl hxl
            replace hvl : _ = Value.slice (some ⟨bl, ol, none⟩) 3 cl := hvl
            subst hvl
            replace hcl : 3 ≤ cl := hcl
            have hX3 : ∀ i, i < 3 → 8 ≤ ([X0, X1, X2].getD i ByteArray.empty).size ∧ ([X0, X1, X2].getD i ByteArray.empty).size ≤ 2008 := by
              intro i hi
              rcases i with _|_|_|i
              · show 8 ≤ X0.size ∧ X0.size ≤ 2008; omega
              · show 8 ≤ X1.size ∧ X1.size ≤ 2008; omega
              · show 8 ≤ X2.size ∧ X2.size ≤ 2008; omega
              · omega
            have HX3 := hide hX3
            clear hX3
            go_wp2_with fail
            go_loopg [14] 3 (fun g v14 wr => ∃ i : Nat, i ≤ 3 ∧ g = 3 - i ∧ v14 = .int .i64 i ∧ Hid (Below wc.heap.size wc wr))
            case atStart => exact ⟨0, by omega, rfl, rfl, Below.refl _ _⟩
            case round =>
              obtain ⟨i, hi3, rfl, rfl, HBr⟩ := hrel
              by_cases hi : i < 3
              · obtain ⟨s, hs⟩ : ∃ s, s = [X0, X1, X2].getD i ByteArray.empty := ⟨_, rfl⟩
                have hs8 := HX3.out i hi
                rw [← hs] at hs8
                have hcell : wr.cell? ⟨bl, ol + i, none⟩ = some (.string s) := by
                  rw [HBr.out.cell (p := ⟨bl, ol + i, none⟩) HXL.out.1, HXL.out.2 i (by simpa using hi), getD_map _ _ _ ByteArray.empty (by simpa using hi), hs]
                have HS := hide hs
                clear hs
                obtain ⟨h8, h2008⟩ := hs8
                have hatb : -9223372036854775808 ≤ at_ ∧ at_ ≤ 9223372036854775807 := by
                  have h : IntKind.i64.min ≤ at_ ∧ at_ ≤ IntKind.i64.max := by simpa [Lit.wf] using hat
                  exact h
                have hr1 : -(s.size : Int) < at_.tmod (s.size : Int) ∧ at_.tmod (s.size : Int) < (s.size : Int) := tmod_bounds at_ s.size (by omega)
                obtain ⟨r1, hr⟩ : ∃ r, r = at_.tmod (s.size : Int) := ⟨_, rfl⟩
                rw [← hr] at hr1
                obtain ⟨kk, hkk, hkl⟩ : ∃ kk : Nat, (at_.tmod (s.size : Int) + (s.size : Int)) % (s.size : Int) = (kk : Int) ∧ kk < s.size := by
                  refine ⟨((at_.tmod (s.size : Int) + (s.size : Int)) % (s.size : Int)).toNat, ?_, ?_⟩
                  · have := Int.emod_nonneg (at_.tmod (s.size : Int) + (s.size : Int)) (show (s.size : Int) ≠ 0 by omega)
                    omega
                  · have := Int.emod_lt_of_pos (at_.tmod (s.size : Int) + (s.size : Int)) (show 0 < (s.size : Int) by omega)
                    omega
                go_upto_region 19 with (fail)
                simp only [hkk]
                clear hkk hr hr1 hatb
                obtain ⟨k0, hk0⟩ : ∃ v, v = kk % X0.size := ⟨_, rfl⟩
                obtain ⟨k1, hk1'⟩ : ∃ v, v = kk % X1.size := ⟨_, rfl⟩
                obtain ⟨k2, hk2'⟩ : ∃ v, v = kk % X2.size := ⟨_, rfl⟩
                have m0 : k0 < X0.size := by rw [hk0]; exact Nat.mod_lt _ (by omega)
                have m1 : k1 < X1.size := by rw [hk1']; exact Nat.mod_lt _ (by omega)
                have m2 : k2 < X2.size := by rw [hk2']; exact Nat.mod_lt _ (by omega)
                have HE0 := hide (show Rec.payV (Rec.readPayB (X0.extract 0 k0)) = .tuple #[.string ⟨#[]⟩, .int .i64 0, .int .i64 180] from by
                  have h := HX.out.1
                  rw [show X0.extract 0 k0 = (Rec.payB it).extract 0 k0 by rw [h], Rec.readPay_cut (by omega) (by omega)]
                  rfl)
                have HE1 := hide (show Rec.readNodeV (d'.size : Int) p (X1.extract 0 k1) = .tuple #[.string ⟨#[]⟩, .int .i64 180] from Rec.readNode_err (by omega) (by omega) (.inl (by rw [ByteArray.size_extract]; omega)))
                have HE2 := hide (show Rec.readMarkV (X2.extract 0 k2) = .tuple #[.agg #[.int .i64 0, .int .u64 0, .int .u64 0, .int .u64 0, .int .u32 0], .int .i64 180] from Rec.readMark_err (.inl (by rw [ByteArray.size_extract]; omega)))
                have HK0 := hide (show (kk : Int).tmod (X0.size : Int) = (k0 : Int) ∧ k0 < X0.size from ⟨by rw [hk0]; rfl, m0⟩)
                have HK1 := hide (show (kk : Int).tmod (X1.size : Int) = (k1 : Int) ∧ k1 < X1.size from ⟨by rw [hk1']; rfl, m1⟩)
                have HK2 := hide (show (kk : Int).tmod (X2.size : Int) = (k2 : Int) ∧ k2 < X2.size from ⟨by rw [hk2']; rfl, m2⟩)
                clear hk0 hk1' hk2' m0 m1 m2
                have n0 : 0 < X0.size := by omega
                have n1 : 0 < X1.size := by omega
                have n2 : 0 < X2.size := by omega
                have l0 : X0.size ≤ 2008 := by omega
                have l1 : X1.size ≤ 2008 := by omega
                have l2 : X2.size ≤ 2008 := by omega
                have HSS := hide (And.intro s0 (And.intro s1 s2))
                clear s0 s1 s2
                have HXR := hide (show bl < wr.heap.size ∧ wr.cell? ⟨bl, ol, none⟩ = some (.string X0) ∧ wr.cell? ⟨bl, ol + 1, none⟩ = some (.string X1) ∧ wr.cell? ⟨bl, ol + 2, none⟩ = some (.string X2) from
                  ⟨Nat.lt_of_lt_of_le HXL.out.1 HBr.out.size, (HBr.out.cell (p := ⟨bl, ol, none⟩) HXL.out.1).trans (HXL.out.2 0 (by simp)), (HBr.out.cell (p := ⟨bl, ol + 1, none⟩) HXL.out.1).trans (HXL.out.2 1 (by simp)), (HBr.out.cell (p := ⟨bl, ol + 2, none⟩) HXL.out.1).trans (HXL.out.2 2 (by simp))⟩)
                go_cut [19] from 78 to 93 (fun v19 wx => Hid (v19 = .int .i64 180 ∧ Below wr.heap.size wr wx))
                case first =>
                -- REGION turnb
                  
                  refine wp_region_local (by kernel_rfl) (by kernel_rfl) (useList turnbU) [17] (by kernel_rfl) (spR (turnbL p d' X0 X1 X2 bl ol cl kk k0 k1 k2)) (fun _ _ => True) (Below wr.heap.size wr) (fun _ w w' => Below w.heap.size w w') spR_stays (fun _ _ _ _ _ h _ => h) (fun _ _ => Below.refl _ _) (dsts_lt (N := 185) (by kernel_rfl)) ((Below.refl _ _).drew) (fun _ _ => trivial) (all_ops ?_) ?_
                  · refine And.intro ?_ ?_
                    · -- 0: slot 79 := Op.move (Operand.tmp 13)
                      refine lstep_run fun fr wf left => ?_
                      have o13 := (left.old 13 (by kernel_rfl)).trans rfl
                      refine ⟨wanted_none rfl, fun K hK => ?_⟩
                      have hB := hide left.base
                      clear left
                      go_simp
                      exact hK _ _ rfl hB.out (Below.refl _ _)
                    refine And.intro ?_ ?_
                    · -- 1: slot 80 := Op.indexAddr 43 (Operand.tmp 79) (Operand.const (Value.int IntKind.i64 0))
                      refine lstep_run fun fr wf left => ?_
                      obtain ⟨x0, e0, r0⟩ := left.slot 185 rfl 0 79 _ rfl rfl (by decide) rfl
                      have s0 := Eq.symm (show x0 = .slice (some ⟨bl, ol, none⟩) 3 cl from r0)
                      subst s0
                      refine ⟨wanted_none rfl, fun K hK => ?_⟩
                      have hB := hide left.base
                      clear left
                      go_simp
                      exact hK _ _ rfl hB.out (Below.refl _ _)
                    refine And.intro ?_ ?_
                    · -- 2: slot 81 := Op.load 9 (Operand.tmp 80)
                      refine lstep_run fun fr wf left => ?_
                      obtain ⟨x1, e1, r1⟩ := left.slot 185 rfl 1 80 _ rfl rfl (by decide) rfl
                      have s1 := Eq.symm (show x1 = .pointer (some ⟨bl, ol, none⟩) from r1)
                      subst s1
                      refine ⟨wanted_none rfl, fun K hK => ?_⟩
                      have hB := hide left.base
                      have hc : wf.cell? ⟨bl, ol, none⟩ = some (.string X0) := (hB.out.cell (p := ⟨bl, ol, none⟩) HXR.out.1).trans HXR.out.2.1
                      clear left
                      go_simp
                      exact hK _ _ rfl hB.out (Below.refl _ _)
                    refine And.intro ?_ ?_
                    · -- 3: slot 82 := Op.move (Operand.tmp 16)
                      refine lstep_run fun fr wf left => ?_
                      have o16 := (left.old 16 (by kernel_rfl)).trans rfl
                      refine ⟨wanted_none rfl, fun K hK => ?_⟩
                      have hB := hide left.base
                      clear left
                      go_simp
                      exact hK _ _ rfl hB.out (Below.refl _ _)
                    refine And.intro ?_ ?_
                    · -- 4: slot 83 := Op.move (Operand.tmp 13)
                      refine lstep_run fun fr wf left => ?_
                      have o13 := (left.old 13 (by kernel_rfl)).trans rfl
                      refine ⟨wanted_none rfl, fun K hK => ?_⟩
                      have hB := hide left.base
                      clear left
                      go_simp
                      exact hK _ _ rfl hB.out (Below.refl _ _)
                    refine And.intro ?_ ?_
                    · -- 5: slot 84 := Op.indexAddr 43 (Operand.tmp 83) (Operand.const (Value.int IntKind.i64 0))
                      refine lstep_run fun fr wf left => ?_
                      obtain ⟨x4, e4, r4⟩ := left.slot 185 rfl 4 83 _ rfl rfl (by decide) rfl
                      have s4 := Eq.symm (show x4 = .slice (some ⟨bl, ol, none⟩) 3 cl from r4)
                      subst s4
                      refine ⟨wanted_none rfl, fun K hK => ?_⟩
                      have hB := hide left.base
                      clear left
                      go_simp
                      exact hK _ _ rfl hB.out (Below.refl _ _)
                    refine And.intro ?_ ?_
                    · -- 6: slot 85 := Op.load 9 (Operand.tmp 84)
                      refine lstep_run fun fr wf left => ?_
                      obtain ⟨x5, e5, r5⟩ := left.slot 185 rfl 5 84 _ rfl rfl (by decide) rfl
                      have s5 := Eq.symm (show x5 = .pointer (some ⟨bl, ol, none⟩) from r5)
                      subst s5
                      refine ⟨wanted_none rfl, fun K hK => ?_⟩
                      have hB := hide left.base
                      have hc : wf.cell? ⟨bl, ol, none⟩ = some (.string X0) := (hB.out.cell (p := ⟨bl, ol, none⟩) HXR.out.1).trans HXR.out.2.1
                      clear left
                      go_simp
                      exact hK _ _ rfl hB.out (Below.refl _ _)
                    refine And.intro ?_ ?_
                    · -- 7: slot 86 := Op.call { callee := Callee.builtin Builtin.len, args := #[Operand.tmp 85], argTypes := #[9
                      refine lstep_run fun fr wf left => ?_
                      obtain ⟨x6, e6, r6⟩ := left.slot 185 rfl 6 85 _ rfl rfl (by decide) rfl
                      have s6 := Eq.symm (show x6 = .string X0 from r6)
                      subst s6
                      refine ⟨wanted_none rfl, fun K hK => ?_⟩
                      have hB := hide left.base
                      clear left
                      go_simp
                      exact hK _ _ rfl hB.out (Below.refl _ _)
                    refine And.intro ?_ ?_
                    · -- 8: slot 87 := Op.binOp BinOp.rem 3 (Operand.tmp 82) (Operand.tmp 86) 3
                      refine lstep_run fun fr wf left => ?_
                      obtain ⟨x3, e3, r3⟩ := left.slot 185 rfl 3 82 _ rfl rfl (by decide) rfl
                      have s3 := Eq.symm (show x3 = .int .i64 (kk : Int) from r3)
                      subst s3
                      obtain ⟨x7, e7, r7⟩ := left.slot 185 rfl 7 86 _ rfl rfl (by decide) rfl
                      have s7 := Eq.symm (show x7 = .int .i64 (X0.size : Int) from r7)
                      subst s7
                      refine ⟨wanted_none rfl, fun K hK => ?_⟩
                      have hB := hide left.base
                      clear left
                      have hz : ¬ X0 = ByteArray.empty := by intro h; rw [h] at n0; exact absurd n0 (by decide)
                      go_simp
                      exact hK _ _ (congrArg (Value.int .i64) HK0.out.1) hB.out (Below.refl _ _)
                    refine And.intro ?_ ?_
                    · -- 9: slot 88 := Op.slice 9 (Operand.tmp 81) none (some (Operand.tmp 87)) none
                      refine lstep_run fun fr wf left => ?_
                      obtain ⟨x2, e2, r2⟩ := left.slot 185 rfl 2 81 _ rfl rfl (by decide) rfl
                      have s2 := Eq.symm (show x2 = .string X0 from r2)
                      subst s2
                      obtain ⟨x8, e8, r8⟩ := left.slot 185 rfl 8 87 _ rfl rfl (by decide) rfl
                      have s8 := Eq.symm (show x8 = .int .i64 (k0 : Int) from r8)
                      subst s8
                      refine ⟨wanted_none rfl, fun K hK => ?_⟩
                      have hB := hide left.base
                      clear left
                      have hle : k0 ≤ X0.size := Nat.le_of_lt HK0.out.2
                      go_simp
                      exact hK _ _ rfl hB.out (Below.refl _ _)
                    refine And.intro ?_ ?_
                    · -- 10: slot 89 := Op.call { callee := Callee.value (Operand.func 8), args := #[Operand.tmp 88], argTypes := 
                      refine lstep_run fun fr wf left => ?_
                      obtain ⟨x9, e9, r9⟩ := left.slot 185 rfl 9 88 _ rfl rfl (by decide) rfl
                      have s9 := Eq.symm (show x9 = .string (X0.extract 0 k0) from r9)
                      subst s9
                      refine ⟨wanted_none rfl, fun K hK => ?_⟩
                      have hB := hide left.base
                      clear left
                      go_simp
                      refine (readPay_val _ _ _ (by rw [ByteArray.size_extract]; omega) HE0.out).mono ?_
                      rintro e w' ⟨rfl, hb⟩
                      exact hK _ _ rfl (hB.out.trans (hb.mono (le_base hB.out))) hb
                    refine And.intro ?_ ?_
                    · -- 11: slot 78 := Op.move (Operand.tmp 89)
                      refine lstep_run fun fr wf left => ?_
                      obtain ⟨x10, e10, r10⟩ := left.slot 185 rfl 10 89 _ rfl rfl (by decide) rfl
                      have s10 := Eq.symm (show x10 = .tuple #[.string ⟨#[]⟩, .int .i64 0, .int .i64 180] from r10)
                      subst s10
                      refine ⟨wanted_none rfl, fun K hK => ?_⟩
                      have hB := hide left.base
                      clear left
                      go_simp
                      exact hK _ _ rfl hB.out (Below.refl _ _)
                    refine And.intro ?_ ?_
                    · -- 12: slot 90 := Op.extract (Operand.tmp 78) 0
                      refine lstep_run fun fr wf left => ?_
                      obtain ⟨x11, e11, r11⟩ := left.slot 185 rfl 11 78 _ rfl rfl (by decide) rfl
                      have s11 := Eq.symm (show x11 = .tuple #[.string ⟨#[]⟩, .int .i64 0, .int .i64 180] from r11)
                      subst s11
                      refine ⟨wanted_none rfl, fun K hK => ?_⟩
                      have hB := hide left.base
                      clear left
                      go_simp
                      exact hK _ _ rfl hB.out (Below.refl _ _)
                    refine And.intro ?_ ?_
                    · -- 13: slot 91 := Op.extract (Operand.tmp 78) 1
                      refine lstep_run fun fr wf left => ?_
                      obtain ⟨x11, e11, r11⟩ := left.slot 185 rfl 11 78 _ rfl rfl (by decide) rfl
                      have s11 := Eq.symm (show x11 = .tuple #[.string ⟨#[]⟩, .int .i64 0, .int .i64 180] from r11)
                      subst s11
                      refine ⟨wanted_none rfl, fun K hK => ?_⟩
                      have hB := hide left.base
                      clear left
                      go_simp
                      exact hK _ _ rfl hB.out (Below.refl _ _)
                    refine And.intro ?_ ?_
                    · -- 14: slot 92 := Op.extract (Operand.tmp 78) 2
                      refine lstep_run fun fr wf left => ?_
                      obtain ⟨x11, e11, r11⟩ := left.slot 185 rfl 11 78 _ rfl rfl (by decide) rfl
                      have s11 := Eq.symm (show x11 = .tuple #[.string ⟨#[]⟩, .int .i64 0, .int .i64 180] from r11)
                      subst s11
                      refine ⟨wanted_none rfl, fun K hK => ?_⟩
                      have hB := hide left.base
                      clear left
                      go_simp
                      exact hK _ _ rfl hB.out (Below.refl _ _)
                    refine And.intro ?_ ?_
                    · -- 15: slot 17 := Op.assign (Operand.tmp 90)
                      refine lstep_run fun fr wf left => ?_
                      obtain ⟨x12, e12, r12⟩ := left.slot 185 rfl 12 90 _ rfl rfl (by decide) rfl
                      have s12 := Eq.symm (show x12 = .string ⟨#[]⟩ from r12)
                      subst s12
                      refine ⟨wanted_none rfl, fun K hK => ?_⟩
                      have hB := hide left.base
                      clear left
                      go_simp
                      exact hK _ _ rfl hB.out (Below.refl _ _)
                    refine And.intro ?_ ?_
                    · -- 16: slot 18 := Op.assign (Operand.tmp 91)
                      refine lstep_run fun fr wf left => ?_
                      obtain ⟨x13, e13, r13⟩ := left.slot 185 rfl 13 91 _ rfl rfl (by decide) rfl
                      have s13 := Eq.symm (show x13 = .int .i64 0 from r13)
                      subst s13
                      refine ⟨wanted_none rfl, fun K hK => ?_⟩
                      have hB := hide left.base
                      clear left
                      go_simp
                      exact hK _ _ rfl hB.out (Below.refl _ _)
                    refine And.intro ?_ ?_
                    · -- 17: slot 19 := Op.assign (Operand.tmp 92)
                      refine lstep_run fun fr wf left => ?_
                      obtain ⟨x14, e14, r14⟩ := left.slot 185 rfl 14 92 _ rfl rfl (by decide) rfl
                      have s14 := Eq.symm (show x14 = .int .i64 180 from r14)
                      subst s14
                      refine ⟨wanted_none rfl, fun K hK => ?_⟩
                      have hB := hide left.base
                      clear left
                      go_simp
                      exact hK _ _ rfl hB.out (Below.refl _ _)
                    exact trivial
                  · intro fr wf hB hs hd hall hkeep
                    have h19 : fr.tmps.getD 19 undef = .int .i64 180 := hall 17 _ rfl (by simp)
                    have hfr := act_ext (frame_set hs hkeep [78, 79, 80, 81, 82, 83, 84, 85, 86, 87, 88, 89, 90, 91, 92, 17, 18, 19] (by kernel_rfl)) hd
                    obtain ⟨q78, hq78⟩ : ∃ q, q = fr.tmps.getD 78 undef := ⟨_, rfl⟩
                    obtain ⟨q79, hq79⟩ : ∃ q, q = fr.tmps.getD 79 undef := ⟨_, rfl⟩
                    obtain ⟨q80, hq80⟩ : ∃ q, q = fr.tmps.getD 80 undef := ⟨_, rfl⟩
                    obtain ⟨q81, hq81⟩ : ∃ q, q = fr.tmps.getD 81 undef := ⟨_, rfl⟩
                    obtain ⟨q82, hq82⟩ : ∃ q, q = fr.tmps.getD 82 undef := ⟨_, rfl⟩
                    obtain ⟨q83, hq83⟩ : ∃ q, q = fr.tmps.getD 83 undef := ⟨_, rfl⟩
                    obtain ⟨q84, hq84⟩ : ∃ q, q = fr.tmps.getD 84 undef := ⟨_, rfl⟩
                    obtain ⟨q85, hq85⟩ : ∃ q, q = fr.tmps.getD 85 undef := ⟨_, rfl⟩
                    obtain ⟨q86, hq86⟩ : ∃ q, q = fr.tmps.getD 86 undef := ⟨_, rfl⟩
                    obtain ⟨q87, hq87⟩ : ∃ q, q = fr.tmps.getD 87 undef := ⟨_, rfl⟩
                    obtain ⟨q88, hq88⟩ : ∃ q, q = fr.tmps.getD 88 undef := ⟨_, rfl⟩
                    obtain ⟨q89, hq89⟩ : ∃ q, q = fr.tmps.getD 89 undef := ⟨_, rfl⟩
                    obtain ⟨q90, hq90⟩ : ∃ q, q = fr.tmps.getD 90 undef := ⟨_, rfl⟩
                    obtain ⟨q91, hq91⟩ : ∃ q, q = fr.tmps.getD 91 undef := ⟨_, rfl⟩
                    obtain ⟨q92, hq92⟩ : ∃ q, q = fr.tmps.getD 92 undef := ⟨_, rfl⟩
                    obtain ⟨q17, hq17⟩ : ∃ q, q = fr.tmps.getD 17 undef := ⟨_, rfl⟩
                    obtain ⟨q18, hq18⟩ : ∃ q, q = fr.tmps.getD 18 undef := ⟨_, rfl⟩
                    obtain ⟨q19, hq19⟩ : ∃ q, q = fr.tmps.getD 19 undef := ⟨_, rfl⟩
                    rw [← hq19] at h19
                    simp only [List.foldl, ← hq78, ← hq79, ← hq80, ← hq81, ← hq82, ← hq83, ← hq84, ← hq85, ← hq86, ← hq87, ← hq88, ← hq89, ← hq90, ← hq91, ← hq92, ← hq17, ← hq18, ← hq19] at hfr
                    simp only [List.setIfInBounds_toArray, List.set_cons_zero, List.set_cons_succ] at hfr
                    clear hall hkeep hs hd hq78 hq79 hq80 hq81 hq82 hq83 hq84 hq85 hq86 hq87 hq88 hq89 hq90 hq91 hq92 hq17 hq18 hq19
                    subst hfr
                    subst h19
                    go_wp2_with fail
                    go_meet
                    case rel => exact ⟨rfl, hB⟩
                  -- END REGION turnb
                obtain ⟨rfl, hb⟩ := hcut.out
                have HB19 := hide hb
                clear hb hcut
                go_upto_region 20 with (fail)
                go_cut [21] from 93 to 110 (fun v21 wx => Hid (v21 = .int .i64 180 ∧ Below wr.heap.size wr wx))
                case first =>
                -- REGION turnc
                  
                  refine wp_region_local (by kernel_rfl) (by kernel_rfl) (useList turncU) [18] (by kernel_rfl) (spR (turncL p d' X0 X1 X2 bl ol cl kk k0 k1 k2)) (fun _ _ => True) (Below wr.heap.size wr) (fun _ w w' => Below w.heap.size w w') spR_stays (fun _ _ _ _ _ h _ => h) (fun _ _ => Below.refl _ _) (dsts_lt (N := 185) (by kernel_rfl)) (HB19.out.drew) (fun _ _ => trivial) (all_ops ?_) ?_
                  · refine And.intro ?_ ?_
                    · -- 0: slot 94 := Op.move (Operand.tmp 2)
                      refine lstep_run fun fr wf left => ?_
                      have o2 := (left.old 2 (by kernel_rfl)).trans rfl
                      refine ⟨wanted_none rfl, fun K hK => ?_⟩
                      have hB := hide left.base
                      clear left
                      go_simp
                      exact hK _ _ rfl hB.out (Below.refl _ _)
                    refine And.intro ?_ ?_
                    · -- 1: slot 95 := Op.call { callee := Callee.builtin Builtin.len, args := #[Operand.tmp 94], argTypes := #[9
                      refine lstep_run fun fr wf left => ?_
                      obtain ⟨x0, e0, r0⟩ := left.slot 185 rfl 0 94 _ rfl rfl (by decide) rfl
                      have s0 := Eq.symm (show x0 = .string d' from r0)
                      subst s0
                      refine ⟨wanted_none rfl, fun K hK => ?_⟩
                      have hB := hide left.base
                      clear left
                      go_simp
                      exact hK _ _ rfl hB.out (Below.refl _ _)
                    refine And.intro ?_ ?_
                    · -- 2: slot 96 := Op.move (Operand.tmp 1)
                      refine lstep_run fun fr wf left => ?_
                      have o1 := (left.old 1 (by kernel_rfl)).trans rfl
                      refine ⟨wanted_none rfl, fun K hK => ?_⟩
                      have hB := hide left.base
                      clear left
                      go_simp
                      exact hK _ _ rfl hB.out (Below.refl _ _)
                    refine And.intro ?_ ?_
                    · -- 3: slot 97 := Op.move (Operand.tmp 13)
                      refine lstep_run fun fr wf left => ?_
                      have o13 := (left.old 13 (by kernel_rfl)).trans rfl
                      refine ⟨wanted_none rfl, fun K hK => ?_⟩
                      have hB := hide left.base
                      clear left
                      go_simp
                      exact hK _ _ rfl hB.out (Below.refl _ _)
                    refine And.intro ?_ ?_
                    · -- 4: slot 98 := Op.indexAddr 43 (Operand.tmp 97) (Operand.const (Value.int IntKind.i64 1))
                      refine lstep_run fun fr wf left => ?_
                      obtain ⟨x3, e3, r3⟩ := left.slot 185 rfl 3 97 _ rfl rfl (by decide) rfl
                      have s3 := Eq.symm (show x3 = .slice (some ⟨bl, ol, none⟩) 3 cl from r3)
                      subst s3
                      refine ⟨wanted_none rfl, fun K hK => ?_⟩
                      have hB := hide left.base
                      clear left
                      go_simp
                      exact hK _ _ rfl hB.out (Below.refl _ _)
                    refine And.intro ?_ ?_
                    · -- 5: slot 99 := Op.load 9 (Operand.tmp 98)
                      refine lstep_run fun fr wf left => ?_
                      obtain ⟨x4, e4, r4⟩ := left.slot 185 rfl 4 98 _ rfl rfl (by decide) rfl
                      have s4 := Eq.symm (show x4 = .pointer (some ⟨bl, ol + 1, none⟩) from r4)
                      subst s4
                      refine ⟨wanted_none rfl, fun K hK => ?_⟩
                      have hB := hide left.base
                      have hc : wf.cell? ⟨bl, ol + 1, none⟩ = some (.string X1) := (hB.out.cell (p := ⟨bl, ol + 1, none⟩) HXR.out.1).trans HXR.out.2.2.1
                      clear left
                      go_simp
                      exact hK _ _ rfl hB.out (Below.refl _ _)
                    refine And.intro ?_ ?_
                    · -- 6: slot 100 := Op.move (Operand.tmp 16)
                      refine lstep_run fun fr wf left => ?_
                      have o16 := (left.old 16 (by kernel_rfl)).trans rfl
                      refine ⟨wanted_none rfl, fun K hK => ?_⟩
                      have hB := hide left.base
                      clear left
                      go_simp
                      exact hK _ _ rfl hB.out (Below.refl _ _)
                    refine And.intro ?_ ?_
                    · -- 7: slot 101 := Op.move (Operand.tmp 13)
                      refine lstep_run fun fr wf left => ?_
                      have o13 := (left.old 13 (by kernel_rfl)).trans rfl
                      refine ⟨wanted_none rfl, fun K hK => ?_⟩
                      have hB := hide left.base
                      clear left
                      go_simp
                      exact hK _ _ rfl hB.out (Below.refl _ _)
                    refine And.intro ?_ ?_
                    · -- 8: slot 102 := Op.indexAddr 43 (Operand.tmp 101) (Operand.const (Value.int IntKind.i64 1))
                      refine lstep_run fun fr wf left => ?_
                      obtain ⟨x7, e7, r7⟩ := left.slot 185 rfl 7 101 _ rfl rfl (by decide) rfl
                      have s7 := Eq.symm (show x7 = .slice (some ⟨bl, ol, none⟩) 3 cl from r7)
                      subst s7
                      refine ⟨wanted_none rfl, fun K hK => ?_⟩
                      have hB := hide left.base
                      clear left
                      go_simp
                      exact hK _ _ rfl hB.out (Below.refl _ _)
                    refine And.intro ?_ ?_
                    · -- 9: slot 103 := Op.load 9 (Operand.tmp 102)
                      refine lstep_run fun fr wf left => ?_
                      obtain ⟨x8, e8, r8⟩ := left.slot 185 rfl 8 102 _ rfl rfl (by decide) rfl
                      have s8 := Eq.symm (show x8 = .pointer (some ⟨bl, ol + 1, none⟩) from r8)
                      subst s8
                      refine ⟨wanted_none rfl, fun K hK => ?_⟩
                      have hB := hide left.base
                      have hc : wf.cell? ⟨bl, ol + 1, none⟩ = some (.string X1) := (hB.out.cell (p := ⟨bl, ol + 1, none⟩) HXR.out.1).trans HXR.out.2.2.1
                      clear left
                      go_simp
                      exact hK _ _ rfl hB.out (Below.refl _ _)
                    refine And.intro ?_ ?_
                    · -- 10: slot 104 := Op.call { callee := Callee.builtin Builtin.len, args := #[Operand.tmp 103], argTypes := #[
                      refine lstep_run fun fr wf left => ?_
                      obtain ⟨x9, e9, r9⟩ := left.slot 185 rfl 9 103 _ rfl rfl (by decide) rfl
                      have s9 := Eq.symm (show x9 = .string X1 from r9)
                      subst s9
                      refine ⟨wanted_none rfl, fun K hK => ?_⟩
                      have hB := hide left.base
                      clear left
                      go_simp
                      exact hK _ _ rfl hB.out (Below.refl _ _)
                    refine And.intro ?_ ?_
                    · -- 11: slot 105 := Op.binOp BinOp.rem 3 (Operand.tmp 100) (Operand.tmp 104) 3
                      refine lstep_run fun fr wf left => ?_
                      obtain ⟨x6, e6, r6⟩ := left.slot 185 rfl 6 100 _ rfl rfl (by decide) rfl
                      have s6 := Eq.symm (show x6 = .int .i64 (kk : Int) from r6)
                      subst s6
                      obtain ⟨x10, e10, r10⟩ := left.slot 185 rfl 10 104 _ rfl rfl (by decide) rfl
                      have s10 := Eq.symm (show x10 = .int .i64 (X1.size : Int) from r10)
                      subst s10
                      refine ⟨wanted_none rfl, fun K hK => ?_⟩
                      have hB := hide left.base
                      clear left
                      have hz : ¬ X1 = ByteArray.empty := by intro h; rw [h] at n1; exact absurd n1 (by decide)
                      go_simp
                      exact hK _ _ (congrArg (Value.int .i64) HK1.out.1) hB.out (Below.refl _ _)
                    refine And.intro ?_ ?_
                    · -- 12: slot 106 := Op.slice 9 (Operand.tmp 99) none (some (Operand.tmp 105)) none
                      refine lstep_run fun fr wf left => ?_
                      obtain ⟨x5, e5, r5⟩ := left.slot 185 rfl 5 99 _ rfl rfl (by decide) rfl
                      have s5 := Eq.symm (show x5 = .string X1 from r5)
                      subst s5
                      obtain ⟨x11, e11, r11⟩ := left.slot 185 rfl 11 105 _ rfl rfl (by decide) rfl
                      have s11 := Eq.symm (show x11 = .int .i64 (k1 : Int) from r11)
                      subst s11
                      refine ⟨wanted_none rfl, fun K hK => ?_⟩
                      have hB := hide left.base
                      clear left
                      have hle : k1 ≤ X1.size := Nat.le_of_lt HK1.out.2
                      go_simp
                      exact hK _ _ rfl hB.out (Below.refl _ _)
                    refine And.intro ?_ ?_
                    · -- 13: slot 107 := Op.call { callee := Callee.value (Operand.func 10), args := #[Operand.tmp 95, Operand.tmp 
                      refine lstep_run fun fr wf left => ?_
                      obtain ⟨x1, e1, r1⟩ := left.slot 185 rfl 1 95 _ rfl rfl (by decide) rfl
                      have s1 := Eq.symm (show x1 = .int .i64 (d'.size : Int) from r1)
                      subst s1
                      obtain ⟨x2, e2, r2⟩ := left.slot 185 rfl 2 96 _ rfl rfl (by decide) rfl
                      have s2 := Eq.symm (show x2 = .int .u64 (p : Int) from r2)
                      subst s2
                      obtain ⟨x12, e12, r12⟩ := left.slot 185 rfl 12 106 _ rfl rfl (by decide) rfl
                      have s12 := Eq.symm (show x12 = .string (X1.extract 0 k1) from r12)
                      subst s12
                      refine ⟨wanted_none rfl, fun K hK => ?_⟩
                      have hB := hide left.base
                      clear left
                      go_simp
                      refine (readNode_val _ _ _ _ _ (Rec.wf_i64 (by omega) (by omega)) hp (by rw [ByteArray.size_extract]; omega) HE1.out).mono ?_
                      rintro e w' ⟨rfl, hb⟩
                      exact hK _ _ rfl (hB.out.trans (hb.mono (le_base hB.out))) hb
                    refine And.intro ?_ ?_
                    · -- 14: slot 93 := Op.move (Operand.tmp 107)
                      refine lstep_run fun fr wf left => ?_
                      obtain ⟨x13, e13, r13⟩ := left.slot 185 rfl 13 107 _ rfl rfl (by decide) rfl
                      have s13 := Eq.symm (show x13 = .tuple #[.string ⟨#[]⟩, .int .i64 180] from r13)
                      subst s13
                      refine ⟨wanted_none rfl, fun K hK => ?_⟩
                      have hB := hide left.base
                      clear left
                      go_simp
                      exact hK _ _ rfl hB.out (Below.refl _ _)
                    refine And.intro ?_ ?_
                    · -- 15: slot 108 := Op.extract (Operand.tmp 93) 0
                      refine lstep_run fun fr wf left => ?_
                      obtain ⟨x14, e14, r14⟩ := left.slot 185 rfl 14 93 _ rfl rfl (by decide) rfl
                      have s14 := Eq.symm (show x14 = .tuple #[.string ⟨#[]⟩, .int .i64 180] from r14)
                      subst s14
                      refine ⟨wanted_none rfl, fun K hK => ?_⟩
                      have hB := hide left.base
                      clear left
                      go_simp
                      exact hK _ _ rfl hB.out (Below.refl _ _)
                    refine And.intro ?_ ?_
                    · -- 16: slot 109 := Op.extract (Operand.tmp 93) 1
                      refine lstep_run fun fr wf left => ?_
                      obtain ⟨x14, e14, r14⟩ := left.slot 185 rfl 14 93 _ rfl rfl (by decide) rfl
                      have s14 := Eq.symm (show x14 = .tuple #[.string ⟨#[]⟩, .int .i64 180] from r14)
                      subst s14
                      refine ⟨wanted_none rfl, fun K hK => ?_⟩
                      have hB := hide left.base
                      clear left
                      go_simp
                      exact hK _ _ rfl hB.out (Below.refl _ _)
                    refine And.intro ?_ ?_
                    · -- 17: slot 20 := Op.assign (Operand.tmp 108)
                      refine lstep_run fun fr wf left => ?_
                      obtain ⟨x15, e15, r15⟩ := left.slot 185 rfl 15 108 _ rfl rfl (by decide) rfl
                      have s15 := Eq.symm (show x15 = .string ⟨#[]⟩ from r15)
                      subst s15
                      refine ⟨wanted_none rfl, fun K hK => ?_⟩
                      have hB := hide left.base
                      clear left
                      go_simp
                      exact hK _ _ rfl hB.out (Below.refl _ _)
                    refine And.intro ?_ ?_
                    · -- 18: slot 21 := Op.assign (Operand.tmp 109)
                      refine lstep_run fun fr wf left => ?_
                      obtain ⟨x16, e16, r16⟩ := left.slot 185 rfl 16 109 _ rfl rfl (by decide) rfl
                      have s16 := Eq.symm (show x16 = .int .i64 180 from r16)
                      subst s16
                      refine ⟨wanted_none rfl, fun K hK => ?_⟩
                      have hB := hide left.base
                      clear left
                      go_simp
                      exact hK _ _ rfl hB.out (Below.refl _ _)
                    exact trivial
                  · intro fr wf hB hs hd hall hkeep
                    have h21 : fr.tmps.getD 21 undef = .int .i64 180 := hall 18 _ rfl (by simp)
                    have hfr := act_ext (frame_set hs hkeep [93, 94, 95, 96, 97, 98, 99, 100, 101, 102, 103, 104, 105, 106, 107, 108, 109, 20, 21] (by kernel_rfl)) hd
                    obtain ⟨q93, hq93⟩ : ∃ q, q = fr.tmps.getD 93 undef := ⟨_, rfl⟩
                    obtain ⟨q94, hq94⟩ : ∃ q, q = fr.tmps.getD 94 undef := ⟨_, rfl⟩
                    obtain ⟨q95, hq95⟩ : ∃ q, q = fr.tmps.getD 95 undef := ⟨_, rfl⟩
                    obtain ⟨q96, hq96⟩ : ∃ q, q = fr.tmps.getD 96 undef := ⟨_, rfl⟩
                    obtain ⟨q97, hq97⟩ : ∃ q, q = fr.tmps.getD 97 undef := ⟨_, rfl⟩
                    obtain ⟨q98, hq98⟩ : ∃ q, q = fr.tmps.getD 98 undef := ⟨_, rfl⟩
                    obtain ⟨q99, hq99⟩ : ∃ q, q = fr.tmps.getD 99 undef := ⟨_, rfl⟩
                    obtain ⟨q100, hq100⟩ : ∃ q, q = fr.tmps.getD 100 undef := ⟨_, rfl⟩
                    obtain ⟨q101, hq101⟩ : ∃ q, q = fr.tmps.getD 101 undef := ⟨_, rfl⟩
                    obtain ⟨q102, hq102⟩ : ∃ q, q = fr.tmps.getD 102 undef := ⟨_, rfl⟩
                    obtain ⟨q103, hq103⟩ : ∃ q, q = fr.tmps.getD 103 undef := ⟨_, rfl⟩
                    obtain ⟨q104, hq104⟩ : ∃ q, q = fr.tmps.getD 104 undef := ⟨_, rfl⟩
                    obtain ⟨q105, hq105⟩ : ∃ q, q = fr.tmps.getD 105 undef := ⟨_, rfl⟩
                    obtain ⟨q106, hq106⟩ : ∃ q, q = fr.tmps.getD 106 undef := ⟨_, rfl⟩
                    obtain ⟨q107, hq107⟩ : ∃ q, q = fr.tmps.getD 107 undef := ⟨_, rfl⟩
                    obtain ⟨q108, hq108⟩ : ∃ q, q = fr.tmps.getD 108 undef := ⟨_, rfl⟩
                    obtain ⟨q109, hq109⟩ : ∃ q, q = fr.tmps.getD 109 undef := ⟨_, rfl⟩
                    obtain ⟨q20, hq20⟩ : ∃ q, q = fr.tmps.getD 20 undef := ⟨_, rfl⟩
                    obtain ⟨q21, hq21⟩ : ∃ q, q = fr.tmps.getD 21 undef := ⟨_, rfl⟩
                    rw [← hq21] at h21
                    simp only [List.foldl, ← hq93, ← hq94, ← hq95, ← hq96, ← hq97, ← hq98, ← hq99, ← hq100, ← hq101, ← hq102, ← hq103, ← hq104, ← hq105, ← hq106, ← hq107, ← hq108, ← hq109, ← hq20, ← hq21] at hfr
                    simp only [List.setIfInBounds_toArray, List.set_cons_zero, List.set_cons_succ] at hfr
                    clear hall hkeep hs hd hq93 hq94 hq95 hq96 hq97 hq98 hq99 hq100 hq101 hq102 hq103 hq104 hq105 hq106 hq107 hq108 hq109 hq20 hq21
                    subst hfr
                    subst h21
                    go_wp2_with fail
                    go_meet
                    case rel => exact ⟨rfl, hB⟩
                  -- END REGION turnc
                obtain ⟨rfl, hb⟩ := hcut.out
                have HB20 := hide hb
                clear hb hcut HB19
                go_upto_region 21 with (fail)
                go_cut [23] from 110 to 124 (fun v23 wx => Hid (v23 = .int .i64 180 ∧ Below wr.heap.size wr wx))
                case first =>
                -- REGION turnd
                  
                  refine wp_region_local (by kernel_rfl) (by kernel_rfl) (useList turndU) [16] (by kernel_rfl) (spR (turndL wr p d' X0 X1 X2 bl ol cl kk k0 k1 k2)) (fun _ _ => True) (Below wr.heap.size wr) (wsE 15 (wr.heap.size)) (ws_stays (by simp [turndL]) (by kernel_rfl)) (fun _ _ _ _ _ h _ => h) ws_refl (dsts_lt (N := 185) (by kernel_rfl)) (HB20.out.drew) (fun _ _ => trivial) (all_ops ?_) ?_
                  · refine And.intro ?_ ?_
                    · -- 0: slot 111 := Op.move (Operand.tmp 13)
                      refine lstep_run fun fr wf left => ?_
                      have o13 := (left.old 13 (by kernel_rfl)).trans rfl
                      refine ⟨wanted_none rfl, fun K hK => ?_⟩
                      have hB := hide left.base
                      clear left
                      go_simp
                      exact hK _ _ rfl hB.out (Below.refl _ _)
                    refine And.intro ?_ ?_
                    · -- 1: slot 112 := Op.indexAddr 43 (Operand.tmp 111) (Operand.const (Value.int IntKind.i64 2))
                      refine lstep_run fun fr wf left => ?_
                      obtain ⟨x0, e0, r0⟩ := left.slot 185 rfl 0 111 _ rfl rfl (by decide) rfl
                      have s0 := Eq.symm (show x0 = .slice (some ⟨bl, ol, none⟩) 3 cl from r0)
                      subst s0
                      refine ⟨wanted_none rfl, fun K hK => ?_⟩
                      have hB := hide left.base
                      clear left
                      go_simp
                      exact hK _ _ rfl hB.out (Below.refl _ _)
                    refine And.intro ?_ ?_
                    · -- 2: slot 113 := Op.load 9 (Operand.tmp 112)
                      refine lstep_run fun fr wf left => ?_
                      obtain ⟨x1, e1, r1⟩ := left.slot 185 rfl 1 112 _ rfl rfl (by decide) rfl
                      have s1 := Eq.symm (show x1 = .pointer (some ⟨bl, ol + 2, none⟩) from r1)
                      subst s1
                      refine ⟨wanted_none rfl, fun K hK => ?_⟩
                      have hB := hide left.base
                      have hc : wf.cell? ⟨bl, ol + 2, none⟩ = some (.string X2) := (hB.out.cell (p := ⟨bl, ol + 2, none⟩) HXR.out.1).trans HXR.out.2.2.2
                      clear left
                      go_simp
                      exact hK _ _ rfl hB.out (Below.refl _ _)
                    refine And.intro ?_ ?_
                    · -- 3: slot 114 := Op.move (Operand.tmp 16)
                      refine lstep_run fun fr wf left => ?_
                      have o16 := (left.old 16 (by kernel_rfl)).trans rfl
                      refine ⟨wanted_none rfl, fun K hK => ?_⟩
                      have hB := hide left.base
                      clear left
                      go_simp
                      exact hK _ _ rfl hB.out (Below.refl _ _)
                    refine And.intro ?_ ?_
                    · -- 4: slot 115 := Op.move (Operand.tmp 13)
                      refine lstep_run fun fr wf left => ?_
                      have o13 := (left.old 13 (by kernel_rfl)).trans rfl
                      refine ⟨wanted_none rfl, fun K hK => ?_⟩
                      have hB := hide left.base
                      clear left
                      go_simp
                      exact hK _ _ rfl hB.out (Below.refl _ _)
                    refine And.intro ?_ ?_
                    · -- 5: slot 116 := Op.indexAddr 43 (Operand.tmp 115) (Operand.const (Value.int IntKind.i64 2))
                      refine lstep_run fun fr wf left => ?_
                      obtain ⟨x4, e4, r4⟩ := left.slot 185 rfl 4 115 _ rfl rfl (by decide) rfl
                      have s4 := Eq.symm (show x4 = .slice (some ⟨bl, ol, none⟩) 3 cl from r4)
                      subst s4
                      refine ⟨wanted_none rfl, fun K hK => ?_⟩
                      have hB := hide left.base
                      clear left
                      go_simp
                      exact hK _ _ rfl hB.out (Below.refl _ _)
                    refine And.intro ?_ ?_
                    · -- 6: slot 117 := Op.load 9 (Operand.tmp 116)
                      refine lstep_run fun fr wf left => ?_
                      obtain ⟨x5, e5, r5⟩ := left.slot 185 rfl 5 116 _ rfl rfl (by decide) rfl
                      have s5 := Eq.symm (show x5 = .pointer (some ⟨bl, ol + 2, none⟩) from r5)
                      subst s5
                      refine ⟨wanted_none rfl, fun K hK => ?_⟩
                      have hB := hide left.base
                      have hc : wf.cell? ⟨bl, ol + 2, none⟩ = some (.string X2) := (hB.out.cell (p := ⟨bl, ol + 2, none⟩) HXR.out.1).trans HXR.out.2.2.2
                      clear left
                      go_simp
                      exact hK _ _ rfl hB.out (Below.refl _ _)
                    refine And.intro ?_ ?_
                    · -- 7: slot 118 := Op.call { callee := Callee.builtin Builtin.len, args := #[Operand.tmp 117], argTypes := #[
                      refine lstep_run fun fr wf left => ?_
                      obtain ⟨x6, e6, r6⟩ := left.slot 185 rfl 6 117 _ rfl rfl (by decide) rfl
                      have s6 := Eq.symm (show x6 = .string X2 from r6)
                      subst s6
                      refine ⟨wanted_none rfl, fun K hK => ?_⟩
                      have hB := hide left.base
                      clear left
                      go_simp
                      exact hK _ _ rfl hB.out (Below.refl _ _)
                    refine And.intro ?_ ?_
                    · -- 8: slot 119 := Op.binOp BinOp.rem 3 (Operand.tmp 114) (Operand.tmp 118) 3
                      refine lstep_run fun fr wf left => ?_
                      obtain ⟨x3, e3, r3⟩ := left.slot 185 rfl 3 114 _ rfl rfl (by decide) rfl
                      have s3 := Eq.symm (show x3 = .int .i64 (kk : Int) from r3)
                      subst s3
                      obtain ⟨x7, e7, r7⟩ := left.slot 185 rfl 7 118 _ rfl rfl (by decide) rfl
                      have s7 := Eq.symm (show x7 = .int .i64 (X2.size : Int) from r7)
                      subst s7
                      refine ⟨wanted_none rfl, fun K hK => ?_⟩
                      have hB := hide left.base
                      clear left
                      have hz : ¬ X2 = ByteArray.empty := by intro h; rw [h] at n2; exact absurd n2 (by decide)
                      go_simp
                      exact hK _ _ (congrArg (Value.int .i64) HK2.out.1) hB.out (Below.refl _ _)
                    refine And.intro ?_ ?_
                    · -- 9: slot 120 := Op.slice 9 (Operand.tmp 113) none (some (Operand.tmp 119)) none
                      refine lstep_run fun fr wf left => ?_
                      obtain ⟨x2, e2, r2⟩ := left.slot 185 rfl 2 113 _ rfl rfl (by decide) rfl
                      have s2 := Eq.symm (show x2 = .string X2 from r2)
                      subst s2
                      obtain ⟨x8, e8, r8⟩ := left.slot 185 rfl 8 119 _ rfl rfl (by decide) rfl
                      have s8 := Eq.symm (show x8 = .int .i64 (k2 : Int) from r8)
                      subst s8
                      refine ⟨wanted_none rfl, fun K hK => ?_⟩
                      have hB := hide left.base
                      clear left
                      have hle : k2 ≤ X2.size := Nat.le_of_lt HK2.out.2
                      go_simp
                      exact hK _ _ rfl hB.out (Below.refl _ _)
                    refine And.intro ?_ ?_
                    · -- 10: slot 121 := Op.call { callee := Callee.value (Operand.func 12), args := #[Operand.tmp 120], argTypes :
                      refine lstep_run fun fr wf left => ?_
                      obtain ⟨x9, e9, r9⟩ := left.slot 185 rfl 9 120 _ rfl rfl (by decide) rfl
                      have s9 := Eq.symm (show x9 = .string (X2.extract 0 k2) from r9)
                      subst s9
                      refine ⟨wanted_none rfl, fun K hK => ?_⟩
                      have hB := hide left.base
                      clear left
                      go_simp
                      refine (readMark_val _ _ _ (by rw [ByteArray.size_extract]; omega) HE2.out).mono ?_
                      rintro e w' ⟨rfl, hb⟩
                      exact hK _ _ rfl (hB.out.trans (hb.mono (le_base hB.out))) hb
                    refine And.intro ?_ ?_
                    · -- 11: slot 110 := Op.move (Operand.tmp 121)
                      refine lstep_run fun fr wf left => ?_
                      obtain ⟨x10, e10, r10⟩ := left.slot 185 rfl 10 121 _ rfl rfl (by decide) rfl
                      have s10 := Eq.symm (show x10 = .tuple #[.agg #[.int .i64 0, .int .u64 0, .int .u64 0, .int .u64 0, .int .u32 0], .int .i64 180] from r10)
                      subst s10
                      refine ⟨wanted_none rfl, fun K hK => ?_⟩
                      have hB := hide left.base
                      clear left
                      go_simp
                      exact hK _ _ rfl hB.out (Below.refl _ _)
                    refine And.intro ?_ ?_
                    · -- 12: slot 122 := Op.extract (Operand.tmp 110) 0
                      refine lstep_run fun fr wf left => ?_
                      obtain ⟨x11, e11, r11⟩ := left.slot 185 rfl 11 110 _ rfl rfl (by decide) rfl
                      have s11 := Eq.symm (show x11 = .tuple #[.agg #[.int .i64 0, .int .u64 0, .int .u64 0, .int .u64 0, .int .u32 0], .int .i64 180] from r11)
                      subst s11
                      refine ⟨wanted_none rfl, fun K hK => ?_⟩
                      have hB := hide left.base
                      clear left
                      go_simp
                      exact hK _ _ rfl hB.out (Below.refl _ _)
                    refine And.intro ?_ ?_
                    · -- 13: slot 123 := Op.extract (Operand.tmp 110) 1
                      refine lstep_run fun fr wf left => ?_
                      obtain ⟨x11, e11, r11⟩ := left.slot 185 rfl 11 110 _ rfl rfl (by decide) rfl
                      have s11 := Eq.symm (show x11 = .tuple #[.agg #[.int .i64 0, .int .u64 0, .int .u64 0, .int .u64 0, .int .u32 0], .int .i64 180] from r11)
                      subst s11
                      refine ⟨wanted_none rfl, fun K hK => ?_⟩
                      have hB := hide left.base
                      clear left
                      go_simp
                      exact hK _ _ rfl hB.out (Below.refl _ _)
                    refine And.intro ?_ ?_
                    · -- 14: slot 22 := Op.alloc 31
                      refine lstep_run fun fr wf left => ?_
                      refine ⟨wanted_none rfl, fun K hK => ?_⟩
                      have hB := hide left.base
                      clear left
                      go_simp
                      exact hK _ _ ⟨_, rfl, le_base hB.out, _, rfl, alloc_at _ _⟩ (hB.out.alloc (le_base hB.out) _) (Below.alloc (Below.refl _ _) (Nat.le_refl _) _)
                    refine And.intro ?_ ?_
                    · -- 15: slot None := Op.store 31 (Operand.tmp 22) (Operand.tmp 122)
                      refine lstep_run fun fr wf left => ?_
                      obtain ⟨x12, e12, r12⟩ := left.slot 185 rfl 12 122 _ rfl rfl (by decide) rfl
                      have s12 := Eq.symm (show x12 = .agg #[.int .i64 0, .int .u64 0, .int .u64 0, .int .u64 0, .int .u32 0] from r12)
                      subst s12
                      obtain ⟨x14, e14, r14⟩ := left.slot 185 rfl 14 22 _ rfl rfl (by decide) rfl
                      obtain ⟨b14, s14, g14, c14, n14, h14⟩ := (show ∃ B, x14 = .pointer (some ⟨B, 0, none⟩) ∧ wr.heap.size ≤ B ∧ ∃ cs : Array Value, cs.size = 5 ∧ wf.heap[B]? = some (.cells cs 31 (0, 0)) from r14)
                      subst s14
                      refine ⟨wanted_none rfl, fun K hK => ?_⟩
                      have hB := hide left.base
                      clear left
                      refine wp_store_row 31 (.tmp 22) (.tmp 122) rfl b14 #[.int .i64 0, .int .u64 0, .int .u64 0, .int .u64 0, .int .u32 0] (eval_tmp e14) (eval_tmp e12) 31 c14 h14 (by kernel_rfl) n14 (by simp [Value.oneCell']) ?_
                      refine hK _ _ ⟨b14, ?_, g14, setRow_heap wf b14 c14 _ 31 (0, 0) h14⟩ (Go.below_setRow hB.out g14 _) (ws_fill rfl g14 h14 n14.symm)
                      exact (if_pos rfl).trans (slotVal_at (p := 22) rfl e14)
                    refine And.intro ?_ ?_
                    · -- 16: slot 23 := Op.assign (Operand.tmp 123)
                      refine lstep_run fun fr wf left => ?_
                      obtain ⟨x13, e13, r13⟩ := left.slot 185 rfl 13 123 _ rfl rfl (by decide) rfl
                      have s13 := Eq.symm (show x13 = .int .i64 180 from r13)
                      subst s13
                      refine ⟨wanted_none rfl, fun K hK => ?_⟩
                      have hB := hide left.base
                      clear left
                      go_simp
                      exact hK _ _ rfl hB.out (Below.refl _ _)
                    exact trivial
                  · intro fr wf hB hs hd hall hkeep
                    have h23 : fr.tmps.getD 23 undef = .int .i64 180 := hall 16 _ rfl (by simp)
                    have hfr := act_ext (frame_set hs hkeep [110, 111, 112, 113, 114, 115, 116, 117, 118, 119, 120, 121, 122, 123, 22, 23] (by kernel_rfl)) hd
                    obtain ⟨q110, hq110⟩ : ∃ q, q = fr.tmps.getD 110 undef := ⟨_, rfl⟩
                    obtain ⟨q111, hq111⟩ : ∃ q, q = fr.tmps.getD 111 undef := ⟨_, rfl⟩
                    obtain ⟨q112, hq112⟩ : ∃ q, q = fr.tmps.getD 112 undef := ⟨_, rfl⟩
                    obtain ⟨q113, hq113⟩ : ∃ q, q = fr.tmps.getD 113 undef := ⟨_, rfl⟩
                    obtain ⟨q114, hq114⟩ : ∃ q, q = fr.tmps.getD 114 undef := ⟨_, rfl⟩
                    obtain ⟨q115, hq115⟩ : ∃ q, q = fr.tmps.getD 115 undef := ⟨_, rfl⟩
                    obtain ⟨q116, hq116⟩ : ∃ q, q = fr.tmps.getD 116 undef := ⟨_, rfl⟩
                    obtain ⟨q117, hq117⟩ : ∃ q, q = fr.tmps.getD 117 undef := ⟨_, rfl⟩
                    obtain ⟨q118, hq118⟩ : ∃ q, q = fr.tmps.getD 118 undef := ⟨_, rfl⟩
                    obtain ⟨q119, hq119⟩ : ∃ q, q = fr.tmps.getD 119 undef := ⟨_, rfl⟩
                    obtain ⟨q120, hq120⟩ : ∃ q, q = fr.tmps.getD 120 undef := ⟨_, rfl⟩
                    obtain ⟨q121, hq121⟩ : ∃ q, q = fr.tmps.getD 121 undef := ⟨_, rfl⟩
                    obtain ⟨q122, hq122⟩ : ∃ q, q = fr.tmps.getD 122 undef := ⟨_, rfl⟩
                    obtain ⟨q123, hq123⟩ : ∃ q, q = fr.tmps.getD 123 undef := ⟨_, rfl⟩
                    obtain ⟨q22, hq22⟩ : ∃ q, q = fr.tmps.getD 22 undef := ⟨_, rfl⟩
                    obtain ⟨q23, hq23⟩ : ∃ q, q = fr.tmps.getD 23 undef := ⟨_, rfl⟩
                    rw [← hq23] at h23
                    simp only [List.foldl, ← hq110, ← hq111, ← hq112, ← hq113, ← hq114, ← hq115, ← hq116, ← hq117, ← hq118, ← hq119, ← hq120, ← hq121, ← hq122, ← hq123, ← hq22, ← hq23] at hfr
                    simp only [List.setIfInBounds_toArray, List.set_cons_zero, List.set_cons_succ] at hfr
                    clear hall hkeep hs hd hq110 hq111 hq112 hq113 hq114 hq115 hq116 hq117 hq118 hq119 hq120 hq121 hq122 hq123 hq22 hq23
                    subst hfr
                    subst h23
                    go_wp2_with fail
                    go_meet
                    case rel => exact ⟨rfl, hB⟩
                  -- END REGION turnd
                obtain ⟨rfl, hb⟩ := hcut.out
                have HB21 := hide hb
                clear hb hcut HB20 HE0 HE1 HE2 HXR
                have hcell2 : wc.cell? ⟨bl, ol + i, none⟩ = some (.string s) := (HB21.out.cell (p := ⟨bl, ol + i, none⟩) (Nat.lt_of_lt_of_le HXL.out.1 HBr.out.size)).trans hcell
                clear hcell
                have hss : s.size ≤ 140737488351232 := by omega
                have hcv := fun w s => run_bytes_of_string (P := Try.prog) w 9 44 5 s Try.underlying9 Try.underlying44 Try.underlying5
                go_upto_region 25 with (fail)
                have HC0 := grownCap_ge wc s.size 0 5
                generalize grownCap wc s.size 0 5 = cap at HC0 ⊢
                obtain ⟨W2, hW2⟩ : ∃ W2, (wc.alloc (.cells (bytesRow s cap) 5 ((bytesRow s cap).size, (bytesRow s cap).size + 1))).drew = W2 := ⟨_, rfl⟩
                have hA := show Arr W2 wc.heap.size _ _ by rw [← hW2]; exact arr_bytes wc s cap 5
                have HBW := hide (show Below wr.heap.size wr W2 by rw [← hW2]; exact (HB21.out.alloc HB21.out.size _).drew)
                have HG0 := hide (show wr.heap.size ≤ wc.heap.size from HB21.out.size)
                rw [hW2]
                clear hW2 hcv hcell2
                generalize wc.heap.size = g0 at HG0 hA ⊢
                have hbl : ((bytesOf s).map byteV).length = s.size := by simp [bytesOf]
                have hbk := hA.cell kk (by rw [hbl]; exact hkl)
                have hbf := hA.frozen kk (by rw [hbl]; exact hkl)
                obtain ⟨old, hold⟩ : ∃ v, v = (bytesOf s).getD kk 0 := ⟨_, rfl⟩
                rw [getD_map _ _ _ 0 (by rw [Rec.bytes_length]; exact hkl), ← hold] at hbk
                unfold byteV at hbk
                have HA := hide hA
                have HOLD := hide hold
                clear hA hbl hold
                go_upto_region 26 with (fail)
                rw [Rec.byte_xor]
                obtain ⟨cur, hcur⟩ : ∃ v, v = (bytesOf s).set kk (old ^^^ c) := ⟨_, rfl⟩
                obtain ⟨W3, hW3⟩ : ∃ W3, W2.setCell ⟨g0, kk, none⟩ (.int .u8 ((old ^^^ c).toNat : Int)) = W3 := ⟨_, rfl⟩
                have hA3 : Arr W3 g0 5 (cur.map byteV) := by
                  have h := HA.out.set kk (by simp [bytesOf]; exact hkl) (byteV (old ^^^ c))
                  rw [← List.map_set, ← hcur] at h
                  rw [← hW3]; exact h
                have HB3' := hide (show Below wr.heap.size wr W3 by rw [← hW3]; exact HBW.out.setCell HG0.out _)
                rw [hW3]
                have hcl : s.size = (cur.map byteV).length := by rw [hcur]; simp [bytesOf]
                have HSL := hide (show SlV W3 (.slice (some ⟨g0, 0, none⟩) s.size cap) (cur.map byteV) from hA3.slv hcl HC0)
                have htz : (⟨cur.toArray⟩ : ByteArray).size = s.size := by rw [hcl, List.length_map]; rfl
                have HT := hide (Rec.turned_all (t := ⟨cur.toArray⟩) (m := ⟨k, ms, mi, mn, mc⟩) HX.out.1 HX.out.2.1 HX.out.2.2.1 hit hd1 hd2 hk1 hk2 HS.out hkl h8 HC.out (by rw [← HOLD.out, ← hcur]; simp [bytesOf]))
                clear hcur hW3 hA3 hcl HA HBW hbk hbf
                obtain ⟨t, ht⟩ : ∃ t : ByteArray, t = ⟨cur.toArray⟩ := ⟨_, rfl⟩
                rw [← ht] at htz HT
                have hcs := run_bytes_string (P := Try.prog) (w := W3) 44 9 5 Try.underlying44 Try.underlying5 Try.underlying9 HSL.out
                rw [← ht] at hcs
                clear ht
                go_cut [148] from 149 to 155 (fun v148 wx => wx = W3 ∧ v148 = .bool (decide (i = 0 ∧ 4 ≤ kk)))
                case first =>
                  by_cases h1 : i = 0
                  · by_cases h2 : 4 ≤ kk
                    · have h2i : (4 : Int) ≤ (kk : Int) := by omega
                      subst h1
                      go_wp2_with fail
                      go_meet
                      case rel => exact ⟨rfl, by simp [h2]⟩
                    · have h2i : ¬ (4 : Int) ≤ (kk : Int) := by omega
                      subst h1
                      go_wp2_with fail
                      go_meet
                      case rel => exact ⟨rfl, by simp [h2]⟩
                  · have h1i : ((i : Int) == 0) = false := by rw [beq_eq_false_iff_ne]; omega
                    go_wp2_with fail
                    go_meet
                    case rel => exact ⟨rfl, by simp [h1]⟩
                obtain ⟨rfl, rfl⟩ := hcut
                have htl : t.size ≤ 4611686018427387904 := by omega
                have htm : t.size ≤ 140737488351232 := by omega
                by_cases h0 : i = 0
                · by_cases h4 : 4 ≤ kk
                  · have hg : decide (i = 0 ∧ 4 ≤ kk) = true := decide_eq_true ⟨h0, h4⟩
                    rw [hg]
                    have HE := hide (HT.out.1 h0 h4)
                    go_wp2_with fail
                    refine (readPay_val t _ _ htl HE.out).mono ?_
                    rintro e w9 ⟨rfl, hb9⟩
                    have HB9 := hide hb9
                    clear hb9
                    go_wp2_with fail
                    go_roundg (3 - (i + 1))
                    case measure => omega
                    case rel => exact ⟨i + 1, by omega, rfl, by go_num, HBr.out.trans ((HB3'.out.trans (HB9.out.mono HB3'.out.size)).mono HBr.out.size)⟩
                  · have hg : decide (i = 0 ∧ 4 ≤ kk) = false := decide_eq_false (fun h => h4 h.2)
                    rw [hg]
                    have h0i : ((i : Int) == 1) = false := by rw [beq_eq_false_iff_ne]; omega
                    have h0j : ((i : Int) == 2) = false := by rw [beq_eq_false_iff_ne]; omega
                    go_wp2_with fail
                    go_roundg (3 - (i + 1))
                    case measure => omega
                    case rel => exact ⟨i + 1, by omega, rfl, by go_num, HBr.out.trans (HB3'.out.mono HBr.out.size)⟩
                · have hg : decide (i = 0 ∧ 4 ≤ kk) = false := decide_eq_false (fun h => h0 h.1)
                  rw [hg]
                  by_cases h1 : i = 1
                  · have HE := hide (HT.out.2.1 h1)
                    have h1i : ((i : Int) == 1) = true := by rw [beq_iff_eq]; omega
                    go_wp2_with fail
                    refine (readNode_val _ p t _ _ (Rec.wf_i64 (by omega) (by omega)) hp htm HE.out).mono ?_
                    rintro e w9 ⟨rfl, hb9⟩
                    have HB9 := hide hb9
                    clear hb9
                    go_wp2_with fail
                    go_roundg (3 - (i + 1))
                    case measure => omega
                    case rel => exact ⟨i + 1, by omega, rfl, by go_num, HBr.out.trans ((HB3'.out.trans (HB9.out.mono HB3'.out.size)).mono HBr.out.size)⟩
                  · have h2 : i = 2 := by omega
                    have HE := hide (HT.out.2.2 h2)
                    have h0i : ((i : Int) == 1) = false := by rw [beq_eq_false_iff_ne]; omega
                    have h1i : ((i : Int) == 2) = true := by rw [beq_iff_eq]; omega
                    go_wp2_with fail
                    refine (readMark_val t _ _ htm HE.out).mono ?_
                    rintro e w9 ⟨rfl, hb9⟩
                    have HB9 := hide hb9
                    clear hb9
                    go_wp2_with fail
                    go_roundg (3 - (i + 1))
                    case measure => omega
                    case rel => exact ⟨i + 1, by omega, rfl, by go_num, HBr.out.trans ((HB3'.out.trans (HB9.out.mono HB3'.out.size)).mono HBr.out.size)⟩
              · have hi' : i = 3 := by omega
                subst hi'
                go_wp2_with fail
                go_ret
                exact ⟨rfl, HB4.out.trans (HBr.out.mono HB4.out.size)⟩
end Go.Proofs.Ytoddjpkacaekbaa
