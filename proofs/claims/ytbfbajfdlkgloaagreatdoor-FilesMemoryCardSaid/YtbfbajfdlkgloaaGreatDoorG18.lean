/-
  massifref18's Sum, Big, Small, Zeros, summed, Payload: the walks.
-/
import Derived.Test.YtbfbajfdlkgloaaGreatDoorG16

namespace Go.Proofs.YtbfbajfdlkgloaaGreatDoor
open Go.RowKit
open Crc (bv_lt xor_poly half not_bv fold_drop int_u32 ret_u32)
theorem odd_bit (x : BitVec 32) : ((x.toNat : Int) % 2 == 1) = x.getLsbD 0 := by
  rw [Bool.eq_iff_iff, beq_iff_eq, BitVec.getLsbD, Nat.testBit_zero, decide_eq_true_iff]
  omega
set_option maxHeartbeats 1600000 in
set_option maxRecDepth 100000 in
theorem refSum_any (s : ByteArray) (w : World) (hs : s.size ≤ 9223372036854775807) :
    Calls Tryz.prog 157 #[.string s] w fun e w' => e = .returned (.int .u32 (Rec.sumB s : Int)) ∧ w' = w := by
  go_enter Tryz.func157, Tryz.ntmps157
  go_wp2
  go_loopg [3, 4] s.size (fun g v3 v4 wr => wr = w ∧ ∃ (j : Nat) (xi : Int), g = s.size - j ∧ j ≤ s.size ∧ v4 = .int .i64 j ∧ v3 = .int .u32 xi ∧ Hid (∃ x : BitVec 32, xi = x.toNat ∧ Crc.fold x (s.data.toList.drop j) = Crc.fold (~~~ 0#32) s.data.toList))
  case atStart => exact ⟨rfl, 0, _, rfl, by omega, rfl, rfl, ~~~0#32, rfl, rfl⟩
  case round =>
    obtain ⟨rfl, j, xi, rfl, hj, rfl, rfl, HX⟩ := hrel
    by_cases hjs : j < s.size
    · have HF : Hid _ := fold_drop s j hjs
      go_wp2
      go_loopg [3, 5] 8 (fun g v3 v5 wq => wq = wr ∧ ∃ (k : Nat) (yi : Int), g = 8 - k ∧ k ≤ 8 ∧ v5 = .int .i64 k ∧ v3 = .int .u32 yi ∧ 0 ≤ yi ∧ yi < 4294967296 ∧ Hid (∃ x y : BitVec 32, xi = x.toNat ∧ yi = y.toNat ∧ Crc.stepN (8 - k) y = Crc.byteStep x s[j] ∧ Crc.fold x (s.data.toList.drop j) = Crc.fold (~~~ 0#32) s.data.toList))
      case atStart =>
        obtain ⟨x, hx, hf⟩ := HX.out
        subst hx
        refine ⟨rfl, 0, _, rfl, by omega, rfl, rfl, ?_, ?_, x, x ^^^ Crc.bv8 s[j], rfl, Crc.byte_bv x s[j], rfl, hf⟩
        · rw [Crc.byte_bv]; exact (bv_lt _).1
        · rw [Crc.byte_bv]; exact (bv_lt _).2
      case round =>
        obtain ⟨rfl, k, yi, rfl, hk, rfl, rfl, hy0, hy1, HY⟩ := hrel
        by_cases hk8 : k < 8
        · go_wp2
          · have hb1 := (by assumption : (yi % 2 == 1) = true)
            go_roundg (8 - (k + 1))
            case measure => omega
            case rel =>
              obtain ⟨x, y, rfl, rfl, hy, hx⟩ := HY.out
              rw [odd_bit] at hb1
              have hst : Crc.step y = (y >>> 1) ^^^ Crc.poly := by unfold Crc.step; rw [hb1]; rfl
              refine ⟨rfl, k + 1, _, rfl, by omega, by go_num, int_u32 (xor_poly y), (bv_lt _).1, (bv_lt _).2, x, _, rfl, rfl, ?_, hx⟩
              rw [show 8 - k = (8 - (k + 1)) + 1 by omega] at hy
              rw [← hy, ← hst]; rfl
          · have hb1 := (by assumption : (yi % 2 == 1) = false)
            go_roundg (8 - (k + 1))
            case measure => omega
            case rel =>
              obtain ⟨x, y, rfl, rfl, hy, hx⟩ := HY.out
              rw [odd_bit] at hb1
              have hst : Crc.step y = (y >>> 1) := by unfold Crc.step; rw [hb1]; simp
              refine ⟨rfl, k + 1, _, rfl, by omega, by go_num, int_u32 (half y), (bv_lt _).1, (bv_lt _).2, x, _, rfl, rfl, ?_, hx⟩
              rw [show 8 - k = (8 - (k + 1)) + 1 by omega] at hy
              rw [← hy, ← hst]; rfl
        · have hj' : k = 8 := by omega
          subst hj'
          go_wp2
          go_roundg (s.size - (j + 1))
          case measure => omega
          case rel =>
            obtain ⟨x, y, rfl, rfl, hy, hx⟩ := HY.out
            refine ⟨rfl, j + 1, _, rfl, by omega, by go_num, rfl, y, rfl, ?_⟩
            rw [HF.out x, ← hy] at hx
            exact hx
    · have HJ : Hid (j = s.size) := by unfold Hid; omega
      go_wp2
      go_ret
      obtain ⟨x, rfl, hx⟩ := HX.out
      refine ⟨ret_u32 ?_, rfl⟩
      rw [HJ.out, List.drop_of_length_le (by simp)] at hx
      unfold Rec.sumB Crc.more
      rw [← hx]
      rw [show (4294967295 : Int) = ((BitVec.allOnes 32).toNat : Int) from rfl, Crc.bits_xor, BitVec.xor_allOnes]
      rfl
set_option maxHeartbeats 1600000 in
set_option maxRecDepth 100000 in
theorem small_any (s : ByteArray) (w : World) (hs : s.size ≤ 8) :
    Calls Tryz.prog 116 #[.string s] w fun e w' => e = .returned (.int .u64 (Rec.small (bytesOf s) : Int)) ∧ w' = w := by
  go_enter Tryz.func116, Tryz.ntmps116
  go_wp2
  go_loopg [3, 4] s.size (fun g v3 v4 wr => wr = w ∧ ∃ (i : Nat) (xi : Nat), i ≤ s.size ∧ g = s.size - i ∧ v4 = .int .i64 i ∧ v3 = .int .u64 xi ∧ Hid (xi = Rec.small ((bytesOf s).take i)))
  case atStart => exact ⟨rfl, 0, 0, by omega, rfl, rfl, rfl, rfl⟩
  case round =>
    obtain ⟨rfl, i, xi, hi, rfl, rfl, rfl, HX⟩ := hrel
    by_cases hin : i < s.size
    · have hil : i < (bytesOf s).length := by simp [bytesOf]; exact hin
      have hx : xi < 72057594037927936 := by
        rw [HX.out]
        have h1 := Rec.small_lt ((bytesOf s).take i)
        rw [List.length_take_of_le (by omega)] at h1
        exact Nat.lt_of_lt_of_le h1 (pow256_le (by omega))
      have hx2 : (xi : Int) < 72057594037927936 := by omega
      have HI := hide hil
      clear hil
      go_wp2
      go_roundg (s.size - (i + 1))
      case measure => omega
      case rel =>
        refine ⟨rfl, i + 1, xi * 256 + (s[i]).toNat, by omega, rfl, by go_num, by have := (s[i]).toNat_lt; rw [IntWalk.u64_in ((s[i]).toNat : Int) (by omega), IntWalk.u64_in _ (by omega)]; rfl, ?_⟩
        unfold Hid
        rw [List.take_succ_eq_append_getElem HI.out, Rec.small_snoc, ← HX.out]
        rfl
    · have hi' : i = s.size := by omega
      subst hi'
      go_wp2
      go_ret
      refine ⟨congrArg (fun z : Nat => Ending.returned (.int .u64 (z : Int))) (a₁ := xi) ?_, rfl⟩
      rw [HX.out, List.take_of_length_le (by simp [bytesOf])]
/-- The last j bytes are laid. -/
def laidFrom (x n j : Nat) : List Value := List.replicate (n - j) (.int .u8 0) ++ ((Rec.big x n).drop (n - j)).map byteV
theorem laidFrom_length (x n j : Nat) (h : j ≤ n) : (laidFrom x n j).length = n := by
  unfold laidFrom
  simp [Rec.big_length]; try omega
theorem laidFrom_set (x n j : Nat) (h : j < n) : (laidFrom x n j).set (n - (j + 1)) (byteV (UInt8.ofNat (x / 256 ^ j))) = laidFrom x n (j + 1) := by
  obtain ⟨m, rfl⟩ : ∃ m, n = m + (j + 1) := ⟨n - (j + 1), by omega⟩
  unfold laidFrom
  rw [show m + (j + 1) - j = m + 1 by omega, show m + (j + 1) - (j + 1) = m by omega]
  have hlt : m < (Rec.big x (m + (j + 1))).length := by rw [Rec.big_length]; omega
  have hg := Rec.big_get x (m + (j + 1)) m (by omega)
  rw [show m + (j + 1) - 1 - m = j by omega] at hg
  rw [← hg, List.drop_eq_getElem_cons (i := m) hlt, List.map_cons, List.replicate_succ', List.append_assoc, List.set_append_right _ _ (by simp)]
  simp [List.getD, hlt]
theorem laidFrom_zero (x n : Nat) : laidFrom x n 0 = List.replicate n (.int .u8 0) := by
  unfold laidFrom
  rw [Nat.sub_zero, List.drop_of_length_le (by rw [Rec.big_length]; exact Nat.le_refl _)]
  simp
theorem laidFrom_all (x n : Nat) : laidFrom x n n = (Rec.big x n).map byteV := by
  unfold laidFrom
  simp
theorem byte_mod (y : Nat) : Value.int .u8 ((y : Int) % 256) = byteV (UInt8.ofNat y) := by
  unfold byteV
  rw [UInt8.toNat_ofNat']
  rfl
set_option maxHeartbeats 1600000 in
set_option maxRecDepth 100000 in
theorem big_any (x n : Nat) (w : World) (hx : x < 18446744073709551616) (hn : n ≤ 1000) :
    Calls Tryz.prog 144 #[.int .u64 (x : Int), .int .i64 (n : Int)] w fun e w' => e = .returned (.string (Rec.numB x n)) ∧ Below w.heap.size w w' := by
  go_enter Tryz.func144, Tryz.ntmps144
  go_wp2_with (at_make; refine wpList_make_arr rfl _ _ 46 rfl 5 _ 1 Tryz.underlying46 info_u8 rfl .i64 .i64 _ _ n rfl rfl rfl rfl ?_ ?_ ?_)
  · omega
  · unfold maxLen; omega
  · intro w1 HA hb1
    have HB := hide hb1
    clear hb1
    go_wp2_with fail
    go_loopg [0, 6] n (fun g v0 v6 wr => ∃ (j y : Nat) (ii : Int), j ≤ n ∧ g = n - j ∧ v0 = .int .u64 (y : Int) ∧ y < 18446744073709551616 ∧ Hid (y = x / 256 ^ j) ∧ v6 = .int .i64 ii ∧ ii = (n : Int) - 1 - j ∧ Hid (Arr wr w.heap.size 5 (laidFrom x n j) ∧ Below w.heap.size w wr))
    case atStart => exact ⟨0, x, _, by omega, rfl, rfl, hx, by simp [Hid], rfl, by omega, by rw [laidFrom_zero]; exact HA.out, HB.out⟩
    case round =>
      obtain ⟨j, y, ii, hj, rfl, rfl, hy, HY, rfl, hii, HR⟩ := hrel
      by_cases hjn : j < n
      · obtain ⟨q, hq⟩ : ∃ q : Nat, q = n - (j + 1) := ⟨_, rfl⟩
        have hiq : ii = (q : Int) := by omega
        have HQ := hide hq
        have hqn : q < n := by omega
        clear hii hq
        subst hiq
        have hc := HR.out.1.cell q (by rw [laidFrom_length _ _ _ hj]; exact hqn)
        have hf := HR.out.1.frozen q (by rw [laidFrom_length _ _ _ hj]; exact hqn)
        generalize (laidFrom x n j).getD q undef = was at hc
        go_wp2
        go_roundg (n - (j + 1))
        case measure => omega
        case rel =>
          refine ⟨j + 1, y / 256, _, by omega, rfl, by go_num, by omega, ?_, rfl, by have := HQ.out; go_num, ?_, HR.out.2.setCell (Nat.le_refl _) _⟩
          · unfold Hid; rw [HY.out, Nat.div_div_eq_div_mul, Nat.pow_succ]
          · have h := HR.out.1.set q (by rw [laidFrom_length _ _ _ hj]; exact hqn) (byteV (UInt8.ofNat (x / 256 ^ j)))
            rw [HQ.out, laidFrom_set x n j hjn, ← HY.out, ← HQ.out] at h
            rw [byte_mod]
            exact h
      · have hj' : j = n := by omega
        subst hj'
        have hs := HR.out.1.slv (n := j) (cap := j) (laidFrom_length x j j (Nat.le_refl _)).symm (Nat.le_refl _)
        rw [laidFrom_all] at hs
        have hcs := run_bytes_string (P := Tryz.prog) (w := wr) 46 9 5 Tryz.underlying46 Tryz.underlying5 Tryz.underlying9 hs
        have HB2 := hide HR.out.2
        clear hs HR
        go_wp2
        go_ret
        exact ⟨rfl, HB2.out⟩
set_option maxHeartbeats 1600000 in
set_option maxRecDepth 100000 in
theorem zeros_any (n : Nat) (w : World) (hn : n ≤ 1000) :
    Calls Tryz.prog 137 #[.int .i64 (n : Int)] w fun e w' => e = .returned (.string (Rec.zeroB n)) ∧ Below w.heap.size w w' := by
  go_enter Tryz.func137, Tryz.ntmps137
  go_wp2_with (at_make; refine wpList_make_arr rfl _ _ 46 rfl 5 _ 1 Tryz.underlying46 info_u8 rfl .i64 .i64 _ _ n rfl rfl rfl rfl ?_ ?_ ?_)
  · omega
  · unfold maxLen; omega
  · intro w1 HA hb1
    have HB := hide hb1
    clear hb1
    have hs := HA.out.slv (n := n) (cap := n) (by simp) (Nat.le_refl _)
    rw [show List.replicate n (Value.int .u8 0) = (List.replicate n (0 : UInt8)).map byteV by rw [List.map_replicate]; rfl] at hs
    have hcs := run_bytes_string (P := Tryz.prog) (w := w1) 46 9 5 Tryz.underlying46 Tryz.underlying5 Tryz.underlying9 hs
    go_wp2
    go_ret
    exact ⟨rfl, HB.out⟩
set_option maxHeartbeats 1600000 in
set_option maxRecDepth 100000 in
theorem summed_any (s : ByteArray) (w : World) (hs : s.size ≤ 4611686018427387904) :
    Calls Tryz.prog 143 #[.string s] w fun e w' => e = .returned (.string (Rec.sealB s)) ∧ Below w.heap.size w w' := by
  obtain ⟨n, hn⟩ : ∃ n, n = Rec.sumB s := ⟨_, rfl⟩
  have hlt : n < 4294967296 := hn ▸ Rec.sumB_lt s
  have HN := hide hn
  clear hn
  obtain ⟨m, hm⟩ : ∃ m, m = Rec.numB n 4 := ⟨_, rfl⟩
  have hms : m.size = 4 := by rw [hm, Rec.numB_size]
  have HM := hide hm
  clear hm
  have hsum : s.size + m.size ≤ 9223372036854775807 := by omega
  go_enter Tryz.func143, Tryz.ntmps143
  go_wp2_with fail
  refine (refSum_any s _ (by omega)).mono ?_
  rw [← HN.out]
  rintro e w1 ⟨rfl, rfl⟩
  go_wp2_with fail
  refine (big_any n 4 _ (by omega) (by omega)).mono ?_
  rw [← HM.out]
  rintro e w2 ⟨rfl, hb2⟩
  have HB2 := hide hb2
  clear hb2
  go_wp2
  go_ret
  refine ⟨?_, HB2.out⟩
  rw [HM.out, HN.out]; rfl
set_option maxHeartbeats 1600000 in
set_option maxRecDepth 100000 in
theorem refPayload_any (s : ByteArray) (w : World) (hs : s.size ≤ 140737488351232) :
    Calls Tryz.prog 117 #[.string s] w fun e w' => e = .returned (.string (Rec.payB s)) ∧ Below w.heap.size w w' := by
  obtain ⟨m, hm⟩ : ∃ m, m = Rec.numB s.size 4 := ⟨_, rfl⟩
  have hms : m.size = 4 := by rw [hm, Rec.numB_size]
  have HM := hide hm
  clear hm
  have hsum : m.size + s.size ≤ 9223372036854775807 := by omega
  have hsum2 : (m ++ s).size ≤ 4611686018427387904 := by rw [ByteArray.size_append]; omega
  have HS := hide hsum2
  clear hsum2
  go_enter Tryz.func117, Tryz.ntmps117
  go_wp2_with fail
  · have h1 := (by assumption : 1048576 < (s.size : Int))
    go_ret
    refine ⟨?_, Below.refl _ _⟩
    unfold Rec.payB
    rw [if_pos (by omega)]
    rfl
  · have h1 := (by assumption : (s.size : Int) ≤ 1048576)
    refine (big_any s.size 4 _ (by omega) (by omega)).mono ?_
    rw [← HM.out]
    rintro e w1 ⟨rfl, hb1⟩
    have HB1 := hide hb1
    clear hb1
    go_wp2_with fail
    refine (summed_any (m ++ s) _ HS.out).mono ?_
    rintro e w2 ⟨rfl, hb2⟩
    have HB2 := hide (below_next HB1.out hb2)
    clear hb2
    go_wp2_with fail
    go_ret
    refine ⟨?_, HB2.out⟩
    unfold Rec.payB
    rw [if_neg (by omega), ← HM.out]; rfl
end Go.Proofs.YtbfbajfdlkgloaaGreatDoor
