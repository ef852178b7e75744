/-
  The records' plain laws: what is laid is read, and what is read is laid. No program in sight.
-/
import Derived.Test.YtbfbajfdlkgloaaGreatDoorG13
import Derived.Lib.SlicesS

namespace Go.Proofs.YtbfbajfdlkgloaaGreatDoor
namespace Rec
theorem bytes_inj {a b : ByteArray} (h : bytesOf a = bytesOf b) : a = b := by
  apply ByteArray.ext
  exact Array.toList_inj.1 h
theorem bytes_append (a b : ByteArray) : bytesOf (a ++ b) = bytesOf a ++ bytesOf b := by simp [bytesOf]
theorem bytes_extract (s : ByteArray) (i j : Nat) : bytesOf (s.extract i j) = ((bytesOf s).take j).drop i := by simp [bytesOf, List.drop_take]
theorem bytes_numB (x n : Nat) : bytesOf (numB x n) = big x n := by simp [bytesOf, numB]
theorem bytes_zeroB (n : Nat) : bytesOf (zeroB n) = List.replicate n 0 := by simp [bytesOf, zeroB]
theorem bytes_sealB (s : ByteArray) : bytesOf (sealB s) = bytesOf s ++ big (sumB s) 4 := by unfold sealB; rw [bytes_append, bytes_numB]
theorem bytes_length (s : ByteArray) : (bytesOf s).length = s.size := by simp [bytesOf]
theorem beqB (x y : ByteArray) : (x.toList == y.toList) = decide (x = y) := by
  rw [Bool.eq_iff_iff, Go.Lib.bytes_beq_iff, decide_eq_true_iff]
theorem wholeB_iff (s : ByteArray) : wholeB s = true ↔ sealB (s.extract 0 (s.size - 4)) = s := by
  unfold wholeB; rw [beqB, decide_eq_true_iff]
theorem whole_seal (s : ByteArray) : wholeB (sealB s) = true := by
  rw [wholeB_iff]
  have : (sealB s).extract 0 ((sealB s).size - 4) = s := by
    apply bytes_inj
    rw [bytes_extract, bytes_sealB, sealB_size, List.drop_zero, show s.size + 4 - 4 = (bytesOf s).length by rw [bytes_length]; omega]
    simp
  rw [this]
/-- The item of a payload's record that is read. -/
theorem pay_eq (s : ByteArray) (k : Nat) (hk : k = small (bytesOf (s.extract 0 4))) (h1 : k ≤ 1048576) (h2 : k + 8 ≤ s.size) :
    (s.extract 0 (k + 8) = payB (s.extract 4 (4 + k))) ↔ wholeB (s.extract 0 (k + 8)) = true := by
  have hsz : (s.extract 4 (4 + k)).size = k := by rw [ByteArray.size_extract]; omega
  have hpay : payB (s.extract 4 (4 + k)) = sealB (s.extract 0 (k + 4)) := by
    unfold payB
    rw [if_neg (by omega), hsz]
    congr 1
    apply bytes_inj
    rw [bytes_append, bytes_numB, hk]
    have hl : (bytesOf (s.extract 0 4)).length = 4 := by rw [bytes_length, ByteArray.size_extract]; omega
    have := big_small (bytesOf (s.extract 0 4))
    rw [hl] at this
    rw [this, ← hk]
    simp only [bytes_extract, List.drop_zero]
    rw [show 4 + k = k + 4 by omega]
    have h3 := List.take_append_drop 4 ((bytesOf s).take (k + 4))
    rw [List.take_take, show min 4 (k + 4) = 4 by omega] at h3
    exact h3
  have hext : (s.extract 0 (k + 8)).extract 0 ((s.extract 0 (k + 8)).size - 4) = s.extract 0 (k + 4) := by
    apply bytes_inj
    simp only [bytes_extract, List.drop_zero, List.take_take, ByteArray.size_extract]
    congr 1
    omega
  rw [wholeB_iff, hext, hpay]
  exact ⟨Eq.symm, Eq.symm⟩
theorem node_body {k p : Nat} {d : ByteArray} (hd : d.size = k) (hk : k ≤ 32) : nodeB p d = sealB (d ++ zeroB (32 - k) ++ numB p 4) := by
  unfold nodeB; rw [if_neg (by omega), hd]
theorem split4 (l : List UInt8) (k : Nat) (hk : k ≤ 32) : l = l.take k ++ (l.drop k).take (32 - k) ++ (l.drop 32).take 4 ++ l.drop 36 := by
  have h1 : l.take k ++ (l.drop k).take (32 - k) = l.take 32 := by
    have := List.take_append_drop k (l.take 32)
    rw [List.take_take, show min k 32 = k by omega, List.drop_take] at this
    exact this
  have h2 : l.take 32 ++ (l.drop 32).take 4 = l.take 36 := by
    have := List.take_append_drop 32 (l.take 36)
    rw [List.take_take, show min 32 36 = 32 by omega, List.drop_take] at this
    exact this
  rw [h1, h2, List.take_append_drop]
theorem node_eq (s : ByteArray) (k p : Nat) (hk : k ≤ 32) (hs : s.size = 40) : s = nodeB p (s.extract 0 k) ↔ nodeOk k p s = true := by
  have hd : (s.extract 0 k).size = k := by rw [ByteArray.size_extract]; omega
  rw [node_body hd hk]
  have hbl : (bytesOf s).length = 40 := by rw [bytes_length, hs]
  have hbody : bytesOf (s.extract 0 k ++ zeroB (32 - k) ++ numB p 4) = (bytesOf s).take k ++ List.replicate (32 - k) 0 ++ big p 4 := by
    rw [bytes_append, bytes_append, bytes_extract, bytes_zeroB, bytes_numB, List.drop_zero]
  have hbs : (s.extract 0 k ++ zeroB (32 - k) ++ numB p 4).size = 36 := by
    rw [ByteArray.size_append, ByteArray.size_append, hd, zeroB_size, numB_size]; omega
  unfold nodeOk
  constructor
  · intro h
    have hw : wholeB s = true := by rw [h]; exact whole_seal _
    have hb : bytesOf s = ((bytesOf s).take k ++ List.replicate (32 - k) 0 ++ big p 4) ++ big (sumB (s.extract 0 k ++ zeroB (32 - k) ++ numB p 4)) 4 := by
      conv => lhs; rw [h]
      rw [bytes_sealB, hbody]
    generalize big (sumB (s.extract 0 k ++ zeroB (32 - k) ++ numB p 4)) 4 = C at hb
    generalize htk : (bytesOf s).take k = T at hb
    have hT : T.length = k := by rw [← htk]; simp; omega
    have h3 : ((bytesOf s).drop 32).take 4 = big p 4 := by
      rw [hb, List.append_assoc, List.append_assoc, ← List.append_assoc T, List.drop_append_of_le_length (by simp [hT]; omega), List.drop_of_length_le (by simp [hT]; omega), List.nil_append, List.take_append_of_le_length (by rw [big_length]; exact Nat.le_refl _), List.take_of_length_le (by rw [big_length]; exact Nat.le_refl _)]
    have h4 : ((bytesOf s).drop k).take (32 - k) = List.replicate (32 - k) 0 := by
      rw [hb, List.append_assoc, List.append_assoc, List.drop_append_of_le_length (by omega), List.drop_of_length_le (by omega), List.nil_append, List.take_append_of_le_length (by simp), List.take_of_length_le (by simp)]
    rw [hw, hs, h3, h4, small_big]
    simp
  · intro h
    simp only [Bool.and_eq_true, beq_iff_eq] at h
    obtain ⟨⟨⟨_, hw⟩, hp⟩, hz⟩ := h
    rw [wholeB_iff, hs] at hw
    have : s.extract 0 (40 - 4) = s.extract 0 k ++ zeroB (32 - k) ++ numB p 4 := by
      apply bytes_inj
      rw [hbody, bytes_extract, List.drop_zero]
      have h4 : ((bytesOf s).drop k).take (32 - k) = List.replicate (32 - k) 0 := by
        rw [List.eq_replicate_iff]
        refine ⟨by simp; omega, fun b hb => ?_⟩
        have := List.all_eq_true.1 hz b hb
        simpa using this
      have h3 : ((bytesOf s).drop 32).take 4 = big p 4 := by
        have h5 := big_small (((bytesOf s).drop 32).take 4)
        rw [hp, show (((bytesOf s).drop 32).take 4).length = 4 by simp; omega] at h5
        rw [← h5, show (4294967296 : Nat) = 256 ^ 4 from rfl, big_mod]
      have h6 := split4 (bytesOf s) k hk
      rw [h4, h3] at h6
      conv => lhs; rw [h6]
      rw [List.take_append_of_le_length (by simp [big_length]; omega), List.take_of_length_le (by simp [big_length]; omega)]
    exact hw.symm.trans (congrArg sealB this)
end Rec
end Go.Proofs.YtbfbajfdlkgloaaGreatDoor

/-
  What is laid is read back, whatever stands behind it; what is read is laid as these bytes. No program in sight.
-/
namespace Go.Proofs.YtbfbajfdlkgloaaGreatDoor
namespace Rec
theorem wf_i64 {n : Int} (h1 : -9223372036854775808 ≤ n) (h2 : n ≤ 9223372036854775807) : (Lit.int .i64 n).wf = true := by
  have h : IntKind.i64.min ≤ n ∧ n ≤ IntKind.i64.max := ⟨h1, h2⟩
  simpa [Lit.wf] using h
theorem take_left {l m : List UInt8} {n : Nat} (h : n = l.length) : (l ++ m).take n = l := by subst h; simp
theorem drop_left {l m : List UInt8} {n : Nat} (h : n = l.length) : (l ++ m).drop n = m := by subst h; simp
theorem payB_size (item : ByteArray) (h : item.size ≤ 1048576) : (payB item).size = item.size + 8 := by
  unfold payB
  rw [if_neg (by omega), sealB_size, ByteArray.size_append, numB_size]; omega
theorem readPay_back (item tail : ByteArray) (h : item.size ≤ 1048576) : readPayB (payB item ++ tail) = some (item, item.size + 8) := by
  have hp : payB item = sealB (numB item.size 4 ++ item) := by unfold payB; rw [if_neg (by omega)]
  have hb : bytesOf (payB item ++ tail) = big item.size 4 ++ (bytesOf item ++ (big (sumB (numB item.size 4 ++ item)) 4 ++ bytesOf tail)) := by
    rw [hp, bytes_append, bytes_sealB, bytes_append, bytes_numB]
    simp only [List.append_assoc]
  have hsz : (payB item ++ tail).size = item.size + 8 + tail.size := by rw [ByteArray.size_append, payB_size item h]
  have hk : small (bytesOf ((payB item ++ tail).extract 0 4)) = item.size := by
    rw [bytes_extract, List.drop_zero, hb, take_left (by rw [big_length]), small_big]
    omega
  have hw : (payB item ++ tail).extract 0 (item.size + 8) = payB item := by
    apply bytes_inj
    rw [bytes_extract, List.drop_zero, bytes_append, take_left]
    rw [bytes_length, payB_size item h]
  have hi : (payB item ++ tail).extract 4 (item.size + 4) = item := by
    apply bytes_inj
    rw [bytes_extract, hb, ← List.append_assoc, List.take_append_of_le_length (by simp [big_length, bytes_length]; omega), List.take_of_length_le (by simp [big_length, bytes_length]; omega), drop_left (by rw [big_length])]
  unfold readPayB
  rw [if_neg (by omega), hk, if_neg (by omega), hw, hi, if_pos (by rw [hp]; exact whole_seal _)]
theorem readNode_back (d : ByteArray) (p : Nat) (h1 : 1 ≤ d.size) (h2 : d.size ≤ 32) : readNodeV (d.size : Int) p (nodeB p d) = .tuple #[.string d, .int .i64 0] := by
  have hn := node_body (p := p) (k := d.size) rfl h2
  have hsz : (nodeB p d).size = 40 := by rw [hn, sealB_size, ByteArray.size_append, ByteArray.size_append, zeroB_size, numB_size]; omega
  have ht : (bytesOf (nodeB p d)).take d.size = bytesOf d := by
    rw [hn, bytes_sealB, bytes_append, bytes_append]
    simp only [List.append_assoc]
    rw [take_left (by rw [bytes_length])]
  have hd : (nodeB p d).extract 0 d.size = d := by
    apply bytes_inj
    rw [bytes_extract, List.drop_zero, ht]
  have hok := (node_eq (nodeB p d) d.size p h2 hsz).1 (by rw [hd])
  unfold readNodeV
  rw [if_neg (by omega), show ((d.size : Int)).toNat = d.size from rfl, if_pos hok, ht]
  have : (⟨(bytesOf d).toArray⟩ : ByteArray) = d := by apply bytes_inj; simp [bytesOf]
  rw [this]
theorem mark_bytes (m : Mk) (h1 : 1 ≤ m.k) (h2 : m.k ≤ 32) : ∃ C : List UInt8, C.length = 4 ∧ bytesOf (markB m) = [109, 115, 102, 1] ++ (big m.k.toNat 1 ++ (big 0 3 ++ (big m.size 8 ++ (big m.items 8 ++ (big m.nodes 8 ++ (big m.chain 4 ++ (big 0 24 ++ C))))))) := by
  unfold markB
  rw [if_neg (by omega)]
  refine ⟨big (sumB (magicB ++ numB m.k.toNat 1 ++ numB 0 3 ++ numB m.size 8 ++ numB m.items 8 ++ numB m.nodes 8 ++ numB m.chain 4 ++ numB 0 24)) 4, big_length _ _, ?_⟩
  rw [bytes_sealB]
  simp only [bytes_append, bytes_numB, List.append_assoc]
  rfl
theorem mark_size (m : Mk) (h1 : 1 ≤ m.k) (h2 : m.k ≤ 32) : (markB m).size = 64 := by
  obtain ⟨C, hC, hb⟩ := mark_bytes m h1 h2
  rw [← bytes_length, hb]
  simp [big_length, hC]
theorem seg8 {A B C : List UInt8} {i j : Nat} (hA : A.length = i) (hB : B.length = j) : ((A ++ (B ++ C)).drop i).take j = B := by
  rw [drop_left hA.symm, take_left hB.symm]
theorem markOf_back (m : Mk) (hm : m.ok) (h1 : 1 ≤ m.k) (h2 : m.k ≤ 32) : markOf (markB m) = m := by
  obtain ⟨C, hC, hb⟩ := mark_bytes m h1 h2
  obtain ⟨hk, hs, hi, hn, hc⟩ := hm
  have e1 : ((bytesOf (markB m)).getD 4 0).toNat = m.k.toNat := by
    rw [hb]
    show (UInt8.ofNat (m.k.toNat / 256 ^ 0)).toNat = _
    rw [UInt8.toNat_ofNat', Nat.pow_zero, Nat.div_one]
    omega
  have e2 : ((bytesOf (markB m)).drop 8).take 8 = big m.size 8 := by
    rw [hb, ← List.append_assoc, ← List.append_assoc]
    exact seg8 (by simp [big_length]) (by simp [big_length])
  have e3 : ((bytesOf (markB m)).drop 16).take 8 = big m.items 8 := by
    rw [hb, ← List.append_assoc, ← List.append_assoc, ← List.append_assoc]
    exact seg8 (by simp [big_length]) (by simp [big_length])
  have e4 : ((bytesOf (markB m)).drop 24).take 8 = big m.nodes 8 := by
    rw [hb, ← List.append_assoc, ← List.append_assoc, ← List.append_assoc, ← List.append_assoc]
    exact seg8 (by simp [big_length]) (by simp [big_length])
  have e5 : ((bytesOf (markB m)).drop 32).take 4 = big m.chain 4 := by
    rw [hb, ← List.append_assoc, ← List.append_assoc, ← List.append_assoc, ← List.append_assoc, ← List.append_assoc]
    exact seg8 (by simp [big_length]) (by simp [big_length])
  unfold markOf
  rw [e1, e2, e3, e4, e5, small_big, small_big, small_big, small_big]
  have p8 : (256 : Nat) ^ 8 = 18446744073709551616 := rfl
  have p4 : (256 : Nat) ^ 4 = 4294967296 := rfl
  rw [p8, p4, Nat.mod_eq_of_lt hs, Nat.mod_eq_of_lt hi, Nat.mod_eq_of_lt hn, Nat.mod_eq_of_lt hc]
  obtain ⟨k, a, b, c, d⟩ := m
  congr
  show (((k.toNat : Nat)) : Int) = k
  replace h1 : 1 ≤ k := h1
  omega
theorem readMark_back (m : Mk) (hm : m.ok) (h1 : 1 ≤ m.k) (h2 : m.k ≤ 32) : readMarkB (markB m) = some m := by
  unfold readMarkB
  rw [if_pos (mark_size m h1 h2), markOf_back m hm h1 h2, if_pos (by rw [beqB]; simp)]
theorem readMark_laid {s : ByteArray} {m : Mk} (h : readMarkB s = some m) : markB m = s := by
  unfold readMarkB at h
  split at h
  · split at h
    · rename_i h2
      injection h with h
      rw [beqB, decide_eq_true_iff] at h2
      rw [← h]; exact h2
    · cases h
  · cases h
theorem readPay_laid {s y : ByteArray} {n : Nat} (h : readPayB s = some (y, n)) : n ≤ s.size ∧ payB y = s.extract 0 n := by
  unfold readPayB at h
  split at h
  · cases h
  · split at h
    · cases h
    · rename_i h1 h2
      split at h
      · rename_i hw
        injection h with h
        injection h with h3 h4
        generalize hk : small (bytesOf (s.extract 0 4)) = k at *
        have hp := (pay_eq s k hk.symm (by omega) (by omega)).2 hw
        rw [show 4 + k = k + 4 by omega, h3, h4] at hp
        exact ⟨by omega, hp.symm⟩
      · cases h
theorem mk_inj {m m' : Mk} {e e' : Int} (h : (Value.tuple #[mkV m, .int .i64 e]) = .tuple #[.agg m'.cells, .int .i64 e']) : m' = m ∧ e' = e := by
  obtain ⟨k, a, b, c, d⟩ := m
  obtain ⟨k', a', b', c', d'⟩ := m'
  simp [mkV, Mk.cells] at h
  simp
  omega
theorem readPay_pos {s y : ByteArray} {n : Nat} (h : readPayB s = some (y, n)) : 8 ≤ n := by
  unfold readPayB at h
  split at h
  · cases h
  · split at h
    · cases h
    · split at h
      · injection h with h
        injection h with h3 h4
        omega
      · cases h
end Rec
end Go.Proofs.YtbfbajfdlkgloaaGreatDoor

/-
  massifref18's Sum, Big, Small, Zeros, summed, Payload: the walks.
-/
namespace Go.Proofs.YtbfbajfdlkgloaaGreatDoor
open Go.RowKit
open Crc (bv_lt xor_poly half not_bv fold_drop int_u32 ret_u32)
theorem odd_bit (x : BitVec 32) : ((x.toNat : Int) % 2 == 1) = x.getLsbD 0 := by
  rw [Bool.eq_iff_iff, beq_iff_eq, BitVec.getLsbD, Nat.testBit_zero, decide_eq_true_iff]
  omega
set_option maxHeartbeats 1600000 in
set_option maxRecDepth 100000 in
theorem refSum_any (s : ByteArray) (w : World) (hs : s.size ≤ 9223372036854775807) :
    Calls Tryz.prog 157 #[.string s] w fun e w' => e = .returned (.int .u32 (Rec.sumB s : Int)) ∧ w' = w := by
  go_enter Tryz.func157, Tryz.ntmps157
  go_wp2
  go_loopg [3, 4] s.size (fun g v3 v4 wr => wr = w ∧ ∃ (j : Nat) (xi : Int), g = s.size - j ∧ j ≤ s.size ∧ v4 = .int .i64 j ∧ v3 = .int .u32 xi ∧ Hid (∃ x : BitVec 32, xi = x.toNat ∧ Crc.fold x (s.data.toList.drop j) = Crc.fold (~~~ 0#32) s.data.toList))
  case atStart => exact ⟨rfl, 0, _, rfl, by omega, rfl, rfl, ~~~0#32, rfl, rfl⟩
  case round =>
    obtain ⟨rfl, j, xi, rfl, hj, rfl, rfl, HX⟩ := hrel
    by_cases hjs : j < s.size
    · have HF : Hid _ := fold_drop s j hjs
      go_wp2
      go_loopg [3, 5] 8 (fun g v3 v5 wq => wq = wr ∧ ∃ (k : Nat) (yi : Int), g = 8 - k ∧ k ≤ 8 ∧ v5 = .int .i64 k ∧ v3 = .int .u32 yi ∧ 0 ≤ yi ∧ yi < 4294967296 ∧ Hid (∃ x y : BitVec 32, xi = x.toNat ∧ yi = y.toNat ∧ Crc.stepN (8 - k) y = Crc.byteStep x s[j] ∧ Crc.fold x (s.data.toList.drop j) = Crc.fold (~~~ 0#32) s.data.toList))
      case atStart =>
        obtain ⟨x, hx, hf⟩ := HX.out
        subst hx
        refine ⟨rfl, 0, _, rfl, by omega, rfl, rfl, ?_, ?_, x, x ^^^ Crc.bv8 s[j], rfl, Crc.byte_bv x s[j], rfl, hf⟩
        · rw [Crc.byte_bv]; exact (bv_lt _).1
        · rw [Crc.byte_bv]; exact (bv_lt _).2
      case round =>
        obtain ⟨rfl, k, yi, rfl, hk, rfl, rfl, hy0, hy1, HY⟩ := hrel
        by_cases hk8 : k < 8
        · go_wp2
          · have hb1 := (by assumption : (yi % 2 == 1) = true)
            go_roundg (8 - (k + 1))
            case measure => omega
            case rel =>
              obtain ⟨x, y, rfl, rfl, hy, hx⟩ := HY.out
              rw [odd_bit] at hb1
              have hst : Crc.step y = (y >>> 1) ^^^ Crc.poly := by unfold Crc.step; rw [hb1]; rfl
              refine ⟨rfl, k + 1, _, rfl, by omega, by go_num, int_u32 (xor_poly y), (bv_lt _).1, (bv_lt _).2, x, _, rfl, rfl, ?_, hx⟩
              rw [show 8 - k = (8 - (k + 1)) + 1 by omega] at hy
              rw [← hy, ← hst]; rfl
          · have hb1 := (by assumption : (yi % 2 == 1) = false)
            go_roundg (8 - (k + 1))
            case measure => omega
            case rel =>
              obtain ⟨x, y, rfl, rfl, hy, hx⟩ := HY.out
              rw [odd_bit] at hb1
              have hst : Crc.step y = (y >>> 1) := by unfold Crc.step; rw [hb1]; simp
              refine ⟨rfl, k + 1, _, rfl, by omega, by go_num, int_u32 (half y), (bv_lt _).1, (bv_lt _).2, x, _, rfl, rfl, ?_, hx⟩
              rw [show 8 - k = (8 - (k + 1)) + 1 by omega] at hy
              rw [← hy, ← hst]; rfl
        · have hj' : k = 8 := by omega
          subst hj'
          go_wp2
          go_roundg (s.size - (j + 1))
          case measure => omega
          case rel =>
            obtain ⟨x, y, rfl, rfl, hy, hx⟩ := HY.out
            refine ⟨rfl, j + 1, _, rfl, by omega, by go_num, rfl, y, rfl, ?_⟩
            rw [HF.out x, ← hy] at hx
            exact hx
    · have HJ : Hid (j = s.size) := by unfold Hid; omega
      go_wp2
      go_ret
      obtain ⟨x, rfl, hx⟩ := HX.out
      refine ⟨ret_u32 ?_, rfl⟩
      rw [HJ.out, List.drop_of_length_le (by simp)] at hx
      unfold Rec.sumB Crc.more
      rw [← hx]
      rw [show (4294967295 : Int) = ((BitVec.allOnes 32).toNat : Int) from rfl, Crc.bits_xor, BitVec.xor_allOnes]
      rfl
set_option maxHeartbeats 1600000 in
set_option maxRecDepth 100000 in
theorem small_any (s : ByteArray) (w : World) (hs : s.size ≤ 8) :
    Calls Tryz.prog 116 #[.string s] w fun e w' => e = .returned (.int .u64 (Rec.small (bytesOf s) : Int)) ∧ w' = w := by
  go_enter Tryz.func116, Tryz.ntmps116
  go_wp2
  go_loopg [3, 4] s.size (fun g v3 v4 wr => wr = w ∧ ∃ (i : Nat) (xi : Nat), i ≤ s.size ∧ g = s.size - i ∧ v4 = .int .i64 i ∧ v3 = .int .u64 xi ∧ Hid (xi = Rec.small ((bytesOf s).take i)))
  case atStart => exact ⟨rfl, 0, 0, by omega, rfl, rfl, rfl, rfl⟩
  case round =>
    obtain ⟨rfl, i, xi, hi, rfl, rfl, rfl, HX⟩ := hrel
    by_cases hin : i < s.size
    · have hil : i < (bytesOf s).length := by simp [bytesOf]; exact hin
      have hx : xi < 72057594037927936 := by
        rw [HX.out]
        have h1 := Rec.small_lt ((bytesOf s).take i)
        rw [List.length_take_of_le (by omega)] at h1
        exact Nat.lt_of_lt_of_le h1 (pow256_le (by omega))
      have hx2 : (xi : Int) < 72057594037927936 := by omega
      have HI := hide hil
      clear hil
      go_wp2
      go_roundg (s.size - (i + 1))
      case measure => omega
      case rel =>
        refine ⟨rfl, i + 1, xi * 256 + (s[i]).toNat, by omega, rfl, by go_num, by have := (s[i]).toNat_lt; rw [IntWalk.u64_in ((s[i]).toNat : Int) (by omega), IntWalk.u64_in _ (by omega)]; rfl, ?_⟩
        unfold Hid
        rw [List.take_succ_eq_append_getElem HI.out, Rec.small_snoc, ← HX.out]
        rfl
    · have hi' : i = s.size := by omega
      subst hi'
      go_wp2
      go_ret
      refine ⟨congrArg (fun z : Nat => Ending.returned (.int .u64 (z : Int))) (a₁ := xi) ?_, rfl⟩
      rw [HX.out, List.take_of_length_le (by simp [bytesOf])]
/-- The last j bytes are laid. -/
def laidFrom (x n j : Nat) : List Value := List.replicate (n - j) (.int .u8 0) ++ ((Rec.big x n).drop (n - j)).map byteV
theorem laidFrom_length (x n j : Nat) (h : j ≤ n) : (laidFrom x n j).length = n := by
  unfold laidFrom
  simp [Rec.big_length]; try omega
theorem laidFrom_set (x n j : Nat) (h : j < n) : (laidFrom x n j).set (n - (j + 1)) (byteV (UInt8.ofNat (x / 256 ^ j))) = laidFrom x n (j + 1) := by
  obtain ⟨m, rfl⟩ : ∃ m, n = m + (j + 1) := ⟨n - (j + 1), by omega⟩
  unfold laidFrom
  rw [show m + (j + 1) - j = m + 1 by omega, show m + (j + 1) - (j + 1) = m by omega]
  have hlt : m < (Rec.big x (m + (j + 1))).length := by rw [Rec.big_length]; omega
  have hg := Rec.big_get x (m + (j + 1)) m (by omega)
  rw [show m + (j + 1) - 1 - m = j by omega] at hg
  rw [← hg, List.drop_eq_getElem_cons (i := m) hlt, List.map_cons, List.replicate_succ', List.append_assoc, List.set_append_right _ _ (by simp)]
  simp [List.getD, hlt]
theorem laidFrom_zero (x n : Nat) : laidFrom x n 0 = List.replicate n (.int .u8 0) := by
  unfold laidFrom
  rw [Nat.sub_zero, List.drop_of_length_le (by rw [Rec.big_length]; exact Nat.le_refl _)]
  simp
theorem laidFrom_all (x n : Nat) : laidFrom x n n = (Rec.big x n).map byteV := by
  unfold laidFrom
  simp
theorem byte_mod (y : Nat) : Value.int .u8 ((y : Int) % 256) = byteV (UInt8.ofNat y) := by
  unfold byteV
  rw [UInt8.toNat_ofNat']
  rfl
set_option maxHeartbeats 1600000 in
set_option maxRecDepth 100000 in
theorem big_any (x n : Nat) (w : World) (hx : x < 18446744073709551616) (hn : n ≤ 1000) :
    Calls Tryz.prog 144 #[.int .u64 (x : Int), .int .i64 (n : Int)] w fun e w' => e = .returned (.string (Rec.numB x n)) ∧ Below w.heap.size w w' := by
  go_enter Tryz.func144, Tryz.ntmps144
  go_wp2_with (at_make; refine wpList_make_arr rfl _ _ 46 rfl 5 _ 1 Tryz.underlying46 info_u8 rfl .i64 .i64 _ _ n rfl rfl rfl rfl ?_ ?_ ?_)
  · omega
  · unfold maxLen; omega
  · intro w1 HA hb1
    have HB := hide hb1
    clear hb1
    go_wp2_with fail
    go_loopg [0, 6] n (fun g v0 v6 wr => ∃ (j y : Nat) (ii : Int), j ≤ n ∧ g = n - j ∧ v0 = .int .u64 (y : Int) ∧ y < 18446744073709551616 ∧ Hid (y = x / 256 ^ j) ∧ v6 = .int .i64 ii ∧ ii = (n : Int) - 1 - j ∧ Hid (Arr wr w.heap.size 5 (laidFrom x n j) ∧ Below w.heap.size w wr))
    case atStart => exact ⟨0, x, _, by omega, rfl, rfl, hx, by simp [Hid], rfl, by omega, by rw [laidFrom_zero]; exact HA.out, HB.out⟩
    case round =>
      obtain ⟨j, y, ii, hj, rfl, rfl, hy, HY, rfl, hii, HR⟩ := hrel
      by_cases hjn : j < n
      · obtain ⟨q, hq⟩ : ∃ q : Nat, q = n - (j + 1) := ⟨_, rfl⟩
        have hiq : ii = (q : Int) := by omega
        have HQ := hide hq
        have hqn : q < n := by omega
        clear hii hq
        subst hiq
        have hc := HR.out.1.cell q (by rw [laidFrom_length _ _ _ hj]; exact hqn)
        have hf := HR.out.1.frozen q (by rw [laidFrom_length _ _ _ hj]; exact hqn)
        generalize (laidFrom x n j).getD q undef = was at hc
        go_wp2
        go_roundg (n - (j + 1))
        case measure => omega
        case rel =>
          refine ⟨j + 1, y / 256, _, by omega, rfl, by go_num, by omega, ?_, rfl, by have := HQ.out; go_num, ?_, HR.out.2.setCell (Nat.le_refl _) _⟩
          · unfold Hid; rw [HY.out, Nat.div_div_eq_div_mul, Nat.pow_succ]
          · have h := HR.out.1.set q (by rw [laidFrom_length _ _ _ hj]; exact hqn) (byteV (UInt8.ofNat (x / 256 ^ j)))
            rw [HQ.out, laidFrom_set x n j hjn, ← HY.out, ← HQ.out] at h
            rw [byte_mod]
            exact h
      · have hj' : j = n := by omega
        subst hj'
        have hs := HR.out.1.slv (n := j) (cap := j) (laidFrom_length x j j (Nat.le_refl _)).symm (Nat.le_refl _)
        rw [laidFrom_all] at hs
        have hcs := run_bytes_string (P := Tryz.prog) (w := wr) 46 9 5 Tryz.underlying46 Tryz.underlying5 Tryz.underlying9 hs
        have HB2 := hide HR.out.2
        clear hs HR
        go_wp2
        go_ret
        exact ⟨rfl, HB2.out⟩
set_option maxHeartbeats 1600000 in
set_option maxRecDepth 100000 in
theorem zeros_any (n : Nat) (w : World) (hn : n ≤ 1000) :
    Calls Tryz.prog 137 #[.int .i64 (n : Int)] w fun e w' => e = .returned (.string (Rec.zeroB n)) ∧ Below w.heap.size w w' := by
  go_enter Tryz.func137, Tryz.ntmps137
  go_wp2_with (at_make; refine wpList_make_arr rfl _ _ 46 rfl 5 _ 1 Tryz.underlying46 info_u8 rfl .i64 .i64 _ _ n rfl rfl rfl rfl ?_ ?_ ?_)
  · omega
  · unfold maxLen; omega
  · intro w1 HA hb1
    have HB := hide hb1
    clear hb1
    have hs := HA.out.slv (n := n) (cap := n) (by simp) (Nat.le_refl _)
    rw [show List.replicate n (Value.int .u8 0) = (List.replicate n (0 : UInt8)).map byteV by rw [List.map_replicate]; rfl] at hs
    have hcs := run_bytes_string (P := Tryz.prog) (w := w1) 46 9 5 Tryz.underlying46 Tryz.underlying5 Tryz.underlying9 hs
    go_wp2
    go_ret
    exact ⟨rfl, HB.out⟩
set_option maxHeartbeats 1600000 in
set_option maxRecDepth 100000 in
theorem summed_any (s : ByteArray) (w : World) (hs : s.size ≤ 4611686018427387904) :
    Calls Tryz.prog 143 #[.string s] w fun e w' => e = .returned (.string (Rec.sealB s)) ∧ Below w.heap.size w w' := by
  obtain ⟨n, hn⟩ : ∃ n, n = Rec.sumB s := ⟨_, rfl⟩
  have hlt : n < 4294967296 := hn ▸ Rec.sumB_lt s
  have HN := hide hn
  clear hn
  obtain ⟨m, hm⟩ : ∃ m, m = Rec.numB n 4 := ⟨_, rfl⟩
  have hms : m.size = 4 := by rw [hm, Rec.numB_size]
  have HM := hide hm
  clear hm
  have hsum : s.size + m.size ≤ 9223372036854775807 := by omega
  go_enter Tryz.func143, Tryz.ntmps143
  go_wp2_with fail
  refine (refSum_any s _ (by omega)).mono ?_
  rw [← HN.out]
  rintro e w1 ⟨rfl, rfl⟩
  go_wp2_with fail
  refine (big_any n 4 _ (by omega) (by omega)).mono ?_
  rw [← HM.out]
  rintro e w2 ⟨rfl, hb2⟩
  have HB2 := hide hb2
  clear hb2
  go_wp2
  go_ret
  refine ⟨?_, HB2.out⟩
  rw [HM.out, HN.out]; rfl
set_option maxHeartbeats 1600000 in
set_option maxRecDepth 100000 in
theorem refPayload_any (s : ByteArray) (w : World) (hs : s.size ≤ 140737488351232) :
    Calls Tryz.prog 117 #[.string s] w fun e w' => e = .returned (.string (Rec.payB s)) ∧ Below w.heap.size w w' := by
  obtain ⟨m, hm⟩ : ∃ m, m = Rec.numB s.size 4 := ⟨_, rfl⟩
  have hms : m.size = 4 := by rw [hm, Rec.numB_size]
  have HM := hide hm
  clear hm
  have hsum : m.size + s.size ≤ 9223372036854775807 := by omega
  have hsum2 : (m ++ s).size ≤ 4611686018427387904 := by rw [ByteArray.size_append]; omega
  have HS := hide hsum2
  clear hsum2
  go_enter Tryz.func117, Tryz.ntmps117
  go_wp2_with fail
  · have h1 := (by assumption : 1048576 < (s.size : Int))
    go_ret
    refine ⟨?_, Below.refl _ _⟩
    unfold Rec.payB
    rw [if_pos (by omega)]
    rfl
  · have h1 := (by assumption : (s.size : Int) ≤ 1048576)
    refine (big_any s.size 4 _ (by omega) (by omega)).mono ?_
    rw [← HM.out]
    rintro e w1 ⟨rfl, hb1⟩
    have HB1 := hide hb1
    clear hb1
    go_wp2_with fail
    refine (summed_any (m ++ s) _ HS.out).mono ?_
    rintro e w2 ⟨rfl, hb2⟩
    have HB2 := hide (below_next HB1.out hb2)
    clear hb2
    go_wp2_with fail
    go_ret
    refine ⟨?_, HB2.out⟩
    unfold Rec.payB
    rw [if_neg (by omega), ← HM.out]; rfl
end Go.Proofs.YtbfbajfdlkgloaaGreatDoor
