/-
  The records' plain laws: what is laid is read, and what is read is laid. No program in sight.
-/
import Derived.Test.YtoddjpkacaekbaaRecMark
import Derived.Lib.SlicesS
namespace Go.Proofs.Ytoddjpkacaekbaa
namespace Rec
theorem bytes_inj {a b : ByteArray} (h : bytesOf a = bytesOf b) : a = b := by
  apply ByteArray.ext
  exact Array.toList_inj.1 h
theorem bytes_append (a b : ByteArray) : bytesOf (a ++ b) = bytesOf a ++ bytesOf b := by simp [bytesOf]
theorem bytes_extract (s : ByteArray) (i j : Nat) : bytesOf (s.extract i j) = ((bytesOf s).take j).drop i := by simp [bytesOf, List.drop_take]
theorem bytes_numB (x n : Nat) : bytesOf (numB x n) = big x n := by simp [bytesOf, numB]
theorem bytes_zeroB (n : Nat) : bytesOf (zeroB n) = List.replicate n 0 := by simp [bytesOf, zeroB]
theorem bytes_sealB (s : ByteArray) : bytesOf (sealB s) = bytesOf s ++ big (sumB s) 4 := by unfold sealB; rw [bytes_append, bytes_numB]
theorem bytes_length (s : ByteArray) : (bytesOf s).length = s.size := by simp [bytesOf]
theorem beqB (x y : ByteArray) : (x.toList == y.toList) = decide (x = y) := by
  rw [Bool.eq_iff_iff, Go.Lib.bytes_beq_iff, decide_eq_true_iff]
theorem wholeB_iff (s : ByteArray) : wholeB s = true ↔ sealB (s.extract 0 (s.size - 4)) = s := by
  unfold wholeB; rw [beqB, decide_eq_true_iff]
theorem whole_seal (s : ByteArray) : wholeB (sealB s) = true := by
  rw [wholeB_iff]
  have : (sealB s).extract 0 ((sealB s).size - 4) = s := by
    apply bytes_inj
    rw [bytes_extract, bytes_sealB, sealB_size, List.drop_zero, show s.size + 4 - 4 = (bytesOf s).length by rw [bytes_length]; omega]
    simp
  rw [this]
/-- The item of a payload's record that is read. -/
theorem pay_eq (s : ByteArray) (k : Nat) (hk : k = small (bytesOf (s.extract 0 4))) (h1 : k ≤ 1048576) (h2 : k + 8 ≤ s.size) :
    (s.extract 0 (k + 8) = payB (s.extract 4 (4 + k))) ↔ wholeB (s.extract 0 (k + 8)) = true := by
  have hsz : (s.extract 4 (4 + k)).size = k := by rw [ByteArray.size_extract]; omega
  have hpay : payB (s.extract 4 (4 + k)) = sealB (s.extract 0 (k + 4)) := by
    unfold payB
    rw [if_neg (by omega), hsz]
    congr 1
    apply bytes_inj
    rw [bytes_append, bytes_numB, hk]
    have hl : (bytesOf (s.extract 0 4)).length = 4 := by rw [bytes_length, ByteArray.size_extract]; omega
    have := big_small (bytesOf (s.extract 0 4))
    rw [hl] at this
    rw [this, ← hk]
    simp only [bytes_extract, List.drop_zero]
    rw [show 4 + k = k + 4 by omega]
    have h3 := List.take_append_drop 4 ((bytesOf s).take (k + 4))
    rw [List.take_take, show min 4 (k + 4) = 4 by omega] at h3
    exact h3
  have hext : (s.extract 0 (k + 8)).extract 0 ((s.extract 0 (k + 8)).size - 4) = s.extract 0 (k + 4) := by
    apply bytes_inj
    simp only [bytes_extract, List.drop_zero, List.take_take, ByteArray.size_extract]
    congr 1
    omega
  rw [wholeB_iff, hext, hpay]
  exact ⟨Eq.symm, Eq.symm⟩
theorem node_body {k p : Nat} {d : ByteArray} (hd : d.size = k) (hk : k ≤ 32) : nodeB p d = sealB (d ++ zeroB (32 - k) ++ numB p 4) := by
  unfold nodeB; rw [if_neg (by omega), hd]
theorem split4 (l : List UInt8) (k : Nat) (hk : k ≤ 32) : l = l.take k ++ (l.drop k).take (32 - k) ++ (l.drop 32).take 4 ++ l.drop 36 := by
  have h1 : l.take k ++ (l.drop k).take (32 - k) = l.take 32 := by
    have := List.take_append_drop k (l.take 32)
    rw [List.take_take, show min k 32 = k by omega, List.drop_take] at this
    exact this
  have h2 : l.take 32 ++ (l.drop 32).take 4 = l.take 36 := by
    have := List.take_append_drop 32 (l.take 36)
    rw [List.take_take, show min 32 36 = 32 by omega, List.drop_take] at this
    exact this
  rw [h1, h2, List.take_append_drop]
theorem node_eq (s : ByteArray) (k p : Nat) (hk : k ≤ 32) (hs : s.size = 40) : s = nodeB p (s.extract 0 k) ↔ nodeOk k p s = true := by
  have hd : (s.extract 0 k).size = k := by rw [ByteArray.size_extract]; omega
  rw [node_body hd hk]
  have hbl : (bytesOf s).length = 40 := by rw [bytes_length, hs]
  have hbody : bytesOf (s.extract 0 k ++ zeroB (32 - k) ++ numB p 4) = (bytesOf s).take k ++ List.replicate (32 - k) 0 ++ big p 4 := by
    rw [bytes_append, bytes_append, bytes_extract, bytes_zeroB, bytes_numB, List.drop_zero]
  have hbs : (s.extract 0 k ++ zeroB (32 - k) ++ numB p 4).size = 36 := by
    rw [ByteArray.size_append, ByteArray.size_append, hd, zeroB_size, numB_size]; omega
  unfold nodeOk
  constructor
  · intro h
    have hw : wholeB s = true := by rw [h]; exact whole_seal _
    have hb : bytesOf s = ((bytesOf s).take k ++ List.replicate (32 - k) 0 ++ big p 4) ++ big (sumB (s.extract 0 k ++ zeroB (32 - k) ++ numB p 4)) 4 := by
      conv => lhs; rw [h]
      rw [bytes_sealB, hbody]
    generalize big (sumB (s.extract 0 k ++ zeroB (32 - k) ++ numB p 4)) 4 = C at hb
    generalize htk : (bytesOf s).take k = T at hb
    have hT : T.length = k := by rw [← htk]; simp; omega
    have h3 : ((bytesOf s).drop 32).take 4 = big p 4 := by
      rw [hb, List.append_assoc, List.append_assoc, ← List.append_assoc T, List.drop_append_of_le_length (by simp [hT]; omega), List.drop_of_length_le (by simp [hT]; omega), List.nil_append, List.take_append_of_le_length (by rw [big_length]; exact Nat.le_refl _), List.take_of_length_le (by rw [big_length]; exact Nat.le_refl _)]
    have h4 : ((bytesOf s).drop k).take (32 - k) = List.replicate (32 - k) 0 := by
      rw [hb, List.append_assoc, List.append_assoc, List.drop_append_of_le_length (by omega), List.drop_of_length_le (by omega), List.nil_append, List.take_append_of_le_length (by simp), List.take_of_length_le (by simp)]
    rw [hw, hs, h3, h4, small_big]
    simp
  · intro h
    simp only [Bool.and_eq_true, beq_iff_eq] at h
    obtain ⟨⟨⟨_, hw⟩, hp⟩, hz⟩ := h
    rw [wholeB_iff, hs] at hw
    have : s.extract 0 (40 - 4) = s.extract 0 k ++ zeroB (32 - k) ++ numB p 4 := by
      apply bytes_inj
      rw [hbody, bytes_extract, List.drop_zero]
      have h4 : ((bytesOf s).drop k).take (32 - k) = List.replicate (32 - k) 0 := by
        rw [List.eq_replicate_iff]
        refine ⟨by simp; omega, fun b hb => ?_⟩
        have := List.all_eq_true.1 hz b hb
        simpa using this
      have h3 : ((bytesOf s).drop 32).take 4 = big p 4 := by
        have h5 := big_small (((bytesOf s).drop 32).take 4)
        rw [hp, show (((bytesOf s).drop 32).take 4).length = 4 by simp; omega] at h5
        rw [← h5, show (4294967296 : Nat) = 256 ^ 4 from rfl, big_mod]
      have h6 := split4 (bytesOf s) k hk
      rw [h4, h3] at h6
      conv => lhs; rw [h6]
      rw [List.take_append_of_le_length (by simp [big_length]; omega), List.take_of_length_le (by simp [big_length]; omega)]
    exact hw.symm.trans (congrArg sealB this)
end Rec
#print axioms Rec.node_eq
end Go.Proofs.Ytoddjpkacaekbaa
