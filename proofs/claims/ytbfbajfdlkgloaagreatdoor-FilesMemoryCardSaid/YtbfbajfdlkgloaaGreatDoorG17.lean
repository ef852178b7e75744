/-
  The records' plain laws: what is laid is read, and what is read is laid. No program in sight.
-/
import Derived.Test.YtbfbajfdlkgloaaGreatDoorG16
import Derived.Lib.SlicesS

namespace Go.Proofs.YtbfbajfdlkgloaaGreatDoor
namespace Rec
theorem bytes_inj {a b : ByteArray} (h : bytesOf a = bytesOf b) : a = b := by
  apply ByteArray.ext
  exact Array.toList_inj.1 h
theorem bytes_append (a b : ByteArray) : bytesOf (a ++ b) = bytesOf a ++ bytesOf b := by simp [bytesOf]
theorem bytes_extract (s : ByteArray) (i j : Nat) : bytesOf (s.extract i j) = ((bytesOf s).take j).drop i := by simp [bytesOf, List.drop_take]
theorem bytes_numB (x n : Nat) : bytesOf (numB x n) = big x n := by simp [bytesOf, numB]
theorem bytes_zeroB (n : Nat) : bytesOf (zeroB n) = List.replicate n 0 := by simp [bytesOf, zeroB]
theorem bytes_sealB (s : ByteArray) : bytesOf (sealB s) = bytesOf s ++ big (sumB s) 4 := by unfold sealB; rw [bytes_append, bytes_numB]
theorem bytes_length (s : ByteArray) : (bytesOf s).length = s.size := by simp [bytesOf]
theorem beqB (x y : ByteArray) : (x.toList == y.toList) = decide (x = y) := by
  rw [Bool.eq_iff_iff, Go.Lib.bytes_beq_iff, decide_eq_true_iff]
theorem wholeB_iff (s : ByteArray) : wholeB s = true ↔ sealB (s.extract 0 (s.size - 4)) = s := by
  unfold wholeB; rw [beqB, decide_eq_true_iff]
theorem whole_seal (s : ByteArray) : wholeB (sealB s) = true := by
  rw [wholeB_iff]
  have : (sealB s).extract 0 ((sealB s).size - 4) = s := by
    apply bytes_inj
    rw [bytes_extract, bytes_sealB, sealB_size, List.drop_zero, show s.size + 4 - 4 = (bytesOf s).length by rw [bytes_length]; omega]
    simp
  rw [this]
/-- The item of a payload's record that is read. -/
theorem pay_eq (s : ByteArray) (k : Nat) (hk : k = small (bytesOf (s.extract 0 4))) (h1 : k ≤ 1048576) (h2 : k + 8 ≤ s.size) :
    (s.extract 0 (k + 8) = payB (s.extract 4 (4 + k))) ↔ wholeB (s.extract 0 (k + 8)) = true := by
  have hsz : (s.extract 4 (4 + k)).size = k := by rw [ByteArray.size_extract]; omega
  have hpay : payB (s.extract 4 (4 + k)) = sealB (s.extract 0 (k + 4)) := by
    unfold payB
    rw [if_neg (by omega), hsz]
    congr 1
    apply bytes_inj
    rw [bytes_append, bytes_numB, hk]
    have hl : (bytesOf (s.extract 0 4)).length = 4 := by rw [bytes_length, ByteArray.size_extract]; omega
    have := big_small (bytesOf (s.extract 0 4))
    rw [hl] at this
    rw [this, ← hk]
    simp only [bytes_extract, List.drop_zero]
    rw [show 4 + k = k + 4 by omega]
    have h3 := List.take_append_drop 4 ((bytesOf s).take (k + 4))
    rw [List.take_take, show min 4 (k + 4) = 4 by omega] at h3
    exact h3
  have hext : (s.extract 0 (k + 8)).extract 0 ((s.extract 0 (k + 8)).size - 4) = s.extract 0 (k + 4) := by
    apply bytes_inj
    simp only [bytes_extract, List.drop_zero, List.take_take, ByteArray.size_extract]
    congr 1
    omega
  rw [wholeB_iff, hext, hpay]
  exact ⟨Eq.symm, Eq.symm⟩
theorem node_body {k p : Nat} {d : ByteArray} (hd : d.size = k) (hk : k ≤ 32) : nodeB p d = sealB (d ++ zeroB (32 - k) ++ numB p 4) := by
  unfold nodeB; rw [if_neg (by omega), hd]
theorem split4 (l : List UInt8) (k : Nat) (hk : k ≤ 32) : l = l.take k ++ (l.drop k).take (32 - k) ++ (l.drop 32).take 4 ++ l.drop 36 := by
  have h1 : l.take k ++ (l.drop k).take (32 - k) = l.take 32 := by
    have := List.take_append_drop k (l.take 32)
    rw [List.take_take, show min k 32 = k by omega, List.drop_take] at this
    exact this
  have h2 : l.take 32 ++ (l.drop 32).take 4 = l.take 36 := by
    have := List.take_append_drop 32 (l.take 36)
    rw [List.take_take, show min 32 36 = 32 by omega, List.drop_take] at this
    exact this
  rw [h1, h2, List.take_append_drop]
theorem node_eq (s : ByteArray) (k p : Nat) (hk : k ≤ 32) (hs : s.size = 40) : s = nodeB p (s.extract 0 k) ↔ nodeOk k p s = true := by
  have hd : (s.extract 0 k).size = k := by rw [ByteArray.size_extract]; omega
  rw [node_body hd hk]
  have hbl : (bytesOf s).length = 40 := by rw [bytes_length, hs]
  have hbody : bytesOf (s.extract 0 k ++ zeroB (32 - k) ++ numB p 4) = (bytesOf s).take k ++ List.replicate (32 - k) 0 ++ big p 4 := by
    rw [bytes_append, bytes_append, bytes_extract, bytes_zeroB, bytes_numB, List.drop_zero]
  have hbs : (s.extract 0 k ++ zeroB (32 - k) ++ numB p 4).size = 36 := by
    rw [ByteArray.size_append, ByteArray.size_append, hd, zeroB_size, numB_size]; omega
  unfold nodeOk
  constructor
  · intro h
    have hw : wholeB s = true := by rw [h]; exact whole_seal _
    have hb : bytesOf s = ((bytesOf s).take k ++ List.replicate (32 - k) 0 ++ big p 4) ++ big (sumB (s.extract 0 k ++ zeroB (32 - k) ++ numB p 4)) 4 := by
      conv => lhs; rw [h]
      rw [bytes_sealB, hbody]
    generalize big (sumB (s.extract 0 k ++ zeroB (32 - k) ++ numB p 4)) 4 = C at hb
    generalize htk : (bytesOf s).take k = T at hb
    have hT : T.length = k := by rw [← htk]; simp; omega
    have h3 : ((bytesOf s).drop 32).take 4 = big p 4 := by
      rw [hb, List.append_assoc, List.append_assoc, ← List.append_assoc T, List.drop_append_of_le_length (by simp [hT]; omega), List.drop_of_length_le (by simp [hT]; omega), List.nil_append, List.take_append_of_le_length (by rw [big_length]; exact Nat.le_refl _), List.take_of_length_le (by rw [big_length]; exact Nat.le_refl _)]
    have h4 : ((bytesOf s).drop k).take (32 - k) = List.replicate (32 - k) 0 := by
      rw [hb, List.append_assoc, List.append_assoc, List.drop_append_of_le_length (by omega), List.drop_of_length_le (by omega), List.nil_append, List.take_append_of_le_length (by simp), List.take_of_length_le (by simp)]
    rw [hw, hs, h3, h4, small_big]
    simp
  · intro h
    simp only [Bool.and_eq_true, beq_iff_eq] at h
    obtain ⟨⟨⟨_, hw⟩, hp⟩, hz⟩ := h
    rw [wholeB_iff, hs] at hw
    have : s.extract 0 (40 - 4) = s.extract 0 k ++ zeroB (32 - k) ++ numB p 4 := by
      apply bytes_inj
      rw [hbody, bytes_extract, List.drop_zero]
      have h4 : ((bytesOf s).drop k).take (32 - k) = List.replicate (32 - k) 0 := by
        rw [List.eq_replicate_iff]
        refine ⟨by simp; omega, fun b hb => ?_⟩
        have := List.all_eq_true.1 hz b hb
        simpa using this
      have h3 : ((bytesOf s).drop 32).take 4 = big p 4 := by
        have h5 := big_small (((bytesOf s).drop 32).take 4)
        rw [hp, show (((bytesOf s).drop 32).take 4).length = 4 by simp; omega] at h5
        rw [← h5, show (4294967296 : Nat) = 256 ^ 4 from rfl, big_mod]
      have h6 := split4 (bytesOf s) k hk
      rw [h4, h3] at h6
      conv => lhs; rw [h6]
      rw [List.take_append_of_le_length (by simp [big_length]; omega), List.take_of_length_le (by simp [big_length]; omega)]
    exact hw.symm.trans (congrArg sealB this)
end Rec
end Go.Proofs.YtbfbajfdlkgloaaGreatDoor

/-
  What is laid is read back, whatever stands behind it; what is read is laid as these bytes. No program in sight.
-/
namespace Go.Proofs.YtbfbajfdlkgloaaGreatDoor
namespace Rec
theorem wf_i64 {n : Int} (h1 : -9223372036854775808 ≤ n) (h2 : n ≤ 9223372036854775807) : (Lit.int .i64 n).wf = true := by
  have h : IntKind.i64.min ≤ n ∧ n ≤ IntKind.i64.max := ⟨h1, h2⟩
  simpa [Lit.wf] using h
theorem take_left {l m : List UInt8} {n : Nat} (h : n = l.length) : (l ++ m).take n = l := by subst h; simp
theorem drop_left {l m : List UInt8} {n : Nat} (h : n = l.length) : (l ++ m).drop n = m := by subst h; simp
theorem payB_size (item : ByteArray) (h : item.size ≤ 1048576) : (payB item).size = item.size + 8 := by
  unfold payB
  rw [if_neg (by omega), sealB_size, ByteArray.size_append, numB_size]; omega
theorem readPay_back (item tail : ByteArray) (h : item.size ≤ 1048576) : readPayB (payB item ++ tail) = some (item, item.size + 8) := by
  have hp : payB item = sealB (numB item.size 4 ++ item) := by unfold payB; rw [if_neg (by omega)]
  have hb : bytesOf (payB item ++ tail) = big item.size 4 ++ (bytesOf item ++ (big (sumB (numB item.size 4 ++ item)) 4 ++ bytesOf tail)) := by
    rw [hp, bytes_append, bytes_sealB, bytes_append, bytes_numB]
    simp only [List.append_assoc]
  have hsz : (payB item ++ tail).size = item.size + 8 + tail.size := by rw [ByteArray.size_append, payB_size item h]
  have hk : small (bytesOf ((payB item ++ tail).extract 0 4)) = item.size := by
    rw [bytes_extract, List.drop_zero, hb, take_left (by rw [big_length]), small_big]
    omega
  have hw : (payB item ++ tail).extract 0 (item.size + 8) = payB item := by
    apply bytes_inj
    rw [bytes_extract, List.drop_zero, bytes_append, take_left]
    rw [bytes_length, payB_size item h]
  have hi : (payB item ++ tail).extract 4 (item.size + 4) = item := by
    apply bytes_inj
    rw [bytes_extract, hb, ← List.append_assoc, List.take_append_of_le_length (by simp [big_length, bytes_length]; omega), List.take_of_length_le (by simp [big_length, bytes_length]; omega), drop_left (by rw [big_length])]
  unfold readPayB
  rw [if_neg (by omega), hk, if_neg (by omega), hw, hi, if_pos (by rw [hp]; exact whole_seal _)]
theorem readNode_back (d : ByteArray) (p : Nat) (h1 : 1 ≤ d.size) (h2 : d.size ≤ 32) : readNodeV (d.size : Int) p (nodeB p d) = .tuple #[.string d, .int .i64 0] := by
  have hn := node_body (p := p) (k := d.size) rfl h2
  have hsz : (nodeB p d).size = 40 := by rw [hn, sealB_size, ByteArray.size_append, ByteArray.size_append, zeroB_size, numB_size]; omega
  have ht : (bytesOf (nodeB p d)).take d.size = bytesOf d := by
    rw [hn, bytes_sealB, bytes_append, bytes_append]
    simp only [List.append_assoc]
    rw [take_left (by rw [bytes_length])]
  have hd : (nodeB p d).extract 0 d.size = d := by
    apply bytes_inj
    rw [bytes_extract, List.drop_zero, ht]
  have hok := (node_eq (nodeB p d) d.size p h2 hsz).1 (by rw [hd])
  unfold readNodeV
  rw [if_neg (by omega), show ((d.size : Int)).toNat = d.size from rfl, if_pos hok, ht]
  have : (⟨(bytesOf d).toArray⟩ : ByteArray) = d := by apply bytes_inj; simp [bytesOf]
  rw [this]
theorem mark_bytes (m : Mk) (h1 : 1 ≤ m.k) (h2 : m.k ≤ 32) : ∃ C : List UInt8, C.length = 4 ∧ bytesOf (markB m) = [109, 115, 102, 1] ++ (big m.k.toNat 1 ++ (big 0 3 ++ (big m.size 8 ++ (big m.items 8 ++ (big m.nodes 8 ++ (big m.chain 4 ++ (big 0 24 ++ C))))))) := by
  unfold markB
  rw [if_neg (by omega)]
  refine ⟨big (sumB (magicB ++ numB m.k.toNat 1 ++ numB 0 3 ++ numB m.size 8 ++ numB m.items 8 ++ numB m.nodes 8 ++ numB m.chain 4 ++ numB 0 24)) 4, big_length _ _, ?_⟩
  rw [bytes_sealB]
  simp only [bytes_append, bytes_numB, List.append_assoc]
  rfl
theorem mark_size (m : Mk) (h1 : 1 ≤ m.k) (h2 : m.k ≤ 32) : (markB m).size = 64 := by
  obtain ⟨C, hC, hb⟩ := mark_bytes m h1 h2
  rw [← bytes_length, hb]
  simp [big_length, hC]
theorem seg8 {A B C : List UInt8} {i j : Nat} (hA : A.length = i) (hB : B.length = j) : ((A ++ (B ++ C)).drop i).take j = B := by
  rw [drop_left hA.symm, take_left hB.symm]
theorem markOf_back (m : Mk) (hm : m.ok) (h1 : 1 ≤ m.k) (h2 : m.k ≤ 32) : markOf (markB m) = m := by
  obtain ⟨C, hC, hb⟩ := mark_bytes m h1 h2
  obtain ⟨hk, hs, hi, hn, hc⟩ := hm
  have e1 : ((bytesOf (markB m)).getD 4 0).toNat = m.k.toNat := by
    rw [hb]
    show (UInt8.ofNat (m.k.toNat / 256 ^ 0)).toNat = _
    rw [UInt8.toNat_ofNat', Nat.pow_zero, Nat.div_one]
    omega
  have e2 : ((bytesOf (markB m)).drop 8).take 8 = big m.size 8 := by
    rw [hb, ← List.append_assoc, ← List.append_assoc]
    exact seg8 (by simp [big_length]) (by simp [big_length])
  have e3 : ((bytesOf (markB m)).drop 16).take 8 = big m.items 8 := by
    rw [hb, ← List.append_assoc, ← List.append_assoc, ← List.append_assoc]
    exact seg8 (by simp [big_length]) (by simp [big_length])
  have e4 : ((bytesOf (markB m)).drop 24).take 8 = big m.nodes 8 := by
    rw [hb, ← List.append_assoc, ← List.append_assoc, ← List.append_assoc, ← List.append_assoc]
    exact seg8 (by simp [big_length]) (by simp [big_length])
  have e5 : ((bytesOf (markB m)).drop 32).take 4 = big m.chain 4 := by
    rw [hb, ← List.append_assoc, ← List.append_assoc, ← List.append_assoc, ← List.append_assoc, ← List.append_assoc]
    exact seg8 (by simp [big_length]) (by simp [big_length])
  unfold markOf
  rw [e1, e2, e3, e4, e5, small_big, small_big, small_big, small_big]
  have p8 : (256 : Nat) ^ 8 = 18446744073709551616 := rfl
  have p4 : (256 : Nat) ^ 4 = 4294967296 := rfl
  rw [p8, p4, Nat.mod_eq_of_lt hs, Nat.mod_eq_of_lt hi, Nat.mod_eq_of_lt hn, Nat.mod_eq_of_lt hc]
  obtain ⟨k, a, b, c, d⟩ := m
  congr
  show (((k.toNat : Nat)) : Int) = k
  replace h1 : 1 ≤ k := h1
  omega
theorem readMark_back (m : Mk) (hm : m.ok) (h1 : 1 ≤ m.k) (h2 : m.k ≤ 32) : readMarkB (markB m) = some m := by
  unfold readMarkB
  rw [if_pos (mark_size m h1 h2), markOf_back m hm h1 h2, if_pos (by rw [beqB]; simp)]
theorem readMark_laid {s : ByteArray} {m : Mk} (h : readMarkB s = some m) : markB m = s := by
  unfold readMarkB at h
  split at h
  · split at h
    · rename_i h2
      injection h with h
      rw [beqB, decide_eq_true_iff] at h2
      rw [← h]; exact h2
    · cases h
  · cases h
theorem readPay_laid {s y : ByteArray} {n : Nat} (h : readPayB s = some (y, n)) : n ≤ s.size ∧ payB y = s.extract 0 n := by
  unfold readPayB at h
  split at h
  · cases h
  · split at h
    · cases h
    · rename_i h1 h2
      split at h
      · rename_i hw
        injection h with h
        injection h with h3 h4
        generalize hk : small (bytesOf (s.extract 0 4)) = k at *
        have hp := (pay_eq s k hk.symm (by omega) (by omega)).2 hw
        rw [show 4 + k = k + 4 by omega, h3, h4] at hp
        exact ⟨by omega, hp.symm⟩
      · cases h
theorem mk_inj {m m' : Mk} {e e' : Int} (h : (Value.tuple #[mkV m, .int .i64 e]) = .tuple #[.agg m'.cells, .int .i64 e']) : m' = m ∧ e' = e := by
  obtain ⟨k, a, b, c, d⟩ := m
  obtain ⟨k', a', b', c', d'⟩ := m'
  simp [mkV, Mk.cells] at h
  simp
  omega
theorem readPay_pos {s y : ByteArray} {n : Nat} (h : readPayB s = some (y, n)) : 8 ≤ n := by
  unfold readPayB at h
  split at h
  · cases h
  · split at h
    · cases h
    · split at h
      · injection h with h
        injection h with h3 h4
        omega
      · cases h
end Rec
end Go.Proofs.YtbfbajfdlkgloaaGreatDoor
