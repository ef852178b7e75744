/-
  CRC bit by bit: a burst of 32 bits always tells. No program in sight.
-/
import Derived.Test.YtholbjclfkdgbaaCrcPure
namespace Go.Proofs.Ytholbjclfkdgbaa.Crc
open Go
def b2w (b : Bool) : BitVec 32 := if b then 1#32 else 0#32
def bfold (x : BitVec 32) (f : Nat → Bool) : Nat → BitVec 32
  | 0 => x
  | n + 1 => step (bfold x f n ^^^ b2w (f n))
def bitAt (l : List UInt8) (p : Nat) : Bool := (l.getD (p / 8) 0).toNat.testBit (p % 8)

theorem b2w_xor (a b : Bool) : b2w (a != b) = b2w a ^^^ b2w b := by cases a <;> cases b <;> decide
theorem bfold_xor (x y : BitVec 32) (f g : Nat → Bool) (n : Nat) : bfold (x ^^^ y) (fun p => f p != g p) n = bfold x f n ^^^ bfold y g n := by
  induction n with
  | zero => rfl
  | succ n ih =>
    simp only [bfold]
    rw [ih, b2w_xor, ← step_xor]
    congr 1; ac_rfl
theorem bfold_congr {x : BitVec 32} {f g : Nat → Bool} (n : Nat) (h : ∀ p, p < n → f p = g p) : bfold x f n = bfold x g n := by
  induction n with
  | zero => rfl
  | succ n ih => simp only [bfold]; rw [ih (fun p hp => h p (by omega)), h n (by omega)]
theorem step_low0 (m : BitVec 32) (h : m.getLsbD 0 = false) : step m = m >>> 1 := by unfold step; rw [h]; simp
/-- A bit goes in, the rest of the word goes down. -/
theorem step_bit (x m : BitVec 32) : step (x ^^^ m) = step (x ^^^ b2w (m.getLsbD 0)) ^^^ (m >>> 1) := by
  have e : m = b2w (m.getLsbD 0) ^^^ (m ^^^ b2w (m.getLsbD 0)) := by
    rw [show b2w (m.getLsbD 0) ^^^ (m ^^^ b2w (m.getLsbD 0)) = m ^^^ (b2w (m.getLsbD 0) ^^^ b2w (m.getLsbD 0)) by ac_rfl, BitVec.xor_self, BitVec.xor_zero]
  have h0 : (m ^^^ b2w (m.getLsbD 0)).getLsbD 0 = false := by
    rw [BitVec.getLsbD_xor]
    cases m.getLsbD 0 <;> simp [b2w]
  have hs : (m ^^^ b2w (m.getLsbD 0)) >>> 1 = m >>> 1 := by
    rw [BitVec.ushiftRight_xor_distrib]
    have : b2w (m.getLsbD 0) >>> 1 = 0#32 := by cases m.getLsbD 0 <;> decide
    rw [this, BitVec.xor_zero]
  calc step (x ^^^ m) = step ((x ^^^ b2w (m.getLsbD 0)) ^^^ (m ^^^ b2w (m.getLsbD 0))) := by
        congr 1
        rw [show (x ^^^ b2w (m.getLsbD 0)) ^^^ (m ^^^ b2w (m.getLsbD 0)) = x ^^^ m ^^^ (b2w (m.getLsbD 0) ^^^ b2w (m.getLsbD 0)) by ac_rfl, BitVec.xor_self, BitVec.xor_zero]
    _ = _ := by rw [step_xor, step_low0 _ h0, hs]
theorem shr_lsb (m : BitVec 32) (k : Nat) : (m >>> k).getLsbD 0 = m.getLsbD k := by rw [BitVec.getLsbD_ushiftRight, Nat.add_zero]
/-- Bits of a word of up to n bits, one by one. -/
theorem bfold_word (x m : BitVec 32) (f : Nat → Bool) (s n : Nat) (h : ∀ j, j < n → f (s + j) = m.getLsbD j) : ∀ j, j ≤ n → stepN (n - j) (bfold x f (s + j) ^^^ (m >>> j)) = stepN n (bfold x f s ^^^ m) := by
  intro j
  induction j with
  | zero => intro _; simp
  | succ j ih =>
    intro hj
    have h1 := ih (by omega)
    rw [show n - j = (n - (j + 1)) + 1 by omega] at h1
    rw [← h1]
    show _ = stepN (n - (j + 1)) (step _)
    rw [step_bit, shr_lsb, ← h j (by omega), ← BitVec.shiftRight_add]
    rfl
theorem byte_bits (x : BitVec 32) (b : UInt8) (f : Nat → Bool) (s : Nat) (h : ∀ j, j < 8 → f (s + j) = b.toNat.testBit j) : bfold x f (s + 8) = byteStep (bfold x f s) b := by
  have hb : ∀ j, j < 8 → f (s + j) = (bv8 b).getLsbD j := fun j hj => by
    rw [h j hj]
    simp only [bv8, BitVec.getLsbD_ofNat]
    have : j < 32 := by omega
    simp [this]
  have := bfold_word x (bv8 b) f s 8 hb 8 (Nat.le_refl _)
  simp only [Nat.sub_self, stepN] at this
  have h0 : bv8 b >>> 8 = 0#32 := by
    have hlt := b.toNat_lt
    apply BitVec.eq_of_toNat_eq
    have h2 : (bv8 b).toNat = b.toNat := by simp [bv8]
    rw [BitVec.toNat_ushiftRight, Nat.shiftRight_eq_div_pow, h2]
    simp; omega
  rw [h0, BitVec.xor_zero] at this
  rw [this]; rfl
theorem fold_bits (x : BitVec 32) (l : List UInt8) : ∀ n, n ≤ l.length → fold x (l.take n) = bfold x (bitAt l) (8 * n) := by
  intro n
  induction n with
  | zero => intro _; rfl
  | succ n ih =>
    intro h
    have hn : n < l.length := by omega
    rw [List.take_succ_eq_append_getElem hn]
    unfold fold
    rw [List.foldl_append]
    show byteStep (fold x (l.take n)) l[n] = _
    rw [ih (by omega), show 8 * (n + 1) = 8 * n + 8 by omega, byte_bits x l[n]]
    intro j hj
    unfold bitAt
    rw [show (8 * n + j) / 8 = n by omega, show (8 * n + j) % 8 = j by omega]
    simp [List.getD, hn]
theorem fold_all (x : BitVec 32) (l : List UInt8) : fold x l = bfold x (bitAt l) (8 * l.length) := by
  have := fold_bits x l l.length (Nat.le_refl _)
  rwa [List.take_length] at this
theorem bfold_zero (f : Nat → Bool) (n : Nat) (h : ∀ p, p < n → f p = false) : bfold 0#32 f n = 0#32 := by
  induction n with
  | zero => rfl
  | succ n ih =>
    simp only [bfold]
    rw [ih (fun p hp => h p (by omega)), h n (by omega)]
    decide
theorem bfold_zeros (x : BitVec 32) (f : Nat → Bool) (s r : Nat) (h : ∀ p, s ≤ p → p < s + r → f p = false) : bfold x f (s + r) = stepN r (bfold x f s) := by
  induction r with
  | zero => rfl
  | succ r ih =>
    rw [show s + (r + 1) = (s + r) + 1 by omega]
    simp only [bfold]
    rw [ih (fun p h1 h2 => h p h1 (by omega)), h (s + r) (by omega) (by omega), stepN_add r 1]
    show step (_ ^^^ 0#32) = _
    rw [BitVec.xor_zero]; rfl
/-- Where two texts differ by a burst of 32 bits, their sums differ, whatever stood ahead. -/
theorem burst (x : BitVec 32) (A S : List UInt8) (from_ : Nat) (mask : BitVec 32) (hm : mask ≠ 0#32) (hl : A.length = S.length) (hf : from_ + 32 ≤ 8 * S.length)
    (hb : ∀ p, p < 8 * S.length → bitAt A p = (bitAt S p != (decide (from_ ≤ p ∧ p < from_ + 32) && mask.getLsbD (p - from_)))) : fold x A ≠ fold x S := by
  intro he
  have hd : fold x A ^^^ fold x S = bfold 0#32 (fun p => bitAt A p != bitAt S p) (8 * S.length) := by
    rw [fold_all, fold_all, hl, ← bfold_xor]
    rw [BitVec.xor_self]
  rw [he, BitVec.xor_self] at hd
  have hcongr : bfold 0#32 (fun p => bitAt A p != bitAt S p) (8 * S.length) = bfold 0#32 (fun p => decide (from_ ≤ p ∧ p < from_ + 32) && mask.getLsbD (p - from_)) (8 * S.length) := by
    refine bfold_congr _ fun p hp => ?_
    rw [hb p hp]
    cases bitAt S p <;> cases (decide (from_ ≤ p ∧ p < from_ + 32) && mask.getLsbD (p - from_)) <;> rfl
  rw [hcongr] at hd
  obtain ⟨r, hr⟩ : ∃ r, 8 * S.length = (from_ + 32) + r := ⟨8 * S.length - (from_ + 32), by omega⟩
  rw [hr, bfold_zeros _ _ (from_ + 32) r (fun p h1 h2 => by simp; omega)] at hd
  have h2 := stepN_inj0 r hd.symm
  have h3 := bfold_word 0#32 mask (fun p => decide (from_ ≤ p ∧ p < from_ + 32) && mask.getLsbD (p - from_)) from_ 32 (fun j hj => by
    simp [show from_ + j - from_ = j by omega, hj]) 32 (Nat.le_refl _)
  rw [h2, bfold_zero _ from_ (fun p hp => by simp; omega)] at h3
  have h4 : mask >>> 32 = 0#32 := by
    refine BitVec.eq_of_getLsbD_eq fun i hi => ?_
    rw [BitVec.getLsbD_ushiftRight, BitVec.getLsbD_of_ge mask _ (by omega)]; simp
  rw [h4] at h3
  simp only [Nat.sub_self, stepN, BitVec.xor_zero, BitVec.zero_xor] at h3
  exact hm (stepN_inj0 32 h3.symm)
/-- One bit of a byte is turned. -/
theorem bitAt_set (l : List UInt8) (q o p : Nat) (c : UInt8) (hq : q < l.length) (ho : o < 8) (hc : ∀ k, k < 8 → c.toNat.testBit k = ((l.getD q 0).toNat.testBit k != decide (k = o))) :
    bitAt (l.set q c) p = (bitAt l p != decide (p = 8 * q + o)) := by
  unfold bitAt
  by_cases hp : p / 8 = q
  · have e : (l.set q c).getD (p / 8) 0 = c := by rw [hp]; simp [List.getD, hq]
    rw [e, hc _ (by omega), hp]
    congr 1
    by_cases h : p % 8 = o
    · rw [decide_eq_true h, decide_eq_true (by omega)]
    · rw [decide_eq_false h, decide_eq_false (by omega)]
  · have e : (l.set q c).getD (p / 8) 0 = l.getD (p / 8) 0 := by simp [List.getD, List.getElem?_set_ne (Ne.symm hp)]
    rw [e, decide_eq_false (by omega)]; simp
end Go.Proofs.Ytholbjclfkdgbaa.Crc
