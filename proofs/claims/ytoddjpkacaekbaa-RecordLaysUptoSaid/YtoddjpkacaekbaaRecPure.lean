/-
  The records of chapter 18 as plain bytes. No program in sight.
-/
import Derived.Test.YtoddjpkacaekbaaCrcPure
import Derived.Test.YtoddjpkacaekbaaBase
namespace Go.Proofs.Ytoddjpkacaekbaa
namespace Rec
/-- x in so many bytes, the highest first. -/
def big (x : Nat) : Nat → List UInt8
  | 0 => []
  | n + 1 => UInt8.ofNat (x / 256 ^ n) :: big x n
def small (l : List UInt8) : Nat := l.foldl (fun x c => x * 256 + c.toNat) 0
theorem big_length (x n : Nat) : (big x n).length = n := by
  induction n with
  | zero => rfl
  | succ n ih => simp [big, ih]
theorem big_get (x : Nat) : ∀ (n i : Nat), i < n → (big x n).getD i 0 = UInt8.ofNat (x / 256 ^ (n - 1 - i))
  | n + 1, 0, _ => by simp [big]
  | n + 1, i + 1, h => by
    have := big_get x n i (by omega)
    show ((UInt8.ofNat _ :: big x n).getD (i + 1) 0) = _
    rw [List.getD_cons_succ, this]
    congr 3
    omega
def numB (x n : Nat) : ByteArray := ⟨(big x n).toArray⟩
theorem numB_size (x n : Nat) : (numB x n).size = n := by
  show (big x n).toArray.size = n
  simp [big_length]
def zeroB (n : Nat) : ByteArray := ⟨(List.replicate n (0 : UInt8)).toArray⟩
theorem zeroB_size (n : Nat) : (zeroB n).size = n := by
  show (List.replicate n (0 : UInt8)).toArray.size = n
  simp
def sumB (s : ByteArray) : Nat := (Crc.more 0#32 s.data.toList).toNat
theorem sumB_lt (s : ByteArray) : sumB s < 4294967296 := (Crc.more 0#32 s.data.toList).isLt
def sealB (s : ByteArray) : ByteArray := s ++ numB (sumB s) 4
theorem sealB_size (s : ByteArray) : (sealB s).size = s.size + 4 := by unfold sealB; rw [ByteArray.size_append, numB_size]
/-- A fold of digits. -/
theorem small_foldl (l : List UInt8) : ∀ x, l.foldl (fun x c => x * 256 + c.toNat) x = x * 256 ^ l.length + small l := by
  unfold small
  induction l with
  | nil => intro x; simp
  | cons c l ih =>
    intro x
    simp only [List.foldl_cons, List.length_cons]
    rw [ih, ih (0 * 256 + c.toNat)]
    rw [Nat.pow_succ, Nat.add_mul, Nat.zero_mul, Nat.zero_add, Nat.mul_assoc, Nat.mul_comm 256]
    omega
theorem small_cons (c : UInt8) (l : List UInt8) : small (c :: l) = c.toNat * 256 ^ l.length + small l := by
  show (c :: l).foldl _ 0 = _
  rw [List.foldl_cons, small_foldl, Nat.zero_mul, Nat.zero_add]
theorem small_append (l m : List UInt8) : small (l ++ m) = small l * 256 ^ m.length + small m := by
  show (l ++ m).foldl _ 0 = _
  rw [List.foldl_append, small_foldl]; rfl
theorem small_lt (l : List UInt8) : small l < 256 ^ l.length := by
  induction l with
  | nil => decide
  | cons c l ih =>
    rw [small_cons, List.length_cons, Nat.pow_succ]
    have := c.toNat_lt
    have h2 : c.toNat * 256 ^ l.length ≤ 255 * 256 ^ l.length := Nat.mul_le_mul_right _ (by omega)
    omega
theorem small_snoc (l : List UInt8) (c : UInt8) : small (l ++ [c]) = small l * 256 + c.toNat := by
  rw [small_append]; simp [small_cons, show small [] = 0 from rfl]
theorem big_small (l : List UInt8) : big (small l) l.length = l := by
  have key : ∀ (l : List UInt8) (k : Nat), big (small l + k * 256 ^ l.length) l.length = l := by
    intro l
    induction l with
    | nil => intro k; rfl
    | cons c l ih =>
      intro k
      rw [List.length_cons, small_cons]
      show _ :: _ = _
      congr 1
      · have h1 := small_lt l
        have h2 : (c.toNat * 256 ^ l.length + small l + k * 256 ^ (l.length + 1)) = small l + (c.toNat + k * 256) * 256 ^ l.length := by
          rw [Nat.pow_succ, Nat.add_mul, Nat.mul_assoc k, Nat.mul_comm 256]; omega
        rw [h2, Nat.add_mul_div_right _ _ (Nat.pow_pos (by decide)), Nat.div_eq_of_lt h1, Nat.zero_add]
        apply UInt8.toNat_inj.1
        rw [UInt8.toNat_ofNat']
        have := c.toNat_lt
        omega
      · have h2 : (c.toNat * 256 ^ l.length + small l + k * 256 ^ (l.length + 1)) = small l + (c.toNat + k * 256) * 256 ^ l.length := by
          rw [Nat.pow_succ, Nat.add_mul, Nat.mul_assoc k, Nat.mul_comm 256]; omega
        rw [h2]; exact ih _
  simpa using key l 0
theorem small_big (x : Nat) : ∀ n, small (big x n) = x % 256 ^ n
  | 0 => by rw [Nat.pow_zero, Nat.mod_one]; rfl
  | n + 1 => by
    show small (UInt8.ofNat (x / 256 ^ n) :: big x n) = _
    rw [small_cons, big_length, small_big x n, UInt8.toNat_ofNat']
    have h := @Nat.mod_mul (256 ^ n) 256 x
    rw [show 256 ^ (n + 1) = 256 ^ n * 256 from rfl, h, show (2 : Nat) ^ 8 = 256 from rfl, Nat.mul_comm]
    omega
theorem big_mod (x : Nat) (n : Nat) : big (x % 256 ^ n) n = big x n := by
  have := big_small (big x n)
  rwa [big_length, small_big] at this
end Rec
#print axioms Rec.big_mod
end Go.Proofs.Ytoddjpkacaekbaa
