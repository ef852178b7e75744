/-
  Plain facts on CRC-32C over BitVec 32: no program in sight.
-/
import Derived.Laws.BitsLemmas
namespace Go.Proofs.Ytoddjpkacaekbaa.Crc
open Go

def poly : BitVec 32 := 0x82f63b78#32
def step (x : BitVec 32) : BitVec 32 := (x >>> 1) ^^^ (if x.getLsbD 0 then poly else 0#32)
def stepN : Nat → BitVec 32 → BitVec 32 | 0, x => x | n + 1, x => stepN n (step x)
def bv8 (b : UInt8) : BitVec 32 := BitVec.ofNat 32 b.toNat
def byteStep (x : BitVec 32) (b : UInt8) : BitVec 32 := stepN 8 (x ^^^ bv8 b)
def fold (x : BitVec 32) (l : List UInt8) : BitVec 32 := l.foldl byteStep x
/-- More. -/
def more (c : BitVec 32) (l : List UInt8) : BitVec 32 := ~~~ fold (~~~ c) l
/-- Of parts. -/
def ofParts (c : BitVec 32) : List (List UInt8) → BitVec 32
  | [] => c
  | p :: ps => ofParts (more c p) ps

theorem step_xor (x y : BitVec 32) : step (x ^^^ y) = step x ^^^ step y := by
  unfold step
  rw [BitVec.ushiftRight_xor_distrib, BitVec.getLsbD_xor]
  have e : (x >>> 1 ^^^ poly) ^^^ (y >>> 1 ^^^ poly) = x >>> 1 ^^^ y >>> 1 := by
    rw [show (x >>> 1 ^^^ poly) ^^^ (y >>> 1 ^^^ poly) = (x >>> 1 ^^^ y >>> 1) ^^^ (poly ^^^ poly) by ac_rfl, BitVec.xor_self, BitVec.xor_zero]
  cases x.getLsbD 0 <;> cases y.getLsbD 0
  · simp
  · simp [BitVec.xor_assoc]
  · simp; ac_rfl
  · simp [e]
theorem step_zero : step 0#32 = 0#32 := by decide
theorem stepN_xor (n : Nat) : ∀ x y, stepN n (x ^^^ y) = stepN n x ^^^ stepN n y := by
  induction n with
  | zero => intro x y; rfl
  | succ n ih => intro x y; simp only [stepN]; rw [step_xor, ih]
theorem stepN_zero (n : Nat) : stepN n 0#32 = 0#32 := by
  induction n with
  | zero => rfl
  | succ n ih => simp only [stepN]; rw [step_zero, ih]
theorem stepN_add (m : Nat) : ∀ n x, stepN (m + n) x = stepN n (stepN m x) := by
  induction m with
  | zero => intro n x; simp [stepN]
  | succ m ih => intro n x; rw [show m + 1 + n = (m + n) + 1 by omega]; simp only [stepN]; rw [ih]
/-- A step is undone: it is one to one. -/
theorem step_inj {x : BitVec 32} (h : step x = 0#32) : x = 0#32 := by
  have h31 : (step x).getLsbD 31 = x.getLsbD 0 := by
    unfold step
    rw [BitVec.getLsbD_xor, BitVec.getLsbD_ushiftRight]
    cases hx : x.getLsbD 0 <;> simp [poly]
  rw [h] at h31
  have h0 : x.getLsbD 0 = false := by rw [← h31]; simp
  unfold step at h
  rw [h0] at h
  simp only [Bool.false_eq_true, if_false, BitVec.xor_zero] at h
  refine BitVec.eq_of_getLsbD_eq fun i hi => ?_
  cases i with
  | zero => simpa using h0
  | succ i =>
    have := congrArg (fun z => z.getLsbD i) h
    simp only [BitVec.getLsbD_ushiftRight] at this
    rw [show i + 1 = 1 + i by omega, this]; simp
theorem stepN_inj0 (n : Nat) : ∀ {x}, stepN n x = 0#32 → x = 0#32 := by
  induction n with
  | zero => intro x h; exact h
  | succ n ih => intro x h; exact step_inj (ih h)
theorem stepN_inj (n : Nat) {x y : BitVec 32} (h : stepN n x = stepN n y) : x = y := by
  have := stepN_inj0 n (x := x ^^^ y) (by rw [stepN_xor, h, BitVec.xor_self])
  have h2 : (x ^^^ y) ^^^ y = 0#32 ^^^ y := by rw [this]
  rwa [BitVec.xor_assoc, BitVec.xor_self, BitVec.xor_zero, BitVec.zero_xor] at h2
/-- Four steps over a table: what is above goes down, what is below is looked up. -/
theorem stepN_low (n : Nat) : ∀ x : BitVec 32, (∀ i, i < n → x.getLsbD i = false) → stepN n x = x >>> n := by
  induction n with
  | zero => intro x _; simp [stepN]
  | succ n ih =>
    intro x h
    have h0 : step x = x >>> 1 := by unfold step; rw [h 0 (by omega)]; simp
    simp only [stepN]
    rw [h0, ih]
    · rw [← BitVec.shiftRight_add, Nat.add_comm]
    · intro i hi; rw [BitVec.getLsbD_ushiftRight]; exact h _ (by omega)
theorem stepN4 (x : BitVec 32) : stepN 4 x = (x >>> 4) ^^^ stepN 4 (x &&& 15#32) := by
  have hs : x = (x &&& ~~~15#32) ^^^ (x &&& 15#32) := by
    refine BitVec.eq_of_getLsbD_eq fun i hi => ?_
    simp only [BitVec.getLsbD_xor, BitVec.getLsbD_and, BitVec.getLsbD_not]
    cases x.getLsbD i <;> cases (15#32).getLsbD i <;> simp [hi]
  have hl : ∀ i, i < 4 → (x &&& ~~~15#32).getLsbD i = false := by
    intro i hi
    rw [BitVec.getLsbD_and, BitVec.getLsbD_not]
    match i, hi with
    | 0, _ => simp
    | 1, _ => simp
    | 2, _ => simp
    | 3, _ => simp
  have hr : (x &&& ~~~15#32) >>> 4 = x >>> 4 := by
    refine BitVec.eq_of_getLsbD_eq fun i hi => ?_
    rw [BitVec.getLsbD_ushiftRight, BitVec.getLsbD_ushiftRight, BitVec.getLsbD_and, BitVec.getLsbD_not]
    by_cases h : 4 + i < 32
    · have : (15#32).getLsbD (4 + i) = false := by
        have h2 : ∀ j, j < 32 → 4 ≤ j → (15#32).getLsbD j = false := by decide
        exact h2 _ h (by omega)
      rw [this]; simp [h]
    · rw [BitVec.getLsbD_of_ge x _ (by omega)]; simp
  calc stepN 4 x = stepN 4 ((x &&& ~~~15#32) ^^^ (x &&& 15#32)) := by rw [← hs]
    _ = stepN 4 (x &&& ~~~15#32) ^^^ stepN 4 (x &&& 15#32) := stepN_xor _ _ _
    _ = (x >>> 4) ^^^ stepN 4 (x &&& 15#32) := by rw [stepN_low 4 _ hl, hr]

/-! ### the model's numbers -/
theorem bits_bv (op : BinOp) (x y : BitVec 32) : bits op .u32 (x.toNat : Int) (y.toNat : Int) = ((match op with | .and => x &&& y | .or => x ||| y | .xor => x ^^^ y | _ => x &&& ~~~y).toNat : Int) := by
  unfold bits
  have hb : IntKind.u32.bits = 32 := rfl
  simp only [BitVec.ofInt_natCast]
  rw [IntKind.wrap_u32]
  show ((match op with | .and => BitVec.ofNat 32 x.toNat &&& BitVec.ofNat 32 y.toNat | .or => BitVec.ofNat 32 x.toNat ||| BitVec.ofNat 32 y.toNat | .xor => BitVec.ofNat 32 x.toNat ^^^ BitVec.ofNat 32 y.toNat | _ => BitVec.ofNat 32 x.toNat &&& ~~~BitVec.ofNat 32 y.toNat).toNat : Int) % 4294967296 = _
  have e : ∀ z : BitVec 32, BitVec.ofNat 32 z.toNat = z := fun z => BitVec.eq_of_toNat_eq (by simp)
  rw [e, e]
  have hlt : ∀ z : BitVec 32, (z.toNat : Int) % 4294967296 = z.toNat := fun z => by have := z.isLt; omega
  exact hlt _
theorem bits_xor (x y : BitVec 32) : bits .xor .u32 (x.toNat : Int) (y.toNat : Int) = ((x ^^^ y).toNat : Int) := bits_bv .xor x y
theorem bits_and (x y : BitVec 32) : bits .and .u32 (x.toNat : Int) (y.toNat : Int) = ((x &&& y).toNat : Int) := bits_bv .and x y
theorem shr_bv (x : BitVec 32) (n : Nat) : (x.toNat : Int) / (2 ^ n : Nat) = ((x >>> n).toNat : Int) := by
  rw [BitVec.toNat_ushiftRight, Nat.shiftRight_eq_div_pow]; rfl
end Go.Proofs.Ytoddjpkacaekbaa.Crc
