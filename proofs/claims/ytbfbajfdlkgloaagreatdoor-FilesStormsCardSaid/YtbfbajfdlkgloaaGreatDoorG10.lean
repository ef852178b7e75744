/-
  What stays of a file, byte by byte; one file, edits. No program in sight.
-/
import Derived.Test.YtbfbajfdlkgloaaGreatDoorG09
import Derived.Laws.BitsLemmas
import Derived.Test.YtbfbajfdlkgloaaGreatDoorG00

namespace Go.Proofs.YtbfbajfdlkgloaaGreatDoor
open Go Go.RowKit Go.Maps
namespace Dk
theorem byt_zeros (n i : Nat) : byt (zeros n) i = 0 := by
  unfold zeros
  rw [byt_of_list, List.getD_eq_getElem?_getD, List.getElem?_replicate]
  split <;> rfl
theorem byt_sector (x : ByteArray) (k e i : Nat) (h : i < min ((k + 1) * 64) e - k * 64) : byt (sector x k e) i = byt x (k * 64 + i) := by
  unfold sector
  rw [byt_append]
  split
  · rename_i hp
    unfold part at hp ⊢
    rw [ByteArray.size_extract] at hp
    rw [byt_extract, if_pos (by omega)]
  · rename_i hp
    rw [byt_zeros]
    unfold part at hp
    rw [ByteArray.size_extract] at hp
    rw [byt_ge (by omega)]
/-- Is sector s of what stays the file's own (true), or the synced one? -/
def sel (keep : List Bool) (f : F) (e c s : Nat) : Bool := (nextQ keep (sector f.now s e) (sector f.was s e) (secs keep f e c s).2).1
theorem secs_byt (keep : List Bool) (f : F) (e c : Nat) : ∀ K, (K = 0 ∨ (K - 1) * 64 < e) → ∀ i, i < K * 64 → i < e → byt (secs keep f e c K).1 i = if sel keep f e c (i / 64) = true then byt f.now i else byt f.was i
  | 0, _, i, h, _ => by omega
  | K + 1, h, i, hi, he => by
    have hk : K * 64 < e := by rcases h with h | h; cases h; simpa using h
    rw [secs_succ]
    show byt ((secs keep f e c K).1 ++ _) i = _
    have hsz := secs_size keep f e c K (by omega)
    rw [byt_append, hsz]
    by_cases h1 : i < K * 64
    · rw [if_pos (by omega)]
      exact secs_byt keep f e c K (by omega) i h1 he
    · rw [if_neg (by omega)]
      have hq : i / 64 = K := by omega
      rw [hq]
      unfold sel
      have hm : min (K * 64) e = K * 64 := by omega
      rw [hm]
      split
      · rw [byt_sector _ _ _ _ (by omega)]
        congr 1; omega
      · rw [byt_sector _ _ _ _ (by omega)]
        congr 1; omega
def nsec (f : F) : Nat := (endLen f + 63) / 64
theorem nsec_ok (f : F) : nsec f = 0 ∨ (nsec f - 1) * 64 < endLen f := by unfold nsec; omega
theorem afterF_size_eq (keep : List Bool) (f : F) (c : Nat) : (afterF keep f c).1.size = stayLen keep f c := by
  have h1 := stayLen_le keep f c
  have h2 := secs_size keep f (endLen f) (firstQ keep f c).2 (nsec f) (nsec_ok f)
  show ((secs keep f (endLen f) (firstQ keep f c).2 (nsec f)).1.extract 0 (stayLen keep f c)).size = _
  rw [ByteArray.size_extract, h2]
  unfold nsec; omega
theorem afterF_byt (keep : List Bool) (f : F) (c i : Nat) (hi : i < stayLen keep f c) : byt (afterF keep f c).1 i = if sel keep f (endLen f) (firstQ keep f c).2 (i / 64) = true then byt f.now i else byt f.was i := by
  have h1 := stayLen_le keep f c
  show byt ((secs keep f (endLen f) (firstQ keep f c).2 (nsec f)).1.extract 0 (stayLen keep f c)) i = _
  rw [byt_extract, if_pos (by omega), Nat.zero_add]
  exact secs_byt keep f _ _ (nsec f) (nsec_ok f) i (by unfold nsec; omega) (by omega)
/-- Where a sector is not chosen and unlike, or chosen: what it reads. -/
theorem sel_true {keep : List Bool} {f : F} {e c s : Nat} (h : ∀ n, (choose keep n).1 = true) : sel keep f e c s = true ∨ sector f.now s e = sector f.was s e := by
  unfold sel nextQ
  split
  · rename_i h; exact .inr h
  · exact .inl (h _)
theorem sel_false {keep : List Bool} {f : F} {e c s : Nat} (h : ∀ n, (choose keep n).1 = false) : sel keep f e c s = false := by
  unfold sel nextQ
  split
  · rfl
  · exact h _
theorem sector_same {x y : ByteArray} {e s i : Nat} (h : sector x s e = sector y s e) (hi : i / 64 = s) (he : i < e) : byt x i = byt y i := by
  have h1 := byt_sector x s e (i - s * 64) (by omega)
  have h2 := byt_sector y s e (i - s * 64) (by omega)
  rw [h, h2] at h1
  rw [show s * 64 + (i - s * 64) = i by omega] at h1
  exact h1.symm
theorem after_true (f : F) (keep : List Bool) (h : ∀ n, (choose keep n).1 = true) : (afterF keep f 0).1 = f.now := by
  have hl : stayLen keep f 0 = f.now.size := by
    unfold stayLen firstQ
    split
    · rfl
    · rw [if_pos (h 0)]
  refine byt_ext (by rw [afterF_size_eq, hl]) fun i hi => ?_
  rw [afterF_size_eq] at hi
  rw [afterF_byt _ _ _ _ hi]
  split
  · rfl
  · rename_i hs
    rcases sel_true (keep := keep) (f := f) (e := endLen f) (c := (firstQ keep f 0).2) (s := i / 64) h with h1 | h1
    · exact absurd h1 hs
    · exact (sector_same h1 rfl (by have := stayLen_le keep f 0; omega)).symm
theorem after_false (f : F) (keep : List Bool) (h : ∀ n, (choose keep n).1 = false) : (afterF keep f 0).1 = f.was := by
  have hl : stayLen keep f 0 = f.was.size := by
    unfold stayLen firstQ
    split
    · rename_i h2
      rw [if_pos rfl]; exact h2.symm
    · rw [h 0, if_neg (by decide)]
  refine byt_ext (by rw [afterF_size_eq, hl]) fun i hi => ?_
  rw [afterF_size_eq] at hi
  rw [afterF_byt _ _ _ _ hi, sel_false h, if_neg (by decide)]
theorem after_synced (x : ByteArray) (keep : List Bool) : (afterF keep ⟨x, x⟩ 0).1 = x := by
  have hl : stayLen keep ⟨x, x⟩ 0 = x.size := by unfold stayLen; split <;> rfl
  refine byt_ext (by rw [afterF_size_eq, hl]) fun i hi => ?_
  rw [afterF_size_eq] at hi
  rw [afterF_byt _ _ _ _ hi]
  split <;> rfl
theorem stay_len (f : F) (keep : List Bool) : (afterF keep f 0).1.size = f.now.size ∨ (afterF keep f 0).1.size = f.was.size := by
  rw [afterF_size_eq]
  unfold stayLen
  split
  · exact .inl rfl
  · exact .inr rfl
/-- Sector by sector the one or the other. -/
theorem stay_sector (f : F) (keep : List Bool) (s : Nat) : (∀ i, s * 64 ≤ i → i < s * 64 + 64 → i < (afterF keep f 0).1.size → byt (afterF keep f 0).1 i = byt f.now i) ∨ (∀ i, s * 64 ≤ i → i < s * 64 + 64 → i < (afterF keep f 0).1.size → byt (afterF keep f 0).1 i = byt f.was i) := by
  cases hs : sel keep f (endLen f) (firstQ keep f 0).2 s with
  | true =>
    refine .inl fun i h1 h2 h3 => ?_
    rw [afterF_size_eq] at h3
    rw [afterF_byt _ _ _ _ h3, show i / 64 = s by omega, hs, if_pos rfl]
  | false =>
    refine .inr fun i h1 h2 h3 => ?_
    rw [afterF_size_eq] at h3
    rw [afterF_byt _ _ _ _ h3, show i / 64 = s by omega, hs, if_neg (by decide)]
theorem choose_t (n : Nat) : (choose [true] n).1 = true := by unfold choose; rw [if_neg (by simp)]; simp [Nat.mod_one]
theorem choose_ff (n : Nat) : (choose [false, false] n).1 = false := by
  unfold choose; rw [if_neg (by simp)]
  show List.getD [false, false] (n % 2) false = false
  have : n % 2 = 0 ∨ n % 2 = 1 := by omega
  rcases this with h | h <;> rw [h] <;> rfl
theorem choose_nil (n : Nat) : (choose [] n).1 = false := rfl
/-! one file -/
def fN : ByteArray := ⟨#[102]⟩
def oneSt (now was : ByteArray) (a : Nat) : St := ⟨1048576, [(fN, ⟨now, was⟩)], a, 0, 0, [], 0, false⟩
def tf (x : ByteArray) : List (ByteArray × ByteArray) := if x = ⟨#[]⟩ then [] else [(fN, x)]
theorem one_get (now was : ByteArray) (a : Nat) : get (oneSt now was a).files fN = ⟨now, was⟩ := rfl
theorem pick_one (x : ByteArray) (f : F) : pick [(fN, f)] [x] = tf x := by
  unfold pick tf
  by_cases h : x = ⟨#[]⟩
  · simp [h]
  · simp [h]
theorem one_files (now was : ByteArray) (a : Nat) : files (oneSt now was a) = tf now := pick_one now _
theorem one_after (now was : ByteArray) (a : Nat) (keep : List Bool) : after (oneSt now was a) keep = tf (afterF keep ⟨now, was⟩ 0).1 := by
  unfold after
  rw [if_neg (by simp [oneSt])]
  exact pick_one _ _
theorem one_cut (now was : ByteArray) (a k : Nat) (hk : k ≤ now.size) : cutC (oneSt now was a) fN k = (0, oneSt (now.extract 0 k) was (a + 1)) := by
  unfold cutC
  rw [one_get, if_neg (by simp [oneSt]), if_neg (by dsimp only; omega)]
  rfl
theorem one_write (now was x : ByteArray) (a k : Nat) (hk : k ≤ now.size) (hn : now.size ≤ 1000000) (hx : x.size ≤ 400) : writeC (oneSt now was a) fN k x = (0, oneSt (over now k x) was (a + 1)) := by
  have hf : full (oneSt now was a) fN k x = false := by
    unfold full
    rw [one_get]
    have hu : (used (oneSt now was a).files : Int) = now.size := by simp [used, oneSt]
    rw [hu]
    have hr : (oneSt now was a).room = 1048576 := rfl
    rw [hr, IntWalk.wrap64_in _ (by dsimp only; omega)]
    rw [Bool.and_eq_false_iff]
    right
    exact decide_eq_false (by dsimp only; omega)
  unfold writeC
  rw [hf, one_get, if_neg (by simp [oneSt]), if_neg (by dsimp only; omega), if_neg (by decide)]
  rfl
theorem one_sync (now was : ByteArray) (a : Nat) : syncC (oneSt now was a) fN = (0, oneSt now now (a + 1)) := by
  unfold syncC
  rw [one_get, if_neg (by simp [oneSt])]
  rfl
theorem one_size (now was : ByteArray) (a : Nat) : size (oneSt now was a) fN = now.size := by
  unfold size
  rw [one_get, if_neg (by simp [oneSt])]
end Dk
end Go.Proofs.YtbfbajfdlkgloaaGreatDoor

/-
  Plain facts on CRC-32C over BitVec 32: no program in sight.
-/
namespace Go.Proofs.YtbfbajfdlkgloaaGreatDoor.Crc
open Go

def poly : BitVec 32 := 0x82f63b78#32
def step (x : BitVec 32) : BitVec 32 := (x >>> 1) ^^^ (if x.getLsbD 0 then poly else 0#32)
def stepN : Nat → BitVec 32 → BitVec 32 | 0, x => x | n + 1, x => stepN n (step x)
def bv8 (b : UInt8) : BitVec 32 := BitVec.ofNat 32 b.toNat
def byteStep (x : BitVec 32) (b : UInt8) : BitVec 32 := stepN 8 (x ^^^ bv8 b)
def fold (x : BitVec 32) (l : List UInt8) : BitVec 32 := l.foldl byteStep x
/-- More. -/
def more (c : BitVec 32) (l : List UInt8) : BitVec 32 := ~~~ fold (~~~ c) l
/-- Of parts. -/
def ofParts (c : BitVec 32) : List (List UInt8) → BitVec 32
  | [] => c
  | p :: ps => ofParts (more c p) ps

theorem step_xor (x y : BitVec 32) : step (x ^^^ y) = step x ^^^ step y := by
  unfold step
  rw [BitVec.ushiftRight_xor_distrib, BitVec.getLsbD_xor]
  have e : (x >>> 1 ^^^ poly) ^^^ (y >>> 1 ^^^ poly) = x >>> 1 ^^^ y >>> 1 := by
    rw [show (x >>> 1 ^^^ poly) ^^^ (y >>> 1 ^^^ poly) = (x >>> 1 ^^^ y >>> 1) ^^^ (poly ^^^ poly) by ac_rfl, BitVec.xor_self, BitVec.xor_zero]
  cases x.getLsbD 0 <;> cases y.getLsbD 0
  · simp
  · simp [BitVec.xor_assoc]
  · simp; ac_rfl
  · simp [e]
theorem step_zero : step 0#32 = 0#32 := by decide
theorem stepN_xor (n : Nat) : ∀ x y, stepN n (x ^^^ y) = stepN n x ^^^ stepN n y := by
  induction n with
  | zero => intro x y; rfl
  | succ n ih => intro x y; simp only [stepN]; rw [step_xor, ih]
theorem stepN_zero (n : Nat) : stepN n 0#32 = 0#32 := by
  induction n with
  | zero => rfl
  | succ n ih => simp only [stepN]; rw [step_zero, ih]
theorem stepN_add (m : Nat) : ∀ n x, stepN (m + n) x = stepN n (stepN m x) := by
  induction m with
  | zero => intro n x; simp [stepN]
  | succ m ih => intro n x; rw [show m + 1 + n = (m + n) + 1 by omega]; simp only [stepN]; rw [ih]
/-- A step is undone: it is one to one. -/
theorem step_inj {x : BitVec 32} (h : step x = 0#32) : x = 0#32 := by
  have h31 : (step x).getLsbD 31 = x.getLsbD 0 := by
    unfold step
    rw [BitVec.getLsbD_xor, BitVec.getLsbD_ushiftRight]
    cases hx : x.getLsbD 0 <;> simp [poly]
  rw [h] at h31
  have h0 : x.getLsbD 0 = false := by rw [← h31]; simp
  unfold step at h
  rw [h0] at h
  simp only [Bool.false_eq_true, if_false, BitVec.xor_zero] at h
  refine BitVec.eq_of_getLsbD_eq fun i hi => ?_
  cases i with
  | zero => simpa using h0
  | succ i =>
    have := congrArg (fun z => z.getLsbD i) h
    simp only [BitVec.getLsbD_ushiftRight] at this
    rw [show i + 1 = 1 + i by omega, this]; simp
theorem stepN_inj0 (n : Nat) : ∀ {x}, stepN n x = 0#32 → x = 0#32 := by
  induction n with
  | zero => intro x h; exact h
  | succ n ih => intro x h; exact step_inj (ih h)
theorem stepN_inj (n : Nat) {x y : BitVec 32} (h : stepN n x = stepN n y) : x = y := by
  have := stepN_inj0 n (x := x ^^^ y) (by rw [stepN_xor, h, BitVec.xor_self])
  have h2 : (x ^^^ y) ^^^ y = 0#32 ^^^ y := by rw [this]
  rwa [BitVec.xor_assoc, BitVec.xor_self, BitVec.xor_zero, BitVec.zero_xor] at h2
/-- Four steps over a table: what is above goes down, what is below is looked up. -/
theorem stepN_low (n : Nat) : ∀ x : BitVec 32, (∀ i, i < n → x.getLsbD i = false) → stepN n x = x >>> n := by
  induction n with
  | zero => intro x _; simp [stepN]
  | succ n ih =>
    intro x h
    have h0 : step x = x >>> 1 := by unfold step; rw [h 0 (by omega)]; simp
    simp only [stepN]
    rw [h0, ih]
    · rw [← BitVec.shiftRight_add, Nat.add_comm]
    · intro i hi; rw [BitVec.getLsbD_ushiftRight]; exact h _ (by omega)
theorem stepN4 (x : BitVec 32) : stepN 4 x = (x >>> 4) ^^^ stepN 4 (x &&& 15#32) := by
  have hs : x = (x &&& ~~~15#32) ^^^ (x &&& 15#32) := by
    refine BitVec.eq_of_getLsbD_eq fun i hi => ?_
    simp only [BitVec.getLsbD_xor, BitVec.getLsbD_and, BitVec.getLsbD_not]
    cases x.getLsbD i <;> cases (15#32).getLsbD i <;> simp [hi]
  have hl : ∀ i, i < 4 → (x &&& ~~~15#32).getLsbD i = false := by
    intro i hi
    rw [BitVec.getLsbD_and, BitVec.getLsbD_not]
    match i, hi with
    | 0, _ => simp
    | 1, _ => simp
    | 2, _ => simp
    | 3, _ => simp
  have hr : (x &&& ~~~15#32) >>> 4 = x >>> 4 := by
    refine BitVec.eq_of_getLsbD_eq fun i hi => ?_
    rw [BitVec.getLsbD_ushiftRight, BitVec.getLsbD_ushiftRight, BitVec.getLsbD_and, BitVec.getLsbD_not]
    by_cases h : 4 + i < 32
    · have : (15#32).getLsbD (4 + i) = false := by
        have h2 : ∀ j, j < 32 → 4 ≤ j → (15#32).getLsbD j = false := by decide
        exact h2 _ h (by omega)
      rw [this]; simp [h]
    · rw [BitVec.getLsbD_of_ge x _ (by omega)]; simp
  calc stepN 4 x = stepN 4 ((x &&& ~~~15#32) ^^^ (x &&& 15#32)) := by rw [← hs]
    _ = stepN 4 (x &&& ~~~15#32) ^^^ stepN 4 (x &&& 15#32) := stepN_xor _ _ _
    _ = (x >>> 4) ^^^ stepN 4 (x &&& 15#32) := by rw [stepN_low 4 _ hl, hr]

/-! ### the model's numbers -/
theorem bits_bv (op : BinOp) (x y : BitVec 32) : bits op .u32 (x.toNat : Int) (y.toNat : Int) = ((match op with | .and => x &&& y | .or => x ||| y | .xor => x ^^^ y | _ => x &&& ~~~y).toNat : Int) := by
  unfold bits
  have hb : IntKind.u32.bits = 32 := rfl
  simp only [BitVec.ofInt_natCast]
  rw [IntKind.wrap_u32]
  show ((match op with | .and => BitVec.ofNat 32 x.toNat &&& BitVec.ofNat 32 y.toNat | .or => BitVec.ofNat 32 x.toNat ||| BitVec.ofNat 32 y.toNat | .xor => BitVec.ofNat 32 x.toNat ^^^ BitVec.ofNat 32 y.toNat | _ => BitVec.ofNat 32 x.toNat &&& ~~~BitVec.ofNat 32 y.toNat).toNat : Int) % 4294967296 = _
  have e : ∀ z : BitVec 32, BitVec.ofNat 32 z.toNat = z := fun z => BitVec.eq_of_toNat_eq (by simp)
  rw [e, e]
  have hlt : ∀ z : BitVec 32, (z.toNat : Int) % 4294967296 = z.toNat := fun z => by have := z.isLt; omega
  exact hlt _
theorem bits_xor (x y : BitVec 32) : bits .xor .u32 (x.toNat : Int) (y.toNat : Int) = ((x ^^^ y).toNat : Int) := bits_bv .xor x y
theorem bits_and (x y : BitVec 32) : bits .and .u32 (x.toNat : Int) (y.toNat : Int) = ((x &&& y).toNat : Int) := bits_bv .and x y
theorem shr_bv (x : BitVec 32) (n : Nat) : (x.toNat : Int) / (2 ^ n : Nat) = ((x >>> n).toNat : Int) := by
  rw [BitVec.toNat_ushiftRight, Nat.shiftRight_eq_div_pow]; rfl
end Go.Proofs.YtbfbajfdlkgloaaGreatDoor.Crc

/-
  The records of chapter 18 as plain bytes. No program in sight.
-/
namespace Go.Proofs.YtbfbajfdlkgloaaGreatDoor
namespace Rec
/-- x in so many bytes, the highest first. -/
def big (x : Nat) : Nat → List UInt8
  | 0 => []
  | n + 1 => UInt8.ofNat (x / 256 ^ n) :: big x n
def small (l : List UInt8) : Nat := l.foldl (fun x c => x * 256 + c.toNat) 0
theorem big_length (x n : Nat) : (big x n).length = n := by
  induction n with
  | zero => rfl
  | succ n ih => simp [big, ih]
theorem big_get (x : Nat) : ∀ (n i : Nat), i < n → (big x n).getD i 0 = UInt8.ofNat (x / 256 ^ (n - 1 - i))
  | n + 1, 0, _ => by simp [big]
  | n + 1, i + 1, h => by
    have := big_get x n i (by omega)
    show ((UInt8.ofNat _ :: big x n).getD (i + 1) 0) = _
    rw [List.getD_cons_succ, this]
    congr 3
    omega
def numB (x n : Nat) : ByteArray := ⟨(big x n).toArray⟩
theorem numB_size (x n : Nat) : (numB x n).size = n := by
  show (big x n).toArray.size = n
  simp [big_length]
def zeroB (n : Nat) : ByteArray := ⟨(List.replicate n (0 : UInt8)).toArray⟩
theorem zeroB_size (n : Nat) : (zeroB n).size = n := by
  show (List.replicate n (0 : UInt8)).toArray.size = n
  simp
def sumB (s : ByteArray) : Nat := (Crc.more 0#32 s.data.toList).toNat
theorem sumB_lt (s : ByteArray) : sumB s < 4294967296 := (Crc.more 0#32 s.data.toList).isLt
def sealB (s : ByteArray) : ByteArray := s ++ numB (sumB s) 4
theorem sealB_size (s : ByteArray) : (sealB s).size = s.size + 4 := by unfold sealB; rw [ByteArray.size_append, numB_size]
/-- A fold of digits. -/
theorem small_foldl (l : List UInt8) : ∀ x, l.foldl (fun x c => x * 256 + c.toNat) x = x * 256 ^ l.length + small l := by
  unfold small
  induction l with
  | nil => intro x; simp
  | cons c l ih =>
    intro x
    simp only [List.foldl_cons, List.length_cons]
    rw [ih, ih (0 * 256 + c.toNat)]
    rw [Nat.pow_succ, Nat.add_mul, Nat.zero_mul, Nat.zero_add, Nat.mul_assoc, Nat.mul_comm 256]
    omega
theorem small_cons (c : UInt8) (l : List UInt8) : small (c :: l) = c.toNat * 256 ^ l.length + small l := by
  show (c :: l).foldl _ 0 = _
  rw [List.foldl_cons, small_foldl, Nat.zero_mul, Nat.zero_add]
theorem small_append (l m : List UInt8) : small (l ++ m) = small l * 256 ^ m.length + small m := by
  show (l ++ m).foldl _ 0 = _
  rw [List.foldl_append, small_foldl]; rfl
theorem small_lt (l : List UInt8) : small l < 256 ^ l.length := by
  induction l with
  | nil => decide
  | cons c l ih =>
    rw [small_cons, List.length_cons, Nat.pow_succ]
    have := c.toNat_lt
    have h2 : c.toNat * 256 ^ l.length ≤ 255 * 256 ^ l.length := Nat.mul_le_mul_right _ (by omega)
    omega
theorem small_snoc (l : List UInt8) (c : UInt8) : small (l ++ [c]) = small l * 256 + c.toNat := by
  rw [small_append]; simp [small_cons, show small [] = 0 from rfl]
theorem big_small (l : List UInt8) : big (small l) l.length = l := by
  have key : ∀ (l : List UInt8) (k : Nat), big (small l + k * 256 ^ l.length) l.length = l := by
    intro l
    induction l with
    | nil => intro k; rfl
    | cons c l ih =>
      intro k
      rw [List.length_cons, small_cons]
      show _ :: _ = _
      congr 1
      · have h1 := small_lt l
        have h2 : (c.toNat * 256 ^ l.length + small l + k * 256 ^ (l.length + 1)) = small l + (c.toNat + k * 256) * 256 ^ l.length := by
          rw [Nat.pow_succ, Nat.add_mul, Nat.mul_assoc k, Nat.mul_comm 256]; omega
        rw [h2, Nat.add_mul_div_right _ _ (Nat.pow_pos (by decide)), Nat.div_eq_of_lt h1, Nat.zero_add]
        apply UInt8.toNat_inj.1
        rw [UInt8.toNat_ofNat']
        have := c.toNat_lt
        omega
      · have h2 : (c.toNat * 256 ^ l.length + small l + k * 256 ^ (l.length + 1)) = small l + (c.toNat + k * 256) * 256 ^ l.length := by
          rw [Nat.pow_succ, Nat.add_mul, Nat.mul_assoc k, Nat.mul_comm 256]; omega
        rw [h2]; exact ih _
  simpa using key l 0
theorem small_big (x : Nat) : ∀ n, small (big x n) = x % 256 ^ n
  | 0 => by rw [Nat.pow_zero, Nat.mod_one]; rfl
  | n + 1 => by
    show small (UInt8.ofNat (x / 256 ^ n) :: big x n) = _
    rw [small_cons, big_length, small_big x n, UInt8.toNat_ofNat']
    have h := @Nat.mod_mul (256 ^ n) 256 x
    rw [show 256 ^ (n + 1) = 256 ^ n * 256 from rfl, h, show (2 : Nat) ^ 8 = 256 from rfl, Nat.mul_comm]
    omega
theorem big_mod (x : Nat) (n : Nat) : big (x % 256 ^ n) n = big x n := by
  have := big_small (big x n)
  rwa [big_length, small_big] at this
end Rec
end Go.Proofs.YtbfbajfdlkgloaaGreatDoor
