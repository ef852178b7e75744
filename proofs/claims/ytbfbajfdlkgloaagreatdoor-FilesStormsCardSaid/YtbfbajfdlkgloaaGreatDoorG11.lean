/-
  The walks of crc.More, crc.Of and massifref05's.
-/
import Derived.Test.YtbfbajfdlkgloaaGreatDoorProg
import Derived.Test.YtbfbajfdlkgloaaGreatDoorG10
import Derived.Test.YtbfbajfdlkgloaaGreatDoorG00
import Derived.WalkKit
import Derived.Deep.LoopGhost
import Derived.KernelRfl
import Derived.Test.YtbfbajfdlkgloaaGreatDoorG07
import Derived.Deep.Cut
import Derived.Laws.Strings2

namespace Go.Proofs.YtbfbajfdlkgloaaGreatDoor
open Go.RowKit
namespace Crc
def tabA (k : Nat) : Array Value := ((List.range 16).map fun j => if j < k then Value.int .u32 ((stepN 4 (BitVec.ofNat 32 j)).toNat : Int) else .int .u32 0).toArray
theorem tab_get (k : Nat) (j : Nat) (hk : j < 16) (hj : j < k) : (tabA k)[j]? = some (.int .u32 ((stepN 4 (BitVec.ofNat 32 j)).toNat : Int)) := by
  simp [tabA, hk, hj]
theorem tab_set (k : Nat) (_hk : k < 16) : (tabA k).setIfInBounds k (.int .u32 ((stepN 4 (BitVec.ofNat 32 k)).toNat : Int)) = tabA (k + 1) := by
  apply Array.ext
  · simp [tabA]
  · intro i h1 h2
    have h3 : i < 16 := by simpa [tabA] using h2
    rw [Array.getElem_setIfInBounds (by simpa using h1)]
    by_cases e : k = i
    · subst e; simp [tabA]
    · rw [if_neg e]
      simp only [tabA, List.getElem_toArray, List.getElem_map, List.getElem_range]
      by_cases hlt : i < k
      · rw [if_pos hlt, if_pos (by omega)]
      · rw [if_neg hlt, if_neg (by omega)]
theorem and15 (y : BitVec 32) : (y &&& 15#32).toNat < 16 := by
  rw [BitVec.toNat_and]
  exact Nat.lt_of_le_of_lt Nat.and_le_right (by decide)
theorem bv_lt (x : BitVec 32) : 0 ≤ (x.toNat : Int) ∧ (x.toNat : Int) < 4294967296 := by have := x.isLt; omega
theorem half (x : BitVec 32) : (x.toNat : Int) / (2 : Int) = ((x >>> 1).toNat : Int) := shr_bv x 1
theorem sixteenth (x : BitVec 32) : (x.toNat : Int) / (16 : Int) = ((x >>> 4).toNat : Int) := shr_bv x 4
theorem xor_poly (x : BitVec 32) : bits .xor .u32 ((x.toNat : Int) / 2) 2197175160 = ((x >>> 1 ^^^ poly).toNat : Int) := by
  rw [half]
  exact bits_xor (x >>> 1) poly
theorem and_one (x : BitVec 32) : bits .and .u32 (x.toNat : Int) 1 = if x.getLsbD 0 then 1 else 0 := by
  rw [show (1 : Int) = ((1#32).toNat : Int) from rfl, bits_and, show x &&& 1#32 = if x.getLsbD 0 then 1#32 else 0#32 from ?_]
  · split <;> rfl
  · refine BitVec.eq_of_getLsbD_eq fun i hi => ?_
    cases i with
    | zero => rw [BitVec.getLsbD_and]; cases h : x.getLsbD 0 <;> simp
    | succ i => cases h : x.getLsbD 0 <;> simp
theorem step_of_one {x : BitVec 32} (h : (bits .and .u32 (x.toNat : Int) 1 == 1) = true) : bits .xor .u32 ((x.toNat : Int) / 2) 2197175160 = ((step x).toNat : Int) := by
  rw [and_one] at h
  rw [xor_poly]; unfold Crc.step
  cases hx : x.getLsbD 0
  · rw [hx] at h; simp at h
  · rfl
theorem step_of_not {x : BitVec 32} (h : (bits .and .u32 (x.toNat : Int) 1 == 1) = false) : (x.toNat : Int) / 2 = ((step x).toNat : Int) := by
  rw [and_one] at h
  rw [half]; unfold Crc.step
  cases hx : x.getLsbD 0
  · simp
  · rw [hx] at h; simp at h
theorem not_bv (x : BitVec 32) : bits .xor .u32 (IntKind.max .u32) (x.toNat : Int) = ((~~~ x).toNat : Int) := by
  rw [show IntKind.max .u32 = ((BitVec.allOnes 32).toNat : Int) from rfl, bits_xor, BitVec.allOnes_xor]
theorem nib_bv (x : BitVec 32) : bits .xor .u32 ((x.toNat : Int) / 16) (((stepN 4 (x &&& 15#32)).toNat : Int)) = ((stepN 4 x).toNat : Int) := by
  rw [sixteenth, bits_xor, ← stepN4]
theorem byte_bv (x : BitVec 32) (b : UInt8) : bits .xor .u32 (x.toNat : Int) ((b.toNat : Int) % 4294967296) = ((x ^^^ bv8 b).toNat : Int) := by
  have hb : b.toNat < 256 := b.toNat_lt
  rw [show ((b.toNat : Int) % 4294967296) = ((bv8 b).toNat : Int) by simp [bv8]; omega, bits_xor]
theorem drop_cons (s : ByteArray) (j : Nat) (h : j < s.size) : s.data.toList.drop j = s[j] :: s.data.toList.drop (j + 1) := by
  rw [List.drop_eq_getElem_cons (by simpa using h)]; rfl
theorem fold_drop (s : ByteArray) (j : Nat) (h : j < s.size) (x : BitVec 32) : fold x (s.data.toList.drop j) = fold (byteStep x s[j]) (s.data.toList.drop (j + 1)) := by
  rw [drop_cons s j h]; rfl
theorem int_u32 {a b : Int} (h : a = b) : Value.int .u32 a = Value.int .u32 b := by rw [h]
theorem ret_u32 {a b : Int} (h : a = b) : Ending.returned (.int .u32 a) = .returned (.int .u32 b) := by rw [h]
/-- The table's number, of an Int. -/
def tabI (i : Int) : Int := ((stepN 4 (BitVec.ofInt 32 i)).toNat : Int)
theorem tabI_of (y : BitVec 32) : tabI ((y.toNat : Int)) = ((stepN 4 y).toNat : Int) := by
  unfold tabI; rw [BitVec.ofInt_natCast]
  congr 3
  exact BitVec.eq_of_toNat_eq (by simp)
theorem tabI_nat (j : Nat) : tabI (j : Int) = ((stepN 4 (BitVec.ofNat 32 j)).toNat : Int) := by unfold tabI; rw [BitVec.ofInt_natCast]
/-- What Go reckons of a nibble. -/
def nibI (x : Int) : Int := bits .xor .u32 (x / 16) (tabI (bits .and .u32 x 15))
theorem nibI_of (x : BitVec 32) : nibI (x.toNat : Int) = ((stepN 4 x).toNat : Int) := by
  unfold nibI
  rw [show bits .and .u32 (x.toNat : Int) 15 = ((x &&& 15#32).toNat : Int) from bits_and x 15#32, tabI_of, nib_bv]
theorem and15_I (x : Int) : 0 ≤ bits .and .u32 x 15 ∧ bits .and .u32 x 15 < 16 := by
  unfold bits
  rw [IntKind.wrap_u32]
  have h : (BitVec.ofInt 32 x &&& 15#32).toNat < 16 := and15 _
  show 0 ≤ ((BitVec.ofInt 32 x &&& 15#32).toNat : Int) % 4294967296 ∧ ((BitVec.ofInt 32 x &&& 15#32).toNat : Int) % 4294967296 < 16
  omega
theorem cell_I {w : World} {B T : Nat} (hh : w.heap[B]? = some (.cells (tabA 16) T)) (y : Int) : w.cell? ⟨B, (bits .and .u32 y 15).toNat, none⟩ = some (.int .u32 (tabI (bits .and .u32 y 15))) := by
  have h := and15_I y
  obtain ⟨n, hn⟩ : ∃ n : Nat, bits .and .u32 y 15 = n := ⟨(bits .and .u32 y 15).toNat, by omega⟩
  rw [hn] at h ⊢
  rw [cell_blk hh, Int.toNat_natCast, tab_get 16 n (by omega) (by omega), tabI_nat]
theorem byteI_of (x : BitVec 32) (b : UInt8) : nibI (nibI (bits .xor .u32 (x.toNat : Int) ((b.toNat : Int) % 4294967296))) = ((byteStep x b).toNat : Int) := by
  rw [byte_bv, nibI_of, nibI_of]; unfold byteStep; rw [show 8 = 4 + 4 from rfl, stepN_add]
end Crc
open Crc (tabA tab_get tab_set bv_lt step_of_one step_of_not not_bv fold_drop int_u32 ret_u32 tabI nibI)

set_option maxHeartbeats 1600000 in
set_option maxRecDepth 100000 in
theorem more_any (c : BitVec 32) (s : ByteArray) (w : World) (hs : s.size ≤ 9223372036854775807) :
    Calls Tryz.prog 102 #[.int .u32 (c.toNat : Int), .string s] w fun e w' => e = .returned (.int .u32 ((Crc.more c s.data.toList).toNat : Int)) ∧ Below w.heap.size w w' := by
  have hc1 := bv_lt c
  go_enter Tryz.func102, Tryz.ntmps102
  go_wp2
  go_loopg [10] 16 (fun g v10 wr => ∃ k : Nat, k ≤ 16 ∧ g = 16 - k ∧ v10 = .int .i64 k ∧ wr.heap[w.heap.size]? = some (.cells (tabA k) 180) ∧ Below w.heap.size w wr)
  case atStart => 
    exact ⟨0, by omega, rfl, rfl, alloc_at _ _, (Below.refl _ _).alloc (Nat.le_refl _) _⟩
  case round =>
    obtain ⟨k, hk, rfl, rfl, hh, hb⟩ := hrel
    by_cases hlt : k < 16
    · have hk' : (k : Int) < 16 := by omega
      have HH : Hid (wr.heap[w.heap.size]? = some (.cells (tabA k) 180) ∧ Below w.heap.size w wr) := ⟨hh, hb⟩
      have hc : ∃ v, wr.cell? ⟨w.heap.size, k, none⟩ = some v := ⟨_, by rw [cell_blk hh]; simp [tabA, hlt]; rfl⟩
      obtain ⟨v0, hc⟩ := hc
      have hf : wr.frozen? ⟨w.heap.size, k, none⟩ = false := frozen_blk hh k
      clear hh hb
      go_wp2
      go_loopg [7, 15] 4 (fun g v7 v15 wq => wq = wr ∧ ∃ (j : Nat) (xi : Int), g = 4 - j ∧ j ≤ 4 ∧ v15 = .int .i64 j ∧ v7 = .int .u32 xi ∧ 0 ≤ xi ∧ xi < 4294967296 ∧ Hid (∃ x : BitVec 32, xi = x.toNat ∧ Crc.stepN (4 - j) x = Crc.stepN 4 (BitVec.ofNat 32 k)))
      case atStart => exact ⟨rfl, 0, k, rfl, by omega, rfl, rfl, by omega, by omega, BitVec.ofNat 32 k, (by simp; omega), rfl⟩
      case round =>
        obtain ⟨rfl, j, xi, rfl, hj, rfl, rfl, hx0, hx1, HX⟩ := hrel
        by_cases hj4 : j < 4
        · go_wp2
          · have hb1 : (bits .and .u32 xi 1 == 1) = true := by assumption
            obtain ⟨x, rfl, hx⟩ := HX.out
            rw [show 4 - j = (4 - (j + 1)) + 1 by omega] at hx
            go_roundg (4 - (j + 1))
            case measure => omega
            case rel =>
              refine ⟨rfl, j + 1, _, rfl, by omega, by go_num, int_u32 (step_of_one hb1), (bv_lt _).1, (bv_lt _).2, _, rfl, hx⟩
          · have hb1 : (bits .and .u32 xi 1 == 1) = false := by assumption
            obtain ⟨x, rfl, hx⟩ := HX.out
            rw [show 4 - j = (4 - (j + 1)) + 1 by omega] at hx
            go_roundg (4 - (j + 1))
            case measure => omega
            case rel =>
              refine ⟨rfl, j + 1, _, rfl, by omega, by go_num, int_u32 (step_of_not hb1), (bv_lt _).1, (bv_lt _).2, _, rfl, hx⟩
        · have hj' : j = 4 := by omega
          subst hj'
          go_wp2
          go_roundg (16 - (k + 1))
          case measure => omega
          case rel =>
            obtain ⟨hh, hb⟩ := HH.out
            refine ⟨k + 1, by omega, rfl, by go_num, ?_, hb.setCell (Nat.le_refl _) _⟩
            obtain ⟨x, rfl, hx⟩ := HX.out
            have hx : x = Crc.stepN 4 (BitVec.ofNat 32 k) := hx
            rw [heap_setCell_same _ _ _ _ _ _ hh, hx, tab_set k hlt]
    · have hk' : k = 16 := by omega
      subst hk'
      have hand := Crc.and15_I
      have hcell := Crc.cell_I hh
      have HH : Hid _ := hb
      clear hh hb
      go_wp2
      go_loopg [8, 34] s.size (fun g v8 v34 wq => wq = wr ∧ ∃ (j : Nat) (xi : Int), g = s.size - j ∧ j ≤ s.size ∧ v34 = .int .i64 j ∧ v8 = .int .u32 xi ∧ Hid (∃ x : BitVec 32, xi = x.toNat ∧ Crc.fold x (s.data.toList.drop j) = Crc.fold (~~~ c) s.data.toList))
      case atStart => exact ⟨rfl, 0, _, rfl, by omega, rfl, rfl, ~~~c, not_bv c, rfl⟩
      case round => 
        obtain ⟨rfl, j, xi, rfl, hj, rfl, rfl, HX⟩ := hrel
        by_cases hjs : j < s.size
        · have HF : Hid _ := fold_drop s j hjs
          go_wp2
          go_roundg (s.size - (j + 1))
          case measure => omega
          case rel =>
            obtain ⟨x, rfl, hx⟩ := HX.out
            exact ⟨rfl, j + 1, _, rfl, by omega, by go_num, rfl, _, Crc.byteI_of x _, (HF.out x).symm.trans hx⟩
        · have HJ : Hid (j = s.size) := by unfold Hid; omega
          go_wp2
          go_ret
          obtain ⟨x, rfl, hx⟩ := HX.out
          refine ⟨ret_u32 ?_, HH.out⟩
          rw [HJ.out, List.drop_of_length_le (by simp)] at hx
          unfold Crc.more; rw [← hx]; exact not_bv x

set_option maxHeartbeats 1600000 in
set_option maxRecDepth 100000 in
theorem of_any (v : Value) (ps : List ByteArray) (w : World) (hv : SlV w v (ps.map Value.string)) (hn : ps.length ≤ 140737488351232) (hs : ∀ p ∈ ps, p.size ≤ 9223372036854775807) :
    Calls Tryz.prog 101 #[v] w fun e w' => e = .returned (.int .u32 ((Crc.ofParts 0#32 (ps.map bytesOf)).toNat : Int)) ∧ Below w.heap.size w w' := by
  obtain ⟨len, a, cap, hlen, rfl, _, HC⟩ := hv.form
  rw [List.length_map] at hlen
  have HH : Hid _ := hlen
  clear hv hlen
  have HS : Hid _ := hs
  clear hs
  have hl : len ≤ 140737488351232 := by rw [HH.out]; exact hn
  clear hn
  have HC' : Hid _ := HC
  clear HC
  go_enter Tryz.func101, Tryz.ntmps101
  go_wp2
  go_loopg [3, 8] len (fun g v3 v8 wr => ∃ (k : Nat) (xi : Int), k ≤ len ∧ g = len - k ∧ v8 = .int .i64 k ∧ v3 = .int .u32 xi ∧ Hid (∃ x : BitVec 32, xi = x.toNat ∧ Crc.ofParts x ((ps.map bytesOf).drop k) = Crc.ofParts 0#32 (ps.map bytesOf)) ∧ Below w.heap.size w wr)
  case atStart => exact ⟨0, 0, by omega, rfl, rfl, rfl, ⟨0#32, rfl, rfl⟩, Below.refl _ _⟩
  case round =>
    obtain ⟨k, xi, hk, rfl, rfl, rfl, HX, hb⟩ := hrel
    by_cases hlt : k < len
    · obtain ⟨b, off, rfl, hbw, hcell⟩ := HC'.out k hlt
      have hcell : wr.cell? ⟨b, off + k, none⟩ = some (.string (ps.getD k ByteArray.empty)) := by rw [hb.cell (p := ⟨b, off + k, none⟩) hbw, hcell, getD_map _ _ _ _ (by rw [← HH.out]; exact hlt)]
      obtain ⟨s, hsk⟩ : ∃ s, s = ps.getD k ByteArray.empty := ⟨_, rfl⟩
      rw [← hsk] at hcell
      have HK : Hid _ := hsk
      clear hsk
      obtain ⟨x, rfl, hx⟩ := HX.out
      have HX' : Hid _ := hx
      clear hx HX
      have hkl : k < ps.length := by rw [← HH.out]; exact hlt
      have hss : s.size ≤ 9223372036854775807 := HS.out s (by rw [HK.out]; simp [List.getD, hkl])
      have HB : Hid _ := hb
      clear hb
      go_wp2_with (go_at_call 102; refine (more_any x s _ hss).mono ?_; rintro e w1 ⟨rfl, hb1⟩)
      go_roundg (len - (k + 1))
      case measure => omega
      case rel =>
        refine ⟨k + 1, _, by omega, rfl, by go_num, rfl, ⟨_, rfl, ?_⟩, HB.out.trans (hb1.mono HB.out.size)⟩
        rw [← HX'.out]
        rw [List.drop_eq_getElem_cons (i := k) (by simpa using hkl)]
        simp [Crc.ofParts, bytesOf, HK.out, List.getD, hkl]
    · have HJ : Hid (k = len) := by unfold Hid; omega
      have HB : Hid _ := hb
      clear hb
      go_wp2
      go_ret
      obtain ⟨x, rfl, hx⟩ := HX.out
      refine ⟨ret_u32 ?_, HB.out⟩
      rw [HJ.out, HH.out, List.drop_of_length_le (by simp)] at hx
      rw [← hx]; rfl
end Go.Proofs.YtbfbajfdlkgloaaGreatDoor

/-
  record.number, record.value: the walks.
-/
namespace Go.Proofs.YtbfbajfdlkgloaaGreatDoor
open Go.RowKit
theorem info_u8 : (Tryz.prog.info? 5).map (fun i => (i.zero, i.size, i.bytes)) = some (some (.int .u8 0), 1, 1) := by kernel_rfl
/-- The first i bytes are laid. -/
def laidTo (x n i : Nat) : List Value := ((Rec.big x n).take i).map byteV ++ List.replicate (n - i) (.int .u8 0)
theorem laidTo_length (x n i : Nat) (h : i ≤ n) : (laidTo x n i).length = n := by
  unfold laidTo
  simp [Rec.big_length]; omega
theorem laidTo_set (x n i : Nat) (h : i < n) : (laidTo x n i).set i (byteV (UInt8.ofNat (x / 256 ^ (n - 1 - i)))) = laidTo x n (i + 1) := by
  have hl : (((Rec.big x n).take i).map byteV).length = i := by simp [Rec.big_length]; omega
  unfold laidTo
  rw [List.set_append_right _ _ (by omega), hl, Nat.sub_self]
  obtain ⟨m, hm⟩ : ∃ m, n - i = m + 1 := ⟨n - i - 1, by omega⟩
  rw [hm, show n - (i + 1) = m by omega, List.replicate_succ, List.set_cons_zero]
  have hg := Rec.big_get x n i h
  have hlt : i < (Rec.big x n).length := by rw [Rec.big_length]; exact h
  rw [List.take_succ_eq_append_getElem hlt, List.map_append, List.append_assoc]
  congr 1
  rw [← hg]
  simp [List.getD, hlt]
theorem laidTo_all (x n : Nat) : laidTo x n n = (Rec.big x n).map byteV := by
  unfold laidTo
  rw [Nat.sub_self, List.replicate_zero, List.append_nil, List.take_of_length_le (by rw [Rec.big_length]; exact Nat.le_refl _)]
theorem shr_bytes (x n i : Nat) (hx : x < 18446744073709551616) (hin : i < n) : Op.shift .shr .u64 (x : Int) .i64 (8 * ((n : Int) - 1 - i)) = pure (.int .u64 ((x / 256 ^ (n - 1 - i) : Nat) : Int)) := by
  have hy : (8 * ((n : Int) - 1 - i)) = ((8 * (n - 1 - i) : Nat) : Int) := by omega
  rw [hy]
  generalize n - 1 - i = m
  unfold Op.shift
  rw [if_neg (by omega)]
  show pure (Value.int .u64 ((x : Int).fdiv (2 ^ min ((8 * m : Nat) : Int).toNat 64))) = _
  rw [Int.toNat_natCast]
  have h2 : ((2 : Int) ^ min (8 * m) 64) = ((2 ^ min (8 * m) 64 : Nat) : Int) := by simp
  have h3 : (x : Int).fdiv ((2 ^ min (8 * m) 64 : Nat) : Int) = ((x / 2 ^ min (8 * m) 64 : Nat) : Int) := by
    rw [Int.fdiv_eq_ediv_of_nonneg _ (Int.natCast_nonneg _)]; rfl
  rw [h2, h3]
  congr 3
  have h4 : 256 ^ m = 2 ^ (8 * m) := by rw [Nat.pow_mul]
  rw [h4]
  rcases Nat.lt_or_ge (8 * m) 64 with h | h
  · rw [Nat.min_eq_left (Nat.le_of_lt h)]
  · rw [Nat.min_eq_right h, Nat.div_eq_of_lt (show x < 2 ^ 64 from hx), Nat.div_eq_of_lt (show x < 2 ^ (8 * m) from Nat.lt_of_lt_of_le hx (Nat.pow_le_pow_right (show 0 < 2 by decide) h))]
theorem byte_of (x m : Nat) : Value.int .u8 ((x : Int) / 256 ^ m % 256) = byteV (UInt8.ofNat (x / 256 ^ m)) := by
  unfold byteV
  rw [UInt8.toNat_ofNat']
  have h : (256 : Int) ^ m = ((256 ^ m : Nat) : Int) := by simp
  rw [h]
  rfl
theorem or_byte (x : Nat) (c : UInt8) (hx : x < 2 ^ 56) : bits .or .u64 ((x : Int) * 256) (c.toNat : Int) = ((x * 256 + c.toNat : Nat) : Int) := by
  have hc := c.toNat_lt
  have p64 : (2 : Nat) ^ 64 = 18446744073709551616 := rfl
  have hx : x < 72057594037927936 := hx
  unfold bits
  rw [IntKind.wrap_u64]
  have e1 : ((x : Int) * 256) = ((x * 256 : Nat) : Int) := by omega
  rw [e1]
  simp only [BitVec.ofInt_natCast]
  show ((BitVec.ofNat 64 (x * 256) ||| BitVec.ofNat 64 c.toNat).toNat : Int) % 18446744073709551616 = _
  rw [BitVec.toNat_or, BitVec.toNat_ofNat, BitVec.toNat_ofNat, p64, Nat.mod_eq_of_lt (show x * 256 < 18446744073709551616 by omega), Nat.mod_eq_of_lt (show c.toNat < 18446744073709551616 by omega)]
  have h2 := Nat.two_pow_add_eq_or_of_lt (i := 8) (b := c.toNat) (by omega) x
  rw [show x * 256 = 2 ^ 8 * x by omega, ← h2]
  omega
theorem pow256_le {i : Nat} (h : i ≤ 7) : 256 ^ i ≤ 2 ^ 56 := by
  have : 256 ^ i ≤ 256 ^ 7 := Nat.pow_le_pow_right (by decide) h
  omega
set_option maxHeartbeats 1600000 in
set_option maxRecDepth 100000 in
theorem number_any (x n : Nat) (w : World) (hx : x < 18446744073709551616) (hn : n ≤ 1000) :
    Calls Tryz.prog 100 #[.int .u64 (x : Int), .int .i64 (n : Int)] w fun e w' => e = .returned (.string (Rec.numB x n)) ∧ Below w.heap.size w w' := by
  go_enter Tryz.func100, Tryz.ntmps100
  go_wp2_with (at_make; refine wpList_make_arr rfl _ _ 46 rfl 5 _ 1 Tryz.underlying46 info_u8 rfl .i64 .i64 _ _ n rfl rfl rfl rfl ?_ ?_ ?_)
  · omega
  · unfold maxLen; omega
  · intro w1 HA hb1
    have HB := hide hb1
    clear hb1
    go_wp2_with fail
    go_loopg [11] n (fun g v11 wr => ∃ i : Nat, i ≤ n ∧ g = n - i ∧ v11 = .int .i64 i ∧ Hid (Arr wr w.heap.size 5 (laidTo x n i) ∧ Below w.heap.size w wr))
    case atStart => exact ⟨0, by omega, rfl, rfl, HA.out, HB.out⟩
    case round =>
      obtain ⟨i, hi, rfl, rfl, HR⟩ := hrel
      by_cases hin : i < n
      · have hc := HR.out.1.cell i (by rw [laidTo_length _ _ _ hi]; exact hin)
        have hf := HR.out.1.frozen i (by rw [laidTo_length _ _ _ hi]; exact hin)
        generalize (laidTo x n i).getD i undef = was at hc
        have hsh := shr_bytes x n i hx hin
        go_wp2
        go_roundg (n - (i + 1))
        case measure => omega
        case rel =>
          refine ⟨i + 1, by omega, rfl, by go_num, ?_, HR.out.2.setCell (Nat.le_refl _) _⟩
          have h := HR.out.1.set i (by rw [laidTo_length _ _ _ hi]; exact hin) (byteV (UInt8.ofNat (x / 256 ^ (n - 1 - i))))
          rw [laidTo_set x n i hin] at h
          rw [byte_of]
          exact h
      · have hi' : i = n := by omega
        subst hi'
        have hs := HR.out.1.slv (n := i) (cap := i) (laidTo_length x i i (Nat.le_refl _)).symm (Nat.le_refl _)
        rw [laidTo_all] at hs
        have hcs := run_bytes_string (P := Tryz.prog) (w := wr) 46 9 5 Tryz.underlying46 Tryz.underlying5 Tryz.underlying9 hs
        have HB2 := hide HR.out.2
        clear hs HR
        go_wp2
        go_ret
        exact ⟨rfl, HB2.out⟩
set_option maxHeartbeats 1600000 in
set_option maxRecDepth 100000 in
theorem value_same (v : Value) (l : List UInt8) (w : World) (hv : SlV w v (l.map byteV)) (hl : l.length ≤ 8) :
    Calls Tryz.prog 113 #[v] w fun e w' => e = .returned (.int .u64 (Rec.small l : Int)) ∧ w' = w := by
  obtain ⟨len, a, cap, hlen, rfl, hcap, hf⟩ := hv.form
  rw [List.length_map] at hlen
  have HL := hide hlen
  have hl8 : len ≤ 8 := by omega
  have HF := hide hf
  clear hv hf hlen
  go_enter Tryz.func113, Tryz.ntmps113
  go_wp2
  go_loopg [3, 8] len (fun g v3 v8 wr => wr = w ∧ ∃ (i : Nat) (xi : Nat), i ≤ len ∧ g = len - i ∧ v8 = .int .i64 i ∧ v3 = .int .u64 xi ∧ Hid (xi = Rec.small (l.take i)))
  case atStart => exact ⟨rfl, 0, 0, by omega, rfl, rfl, rfl, rfl⟩
  case round =>
    obtain ⟨rfl, i, xi, hi, rfl, rfl, rfl, HX⟩ := hrel
    by_cases hin : i < len
    · obtain ⟨b, off, rfl, hb, hcell⟩ := HF.out i hin
      have hil : i < l.length := by rw [← HL.out]; exact hin
      rw [getD_map _ _ _ 0 hil] at hcell
      obtain ⟨c, hc⟩ : ∃ c, c = l.getD i 0 := ⟨_, rfl⟩
      rw [← hc] at hcell
      unfold byteV at hcell
      have hx : xi < 2 ^ 56 := by
        rw [HX.out]
        have h1 := Rec.small_lt (l.take i)
        rw [List.length_take_of_le (by omega)] at h1
        exact Nat.lt_of_lt_of_le h1 (pow256_le (by omega))
      have HOR := or_byte xi c hx
      have hx2 : (xi : Int) < 72057594037927936 := by omega
      clear hx
      have HC := hide hc
      clear hc
      go_wp2
      go_roundg (len - (i + 1))
      case measure => omega
      case rel =>
        refine ⟨rfl, i + 1, xi * 256 + c.toNat, by omega, rfl, by go_num, by rw [show IntKind.u64.wrap (c.toNat : Int) = c.toNat by rw [IntKind.wrap_u64]; have := c.toNat_lt; omega, HOR], ?_⟩
        unfold Hid
        rw [List.take_succ_eq_append_getElem hil, Rec.small_snoc, ← HX.out, HC.out]
        simp [List.getD, hil]
    · have hi' : i = len := by omega
      subst hi'
      go_wp2
      go_ret
      refine ⟨congrArg (fun z : Nat => Ending.returned (.int .u64 (z : Int))) (a₁ := xi) ?_, rfl⟩
      rw [HX.out, List.take_of_length_le (by rw [← HL.out]; exact Nat.le_refl _)]
theorem value_any (v : Value) (l : List UInt8) (w : World) (hv : SlV w v (l.map byteV)) (hl : l.length ≤ 8) :
    Calls Tryz.prog 113 #[v] w fun e w' => e = .returned (.int .u64 (Rec.small l : Int)) ∧ Below w.heap.size w w' :=
  (value_same v l w hv hl).mono fun _ _ ⟨h1, h2⟩ => ⟨h1, h2 ▸ Below.refl _ _⟩
theorem value_val (v : Value) (l : List UInt8) (n : Nat) (w : World) (hv : SlV w v (l.map byteV)) (hl : l.length ≤ 8) (hn : n = Rec.small l) :
    Calls Tryz.prog 113 #[v] w fun e w' => e = .returned (.int .u64 (n : Int)) ∧ w' = w := by
  rw [hn]; exact value_same v l w hv hl
end Go.Proofs.YtbfbajfdlkgloaaGreatDoor

/-
  record.sealed, whole, Payload, ReadPayload: the walks.
-/
namespace Go.Proofs.YtbfbajfdlkgloaaGreatDoor
open Go.RowKit
namespace Rec
def wholeB (s : ByteArray) : Bool := (sealB (s.extract 0 (s.size - 4))).toList == s.toList
def payB (item : ByteArray) : ByteArray := if 1048576 < item.size then ⟨#[]⟩ else sealB (numB item.size 4 ++ item)
/-- What is read of a payload's record: the item and how long the record is. -/
def readPayB (s : ByteArray) : Option (ByteArray × Nat) :=
  if s.size < 4 then none
  else if 1048576 < small (bytesOf (s.extract 0 4)) ∨ s.size < small (bytesOf (s.extract 0 4)) + 8 then none
  else if wholeB (s.extract 0 (small (bytesOf (s.extract 0 4)) + 8)) then some (s.extract 4 (small (bytesOf (s.extract 0 4)) + 4), small (bytesOf (s.extract 0 4)) + 8) else none
def payV : Option (ByteArray × Nat) → Value
  | none => .tuple #[.string ⟨#[]⟩, .int .i64 0, .int .i64 180]
  | some (x, n) => .tuple #[.string x, .int .i64 n, .int .i64 0]
end Rec
theorem of_one (v : Value) (s : ByteArray) (w : World) (hv : SlV w v [.string s]) (hs : s.size ≤ 9223372036854775807) :
    Calls Tryz.prog 101 #[v] w fun e w' => e = .returned (.int .u32 (Rec.sumB s : Int)) ∧ Below w.heap.size w w' :=
  of_any v [s] w hv (by simp) (by intro p hp; rw [List.mem_singleton.1 hp]; exact hs)
theorem below_new {w w1 : World} (h : Below w.heap.size w w1) {w2 : World} (o : Obj) (h2 : Below (w1.alloc o).heap.size (w1.alloc o) w2) : Below w.heap.size w w2 :=
  (h.alloc h.size o).trans (h2.mono (by simp; have := h.size; omega))
theorem below_bytes {w w1 : World} (h : Below w.heap.size w w1) {w2 : World} (o : Obj) (h2 : Below (w1.alloc o).drew.heap.size (w1.alloc o).drew w2) : Below w.heap.size w w2 :=
  (h.alloc h.size o).drew.trans (h2.mono (by show w.heap.size ≤ (w1.alloc o).heap.size; simp; have := h.size; omega))
theorem below_next {w w1 w2 : World} (h : Below w.heap.size w w1) (h2 : Below w1.heap.size w1 w2) : Below w.heap.size w w2 := h.trans (h2.mono h.size)
set_option maxHeartbeats 1600000 in
set_option maxRecDepth 100000 in
theorem sealed_any (s : ByteArray) (w : World) (hs : s.size ≤ 4611686018427387904) :
    Calls Tryz.prog 99 #[.string s] w fun e w' => e = .returned (.string (Rec.sealB s)) ∧ Below w.heap.size w w' := by
  obtain ⟨n, hn⟩ : ∃ n, n = Rec.sumB s := ⟨_, rfl⟩
  have hlt : n < 4294967296 := hn ▸ Rec.sumB_lt s
  have HN := hide hn
  clear hn
  obtain ⟨m, hm⟩ : ∃ m, m = Rec.numB n 4 := ⟨_, rfl⟩
  have hms : m.size = 4 := by rw [hm, Rec.numB_size]
  have HM := hide hm
  clear hm
  have hsum : s.size + m.size ≤ 9223372036854775807 := by omega
  go_enter Tryz.func99, Tryz.ntmps99
  go_wp2_with fail
  refine (of_one _ s _ (slv_new _ _ _ _ rfl) (by omega)).mono ?_
  rw [← HN.out]
  rintro e w1 ⟨rfl, hb1⟩
  have HB1 := hide (below_new (Below.refl _ w) _ hb1)
  clear hb1
  go_wp2_with fail
  refine (number_any n 4 _ (by omega) (by omega)).mono ?_
  rw [← HM.out]
  rintro e w2 ⟨rfl, hb2⟩
  have HB2 := hide (below_next HB1.out hb2)
  clear hb2
  go_wp2
  go_ret
  refine ⟨?_, HB2.out⟩
  rw [HM.out, HN.out]; rfl
set_option maxHeartbeats 1600000 in
set_option maxRecDepth 100000 in
theorem whole_any (s : ByteArray) (w : World) (hs : s.size ≤ 4611686018427387904) (h4 : 4 ≤ s.size) :
    Calls Tryz.prog 114 #[.string s] w fun e w' => e = .returned (.bool (Rec.wholeB s)) ∧ Below w.heap.size w w' := by
  have q0 : (0 : Int) ≤ (s.size : Int) - 4 := by omega
  have q1 : ((s.size : Int) - 4).toNat = s.size - 4 := by omega
  go_enter Tryz.func114, Tryz.ntmps114
  go_wp2_with fail
  refine (sealed_any _ _ (by rw [ByteArray.size_extract]; omega)).mono ?_
  rintro e w1 ⟨rfl, hb1⟩
  obtain ⟨m, hm⟩ : ∃ m, m = Rec.sealB (s.extract 0 (s.size - 4)) := ⟨_, rfl⟩
  rw [← hm]
  have HM := hide hm
  clear hm
  have HB1 := hide hb1
  clear hb1
  go_wp2
  go_ret
  refine ⟨?_, HB1.out⟩
  rw [HM.out]; rfl
set_option maxHeartbeats 1600000 in
set_option maxRecDepth 100000 in
theorem payload_any (s : ByteArray) (w : World) (hs : s.size ≤ 140737488351232) :
    Calls Tryz.prog 59 #[.string s] w fun e w' => e = .returned (.string (Rec.payB s)) ∧ Below w.heap.size w w' := by
  obtain ⟨m, hm⟩ : ∃ m, m = Rec.numB s.size 4 := ⟨_, rfl⟩
  have hms : m.size = 4 := by rw [hm, Rec.numB_size]
  have HM := hide hm
  clear hm
  have hsum : m.size + s.size ≤ 9223372036854775807 := by omega
  have hsum2 : (m ++ s).size ≤ 4611686018427387904 := by rw [ByteArray.size_append]; omega
  have HS := hide hsum2
  clear hsum2
  go_enter Tryz.func59, Tryz.ntmps59
  go_wp2_with fail
  · have h1 := (by assumption : 1048576 < (s.size : Int))
    go_ret
    refine ⟨?_, Below.refl _ _⟩
    unfold Rec.payB
    rw [if_pos (by omega)]
    rfl
  · have h1 := (by assumption : (s.size : Int) ≤ 1048576)
    refine (number_any s.size 4 _ (by omega) (by omega)).mono ?_
    rw [← HM.out]
    rintro e w1 ⟨rfl, hb1⟩
    have HB1 := hide hb1
    clear hb1
    go_wp2_with fail
    refine (sealed_any (m ++ s) _ HS.out).mono ?_
    rintro e w2 ⟨rfl, hb2⟩
    have HB2 := hide (below_next HB1.out hb2)
    clear hb2
    go_wp2_with fail
    go_ret
    refine ⟨?_, HB2.out⟩
    unfold Rec.payB
    rw [if_neg (by omega), ← HM.out]; rfl
set_option maxHeartbeats 1600000 in
set_option maxRecDepth 100000 in
theorem readPayload_any (s : ByteArray) (w : World) (hs : s.size ≤ 4611686018427387904) :
    Calls Tryz.prog 75 #[.string s] w fun e w' => e = .returned (Rec.payV (Rec.readPayB s)) ∧ Below w.heap.size w w' := by
  have hcv := fun w s => run_bytes_of_string (P := Tryz.prog) w 9 46 5 s Tryz.underlying9 Tryz.underlying46 Tryz.underlying5
  obtain ⟨r, hr⟩ : ∃ r, r = Rec.readPayB s := ⟨_, rfl⟩
  rw [← hr]
  have HR := hide hr
  clear hr
  go_enter Tryz.func75, Tryz.ntmps75
  by_cases h4 : s.size < 4
  · go_wp2_with fail
    go_ret3
    refine ⟨?_, Below.refl _ _⟩
    rw [HR.out]; unfold Rec.readPayB; rw [if_pos h4]; rfl
  · obtain ⟨k, hk⟩ : ∃ k, k = Rec.small (bytesOf (s.extract 0 4)) := ⟨_, rfl⟩
    have hklt : k < 4294967296 := by
      rw [hk]
      have h1 := Rec.small_lt (bytesOf (s.extract 0 4))
      have h2 : (bytesOf (s.extract 0 4)).length = 4 := by show (s.extract 0 4).data.toList.length = 4; simp; omega
      rw [h2] at h1
      exact h1
    have HK := hide hk
    clear hk
    have h4' : 4 ≤ s.size := by omega
    have hes : (s.extract 0 4).size = 4 := by rw [ByteArray.size_extract]; omega
    have HSL := hide (show ∀ cap : Nat, SlV ((w.alloc (Obj.cells (bytesRow (s.extract 0 4) cap) 5 ((bytesRow (s.extract 0 4) cap).size, (bytesRow (s.extract 0 4) cap).size + 1))).drew) (.slice (some ⟨w.heap.size, 0, none⟩) 4 4) ((bytesOf (s.extract 0 4)).map byteV) from fun cap =>
      Arr.slv (arr_bytes w (s.extract 0 4) cap 5) (by simp [bytesOf]; omega) (Nat.le_refl _))
    have HBL := hide (show (bytesOf (s.extract 0 4)).length ≤ 8 by simp [bytesOf]; omega)
    go_wp2_with fail
    · refine (value_any _ _ _ (HSL.out _) HBL.out).mono ?_
      rw [← HK.out]
      rintro e w1 ⟨rfl, hb1⟩
      have HB1 := hide (show Below w.heap.size w w1 from below_bytes (Below.refl _ w) _ hb1)
      clear hb1 hcv
      go_wp2_with fail
      · have h1 := (by assumption : 1048576 < (k : Int) ∨ (s.size : Int) < k + 8)
        go_ret3
        refine ⟨?_, HB1.out⟩
        rw [HR.out]; unfold Rec.readPayB
        rw [if_neg h4, ← HK.out, if_pos (by omega)]; rfl
      · have h1 := (by assumption : (k : Int) ≤ 1048576 ∧ (k : Int) + 8 ≤ s.size)
        refine (whole_any _ _ (by rw [ByteArray.size_extract]; omega) (by rw [ByteArray.size_extract]; omega)).mono ?_
        rintro e w2 ⟨rfl, hb2⟩
        have HB2 := hide (below_next HB1.out hb2)
        clear hb2
        obtain ⟨b, hb⟩ : ∃ b, b = Rec.wholeB (s.extract 0 (k + 8)) := ⟨_, rfl⟩
        rw [← hb]
        have HW := hide hb
        clear hb
        have hn4 : (k : Int) + 8 - 4 = (k : Int) + 4 := by omega
        have hsl := fun w => run_slice_string (P := Tryz.prog) w 9 s .i64 .i64 4 ((k : Int) + 4) Tryz.underlying9 (by omega) (by omega) (by omega)
        cases b with
        | false =>
          go_wp2_with fail
          go_ret3
          refine ⟨?_, HB2.out⟩
          rw [HR.out]; unfold Rec.readPayB
          rw [if_neg h4, ← HK.out, if_neg (by omega), ← HW.out]; rfl
        | true =>
          go_wp2_with fail
          go_ret3
          refine ⟨?_, HB2.out⟩
          rw [HR.out]; unfold Rec.readPayB
          rw [if_neg h4, ← HK.out, if_neg (by omega), ← HW.out]; rfl
      · have h1 := (by assumption : 1048576 < (k : Int))
        go_ret3
        refine ⟨?_, HB1.out⟩
        rw [HR.out]; unfold Rec.readPayB
        rw [if_neg h4, ← HK.out, if_pos (by omega)]; rfl
    · have := grownCap_ge w 4 0 5
      omega
end Go.Proofs.YtbfbajfdlkgloaaGreatDoor
