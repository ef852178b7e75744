/-
  The walks of massifref05's More and Of: bit by bit, to the same sum.
-/
import Derived.Test.YtholbjclfkdgbaaCrcAlive
namespace Go.Proofs.Ytholbjclfkdgbaa
open Go.RowKit
namespace Crc
/-- What is left of a byte when k bits of it have come in: the sum's number and the byte's rest together. -/
theorem bit_step (x : BitVec 32) (m : BitVec 32) : step (x ^^^ m) = ((x >>> 1) ^^^ (if x.getLsbD 0 != m.getLsbD 0 then poly else 0#32)) ^^^ (m >>> 1) := by
  unfold step
  rw [BitVec.ushiftRight_xor_distrib, BitVec.getLsbD_xor]
  cases x.getLsbD 0 <;> cases m.getLsbD 0 <;> simp
  · ac_rfl
  · ac_rfl
theorem bit_lsb (b : UInt8) (k : Nat) : bits .and .u32 ((b.toNat : Int) / 2 ^ k % 4294967296) 1 = if (bv8 b >>> k).getLsbD 0 then 1 else 0 := by
  have hb : b.toNat < 256 := b.toNat_lt
  rw [← and_one]
  congr 1
  have e : ((b.toNat : Int) / 2 ^ k) = ((b.toNat / 2 ^ k : Nat) : Int) := by simp
  have hle : b.toNat / 2 ^ k ≤ b.toNat := Nat.div_le_self _ _
  rw [e, BitVec.toNat_ushiftRight, Nat.shiftRight_eq_div_pow]
  have h2 : (bv8 b).toNat = b.toNat := by simp [bv8]
  rw [h2]
  have h3 : (((b.toNat / 2 ^ k : Nat)) : Int) ≤ 255 := by omega
  generalize (b.toNat / 2 ^ k : Nat) = z at h3
  omega
theorem bit_done (b : UInt8) : bv8 b >>> 8 = 0#32 := by
  have hb : b.toNat < 256 := b.toNat_lt
  apply BitVec.eq_of_toNat_eq
  have h2 : (bv8 b).toNat = b.toNat := by simp [bv8]
  rw [BitVec.toNat_ushiftRight, Nat.shiftRight_eq_div_pow, h2]
  simp; omega
theorem not_bv' (x : BitVec 32) : bits .xor .u32 (x.toNat : Int) 4294967295 = ((~~~ x).toNat : Int) := by
  rw [show (4294967295 : Int) = ((BitVec.allOnes 32).toNat : Int) from rfl, bits_xor, BitVec.xor_allOnes]
theorem bit_ne {y : BitVec 32} {b : UInt8} {k : Nat} (h : (bits .and .u32 (y.toNat : Int) 1 != bits .and .u32 ((b.toNat : Int) / 2 ^ k % 4294967296) 1) = true) : (y.getLsbD 0 != (bv8 b >>> k).getLsbD 0) = true := by
  rw [and_one, bit_lsb] at h
  revert h
  cases y.getLsbD 0 <;> cases (bv8 b >>> k).getLsbD 0 <;> simp
theorem bit_ne' {y : BitVec 32} {b : UInt8} {k : Nat} (h : (bits .and .u32 (y.toNat : Int) 1 != bits .and .u32 ((b.toNat : Int) / 2 ^ k % 4294967296) 1) = false) : (y.getLsbD 0 != (bv8 b >>> k).getLsbD 0) = false := by
  rw [and_one, bit_lsb] at h
  revert h
  cases y.getLsbD 0 <;> cases (bv8 b >>> k).getLsbD 0 <;> simp
end Crc
open Crc (bv_lt xor_poly and_one half not_bv fold_drop int_u32 ret_u32)
set_option maxHeartbeats 1600000 in
set_option maxRecDepth 100000 in
theorem refMore_any (c : BitVec 32) (s : ByteArray) (w : World) (hs : s.size ≤ 9223372036854775807) :
    Calls Try.prog 14 #[.int .u32 (c.toNat : Int), .string s] w fun e w' => e = .returned (.int .u32 ((Crc.more c s.data.toList).toNat : Int)) ∧ Below w.heap.size w w' := by
  obtain ⟨ci, hci⟩ : ∃ ci : Int, ci = c.toNat := ⟨_, rfl⟩
  rw [← hci]
  have HC : Hid _ := hci
  clear hci
  go_enter Try.func14, Try.ntmps14
  go_wp2
  go_loopg [5, 6] s.size (fun g v5 v6 wr => wr = w ∧ ∃ (j : Nat) (xi : Int), g = s.size - j ∧ j ≤ s.size ∧ v6 = .int .i64 j ∧ v5 = .int .u32 xi ∧ Hid (∃ x : BitVec 32, xi = x.toNat ∧ Crc.fold x (s.data.toList.drop j) = Crc.fold (~~~ c) s.data.toList))
  case atStart => exact ⟨rfl, 0, _, rfl, by omega, rfl, rfl, ~~~c, by rw [HC.out]; exact Crc.not_bv' c, rfl⟩
  case round =>
    obtain ⟨rfl, j, xi, rfl, hj, rfl, rfl, HX⟩ := hrel
    by_cases hjs : j < s.size
    · have HF : Hid _ := fold_drop s j hjs
      go_wp2
      go_loopg [5, 7] 8 (fun g v5 v7 wq => wq = wr ∧ ∃ (k : Nat) (yi : Int), g = 8 - k ∧ k ≤ 8 ∧ v7 = .int .i64 k ∧ v5 = .int .u32 yi ∧ Hid (∃ x y : BitVec 32, xi = x.toNat ∧ yi = y.toNat ∧ Crc.stepN (8 - k) (y ^^^ (Crc.bv8 s[j] >>> k)) = Crc.byteStep x s[j] ∧ Crc.fold x (s.data.toList.drop j) = Crc.fold (~~~ c) s.data.toList))
      case atStart => 
        obtain ⟨x, hx, hf⟩ := HX.out
        exact ⟨rfl, 0, _, rfl, by omega, rfl, rfl, x, x, hx, hx, by simp [Crc.byteStep], hf⟩
      case round =>
        obtain ⟨rfl, k, yi, rfl, hk, rfl, rfl, HY⟩ := hrel
        by_cases hk8 : k < 8
        · go_wp2
          · have hne := (by assumption : (bits .and .u32 yi 1 != bits .and .u32 ((s[j].toNat : Int) / 2 ^ k % 4294967296) 1) = true)
            go_roundg (8 - (k + 1))
            case measure => omega
            case rel =>
              obtain ⟨x, y, rfl, rfl, hy, hx⟩ := HY.out
              refine ⟨rfl, k + 1, _, rfl, by omega, by go_num, rfl, x, _, rfl, xor_poly y, ?_, hx⟩
              rw [show 8 - k = (8 - (k + 1)) + 1 by omega] at hy
              rw [← hy]
              show _ = Crc.stepN (8 - (k + 1)) (Crc.step _)
              rw [Crc.bit_step, BitVec.shiftRight_add, if_pos (Crc.bit_ne hne)]
          · have hne := (by assumption : (bits .and .u32 yi 1 != bits .and .u32 ((s[j].toNat : Int) / 2 ^ k % 4294967296) 1) = false)
            go_roundg (8 - (k + 1))
            case measure => omega
            case rel =>
              obtain ⟨x, y, rfl, rfl, hy, hx⟩ := HY.out
              refine ⟨rfl, k + 1, _, rfl, by omega, by go_num, rfl, x, _, rfl, half y, ?_, hx⟩
              rw [show 8 - k = (8 - (k + 1)) + 1 by omega] at hy
              rw [← hy]
              show _ = Crc.stepN (8 - (k + 1)) (Crc.step _)
              rw [Crc.bit_step, BitVec.shiftRight_add, if_neg (by rw [Crc.bit_ne' hne]; simp)]
              simp
        · have hj' : k = 8 := by omega
          subst hj'
          go_wp2
          go_roundg (s.size - (j + 1))
          case measure => omega
          case rel =>
            obtain ⟨x, y, rfl, rfl, hy, hx⟩ := HY.out
            refine ⟨rfl, j + 1, _, rfl, by omega, by go_num, rfl, y, rfl, ?_⟩
            rw [HF.out x, ← hy, Crc.bit_done] at hx
            simpa [Crc.stepN] using hx
    · have HJ : Hid (j = s.size) := by unfold Hid; omega
      go_wp2
      go_ret
      obtain ⟨x, rfl, hx⟩ := HX.out
      refine ⟨ret_u32 ?_, Below.refl _ _⟩
      rw [HJ.out, List.drop_of_length_le (by simp)] at hx
      unfold Crc.more; rw [← hx]; exact Crc.not_bv' x
set_option maxHeartbeats 1600000 in
set_option maxRecDepth 100000 in
theorem refOf_any (v : Value) (ps : List ByteArray) (w : World) (hv : SlV w v (ps.map Value.string)) (hn : ps.length ≤ 140737488351232) (hs : ∀ p ∈ ps, p.size ≤ 9223372036854775807) :
    Calls Try.prog 11 #[v] w fun e w' => e = .returned (.int .u32 ((Crc.ofParts 0#32 (ps.map bytesOf)).toNat : Int)) ∧ Below w.heap.size w w' := by
  obtain ⟨len, a, cap, hlen, rfl, _, HC⟩ := hv.form
  rw [List.length_map] at hlen
  have HH : Hid _ := hlen
  clear hv hlen
  have HS : Hid _ := hs
  clear hs
  have hl : len ≤ 140737488351232 := by rw [HH.out]; exact hn
  clear hn
  have HC' : Hid _ := HC
  clear HC
  go_enter Try.func11, Try.ntmps11
  go_wp2
  go_loopg [3, 4] len (fun g v3 v8 wr => ∃ (k : Nat) (xi : Int), k ≤ len ∧ g = len - k ∧ v8 = .int .i64 k ∧ v3 = .int .u32 xi ∧ Hid (∃ x : BitVec 32, xi = x.toNat ∧ Crc.ofParts x ((ps.map bytesOf).drop k) = Crc.ofParts 0#32 (ps.map bytesOf)) ∧ Below w.heap.size w wr)
  case atStart => exact ⟨0, 0, by omega, rfl, rfl, rfl, ⟨0#32, rfl, rfl⟩, Below.refl _ _⟩
  case round =>
    obtain ⟨k, xi, hk, rfl, rfl, rfl, HX, hb⟩ := hrel
    by_cases hlt : k < len
    · obtain ⟨b, off, rfl, hbw, hcell⟩ := HC'.out k hlt
      have hcell : wr.cell? ⟨b, off + k, none⟩ = some (.string (ps.getD k ByteArray.empty)) := by rw [hb.cell (p := ⟨b, off + k, none⟩) hbw, hcell, getD_map _ _ _ _ (by rw [← HH.out]; exact hlt)]
      obtain ⟨s, hsk⟩ : ∃ s, s = ps.getD k ByteArray.empty := ⟨_, rfl⟩
      rw [← hsk] at hcell
      have HK : Hid _ := hsk
      clear hsk
      obtain ⟨x, rfl, hx⟩ := HX.out
      have HX' : Hid _ := hx
      clear hx HX
      have hkl : k < ps.length := by rw [← HH.out]; exact hlt
      have hss : s.size ≤ 9223372036854775807 := HS.out s (by rw [HK.out]; simp [List.getD, hkl])
      have HB : Hid _ := hb
      clear hb
      go_wp2_with (go_at_call 14; refine (refMore_any x s _ hss).mono ?_; rintro e w1 ⟨rfl, hb1⟩)
      go_roundg (len - (k + 1))
      case measure => omega
      case rel =>
        refine ⟨k + 1, _, by omega, rfl, by go_num, rfl, ⟨_, rfl, ?_⟩, HB.out.trans (hb1.mono HB.out.size)⟩
        rw [← HX'.out]
        rw [List.drop_eq_getElem_cons (i := k) (by simpa using hkl)]
        simp [Crc.ofParts, bytesOf, HK.out, List.getD, hkl]
    · have HJ : Hid (k = len) := by unfold Hid; omega
      have HB : Hid _ := hb
      clear hb
      go_wp2
      go_ret
      obtain ⟨x, rfl, hx⟩ := HX.out
      refine ⟨ret_u32 ?_, HB.out⟩
      rw [HJ.out, HH.out, List.drop_of_length_le (by simp)] at hx
      rw [← hx]; rfl
#print axioms refOf_any
end Go.Proofs.Ytholbjclfkdgbaa
