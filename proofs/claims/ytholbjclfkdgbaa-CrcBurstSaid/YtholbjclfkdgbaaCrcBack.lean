/-
  massiflaw05.CrcBack: four bytes reckoned back: the walk.
-/
import Derived.Test.YtholbjclfkdgbaaCrcParts
namespace Go.Proofs.Ytholbjclfkdgbaa
open Go.RowKit
namespace Crc
/-- A step back. -/
def back (x : BitVec 32) : BitVec 32 := if x.getLsbD 31 then ((x ^^^ poly) <<< 1) ||| 1#32 else x <<< 1
theorem step_back (x : BitVec 32) : step (back x) = x := by
  have hp31 : poly.getLsbD 31 = true := by decide
  refine BitVec.eq_of_getLsbD_eq fun i hi => ?_
  unfold step back
  cases h : x.getLsbD 31
  · simp only [Bool.false_eq_true, if_false]
    have h0 : (x <<< 1).getLsbD 0 = false := by simp
    rw [h0]
    simp only [Bool.false_eq_true, if_false, BitVec.xor_zero]
    rw [BitVec.getLsbD_ushiftRight, BitVec.getLsbD_shiftLeft]
    by_cases hi31 : i = 31
    · subst hi31
      have h' : x[31] = false := by rw [← BitVec.getLsbD_eq_getElem]; exact h
      simp [h']
    · have : 1 + i < 32 := by omega
      simp [this]
  · simp only [if_true]
    have h0 : (((x ^^^ poly) <<< 1) ||| 1#32).getLsbD 0 = true := by simp
    rw [h0]
    simp only [if_true]
    rw [BitVec.getLsbD_xor, BitVec.getLsbD_ushiftRight, BitVec.getLsbD_or, BitVec.getLsbD_shiftLeft]
    by_cases hi31 : i = 31
    · subst hi31
      have h' : x[31] = true := by rw [← BitVec.getLsbD_eq_getElem]; exact h
      have hp' : poly[31] = true := by rw [← BitVec.getLsbD_eq_getElem]; exact hp31
      simp [h', hp']
    · have h1 : 1 + i < 32 := by omega
      have h2 : (1#32).getLsbD (1 + i) = false := by simp
      rw [h2]
      simp [h1, BitVec.getLsbD_xor]
def backN : Nat → BitVec 32 → BitVec 32 | 0, x => x | n + 1, x => backN n (back x)
theorem stepN_last (n : Nat) (x : BitVec 32) : stepN (n + 1) x = step (stepN n x) := by rw [stepN_add n 1 x]; rfl
theorem stepN_backN (n : Nat) : ∀ x, stepN n (backN n x) = x := by
  induction n with
  | zero => intro x; rfl
  | succ n ih => intro x; rw [stepN_last]; show step (stepN n (backN n (back x))) = x; rw [ih, step_back]
/-- A word's low byte goes in; the rest goes down. -/
def lo8 (w : BitVec 32) : UInt8 := ⟨BitVec.ofNat 8 w.toNat⟩
theorem bv8_lo8 (w : BitVec 32) : bv8 (lo8 w) = w &&& 255#32 := by
  apply BitVec.eq_of_toNat_eq
  rw [BitVec.toNat_and, show (255#32).toNat = 2 ^ 8 - 1 from rfl, Nat.and_two_pow_sub_one_eq_mod]
  have h : (lo8 w).toNat = w.toNat % 256 := by show (BitVec.ofNat 8 w.toNat).toNat = _; simp
  unfold bv8
  rw [h, BitVec.toNat_ofNat]
  omega
theorem step8_word (x w : BitVec 32) : stepN 8 (x ^^^ w) = byteStep x (lo8 w) ^^^ (w >>> 8) := by
  have hs : w = (w &&& ~~~255#32) ^^^ (w &&& 255#32) := by
    refine BitVec.eq_of_getLsbD_eq fun i hi => ?_
    simp only [BitVec.getLsbD_xor, BitVec.getLsbD_and, BitVec.getLsbD_not]
    cases w.getLsbD i <;> cases (255#32).getLsbD i <;> simp [hi]
  have hl : ∀ i, i < 8 → (w &&& ~~~255#32).getLsbD i = false := by
    intro i hi
    rw [BitVec.getLsbD_and, BitVec.getLsbD_not]
    have h2 : ∀ j, j < 8 → (255#32).getLsbD j = true := by decide
    rw [h2 i hi]; simp
  have hr : (w &&& ~~~255#32) >>> 8 = w >>> 8 := by
    refine BitVec.eq_of_getLsbD_eq fun i hi => ?_
    rw [BitVec.getLsbD_ushiftRight, BitVec.getLsbD_ushiftRight, BitVec.getLsbD_and, BitVec.getLsbD_not]
    by_cases h : 8 + i < 32
    · have h2 : ∀ j, j < 32 → 8 ≤ j → (255#32).getLsbD j = false := by decide
      rw [h2 _ h (by omega)]; simp [h]
    · rw [BitVec.getLsbD_of_ge w _ (by omega)]; simp
  unfold byteStep
  rw [bv8_lo8]
  have e : x ^^^ w = (x ^^^ (w &&& 255#32)) ^^^ (w &&& ~~~255#32) := by
    calc x ^^^ w = x ^^^ ((w &&& ~~~255#32) ^^^ (w &&& 255#32)) := by rw [← hs]
      _ = _ := by ac_rfl
  rw [e, stepN_xor, stepN_low 8 _ hl, hr]
def word4 (w : BitVec 32) : List UInt8 := [lo8 w, lo8 (w >>> 8), lo8 (w >>> 16), lo8 (w >>> 24)]
theorem fold_word (x w : BitVec 32) : fold x (word4 w) = stepN 32 (x ^^^ w) := by
  show byteStep (byteStep (byteStep (byteStep x (lo8 w)) (lo8 (w >>> 8))) (lo8 (w >>> 16))) (lo8 (w >>> 24)) = _
  have e32 : ∀ y, stepN 32 y = stepN 8 (stepN 8 (stepN 8 (stepN 8 y))) := fun y => by
    have a1 : stepN 32 y = stepN 24 (stepN 8 y) := stepN_add 8 24 y
    have a2 : stepN 24 (stepN 8 y) = stepN 16 (stepN 8 (stepN 8 y)) := stepN_add 8 16 _
    have a3 : stepN 16 (stepN 8 (stepN 8 y)) = stepN 8 (stepN 8 (stepN 8 (stepN 8 y))) := stepN_add 8 8 _
    rw [a1, a2, a3]
  rw [e32, step8_word, step8_word, step8_word, step8_word]
  have e1 : w >>> 8 >>> 8 = w >>> 16 := by rw [← BitVec.shiftRight_add]
  have e2 : w >>> 16 >>> 8 = w >>> 24 := by rw [← BitVec.shiftRight_add]
  have e3 : w >>> 24 >>> 8 = 0#32 := by
    rw [← BitVec.shiftRight_add]
    refine BitVec.eq_of_getLsbD_eq fun i hi => ?_
    rw [BitVec.getLsbD_ushiftRight, BitVec.getLsbD_of_ge w _ (by omega)]; simp
  rw [e1, e2, e3, BitVec.xor_zero]
/-- The four bytes that give the sum that is wanted, and no others. -/
theorem back_word (o want other c : BitVec 32) (hc : c = backN 32 (~~~ want) ^^^ ~~~ o) : more o (word4 c) = want ∧ (more o (word4 other) = want ↔ other = c) := by
  have key : ∀ y, more o (word4 y) = want ↔ y = c := by
    intro y
    unfold more
    rw [fold_word]
    constructor
    · intro h
      have h2 : stepN 32 (~~~ o ^^^ y) = ~~~ want := by rw [← h, BitVec.not_not]
      rw [← stepN_backN 32 (~~~ want)] at h2
      have h3 := stepN_inj 32 h2
      rw [hc, ← h3]
      rw [show ~~~o ^^^ y ^^^ ~~~o = y ^^^ (~~~o ^^^ ~~~o) by ac_rfl, BitVec.xor_self, BitVec.xor_zero]
    · intro h
      rw [h, hc, show ~~~o ^^^ (backN 32 (~~~want) ^^^ ~~~o) = backN 32 (~~~want) ^^^ (~~~o ^^^ ~~~o) by ac_rfl, BitVec.xor_self, BitVec.xor_zero, stepN_backN, BitVec.not_not]
  exact ⟨(key c).2 rfl, key other⟩
theorem top_bit (x : BitVec 32) : ((x.toNat : Int) / 2147483648 == 1) = x.getLsbD 31 := by
  have h : x.getLsbD 31 = decide (2147483648 ≤ x.toNat) := by
    have := BitVec.msb_eq_decide x
    rw [BitVec.msb_eq_getLsbD_last] at this
    simpa using this
  rw [h, Bool.eq_iff_iff]
  have := x.isLt
  simp
  omega
theorem shl_bv (x : BitVec 32) : (x.toNat : Int) * (2 : Int) % (4294967296 : Int) = ((x <<< 1).toNat : Int) := by
  rw [BitVec.toNat_shiftLeft, Nat.shiftLeft_eq]
  omega
theorem back_one {x : BitVec 32} (h : ((x.toNat : Int) / 2147483648 == 1) = true) : bits .or .u32 (bits .xor .u32 (x.toNat : Int) 2197175160 * 2 % 4294967296) 1 = ((back x).toNat : Int) := by
  rw [top_bit] at h
  unfold back
  rw [h, show (2197175160 : Int) = (poly.toNat : Int) from rfl, bits_xor, shl_bv, show (1 : Int) = ((1#32).toNat : Int) from rfl, bits_bv]
  rfl
theorem back_not {x : BitVec 32} (h : ((x.toNat : Int) / 2147483648 == 1) = false) : (x.toNat : Int) * (2 : Int) % (4294967296 : Int) = ((back x).toNat : Int) := by
  rw [top_bit] at h
  unfold back
  rw [h, shl_bv]
  rfl
theorem word4_vals {E : Int} {c : BitVec 32} (h : E = (c.toNat : Int)) : [Value.int .u8 (E % 256), .int .u8 (E / 256 % 256), .int .u8 (E / 65536 % 256), .int .u8 (E / 16777216 % 256)] = (word4 c).map byteV := by
  have hb : ∀ y : BitVec 32, byteV (lo8 y) = .int .u8 ((y.toNat : Int) % 256) := fun y => by
    have h : (lo8 y).toNat = y.toNat % 256 := by show (BitVec.ofNat 8 y.toNat).toNat = _; simp
    unfold byteV; rw [h]; rfl
  have hd : ∀ k, ((c >>> k).toNat : Int) = (c.toNat : Int) / (2 ^ k : Nat) := fun k => (shr_bv c k).symm
  unfold word4
  simp only [List.map_cons, List.map_nil, hb, hd, h]
  rfl
theorem eq_bv (x y : BitVec 32) : ((x.toNat : Int) == (y.toNat : Int)) = decide (x = y) := by
  rw [Bool.eq_iff_iff, beq_iff_eq, decide_eq_true_iff]
  exact ⟨fun h => BitVec.eq_of_toNat_eq (by omega), fun h => by rw [h]⟩
theorem word_size (c : BitVec 32) : (⟨(word4 c).toArray⟩ : ByteArray).size ≤ 9223372036854775807 := by
  show (word4 c).toArray.size ≤ _
  simp [word4]
end Crc
theorem two_le {x y : ByteArray} {n : Nat} (hx : x.size ≤ n) (hy : y.size ≤ n) : ∀ p ∈ [x, y], p.size ≤ n := by
  intro p hp
  simp only [List.mem_cons, List.not_mem_nil, or_false] at hp
  rcases hp with rfl | rfl
  · exact hx
  · exact hy
set_option maxHeartbeats 1600000 in
set_option maxRecDepth 100000 in
theorem back_any (s : ByteArray) (want other : BitVec 32) (w : World) (hs : s.size ≤ 140737488351232) :
    Calls Try.prog 7 #[.string s, .int .u32 (want.toNat : Int), .int .u32 (other.toNat : Int)] w fun e w' => e = .returned (.bool true) ∧ Below w.heap.size w w' := by
  obtain ⟨wi, hwi⟩ : ∃ ci : Int, ci = want.toNat := ⟨_, rfl⟩
  obtain ⟨oi, hoi⟩ : ∃ ci : Int, ci = other.toNat := ⟨_, rfl⟩
  rw [← hwi, ← hoi]
  have C := hide (And.intro hwi hoi)
  have hs1 : s.size ≤ 9223372036854775807 := by omega
  clear hwi hoi
  go_enter Try.func7, Try.ntmps7
  go_wp2_with fail
  refine (alive_any _).mono ?_
  rintro e w1 ⟨rfl, hb1⟩
  have HB1 := hide hb1
  clear hb1
  go_wp2
  go_loopg [7, 8] 32 (fun g v7 v8 wr => wr = w1 ∧ ∃ (j : Nat) (xi : Int), g = 32 - j ∧ j ≤ 32 ∧ v8 = .int .i64 j ∧ v7 = .int .u32 xi ∧ Hid (∃ x : BitVec 32, xi = x.toNat ∧ Crc.backN (32 - j) x = Crc.backN 32 (~~~ want)))
  case atStart => exact ⟨rfl, 0, _, rfl, by omega, rfl, rfl, ~~~want, by rw [C.out.1]; exact Crc.not_bv' want, rfl⟩
  case round =>
    obtain ⟨rfl, j, xi, rfl, hj, rfl, rfl, HX⟩ := hrel
    by_cases hj32 : j < 32
    · go_wp2
      · have hb1 := (by assumption : (xi / 2147483648 == 1) = true)
        obtain ⟨x, rfl, hx⟩ := HX.out
        go_roundg (32 - (j + 1))
        case measure => omega
        case rel =>
          refine ⟨rfl, j + 1, _, rfl, by omega, by go_num, rfl, _, Crc.back_one hb1, ?_⟩
          rw [show 32 - j = (32 - (j + 1)) + 1 by omega] at hx
          exact hx
      · have hb1 := (by assumption : (xi / 2147483648 == 1) = false)
        obtain ⟨x, rfl, hx⟩ := HX.out
        go_roundg (32 - (j + 1))
        case measure => omega
        case rel =>
          refine ⟨rfl, j + 1, _, rfl, by omega, by go_num, rfl, _, Crc.back_not hb1, ?_⟩
          rw [show 32 - j = (32 - (j + 1)) + 1 by omega] at hx
          exact hx
    · have hj' : j = 32 := by omega
      subst hj'
      obtain ⟨O, hO⟩ : ∃ O : BitVec 32, O = Crc.ofParts 0#32 ([s].map bytesOf) := ⟨_, rfl⟩
      obtain ⟨oo, hoo⟩ : ∃ z : Int, z = O.toNat := ⟨_, rfl⟩
      have HO := hide (And.intro hO hoo)
      clear hO hoo
      go_wp2_with fail
      refine (of_val _ [s] oo _ (slv_new _ _ _ _ rfl) (by simp) (by simpa using hs1) (by rw [HO.out.2, HO.out.1])).mono ?_
      rintro e w2 ⟨rfl, hb2⟩
      have HB2 := hide (below_new HB1.out _ hb2)
      clear hb2
      obtain ⟨hO, hoo⟩ := HO.out
      obtain ⟨x, hxi, hx⟩ := HX.out
      have hx' : x = Crc.backN 32 (~~~ want) := hx
      obtain ⟨c, hc⟩ : ∃ c : BitVec 32, c = x ^^^ O ^^^ 4294967295#32 := ⟨_, rfl⟩
      have hE : bits .xor .u32 (bits .xor .u32 xi oo) 4294967295 = (c.toNat : Int) := by
        rw [hxi, hoo, Crc.bits_xor, show (4294967295 : Int) = ((4294967295#32).toNat : Int) from rfl, Crc.bits_xor, hc]
      have hc2 : c = Crc.backN 32 (~~~ want) ^^^ ~~~ O := by
        rw [hc, hx', BitVec.xor_assoc, show (4294967295#32) = BitVec.allOnes 32 from rfl, BitVec.xor_allOnes]
      have hkey := Crc.back_word O want other c hc2
      have K4 := hide (And.intro hkey (And.intro hE hO))
      clear hkey hE hO hc hc2 hx hx' hoo hxi
      have W4 : ∀ (wa : World) (B : Nat), wa.heap.size = B → SlV (wa.alloc (.cells #[.int .u8 (bits .xor .u32 (bits .xor .u32 xi oo) 4294967295 % 256), .int .u8 (bits .xor .u32 (bits .xor .u32 xi oo) 4294967295 / 256 % 256), .int .u8 (bits .xor .u32 (bits .xor .u32 xi oo) 4294967295 / 65536 % 256), .int .u8 (bits .xor .u32 (bits .xor .u32 xi oo) 4294967295 / 16777216 % 256)] 5)) (.slice (some ⟨B, 0, none⟩) 4 4) ((Crc.word4 c).map byteV) := fun wa B hB => by
        subst hB
        rw [← Crc.word4_vals K4.out.2.1]; exact slv_new _ _ _ _ rfl
      have W5 : ∀ (wa : World) (B : Nat), wa.heap.size = B → SlV (wa.alloc (.cells #[.int .u8 (oi % 256), .int .u8 (oi / 256 % 256), .int .u8 (oi / 65536 % 256), .int .u8 (oi / 16777216 % 256)] 5)) (.slice (some ⟨B, 0, none⟩) 4 4) ((Crc.word4 other).map byteV) := fun wa B hB => by
        subst hB
        rw [← Crc.word4_vals C.out.2]; exact slv_new _ _ _ _ rfl
      have W45 := hide (And.intro W4 W5)
      clear W4 W5
      go_wp2_with (first | refine wpList_bytes_string rfl _ 31 9 5 rfl Try.underlying31 Try.underlying5 Try.underlying9 (.slice (some ⟨w2.heap.size, 0, none⟩) 4 4) rfl _ (W45.out.1 _ _ rfl) ?_ | refine wpList_bytes_string rfl _ 31 9 5 rfl Try.underlying31 Try.underlying5 Try.underlying9 (.slice (some ⟨w2.heap.size + 1, 0, none⟩) 4 4) rfl _ (W45.out.2 _ _ (by simp)) ?_)
      refine (of_val (.slice (some ⟨w2.heap.size + 2, 0, none⟩) 2 2) [s, ⟨(Crc.word4 c).toArray⟩] wi _ (slv_at _ _ _ _ _ rfl (by simp)) (by simp) (two_le hs1 (Crc.word_size _)) ?_).mono ?_
      · rw [C.out.1, ← K4.out.1.1, K4.out.2.2]; rfl
      rintro e w3 ⟨rfl, hb3⟩
      have HB3 := hide (below_new ((HB2.out.alloc HB2.out.size _).alloc (by simp; have := HB2.out.size; omega) _) _ hb3)
      clear hb3
      obtain ⟨N, hN⟩ : ∃ N : Int, N = ((Crc.more O (Crc.word4 other)).toNat : Int) := ⟨_, rfl⟩
      have HN := hide hN
      clear hN
      go_wp2_with fail
      refine (of_val _ [s, ⟨(Crc.word4 other).toArray⟩] N _ (slv_new _ _ _ _ rfl) (by simp) (two_le hs1 (Crc.word_size _)) ?_).mono ?_
      · rw [HN.out, K4.out.2.2]; rfl
      rintro e w4 ⟨rfl, hb4⟩
      have HB4 := hide (below_new HB3.out _ hb4)
      clear hb4
      go_wp2
      go_ret
      refine ⟨?_, HB4.out⟩
      refine congrArg (fun b => Ending.returned (.bool b)) (a₁ := ((N == wi) == (oi == bits .xor .u32 (bits .xor .u32 xi oo) 4294967295))) ?_
      rw [HN.out, C.out.1, C.out.2, K4.out.2.1, Crc.eq_bv, Crc.eq_bv]
      have hk := K4.out.1.2
      rw [Bool.eq_iff_iff] at *
      simpa using hk
end Go.Proofs.Ytholbjclfkdgbaa
