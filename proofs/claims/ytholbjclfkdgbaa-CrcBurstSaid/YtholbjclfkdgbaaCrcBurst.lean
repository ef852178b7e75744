/-
  massiflaw05.CrcBurst: the walk.
-/
import Derived.Test.YtholbjclfkdgbaaCrcBack
import Derived.Test.YtholbjclfkdgbaaCrcLinear
import Derived.Test.YtholbjclfkdgbaaCrcBits
import Derived.Test.YtholbjclfkdgbaaArr
namespace Go.Proofs.Ytholbjclfkdgbaa
open Go.RowKit
theorem small_sum (s : ByteArray) (O : Int) (h : ((Crc.ofParts 0#32 ([s].map bytesOf)).toNat : Int) = O) : ((Crc.ofParts 0#32 ([s, ⟨#[]⟩].map bytesOf)).toNat : Int) = O := by
  rw [← h]
  have e : Crc.ofParts 0#32 ([s, ⟨#[]⟩].map bytesOf) = Crc.more (Crc.more 0#32 (bytesOf s)) [] := rfl
  rw [e, Crc.more_nil]; rfl
/-- The first j of the 32 bits are turned. -/
def Turned (w : World) (g e : Nat) (S : List UInt8) (F : Nat) (mask : BitVec 32) (j : Nat) : Prop :=
  ∃ cur : List UInt8, cur.length = S.length ∧ Arr w g e (cur.map byteV) ∧ ∀ p, p < 8 * S.length → Crc.bitAt cur p = (Crc.bitAt S p != (decide (F ≤ p ∧ p < F + j) && mask.getLsbD (p - F)))
theorem turned_start {w : World} {g e : Nat} {S : List UInt8} {F : Nat} {mask : BitVec 32} (h : Arr w g e (S.map byteV)) : Turned w g e S F mask 0 :=
  ⟨S, rfl, h, fun p _ => by
    have : decide (F ≤ p ∧ p < F + 0) = false := decide_eq_false (by omega)
    rw [this]; simp⟩
theorem mask_bit (mask : BitVec 32) (j : Nat) : (((mask.toNat : Int) / 2 ^ j).tmod 2 == 1) = mask.getLsbD j := by
  have h := Crc.shr_bv mask j
  rw [show ((2 ^ j : Nat) : Int) = (2 : Int) ^ j by simp] at h
  rw [h, ← Crc.shr_lsb mask j]
  obtain ⟨y, hy⟩ : ∃ y, y = mask >>> j := ⟨_, rfl⟩
  rw [← hy, show ((y.toNat : Int)).tmod 2 = ((y.toNat % 2 : Nat) : Int) from rfl, BitVec.getLsbD, Nat.testBit_zero]
  rw [Bool.eq_iff_iff, beq_iff_eq, decide_eq_true_iff]
  omega
theorem bit_pow (o : Nat) (ho : o < 8) : (2 : Int) ^ o % 256 = ((UInt8.ofNat (2 ^ o)).toNat : Int) := by
  rcases o with _|_|_|_|_|_|_|_|o <;> first | rfl | omega
theorem turned_set {w : World} {g e : Nat} {S : List UInt8} {F : Nat} {mask : BitVec 32} {j : Nat} {cur : List UInt8} {old : UInt8} (h1 : cur.length = S.length) (h2 : Arr w g e (cur.map byteV))
    (h3 : ∀ p, p < 8 * S.length → Crc.bitAt cur p = (Crc.bitAt S p != (decide (F ≤ p ∧ p < F + j) && mask.getLsbD (p - F)))) (h4 : cur.getD ((F + j) / 8) 0 = old) (h5 : (F + j) / 8 < cur.length) (hm : mask.getLsbD j = true) :
    Turned (w.setCell ⟨g, (F + j) / 8, none⟩ (.int .u8 (bits .xor .u8 (old.toNat : Int) ((2 : Int) ^ ((F + j) % 8) % 256)))) g e S F mask (j + 1) := by
  have ho : (F + j) % 8 < 8 := Nat.mod_lt _ (by decide)
  obtain ⟨c, hc⟩ : ∃ c : UInt8, c = old ^^^ UInt8.ofNat (2 ^ ((F + j) % 8)) := ⟨_, rfl⟩
  rw [bit_pow _ ho, Crc.bits8_xor, ← hc]
  refine ⟨cur.set ((F + j) / 8) c, by simpa using h1, ?_, fun p hp => ?_⟩
  · have := h2.set ((F + j) / 8) (by simpa using h5) (byteV c)
    rw [List.map_set]; exact this
  · rw [Crc.bitAt_set cur ((F + j) / 8) ((F + j) % 8) p c h5 ho, h3 p hp]
    · by_cases hpe : p = F + j
      · subst hpe
        have e1 : decide (F ≤ F + j ∧ F + j < F + j) = false := decide_eq_false (by omega)
        have e2 : decide (F ≤ F + j ∧ F + j < F + (j + 1)) = true := decide_eq_true (by omega)
        have e3 : decide (F + j = 8 * ((F + j) / 8) + (F + j) % 8) = true := decide_eq_true (by omega)
        rw [e1, e2, e3, show F + j - F = j by omega, hm]
        cases Crc.bitAt S (F + j) <;> rfl
      · have e3 : decide (p = 8 * ((F + j) / 8) + (F + j) % 8) = false := decide_eq_false (by omega)
        have e1 : decide (F ≤ p ∧ p < F + (j + 1)) = decide (F ≤ p ∧ p < F + j) := by
          rw [decide_eq_decide]; omega
        rw [e3, e1]
        cases (Crc.bitAt S p != (decide (F ≤ p ∧ p < F + j) && mask.getLsbD (p - F))) <;> rfl
    · intro k hk
      rw [h4, hc, UInt8.toNat_xor, Nat.testBit_xor]
      have : (UInt8.ofNat (2 ^ ((F + j) % 8))).toNat = 2 ^ ((F + j) % 8) := by
        rw [UInt8.toNat_ofNat']
        exact Nat.mod_eq_of_lt (Nat.pow_lt_pow_right (by decide) ho)
      rw [this, Nat.testBit_two_pow]
      cases old.toNat.testBit k <;> simp [eq_comm]
theorem turned_skip {w : World} {g e : Nat} {S : List UInt8} {F : Nat} {mask : BitVec 32} {j : Nat} {cur : List UInt8} (h1 : cur.length = S.length) (h2 : Arr w g e (cur.map byteV))
    (h3 : ∀ p, p < 8 * S.length → Crc.bitAt cur p = (Crc.bitAt S p != (decide (F ≤ p ∧ p < F + j) && mask.getLsbD (p - F)))) (hm : mask.getLsbD j = false) : Turned w g e S F mask (j + 1) := by
  refine ⟨cur, h1, h2, fun p hp => ?_⟩
  rw [h3 p hp]
  by_cases hpe : p = F + j
  · subst hpe
    rw [show F + j - F = j by omega, hm]; simp
  · have e1 : decide (F ≤ p ∧ p < F + (j + 1)) = decide (F ≤ p ∧ p < F + j) := by
      rw [decide_eq_decide]; omega
    rw [e1]
theorem not_inj {x y : BitVec 32} (h : ~~~ x = ~~~ y) : x = y := by rw [← BitVec.not_not (b := x), h, BitVec.not_not]
set_option maxHeartbeats 1600000 in
set_option maxRecDepth 100000 in
theorem burst_any (s : ByteArray) (at_ : Int) (mask : BitVec 32) (w : World) (hs : s.size ≤ 140737488351232) (_hat : (Lit.int .i64 at_).wf = true) :
    Calls Try.prog 5 #[.string s, .int .i64 at_, .int .u32 (mask.toNat : Int)] w fun e w' => e = .returned (.bool true) ∧ Below w.heap.size w w' := by
  have hcv := fun w s => run_bytes_of_string (P := Try.prog) w 9 31 5 s Try.underlying9 Try.underlying31 Try.underlying5
  obtain ⟨mi, hmi⟩ : ∃ ci : Int, ci = mask.toNat := ⟨_, rfl⟩
  rw [← hmi]
  have hm0 : 0 ≤ mi ∧ mi < 4294967296 := by have := mask.isLt; omega
  have M := hide hmi
  have hs1 : s.size ≤ 9223372036854775807 := by omega
  clear hmi
  go_enter Try.func5, Try.ntmps5
  go_wp2_with fail
  refine (alive_any _).mono ?_
  rintro e w1 ⟨rfl, hb1⟩
  have HB1 := hide hb1
  clear hb1
  obtain ⟨O, hO⟩ : ∃ O : Int, ((Crc.ofParts 0#32 ([s].map bytesOf)).toNat : Int) = O := ⟨_, rfl⟩
  have HO := hide hO
  clear hO
  go_wp2_with fail
  · refine (of_val _ [s] O _ (slv_new _ _ _ _ rfl) (by simp) (by simpa using hs1) HO.out).mono ?_
    rintro e w2 ⟨rfl, hb2⟩
    have HB2 := hide (below_new HB1.out _ hb2)
    clear hb2
    go_wp2_with fail
    refine (of_val _ [s, ⟨#[]⟩] O _ (slv_new _ _ _ _ rfl) (by simp) (two_le hs1 (Nat.zero_le _)) (small_sum s O HO.out)).mono ?_
    rintro e w3 ⟨rfl, hb3⟩
    have HB3 := hide (below_new HB2.out _ hb3)
    clear hb3
    go_wp2_with fail
    go_ret
    exact ⟨congrArg (fun b => Ending.returned (.bool b)) (by simp), HB3.out⟩
  · have h5 := (by assumption : 5 ≤ (s.size : Int))
    have hm := (by assumption : 5 ≤ (s.size : Int) ∧ (mi == 0) = false).2
    have HM0 := hide hm
    obtain ⟨F, hF, hF2⟩ : ∃ F : Nat, wrap64 ((IntKind.u64.wrap at_).tmod (8 * (s.size : Int) - 31)) = F ∧ F + 32 ≤ 8 * s.size := by
      rw [IntKind.wrap_u64]
      have h1 : 0 ≤ at_ % 18446744073709551616 := by omega
      have h2 : (at_ % 18446744073709551616).tmod (8 * (s.size : Int) - 31) = (at_ % 18446744073709551616) % (8 * (s.size : Int) - 31) := Int.tmod_eq_emod_of_nonneg h1
      rw [h2]
      have h3 := Int.emod_nonneg (at_ % 18446744073709551616) (show 8 * (s.size : Int) - 31 ≠ 0 by omega)
      have h4 := Int.emod_lt_of_pos (at_ % 18446744073709551616) (show 0 < 8 * (s.size : Int) - 31 by omega)
      obtain ⟨F, hF⟩ : ∃ F : Nat, (at_ % 18446744073709551616) % (8 * (s.size : Int) - 31) = F := ⟨_, (Int.toNat_of_nonneg h3).symm⟩
      rw [hF] at h3 h4 ⊢
      refine ⟨F, ?_, by omega⟩
      exact IntWalk.wrap64_in _ (by omega)
    rw [hF]
    clear hF
    have HC0 := grownCap_ge w1 s.size 0 5
    generalize grownCap w1 s.size 0 5 = cap at HC0 ⊢
    have HC := hide HC0
    clear HC0
    obtain ⟨W2, hW2⟩ : ∃ W2, (w1.alloc (.cells (bytesRow s cap) 5 ((bytesRow s cap).size, (bytesRow s cap).size + 1))).drew = W2 := ⟨_, rfl⟩
    have HA0 := hide (show Arr W2 w1.heap.size _ _ by rw [← hW2]; exact arr_bytes w1 s cap 5)
    have HBW := hide (show Below w.heap.size w W2 by rw [← hW2]; exact (HB1.out.alloc HB1.out.size _).drew)
    rw [hW2]
    clear hW2
    go_loopg [10] 32 (fun g v10 wr => ∃ (j : Nat), g = 32 - j ∧ j ≤ 32 ∧ v10 = .int .i64 j ∧ Hid (Turned wr w1.heap.size 5 (bytesOf s) F mask j ∧ Below w.heap.size w wr))
    case atStart => exact ⟨0, rfl, by omega, rfl, turned_start HA0.out, HBW.out⟩
    case round =>
      obtain ⟨j, rfl, hj, rfl, HT⟩ := hrel
      by_cases hj32 : j < 32
      · obtain ⟨cur, hcl, harr, hbits⟩ := HT.out.1
        have hlt : (F + j) / 8 < cur.length := by rw [hcl]; simp [bytesOf]; omega
        have hcell := harr.cell ((F + j) / 8) (by simpa using hlt)
        have hfz := harr.frozen ((F + j) / 8) (by simpa using hlt)
        rw [getD_map _ _ _ 0 hlt] at hcell
        obtain ⟨old, hold⟩ : ∃ old : UInt8, cur.getD ((F + j) / 8) 0 = old := ⟨_, rfl⟩
        rw [hold] at hcell
        unfold byteV at hcell
        have H1 := hide hcl
        have H2 := hide harr
        have H3 := hide hbits
        have H4 := hide hold
        have H5 := hide hlt
        have HBel := hide HT.out.2
        clear hcl harr hbits hold hlt HT
        go_wp2
        · have hb1 := (by assumption : ((mi / 2 ^ j).tmod 2 == 1) = true)
          go_roundg (32 - (j + 1))
          case measure => omega
          case rel =>
            rw [M.out, mask_bit] at hb1
            exact ⟨j + 1, rfl, by omega, by go_num, turned_set H1.out H2.out H3.out H4.out H5.out hb1, HBel.out.setCell HB1.out.size _⟩
        · have hb1 := (by assumption : ((mi / 2 ^ j).tmod 2 == 1) = false)
          go_roundg (32 - (j + 1))
          case measure => omega
          case rel =>
            rw [M.out, mask_bit] at hb1
            exact ⟨j + 1, rfl, by omega, by go_num, turned_skip H1.out H2.out H3.out hb1, HBel.out⟩
      · have hj' : j = 32 := by omega
        subst hj'
        obtain ⟨cur, hcl, harr, hbits⟩ := HT.out.1
        have hBel := HT.out.2
        obtain ⟨NA, hNA⟩ : ∃ A : Int, ((Crc.ofParts 0#32 ([⟨cur.toArray⟩].map bytesOf)).toNat : Int) = A := ⟨_, rfl⟩
        obtain ⟨MA, hMA⟩ : ∃ A : Int, ((Crc.more mask cur).toNat : Int) = A := ⟨_, rfl⟩
        obtain ⟨MS, hMS⟩ : ∃ A : Int, ((Crc.more mask s.data.toList).toNat : Int) = A := ⟨_, rfl⟩
        have hmz : mask ≠ 0#32 := fun h => by
          rw [M.out, h] at hm
          exact absurd hm (by decide)
        have hneq := fun x => Crc.burst x cur (bytesOf s) F mask hmz hcl (by simpa [bytesOf] using hF2) hbits
        have hne1 : (NA == O) = false := by
          rw [← hNA, ← HO.out, Crc.eq_bv]
          exact decide_eq_false fun h => hneq (~~~ 0#32) (not_inj h)
        have hne2 : (MA == MS) = false := by
          rw [← hMA, ← hMS, Crc.eq_bv]
          exact decide_eq_false fun h => hneq (~~~ mask) (not_inj h)
        have hle : s.size ≤ cap := HC.out
        have hsl : SlV wr (.slice (some ⟨w1.heap.size, 0, none⟩) s.size cap) (cur.map byteV) := harr.slv (by simp [hcl, bytesOf]) hle
        have hsz : (⟨cur.toArray⟩ : ByteArray).size ≤ 9223372036854775807 := by
          show cur.toArray.size ≤ _
          simp [hcl, bytesOf]; omega
        have HS := hide hsl
        have HZ := hide hsz
        have HN := hide (And.intro hNA (And.intro hMA hMS))
        have HBel := hide hBel
        clear hcl harr hbits hBel hNA hMA hMS hneq hle hsl hsz HT
        go_wp2_with (refine wpList_bytes_string rfl _ 31 9 5 rfl Try.underlying31 Try.underlying5 Try.underlying9 (.slice (some ⟨w1.heap.size, 0, none⟩) s.size cap) rfl cur HS.out ?_)
        refine (of_val _ [⟨cur.toArray⟩] NA _ (slv_new _ _ _ _ rfl) (by simp) (by intro p hp; rw [List.mem_singleton.1 hp]; exact HZ.out) HN.out.1).mono ?_
        rintro e w2 ⟨rfl, hb2⟩
        have HR2 := hide (below_new (Below.refl _ wr) _ hb2)
        clear hb2
        go_wp2_with fail
        refine (of_val _ [s] O _ (slv_new _ _ _ _ rfl) (by simp) (by simpa using hs1) HO.out).mono ?_
        rintro e w3 ⟨rfl, hb3⟩
        have HR3 := hide (below_new HR2.out _ hb3)
        clear hb3
        have HS3 := hide (HS.out.below HR3.out)
        have hcs := run_bytes_string (P := Try.prog) (w := w3) 31 9 5 Try.underlying31 Try.underlying5 Try.underlying9 HS3.out
        go_wp2_with fail
        · exact absurd (by assumption : NA = O) (by simpa using hne1)
        refine (more_val _ ⟨cur.toArray⟩ MA _ mask M.out HZ.out HN.out.2.1).mono ?_
        rintro e w4 ⟨rfl, hb4⟩
        have HR4 := hide (below_next HR3.out hb4)
        clear hb4
        go_wp2_with fail
        refine (more_val _ s MS _ mask M.out hs1 HN.out.2.2).mono ?_
        rintro e w5 ⟨rfl, hb5⟩
        have HR5 := hide (below_next HR4.out hb5)
        clear hb5
        go_wp2_with fail
        go_ret
        refine ⟨congrArg (fun b => Ending.returned (.bool b)) (a₁ := (NA != O && MA != MS)) ?_, HBel.out.trans (HR5.out.mono HBel.out.size)⟩
        unfold bne
        rw [hne1, hne2]; rfl
  · refine (of_val _ [s] O _ (slv_new _ _ _ _ rfl) (by simp) (by simpa using hs1) HO.out).mono ?_
    rintro e w2 ⟨rfl, hb2⟩
    have HB2 := hide (below_new HB1.out _ hb2)
    clear hb2
    go_wp2_with fail
    refine (of_val _ [s, ⟨#[]⟩] O _ (slv_new _ _ _ _ rfl) (by simp) (two_le hs1 (Nat.zero_le _)) (small_sum s O HO.out)).mono ?_
    rintro e w3 ⟨rfl, hb3⟩
    have HB3 := hide (below_new HB2.out _ hb3)
    clear hb3
    go_wp2_with fail
    go_ret
    exact ⟨congrArg (fun b => Ending.returned (.bool b)) (by simp), HB3.out⟩
#print axioms burst_any
end Go.Proofs.Ytholbjclfkdgbaa
