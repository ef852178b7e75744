/-
  record.Node, ReadNode: the walks.
-/
import Derived.Test.YtbfbajfdlkgloaaGreatDoorG11
import Derived.Test.YtbfbajfdlkgloaaGreatDoorG01
import Derived.BigQuiet
import Derived.Laws.Strings2
import Derived.WalkSmall

namespace Go.Proofs.YtbfbajfdlkgloaaGreatDoor
open Go.RowKit
namespace Rec
def nodeB (p : Nat) (digest : ByteArray) : ByteArray := if 32 < digest.size then ⟨#[]⟩ else sealB (digest ++ zeroB (32 - digest.size) ++ numB p 4)
end Rec
def nodeL (w : World) (p : Nat) (D N4 X : ByteArray) : List Sp :=
  [.is (.slice (some ⟨w.heap.size, 0, none⟩) 32 32), .is (.string D), .is (.int .u64 (p : Int)), .is (.string N4), .is (.string (D ++ N4)), .is (.string X), .is (.string X)]
def nodeU : List (List Nat) := [[], [0], [], [2], [1, 3], [4], [5]]
theorem str_of {w : World} {a : Act} {o : Oper} {K : Act → World → Prop} {Q : Exit → Act → World → Prop} (x : Operand) (v : Value) (bs : List UInt8) (s : ByteArray) (ho : o.op = .convert 46 9 x) (hx : a.eval x = v) (hv : SlV w v (bs.map byteV)) (hs : (⟨bs.toArray⟩ : ByteArray) = s) (h : K (a.put o.dst (.string s)) w) : o.wp Tryz.prog a w K Q :=
  wp_bytes_string x 46 9 5 ho Tryz.underlying46 Tryz.underlying5 Tryz.underlying9 v hx bs hv (by rw [hs]; exact h)
theorem number_val (p n : Nat) (s : ByteArray) (w : World) (hp : p < 18446744073709551616) (hn : n ≤ 1000) (hs : s = Rec.numB p n) : Calls Tryz.prog 100 #[.int .u64 (p : Int), .int .i64 (n : Int)] w fun e w' => e = .returned (.string s) ∧ Below w.heap.size w w' := by
  rw [hs]; exact number_any p n w hp hn
theorem sealed_val (s t : ByteArray) (w : World) (hs : s.size ≤ 4611686018427387904) (ht : t = Rec.sealB s) : Calls Tryz.prog 99 #[.string s] w fun e w' => e = .returned (.string t) ∧ Below w.heap.size w w' := by
  rw [ht]; exact sealed_any s w hs
theorem and_low (p : Nat) (hp : p < 18446744073709551616) : bits .and .u64 (p : Int) 4294967295 = ((p % 4294967296 : Nat) : Int) := by
  unfold bits
  rw [IntKind.wrap_u64]
  rw [show (4294967295 : Int) = ((4294967295 : Nat) : Int) from rfl]
  simp only [BitVec.ofInt_natCast]
  show ((BitVec.ofNat 64 p &&& BitVec.ofNat 64 4294967295).toNat : Int) % 18446744073709551616 = _
  have p64 : (2 : Nat) ^ 64 = 18446744073709551616 := rfl
  rw [BitVec.toNat_and, BitVec.toNat_ofNat, BitVec.toNat_ofNat, p64, Nat.mod_eq_of_lt hp, Nat.mod_eq_of_lt (show 4294967295 < 18446744073709551616 by decide)]
  rw [show (4294967295 : Nat) = 2 ^ 32 - 1 from rfl, Nat.and_two_pow_sub_one_eq_mod, show (2 : Nat) ^ 32 = 4294967296 from rfl]
  omega
set_option maxHeartbeats 1600000 in
set_option maxRecDepth 100000 in
theorem node_any (p : Nat) (d : ByteArray) (w : World) (hp : p < 18446744073709551616) (hd : d.size ≤ 140737488351232) :
    Calls Tryz.prog 60 #[.int .u64 (p : Int), .string d] w fun e w' => e = .returned (.string (Rec.nodeB p d)) ∧ Below w.heap.size w w' := by
  go_enter Tryz.func60, Tryz.ntmps60
  by_cases h32 : 32 < d.size
  · go_wp2_with fail
    go_ret
    refine ⟨?_, Below.refl _ _⟩
    unfold Rec.nodeB
    rw [if_pos h32]; rfl
  · go_wp2_with (at_make; refine wpList_make_arr rfl _ _ 46 rfl 5 _ 1 Tryz.underlying46 info_u8 rfl .i64 .i64 _ _ 32 rfl rfl rfl rfl (by decide) (by decide) ?_)
    intro w1 HA hb1
    have hcp := run_copy_string (P := Tryz.prog) w1 46 9 3 5 w.heap.size 32 32 d _ 5 Tryz.underlying46 (by kernel_rfl) HA.out (by simp; omega) (by omega)
    have HB := hide hb1
    clear hb1
    go_wp2_with fail
    have HA2 := hide (show Arr w1 w.heap.size 5 (List.replicate 32 (.int .u8 0)) from HA.out)
    obtain ⟨w2, hw2⟩ : ∃ w2, w2 = w1.setCells w.heap.size 0 (List.map byteV (bytesOf d)) := ⟨_, rfl⟩
    rw [← hw2]
    have HB2 := hide (show Below w.heap.size w w2 by rw [hw2]; exact below_setCells (Nat.le_refl _) _ _ _ HB.out)
    have hsl : SlV w2 (.slice (some ⟨w.heap.size, 0, none⟩) 32 32) (((bytesOf d) ++ List.replicate (32 - d.size) (0 : UInt8)).map byteV) := by
      have h := Arr.setCells ((bytesOf d).map byteV) 0 HA2.out (by simp [bytesOf]; omega)
      rw [copied_all (by omega), ← hw2] at h
      have h2 : (bytesOf d).map byteV ++ List.replicate (32 - d.size) (.int .u8 0) = ((bytesOf d) ++ List.replicate (32 - d.size) (0 : UInt8)).map byteV := by
        rw [List.map_append, List.map_replicate]; rfl
      rw [h2] at h
      exact h.slv (by simp [bytesOf]; omega) (Nat.le_refl _)
    have HS := hide hsl
    have hD : (⟨((bytesOf d) ++ List.replicate (32 - d.size) (0 : UInt8)).toArray⟩ : ByteArray) = d ++ Rec.zeroB (32 - d.size) := by
      apply ByteArray.ext; simp [bytesOf, Rec.zeroB]
    obtain ⟨D, hDD⟩ : ∃ D, D = d ++ Rec.zeroB (32 - d.size) := ⟨_, rfl⟩
    obtain ⟨N4, hN4⟩ : ∃ D, D = Rec.numB p 4 := ⟨_, rfl⟩
    have hDs : D.size = 32 := by rw [hDD, ByteArray.size_append, Rec.zeroB_size]; omega
    have hNs : N4.size = 4 := by rw [hN4, Rec.numB_size]
    obtain ⟨X, hX⟩ : ∃ X, X = Rec.sealB (D ++ N4) := ⟨_, rfl⟩
    have HD := hide (And.intro (hD.trans hDD.symm) (And.intro hN4 (And.intro hX hDD)))
    have hsum : D.size + N4.size ≤ 9223372036854775807 := by omega
    have hsum2 : (D ++ N4).size ≤ 4611686018427387904 := by rw [ByteArray.size_append]; omega
    have HZ := hide hsum2
    clear hsl hD hDD hN4 hX hw2 hcp hsum2
    rename_i hrest
    refine wp_region_local (by kernel_rfl) (by kernel_rfl) (useList nodeU) [6] (by kernel_rfl) (spR (nodeL w p D N4 X)) (fun _ _ => True) (Below w2.heap.size w2) (fun _ w w' => Below w.heap.size w w') spR_stays (fun _ _ _ _ _ h _ => h) (fun _ _ => Below.refl _ _) (dsts_lt (N := 19) (by kernel_rfl)) ((Below.refl _ _).drew) (fun _ _ => trivial) (all_ops ?_) ?_
    · refine And.intro ?_ ?_
      · refine lstep_run fun fr wf left => ?_
        have o5 := (left.old 5 (by kernel_rfl)).trans rfl
        refine ⟨wanted_none rfl, fun K hK => ?_⟩
        have hB := hide left.base
        clear left
        go_simp
        exact hK _ _ rfl hB.out (Below.refl _ _)
      refine And.intro ?_ ?_
      · refine lstep_run fun fr wf left => ?_
        obtain ⟨x0, e0, r0⟩ := left.slot 19 rfl 0 13 _ rfl rfl (by decide) rfl
        have s0 := Eq.symm (show x0 = .slice (some ⟨w.heap.size, 0, none⟩) 32 32 from r0)
        subst s0
        refine ⟨wanted_none rfl, fun K hK => ?_⟩
        have hB := hide left.base
        clear left
        refine str_of (.tmp 13) _ _ D rfl (eval_tmp e0) (HS.out.below hB.out) HD.out.1 ?_
        exact hK _ _ rfl hB.out (Below.refl _ _)
      refine And.intro ?_ ?_
      · refine lstep_run fun fr wf left => ?_
        have o0 := (left.old 0 (by kernel_rfl)).trans rfl
        refine ⟨wanted_none rfl, fun K hK => ?_⟩
        have hB := hide left.base
        clear left
        go_simp
        exact hK _ _ rfl hB.out (Below.refl _ _)
      refine And.intro ?_ ?_
      · refine lstep_run fun fr wf left => ?_
        obtain ⟨x2, e2, r2⟩ := left.slot 19 rfl 2 15 _ rfl rfl (by decide) rfl
        have s2 := Eq.symm (show x2 = .int .u64 (p : Int) from r2)
        subst s2
        refine ⟨wanted_none rfl, fun K hK => ?_⟩
        have hB := hide left.base
        clear left
        go_simp
        refine (number_val p 4 N4 _ hp (by decide) HD.out.2.1).mono ?_
        rintro e w' ⟨rfl, hb⟩
        exact hK _ _ rfl (hB.out.trans (hb.mono (le_base hB.out))) hb
      refine And.intro ?_ ?_
      · refine lstep_run fun fr wf left => ?_
        obtain ⟨x1, e1, r1⟩ := left.slot 19 rfl 1 14 _ rfl rfl (by decide) rfl
        have s1 := Eq.symm (show x1 = .string D from r1)
        subst s1
        obtain ⟨x3, e3, r3⟩ := left.slot 19 rfl 3 16 _ rfl rfl (by decide) rfl
        have s3 := Eq.symm (show x3 = .string N4 from r3)
        subst s3
        refine ⟨wanted_none rfl, fun K hK => ?_⟩
        have hB := hide left.base
        clear left
        go_simp
        exact hK _ _ rfl hB.out (Below.refl _ _)
      refine And.intro ?_ ?_
      · refine lstep_run fun fr wf left => ?_
        obtain ⟨x4, e4, r4⟩ := left.slot 19 rfl 4 17 _ rfl rfl (by decide) rfl
        have s4 := Eq.symm (show x4 = .string (D ++ N4) from r4)
        subst s4
        refine ⟨wanted_none rfl, fun K hK => ?_⟩
        have hB := hide left.base
        clear left
        go_simp
        refine (sealed_val (D ++ N4) X _ HZ.out HD.out.2.2.1).mono ?_
        rintro e w' ⟨rfl, hb⟩
        exact hK _ _ rfl (hB.out.trans (hb.mono (le_base hB.out))) hb
      refine And.intro ?_ ?_
      · refine lstep_run fun fr wf left => ?_
        obtain ⟨x5, e5, r5⟩ := left.slot 19 rfl 5 18 _ rfl rfl (by decide) rfl
        have s5 := Eq.symm (show x5 = .string X from r5)
        subst s5
        refine ⟨wanted_none rfl, fun K hK => ?_⟩
        have hB := hide left.base
        clear left
        go_simp
        exact hK _ _ rfl hB.out (Below.refl _ _)
      exact trivial
    · intro fr wf hB _ hd hall _
      have hv : fr.tmps.getD 4 undef = .string X := hall 6 _ rfl (by simp)
      refine hrest _ _ (wp_ret ?_)
      exact bodyPost_ret (by rw [results_tmp rfl, hv]) hd ⟨by rw [HD.out.2.2.1, HD.out.2.2.2, HD.out.2.1]; unfold Rec.nodeB; rw [if_neg h32], HB2.out.trans (hB.mono HB2.out.size)⟩
namespace Rec
def nodeOk (k p : Nat) (s : ByteArray) : Bool := s.size == 40 && wholeB s && (small (((bytesOf s).drop 32).take 4) == p % 4294967296) && (((bytesOf s).drop k).take (32 - k)).all (· == 0)
def readNodeV (k : Int) (p : Nat) (s : ByteArray) : Value :=
  if k < 1 ∨ 32 < k then .tuple #[.string ⟨#[]⟩, .int .i64 70]
  else if nodeOk k.toNat p s = true then .tuple #[.string ⟨((bytesOf s).take k.toNat).toArray⟩, .int .i64 0] else .tuple #[.string ⟨#[]⟩, .int .i64 180]
end Rec
set_option maxHeartbeats 1600000 in
set_option maxRecDepth 100000 in
theorem readNode_any (k : Int) (p : Nat) (s : ByteArray) (w : World) (hk : (Lit.int .i64 k).wf = true) (hp : p < 18446744073709551616) (hs : s.size ≤ 140737488351232) :
    Calls Tryz.prog 80 #[.int .i64 k, .int .u64 (p : Int), .string s] w fun e w' => e = .returned (Rec.readNodeV k p s) ∧ Below w.heap.size w w' := by
  have hcv := fun w s => run_bytes_of_string (P := Tryz.prog) w 9 46 5 s Tryz.underlying9 Tryz.underlying46 Tryz.underlying5
  obtain ⟨r, hr⟩ : ∃ r, r = Rec.readNodeV k p s := ⟨_, rfl⟩
  rw [← hr]
  have HR := hide hr
  clear hr
  go_enter Tryz.func80, Tryz.ntmps80
  by_cases hk1 : k < 1
  · go_wp2_with fail
    go_ret2
    refine ⟨?_, Below.refl _ _⟩
    rw [HR.out]; unfold Rec.readNodeV; rw [if_pos (.inl hk1)]; rfl
  by_cases hk2 : 32 < k
  · go_wp2_with fail
    go_ret2
    refine ⟨?_, Below.refl _ _⟩
    rw [HR.out]; unfold Rec.readNodeV; rw [if_pos (.inr hk2)]; rfl
  obtain ⟨kn, rfl⟩ : ∃ kn : Nat, k = kn := ⟨k.toNat, by omega⟩
  by_cases h40 : s.size = 40
  · have h40i : (s.size : Int) = 40 := by omega
    have HZ := hide h40
    clear h40
    go_wp2_with fail
    refine (whole_any s _ (by omega) (by omega)).mono ?_
    rintro e w1 ⟨rfl, hb1⟩
    have HB1 := hide hb1
    clear hb1
    obtain ⟨b, hb⟩ : ∃ b, b = Rec.wholeB s := ⟨_, rfl⟩
    rw [← hb]
    have HW := hide hb
    clear hb
    cases b with
    | false =>
      go_wp2_with fail
      go_ret2
      refine ⟨?_, HB1.out⟩
      rw [HR.out]; unfold Rec.readNodeV; rw [if_neg (by omega), if_neg]
      · rfl
      · unfold Rec.nodeOk; rw [← HW.out]; simp
    | true =>
      go_wp2_with fail
      have HC0 := grownCap_ge w1 s.size 0 5
      generalize grownCap w1 s.size 0 5 = cap at HC0 ⊢
      have hcap : 40 ≤ cap := by omega
      obtain ⟨W2, hW2⟩ : ∃ W2, (w1.alloc (.cells (bytesRow s cap) 5 ((bytesRow s cap).size, (bytesRow s cap).size + 1))).drew = W2 := ⟨_, rfl⟩
      have HA0 := hide (show Arr W2 w1.heap.size _ _ by rw [← hW2]; exact arr_bytes w1 s cap 5)
      have HBW := hide (show Below w.heap.size w W2 by rw [← hW2]; exact (HB1.out.alloc HB1.out.size _).drew)
      rw [hW2]
      clear hW2 hcv
      have hl : ((bytesOf s).map byteV).length = 40 := by simp [bytesOf]; omega
      have HS1 := hide (show SlV W2 (.slice (some ⟨w1.heap.size, 0, none⟩) kn kn) (((bytesOf s).take kn).map byteV) by
        have h := HA0.out.slv_sub (off := 0) (n := kn) (cap := kn) (by omega) (Nat.le_refl _)
        rw [List.drop_zero, ← List.map_take] at h; exact h)
      have HS2 := hide (show SlV W2 (.slice (if 32 = kn then some ⟨w1.heap.size, 0, none⟩ else some ⟨w1.heap.size, kn, none⟩) (32 - kn) (32 - kn)) ((((bytesOf s).drop kn).take (32 - kn)).map byteV) by
        split
        · have hz : 32 - kn = 0 := by omega
          rw [hz]
          exact .inl ⟨rfl, _, _, rfl, fun h => by cases h⟩
        · have h := HA0.out.slv_sub (off := kn) (n := 32 - kn) (cap := 32 - kn) (by omega) (Nat.le_refl _)
          rw [← List.map_drop, ← List.map_take] at h; exact h)
      have HS3 := hide (show SlV W2 (.slice (some ⟨w1.heap.size, 32, none⟩) 4 4) ((((bytesOf s).drop 32).take 4).map byteV) by
        have h := HA0.out.slv_sub (off := 32) (n := 4) (cap := 4) (by omega) (Nat.le_refl _)
        rw [← List.map_drop, ← List.map_take] at h; exact h)
      clear HA0 hl
      go_quiet (fail)
      generalize (if 32 = kn then some (⟨w1.heap.size, 0, none⟩ : Addr) else some ⟨w1.heap.size, kn, none⟩) = ad at HS2 ⊢
      obtain ⟨W3, hW3⟩ : ∃ W3, W3 = W2.drewN nq := ⟨_, rfl⟩
      rw [← hW3]
      have HB3 := hide (show Below w.heap.size w W3 by rw [hW3]; exact below_drewN HBW.out nq)
      have hd3 : Below W2.heap.size W2 W3 := by rw [hW3]; exact below_drewN (Below.refl _ _) nq
      have HT1 := hide (HS1.out.below hd3)
      have HT2 := hide (HS2.out.below hd3)
      have HT3 := hide (HS3.out.below hd3)
      clear hW3 hd3 HS1 HS2 HS3
      obtain ⟨v, hv⟩ : ∃ v, v = Rec.small (((bytesOf s).drop 32).take 4) := ⟨_, rfl⟩
      have HV := hide hv
      clear hv
      have hl4 : (((bytesOf s).drop 32).take 4).length ≤ 8 := by simp; omega
      have HL4 := hide hl4
      clear hl4
      have hand : bits .and .u64 (p : Int) 4294967295 = ((p % 4294967296 : Nat) : Int) := and_low p hp
      go_wp2_with fail
      refine (value_any _ _ _ HT3.out HL4.out).mono ?_
      rw [← HV.out]
      rintro e w4 ⟨rfl, hb4⟩
      have HB4 := hide (below_next HB3.out hb4)
      have HU1 := hide (HT1.out.below hb4)
      have HU2 := hide (HT2.out.below hb4)
      clear hb4 HT1 HT2
      by_cases hpv : v = p % 4294967296
      · have hpi : ((v : Int) == ((p % 4294967296 : Nat) : Int)) = true := by rw [hpv]; simp
        obtain ⟨L, hL⟩ : ∃ L, L = ((bytesOf s).drop kn).take (32 - kn) := ⟨_, rfl⟩
        rw [← hL] at HU2
        have hll : L.length = 32 - kn := by rw [hL]; simp [bytesOf]; have := HZ.out; omega
        have HL := hide hL
        have HLL := hide hll
        clear hL hll
        go_wp2_with fail
        go_loopg [46] (32 - kn) (fun g v46 wr => wr = w4 ∧ ∃ i : Nat, i ≤ 32 - kn ∧ g = 32 - kn - i ∧ v46 = .int .i64 i ∧ Hid (∀ c ∈ L.take i, c = 0))
        case atStart => exact ⟨rfl, 0, by omega, rfl, rfl, by simp [Hid]⟩
        case round =>
          obtain ⟨rfl, i, hi, rfl, rfl, HX⟩ := hrel
          by_cases hin : i < 32 - kn
          · obtain ⟨len0, a0, cap0, hl0, hv0, _, hcl⟩ := HU2.out.form
            injection hv0 with e1 e2 e3
            rw [List.length_map, HLL.out] at hl0
            subst e1
            obtain ⟨b0, off, rfl, hbw, hcell⟩ := hcl i (by omega)
            have hil : i < L.length := by rw [HLL.out]; exact hin
            rw [getD_map _ _ _ 0 hil] at hcell
            obtain ⟨c, hc⟩ : ∃ c, c = L.getD i 0 := ⟨_, rfl⟩
            rw [← hc] at hcell
            unfold byteV at hcell
            have HC := hide hc
            have HIL := hide hil
            clear hcl hl0 e2 e3 hc hil
            by_cases hc0 : c = 0
            · have hci : ((c.toNat : Int) == 0) = true := by rw [hc0]; rfl
              go_wp2
              go_roundg (32 - kn - (i + 1))
              case measure => omega
              case rel =>
                refine ⟨rfl, i + 1, by omega, rfl, by go_num, ?_⟩
                intro d hd
                rw [List.take_succ_eq_append_getElem HIL.out, List.mem_append] at hd
                rcases hd with hd | hd
                · exact HX.out d hd
                · rw [List.mem_singleton.1 hd, ← hc0, HC.out]
                  simp [List.getD, HIL.out]
            · have hci : ((c.toNat : Int) == 0) = false := by
                rw [beq_eq_false_iff_ne]
                intro h
                exact hc0 (UInt8.toNat_inj.1 (by simpa using h))
              go_wp2
              go_ret2
              refine ⟨?_, HB4.out⟩
              rw [HR.out]; unfold Rec.readNodeV; rw [if_neg (by omega), if_neg]
              · rfl
              · unfold Rec.nodeOk
                rw [show ((kn : Int)).toNat = kn from rfl, ← HL.out]
                intro h
                have h2 : L.all (· == 0) = true := by
                  rw [Bool.and_eq_true] at h; exact h.2
                have := List.all_eq_true.1 h2 c (by rw [HC.out]; simp [List.getD, HIL.out])
                exact hc0 (by simpa using this)
          · have hi' : i = 32 - kn := by omega
            subst hi'
            have hcs := run_bytes_string (P := Tryz.prog) (w := wr) 46 9 5 Tryz.underlying46 Tryz.underlying5 Tryz.underlying9 HU1.out
            go_wp2
            go_ret2
            refine ⟨?_, HB4.out⟩
            rw [HR.out]; unfold Rec.readNodeV; rw [if_neg (by omega), if_pos]
            · rfl
            · unfold Rec.nodeOk
              have h2 : L.all (· == 0) = true := by
                rw [List.all_eq_true]
                intro c hc
                have := HX.out c (by rw [List.take_of_length_le (by rw [HLL.out]; exact Nat.le_refl _)]; exact hc)
                rw [this]; rfl
              rw [show ((kn : Int)).toNat = kn from rfl, ← HL.out, h2, ← HV.out, ← HW.out, HZ.out, hpv]
              simp
      · have hpi : ((v : Int) == ((p % 4294967296 : Nat) : Int)) = false := by rw [beq_eq_false_iff_ne]; omega
        go_wp2_with fail
        go_ret2
        refine ⟨?_, HB4.out⟩
        rw [HR.out]; unfold Rec.readNodeV; rw [if_neg (by omega), if_neg]
        · rfl
        · unfold Rec.nodeOk
          rw [← HV.out]
          simp [hpv]
  · have h40i : ¬ (s.size : Int) = 40 := by omega
    go_wp2_with fail
    go_ret2
    refine ⟨?_, Below.refl _ _⟩
    rw [HR.out]; unfold Rec.readNodeV; rw [if_neg (by omega), if_neg]
    · rfl
    · unfold Rec.nodeOk; simp [h40]
end Go.Proofs.YtbfbajfdlkgloaaGreatDoor
