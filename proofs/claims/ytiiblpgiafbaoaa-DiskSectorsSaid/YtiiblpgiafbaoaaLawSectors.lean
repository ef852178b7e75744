/-
  massiflaw17.DiskSectors answers true: the walk.
-/
import Derived.Test.YtiiblpgiafbaoaaEditW
import Derived.Deep.CutBlock
namespace Go.Proofs.Ytiiblpgiafbaoaa
open Go Go.RowKit Go.Maps
theorem bnot_mk {p q : Bool} (h : p = true ∨ q = true) : (!p && !q) = false := by cases p <;> cases q <;> simp_all
/-- Are the bytes from a place on, up to i, those of another text? -/
def eqUp (x y : ByteArray) (s i : Nat) : Bool := decide (∀ k, k < i → s ≤ k → byt x k = byt y k)
theorem eqUp_start (x y : ByteArray) (s : Nat) : eqUp x y s s = true := decide_eq_true fun k h1 h2 => by omega
theorem eqUp_succ (x y : ByteArray) (s i : Nat) (h : s ≤ i) : eqUp x y s (i + 1) = (eqUp x y s i && decide (byt x i = byt y i)) := by
  unfold eqUp
  rw [Bool.eq_iff_iff, Bool.and_eq_true, decide_eq_true_iff, decide_eq_true_iff, decide_eq_true_iff]
  constructor
  · intro hh
    exact ⟨fun k h1 h2 => hh k (by omega) h2, hh i (by omega) h⟩
  · rintro ⟨h1, h2⟩ k h3 h4
    by_cases e : k = i
    · rw [e]; exact h2
    · exact h1 k (by omega) h4
theorem u8_beq (a b : UInt8) : (((a.toNat : Int)) == (b.toNat : Int)) = decide (a = b) := by
  rw [Bool.eq_iff_iff, beq_iff_eq, decide_eq_true_iff]
  constructor
  · intro h; exact UInt8.toNat_inj.1 (by omega)
  · rintro rfl; rfl
set_option maxHeartbeats 16000000 in
set_option maxRecDepth 100000 in
theorem sectors_any (was0 : ByteArray) (v1 v2 : Value) (eds : List Dk.EditV) (keep : List Bool) (w : World) (hw0 : was0.size ≤ 140737488351232) (h1 : EdsAt w v1 eds) (hl1 : eds.length ≤ 140737488351232) (h2 : SlV w v2 (keep.map Value.bool)) (hl2 : keep.length ≤ 140737488351232) :
    Calls Try.prog 5 #[.string was0, v1, v2] w fun e w' => e = .returned (.bool true) ∧ Below w.heap.size w w' := by
  have H1 := hide h1
  have H2 := hide h2
  have HKL := hide hl2
  obtain ⟨len1, a1, cap1, e1, rfl, e2, e3⟩ := h1.form
  obtain ⟨len2, a2, cap2, e4, rfl, e5, e6⟩ := h2.form
  clear h1 h2 e1 e2 e3 e4 e5 e6
  go_enter Try.func5, Try.ntmps5
  go_wp2_with fail
  refine (alive_any _).mono ?_
  rintro e w1 ⟨rfl, hb1⟩
  have HB1 := hide hb1
  clear hb1
  go_wp2_with fail
  obtain ⟨was, hwas⟩ : ∃ x, x = Dk.short was0 1500 := ⟨_, rfl⟩
  have HWS := hide (show was.size ≤ 1500 by rw [hwas]; exact Dk.short_size _ _)
  refine (short_val was0 1500 was w1 hw0 (by decide) hwas.symm).mono ?_
  rintro e wx ⟨rfl, he⟩
  subst he
  clear hwas
  go_wp2_with fail
  refine (edited_any was _ eds wx HWS.out (H1.out.below HB1.out) hl1).mono ?_
  rintro e w2 ⟨D, k, rfl, hk, hd, hn, hg, hm, hkv, hb⟩
  obtain ⟨now, hnow⟩ : ∃ x, x = Dk.editAll (eds.take 12) was := ⟨_, rfl⟩
  rw [← hnow] at hd hn
  have HN := hide (And.intro hn hk)
  have HD := hide hd
  have HB2 := hide (HB1.out.trans (hb.mono HB1.out.size))
  have HG := hide (show w.heap.size ≤ D.g ∧ w.heap.size ≤ D.mb from ⟨Nat.le_trans HB1.out.size hg, Nat.le_trans HB1.out.size hm⟩)
  clear hd hn hg hm hkv hb hk hnow
  obtain ⟨s, hs⟩ : ∃ s, s = Dk.oneSt now was k := ⟨_, rfl⟩
  have HS := hide hs
  rw [← hs] at HD
  clear hs
  go_wp2_with fail
  refine (files_val D s (Dk.tf now) w2 HD.out (by rw [HS.out]; exact Dk.one_files now was k)).mono ?_
  rintro e w3 ⟨n3, b3, c3, rfl, hl3, hs3, hb3⟩
  have H3 := hide (And.intro hs3 (And.intro (HD.out.past hb3) (HB2.out.trans (hb3.mono HB2.out.size))))
  clear hs3 hb3 hl3
  go_wp2_with fail
  refine (file_any _ now w3 H3.out.1).mono ?_
  rintro e w4 ⟨rfl, hb⟩
  have H4 := hide (And.intro (H3.out.2.1.past hb) (H3.out.2.2.trans (hb.mono H3.out.2.2.size)))
  clear hb
  go_wp2_with fail
  obtain ⟨x, hx⟩ : ∃ x, x = (Dk.afterF keep ⟨now, was⟩ 0).1 := ⟨_, rfl⟩
  have HX := hide hx
  clear hx
  refine (after_val D s _ keep (Dk.tf x) w4 H4.out.1 (H2.out.below H4.out.2) HKL.out (by rw [HS.out, HX.out]; exact Dk.one_after now was k keep)).mono ?_
  rintro e w5 ⟨n5, b5, c5, rfl, hl5, hs5, hb5⟩
  have H5 := hide (And.intro hs5 (And.intro (H4.out.1.past hb5) (H4.out.2.trans (hb5.mono H4.out.2.size))))
  clear hs5 hb5 hl5
  go_wp2_with fail
  refine (file_any _ x w5 H5.out.1).mono ?_
  rintro e w6 ⟨rfl, hb⟩
  have H6 := hide (And.intro (H5.out.2.1.past hb) (H5.out.2.2.trans (hb.mono H5.out.2.2.size)))
  clear hb
  go_wp2_with fail
  have hal : Below w6.heap.size w6 (w6.alloc (.cells #[.bool true] 4)) := (Below.refl _ _).alloc (Nat.le_refl _) _
  refine (after_val D s _ [true] (Dk.tf now) _ (H6.out.1.past hal) (slv_new w6 [.bool true] 4 1 rfl) (by decide) (by rw [HS.out, Dk.one_after, Dk.after_true _ _ Dk.choose_t])).mono ?_
  rintro e w7 ⟨n7, b7, c7, rfl, hl7, hs7, hb7⟩
  have H7 := hide (And.intro hs7 (And.intro ((H6.out.1.past hal).past hb7) (H6.out.2.trans ((hal.trans (hb7.mono hal.size)).mono H6.out.2.size))))
  clear hs7 hb7 hl7 hal
  go_wp2_with fail
  refine (file_any _ now w7 H7.out.1).mono ?_
  rintro e w8 ⟨rfl, hb⟩
  have H8 := hide (And.intro (H7.out.2.1.past hb) (H7.out.2.2.trans (hb.mono H7.out.2.2.size)))
  clear hb
  go_wp2_with fail
  have hal : Below w8.heap.size w8 (w8.alloc (.cells #[.bool false, .bool false] 4)) := (Below.refl _ _).alloc (Nat.le_refl _) _
  refine (after_val D s _ [false, false] (Dk.tf was) _ (H8.out.1.past hal) (slv_new w8 [.bool false, .bool false] 4 2 rfl) (by decide) (by rw [HS.out, Dk.one_after, Dk.after_false _ _ Dk.choose_ff])).mono ?_
  rintro e w9 ⟨n9, b9, c9, rfl, hl9, hs9, hb9⟩
  have H9 := hide (And.intro hs9 (And.intro ((H8.out.1.past hal).past hb9) (H8.out.2.trans ((hal.trans (hb9.mono hal.size)).mono H8.out.2.size))))
  clear hs9 hb9 hl9 hal
  go_wp2_with fail
  refine (file_any _ was w9 H9.out.1).mono ?_
  rintro e wA ⟨rfl, hb⟩
  have HA := hide (And.intro (H9.out.2.1.past hb) (H9.out.2.2.trans (hb.mono H9.out.2.2.size)))
  clear hb
  go_wp2_with fail
  refine (after_val D s _ [] (Dk.tf was) wA HA.out.1 (SlV.nil _) (by decide) (by rw [HS.out, Dk.one_after, Dk.after_false _ _ Dk.choose_nil])).mono ?_
  rintro e wB ⟨nB, bB, cB, rfl, hlB, hsB, hbB⟩
  have HBB := hide (And.intro hsB (And.intro (HA.out.1.past hbB) (HA.out.2.trans (hbB.mono HA.out.2.size))))
  clear hsB hbB hlB
  go_wp2_with fail
  refine (file_any _ was wB HBB.out.1).mono ?_
  rintro e wC ⟨rfl, hb⟩
  have HC := hide (And.intro (HBB.out.2.1.past hb) (HBB.out.2.2.trans (hb.mono HBB.out.2.2.size)))
  clear hb
  have hxs : x.size = now.size ∨ x.size = was.size := by rw [HX.out]; exact Dk.stay_len ⟨now, was⟩ keep
  have HXS := hide (show x.size ≤ 6300 by have := HN.out.1; have := HWS.out; rcases hxs with h | h <;> omega)
  have HSEC := hide (show ∀ s, (∀ i, s * 64 ≤ i → i < s * 64 + 64 → i < x.size → byt x i = byt now i) ∨ (∀ i, s * 64 ≤ i → i < s * 64 + 64 → i < x.size → byt x i = byt was i) by rw [HX.out]; exact Dk.stay_sector ⟨now, was⟩ keep)
  have HXL := hide hxs
  clear hxs
  go_upto_region 12 with (fail)
  go_cut [112] from 66 to 113 (fun v112 wx => Hid (v112 = .bool false ∧ wx = wC))
  case first =>
    by_cases hq : x.size = now.size
    · have hq1 : decide ((x.size : Int) = now.size) = true := decide_eq_true (by omega)
      have hq2 : ((x.size : Int) != (now.size : Int)) = false := by simp [bne]; omega
      clear hq
      go_wp2_with fail
      go_meet
      case rel => exact ⟨rfl, rfl⟩
    · have hq3 : x.size = was.size := by rcases HXL.out with h | h; exact absurd h hq; exact h
      have hq1 : decide ((x.size : Int) = was.size) = true := decide_eq_true (by omega)
      have hq2 : ((x.size : Int) != (was.size : Int)) = false := by simp [bne]; omega
      clear hq hq3
      go_wp2_with fail
      all_goals
        go_meet
        case rel => exact ⟨rfl, rfl⟩
  case rest =>
    obtain ⟨rfl, rfl⟩ := hcut.out
    clear hcut
    go_upto_block 0 with (fail)
    go_cut [] from 18 to 161 (fun wx => Hid (Below wc.heap.size wc wx))
    case first =>
      go_wp2_with fail
      go_loopg [18] 6400 (fun g v18 wr => ∃ s : Nat, g = 6400 - s ∧ s ≤ 6400 ∧ v18 = .int .i64 s ∧ Hid (Below wc.heap.size wc wr))
      case atStart => exact ⟨0, rfl, by omega, rfl, Below.refl _ _⟩
      case round =>
        obtain ⟨s, rfl, hs, rfl, HR⟩ := hrel
        by_cases hlt : 64 * s < x.size
        · have hlt2 : (64 : Int) * s < x.size := by omega
          have hs2 : s ≤ 6300 := by have := HXS.out; omega
          go_upto_block 2 with (fail)
          go_cut [19, 20, 21] from 122 to 155 (fun v19 v20 v21 wx => Hid (∃ p q : Bool, v19 = .bool p ∧ v20 = .bool q ∧ (p = true ∨ q = true) ∧ Below wr.heap.size wr wx))
          case first =>
            go_wp2_with fail
            go_loopg [19, 20, 21] (6400 - 64 * s) (fun g v19 v20 v21 wq => ∃ i : Nat, g = 6400 - i ∧ i ≤ 6399 ∧ 64 * s ≤ i ∧ i ≤ 64 * s + 64 ∧ i ≤ x.size ∧ v21 = .int .i64 i ∧ v19 = .bool (eqUp x now (64 * s) i) ∧ v20 = .bool (eqUp x was (64 * s) i) ∧ Hid (Below wr.heap.size wr wq))
            case atStart => exact ⟨64 * s, rfl, by have := HXS.out; omega, by omega, by omega, by omega, by go_num, by rw [eqUp_start], by rw [eqUp_start], Below.refl _ _⟩
            case round =>
              obtain ⟨i, rfl, hi, hi0, hi1, hix, rfl, rfl, rfl, HQ⟩ := hrel
              obtain ⟨p, hp⟩ : ∃ p, p = eqUp x now (64 * s) i := ⟨_, rfl⟩
              obtain ⟨q, hq⟩ : ∃ q, q = eqUp x was (64 * s) i := ⟨_, rfl⟩
              rw [← hp, ← hq]
              have HPQ := hide (And.intro hp hq)
              clear hp hq
              by_cases hb : i < 64 * s + 64 ∧ i < x.size
              · have hb1 : (i : Int) < 64 * s + 64 := by omega
                have hb2 : (i : Int) < x.size := by omega
                have hb3 : i < x.size := hb.2
                have HI := hide (show i ≤ 6300 by have := HXS.out; omega)
                have HXI := hide (byt_lt hb3)
                obtain ⟨p2, hp2⟩ : ∃ p2, p2 = (p && decide (byt x i = byt now i)) := ⟨_, rfl⟩
                obtain ⟨q2, hq2⟩ : ∃ q2, q2 = (q && decide (byt x i = byt was i)) := ⟨_, rfl⟩
                have HP2 := hide hp2
                have HQ2 := hide hq2
                clear hp2 hq2 hb
                go_upto_region 21 with (fail)
                go_cut [19] from 135 to 145 (fun v19 wx => Hid (v19 = .bool p2 ∧ Below wr.heap.size wr wx))
                case first =>
                  cases p with
                  | false =>
                    go_quiet (fail)
                    go_wp2_with fail
                    go_meet
                    case rel => exact ⟨by rw [HP2.out]; rfl, below_drewN (Below.refl _ _) _⟩
                  | true =>
                    obtain ⟨y, hy⟩ : ∃ y, y = byt now i := ⟨_, rfl⟩
                    have HY := hide hy
                    clear hy
                    go_quiet ((go_at_call 27; exact Calls.quiet_of_same (at_val now i y _ (by have := HN.out.1; omega) (by have := HI.out; omega) HY.out.symm)))
                    go_wp2_with fail
                    go_meet
                    case rel =>
                      refine ⟨?_, below_drewN (Below.refl _ _) _⟩
                      rw [HP2.out, HXI.out, ← HY.out, u8_beq]
                      rfl
                case rest =>
                  obtain ⟨rfl, hb21⟩ := hcut.out
                  have HB21 := hide hb21
                  clear hcut hb21
                  cases q with
                  | false =>
                    go_upto_region 22 with (fail)
                    go_quiet (fail)
                    obtain ⟨W9, hW9⟩ : ∃ V, V = World.drewN wc nq := ⟨_, rfl⟩
                    rw [← hW9]
                    have HB22 := hide (show Below wr.heap.size wr W9 by rw [hW9]; exact HB21.out.trans (below_drewN ((Below.refl _ _).mono HB21.out.size) _))
                    clear hW9
                    go_wp2_with fail
                    go_roundg (6400 - (i + 1))
                    case measure => omega
                    case rel => exact ⟨i + 1, rfl, by have := HI.out; omega, by omega, by omega, by omega, by go_num, by rw [eqUp_succ _ _ _ _ hi0, HP2.out, HPQ.out.1], by rw [eqUp_succ _ _ _ _ hi0, ← HPQ.out.2]; rfl, HQ.out.trans (HB22.out.mono HQ.out.size)⟩
                  | true =>
                    obtain ⟨y, hy⟩ : ∃ y, y = byt was i := ⟨_, rfl⟩
                    have HY := hide hy
                    clear hy
                    go_upto_region 22 with (fail)
                    go_quiet ((go_at_call 27; exact Calls.quiet_of_same (at_val was i y _ (by have := HWS.out; omega) (by have := HI.out; omega) HY.out.symm)))
                    obtain ⟨W9, hW9⟩ : ∃ V, V = World.drewN wc nq := ⟨_, rfl⟩
                    rw [← hW9]
                    have HB22 := hide (show Below wr.heap.size wr W9 by rw [hW9]; exact HB21.out.trans (below_drewN ((Below.refl _ _).mono HB21.out.size) _))
                    clear hW9
                    go_wp2_with fail
                    go_roundg (6400 - (i + 1))
                    case measure => omega
                    case rel =>
                      have hq2 : eqUp x was (64 * s) (i + 1) = decide (byt x i = byt was i) := by rw [eqUp_succ _ _ _ _ hi0, ← HPQ.out.2]; rfl
                      exact ⟨i + 1, rfl, by have := HI.out; omega, by omega, by omega, by omega, by go_num, by rw [eqUp_succ _ _ _ _ hi0, HP2.out, HPQ.out.1], by rw [hq2, HXI.out, ← HY.out, ← u8_beq], HQ.out.trans (HB22.out.mono HQ.out.size)⟩
              · have hend : p = true ∨ q = true := by
                  rw [HPQ.out.1, HPQ.out.2]
                  rcases HSEC.out s with h | h
                  · exact .inl (decide_eq_true fun k h1 h2 => h k (by omega) (by omega) (by omega))
                  · exact .inr (decide_eq_true fun k h1 h2 => h k (by omega) (by omega) (by omega))
                have HEND := hide hend
                clear hend
                by_cases hb1 : i < 64 * s + 64
                · have hb2 : ¬ (i : Int) < x.size := by omega
                  have hb3 : (i : Int) < 64 * s + 64 := by omega
                  clear hb
                  go_wp2_with fail
                  go_meet
                  case rel => exact ⟨p, q, rfl, rfl, HEND.out, HQ.out⟩
                · have hb3 : ¬ (i : Int) < 64 * s + 64 := by omega
                  clear hb
                  go_wp2_with fail
                  go_meet
                  case rel => exact ⟨p, q, rfl, rfl, HEND.out, HQ.out⟩
          case rest =>
            obtain ⟨p, q, rfl, rfl, hpq, hb⟩ := hcut.out
            have HBR := hide (HR.out.trans (hb.mono HR.out.size))
            clear hcut hb
            rcases p with _ | _
            · have hq : q = true := by rcases hpq with h | h; cases h; exact h
              subst hq
              clear hpq
              go_wp2_with fail
              go_roundg (6400 - (s + 1))
              case measure => omega
              case rel => exact ⟨s + 1, rfl, by omega, by go_num, HBR.out⟩
            · clear hpq
              go_wp2_with fail
              go_roundg (6400 - (s + 1))
              case measure => omega
              case rel => exact ⟨s + 1, rfl, by omega, by go_num, HBR.out⟩
        · have hlt2 : ¬ (64 : Int) * s < x.size := by omega
          clear hlt
          go_wp2_with fail
          go_meet
          case rel => exact HR.out
    case rest =>
      have HZ := hide (HC.out.2.trans (hcut.out.mono HC.out.2.size))
      have HDZ := hide (HC.out.1.past hcut.out)
      clear hcut
      go_wp2_with fail
      refine (sync_val D s (Dk.oneSt now now (k + 1)) Dk.fN 0 wc HDZ.out (by decide) (by rw [HS.out]; rfl) (by rw [HS.out]; show k < _; have := HN.out.2; omega) (by rw [HS.out]; show 1 < _; decide) (by rw [HS.out]; exact Dk.one_sync now was k)).mono ?_
      rintro e wY ⟨rfl, hd, hmv⟩
      have HY := hide (And.intro hd (HZ.out.trans (hmv.below HZ.out.size (fun j hj => by rcases hj with h | h; exact h ▸ HG.out.1; exact h ▸ HG.out.2))))
      clear hd hmv
      go_wp2_with fail
      refine (after_val D _ _ keep (Dk.tf now) wY HY.out.1 (H2.out.below HY.out.2) HKL.out (by rw [Dk.one_after, Dk.after_synced])).mono ?_
      rintro e wV ⟨nV, bV, cV, rfl, hlV, hsV, hbV⟩
      have HV := hide (And.intro hsV (HY.out.2.trans (hbV.mono HY.out.2.size)))
      clear hsV hbV hlV
      go_wp2_with fail
      refine (file_any _ now wV HV.out.1).mono ?_
      rintro e wU ⟨rfl, hb⟩
      have HU := hide (HV.out.2.trans (hb.mono HV.out.2.size))
      clear hb
      go_wp2_with fail
      go_ret
      exact ⟨rfl, HU.out⟩
#print axioms sectors_any
end Go.Proofs.Ytiiblpgiafbaoaa
