/-
  massiflaw17.DiskChosen answers true: the walk.
-/
import Derived.Test.YtiiblpgiafbaoaaEditW
import Derived.Test.YtiiblpgiafbaoaaChosenPure
import Derived.Deep.CutBlock
namespace Go.Proofs.Ytiiblpgiafbaoaa
open Go Go.RowKit Go.Maps
theorem info_int : (Try.prog.info? 3).map (fun i => (i.zero, i.size, i.bytes)) = some (some (.int .i64 0), 1, 8) := by kernel_rfl
theorem info_boolc : (Try.prog.info? 4).map (fun i => (i.zero, i.size, i.bytes)) = some (some (.bool false), 1, 1) := by kernel_rfl
def intV (x : Int) : Value := .int .i64 x
theorem not_eqUp_succ (x y : ByteArray) (s i : Nat) (h : s ≤ i) : (!eqUp x y s (i + 1)) = (!eqUp x y s i || !decide (byt x i = byt y i)) := by
  rw [eqUp_succ x y s i h, Bool.not_and]
theorem u8_bne (a b : UInt8) : (((a.toNat : Int)) != (b.toNat : Int)) = !decide (a = b) := by
  have : (((a.toNat : Int)) == (b.toNat : Int)) = decide (a = b) := by
    rw [Bool.eq_iff_iff, beq_iff_eq, decide_eq_true_iff]
    constructor
    · intro h; exact UInt8.toNat_inj.1 (by omega)
    · rintro rfl; rfl
  rw [bne, this]
set_option maxHeartbeats 16000000 in
set_option maxRecDepth 100000 in
theorem chosen_any (was0 : ByteArray) (v1 : Value) (eds : List Dk.EditV) (only0 : Int) (w : World) (hw0 : was0.size ≤ 140737488351232) (h1 : EdsAt w v1 eds) (hl1 : eds.length ≤ 140737488351232) (ho0 : (Lit.int .i64 only0).wf = true) :
    Calls Try.prog 6 #[.string was0, v1, .int .i64 only0] w fun e w' => e = .returned (.bool true) ∧ Below w.heap.size w w' := by
  have H1 := hide h1
  obtain ⟨len1, a1, cap1, e1, rfl, e2, e3⟩ := h1.form
  clear h1 e1 e2 e3
  go_enter Try.func6, Try.ntmps6
  go_wp2_with fail
  refine (alive_any _).mono ?_
  rintro e w1 ⟨rfl, hb1⟩
  have HB1 := hide hb1
  clear hb1
  go_wp2_with fail
  obtain ⟨was, hwas⟩ : ∃ x, x = Dk.short was0 1500 := ⟨_, rfl⟩
  have HWS := hide (show was.size ≤ 1500 by rw [hwas]; exact Dk.short_size _ _)
  refine (short_val was0 1500 was w1 hw0 (by decide) hwas.symm).mono ?_
  rintro e wx ⟨rfl, he⟩
  subst he
  clear hwas
  go_wp2_with fail
  refine (edited_any was _ eds wx HWS.out (H1.out.below HB1.out) hl1).mono ?_
  rintro e w2 ⟨D, k, rfl, hk, hd, hn, hg, hm, hkv, hb⟩
  obtain ⟨now, hnow⟩ : ∃ x, x = Dk.editAll (eds.take 12) was := ⟨_, rfl⟩
  rw [← hnow] at hd hn
  have HN := hide (And.intro hn hk)
  have HD := hide hd
  have HB2 := hide (HB1.out.trans (hb.mono HB1.out.size))
  have HG := hide (show w.heap.size ≤ D.g ∧ w.heap.size ≤ D.mb from ⟨Nat.le_trans HB1.out.size hg, Nat.le_trans HB1.out.size hm⟩)
  have HG2 := hide (show D.g < w2.heap.size ∧ D.mb < w2.heap.size ∧ D.kv = .slice none 0 0 from ⟨hd.glt, hd.map.lt, hkv⟩)
  clear hd hn hg hm hkv hb hk hnow
  obtain ⟨s, hs⟩ : ∃ s, s = Dk.oneSt now was k := ⟨_, rfl⟩
  have HS := hide hs
  rw [← hs] at HD
  clear hs
  go_wp2_with fail
  refine (files_val D s (Dk.tf now) w2 HD.out (by rw [HS.out]; exact Dk.one_files now was k)).mono ?_
  rintro e w3 ⟨n3, b3, c3, rfl, hl3, hs3, hb3⟩
  have H3 := hide (And.intro hs3 (And.intro (HD.out.past hb3) (HB2.out.trans (hb3.mono HB2.out.size))))
  clear hs3 hb3 hl3
  go_wp2_with fail
  refine (file_any _ now w3 H3.out.1).mono ?_
  rintro e w4 ⟨rfl, hb⟩
  have H4 := hide (And.intro (H3.out.2.1.past hb) (H3.out.2.2.trans (hb.mono H3.out.2.2.size)))
  clear hb
  obtain ⟨mx, hmx⟩ : ∃ m, m = max was.size now.size := ⟨_, rfl⟩
  have HMX := hide (show mx = Dk.endLen ⟨now, was⟩ by rw [hmx]; unfold Dk.endLen; dsimp only; omega)
  have hmx1 : mx ≤ 6300 := by rw [hmx]; have := HN.out.1; have := HWS.out; omega
  have HMB := hide hmx
  clear hmx
  go_upto_region 10 with (fail)
  go_cut [10] from 39 to 44 (fun v10 wx => Hid (v10 = .int .i64 (mx : Int) ∧ wx = w4))
  case first =>
    go_wp2_with fail
    all_goals
      go_meet
      case rel =>
        refine ⟨?_, rfl⟩
        congr 1
        rw [HMB.out]; omega
  case rest =>
    obtain ⟨rfl, rfl⟩ := hcut.out
    clear hcut
    obtain ⟨B2, hB2⟩ : ∃ b, b = wc.heap.size := ⟨_, rfl⟩
    have HB := hide (show B2 = wc.heap.size from hB2)
    have HG3 := hide (show D.g < B2 ∧ D.mb < B2 ∧ D.kv = .slice none 0 0 from by rw [hB2]; exact ⟨H4.out.1.glt, H4.out.1.map.lt, HG2.out.2.2⟩)
    clear hB2
    go_upto_if 48 with (fail)
    go_cut [11, 48] from 49 to 52 (fun v11 v48 wx => Hid (wx.ownsRow B2 3 1 v11 (Dk.looseL was now 0).length ((Dk.looseL was now 0).map intV) ∧ Below wc.heap.size wc wx))
    case first =>
      by_cases hsz : was.size = now.size
      · have hz : ((was.size : Int) != (now.size : Int)) = false := by simp [bne]; omega
        have hL : Dk.looseL was now 0 = [] := by unfold Dk.looseL Dk.pre; rw [if_pos hsz]; rfl
        have HL := hide hL
        clear hsz hL
        go_wp2_with fail
        go_meet
        case rel => rw [HL.out]; exact ⟨World.ownsRow_nil _ _ _ _, Below.refl _ _⟩
      · have hz : ((was.size : Int) != (now.size : Int)) = true := by simp [bne]; omega
        have hL : Dk.looseL was now 0 = [-1] := by unfold Dk.looseL Dk.pre; rw [if_neg hsz]; rfl
        have HL := hide hL
        clear hsz hL
        go_wp2_with (at_builtin; refine wpList_append_slv rfl _ _ 55 rfl B2 3 (.int .i64 0) 8 Try.underlying55 info_int rfl _ 0 [] rfl (World.ownsRow_nil _ _ _ _) _ [intV (-1)] rfl (slv_new wc [intV (-1)] 3 1 rfl) (by simp [intV, Value.oneCell']) (by decide) (by decide) (by rw [HB.out]; simp) ?_)
        intro v' w' hown hgr
        have hb : Below wc.heap.size wc w' := by
          have h1 : Below wc.heap.size wc (wc.alloc (.cells #[intV (-1)] 3)) := (Below.refl _ _).alloc (Nat.le_refl _) _
          exact below_grown h1 (World.ownsRow_nil (wc.alloc _) B2 3 1) hgr (by rw [HB.out]; exact Nat.le_refl _) (by simp)
        have HO := hide (And.intro hown hb)
        clear hown hgr hb
        go_wp2_with fail
        go_meet
        case rel => rw [HL.out]; exact ⟨HO.out.1, HO.out.2⟩
    case rest =>
      have HQ0 := hide (show wc.ownsRow B2 3 1 u11 (Dk.looseL was now 0).length ((Dk.looseL was now 0).map intV) ∧ DiskAt wc D s ∧ Below w.heap.size w wc ∧ B2 ≤ wc.heap.size ∧ w.heap.size ≤ B2 from
        ⟨hcut.out.1, H4.out.1.past hcut.out.2, H4.out.2.trans (hcut.out.2.mono H4.out.2.size), by rw [HB.out]; exact hcut.out.2.size, by rw [HB.out]; exact H4.out.2.size⟩)
      clear hcut H4
      go_upto_block 0 with (fail)
      go_cut [11] from 12 to 82 (fun v11 wx => Hid (wx.ownsRow B2 3 1 v11 (Dk.looseL was now (Dk.nsec ⟨now, was⟩)).length ((Dk.looseL was now (Dk.nsec ⟨now, was⟩)).map intV) ∧ DiskAt wx D s ∧ Below w.heap.size w wx ∧ B2 ≤ wx.heap.size ∧ w.heap.size ≤ B2))
      case first =>
        go_wp2_with fail
        go_loopg [11, 12] 6400 (fun g v11 v12 wr => ∃ k : Nat, g = 6400 - k ∧ k ≤ Dk.nsec ⟨now, was⟩ ∧ v12 = .int .i64 k ∧ Hid (wr.ownsRow B2 3 1 v11 (Dk.looseL was now k).length ((Dk.looseL was now k).map intV) ∧ DiskAt wr D s ∧ Below w.heap.size w wr ∧ B2 ≤ wr.heap.size ∧ w.heap.size ≤ B2))
        case atStart => exact ⟨0, rfl, Nat.zero_le _, rfl, HQ0.out⟩
        case round =>
          obtain ⟨k, rfl, hk, rfl, HR⟩ := hrel
          have hns : Dk.nsec ⟨now, was⟩ = (mx + 63) / 64 := by rw [HMX.out]; rfl
          have HNS := hide hns
          by_cases hlt : 64 * k < mx
          · have hlt2 : (64 : Int) * k < (mx : Int) := by omega
            have hk2 : k ≤ 6300 := by omega
            clear hns
            go_upto_block 2 with (fail)
            go_cut [13, 14] from 60 to 77 (fun v13 v14 wx => Hid (v13 = .bool (Dk.unl was now k) ∧ wx = wr))
            case first =>
              go_wp2_with fail
              go_loopg [13, 14] 64 (fun g v13 v14 wq => ∃ i : Nat, g = 64 * k + 64 - i ∧ 64 * k ≤ i ∧ i ≤ 64 * k + 64 ∧ v14 = .int .i64 i ∧ v13 = .bool (!eqUp was now (64 * k) i) ∧ Hid (wq = wr))
              case atStart => exact ⟨64 * k, by omega, by omega, by omega, by go_num, by rw [eqUp_start]; rfl, rfl⟩
              case round =>
                obtain ⟨i, rfl, hi0, hi1, rfl, rfl, HQ⟩ := hrel
                obtain ⟨p, hp⟩ : ∃ p, p = !eqUp was now (64 * k) i := ⟨_, rfl⟩
                rw [← hp]
                have HP := hide hp
                clear hp
                by_cases hb : i < 64 * k + 64
                · have hb1 : (i : Int) < 64 * k + 64 := by omega
                  have HI := hide (show i ≤ 640000 by omega)
                  clear hb
                  cases p with
                  | true =>
                    go_wp2_with fail
                    go_roundg (64 * k + 64 - (i + 1))
                    case measure => omega
                    case rel => exact ⟨i + 1, rfl, by omega, by omega, by go_num, by rw [not_eqUp_succ _ _ _ _ hi0, ← HP.out]; rfl, HQ.out⟩
                  | false =>
                    obtain ⟨y, hy⟩ : ∃ y, y = byt was i := ⟨_, rfl⟩
                    obtain ⟨z, hz⟩ : ∃ y, y = byt now i := ⟨_, rfl⟩
                    have HY := hide hy
                    have HZ := hide hz
                    clear hy hz
                    go_wp2_with fail
                    refine (at_val was i y _ (by have := HWS.out; omega) (by have := HI.out; omega) HY.out.symm).mono ?_
                    rintro e wx ⟨rfl, rfl⟩
                    go_wp2_with fail
                    refine (at_val now i z _ (by have := HN.out.1; omega) (by have := HI.out; omega) HZ.out.symm).mono ?_
                    rintro e wx ⟨rfl, rfl⟩
                    obtain ⟨q, hq⟩ : ∃ q : Bool, q = ((y.toNat : Int) != (z.toNat : Int)) := ⟨_, rfl⟩
                    have HQ2 := hide hq
                    have hq' := hq.symm
                    clear hq
                    go_wp2_with fail
                    go_roundg (64 * k + 64 - (i + 1))
                    case measure => omega
                    case rel => exact ⟨i + 1, rfl, by omega, by omega, by go_num, by rw [not_eqUp_succ _ _ _ _ hi0, ← HP.out, ← HY.out, ← HZ.out, HQ2.out, u8_bne]; rfl, HQ.out⟩
                · have hb1 : ¬ (i : Int) < 64 * k + 64 := by omega
                  have HI := hide (show i = 64 * k + 64 by omega)
                  clear hb
                  go_wp2_with fail
                  go_meet
                  case rel => exact ⟨by rw [HP.out, HI.out]; rfl, HQ.out⟩
            case rest =>
              obtain ⟨rfl, rfl⟩ := hcut.out
              clear hcut
              obtain ⟨uu, huu⟩ : ∃ b, b = Dk.unl was now k := ⟨_, rfl⟩
              rw [← huu]
              have HSC := hide (Dk.looseL_succ was now k)
              have HUU := hide huu
              have HLE := hide (Dk.looseL_le was now k)
              clear huu
              cases uu with
              | false =>
                go_wp2_with fail
                go_roundg (6400 - (k + 1))
                case measure => omega
                case rel =>
                  refine ⟨k + 1, rfl, by have := HNS.out; omega, by go_num, ?_⟩
                  rw [HSC.out, ← HUU.out, if_neg (by decide), List.append_nil]
                  exact HR.out
              | true =>
                obtain ⟨xs, hxs⟩ : ∃ l, l = (Dk.looseL was now k).map intV := ⟨_, rfl⟩
                obtain ⟨nx, hnx⟩ : ∃ n, n = (Dk.looseL was now k).length := ⟨_, rfl⟩
                have HX := hide (And.intro hxs hnx)
                have HOW := hide (show wc.ownsRow B2 3 1 u11 nx xs by rw [hxs, hnx]; exact HR.out.1)
                have hnx2 : nx ≤ 6400 := by rw [hnx]; have := HLE.out; omega
                clear hxs hnx
                go_wp2_with (at_builtin; refine wpList_append_slv rfl _ _ 55 rfl B2 3 (.int .i64 0) 8 Try.underlying55 info_int rfl _ nx xs rfl (own_below HOW.out ((Below.refl _ _).alloc (Nat.le_refl _) _)) _ [intV (k : Int)] rfl (slv_new wc [intV (k : Int)] 3 1 rfl) (by simp [intV, Value.oneCell']) (by simp only [List.length_singleton]; unfold maxLen; omega) (by simp only [List.length_singleton]; omega) (by have := HR.out.2.2.2.1; simp; omega) ?_)
                intro v' w' hown hgr
                have hb : Below B2 wc w' := by
                  have h1 : Below wc.heap.size wc (wc.alloc (.cells #[intV (k : Int)] 3)) := (Below.refl _ _).alloc (Nat.le_refl _) _
                  exact below_grown (h1.mono HR.out.2.2.2.1) (own_below HOW.out h1) hgr (Nat.le_refl _) (by have := HR.out.2.2.2.1; simp; omega)
                have hd : DiskAt w' D s := HR.out.2.1.stay (S := fun j => B2 ≤ j) (Moved.of_belowB hb) ⟨fun e => by have := HG3.out.1; omega, fun e => by have := HG3.out.2.1; omega, fun j hj => by rw [HG3.out.2.2] at hj; cases hj⟩
                have HO := hide (And.intro hown (And.intro hd (And.intro (HR.out.2.2.1.trans (hb.mono HR.out.2.2.2.2)) (Nat.le_trans HR.out.2.2.2.1 hb.size))))
                clear hown hgr hb hd
                go_wp2_with fail
                go_roundg (6400 - (k + 1))
                case measure => omega
                case rel =>
                  refine ⟨k + 1, rfl, by have := HNS.out; omega, by go_num, ?_, HO.out.2.1, HO.out.2.2.1, HO.out.2.2.2, HR.out.2.2.2.2⟩
                  rw [HSC.out, ← HUU.out, if_pos rfl, List.length_append, List.map_append, ← HX.out.1, ← HX.out.2]
                  exact HO.out.1
          · have hlt2 : ¬ (64 : Int) * k < (mx : Int) := by omega
            have HKE := hide (show k = Dk.nsec ⟨now, was⟩ by omega)
            have hk2 : k ≤ 6300 := by omega
            clear hns hlt
            go_wp2_with fail
            go_meet
            case rel => rw [← HKE.out]; exact HR.out
      case rest =>
        obtain ⟨L, hL⟩ : ∃ L, L = Dk.looseL was now (Dk.nsec ⟨now, was⟩) := ⟨_, rfl⟩
        have HL := hide hL
        have HLE := hide (show L.length ≤ 6400 by rw [hL]; have := Dk.looseL_le was now (Dk.nsec ⟨now, was⟩); have h2 : Dk.nsec ⟨now, was⟩ = (mx + 63) / 64 := by rw [HMX.out]; rfl
                                                  omega)
        have hq := hcut.out
        rw [← hL] at hq
        have hsl := slv_of_owns hq.1
        obtain ⟨ln, la, lc, hll, rfl, hlc, HLC⟩ := hsl.form
        have hln : ln = L.length := by rw [hll, List.length_map]
        have HLN := hide hln
        have HQ := hide (And.intro hq.1 (And.intro hq.2.1 hq.2.2.1))
        have HLC2 := hide HLC
        have hln2 : ln ≤ 6400 := by rw [hln]; exact HLE.out
        clear hcut hL hq hsl hll HLC hlc hln
        by_cases h0 : ln = 0
        · subst h0
          have hnw : now = was := Dk.loose_none (by rw [← HL.out]; exact List.eq_nil_of_length_eq_zero HLN.out.symm)
          have HNW := hide hnw
          clear hnw
          go_wp2_with fail
          have hal : Below wc.heap.size wc (wc.alloc (.cells #[.bool true, .bool false] 4)) := (Below.refl _ _).alloc (Nat.le_refl _) _
          refine (after_val D s _ [true, false] (Dk.tf now) _ (HQ.out.2.1.past hal) (slv_new wc [.bool true, .bool false] 4 2 rfl) (by decide) (by rw [HS.out, Dk.one_after, HNW.out, Dk.after_synced])).mono ?_
          rintro e w7 ⟨n7, b7, c7, rfl, hl7, hs7, hb7⟩
          have H7 := hide (And.intro hs7 (And.intro ((HQ.out.2.1.past hal).past hb7) (HQ.out.2.2.trans ((hal.trans (hb7.mono hal.size)).mono HQ.out.2.2.size))))
          clear hs7 hb7 hl7 hal
          go_wp2_with fail
          refine (files_val D s (Dk.tf now) w7 H7.out.2.1 (by rw [HS.out]; exact Dk.one_files now was _)).mono ?_
          rintro e w8 ⟨n8, b8, c8, rfl, hl8, hs8, hb8⟩
          have H8 := hide (And.intro hs8 (And.intro (H7.out.1.below hb8) (H7.out.2.2.trans (hb8.mono H7.out.2.2.size))))
          clear hs8 hb8 hl8
          go_wp2_with fail
          refine (same_val _ _ (Dk.tf now) (Dk.tf now) true w8 H8.out.2.1 H8.out.1 (by unfold Dk.tf; split <;> simp) (by unfold Dk.tf; split <;> simp) (decide_eq_true rfl)).mono ?_
          rintro e w9 ⟨rfl, hb⟩
          have H9 := hide (H8.out.2.2.trans (hb.mono H8.out.2.2.size))
          clear hb
          go_wp2_with fail
          go_ret
          exact ⟨rfl, H9.out⟩
        · have hpos : 0 < ln := by omega
          have hne : ¬ (ln : Int) = 0 := by omega
          clear h0
          obtain ⟨on, hon2, hon⟩ : ∃ z : Nat, z < ln ∧ Dk.bent only0 ((ln : Int) - 1) = z := by
            have := Dk.bent_range (n := only0) (m := (ln : Int) - 1) (by omega)
            exact ⟨(Dk.bent only0 ((ln : Int) - 1)).toNat, by omega, by omega⟩
          go_wp2_with fail
          refine (bent_val only0 ((ln : Int) - 1) (on : Int) wc ho0 (by omega) hon).mono ?_
          rintro e wx ⟨rfl, he⟩
          subst he
          clear hon
          obtain ⟨x, hx⟩ : ∃ x, L[on]? = some x := ⟨_, List.getElem?_eq_getElem (by rw [← HLN.out]; exact hon2)⟩
          have hlaw := Dk.chosen_law was now on x (by rw [← HL.out]; exact hx)
          rw [← HL.out] at hlaw
          have HLAW := hide hlaw
          obtain ⟨lb, lo, rfl, hlb, hlcell⟩ := HLC2.out on hon2
          have hxc : wx.cell? ⟨lb, lo + on, none⟩ = some (.int .i64 x) := by
            rw [hlcell, List.getD_eq_getElem?_getD, List.getElem?_map, hx]; rfl
          have HXC := hide (And.intro hlb hxc)
          clear hlaw hx hlb hlcell hxc
          go_wp2_with (at_make; refine wpList_make_arr rfl _ _ 28 rfl 4 _ 1 Try.underlying28 info_boolc rfl .i64 .i64 _ _ ln rfl rfl rfl rfl (by omega) (by unfold maxLen; omega) ?_)
          intro w3 harr hb3
          obtain ⟨kb, hkb⟩ : ∃ b, b = wx.heap.size := ⟨_, rfl⟩
          rw [← hkb] at harr ⊢
          have hcell0 := harr.out.cell on (by rw [List.length_replicate]; exact hon2)
          have hfr0 := harr.out.frozen on (by rw [List.length_replicate]; exact hon2)
          have hcell1 : w3.cell? ⟨kb, on, none⟩ = some (.bool false) := by
            rw [hcell0, List.getD_eq_getElem?_getD, List.getElem?_replicate, if_pos hon2]; rfl
          have HA3 := hide (And.intro harr.out hb3)
          have HKB := hide (show kb = wx.heap.size from hkb)
          have hon3 : (on : Int) < ln := by omega
          clear hcell0 harr hb3 hkb
          go_upto_region 29 with (fail)
          obtain ⟨W4, hW4⟩ : ∃ V, V = w3.setCell ⟨kb, on, none⟩ (.bool true) := ⟨_, rfl⟩
          rw [← hW4]
          have hm4 : Moved (fun k => k = kb) w3 W4 := by rw [hW4]; exact Moved.setCell (S := fun k => k = kb) (Moved.refl _ _) (a := ⟨kb, on, none⟩) rfl _
          have ha4 : Arr W4 kb 4 ((Dk.keepAt L.length on).map Value.bool) := by
            have := HA3.out.1.set on (by rw [List.length_replicate]; exact hon2) (.bool true)
            rw [← hW4] at this
            have e : (Dk.keepAt L.length on).map Value.bool = (List.replicate ln (Value.bool false)).set on (.bool true) := by
              unfold Dk.keepAt; rw [List.map_set, List.map_replicate, HLN.out]
            rw [e]; exact this
          have hd4 : DiskAt W4 D s := (HQ.out.2.1.past HA3.out.2).stay hm4 ⟨fun e => by have e : D.g = kb := e; have := HQ.out.2.1.glt; rw [e, HKB.out] at this; omega, fun e => by have e : D.mb = kb := e; have := HQ.out.2.1.map.lt; rw [e, HKB.out] at this; omega, fun j hj => by rw [HG3.out.2.2] at hj; cases hj⟩
          have hb4 : Below wx.heap.size wx W4 := HA3.out.2.trans (hm4.below HA3.out.2.size (fun j hj => by have hj : j = kb := hj; rw [hj, HKB.out]; exact Nat.le_refl _))
          have HA4 := hide (And.intro hd4 (And.intro (ha4.slv (n := ln) (cap := ln) (by rw [List.length_map, HLN.out]; unfold Dk.keepAt; simp) (Nat.le_refl _)) hb4))
          clear hW4 hm4 ha4 hd4 hb4 hcell1 hfr0 hon3
          obtain ⟨gt, hgt⟩ : ∃ g, g = Dk.want was now x := ⟨_, rfl⟩
          have HGT := hide hgt
          clear hgt
          go_wp2_with fail
          refine (after_val D s _ (Dk.keepAt L.length on) (Dk.tf gt) W4 HA4.out.1 HA4.out.2.1 (by unfold Dk.keepAt; rw [List.length_set, List.length_replicate]; have := HLE.out; omega) (by rw [HS.out, Dk.one_after, HLAW.out, HGT.out])).mono ?_
          rintro e w5 ⟨n5, b5, c5, rfl, hl5, hs5, hb5⟩
          have H5 := hide (And.intro hs5 (HA4.out.2.2.trans (hb5.mono HA4.out.2.2.size)))
          clear hs5 hb5 hl5
          go_wp2_with fail
          refine (file_any _ gt w5 H5.out.1).mono ?_
          rintro e w6 ⟨rfl, hb⟩
          have H6 := hide (H5.out.2.trans (hb.mono H5.out.2.size))
          clear hb
          have hx6 : w6.cell? ⟨lb, lo + on, none⟩ = some (.int .i64 x) := (H6.out.cell (p := ⟨lb, lo + on, none⟩) HXC.out.1).trans HXC.out.2
          have hon3 : (on : Int) < ln := by omega
          obtain ⟨wn, hwn⟩ : ∃ n, n = Dk.wantN was now x := ⟨_, rfl⟩
          have HWN := hide hwn
          have hwn6 : wn ≤ 6300 := by rw [hwn]; unfold Dk.wantN; have := HN.out.1; have := HWS.out; split <;> omega
          clear hwn
          obtain ⟨xb, hxb⟩ : ∃ b : Bool, b = (x == -1) := ⟨_, rfl⟩
          have hxb2 := hxb.symm
          have HXB := hide hxb
          clear hxb
          go_upto_if 115 with (fail)
          go_cut [18] from 116 to 118 (fun v18 wy => Hid (v18 = .int .i64 (wn : Int) ∧ wy = w6))
          case first =>
            cases xb with
            | true =>
              have HE := hide (show wn = now.size by rw [HWN.out]; unfold Dk.wantN; rw [if_pos (by simpa using HXB.out.symm)])
              go_wp2_with fail
              go_meet
              case rel => exact ⟨by rw [HE.out], rfl⟩
            | false =>
              have HE := hide (show wn = was.size by rw [HWN.out]; unfold Dk.wantN; rw [if_neg (by simpa using HXB.out.symm)])
              go_wp2_with fail
              go_meet
              case rel => exact ⟨by rw [HE.out], rfl⟩
          case rest =>
            obtain ⟨rfl, rfl⟩ := hcut.out
            clear hcut hxb2 hx6
            obtain ⟨B4, hB4⟩ : ∃ b, b = wc.heap.size := ⟨_, rfl⟩
            have HB4 := hide hB4
            clear hB4
            go_wp2_with fail
            go_loopg [19, 20] 6400 (fun g v19 v20 wr => ∃ i : Nat, g = 6400 - i ∧ i ≤ wn ∧ v20 = .int .i64 i ∧ Hid (wr.ownsRow B4 5 1 v19 i (((List.range i).map (Dk.wantB was now x)).map byteV) ∧ Below B4 wc wr))
            case atStart => exact ⟨0, rfl, Nat.zero_le _, rfl, World.ownsRow_nil _ _ _ _, Below.refl _ _⟩
            case round =>
              obtain ⟨i, rfl, hi, rfl, HR⟩ := hrel
              have hbr : Below wc.heap.size wc wr := by rw [← HB4.out]; exact HR.out.2
              by_cases hlt : i < wn
              · have hlt2 : (i : Int) < wn := by omega
                have hxr : wr.cell? ⟨lb, lo + on, none⟩ = some (.int .i64 x) := (hbr.cell (p := ⟨lb, lo + on, none⟩) (Nat.lt_of_lt_of_le HXC.out.1 H6.out.size)).trans ((H6.out.cell (p := ⟨lb, lo + on, none⟩) HXC.out.1).trans HXC.out.2)
                have HBR := hide hbr
                obtain ⟨y, hy⟩ : ∃ y, y = byt was i := ⟨_, rfl⟩
                obtain ⟨z, hz⟩ : ∃ y, y = byt now i := ⟨_, rfl⟩
                have HY := hide hy
                have HZ := hide hz
                have HI := hide (show i ≤ 6300 by omega)
                clear hy hz hbr
                obtain ⟨xi, hxi⟩ : ∃ b : Bool, b = (x == (i : Int) / 64) := ⟨_, rfl⟩
                have hxi2 := hxi.symm
                have HXI := hide hxi
                clear hxi
                obtain ⟨cc, hcc⟩ : ∃ c, c = Dk.wantB was now x i := ⟨_, rfl⟩
                have HCC := hide hcc
                clear hcc
                go_wp2_with fail
                refine (at_val was i y _ (by have := HWS.out; omega) (by have := HI.out; omega) HY.out.symm).mono ?_
                rintro e wz ⟨rfl, rfl⟩
                go_upto_if 132 with (fail)
                go_cut [21] from 133 to 136 (fun v21 wy => Hid (v21 = .int .u8 (cc.toNat : Int) ∧ wy = wz))
                case first =>
                  cases xi with
                  | true =>
                    have hxe : x = ((i / 64 : Nat) : Int) := by have := HXI.out.symm; rw [beq_iff_eq] at this; rw [this]; rfl
                    have HE := hide (show cc = z by rw [HCC.out, HZ.out]; unfold Dk.wantB; rw [if_pos hxe])
                    clear hxe
                    go_wp2_with fail
                    refine (at_val now i z _ (by have := HN.out.1; omega) (by have := HI.out; omega) HZ.out.symm).mono ?_
                    rintro e wz ⟨rfl, rfl⟩
                    go_wp2_with fail
                    go_meet
                    case rel => exact ⟨by rw [HE.out], rfl⟩
                  | false =>
                    have hxe : ¬ x = ((i / 64 : Nat) : Int) := fun e => by have := HXI.out.symm; rw [beq_eq_false_iff_ne] at this; exact this (by rw [e]; rfl)
                    have HE := hide (show cc = y by rw [HCC.out, HY.out]; unfold Dk.wantB; rw [if_neg hxe])
                    clear hxe
                    go_wp2_with fail
                    go_meet
                    case rel => exact ⟨by rw [HE.out], rfl⟩
                case rest =>
                  obtain ⟨rfl, rfl⟩ := hcut.out
                  clear hcut hxr hxi2
                  obtain ⟨ys, hys⟩ : ∃ l, l = ((List.range i).map (Dk.wantB was now x)).map byteV := ⟨_, rfl⟩
                  have HYS := hide hys
                  have HOW := hide (show wc.ownsRow B4 5 1 u19 i ys by rw [hys]; exact HR.out.1)
                  have HSZ := hide (show B4 ≤ wc.heap.size by rw [HB4.out]; exact HBR.out.size)
                  clear hys
                  go_wp2_with (at_builtin; refine wpList_append_slv rfl _ _ 56 rfl B4 5 (.int .u8 0) 1 Try.underlying56 dk_u8 rfl _ i ys rfl (own_below HOW.out ((Below.refl _ _).alloc (Nat.le_refl _) _)) _ [byteV cc] rfl (slv_new wc [byteV cc] 5 1 rfl) (by simp [byteV, Value.oneCell']) (by simp only [List.length_singleton]; unfold maxLen; omega) (by simp only [List.length_singleton]; omega) (by have := HSZ.out; simp; omega) ?_)
                  intro v' w' hown hgr
                  have hb : Below B4 wc w' := by
                    have h1 : Below wc.heap.size wc (wc.alloc (.cells #[byteV cc] 5)) := (Below.refl _ _).alloc (Nat.le_refl _) _
                    exact below_grown (h1.mono HSZ.out) (own_below HOW.out h1) hgr (Nat.le_refl _) (by have := HSZ.out; simp; omega)
                  have HO := hide (And.intro hown (HR.out.2.trans hb))
                  clear hown hgr hb
                  go_wp2_with fail
                  go_roundg (6400 - (i + 1))
                  case measure => omega
                  case rel =>
                    refine ⟨i + 1, rfl, by omega, by go_num, ?_, HO.out.2⟩
                    rw [List.range_succ, List.map_append, List.map_append, ← HYS.out]
                    show _root_.Go.World.ownsRow _ _ _ _ _ _ (ys ++ [byteV (Dk.wantB was now x i)])
                    rw [← HCC.out]
                    exact HO.out.1
              · have hlt2 : ¬ (i : Int) < wn := by omega
                have hie : i = wn := by omega
                have hsl := slv_of_owns HR.out.1
                have hcv := run_bytes_string (P := Try.prog) (w := wr) 56 9 5 Try.underlying56 Try.underlying5 Try.underlying9 hsl
                have hge : (⟨((List.range i).map (Dk.wantB was now x)).toArray⟩ : ByteArray) = gt := by rw [HGT.out, hie, HWN.out]; rfl
                rw [hge] at hcv
                obtain ⟨l9, a9, c9, hl9, rfl, _, _⟩ := hsl.form
                have HEND := hide ((HQ.out.2.2.trans (H6.out.mono HQ.out.2.2.size)).trans (hbr.mono (Nat.le_trans HQ.out.2.2.size H6.out.size)))
                clear hge hie hsl hl9 hbr
                go_wp2_with fail
                go_ret
                exact ⟨rfl, HEND.out⟩
#print axioms chosen_any
end Go.Proofs.Ytiiblpgiafbaoaa
