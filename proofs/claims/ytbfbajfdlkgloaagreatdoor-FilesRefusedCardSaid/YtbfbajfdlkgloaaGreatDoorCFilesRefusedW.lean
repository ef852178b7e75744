/-
  massiflaw19.FilesRefused: the walk.
-/
import Derived.Test.YtbfbajfdlkgloaaGreatDoorCFilesListW
namespace Go.Proofs.YtbfbajfdlkgloaaGreatDoor
open Go Go.RowKit Go.Maps
def Fl.longB : ByteArray := ⟨(List.replicate 1048577 (0 : UInt8)).toArray⟩
theorem Fl.longB_size : Fl.longB.size = 1048577 := by show (List.replicate 1048577 (0 : UInt8)).toArray.size = _; rw [List.size_toArray, List.length_replicate]
def Fl.rightB (bad : List ByteArray) (m k i : Nat) : Bool := decide (bad.length = m) && (bad.take i).all fun d => decide (d.size = k)
theorem Fl.right_step {bad : List ByteArray} {m k i : Nat} {d : ByteArray} (h : bad[i]? = some d) : Fl.rightB bad m k (i + 1) = (Fl.rightB bad m k i && decide (d.size = k)) := by
  unfold Fl.rightB
  rw [List.take_add_one, h, List.all_append, Bool.and_assoc]
  simp
/-- What is refused ahead of the acts. -/
theorem Fl.refuse_long (k : Nat) (L : List Fl.It) (d : Dk.St) (made : List ByteArray) : Fl.addA (Fl.stOf k L) d Fl.longB made = (100, Fl.stOf k L, d) := by
  have h : Fl.checkA (Fl.stOf k L) Fl.longB made = 100 := by
    unfold Fl.checkA
    rw [if_neg (by show ¬ false = true; decide), if_pos (by rw [Fl.longB_size]; decide)]
  unfold Fl.addA
  rw [h]; rfl
theorem Fl.refuse_bad {k n : Nat} {L : List Fl.It} (d : Dk.St) {bad : List ByteArray} (hn : n = L.length) (hl : n < 65536) (hb : Fl.rightB bad (Fl.nodes (n + 1) - Fl.nodes n) k bad.length = false) : Fl.addA (Fl.stOf k L) d ⟨#[120]⟩ bad = (192, Fl.stOf k L, d) := by
  have hlen : (Fl.stOf k L).ends.length = n := by rw [hn]; exact Fl.endsF_len L 0
  have h : Fl.checkA (Fl.stOf k L) ⟨#[120]⟩ bad = 192 := by
    unfold Fl.checkA
    rw [if_neg (by show ¬ false = true; decide), if_neg (by decide), hlen, if_neg (by omega)]
    unfold Fl.rightB at hb
    rw [List.take_length, Bool.and_eq_false_iff] at hb
    by_cases h1 : bad.length ≠ Fl.nodes (n + 1) - Fl.nodes n
    · rw [if_pos h1]
    · rw [if_neg h1, if_pos]
      rcases hb with hb | hb
      · exact absurd (of_decide_eq_false hb) h1
      · exact hb
  unfold Fl.addA
  rw [h]; rfl
set_option maxHeartbeats 3200000 in
set_option maxRecDepth 100000 in
theorem filesRefused_any (k : Int) (v : Value) (items : List ByteArray) (v2 : Value) (bad : List ByteArray) (w : World) (hk : (Lit.int .i64 k).wf = true) (hv : SlV w v (items.map Value.string)) (hl : items.length ≤ 140737488351232) (hs : ∀ s ∈ items, s.size ≤ 140737488351232) (hv2 : SlV w v2 (bad.map Value.string)) (hl2 : bad.length ≤ 140737488351232) (hs2 : ∀ s ∈ bad, s.size ≤ 140737488351232) :
    Calls Tryz.prog 5 #[.int .i64 k, v, v2] w fun e w' => e = .returned (.bool true) ∧ Below w.heap.size w w' := by
  have HV := hide hv
  have HS := hide hs
  have HV2 := hide hv2
  have HS2 := hide hs2
  clear hv hs hv2 hs2
  go_enter Tryz.func5, Tryz.ntmps5
  go_wp2_with fail
  refine (alive_any _).mono ?_
  rintro e w1 ⟨rfl, hb1⟩
  have HB1 := hide (hb1)
  clear hb1
  go_wp2_with fail
  refine (strength_any k _ hk).mono ?_
  rintro e w2 ⟨rfl, he⟩
  subst he
  obtain ⟨kn, hkn⟩ : ∃ n, n = Fl.strN k := ⟨_, rfl⟩
  have hk1 : 1 ≤ kn := by rw [hkn]; exact (Fl.strN_le k).1
  have hk2 : kn ≤ 32 := by rw [hkn]; exact (Fl.strN_le k).2
  rw [← hkn]
  clear hkn
  go_wp2_with fail
  refine (list_any v items _ (HV.out.below HB1.out) hl HS.out).mono ?_
  rintro e w3 ⟨lv, rfl, hrow, hb3⟩
  obtain ⟨l, hle⟩ : ∃ l, l = Fl.listL items := ⟨_, rfl⟩
  rw [← hle] at hrow
  have hln : l.length ≤ 12 := by rw [hle]; exact Fl.listL_len items
  have HLS := hide (show ∀ x ∈ l, x.size ≤ 500 from fun x hx => Fl.listL_size (hle ▸ hx))
  have hsl := slv_of_owns hrow
  obtain ⟨n, la, lc, hn, rfl, hlc, _⟩ := hsl.form
  rw [List.length_map] at hn
  have HN := hide hn
  have HL := hide (And.intro hsl (HB1.out.trans (hb3.mono HB1.out.size)))
  have hn12 : n ≤ 12 := by omega
  clear hle hrow hsl hb3 hn hln
  obtain ⟨q, ba, bc, hq, rfl, hqc, _⟩ := HV2.out.form
  rw [List.length_map] at hq
  have HQ := hide hq
  rw [← hq] at hl2
  have HBV := hide (HV2.out.below HL.out.2)
  clear hq
  go_wp2_with fail
  refine (diskNew_any 1048576 _ (by decide)).mono ?_
  rintro e w4 ⟨D0, rfl, hD, hg, hmb, hkv, hb4⟩
  have HB4 := hide (And.intro hb4 (And.intro hg hmb))
  have HD4 := hide hD
  have HL4 := hide (HL.out.1.below hb4)
  clear hb4 hg hmb hkv hD
  go_wp2_with fail
  refine (made_val D0 Fl.dM kn l _ _ HD4.out Fl.dM_calm rfl Fl.dM_room (by decide) (by decide) HL4.out (by have := HN.out; omega) HLS.out hk1 hk2).mono ?_
  rintro e w5 ⟨T, D, rfl, hst⟩
  obtain ⟨tg, htg⟩ : ∃ b, b = T.g := ⟨_, rfl⟩
  obtain ⟨dd, hdd⟩ : ∃ d, d = Fl.dOf Fl.dM kn (Fl.its kn 0 l) (Fl.dM.acts + 3 + 6 * l.length) := ⟨_, rfl⟩
  rw [← hdd] at hst
  have HS5 := hide (show T.g = tg ∧ Stands D0 w4 w5 T D (Fl.stOf kn (Fl.its kn 0 l)) dd from ⟨htg.symm, hst⟩)
  rw [← htg]
  have HDD := hide hdd
  have HHAS := hide (show Fl.Has dd kn l from by rw [hdd]; exact Fl.has_dOf rfl kn l _)
  have HSZ := hide (show ∀ x ∈ l, x.size ≤ 1048576 from fun x hx => by have := HLS.out x hx; omega)
  have HLV := hide (HL.out.1.below (hst.toDiskSt.below HB4.out.1 HB4.out.2.1 HB4.out.2.2))
  have hac : (3 + 6 * n : Nat) = dd.acts := by rw [hdd]; show _ = 0 + 3 + 6 * l.length; have := HN.out; omega
  have HAC := hide hac
  have HDA := hide (show dd.acts + 6 < 4611686018427387904 by rw [← hac]; omega)
  have HDB := hide (show dd.files.length + 6 < 1099511627776 ∧ dd.keep.length ≤ 140737488351232 from by rw [hdd]; exact ⟨by show 3 + 6 < 1099511627776; decide, by show 0 ≤ 140737488351232; decide⟩)
  clear hst htg hdd hac
  have HBV5 := hide (HBV.out.below (HS5.out.2.toDiskSt.below HB4.out.1 HB4.out.2.1 HB4.out.2.2))
  go_wp2_with fail
  refine (diskActs_st HS5.out.2.toDiskSt (3 + 6 * n) HAC.out).mono ?_
  rintro e w6 ⟨rfl, he⟩
  subst he
  go_wp2_with fail
  refine (digests_any n kn _ (by omega) hk2).mono ?_
  rintro e w7 ⟨dv, rfl, hrow, hb7⟩
  obtain ⟨m, da, dc, hm, rfl, hmc, _⟩ := (slv_of_owns hrow).form
  rw [List.length_map, Fl.digs_len] at hm
  have hm65 : m ≤ 65 := by have := Fl.trailF_le 64 n; unfold Fl.trail at hm; omega
  have HM := hide (show m = Fl.nodes (n + 1) - Fl.nodes n by rw [Fl.trail_nodes n (by omega), hm])
  have HS7 := hide (And.intro HS5.out.1 (HS5.out.2.past hb7))
  have HLV7 := hide (HLV.out.below hb7)
  have HBV7 := hide (HBV5.out.below hb7)
  clear hrow hb7 hm
  obtain ⟨r0, hr0⟩ : ∃ b, b = decide (q = m) := ⟨_, rfl⟩
  have HR0 := hide (show r0 = Fl.rightB bad m kn 0 by rw [hr0, HQ.out]; unfold Fl.rightB; simp)
  have hrb : ((q : Int) == (m : Int)) = r0 := by rw [hr0, Bool.eq_iff_iff, beq_iff_eq, decide_eq_true_iff]; omega
  clear hr0
  go_upto_block 0 with (fail)
  clear hrb
  go_cut [12] from 13 to 55 (fun v12 wx => Hid (v12 = .bool (Fl.rightB bad m kn q) ∧ wx = w7))
  case first =>
    go_wp2_with fail
    go_loopg [12, 13] q (fun g v12 v13 wr => ∃ (i : Nat) (b : Bool), g = q - i ∧ i ≤ q ∧ v13 = .int .i64 (i : Int) ∧ v12 = .bool b ∧ Hid (b = Fl.rightB bad m kn i) ∧ wr = w7)
    case atStart => exact ⟨0, r0, rfl, Nat.zero_le _, rfl, rfl, HR0.out, rfl⟩
    case round =>
      obtain ⟨i, b, rfl, hi, rfl, rfl, HB, rfl⟩ := hrel
      by_cases hlt : i < q
      · have hlt2 : decide (i < q) = true := decide_eq_true hlt
        obtain ⟨d, hd⟩ : ∃ d, bad[i]? = some d := ⟨_, List.getElem?_eq_getElem (by rw [← HQ.out]; exact hlt)⟩
        have HST := hide (Fl.right_step (m := m) (k := kn) hd)
        have hds := HS2.out d (List.mem_of_getElem? hd)
        cases b with
        | false =>
          have HN1 := hide (show false = Fl.rightB bad m kn (i + 1) by rw [HST.out, ← HB.out]; rfl)
          clear hd
          go_wp2_with fail
          go_roundg (q - (i + 1))
          case measure => omega
          case rel => exact ⟨i + 1, false, rfl, by omega, by go_num, rfl, HN1.out, rfl⟩
        | true =>
          obtain ⟨c, hc⟩ : ∃ c, c = decide (d.size = kn) := ⟨_, rfl⟩
          have HN1 := hide (show c = Fl.rightB bad m kn (i + 1) by rw [HST.out, ← HB.out, hc]; rfl)
          have hcb : ((d.size : Int) == (kn : Int)) = c := by rw [hc, Bool.eq_iff_iff, beq_iff_eq, decide_eq_true_iff]; omega
          obtain ⟨b2, off2, rfl, hbl2, hcl2⟩ : ∃ b2 off2, ba = some ⟨b2, off2, none⟩ ∧ b2 < wr.heap.size ∧ wr.cell? ⟨b2, off2 + i, none⟩ = some (.string d) := by
            obtain ⟨b2, off2, e, hbl, hcl⟩ := HBV7.out.cellAt (i := i) (by rw [List.length_map, ← HQ.out]; exact hlt)
            refine ⟨b2, off2, e, hbl, ?_⟩
            rw [hcl, List.getElem?_map, hd]; rfl
          clear hd hc
          go_wp2_with fail
          go_roundg (q - (i + 1))
          case measure => omega
          case rel => exact ⟨i + 1, c, rfl, by omega, by go_num, rfl, HN1.out, rfl⟩
      · have hlt2 : decide (i < q) = false := decide_eq_false hlt
        have hiq : i = q := by omega
        have HE := hide (show Value.bool b = .bool (Fl.rightB bad m kn q) by rw [HB.out, hiq])
        clear hiq
        go_wp2_with fail
        go_meet
        case rel => exact ⟨HE.out, rfl⟩
  case rest =>
    obtain ⟨h12, hwx⟩ := hcut.out
    subst h12; subst hwx
    obtain ⟨rt, hrt⟩ : ∃ b, b = Fl.rightB bad m kn q := ⟨_, rfl⟩
    rw [← hrt]
    have HRT := hide hrt
    clear hcut hrt
    go_upto_region 16 with (fail)
    go_step
    refine wpList_make_arr rfl _ _ 46 rfl 5 _ 1 Tryz.underlying46 info_u8F rfl .i64 .i64 _ _ 1048577 rfl rfl rfl rfl (by decide) (by decide) ?_
    intro w8 HA hb8
    have hslv : SlV w8 (.slice (some ⟨wc.heap.size, 0, none⟩) 1048577 1048577) ((List.replicate 1048577 (0 : UInt8)).map byteV) := by
      have h1 := HA.out.slv (n := 1048577) (cap := 1048577) (by rw [List.length_replicate]) (Nat.le_refl _)
      rw [List.map_replicate]; exact h1
    obtain ⟨LG, hLG⟩ : ∃ x, x = Fl.longB := ⟨_, rfl⟩
    have hcs : (convert 46 9 (.slice (some ⟨wc.heap.size, 0, none⟩) 1048577 1048577)).run Tryz.prog w8 = .ok (.string LG) w8 := by
      have h1 := run_bytes_string (P := Tryz.prog) 46 9 5 Tryz.underlying46 Tryz.underlying5 Tryz.underlying9 hslv
      rw [h1, hLG]; rfl
    have HLG := hide hLG
    have HS8 := hide (And.intro HS7.out.1 (HS7.out.2.past hb8))
    have HLV8 := hide (HLV7.out.below hb8)
    have HBV8 := hide (HBV7.out.below hb8)
    clear hslv hLG hb8
    obtain ⟨bg, hbg⟩ : ∃ b, b = wc.heap.size := ⟨_, rfl⟩
    rw [← hbg] at hcs ⊢
    clear hbg HA
    go_wp2_with fail
    refine (storeAdd_st HS8.out 100 LG _ bad (by rw [HLG.out, Fl.longB_size]; decide) HBV8.out (by rw [← HQ.out]; exact hl2) HS2.out HDA.out HDB.out.1 HDB.out.2 (by rw [HLG.out]; exact Fl.refuse_long _ _ _ _)).mono ?_
    rintro e w9 ⟨rfl, T9, D9, HS9, HM9⟩
    clear hcs
    have HBV9 := hide (HBV.out.below (HS9.out.2.toDiskSt.below HB4.out.1 HB4.out.2.1 HB4.out.2.2))
    go_upto_region 19 with (fail)
    go_cut [70] from 63 to 70 (fun v70 wx => Hid (v70 = .bool false ∧ ∃ T' D', T'.g = tg ∧ Stands D0 w4 wx T' D' (Fl.stOf kn (Fl.its kn 0 l)) dd))
    case first =>
      cases rt with
      | true =>
        go_wp2_with fail
        go_meet
        case rel => exact ⟨rfl, T9, D9, HS9.out⟩
      | false =>
        have HBAD := hide (Fl.refuse_bad (k := kn) (n := n) (L := Fl.its kn 0 l) dd (bad := bad) (by rw [Fl.its_len]; exact HN.out) (by omega) (by rw [← HM.out, ← HQ.out]; exact HRT.out.symm))
        go_wp2_with fail
        refine (storeAdd_st HS9.out 192 ⟨#[120]⟩ _ bad (by decide) HBV9.out (by rw [← HQ.out]; exact hl2) HS2.out HDA.out HDB.out.1 HDB.out.2 HBAD.out).mono ?_
        rintro e w10 ⟨rfl, T10, D10, HS10, HM10⟩
        go_wp2_with fail
        go_meet
        case rel => exact ⟨rfl, T10, D10, HS10.out⟩
    case rest =>
      obtain ⟨h70, T11, D11, hS11⟩ := hcut.out
      subst h70
      have HS11 := hide hS11
      clear hcut hS11
      have HLV11 := hide (HL.out.1.below (HS11.out.2.toDiskSt.below HB4.out.1 HB4.out.2.1 HB4.out.2.2))
      go_wp2_with fail
      refine (diskActs_st HS11.out.2.toDiskSt (3 + 6 * n) HAC.out).mono ?_
      rintro e w12 ⟨rfl, he⟩
      subst he
      rw [show ((3 + 6 * n : Nat) : Int) = 3 + 6 * (n : Int) by omega]
      go_wp2_with fail
      refine (storeLame_st HS11.out false rfl).mono ?_
      rintro e w13 ⟨rfl, he⟩
      subst he
      go_wp2_with fail
      refine (has_st HS11.out HHAS.out _ HLV11.out (by have := HN.out; omega) HSZ.out hk1 hk2).mono ?_
      rintro e w14 ⟨rfl, HB14⟩
      have HS14 := hide (And.intro HS11.out.1 (HS11.out.2.past HB14.out))
      go_wp2_with fail
      refine (digests_any n kn _ (by omega) hk2).mono ?_
      rintro e w15 ⟨ev, rfl, hrow, hb15⟩
      have HS15 := hide (And.intro HS14.out.1 (HS14.out.2.past hb15))
      have hsv := slv_of_owns hrow
      obtain ⟨m2, ea, ec, hm2, rfl, hm2c, hm2x⟩ := hsv.form
      obtain ⟨l2, hl2e⟩ : ∃ x, x = l ++ [(⟨#[120]⟩ : ByteArray)] := ⟨_, rfl⟩
      obtain ⟨s2, hs2⟩ : ∃ s, s = Fl.stOf kn (Fl.its kn 0 l2) := ⟨_, rfl⟩
      obtain ⟨d3, hd3⟩ : ∃ d, d = Fl.dOf Fl.dM kn (Fl.its kn 0 l2) (Fl.dM.acts + 3 + 6 * l.length + 6) := ⟨_, rfl⟩
      obtain ⟨dg, hdg⟩ : ∃ x, x = Fl.digs n kn := ⟨_, rfl⟩
      have HADD := hide (show Fl.addA (Fl.stOf kn (Fl.its kn 0 l)) dd ⟨#[120]⟩ dg = (0, s2, d3) from by
        rw [hs2, hd3, hdg]
        have hnl := HN.out
        have h := Fl.made_step Fl.dM_calm Fl.dM_room hk1 hk2 (l := l2) (by rw [hl2e, List.length_append, List.length_singleton]; omega) (by
          intro x hx
          rw [hl2e] at hx
          rcases List.mem_append.1 hx with hx | hx
          · exact HLS.out x hx
          · rw [List.mem_singleton.1 hx]; decide) (i := n) (x := ⟨#[120]⟩) (by rw [hl2e, hnl]; simp) (Fl.dM.acts + 3 + 6 * l.length)
        rw [show l2.take n = l by rw [hl2e, hnl]; simp, show l2.take (n + 1) = l2 from List.take_of_length_le (by rw [hl2e, List.length_append, List.length_singleton]; omega)] at h
        rw [HDD.out]
        exact h)
      have HL2 := hide (show n + 1 = s2.ends.length from by
        rw [hs2]
        show n + 1 = (Fl.endsF (Fl.its kn 0 l2) 0).length
        rw [Fl.endsF_len, Fl.its_len, hl2e, List.length_append, List.length_singleton, HN.out])
      have HSV := hide (show SlV w15 (.slice ea m2 ec) (dg.map Value.string) from by rw [hdg]; exact hsv)
      have HDL := hide (And.intro (show dg.length ≤ 140737488351232 by rw [hdg, Fl.digs_len]; have := Fl.trailF_le 64 n; unfold Fl.trail; omega) (show ∀ d ∈ dg, d.size ≤ 140737488351232 from fun d hd => by rw [hdg] at hd; rw [Fl.digs_size hd]; omega))
      clear hrow hb15 hsv hl2e hs2 hd3 hdg hm2 hm2c hm2x
      go_wp2_with fail
      refine (storeAdd_st HS15.out 0 ⟨#[120]⟩ _ dg (by decide) HSV.out HDL.out.1 HDL.out.2 HDA.out HDB.out.1 HDB.out.2 HADD.out).mono ?_
      rintro e w16 ⟨rfl, T16, D16, HS16, HM16⟩
      go_wp2_with fail
      refine (storeSize_st HS16.out (n + 1) HL2.out).mono ?_
      rintro e w17 ⟨rfl, he⟩
      subst he
      rw [show ((n + 1 : Nat) : Int) = (n : Int) + 1 by omega]
      have HEND := hide (HS16.out.2.toDiskSt.below HB4.out.1 HB4.out.2.1 HB4.out.2.2)
      go_wp2_with fail
      go_ret
      exact ⟨rfl, HL.out.2.trans (HEND.out.mono HL.out.2.size)⟩
end Go.Proofs.YtbfbajfdlkgloaaGreatDoor
