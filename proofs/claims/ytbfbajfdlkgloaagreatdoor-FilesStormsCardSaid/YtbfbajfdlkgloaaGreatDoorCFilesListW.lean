/-
  massiflaw19.FilesList: the walk.
-/
import Derived.Test.YtbfbajfdlkgloaaGreatDoorG35
namespace Go.Proofs.YtbfbajfdlkgloaaGreatDoor
open Go Go.RowKit Go.Maps
/-- The disk that the laws make. -/
def Fl.dM : Dk.St := Dk.newSt 1048576
theorem Fl.dM_calm : Fl.calm Fl.dM := ⟨rfl, rfl⟩
theorem Fl.dM_room : 10000 ≤ Fl.dM.room ∧ Fl.dM.room ≤ 9223372036854775807 := by decide
theorem has_st {D0 D : Dk.Blk} {w0 w : World} {T : Fl.Blk} {d : Dk.St} {k tg : Nat} {l : List ByteArray} (h : T.g = tg ∧ Stands D0 w0 w T D (Fl.stOf k (Fl.its k 0 l)) d) (hh : Fl.Has d k l) (v : Value) (hv : SlV w v (l.map Value.string)) (hl : l.length ≤ 100) (hs : ∀ x ∈ l, x.size ≤ 1048576) (hk1 : 1 ≤ k) (hk : k ≤ 32) :
    Calls Tryz.prog 16 #[.pointer (some ⟨tg, 0, none⟩), .int .i64 (k : Int), v] w fun e w' => e = .returned (.bool true) ∧ Hid (Below w.heap.size w w') := by
  rw [← h.1]
  exact has_val T D d k l v w h.2.store h.2.disk hh hv hl hs hk1 hk
set_option maxHeartbeats 3200000 in
set_option maxRecDepth 100000 in
theorem filesList_any (k : Int) (v : Value) (items : List ByteArray) (w : World) (hk : (Lit.int .i64 k).wf = true) (hv : SlV w v (items.map Value.string)) (hl : items.length ≤ 140737488351232) (hs : ∀ s ∈ items, s.size ≤ 140737488351232) :
    Calls Tryz.prog 3 #[.int .i64 k, v] w fun e w' => e = .returned (.bool true) ∧ Below w.heap.size w w' := by
  have HV := hide hv
  have HS := hide hs
  clear hv hs
  go_enter Tryz.func3, Tryz.ntmps3
  go_wp2_with fail
  refine (alive_any _).mono ?_
  rintro e w1 ⟨rfl, hb1⟩
  have HB1 := hide hb1
  clear hb1
  go_wp2_with fail
  refine (strength_any k _ hk).mono ?_
  rintro e w2 ⟨rfl, he⟩
  subst he
  obtain ⟨kn, hkn⟩ : ∃ n, n = Fl.strN k := ⟨_, rfl⟩
  have hk1 : 1 ≤ kn := by rw [hkn]; exact (Fl.strN_le k).1
  have hk2 : kn ≤ 32 := by rw [hkn]; exact (Fl.strN_le k).2
  rw [← hkn]
  clear hkn
  go_wp2_with fail
  refine (list_any v items _ (HV.out.below HB1.out) hl HS.out).mono ?_
  rintro e w3 ⟨lv, rfl, hrow, hb3⟩
  obtain ⟨l, hle⟩ : ∃ l, l = Fl.listL items := ⟨_, rfl⟩
  rw [← hle] at hrow
  have hln : l.length ≤ 12 := by rw [hle]; exact Fl.listL_len items
  have HLS := hide (show ∀ x ∈ l, x.size ≤ 500 from fun x hx => Fl.listL_size (hle ▸ hx))
  have hsl := slv_of_owns hrow
  obtain ⟨n, la, lc, hn, rfl, hlc, _⟩ := hsl.form
  rw [List.length_map] at hn
  have HN := hide hn
  have HL := hide (And.intro hsl (HB1.out.trans (hb3.mono HB1.out.size)))
  have hn12 : n ≤ 12 := by omega
  clear hle hrow hsl hb3 hn hln
  go_wp2_with fail
  refine (diskNew_any 1048576 _ (by decide)).mono ?_
  rintro e w4 ⟨D0, rfl, hD, hg, hmb, hkv, hb4⟩
  have HB4 := hide (And.intro hb4 (And.intro hg hmb))
  have HD4 := hide hD
  have HL4 := hide (HL.out.1.below hb4)
  clear hb4 hg hmb hkv hD
  go_wp2_with fail
  refine (made_val D0 Fl.dM kn l _ _ HD4.out Fl.dM_calm rfl Fl.dM_room (by decide) (by decide) HL4.out (by have := HN.out; omega) HLS.out hk1 hk2).mono ?_
  rintro e w5 ⟨T, D, rfl, hst⟩
  obtain ⟨tg, htg⟩ : ∃ b, b = T.g := ⟨_, rfl⟩
  obtain ⟨dd, hdd⟩ : ∃ d, d = Fl.dOf Fl.dM kn (Fl.its kn 0 l) (Fl.dM.acts + 3 + 6 * l.length) := ⟨_, rfl⟩
  rw [← hdd] at hst
  have HS5 := hide (show T.g = tg ∧ Stands D0 w4 w5 T D (Fl.stOf kn (Fl.its kn 0 l)) dd from ⟨htg.symm, hst⟩)
  rw [← htg]
  have HDD := hide hdd
  have HHAS := hide (show Fl.Has dd kn l from by rw [hdd]; exact Fl.has_dOf rfl kn l _)
  have HSZ := hide (show ∀ x ∈ l, x.size ≤ 1048576 from fun x hx => by have := HLS.out x hx; omega)
  have HBL := hide (show ∀ u, DiskSt D0 w4 u D dd → Below w3.heap.size w3 u from fun u h => h.below HB4.out.1 HB4.out.2.1 HB4.out.2.2)
  have HLV := hide (HL.out.1.below (HBL.out _ hst.toDiskSt))
  have hac : (3 + 6 * n : Nat) = dd.acts := by rw [hdd]; show _ = 0 + 3 + 6 * l.length; have := HN.out; omega
  have HAC := hide hac
  clear hst htg hdd hac
  go_wp2_with fail
  refine (has_st HS5.out HHAS.out _ HLV.out (by have := HN.out; omega) HSZ.out hk1 hk2).mono ?_
  rintro e w6 ⟨rfl, HB6⟩
  have HS6 := hide (And.intro HS5.out.1 (HS5.out.2.past HB6.out))
  go_wp2_with fail
  refine (diskActs_st HS6.out.2.toDiskSt (3 + 6 * n) HAC.out).mono ?_
  rintro e w7 ⟨rfl, he⟩
  subst he
  rw [show ((3 + 6 * n : Nat) : Int) = 3 + 6 * (n : Int) by omega]
  go_wp2_with fail
  refine (storeLame_st HS6.out false rfl).mono ?_
  rintro e w8 ⟨rfl, he⟩
  subst he
  obtain ⟨was, hwas⟩ : ∃ f, f = Dk.files dd := ⟨_, rfl⟩
  have hwl : was.length ≤ 1099511627776 := by rw [hwas, HDD.out]; exact Nat.le_trans (Fl.files_len _) (by show 3 ≤ 1099511627776; decide)
  have HWAS := hide hwas
  clear hwas
  go_wp2_with fail
  refine (diskFiles_st HS6.out.2.toDiskSt was HWAS.out.symm).mono ?_
  rintro e w9 ⟨wn, wa, wc, rfl, HW9, HB9⟩
  have HS9 := hide (And.intro HS6.out.1 (HS6.out.2.past HB9.out))
  obtain ⟨d2, hd2⟩ : ∃ d, d = Fl.dOf Fl.dM kn (Fl.its kn 0 l) (Fl.dM.acts + 3 + 6 * l.length + 3) := ⟨_, rfl⟩
  have HOP := hide (show Fl.openA dd (kn : Int) = (0, some (Fl.stOf kn (Fl.its kn 0 l)), d2) from by
    rw [HDD.out, hd2]
    have h1 := Fl.its_ok kn l 0 (by have := HN.out; omega) HSZ.out
    have h2 := Fl.its_size kn l 0 HLS.out
    exact Fl.open_dOf Fl.dM_calm hk1 hk2 _ _ h1 (by rw [Fl.its_len]; have := HN.out; omega) (by have := HN.out; omega))
  have HH2 := hide (show Fl.Has d2 kn l from by rw [hd2]; exact Fl.has_dOf rfl kn l _)
  have HF2 := hide (show Dk.files d2 = was ∧ Dk.after d2 [] = was from by
    rw [hd2, HWAS.out, HDD.out]
    exact ⟨rfl, Fl.after_dOf _ _ _ _ _⟩)
  have HAC2 := hide (show 6 + 6 * n = d2.acts from by rw [hd2]; show _ = 0 + 3 + 6 * l.length + 3; have := HN.out; omega)
  have hda : dd.acts + 6 < 4611686018427387904 := by rw [← HAC.out]; omega
  have HDA := hide hda
  have HDB := hide (show dd.files.length + 6 < 1099511627776 ∧ dd.keep.length ≤ 140737488351232 from by rw [HDD.out]; exact ⟨by show 3 + 6 < 1099511627776; decide, by show 0 ≤ 140737488351232; decide⟩)
  clear hda hd2
  go_wp2_with fail
  refine (filesOpen_yes HS9.out.2.toDiskSt (kn : Int) HDA.out HDB.out.1 HDB.out.2 HOP.out).mono ?_
  rintro e w10 ⟨tg2, T2, D2, rfl, HS10, HM10⟩
  have HWF := hide (show SlF w10 (.slice wa wn wc) was from HW9.out.2.1.moved HM10.out (by
    intro b hb ho
    have h1 := HW9.out.2.2 b hb
    have h2 := HS6.out.2.disk.glt
    have h3 := HS6.out.2.disk.map.lt
    rcases ho with e | e <;> omega))
  have HLV2 := hide (HL.out.1.below (HS10.out.2.toDiskSt.below HB4.out.1 HB4.out.2.1 HB4.out.2.2))
  go_wp2_with fail
  refine (has_st HS10.out HH2.out _ HLV2.out (by have := HN.out; omega) HSZ.out hk1 hk2).mono ?_
  rintro e w11 ⟨rfl, HB11⟩
  have HS11 := hide (And.intro HS10.out.1 (HS10.out.2.past HB11.out))
  have HWF11 := hide (HWF.out.below HB11.out)
  go_wp2_with fail
  refine (diskActs_st HS11.out.2.toDiskSt (6 + 6 * n) HAC2.out).mono ?_
  rintro e w12 ⟨rfl, he⟩
  subst he
  rw [show ((6 + 6 * n : Nat) : Int) = 6 + 6 * (n : Int) by omega]
  go_wp2_with fail
  refine (diskFiles_st HS11.out.2.toDiskSt was HF2.out.1).mono ?_
  rintro e w13 ⟨xn, xa, xc, rfl, HW13, HB13⟩
  have HS13 := hide (And.intro HS11.out.1 (HS11.out.2.past HB13.out))
  have HWF13 := hide (HWF11.out.below HB13.out)
  go_wp2_with fail
  refine (same_val _ _ was _ HW13.out.2.1 HWF13.out hwl).mono ?_
  rintro e w14 ⟨rfl, HB14⟩
  have HS14 := hide (And.intro HS13.out.1 (HS13.out.2.past HB14.out))
  have HWF14 := hide (HWF13.out.below HB14.out)
  go_wp2_with fail
  refine (diskAfter_st HS14.out.2.toDiskSt _ [] was (SlV.nil _) (by decide) HF2.out.2).mono ?_
  rintro e w15 ⟨yn, ya, yc, rfl, HW15, HB15⟩
  have HS15 := hide (And.intro HS14.out.1 (HS14.out.2.past HB15.out))
  have HWF15 := hide (HWF14.out.below HB15.out)
  go_wp2_with fail
  refine (same_val _ _ was _ HW15.out.2.1 HWF15.out hwl).mono ?_
  rintro e w16 ⟨rfl, HB16⟩
  have HEND := hide ((HS15.out.2.past HB16.out).toDiskSt.below HB4.out.1 HB4.out.2.1 HB4.out.2.2)
  go_wp2_with fail
  go_ret
  exact ⟨rfl, HL.out.2.trans (HEND.out.mono HL.out.2.size)⟩
end Go.Proofs.YtbfbajfdlkgloaaGreatDoor
