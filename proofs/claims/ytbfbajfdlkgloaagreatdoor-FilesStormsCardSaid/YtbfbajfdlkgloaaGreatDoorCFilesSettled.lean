/-
  The law's settled: what stayed is opened on a disk without a fate, and takes the others: the walk.
-/
import Derived.Test.YtbfbajfdlkgloaaGreatDoorCFilesMet
import Derived.Test.YtbfbajfdlkgloaaGreatDoorCFilesStormR
import Derived.Test.YtbfbajfdlkgloaaGreatDoorCDiskOpen
namespace Go.Proofs.YtbfbajfdlkgloaaGreatDoor
open Go Go.RowKit Go.Maps
theorem diskOpen_st (room : Int) (v : Value) (l : List (ByteArray × ByteArray)) (s : Dk.St) (w : World) (hr : (Lit.int .i64 room).wf = true) (hv : SlF w v l) (hl : l.length ≤ 1099511627776) (hn : ∀ p ∈ l, p.1.size ≤ 140737488351232 ∧ p.2.size ≤ 140737488351232) (ho : Dk.openC room l = (0, some s)) :
    Calls Tryz.prog 29 #[.int .i64 room, v] w fun e w' => ∃ (D : Dk.Blk), e = .returned (.tuple #[.pointer (some ⟨D.g, 0, none⟩), .int .i64 0]) ∧ Hid (DiskSt D w' w' D s ∧ w.heap.size ≤ D.g ∧ w.heap.size ≤ D.mb ∧ Below w.heap.size w w') := by
  refine (diskOpen_any room v l w hr hv hl hn).mono ?_
  rintro e w' ⟨hb, h⟩
  rw [ho] at h
  rcases h with ⟨h, _⟩ | ⟨s2, D, hs, he, hd, h1, h2, h3⟩
  · cases h
  · injection hs with _ hs
    injection hs with hs
    subst hs
    exact ⟨D, he, DiskSt.start hd, h1, h2, hb⟩
theorem Fl.has_good {d : Dk.St} {k : Nat} {l : List ByteArray} (hup : d.down = false) (hf : d.files = Fl.good3 k (Fl.its k 0 l)) : Fl.Has d k l :=
  ⟨hup, ⟨⟨#[]⟩, by rw [hf, Fl.apnil]; rfl⟩, ⟨⟨#[]⟩, by rw [hf, Fl.apnil]; rfl⟩⟩
set_option maxHeartbeats 3200000 in
set_option maxRecDepth 100000 in
theorem settled_val {may : Prop} {k n : Nat} {l : List ByteArray} {d : Dk.St} (hk1 : 1 ≤ k) (hk : k ≤ 32) (hl : l.length ≤ 12) (hs : ∀ x ∈ l, x.size ≤ 500) (hn : n ≤ l.length) (hmay : may → n < l.length) (h : Fl.On (Fl.InvS may k (Fl.its k 0 (l.take n)) (Fl.itAt k l n)) d.files) (keep : List Bool) (fl : List (ByteArray × ByteArray)) (hfl : Dk.after d keep = fl) (fv v : Value) (w : World) (hf : SlF w fv fl) (hv : SlV w v (l.map Value.string)) :
    Calls Tryz.prog 42 #[fv, .int .i64 (k : Int), v, .int .i64 (n : Int)] w fun e w' => ∃ m : Nat, e = .returned (.tuple #[.int .i64 (m : Int), .bool true]) ∧ (m = n ∨ may ∧ m = n + 1) ∧ Hid (Below w.heap.size w w') := by
  obtain ⟨b, m, d1, d2, hb, hm, hml, ho, hf1, hu1, hme, hf2, hu2, ⟨hb1, hb2, hb3⟩, hF1, hr1, ha1, hk1'⟩ := Fl.settled_run hk1 hk hl hs hn hmay h keep
  have hsm := Fl.after_small (Fl.invS_keeps hk1 hk _ _) (fun _ _ _ hp => hp.2) h keep
  rw [hfl] at hb hsm
  obtain ⟨nn, la, lc, hnn, rfl, hlc, _⟩ := hv.form
  rw [List.length_map] at hnn
  have HNN := hide hnn
  have HV := hide (show SlV w (.slice la nn lc) (l.map Value.string) ∧ ∀ j, Dk.slBlk (.slice la nn lc) = some j → j < w.heap.size from ⟨hv, fun j hj => hv.blk_lt hj⟩)
  have HF := hide hf
  have HSM := hide hsm
  have HB := hide hb
  have HOP := hide ho
  have HME := hide hme
  have HS := hide hs
  have HSZ := hide (show ∀ x ∈ l, x.size ≤ 1048576 from fun x hx => by have := hs x hx; omega)
  have HBA := hide (show b.acts + 6 < 4611686018427387904 ∧ b.files.length + 6 < 1099511627776 ∧ b.keep.length ≤ 140737488351232 from ⟨by rw [hb1]; decide, by omega, by rw [hb2]; exact Nat.zero_le _⟩)
  have HR1 := hide (show Fl.Runs k l m d1 from ⟨hF1, hu1, hf1, hr1, by omega, by rw [hk1']; exact Nat.zero_le _⟩)
  have HH1 := hide (Fl.has_good hu1 hf1)
  have HH2 := hide (Fl.has_good hu2 hf2)
  have HLE := hide (show m = (Fl.stOf k (Fl.its k 0 (l.take m))).ends.length from by
    show m = (Fl.endsF (Fl.its k 0 (l.take m)) 0).length
    rw [Fl.endsF_len, Fl.its_len, List.length_take]; omega)
  have HM := hide hm
  have hn12 : n ≤ 12 := by omega
  have hm12 : m ≤ 12 := by omega
  rw [← hnn] at hml
  have HML := hide hml
  have hnn12 : nn ≤ 12 := by omega
  have HKK := hide (And.intro hk1 hk)
  clear hnn hv hf hsm hb ho hme hs hb1 hb2 hb3 hF1 hr1 ha1 hk1' hf1 hu1 hf2 hu2 h hfl hn hmay hl hm
  go_enter Tryz.func42, Tryz.ntmps42
  go_wp2_with fail
  refine (diskOpen_st 1048576 fv fl b _ (by decide) HF.out (by have := HSM.out.1; omega) HSM.out.2 HB.out).mono ?_
  rintro e w1 ⟨D, rfl, HO1⟩
  go_wp2_with fail
  refine (filesOpen_yes HO1.out.1 (k : Int) HBA.out.1 HBA.out.2.1 HBA.out.2.2 HOP.out).mono ?_
  rintro e w2 ⟨tg, T, D1, rfl, HS1, _⟩
  go_wp2_with fail
  refine (storeSize_st HS1.out m HLE.out).mono ?_
  rintro e w3 ⟨rfl, he⟩
  subst he
  have HV1 := hide (HV.out.1.below HO1.out.2.2.2)
  have HV3 := hide (HV.out.1.below (HS1.out.2.toDiskSt.below HO1.out.2.2.2 HO1.out.2.1 HO1.out.2.2.1))
  have HVO := hide (show ∀ j, Dk.slBlk (.slice la nn lc) = some j → ¬ Dk.own D j from fun j hj ho => by
    have h1 := HV.out.2 j hj
    have h2 := HO1.out.2.1
    have h3 := HO1.out.2.2.1
    rcases ho with e | e <;> omega)
  have hmn : decide ((nn : Int) < (m : Int)) = false := decide_eq_false (by omega)
  go_upto_region 8 with (fail)
  go_cut [66] from 43 to 66 (fun v66 wx => v66 = .bool false ∧ Hid (Below w3.heap.size w3 wx))
  case first =>
    rcases HM.out with hm | ⟨_, hm⟩
    · have e1 : ((m : Int) != (n : Int)) = false := by rw [hm]; simp
      clear hm
      go_wp2_with fail
      refine (has_st HS1.out HH1.out _ (by rw [List.map_take]; exact HV3.out.take m (by rw [List.length_map]; have := HNN.out; omega)) (by rw [List.length_take]; omega) (fun x hx => HSZ.out x (List.mem_of_mem_take hx)) HKK.out.1 HKK.out.2).mono ?_
      rintro e w4 ⟨rfl, HB4⟩
      go_wp2_with fail
      go_meet
      case rel => exact ⟨congrArg Value.bool (decide_eq_false (by omega)), HB4.out⟩
    · have e1 : ((m : Int) != (n : Int)) = true := by rw [bne_iff_ne]; omega
      have e2 : ((m : Int) != (n : Int) + 1) = false := by rw [hm]; simp
      clear hm
      go_wp2_with fail
      refine (has_st HS1.out HH1.out _ (by rw [List.map_take]; exact HV3.out.take m (by rw [List.length_map]; have := HNN.out; omega)) (by rw [List.length_take]; omega) (fun x hx => HSZ.out x (List.mem_of_mem_take hx)) HKK.out.1 HKK.out.2).mono ?_
      rintro e w4 ⟨rfl, HB4⟩
      go_wp2_with fail
      go_meet
      case rel => exact ⟨congrArg Value.bool (decide_eq_false (by omega)), HB4.out⟩
  case rest =>
    obtain ⟨rfl, HBC⟩ := hcut
    have HS4 := hide (And.intro HS1.out.1 (HS1.out.2.past HBC.out))
    go_wp2_with fail
    refine (met_val HS4.out HR1.out (by have := HNN.out; have := HML.out; omega) HKK.out.1 HKK.out.2 (by have := HNN.out; omega) HS.out _ HV1.out HVO.out (l.length, 0, Fl.stOf k (Fl.its k 0 l), d2) HME.out).mono ?_
    rintro e w5 ⟨rfl, T2, D2, HS5⟩
    have HV5 := hide (HV.out.1.below (HS5.out.2.toDiskSt.below HO1.out.2.2.2 HO1.out.2.1 HO1.out.2.2.1))
    have hnl : ((l.length : Nat) : Int) = (nn : Int) := by have := HNN.out; omega
    go_wp2_with fail
    refine (has_st HS5.out HH2.out _ HV5.out (by have := HNN.out; omega) HSZ.out HKK.out.1 HKK.out.2).mono ?_
    rintro e w6 ⟨rfl, HB6⟩
    have HS6 := hide (And.intro HS5.out.1 (HS5.out.2.past HB6.out))
    go_wp2_with fail
    refine (storeLame_st HS6.out false rfl).mono ?_
    rintro e w7 ⟨rfl, he⟩
    subst he
    go_wp2_with fail
    go_ret2
    exact ⟨m, rfl, HM.out, HS6.out.2.toDiskSt.below HO1.out.2.2.2 HO1.out.2.1 HO1.out.2.2.1⟩
end Go.Proofs.YtbfbajfdlkgloaaGreatDoor
