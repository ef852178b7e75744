/-
  The program's store: Open.
-/
import Derived.Test.YtbfbajfdlkgloaaGreatDoorG39
import Derived.Test.YtbfbajfdlkgloaaGreatDoorG40

namespace Go.Proofs.YtbfbajfdlkgloaaGreatDoor
open Go Go.RowKit Go.Maps
/-- What Open leaves. -/
def OpenOut (D : Dk.Blk) (w : World) (r : Int) (st : Option Fl.St) (d' : Dk.St) (e : Ending) (w' : World) : Prop :=
  ∃ D' : Dk.Blk, D'.g = D.g ∧ D'.kv = D.kv ∧ (D'.mb = D.mb ∨ w.heap.size ≤ D'.mb) ∧ DiskAt w' D' d' ∧ Moved (Dk.own D) w w' ∧
    ((st = none ∧ e = .returned (.tuple #[.pointer none, .int .i64 r])) ∨
     ∃ (s : Fl.St) (T : Fl.Blk), st = some s ∧ r = 0 ∧ e = .returned (.tuple #[.pointer (some ⟨T.g, 0, none⟩), .int .i64 0]) ∧ w.heap.size ≤ T.g ∧ (∀ b, T.ev.ownBlock = some b → w.heap.size ≤ b) ∧ StoreAt w' T D'.g s ∧ Fl.Away T D')
theorem OpenOut.no {D : Dk.Blk} {d : Dk.St} {w w' : World} {r : Int} (h : DiskAt w D d) (hb : Moved (Dk.own D) w w') (hd : DiskAt w' D d) : OpenOut D w r none d (.returned (.tuple #[.pointer none, .int .i64 r])) w' :=
  ⟨D, rfl, rfl, .inl rfl, hd, hb, .inl ⟨rfl, rfl⟩⟩
def Fl.openR (d : Dk.St) (k : Nat) (A N : ByteArray) : Option (List Rec.Mk) → Int × Option Fl.St × Dk.St
  | none => (190, none, d)
  | some ms =>
    if Fl.tooShort A N ms = true then (190, none, d)
    else match Fl.lookF k A N ms 0 0 0 with
      | none => (190, none, d)
      | some c =>
        if (Fl.settleA d ((ms.map (·.items)).getLastD 0) ms.length).1 ≠ 0 then ((Fl.settleA d ((ms.map (·.items)).getLastD 0) ms.length).1, none, (Fl.settleA d ((ms.map (·.items)).getLastD 0) ms.length).2) else (0, some ⟨k, ms.map (·.items), c, false⟩, (Fl.settleA d ((ms.map (·.items)).getLastD 0) ms.length).2)
theorem Fl.openA_eq {d : Dk.St} {k : Nat} (hk : ¬ ((k : Int) < 1 ∨ 32 < (k : Int))) (hd : d.down = false) : Fl.openA d (k : Int) = Fl.openR d k (Dk.get d.files Fl.nItems).now (Dk.get d.files Fl.nNodes).now (Fl.markersF (k : Int) (Dk.get d.files Fl.nMarks).now ((Dk.get d.files Fl.nMarks).now.size / 64) []) := by
  unfold Fl.openA
  rw [if_neg hk, if_neg (by rw [hd]; decide)]
  cases Fl.markersF (k : Int) (Dk.get d.files Fl.nMarks).now ((Dk.get d.files Fl.nMarks).now.size / 64) [] with
  | none => rfl
  | some ms => rfl
theorem Fl.openR_short {d : Dk.St} {k : Nat} {A N : ByteArray} {ms : List Rec.Mk} (h : (if Fl.tooShort A N ms = true then none else Fl.lookF k A N ms 0 0 0) = none) : Fl.openR d k A N (some ms) = (190, none, d) := by
  unfold Fl.openR
  dsimp only
  split
  · rfl
  · rename_i hs
    rw [if_neg hs] at h
    rw [h]
theorem Fl.openR_long {d d' : Dk.St} {k c : Nat} {A N : ByteArray} {ms : List Rec.Mk} {r : Int} (h : (if Fl.tooShort A N ms = true then none else Fl.lookF k A N ms 0 0 0) = some c) (hr : Fl.settleA d ((ms.map (·.items)).getLastD 0) (ms.map (·.items)).length = (r, d')) : Fl.openR d k A N (some ms) = if r ≠ 0 then (r, none, d') else (0, some ⟨k, ms.map (·.items), c, false⟩, d') := by
  rw [List.length_map] at hr
  unfold Fl.openR
  dsimp only
  split at h
  · cases h
  · rename_i hs
    rw [if_neg hs, h]
    dsimp only
    rw [hr]
set_option maxHeartbeats 8000000 in
set_option maxRecDepth 100000 in
theorem filesOpen_any (D : Dk.Blk) (d : Dk.St) (k : Int) (w : World) (hd : DiskAt w D d) (hacts : d.acts + 6 < 4611686018427387904) (hmany : d.files.length + 6 < 1099511627776) (hkl : d.keep.length ≤ 140737488351232) :
    Calls Tryz.prog 20 #[.pointer (some ⟨D.g, 0, none⟩), .int .i64 k] w fun e w' => OpenOut D w (Fl.openA d k).1 (Fl.openA d k).2.1 (Fl.openA d k).2.2 e w' := by
  have HD := hide hd
  have HACT := hide (And.intro hacts (And.intro hmany hkl))
  obtain ⟨dn, hdn⟩ : ∃ b, b = d.down := ⟨_, rfl⟩
  have HDN := hide hdn
  have hglt := hd.glt
  have HGL := hide (And.intro hglt hd.map.lt)
  clear hd hacts hmany hkl hdn hglt
  go_enter Tryz.func20, Tryz.ntmps20
  go_wp2_with fail
  refine (hashCheck_any k _).mono ?_
  rintro e w1 ⟨rfl, he⟩
  subst he
  by_cases hk : k < 1 ∨ 32 < k
  · rw [if_pos hk]
    have HO := hide (show Fl.openA d k = (70, none, d) by unfold Fl.openA; rw [if_pos hk])
    clear hk
    go_wp2_with fail
    go_ret2
    rw [HO.out]
    exact OpenOut.no HD.out (Moved.refl _ _) HD.out
  · rw [if_neg hk]
    obtain ⟨kk, rfl⟩ : ∃ n : Nat, k = (n : Int) := ⟨k.toNat, by omega⟩
    have hk1 : 1 ≤ kk := by omega
    have hk2 : kk ≤ 32 := by omega
    cases dn with
    | true =>
      have HO := hide (show Fl.openA d (kk : Int) = (170, none, d) by unfold Fl.openA; rw [if_neg hk, if_pos HDN.out.symm])
      clear hk
      go_wp2_with fail
      refine (diskDown_any D d _ HD.out).mono ?_
      rintro e w2 ⟨rfl, he⟩
      subst he
      rw [← HDN.out]
      go_wp2_with fail
      go_ret2
      rw [HO.out]
      exact OpenOut.no HD.out (Moved.refl _ _) HD.out
    | false =>
      have HK := hide hk
      clear hk
      go_wp2_with fail
      refine (diskDown_any D d _ HD.out).mono ?_
      rintro e w2 ⟨rfl, he⟩
      subst he
      rw [← HDN.out]
      go_upto_region 7 with (fail)
      obtain ⟨W, hW⟩ : ∃ u, u = w2.alloc (.cells #[.pointer (some ⟨D.g, 0, none⟩), .int .i64 (kk : Int), .slice none 0 0, .int .u32 0, .bool false] 93) := ⟨_, rfl⟩
      obtain ⟨tg, htg⟩ : ∃ b, b = w2.heap.size := ⟨_, rfl⟩
      rw [← hW, ← htg]
      have hWB : Below w2.heap.size w2 W := by rw [hW]; exact (Below.refl _ _).alloc (Nat.le_refl _) _
      have hWt : W.heap[tg]? = some (.cells #[.pointer (some ⟨D.g, 0, none⟩), .int .i64 (kk : Int), .slice none 0 0, .int .u32 0, .bool false] 93 (0, 0)) := by rw [hW, htg]; exact alloc_at _ _
      have hWs : W.heap.size = tg + 1 := by rw [hW, htg]; simp
      have HST := hide (show StoreAt W ⟨tg, .slice none 0 0⟩ D.g ⟨kk, [], 0, false⟩ from
        ⟨⟨⟨hk1, hk2⟩, Nat.zero_le _, (by intro n hn; cases hn), List.Pairwise.nil, (show 0 < 4294967296 by decide)⟩, hWt, World.ownsRow_nil _ _ _ _, by intro h; cases h⟩)
      have HWB := hide (And.intro hWB (And.intro hWs htg))
      have HDW := hide (HD.out.past hWB)
      obtain ⟨M, hM⟩ : ∃ M, M = (Dk.get d.files Fl.nMarks).now := ⟨_, rfl⟩
      obtain ⟨A, hA⟩ : ∃ M, M = (Dk.get d.files Fl.nItems).now := ⟨_, rfl⟩
      obtain ⟨N, hN⟩ : ∃ M, M = (Dk.get d.files Fl.nNodes).now := ⟨_, rfl⟩
      obtain ⟨R, hR⟩ : ∃ R, R = Fl.markersF (kk : Int) M (M.size / 64) [] := ⟨_, rfl⟩
      have HM := hide hM
      have HA := hide hA
      have HN := hide hN
      have HR := hide hR
      have HOA := hide (show Fl.openA d (kk : Int) = Fl.openR d kk A N R from by
        rw [hR, hM, hA, hN]
        exact Fl.openA_eq HK.out HDN.out.symm)
      clear hW htg hWB hWt hWs hM hA hN hR hk1 hk2
      go_wp2_with fail
      refine (storeMarkers_val ⟨tg, .slice none 0 0⟩ D ⟨kk, [], 0, false⟩ d kk M R _ HST.out HDW.out rfl HM.out HDN.out.symm HR.out.symm).mono ?_
      rintro e w3 ⟨hb3, hor⟩
      rcases hor with ⟨hRn, rfl⟩ | ⟨ms, mv, hRs, rfl, hrow⟩
      · have HO := hide (show Fl.openA d (kk : Int) = (190, none, d) by rw [HOA.out, hRn]; rfl)
        have HB3 := hide (HWB.out.1.trans (hb3.mono HWB.out.1.size))
        clear hRn hb3
        go_wp2_with fail
        go_ret2
        rw [HO.out]
        exact OpenOut.no HD.out (Moved.of_below HB3.out) (HD.out.past HB3.out)
      · have hmk := HR.out.symm
        rw [hRs] at hmk
        obtain ⟨q1, q2, q3⟩ := Fl.markers_keep (kk : Int) M (M.size / 64) [] ms hmk List.Pairwise.nil
        obtain ⟨q4, q5⟩ := Fl.markers_nodes (kk : Int) M (M.size / 64) [] ms hmk
        have hmi : ∀ m ∈ ms, m.ok := fun m hm => (q3 m hm).resolve_left (by simp)
        have hml : ms.length ≤ 65536 := q4.elim id (fun h => Nat.le_trans h (Nat.zero_le _))
        have hok : Fl.tooShort A N ms = false → Fl.MarksOk A N ms := fun h => Fl.marksOk_of hmk h
        obtain ⟨R2, hR2⟩ : ∃ R2, R2 = (if Fl.tooShort A N ms = true then none else Fl.lookF kk A N ms 0 0 0) := ⟨_, rfl⟩
        have HR2 := hide hR2
        have HMI := hide hmi
        have HML := hide hml
        have HOK := hide hok
        have HRS := hide hRs
        have HROW := hide hrow
        have HB3 := hide hb3
        have hmg : mv.ownBlock ≠ some tg := by
          intro h
          have h1 := (hrow.lt tg h).1
          have h2 := HWB.out.2.1
          omega
        have HMG := hide hmg
        have HS3 := hide (HST.out.past hb3)
        have HD3 := hide (HDW.out.past hb3)
        clear hmk q1 q2 q3 q4 q5 hmi hml hok hR2 hRs hrow hb3 hmg
        obtain ⟨am, lm, zm, rfl⟩ := row_slice HROW.out
        go_wp2_with fail
        refine (storeLook_val ⟨tg, .slice none 0 0⟩ D d kk A N _ ms R2 _ HS3.out rfl HD3.out ?_ (own_base HROW.out (Nat.zero_le _)) HMG.out HA.out HN.out HDN.out.symm HOK.out HMI.out HML.out HR2.out.symm).mono ?_
        · have h1 := HGL.out
          have h2 := HWB.out.2.2
          refine ⟨by show tg ≠ D.g; omega, by show tg ≠ D.mb; omega, ?_⟩
          intro h
          have := HD.out.kvlt h
          have h3 : tg < w2.heap.size := this
          omega
        · rintro e w4 ⟨hm4, hor⟩
          have hm4b : Moved (Dk.own D) w2 w4 := by
            have h1 : Below w2.heap.size w2 w3 := HWB.out.1.trans (HB3.out.mono HWB.out.1.size)
            have h2 : Below w2.heap.size w3 w4 := hm4.below h1.size (fun j hj => by have h3 : j = tg := hj; have := HWB.out.2.2; omega)
            exact Moved.of_below (h1.trans h2)
          have hD4 : DiskAt w4 D d := by
            have h1 : Below w2.heap.size w2 w3 := HWB.out.1.trans (HB3.out.mono HWB.out.1.size)
            have h2 : Below w2.heap.size w3 w4 := hm4.below h1.size (fun j hj => by have h3 : j = tg := hj; have := HWB.out.2.2; omega)
            exact HD.out.past (h1.trans h2)
          rcases hor with ⟨hRn, rfl⟩ | ⟨c, T', hRs2, rfl, hTg, hTe, hS4⟩
          · have HO := hide (show Fl.openA d (kk : Int) = (190, none, d) by
              rw [HOA.out, HRS.out]
              exact Fl.openR_short (by rw [← HR2.out, hRn]))
            have HM4 := hide (And.intro hm4b hD4)
            clear hRn hm4 hm4b hD4
            go_wp2_with fail
            go_ret2
            rw [HO.out]
            exact OpenOut.no HD.out HM4.out.1 HM4.out.2
          · obtain ⟨tg2, ev⟩ := T'
            have hTg2 : tg2 = tg := hTg
            subst hTg2
            obtain ⟨sn, hsn⟩ : ∃ s : Fl.St, s = ⟨kk, ms.map (·.items), c, false⟩ := ⟨_, rfl⟩
            rw [← hsn] at hS4
            obtain ⟨r, d', hrd⟩ : ∃ r d', Fl.settleA d sn.fin sn.ends.length = (r, d') := ⟨_, _, rfl⟩
            have HO := hide (show Fl.openA d (kk : Int) = if r ≠ 0 then (r, none, d') else (0, some sn, d') from by
              rw [HOA.out, HRS.out, hsn]
              rw [hsn] at hrd
              exact Fl.openR_long (by rw [← HR2.out, hRs2]) hrd)
            have hap : Fl.Away ⟨tg2, ev⟩ D := by
              have h1 := HGL.out
              have h2 := HWB.out.2.2
              have h3 := HWB.out.1.size
              have h4 := HB3.out.size
              refine ⟨⟨by show tg2 ≠ D.g; omega, by show tg2 ≠ D.mb; omega⟩, fun b hb => ?_, fun b hb => ?_⟩
              · have h5 := hTe b hb
                exact ⟨by omega, by omega⟩
              · have h5 := HD.out.kvlt hb
                refine ⟨by show b ≠ tg2; omega, fun e => ?_⟩
                have h6 := hTe b e
                omega
            have HAP := hide hap
            have HS4 := hide hS4
            have HD4 := hide hD4
            have HM4 := hide hm4b
            have HRD := hide hrd
            have HTE := hide hTe
            have hS4s := hm4.size
            have HSZ4 := hide hS4s
            clear hm4 hm4b hD4 hap hS4 hrd hRs2 hTe hTg hsn hS4s
            go_wp2_with fail
            refine (storeSettle_val ⟨tg2, ev⟩ D sn d d' r _ HS4.out HD4.out HAP.out HACT.out.1 HACT.out.2.1 HACT.out.2.2 HRD.out).mono ?_
            rintro e w5 ⟨rfl, D', g1, g2, g3, g4, g5⟩
            have HT5 := hide (And.intro g1 (And.intro g2 (And.intro g3 (And.intro g4 g5))))
            clear g1 g2 g3 g4 g5
            by_cases hr0 : r = 0
            · subst hr0
              have HO2 := hide (show Fl.openA d (kk : Int) = (0, some sn, d') by rw [HO.out, if_neg (fun h => h rfl)])
              go_wp2_with fail
              go_ret2
              rw [HO2.out]
              obtain ⟨g1, g2, g3, g4, g5⟩ := HT5.out
              have h1 := HGL.out
              have h2 := HWB.out.2.2
              have h3 := HWB.out.1.size
              have h4 := HB3.out.size
              have h5 := HM4.out.size
              have h6 := HS4.out.lt
              have h6' : tg2 < w4.heap.size := h6
              have hS5 := HS4.out.stay g5 HAP.out.away HAP.out.evs
              refine ⟨D', g1, g2, g3.imp id (Nat.le_trans h5), g4, HM4.out.then g5, .inr ⟨sn, ⟨tg2, ev⟩, rfl, rfl, rfl, by show w2.heap.size ≤ tg2; omega, fun b hb => ?_, by rw [g1]; exact hS5, ?_⟩⟩
              · have := HTE.out b hb; omega
              · refine ⟨?_, fun b hb => ?_, by rw [g2]; exact HAP.out.keep⟩
                · rw [g1]
                  refine ⟨HAP.out.g.1, ?_⟩
                  rcases g3 with e | e
                  · rw [e]; exact HAP.out.g.2
                  · show tg2 ≠ D'.mb; omega
                · rw [g1]
                  refine ⟨(HAP.out.ev b hb).1, ?_⟩
                  rcases g3 with e | e
                  · rw [e]; exact (HAP.out.ev b hb).2
                  · have := (HS4.out.row.lt b hb).2; omega
            · have HO2 := hide (show Fl.openA d (kk : Int) = (r, none, d') by rw [HO.out, if_pos hr0])
              have hne : (r != 0) = true := by simp [hr0]
              clear hr0
              go_wp2_with fail
              go_ret2
              rw [HO2.out]
              obtain ⟨g1, g2, g3, g4, g5⟩ := HT5.out
              exact ⟨D', g1, g2, g3.imp id (Nat.le_trans HM4.out.size), g4, HM4.out.then g5, .inl ⟨rfl, rfl⟩⟩
end Go.Proofs.YtbfbajfdlkgloaaGreatDoor
