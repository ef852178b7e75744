/-
  The program's store: Open.
-/
import Derived.Test.YtbfbajfdlkgloaaGreatDoorG31
import Derived.Test.YtbfbajfdlkgloaaGreatDoorG32
import Derived.Test.YtbfbajfdlkgloaaGreatDoorG22
import Derived.Test.YtbfbajfdlkgloaaGreatDoorG07
import Derived.Test.YtbfbajfdlkgloaaGreatDoorG09

namespace Go.Proofs.YtbfbajfdlkgloaaGreatDoor
open Go Go.RowKit Go.Maps
/-- What Open leaves. -/
def OpenOut (D : Dk.Blk) (w : World) (r : Int) (st : Option Fl.St) (d' : Dk.St) (e : Ending) (w' : World) : Prop :=
  ∃ D' : Dk.Blk, D'.g = D.g ∧ D'.kv = D.kv ∧ (D'.mb = D.mb ∨ w.heap.size ≤ D'.mb) ∧ DiskAt w' D' d' ∧ Moved (Dk.own D) w w' ∧
    ((st = none ∧ e = .returned (.tuple #[.pointer none, .int .i64 r])) ∨
     ∃ (s : Fl.St) (T : Fl.Blk), st = some s ∧ r = 0 ∧ e = .returned (.tuple #[.pointer (some ⟨T.g, 0, none⟩), .int .i64 0]) ∧ w.heap.size ≤ T.g ∧ (∀ b, T.ev.ownBlock = some b → w.heap.size ≤ b) ∧ StoreAt w' T D'.g s ∧ Fl.Away T D')
theorem OpenOut.no {D : Dk.Blk} {d : Dk.St} {w w' : World} {r : Int} (h : DiskAt w D d) (hb : Moved (Dk.own D) w w') (hd : DiskAt w' D d) : OpenOut D w r none d (.returned (.tuple #[.pointer none, .int .i64 r])) w' :=
  ⟨D, rfl, rfl, .inl rfl, hd, hb, .inl ⟨rfl, rfl⟩⟩
def Fl.openR (d : Dk.St) (k : Nat) (A N : ByteArray) : Option (List Rec.Mk) → Int × Option Fl.St × Dk.St
  | none => (190, none, d)
  | some ms =>
    if Fl.tooShort A N ms = true then (190, none, d)
    else match Fl.lookF k A N ms 0 0 0 with
      | none => (190, none, d)
      | some c =>
        if (Fl.settleA d ((ms.map (·.items)).getLastD 0) ms.length).1 ≠ 0 then ((Fl.settleA d ((ms.map (·.items)).getLastD 0) ms.length).1, none, (Fl.settleA d ((ms.map (·.items)).getLastD 0) ms.length).2) else (0, some ⟨k, ms.map (·.items), c, false⟩, (Fl.settleA d ((ms.map (·.items)).getLastD 0) ms.length).2)
theorem Fl.openA_eq {d : Dk.St} {k : Nat} (hk : ¬ ((k : Int) < 1 ∨ 32 < (k : Int))) (hd : d.down = false) : Fl.openA d (k : Int) = Fl.openR d k (Dk.get d.files Fl.nItems).now (Dk.get d.files Fl.nNodes).now (Fl.markersF (k : Int) (Dk.get d.files Fl.nMarks).now ((Dk.get d.files Fl.nMarks).now.size / 64) []) := by
  unfold Fl.openA
  rw [if_neg hk, if_neg (by rw [hd]; decide)]
  cases Fl.markersF (k : Int) (Dk.get d.files Fl.nMarks).now ((Dk.get d.files Fl.nMarks).now.size / 64) [] with
  | none => rfl
  | some ms => rfl
theorem Fl.openR_short {d : Dk.St} {k : Nat} {A N : ByteArray} {ms : List Rec.Mk} (h : (if Fl.tooShort A N ms = true then none else Fl.lookF k A N ms 0 0 0) = none) : Fl.openR d k A N (some ms) = (190, none, d) := by
  unfold Fl.openR
  dsimp only
  split
  · rfl
  · rename_i hs
    rw [if_neg hs] at h
    rw [h]
theorem Fl.openR_long {d d' : Dk.St} {k c : Nat} {A N : ByteArray} {ms : List Rec.Mk} {r : Int} (h : (if Fl.tooShort A N ms = true then none else Fl.lookF k A N ms 0 0 0) = some c) (hr : Fl.settleA d ((ms.map (·.items)).getLastD 0) (ms.map (·.items)).length = (r, d')) : Fl.openR d k A N (some ms) = if r ≠ 0 then (r, none, d') else (0, some ⟨k, ms.map (·.items), c, false⟩, d') := by
  rw [List.length_map] at hr
  unfold Fl.openR
  dsimp only
  split at h
  · cases h
  · rename_i hs
    rw [if_neg hs, h]
    dsimp only
    rw [hr]
set_option maxHeartbeats 8000000 in
set_option maxRecDepth 100000 in
theorem filesOpen_any (D : Dk.Blk) (d : Dk.St) (k : Int) (w : World) (hd : DiskAt w D d) (hacts : d.acts + 6 < 4611686018427387904) (hmany : d.files.length + 6 < 1099511627776) (hkl : d.keep.length ≤ 140737488351232) :
    Calls Tryz.prog 20 #[.pointer (some ⟨D.g, 0, none⟩), .int .i64 k] w fun e w' => OpenOut D w (Fl.openA d k).1 (Fl.openA d k).2.1 (Fl.openA d k).2.2 e w' := by
  have HD := hide hd
  have HACT := hide (And.intro hacts (And.intro hmany hkl))
  obtain ⟨dn, hdn⟩ : ∃ b, b = d.down := ⟨_, rfl⟩
  have HDN := hide hdn
  have hglt := hd.glt
  have HGL := hide (And.intro hglt hd.map.lt)
  clear hd hacts hmany hkl hdn hglt
  go_enter Tryz.func20, Tryz.ntmps20
  go_wp2_with fail
  refine (hashCheck_any k _).mono ?_
  rintro e w1 ⟨rfl, he⟩
  subst he
  by_cases hk : k < 1 ∨ 32 < k
  · rw [if_pos hk]
    have HO := hide (show Fl.openA d k = (70, none, d) by unfold Fl.openA; rw [if_pos hk])
    clear hk
    go_wp2_with fail
    go_ret2
    rw [HO.out]
    exact OpenOut.no HD.out (Moved.refl _ _) HD.out
  · rw [if_neg hk]
    obtain ⟨kk, rfl⟩ : ∃ n : Nat, k = (n : Int) := ⟨k.toNat, by omega⟩
    have hk1 : 1 ≤ kk := by omega
    have hk2 : kk ≤ 32 := by omega
    cases dn with
    | true =>
      have HO := hide (show Fl.openA d (kk : Int) = (170, none, d) by unfold Fl.openA; rw [if_neg hk, if_pos HDN.out.symm])
      clear hk
      go_wp2_with fail
      refine (diskDown_any D d _ HD.out).mono ?_
      rintro e w2 ⟨rfl, he⟩
      subst he
      rw [← HDN.out]
      go_wp2_with fail
      go_ret2
      rw [HO.out]
      exact OpenOut.no HD.out (Moved.refl _ _) HD.out
    | false =>
      have HK := hide hk
      clear hk
      go_wp2_with fail
      refine (diskDown_any D d _ HD.out).mono ?_
      rintro e w2 ⟨rfl, he⟩
      subst he
      rw [← HDN.out]
      go_upto_region 7 with (fail)
      obtain ⟨W, hW⟩ : ∃ u, u = w2.alloc (.cells #[.pointer (some ⟨D.g, 0, none⟩), .int .i64 (kk : Int), .slice none 0 0, .int .u32 0, .bool false] 93) := ⟨_, rfl⟩
      obtain ⟨tg, htg⟩ : ∃ b, b = w2.heap.size := ⟨_, rfl⟩
      rw [← hW, ← htg]
      have hWB : Below w2.heap.size w2 W := by rw [hW]; exact (Below.refl _ _).alloc (Nat.le_refl _) _
      have hWt : W.heap[tg]? = some (.cells #[.pointer (some ⟨D.g, 0, none⟩), .int .i64 (kk : Int), .slice none 0 0, .int .u32 0, .bool false] 93 (0, 0)) := by rw [hW, htg]; exact alloc_at _ _
      have hWs : W.heap.size = tg + 1 := by rw [hW, htg]; simp
      have HST := hide (show StoreAt W ⟨tg, .slice none 0 0⟩ D.g ⟨kk, [], 0, false⟩ from
        ⟨⟨⟨hk1, hk2⟩, Nat.zero_le _, (by intro n hn; cases hn), List.Pairwise.nil, (show 0 < 4294967296 by decide)⟩, hWt, World.ownsRow_nil _ _ _ _, by intro h; cases h⟩)
      have HWB := hide (And.intro hWB (And.intro hWs htg))
      have HDW := hide (HD.out.past hWB)
      obtain ⟨M, hM⟩ : ∃ M, M = (Dk.get d.files Fl.nMarks).now := ⟨_, rfl⟩
      obtain ⟨A, hA⟩ : ∃ M, M = (Dk.get d.files Fl.nItems).now := ⟨_, rfl⟩
      obtain ⟨N, hN⟩ : ∃ M, M = (Dk.get d.files Fl.nNodes).now := ⟨_, rfl⟩
      obtain ⟨R, hR⟩ : ∃ R, R = Fl.markersF (kk : Int) M (M.size / 64) [] := ⟨_, rfl⟩
      have HM := hide hM
      have HA := hide hA
      have HN := hide hN
      have HR := hide hR
      have HOA := hide (show Fl.openA d (kk : Int) = Fl.openR d kk A N R from by
        rw [hR, hM, hA, hN]
        exact Fl.openA_eq HK.out HDN.out.symm)
      clear hW htg hWB hWt hWs hM hA hN hR hk1 hk2
      go_wp2_with fail
      refine (storeMarkers_val ⟨tg, .slice none 0 0⟩ D ⟨kk, [], 0, false⟩ d kk M R _ HST.out HDW.out rfl HM.out HDN.out.symm HR.out.symm).mono ?_
      rintro e w3 ⟨hb3, hor⟩
      rcases hor with ⟨hRn, rfl⟩ | ⟨ms, mv, hRs, rfl, hrow⟩
      · have HO := hide (show Fl.openA d (kk : Int) = (190, none, d) by rw [HOA.out, hRn]; rfl)
        have HB3 := hide (HWB.out.1.trans (hb3.mono HWB.out.1.size))
        clear hRn hb3
        go_wp2_with fail
        go_ret2
        rw [HO.out]
        exact OpenOut.no HD.out (Moved.of_below HB3.out) (HD.out.past HB3.out)
      · have hmk := HR.out.symm
        rw [hRs] at hmk
        obtain ⟨q1, q2, q3⟩ := Fl.markers_keep (kk : Int) M (M.size / 64) [] ms hmk List.Pairwise.nil
        obtain ⟨q4, q5⟩ := Fl.markers_nodes (kk : Int) M (M.size / 64) [] ms hmk
        have hmi : ∀ m ∈ ms, m.ok := fun m hm => (q3 m hm).resolve_left (by simp)
        have hml : ms.length ≤ 65536 := q4.elim id (fun h => Nat.le_trans h (Nat.zero_le _))
        have hok : Fl.tooShort A N ms = false → Fl.MarksOk A N ms := fun h => Fl.marksOk_of hmk h
        obtain ⟨R2, hR2⟩ : ∃ R2, R2 = (if Fl.tooShort A N ms = true then none else Fl.lookF kk A N ms 0 0 0) := ⟨_, rfl⟩
        have HR2 := hide hR2
        have HMI := hide hmi
        have HML := hide hml
        have HOK := hide hok
        have HRS := hide hRs
        have HROW := hide hrow
        have HB3 := hide hb3
        have hmg : mv.ownBlock ≠ some tg := by
          intro h
          have h1 := (hrow.lt tg h).1
          have h2 := HWB.out.2.1
          omega
        have HMG := hide hmg
        have HS3 := hide (HST.out.past hb3)
        have HD3 := hide (HDW.out.past hb3)
        clear hmk q1 q2 q3 q4 q5 hmi hml hok hR2 hRs hrow hb3 hmg
        obtain ⟨am, lm, zm, rfl⟩ := row_slice HROW.out
        go_wp2_with fail
        refine (storeLook_val ⟨tg, .slice none 0 0⟩ D d kk A N _ ms R2 _ HS3.out rfl HD3.out ?_ (own_base HROW.out (Nat.zero_le _)) HMG.out HA.out HN.out HDN.out.symm HOK.out HMI.out HML.out HR2.out.symm).mono ?_
        · have h1 := HGL.out
          have h2 := HWB.out.2.2
          refine ⟨by show tg ≠ D.g; omega, by show tg ≠ D.mb; omega, ?_⟩
          intro h
          have := HD.out.kvlt h
          have h3 : tg < w2.heap.size := this
          omega
        · rintro e w4 ⟨hm4, hor⟩
          have hm4b : Moved (Dk.own D) w2 w4 := by
            have h1 : Below w2.heap.size w2 w3 := HWB.out.1.trans (HB3.out.mono HWB.out.1.size)
            have h2 : Below w2.heap.size w3 w4 := hm4.below h1.size (fun j hj => by have h3 : j = tg := hj; have := HWB.out.2.2; omega)
            exact Moved.of_below (h1.trans h2)
          have hD4 : DiskAt w4 D d := by
            have h1 : Below w2.heap.size w2 w3 := HWB.out.1.trans (HB3.out.mono HWB.out.1.size)
            have h2 : Below w2.heap.size w3 w4 := hm4.below h1.size (fun j hj => by have h3 : j = tg := hj; have := HWB.out.2.2; omega)
            exact HD.out.past (h1.trans h2)
          rcases hor with ⟨hRn, rfl⟩ | ⟨c, T', hRs2, rfl, hTg, hTe, hS4⟩
          · have HO := hide (show Fl.openA d (kk : Int) = (190, none, d) by
              rw [HOA.out, HRS.out]
              exact Fl.openR_short (by rw [← HR2.out, hRn]))
            have HM4 := hide (And.intro hm4b hD4)
            clear hRn hm4 hm4b hD4
            go_wp2_with fail
            go_ret2
            rw [HO.out]
            exact OpenOut.no HD.out HM4.out.1 HM4.out.2
          · obtain ⟨tg2, ev⟩ := T'
            have hTg2 : tg2 = tg := hTg
            subst hTg2
            obtain ⟨sn, hsn⟩ : ∃ s : Fl.St, s = ⟨kk, ms.map (·.items), c, false⟩ := ⟨_, rfl⟩
            rw [← hsn] at hS4
            obtain ⟨r, d', hrd⟩ : ∃ r d', Fl.settleA d sn.fin sn.ends.length = (r, d') := ⟨_, _, rfl⟩
            have HO := hide (show Fl.openA d (kk : Int) = if r ≠ 0 then (r, none, d') else (0, some sn, d') from by
              rw [HOA.out, HRS.out, hsn]
              rw [hsn] at hrd
              exact Fl.openR_long (by rw [← HR2.out, hRs2]) hrd)
            have hap : Fl.Away ⟨tg2, ev⟩ D := by
              have h1 := HGL.out
              have h2 := HWB.out.2.2
              have h3 := HWB.out.1.size
              have h4 := HB3.out.size
              refine ⟨⟨by show tg2 ≠ D.g; omega, by show tg2 ≠ D.mb; omega⟩, fun b hb => ?_, fun b hb => ?_⟩
              · have h5 := hTe b hb
                exact ⟨by omega, by omega⟩
              · have h5 := HD.out.kvlt hb
                refine ⟨by show b ≠ tg2; omega, fun e => ?_⟩
                have h6 := hTe b e
                omega
            have HAP := hide hap
            have HS4 := hide hS4
            have HD4 := hide hD4
            have HM4 := hide hm4b
            have HRD := hide hrd
            have HTE := hide hTe
            have hS4s := hm4.size
            have HSZ4 := hide hS4s
            clear hm4 hm4b hD4 hap hS4 hrd hRs2 hTe hTg hsn hS4s
            go_wp2_with fail
            refine (storeSettle_val ⟨tg2, ev⟩ D sn d d' r _ HS4.out HD4.out HAP.out HACT.out.1 HACT.out.2.1 HACT.out.2.2 HRD.out).mono ?_
            rintro e w5 ⟨rfl, D', g1, g2, g3, g4, g5⟩
            have HT5 := hide (And.intro g1 (And.intro g2 (And.intro g3 (And.intro g4 g5))))
            clear g1 g2 g3 g4 g5
            by_cases hr0 : r = 0
            · subst hr0
              have HO2 := hide (show Fl.openA d (kk : Int) = (0, some sn, d') by rw [HO.out, if_neg (fun h => h rfl)])
              go_wp2_with fail
              go_ret2
              rw [HO2.out]
              obtain ⟨g1, g2, g3, g4, g5⟩ := HT5.out
              have h1 := HGL.out
              have h2 := HWB.out.2.2
              have h3 := HWB.out.1.size
              have h4 := HB3.out.size
              have h5 := HM4.out.size
              have h6 := HS4.out.lt
              have h6' : tg2 < w4.heap.size := h6
              have hS5 := HS4.out.stay g5 HAP.out.away HAP.out.evs
              refine ⟨D', g1, g2, g3.imp id (Nat.le_trans h5), g4, HM4.out.then g5, .inr ⟨sn, ⟨tg2, ev⟩, rfl, rfl, rfl, by show w2.heap.size ≤ tg2; omega, fun b hb => ?_, by rw [g1]; exact hS5, ?_⟩⟩
              · have := HTE.out b hb; omega
              · refine ⟨?_, fun b hb => ?_, by rw [g2]; exact HAP.out.keep⟩
                · rw [g1]
                  refine ⟨HAP.out.g.1, ?_⟩
                  rcases g3 with e | e
                  · rw [e]; exact HAP.out.g.2
                  · show tg2 ≠ D'.mb; omega
                · rw [g1]
                  refine ⟨(HAP.out.ev b hb).1, ?_⟩
                  rcases g3 with e | e
                  · rw [e]; exact (HAP.out.ev b hb).2
                  · have := (HS4.out.row.lt b hb).2; omega
            · have HO2 := hide (show Fl.openA d (kk : Int) = (r, none, d') by rw [HO.out, if_pos hr0])
              have hne : (r != 0) = true := by simp [hr0]
              clear hr0
              go_wp2_with fail
              go_ret2
              rw [HO2.out]
              obtain ⟨g1, g2, g3, g4, g5⟩ := HT5.out
              exact ⟨D', g1, g2, g3.imp id (Nat.le_trans HM4.out.size), g4, HM4.out.then g5, .inl ⟨rfl, rfl⟩⟩
end Go.Proofs.YtbfbajfdlkgloaaGreatDoor

/-
  The law's own functions: strength, list, trail, digests of nothing.
-/
namespace Go.Proofs.YtbfbajfdlkgloaaGreatDoor
open Go Go.RowKit Go.Maps
set_option maxRecDepth 100000 in
theorem strength_any (k : Int) (w : World) (hk : (Lit.int .i64 k).wf = true) :
    Calls Tryz.prog 12 #[.int .i64 k] w fun e w' => e = .returned (.int .i64 (Fl.strN k : Int)) ∧ w' = w := by
  have hkb : -9223372036854775808 ≤ k ∧ k ≤ 9223372036854775807 := by
    have h : IntKind.i64.min ≤ k ∧ k ≤ IntKind.i64.max := by simpa [Lit.wf] using hk
    exact h
  clear hk
  go_enter Tryz.func12, Tryz.ntmps12
  go_wp2_with fail
  go_ret
  refine ⟨congrArg (fun x : Int => Ending.returned (.int .i64 x)) ?_, rfl⟩
  unfold Fl.strN
  rw [IntKind.wrap_u64, Int.tmod_eq_emod_of_nonneg (by omega), IntWalk.wrap64_in ((k % 18446744073709551616) % 32) (by omega), IntWalk.wrap64_in _ (by omega)]
  omega
set_option maxRecDepth 100000 in
theorem trail_any (n : Nat) (w : World) (hn : n < 18446744073709551616) :
    Calls Tryz.prog 56 #[.int .u64 (n : Int)] w fun e w' => e = .returned (.int .i64 (Fl.trail n : Int)) ∧ w' = w := by
  obtain ⟨t, ht⟩ : ∃ t, t = Fl.trail n := ⟨_, rfl⟩
  rw [← ht]
  have HT := hide ht
  have HN := hide hn
  clear ht hn
  go_enter Tryz.func56, Tryz.ntmps56
  go_upto_block 0 with (fail)
  go_wp2_with fail
  go_loopg [0, 3] 64 (fun g v0 v3 wr => ∃ (m c : Nat), g ≤ 64 ∧ v0 = .int .u64 (m : Int) ∧ m < 18446744073709551616 ∧ v3 = .int .i64 (c : Int) ∧ c ≤ 64 ∧ Hid (m < 2 ^ g ∧ c + g = 64 ∧ t = c + Fl.trailF g m) ∧ wr = w)
  case atStart => exact ⟨n, 0, Nat.le_refl _, rfl, HN.out, rfl, Nat.zero_le _, ⟨HN.out, rfl, by rw [HT.out]; unfold Fl.trail; omega⟩, rfl⟩
  case round =>
    obtain ⟨m, c, hg, rfl, hm, rfl, hc, HF, rfl⟩ := hrel
    by_cases h1 : m % 2 = 1
    · have hb : (((m : Int) % 2) == 1) = true := by rw [beq_iff_eq]; omega
      obtain ⟨f, hf⟩ : ∃ f, gk = f + 1 := by
        cases gk with
        | zero => have h2 := HF.out.1; rw [Nat.pow_zero] at h2; omega
        | succ f => exact ⟨f, rfl⟩
      subst hf
      have HF2 := hide (show m / 2 < 2 ^ f ∧ (c + 1) + f = 64 ∧ t = (c + 1) + Fl.trailF f (m / 2) from by
        obtain ⟨a1, a2, a3⟩ := HF.out
        refine ⟨by rw [Nat.pow_succ] at a1; omega, by omega, ?_⟩
        rw [a3]
        show c + (if m % 2 = 1 then 1 + Fl.trailF f (m / 2) else 0) = _
        rw [if_pos h1]; omega)
      have HC := hide (show c + 1 ≤ 64 by have := HF2.out.2.1; omega)
      clear h1
      go_wp2_with fail
      go_roundg f
      case measure => omega
      case rel => exact ⟨m / 2, c + 1, by omega, congrArg (Value.int .u64) (by omega), by omega, by go_num, HC.out, HF2.out, rfl⟩
    · have hb : (((m : Int) % 2) == 1) = false := by rw [beq_eq_false_iff_ne]; omega
      have HE := hide (show t = c from by
        rw [HF.out.2.2]
        cases gk with
        | zero => rfl
        | succ f => show c + (if m % 2 = 1 then _ else 0) = _; rw [if_neg h1]; rfl)
      clear h1
      go_wp2_with fail
      go_ret
      exact ⟨(congrArg (fun z : Nat => Ending.returned (Value.int .i64 (z : Int))) HE.out).symm, rfl⟩
theorem cut500_small {s : ByteArray} (h : ¬ (500 : Int) < s.size) : Fl.cut500 s = s := by unfold Fl.cut500; rw [if_neg (by omega)]
theorem cut500_big {s : ByteArray} (h : (500 : Int) < s.size) : Fl.cut500 s = s.extract 0 500 := by unfold Fl.cut500; rw [if_pos (by omega)]
theorem listL_snoc {l : List ByteArray} {i : Nat} {x : ByteArray} (hx : l[i]? = some x) : (l.take (i + 1)).map Fl.cut500 = (l.take i).map Fl.cut500 ++ [Fl.cut500 x] := by
  rw [List.take_add_one, hx, List.map_append]; rfl
set_option maxHeartbeats 1600000 in
set_option maxRecDepth 100000 in
theorem list_any (v : Value) (l : List ByteArray) (w : World) (hv : SlV w v (l.map Value.string)) (hl : l.length ≤ 140737488351232) (hs : ∀ s ∈ l, s.size ≤ 140737488351232) :
    Calls Tryz.prog 13 #[v] w fun e w' => ∃ v', e = .returned v' ∧ w'.ownsRow w.heap.size 9 1 v' (Fl.listL l).length ((Fl.listL l).map Value.string) ∧ Below w.heap.size w w' := by
  obtain ⟨n, a, cap, hn, rfl, hc, hx⟩ := hv.form
  rw [List.length_map] at hn
  have HX := hide hx
  have HV := hide hv
  have HN := hide hn
  have HS := hide hs
  rw [← hn] at hl
  clear hx hn hs hv
  go_enter Tryz.func13, Tryz.ntmps13
  go_upto_block 0 with (fail)
  go_wp2_with fail
  go_loopg [3, 4] 12 (fun g v3 v4 wr => ∃ i : Nat, g = 12 - i ∧ i ≤ 12 ∧ i ≤ n ∧ v4 = .int .i64 (i : Int) ∧ Hid (wr.ownsRow w.heap.size 9 1 v3 i (((l.take i).map Fl.cut500).map Value.string) ∧ Below w.heap.size w wr))
  case atStart => exact ⟨0, rfl, Nat.zero_le _, Nat.zero_le _, rfl, World.ownsRow_nil _ _ _ _, Below.refl _ _⟩
  case round =>
    obtain ⟨i, rfl, hi, hin, rfl, HL⟩ := hrel
    by_cases hlt : i < n
    · by_cases h12 : i < 12
      · have hlt2 : decide (i < n) = true := decide_eq_true hlt
        have h122 : decide ((i : Int) < 12) = true := decide_eq_true (by omega)
        obtain ⟨x, hxx⟩ : ∃ x, l[i]? = some x := ⟨_, List.getElem?_eq_getElem (by rw [← HN.out]; exact hlt)⟩
        obtain ⟨b, off, rfl, hbl, hcl⟩ := HX.out i hlt
        have hcl2 : wr.cell? ⟨b, off + i, none⟩ = some (.string x) := by
          rw [HL.out.2.cell (p := ⟨b, off + i, none⟩) hbl, hcl, List.getD_eq_getElem?_getD, List.getElem?_map, hxx]; rfl
        have hxs := HS.out x (List.mem_of_getElem? hxx)
        have HXX := hide hxx
        clear hxx hcl
        by_cases h5 : (500 : Int) < x.size
        · obtain ⟨Y, hY⟩ : ∃ Y, Y = Fl.cut500 x := ⟨_, rfl⟩
          have HY := hide hY
          have hsl := fun w => (show (Instr.slice 9 (.string x) none (some (.int .i64 500)) none).run Tryz.prog w = .ok (.string Y) w from by
            rw [hY, cut500_big h5]
            exact run_slice_string_h w 9 x Tryz.underlying9 .i64 500 (by decide) (by omega))
          clear hY
          go_wp2_with (at_builtin; refine wpList_append_slv rfl _ _ 22 rfl w.heap.size 9 _ 16 Tryz.underlying22 info_strF rfl u3 i _ rfl (own_below HL.out.1 ((Below.refl _ _).alloc (Nat.le_refl _) _)) _ [.string Y] rfl (slv_new wr [.string Y] 9 1 rfl) (by simp [Value.oneCell']) (by unfold maxLen; simp; omega) (by simp; omega) (by have := HL.out.2.size; simp; omega) ?_)
          intro v' w' hown hgr
          have hal : Below wr.heap.size wr (wr.alloc (.cells #[.string Y] 9)) := (Below.refl _ _).alloc (Nat.le_refl _) _
          have HO := hide (show w'.ownsRow w.heap.size 9 1 v' (i + 1) (((l.take (i + 1)).map Fl.cut500).map Value.string) ∧ Below w.heap.size w w' from by
            refine ⟨by rw [listL_snoc HXX.out, ← HY.out, List.map_append]; simpa using hown, ?_⟩
            exact below_grown (HL.out.2.trans (hal.mono HL.out.2.size)) (own_below HL.out.1 hal) hgr (Nat.le_refl _) (by have := HL.out.2.size; simp; omega))
          clear hown hgr hal
          go_wp2_with fail
          go_roundg (12 - (i + 1))
          case measure => omega
          case rel => exact ⟨i + 1, rfl, by omega, by omega, by go_num, HO.out⟩
        · obtain ⟨Y, hY⟩ : ∃ Y, Y = x := ⟨_, rfl⟩
          have HY := hide (show Y = Fl.cut500 x by rw [hY, cut500_small h5])
          rw [← hY] at hcl2 hxs h5
          clear hY
          go_wp2_with (at_builtin; refine wpList_append_slv rfl _ _ 22 rfl w.heap.size 9 _ 16 Tryz.underlying22 info_strF rfl u3 i _ rfl (own_below HL.out.1 ((Below.refl _ _).alloc (Nat.le_refl _) _)) _ [.string Y] rfl (slv_new wr [.string Y] 9 1 rfl) (by simp [Value.oneCell']) (by unfold maxLen; simp; omega) (by simp; omega) (by have := HL.out.2.size; simp; omega) ?_)
          intro v' w' hown hgr
          have hal : Below wr.heap.size wr (wr.alloc (.cells #[.string Y] 9)) := (Below.refl _ _).alloc (Nat.le_refl _) _
          have HO := hide (show w'.ownsRow w.heap.size 9 1 v' (i + 1) (((l.take (i + 1)).map Fl.cut500).map Value.string) ∧ Below w.heap.size w w' from by
            refine ⟨by rw [listL_snoc HXX.out, ← HY.out, List.map_append]; simpa using hown, ?_⟩
            exact below_grown (HL.out.2.trans (hal.mono HL.out.2.size)) (own_below HL.out.1 hal) hgr (Nat.le_refl _) (by have := HL.out.2.size; simp; omega))
          clear hown hgr hal
          go_wp2_with fail
          go_roundg (12 - (i + 1))
          case measure => omega
          case rel => exact ⟨i + 1, rfl, by omega, by omega, by go_num, HO.out⟩
      · have hlt2 : decide (i < n) = true := decide_eq_true hlt
        have h122 : decide ((i : Int) < 12) = false := decide_eq_false (by omega)
        have HF := hide (show (l.take i).map Fl.cut500 = Fl.listL l ∧ i = (Fl.listL l).length from by
          have e : (l.take i).map Fl.cut500 = Fl.listL l := by
            unfold Fl.listL
            rw [show i = 12 by omega]
          refine ⟨e, ?_⟩
          rw [← e, List.length_map, List.length_take]
          have := HN.out; omega)
        go_wp2_with fail
        go_ret
        refine ⟨_, rfl, ?_, HL.out.2⟩
        rw [← HF.out.1, show ((l.take i).map Fl.cut500).length = i by rw [HF.out.1]; exact HF.out.2.symm]
        exact HL.out.1
    · have hlt2 : decide (i < n) = false := decide_eq_false hlt
      have h12 : i = n := by omega
      have HF := hide (show (l.take i).map Fl.cut500 = Fl.listL l ∧ i = (Fl.listL l).length from by
        have e : (l.take i).map Fl.cut500 = Fl.listL l := by
          unfold Fl.listL
          rw [List.take_of_length_le (by have := HN.out; omega), List.take_of_length_le (by have := HN.out; omega)]
        refine ⟨e, ?_⟩
        rw [← e, List.length_map, List.length_take]
        have := HN.out; omega)
      go_wp2_with fail
      go_ret
      refine ⟨_, rfl, ?_, HL.out.2⟩
      rw [← HF.out.1, show ((l.take i).map Fl.cut500).length = i by rw [HF.out.1]; exact HF.out.2.symm]
      exact HL.out.1
theorem info_u8F : (Tryz.prog.info? 5).map (fun i => (i.zero, i.size, i.bytes)) = some (some (.int .u8 0), 1, 1) := by kernel_rfl
def digCells (size k i j : Nat) : List Value := ((List.range j).map fun q => byteV (UInt8.ofNat (size + (7 * i + q)))) ++ List.replicate (k - j) (.int .u8 0)
theorem digCells_len (size k i j : Nat) (h : j ≤ k) : (digCells size k i j).length = k := by unfold digCells; simp; omega
theorem digCells_set (size k i j : Nat) (h : j < k) : (digCells size k i j).set j (byteV (UInt8.ofNat (size + (7 * i + j)))) = digCells size k i (j + 1) := by
  unfold digCells
  have hl : ((List.range j).map fun q => byteV (UInt8.ofNat (size + (7 * i + q)))).length = j := by simp
  rw [List.set_append_right _ _ (by omega), hl, Nat.sub_self, show k - j = (k - (j + 1)) + 1 by omega, List.replicate_succ, List.set_cons_zero, List.range_succ, List.map_append, List.append_assoc]
  rfl
theorem digCells_full (size k i : Nat) : digCells size k i k = (bytesOf (Fl.digOne size k i)).map byteV := by
  unfold digCells Fl.digOne bytesOf
  rw [Nat.sub_self]
  simp
theorem digByte (size x : Nat) : IntKind.u8.wrap (IntKind.u8.wrap (size : Int) + IntKind.u8.wrap (x : Int)) = ((UInt8.ofNat (size + x)).toNat : Int) := by
  rw [IntKind.wrap_u8, IntKind.wrap_u8, IntKind.wrap_u8, UInt8.toNat_ofNat']
  omega
theorem digVal (size i j : Nat) : Value.int .u8 (((size : Int) + (7 * (i : Int) + (j : Int))) % 256) = byteV (UInt8.ofNat (size + (7 * i + j))) := by
  unfold byteV
  congr 1
theorem digs_take (size k i : Nat) (h : i < 1 + Fl.trail size) : (Fl.digs size k).take (i + 1) = (Fl.digs size k).take i ++ [Fl.digOne size k i] := by
  rw [List.take_add_one]
  congr 1
  unfold Fl.digs
  rw [List.getElem?_map, List.getElem?_range h]
  rfl
set_option maxHeartbeats 3200000 in
set_option maxRecDepth 100000 in
theorem digests_any (size k : Nat) (w : World) (hs : size < 18446744073709551616) (hk : k ≤ 32) :
    Calls Tryz.prog 25 #[.int .u64 (size : Int), .int .i64 (k : Int), .slice none 0 0] w fun e w' => ∃ v, e = .returned v ∧ w'.ownsRow w.heap.size 9 1 v (Fl.digs size k).length ((Fl.digs size k).map Value.string) ∧ Below w.heap.size w w' := by
  obtain ⟨t, ht⟩ : ∃ t, t = Fl.trail size := ⟨_, rfl⟩
  have ht64 : t ≤ 64 := by rw [ht]; exact Fl.trailF_le 64 size
  have HT := hide ht
  have HS := hide hs
  clear ht
  go_enter Tryz.func25, Tryz.ntmps25
  go_wp2_with fail
  refine (trail_any size _ hs).mono ?_
  rintro e w1 ⟨rfl, he⟩
  subst he
  rw [← HT.out]
  clear hs
  go_upto_block 0 with (fail)
  go_wp2_with fail
  go_loopg [7, 9] (1 + t) (fun g v7 v9 wr => ∃ i : Nat, g = 1 + t - i ∧ i ≤ 1 + t ∧ v9 = .int .i64 (i : Int) ∧ Hid (wr.ownsRow w1.heap.size 9 1 v7 i (((Fl.digs size k).take i).map Value.string) ∧ Below w1.heap.size w1 wr))
  case atStart => exact ⟨0, rfl, Nat.zero_le _, rfl, World.ownsRow_nil _ _ _ _, Below.refl _ _⟩
  case round =>
    obtain ⟨i, rfl, hi, rfl, HL⟩ := hrel
    by_cases hlt : i < 1 + t
    · have hlt2 : decide ((i : Int) < 1 + (t : Int)) = true := decide_eq_true (by omega)
      have hlt3 : (i : Int) < 1 + (t : Int) := by omega
      go_wp2_with (at_make; refine wpList_make_arr rfl _ _ 46 rfl 5 _ 1 Tryz.underlying46 info_u8F rfl .i64 .i64 _ _ k rfl rfl rfl rfl (by omega) (by unfold maxLen; omega) ?_)
      intro w2 HA hb2
      obtain ⟨g, hg⟩ : ∃ g, g = wr.heap.size := ⟨_, rfl⟩
      rw [← hg] at HA ⊢
      have HB2 := hide (And.intro hg hb2)
      clear hg hb2
      go_upto_block 2 with (fail)
      obtain ⟨wo, rfl⟩ : ∃ u, u = wr := ⟨_, rfl⟩
      have HA0 := hide (show Arr w2 g 5 (digCells size k i 0) from by unfold digCells; simpa using HA.out)
      go_wp2_with fail
      go_loopg [11] k (fun gm v11 wr => ∃ j : Nat, gm = k - j ∧ j ≤ k ∧ v11 = .int .i64 (j : Int) ∧ Hid (Arr wr g 5 (digCells size k i j) ∧ Moved (fun b => b = g) w2 wr))
      case atStart => exact ⟨0, rfl, Nat.zero_le _, rfl, HA0.out, Moved.refl _ _⟩
      case round =>
        obtain ⟨j, rfl, hj, rfl, HM⟩ := hrel
        by_cases hjk : j < k
        · have hjd : decide (j < k) = true := decide_eq_true hjk
          have hc := HM.out.1.cell j (by rw [digCells_len _ _ _ _ hj]; exact hjk)
          have hf := HM.out.1.frozen j (by rw [digCells_len _ _ _ _ hj]; exact hjk)
          generalize (digCells size k i j).getD j undef = old at hc
          go_wp2_with fail
          go_roundg (k - (j + 1))
          case measure => omega
          case rel =>
            refine ⟨j + 1, rfl, by omega, by go_num, ?_, HM.out.2.setCell (a := ⟨g, j, none⟩) rfl _⟩
            rw [← digCells_set size k i j hjk, digVal]
            exact HM.out.1.set j (by rw [digCells_len _ _ _ _ hj]; exact hjk) _
        · have hjd : decide (j < k) = false := decide_eq_false hjk
          have hjk2 : j = k := by omega
          have hb3 : Below wo.heap.size wo wr := HB2.out.2.trans (HM.out.2.below HB2.out.2.size (fun b hb => by have h1 : b = g := hb; have := HB2.out.1; omega))
          obtain ⟨Y, hY⟩ : ∃ Y, Y = Fl.digOne size k i := ⟨_, rfl⟩
          have hfull := HM.out.1
          rw [hjk2, digCells_full, ← hY] at hfull
          have hys : (bytesOf Y).length = k := by rw [hY]; show (Fl.digOne size k i).data.toList.length = k; rw [Array.length_toList]; exact Fl.digOne_size size k i
          have hslv : SlV wr (.slice (some ⟨g, 0, none⟩) k k) ((bytesOf Y).map byteV) := hfull.slv (by rw [List.length_map, hys]) (Nat.le_refl _)
          have hcs : (convert 46 9 (.slice (some ⟨g, 0, none⟩) k k)).run Tryz.prog wr = .ok (.string Y) wr := by
            have h1 := run_bytes_string (P := Tryz.prog) 46 9 5 Tryz.underlying46 Tryz.underlying5 Tryz.underlying9 hslv
            rw [h1]
            rfl
          have HB3 := hide (And.intro hb3 (show ((Fl.digs size k).take (i + 1)).map Value.string = ((Fl.digs size k).take i).map Value.string ++ [.string Y] by rw [digs_take size k i (by rw [← HT.out]; exact hlt), List.map_append, ← hY]; rfl))
          have hit : i ≤ 64 := by omega
          clear hfull hys hslv hb3 hY hjk2
          go_wp2_with (at_builtin; refine wpList_append_slv rfl _ _ 22 rfl w1.heap.size 9 _ 16 Tryz.underlying22 info_strF rfl u7 i _ rfl (own_below (own_below HL.out.1 HB3.out.1) ((Below.refl _ _).alloc (Nat.le_refl _) _)) _ [.string Y] rfl (slv_new wr [.string Y] 9 1 rfl) (by simp [Value.oneCell']) (by unfold maxLen; simp; omega) (by simp; omega) (by have h1 := HL.out.2.size; have h2 := HB3.out.1.size; simp; omega) ?_)
          intro v' w' hown hgr
          have hal : Below wr.heap.size wr (wr.alloc (.cells #[.string Y] 9)) := (Below.refl _ _).alloc (Nat.le_refl _) _
          have HO := hide (show w'.ownsRow w1.heap.size 9 1 v' (i + 1) (((Fl.digs size k).take (i + 1)).map Value.string) ∧ Below w1.heap.size w1 w' from by
            refine ⟨by rw [HB3.out.2, List.map_take]; exact hown, ?_⟩
            have h1 : Below w1.heap.size w1 wr := HL.out.2.trans (HB3.out.1.mono HL.out.2.size)
            exact below_grown (h1.trans (hal.mono h1.size)) (own_below (own_below HL.out.1 HB3.out.1) hal) hgr (Nat.le_refl _) (by have := h1.size; simp; omega))
          clear hown hgr hal hcs
          go_wp2_with fail
          go_roundg (1 + t - (i + 1))
          case measure => omega
          case rel => exact ⟨i + 1, rfl, by omega, by go_num, HO.out⟩
    · have hlt3 : ¬ (i : Int) < 1 + (t : Int) := by omega
      have hfin : (Fl.digs size k).length = i := by rw [Fl.digs_len, ← HT.out]; omega
      have HF := hide hfin
      clear hfin
      go_wp2_with fail
      go_ret
      refine ⟨_, rfl, ?_, HL.out.2⟩
      have h1 := HL.out.1
      rw [List.take_of_length_le (by rw [HF.out]; exact Nat.le_refl _)] at h1
      rw [HF.out]
      exact h1
end Go.Proofs.YtbfbajfdlkgloaaGreatDoor
