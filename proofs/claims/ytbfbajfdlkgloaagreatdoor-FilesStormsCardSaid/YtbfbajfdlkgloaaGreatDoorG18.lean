/-
  The program's disk: act in whatever state: the walk.
-/
import Derived.Test.YtbfbajfdlkgloaaGreatDoorG17
import Derived.Test.YtbfbajfdlkgloaaGreatDoorG09
import Derived.Deep.CutBlock

namespace Go.Proofs.YtbfbajfdlkgloaaGreatDoor
open Go Go.RowKit Go.Maps
def actbL (D : Dk.Blk) (s : Dk.St) (n : ByteArray) (cf : Nat) (caps : Array Value) (f fo : Dk.F) : List Sp :=
  [.is (.pointer (some ⟨D.g, 0, none⟩)), .is (.pointer (some ⟨D.g, 0, none⟩)), .is (.pointer (some ⟨D.g, 1, none⟩)), .is (.map (some D.mb)), .is (.string n), .is (.func (.func cf) #[] caps), .is (.pointer (some ⟨D.g, 0, none⟩)), .is (.pointer (some ⟨D.g, 0, none⟩)), .is (.pointer (some ⟨D.g, 1, none⟩)), .is (.map (some D.mb)), .is (.string n), .is (.agg #[.string (fo).now, .string (fo).was]), .is (.agg #[.string (f).now, .string (f).was]), .say (fun u => u.ownsMap Tryz.prog 9 Dk.R D.mb (Dk.put s.files n f).length (Dk.dat (Dk.put s.files n f))) (own_stable)]
def actbU : List (List Nat) := [[], [0], [1], [2], [], [], [], [6], [7], [8], [], [9, 10], [5, 11], [3, 4, 12]]
def actcL (D D2 : Dk.Blk) (fs : Dk.Fs) (nm tx : ByteArray) (b10 : Nat) : List Sp :=
  [.is (.pointer (some ⟨D.g, 0, none⟩)), .is (.pointer (some ⟨D.g, 0, none⟩)), .is (.pointer (some ⟨D.g, 1, none⟩)), .is (.map (some D2.mb)), .is (.pointer (some ⟨b10, 0, none⟩)), .is (.string nm), .is (.pointer (some ⟨b10, 1, none⟩)), .is (.string tx), .is (.pointer (some ⟨b10, 1, none⟩)), .is (.string tx), .is (.agg #[.string tx, .string tx]), .say (fun u => u.ownsMap Tryz.prog 9 Dk.R D2.mb (Dk.put fs nm ⟨tx, tx⟩).length (Dk.dat (Dk.put fs nm ⟨tx, tx⟩))) (own_stable)]
def actcU : List (List Nat) := [[], [0], [1], [2], [], [4], [], [6], [], [8], [7, 9], [3, 5, 10]]
theorem cells_with {D : Dk.Blk} {s1 s2 : Dk.St} (h : s2.room = s1.room ∧ s2.acts = s1.acts ∧ s2.fat = s1.fat ∧ s2.kind = s1.kind ∧ s2.left = s1.left ∧ s2.down = s1.down) : Dk.cells D s2 = Dk.cells D s1 := by
  obtain ⟨h1, h2, h3, h4, h5, h6⟩ := h
  unfold Dk.cells; rw [h1, h2, h3, h4, h5, h6]
set_option maxHeartbeats 6400000 in
set_option maxRecDepth 100000 in
theorem diskAct_any (D : Dk.Blk) (s : Dk.St) (n : ByteArray) (cf : Nat) (caps : Array Value) (f : Dk.F) (w : World) (h : DiskAt w D s) (hn : n.size ≤ 140737488351232) (hacts : s.acts < 4611686018427387904) (hmany : s.files.length < 1099511627776) (hkl : s.keep.length ≤ 140737488351232) (hfz : f.now.size ≤ 268435456 ∧ f.was.size ≤ 268435456)
    (hent : ∀ (args : Array Value) (u : World), (callFunc cf args).run Tryz.prog u = .ok (.enter cf args) u)
    (hch : ∀ w1 : World, Moved (fun k => k = D.g ∨ k = D.mb) w w1 → Calls Tryz.prog cf (#[Dk.valF (Dk.get s.files n)] ++ caps) w1 fun e w' => e = .returned (Dk.valF f) ∧ Below w1.heap.size w1 w') :
    Calls Tryz.prog 54 #[.pointer (some ⟨D.g, 0, none⟩), .string n, .func (.func cf) #[] caps] w fun e w' => e = .returned (.int .i64 (Dk.actC s n f).1) ∧ Turns D s w w' (Dk.actC s n f).2 := by
  have c1 := h.c1
  have c2 := h.c2
  have f2 := h.free 2
  have f6 := h.free 6
  have c6 := h.c6
  have c4 := h.c4
  obtain ⟨z, hz⟩ : ∃ z, z = s.left := ⟨_, rfl⟩
  rw [← hz] at c6
  have hz0 : 0 ≤ z := by rw [hz]; exact h.ok.left.1
  have hz1 : z ≤ 9223372036854775807 := by rw [hz]; exact h.ok.left.2
  obtain ⟨kd, hkd⟩ : ∃ k, k = s.kind := ⟨_, rfl⟩
  rw [← hkd] at c4
  obtain ⟨kn, hkn⟩ : ∃ k, k = Dk.kindNow s := ⟨_, rfl⟩
  have HKN := hide (show kn = if z = 1 then kd else 0 by rw [hkn, hz, hkd]; rfl)
  have HKK := hide hkn
  obtain ⟨s1, hs1⟩ : ∃ t, t = Dk.struck s := ⟨_, rfl⟩
  have HS1 := hide hs1
  obtain ⟨pr, hpr⟩ : ∃ t, t = Dk.actC s n f := ⟨_, rfl⟩
  rw [← hpr]
  have HPR := hide (show pr = if kn = 1 ∨ kn = 3 then (171, Dk.doneF s n f) else if kn = 2 then (172, Dk.doneF s n f) else if kn = 4 ∨ kn = 5 then (170, Dk.fallen (Dk.doneF s n f)) else (0, Dk.doneF s n f) by rw [hpr, hkn]; rfl)
  obtain ⟨s2, hs2⟩ : ∃ t, t = Dk.doneF s n f := ⟨_, rfl⟩
  have HS2 := hide (show s2 = if kn = 1 ∨ kn = 2 ∨ kn = 4 then s1 else { s1 with files := Dk.put s.files n f } by rw [hs2, hkn, hs1]; rfl)
  rw [← hs2] at HPR
  have HOK2 := hide (show Dk.Ok s2 by rw [hs2]; exact Dk.doneF_ok h.ok hn hacts hmany hfz)
  have HKL := hide (show s2.keep = s.keep by rw [hs2]; unfold Dk.doneF; split <;> rfl)
  have HOK1 := hide (show Dk.Ok s1 by rw [hs1]; exact Dk.struck_ok h.ok hacts)
  have HD := hide h
  have HZ := hide hz
  have HCH := hide hch
  have HA0 := hide (show s1.keep = s.keep ∧ s1.files = s.files from by rw [hs1]; exact ⟨rfl, rfl⟩)
  clear h hz hkd hkn hs1 hpr hs2 hch
  go_enter Tryz.func54, Tryz.ntmps54
  go_upto_region 2 with (fail)
  obtain ⟨W1, hW1⟩ : ∃ V, V = w.setCell ⟨D.g, 2, none⟩ (.int .i64 ((s.acts : Int) + 1)) := ⟨_, rfl⟩
  rw [← hW1]
  have HM1 := hide (show Moved (fun k => k = D.g) w W1 by rw [hW1]; exact Moved.setCell (S := fun k => k = D.g) (Moved.refl _ _) (a := ⟨D.g, 2, none⟩) rfl _)
  have HB1 := hide (show W1.heap[D.g]? = some (.cells ((Dk.cells D s).setIfInBounds 2 (.int .i64 ((s.acts : Int) + 1))) 87 (0, 0)) by
    rw [hW1, heap_setCell_same _ _ _ _ _ _ HD.out.cells])
  replace c4 : W1.cell? ⟨D.g, 4, none⟩ = some (.int .i64 kd) := by rw [hW1]; exact (World.cell?_setCell_other _ _ _ _ (by simp)).trans c4
  replace c6 : W1.cell? ⟨D.g, 6, none⟩ = some (.int .i64 z) := by rw [hW1]; exact (World.cell?_setCell_other _ _ _ _ (by simp)).trans c6
  replace f6 : W1.frozen? ⟨D.g, 6, none⟩ = false := frozen_blk HB1.out 6
  clear hW1 c1 c2 f2
  go_upto_if 22 with (fail)
  go_cut [7] from 23 to 40 (fun v7 wx => v7 = .int .i64 kn ∧ Hid (Moved (fun k => k = D.g) w wx ∧ wx.heap[D.g]? = some (.cells (Dk.cells D s1) 87 (0, 0))))
  case first =>
    by_cases z0 : z = 0
    · subst z0
      have hk0 : kn = 0 := by rw [HKN.out, if_neg (by decide)]
      have HK0 := hide hk0
      clear hk0
      go_wp2_with fail
      go_meet
      case rel =>
        refine ⟨by rw [HK0.out], HM1.out, ?_⟩
        rw [HB1.out, HS1.out]
        have hl : s.left = 0 := HZ.out.symm
        simp [Dk.cells, Dk.struck, hl]
    · have hpos : 0 < z := by omega
      by_cases z1 : z = 1
      · subst z1
        have hk0 : kn = kd := by rw [HKN.out, if_pos rfl]
        have HK0 := hide hk0
        clear hk0
        go_upto_region 5 with (fail)
        obtain ⟨W2, hW2⟩ : ∃ V, V = W1.setCell ⟨D.g, 6, none⟩ (.int .i64 0) := ⟨_, rfl⟩
        rw [← hW2]
        have HM2 := hide (show Moved (fun k => k = D.g) w W2 by rw [hW2]; exact Moved.setCell (S := fun k => k = D.g) HM1.out (a := ⟨D.g, 6, none⟩) rfl _)
        have HB2 := hide (show W2.heap[D.g]? = some (.cells (Dk.cells D s1) 87 (0, 0)) by
          rw [hW2, heap_setCell_same _ _ _ _ _ _ HB1.out, HS1.out]
          have hl : s.left = 1 := HZ.out.symm
          simp [Dk.cells, Dk.struck, hl])
        replace c6 : W2.cell? ⟨D.g, 6, none⟩ = some (.int .i64 0) := by rw [hW2]; exact World.cell?_setCell_same _ _ _ c6
        replace c4 : W2.cell? ⟨D.g, 4, none⟩ = some (.int .i64 kd) := by rw [hW2]; exact (World.cell?_setCell_other _ _ _ _ (by simp)).trans c4
        clear hW2
        go_wp2_with fail
        go_meet
        case rel => exact ⟨by rw [HK0.out], HM2.out, HB2.out⟩
      · have hk0 : kn = 0 := by rw [HKN.out, if_neg z1]
        have HK0 := hide hk0
        have hne : ¬ z - 1 = 0 := by omega
        clear hk0
        go_upto_region 5 with (fail)
        obtain ⟨W2, hW2⟩ : ∃ V, V = W1.setCell ⟨D.g, 6, none⟩ (.int .i64 (z - 1)) := ⟨_, rfl⟩
        rw [← hW2]
        have HM2 := hide (show Moved (fun k => k = D.g) w W2 by rw [hW2]; exact Moved.setCell (S := fun k => k = D.g) HM1.out (a := ⟨D.g, 6, none⟩) rfl _)
        have HB2 := hide (show W2.heap[D.g]? = some (.cells (Dk.cells D s1) 87 (0, 0)) by
          rw [hW2, heap_setCell_same _ _ _ _ _ _ HB1.out, HS1.out]
          have hl : s.left = z := HZ.out.symm
          simp [Dk.cells, Dk.struck, hl, hpos])
        replace c6 : W2.cell? ⟨D.g, 6, none⟩ = some (.int .i64 (z - 1)) := by rw [hW2]; exact World.cell?_setCell_same _ _ _ c6
        clear hW2
        go_wp2_with fail
        go_meet
        case rel => exact ⟨by rw [HK0.out], HM2.out, HB2.out⟩
  case rest =>
    obtain ⟨rfl, HX⟩ := hcut
    clear c4 c6 f6
    obtain ⟨up, hup⟩ : ∃ b : Bool, b = !decide (kn = 1 ∨ kn = 2 ∨ kn = 4) := ⟨_, rfl⟩
    have HUP := hide hup
    clear hup
    go_upto_region 7 with (fail)
    go_cut [7, 49] from 40 to 50 (fun v7 v49 wx => Hid (v7 = .int .i64 kn ∧ v49 = .bool up ∧ wx = wc))
    case first =>
      go_wp2_with fail
      all_goals
        go_meet
        case rel =>
          rw [HUP.out]
          refine ⟨by first | rfl | (congr 1; omega), ?_, rfl⟩
          by_cases h4 : kn = 4 <;> simp [*, bne]
    case rest =>
      obtain ⟨rfl, rfl, rfl⟩ := hcut.out
      clear hcut
      go_upto_if 49 with (fail)
      go_cut [] from 50 to 63 (fun wx => Hid (DiskAt wx D s2 ∧ Moved (Dk.own D) w wx))
      case first =>
        cases up with
        | false =>
          have hk : kn = 1 ∨ kn = 2 ∨ kn = 4 := by
            rcases Decidable.em (kn = 1 ∨ kn = 2 ∨ kn = 4) with h | h
            · exact h
            · have := HUP.out; rw [decide_eq_false h] at this; cases this
          have HE := hide (show s2 = s1 by rw [HS2.out, if_pos hk])
          clear hk
          go_wp2_with fail
          go_meet
          case rel =>
            rw [HE.out]
            refine ⟨⟨HOK1.out, HX.out.2, ?_, ?_, HD.out.apart⟩, HX.out.1.mono fun _ => .inl⟩
            · obtain ⟨es, clock, hb, F, hs, hD⟩ := HD.out.map
              rw [HA0.out.2]
              exact ⟨es, clock, (HX.out.1.block D.mb HD.out.map.lt (fun e => HD.out.ne e.symm)).trans hb, F, hs, hD⟩
            · rw [HA0.out.1]
              exact HD.out.keep.stay HX.out.1.size fun k hk hlt => HX.out.1.block k hlt (fun e => HD.out.apart.1 (by rw [hk, e]))
        | true =>
          have hk : ¬ (kn = 1 ∨ kn = 2 ∨ kn = 4) := fun h => by have := HUP.out; rw [decide_eq_true h] at this; cases this
          have HE := hide (show s2 = { s1 with files := Dk.put s.files n f } by rw [HS2.out, if_neg hk])
          clear hk
          have C1 := hide (show wc.cell? ⟨D.g, 1, none⟩ = some (.map (some D.mb)) from cell_blk HX.out.2 1)
          have HDG := hide (show D.g < wc.heap.size ∧ ¬ D.g = D.mb from ⟨heap_lt HX.out.2, HD.out.ne⟩)
          obtain ⟨fo, hfo⟩ : ∃ v, v = Dk.get s.files n := ⟨_, rfl⟩
          have HCH2 := HCH.out
          rw [← hfo] at HCH2
          unfold Dk.valF at HCH2
          have HCI := hide HCH2
          have HFO := hide hfo
          clear hfo HCH2
          have HMAP := hide (show wc.ownsMap Tryz.prog 9 Dk.R D.mb s.files.length (Dk.dat s.files) from by
            obtain ⟨es, clock, hb, F, hs, hD⟩ := HD.out.map
            exact ⟨es, clock, (HX.out.1.block D.mb HD.out.map.lt (fun e => HD.out.ne e.symm)).trans hb, F, hs, hD⟩)
          have HLEN := hide (show s.files.length < maxLen by unfold maxLen; have := HD.out.ok.many; omega)
          have HNL := hide (show n.size ≤ maxLen by unfold maxLen; omega)
          have LOOK := hide (show ∀ u, Below wc.heap.size wc u → (Instr.lookup 85 (.map (some D.mb)) (.string n) false).run Tryz.prog u = .ok (.agg #[.string fo.now, .string fo.was]) u from by
            intro u hu
            rw [HFO.out]
            exact look_map (own_stable _ _ HMAP.out hu) n hn)
          go_upto_region 8 with (fail)
          
          refine wp_region_local (by kernel_rfl) (by kernel_rfl) (useList actbU) [13] (by kernel_rfl) (spR (actbL D s n cf caps f fo)) (fun k u => k < 14 → Below wc.heap.size wc u) (Moved (fun k => k = D.mb) wc) (oneE 13 (fun _ _ => True)) (one_stays (by simp [actbL]) (by kernel_rfl)) (last_pre (fun _ _ h hb => h.trans (hb.mono h.size)) (by kernel_rfl)) (one_refl (fun _ => trivial)) (dsts_lt (N := 104) (by kernel_rfl)) ((Moved.refl _ _).drew) (fun _ _ _ => (Below.refl _ _).drew) (all_ops ?_) ?_
          · refine And.intro ?_ ?_
            · refine lstep_run fun fr wf left => ?_
              have o0 := (left.old 0 (by kernel_rfl)).trans rfl
              refine ⟨wanted_none rfl, fun K hK => ?_⟩
              have hB := hide left.base; have hP := hide (left.pre (by decide))
              clear left
              go_simp
              exact hK _ _ rfl hB.out (one_refl (fun _ => trivial) _ _)
            refine And.intro ?_ ?_
            · refine lstep_run fun fr wf left => ?_
              obtain ⟨x0, e0, r0⟩ := left.slot 104 rfl 0 50 _ rfl rfl (by decide) rfl
              have s0 := Eq.symm (show x0 = .pointer (some ⟨D.g, 0, none⟩) from r0)
              subst s0
              refine ⟨wanted_none rfl, fun K hK => ?_⟩
              have hB := hide left.base; have hP := hide (left.pre (by decide))
              clear left
              go_simp
              exact hK _ _ rfl hB.out (one_refl (fun _ => trivial) _ _)
            refine And.intro ?_ ?_
            · refine lstep_run fun fr wf left => ?_
              obtain ⟨x1, e1, r1⟩ := left.slot 104 rfl 1 51 _ rfl rfl (by decide) rfl
              have s1 := Eq.symm (show x1 = .pointer (some ⟨D.g, 0, none⟩) from r1)
              subst s1
              refine ⟨wanted_none rfl, fun K hK => ?_⟩
              have hB := hide left.base; have hP := hide (left.pre (by decide))
              clear left
              go_simp
              exact hK _ _ rfl hB.out (one_refl (fun _ => trivial) _ _)
            refine And.intro ?_ ?_
            · refine lstep_run fun fr wf left => ?_
              obtain ⟨x2, e2, r2⟩ := left.slot 104 rfl 2 52 _ rfl rfl (by decide) rfl
              have s2 := Eq.symm (show x2 = .pointer (some ⟨D.g, 1, none⟩) from r2)
              subst s2
              refine ⟨wanted_none rfl, fun K hK => ?_⟩
              have hB := hide left.base; have hP := hide (left.pre (by decide))
              have hc := (hP.out.cell (p := ⟨D.g, 1, none⟩) HDG.out.1).trans C1.out
              clear left
              go_simp
              exact hK _ _ rfl hB.out (one_refl (fun _ => trivial) _ _)
            refine And.intro ?_ ?_
            · refine lstep_run fun fr wf left => ?_
              have o1 := (left.old 1 (by kernel_rfl)).trans rfl
              refine ⟨wanted_none rfl, fun K hK => ?_⟩
              have hB := hide left.base; have hP := hide (left.pre (by decide))
              clear left
              go_simp
              exact hK _ _ rfl hB.out (one_refl (fun _ => trivial) _ _)
            refine And.intro ?_ ?_
            · refine lstep_run fun fr wf left => ?_
              have o2 := (left.old 2 (by kernel_rfl)).trans rfl
              refine ⟨wanted_none rfl, fun K hK => ?_⟩
              have hB := hide left.base; have hP := hide (left.pre (by decide))
              clear left
              go_simp
              exact hK _ _ rfl hB.out (one_refl (fun _ => trivial) _ _)
            refine And.intro ?_ ?_
            · refine lstep_run fun fr wf left => ?_
              have o0 := (left.old 0 (by kernel_rfl)).trans rfl
              refine ⟨wanted_none rfl, fun K hK => ?_⟩
              have hB := hide left.base; have hP := hide (left.pre (by decide))
              clear left
              go_simp
              exact hK _ _ rfl hB.out (one_refl (fun _ => trivial) _ _)
            refine And.intro ?_ ?_
            · refine lstep_run fun fr wf left => ?_
              obtain ⟨x6, e6, r6⟩ := left.slot 104 rfl 6 56 _ rfl rfl (by decide) rfl
              have s6 := Eq.symm (show x6 = .pointer (some ⟨D.g, 0, none⟩) from r6)
              subst s6
              refine ⟨wanted_none rfl, fun K hK => ?_⟩
              have hB := hide left.base; have hP := hide (left.pre (by decide))
              clear left
              go_simp
              exact hK _ _ rfl hB.out (one_refl (fun _ => trivial) _ _)
            refine And.intro ?_ ?_
            · refine lstep_run fun fr wf left => ?_
              obtain ⟨x7, e7, r7⟩ := left.slot 104 rfl 7 57 _ rfl rfl (by decide) rfl
              have s7 := Eq.symm (show x7 = .pointer (some ⟨D.g, 0, none⟩) from r7)
              subst s7
              refine ⟨wanted_none rfl, fun K hK => ?_⟩
              have hB := hide left.base; have hP := hide (left.pre (by decide))
              clear left
              go_simp
              exact hK _ _ rfl hB.out (one_refl (fun _ => trivial) _ _)
            refine And.intro ?_ ?_
            · refine lstep_run fun fr wf left => ?_
              obtain ⟨x8, e8, r8⟩ := left.slot 104 rfl 8 58 _ rfl rfl (by decide) rfl
              have s8 := Eq.symm (show x8 = .pointer (some ⟨D.g, 1, none⟩) from r8)
              subst s8
              refine ⟨wanted_none rfl, fun K hK => ?_⟩
              have hB := hide left.base; have hP := hide (left.pre (by decide))
              have hc := (hP.out.cell (p := ⟨D.g, 1, none⟩) HDG.out.1).trans C1.out
              clear left
              go_simp
              exact hK _ _ rfl hB.out (one_refl (fun _ => trivial) _ _)
            refine And.intro ?_ ?_
            · refine lstep_run fun fr wf left => ?_
              have o1 := (left.old 1 (by kernel_rfl)).trans rfl
              refine ⟨wanted_none rfl, fun K hK => ?_⟩
              have hB := hide left.base; have hP := hide (left.pre (by decide))
              clear left
              go_simp
              exact hK _ _ rfl hB.out (one_refl (fun _ => trivial) _ _)
            refine And.intro ?_ ?_
            · refine lstep_run fun fr wf left => ?_
              obtain ⟨x9, e9, r9⟩ := left.slot 104 rfl 9 59 _ rfl rfl (by decide) rfl
              have s9 := Eq.symm (show x9 = .map (some D.mb) from r9)
              subst s9
              obtain ⟨x10, e10, r10⟩ := left.slot 104 rfl 10 60 _ rfl rfl (by decide) rfl
              have s10 := Eq.symm (show x10 = .string n from r10)
              subst s10
              refine ⟨wanted_none rfl, fun K hK => ?_⟩
              have hB := hide left.base; have hP := hide (left.pre (by decide))
              have hlk := LOOK.out _ hP.out
              clear left
              go_simp
              exact hK _ _ rfl hB.out (one_refl (fun _ => trivial) _ _)
            refine And.intro ?_ ?_
            · refine lstep_run fun fr wf left => ?_
              obtain ⟨x5, e5, r5⟩ := left.slot 104 rfl 5 55 _ rfl rfl (by decide) rfl
              have s5 := Eq.symm (show x5 = .func (.func cf) #[] caps from r5)
              subst s5
              obtain ⟨x11, e11, r11⟩ := left.slot 104 rfl 11 61 _ rfl rfl (by decide) rfl
              have s11 := Eq.symm (show x11 = .agg #[.string (fo).now, .string (fo).was] from r11)
              subst s11
              refine ⟨wanted_none rfl, fun K hK => ?_⟩
              have hB := hide left.base; have hP := hide (left.pre (by decide))
              clear left
              go_simp
              refine (HCI.out _ ((HX.out.1.mono fun _ => .inl).trans hB.out (fun _ h => .inl (.inr h)))).mono ?_
              rintro e w' ⟨rfl, hb⟩
              exact hK _ _ rfl (hB.out.then (Moved.of_below hb)) (one_else (by decide) hb)
            refine And.intro ?_ ?_
            · refine lstep_run fun fr wf left => ?_
              obtain ⟨x3, e3, r3⟩ := left.slot 104 rfl 3 53 _ rfl rfl (by decide) rfl
              have s3 := Eq.symm (show x3 = .map (some D.mb) from r3)
              subst s3
              obtain ⟨x4, e4, r4⟩ := left.slot 104 rfl 4 54 _ rfl rfl (by decide) rfl
              have s4 := Eq.symm (show x4 = .string n from r4)
              subst s4
              obtain ⟨x12, e12, r12⟩ := left.slot 104 rfl 12 62 _ rfl rfl (by decide) rfl
              have s12 := Eq.symm (show x12 = .agg #[.string (f).now, .string (f).was] from r12)
              subst s12
              refine ⟨wanted_none rfl, fun K hK => ?_⟩
              have hB := hide left.base; have hP := hide (left.pre (by decide))
              clear left
              obtain ⟨w5, hrun, hm5, hg5⟩ := (own_stable _ _ HMAP.out hP.out).update strK Tryz.underlying85 HLEN.out (Go.WideMaps.keyOf_string_mk Tryz.underlying9 (s := n) HNL.out) (Dk.R_val f)
              unfold Dk.valF at hrun
              go_simp
              refine hK undef _ ?_ (hB.out.then (Moved.of_grown hg5 (fun j hj => by injection hj with hj; exact hj.symm))) (one_at rfl)
              refine own_tight (n := s.files.length + 1) ?_
              rw [Dk.put_dat]; exact hm5
            exact trivial
          · intro fr wf hB hs hd hall hkeep
            have h13 : wf.ownsMap Tryz.prog 9 Dk.R D.mb (Dk.put s.files n f).length (Dk.dat (Dk.put s.files n f)) := hall 13 _ rfl (by simp)
            have hfr := act_ext (frame_set hs hkeep [50, 51, 52, 53, 54, 55, 56, 57, 58, 59, 60, 61, 62] (by kernel_rfl)) hd
            obtain ⟨q50, hq50⟩ : ∃ q, q = fr.tmps.getD 50 undef := ⟨_, rfl⟩
            obtain ⟨q51, hq51⟩ : ∃ q, q = fr.tmps.getD 51 undef := ⟨_, rfl⟩
            obtain ⟨q52, hq52⟩ : ∃ q, q = fr.tmps.getD 52 undef := ⟨_, rfl⟩
            obtain ⟨q53, hq53⟩ : ∃ q, q = fr.tmps.getD 53 undef := ⟨_, rfl⟩
            obtain ⟨q54, hq54⟩ : ∃ q, q = fr.tmps.getD 54 undef := ⟨_, rfl⟩
            obtain ⟨q55, hq55⟩ : ∃ q, q = fr.tmps.getD 55 undef := ⟨_, rfl⟩
            obtain ⟨q56, hq56⟩ : ∃ q, q = fr.tmps.getD 56 undef := ⟨_, rfl⟩
            obtain ⟨q57, hq57⟩ : ∃ q, q = fr.tmps.getD 57 undef := ⟨_, rfl⟩
            obtain ⟨q58, hq58⟩ : ∃ q, q = fr.tmps.getD 58 undef := ⟨_, rfl⟩
            obtain ⟨q59, hq59⟩ : ∃ q, q = fr.tmps.getD 59 undef := ⟨_, rfl⟩
            obtain ⟨q60, hq60⟩ : ∃ q, q = fr.tmps.getD 60 undef := ⟨_, rfl⟩
            obtain ⟨q61, hq61⟩ : ∃ q, q = fr.tmps.getD 61 undef := ⟨_, rfl⟩
            obtain ⟨q62, hq62⟩ : ∃ q, q = fr.tmps.getD 62 undef := ⟨_, rfl⟩
            simp only [List.foldl, ← hq50, ← hq51, ← hq52, ← hq53, ← hq54, ← hq55, ← hq56, ← hq57, ← hq58, ← hq59, ← hq60, ← hq61, ← hq62] at hfr
            simp only [List.setIfInBounds_toArray, List.set_cons_zero, List.set_cons_succ] at hfr
            clear hall hkeep hs hd hq50 hq51 hq52 hq53 hq54 hq55 hq56 hq57 hq58 hq59 hq60 hq61 hq62
            subst hfr
            have HBF := hide (And.intro hB h13)
            clear hB h13
            go_wp2_with fail
            go_meet
            case rel =>
              rw [HE.out]
              refine ⟨⟨HE.out ▸ HOK2.out, ?_, HBF.out.2, ?_, HD.out.apart⟩, (HX.out.1.mono fun _ => .inl).trans HBF.out.1 (fun _ h => .inl (.inr h))⟩
              · exact (HBF.out.1.block D.g HDG.out.1 HDG.out.2).trans HX.out.2
              · show SlV _ _ (s1.keep.map Value.bool)
                rw [HA0.out.1]
                refine HD.out.keep.stay (Nat.le_trans HX.out.1.size HBF.out.1.size) fun k hk hlt => ?_
                rw [HBF.out.1.block k (Nat.lt_of_lt_of_le hlt HX.out.1.size) (fun e => HD.out.apart.2 (by rw [hk, e])), HX.out.1.block k hlt (fun e => HD.out.apart.1 (by rw [hk, e]))]
      case rest =>
        have HY := hcut
        clear hcut
        by_cases k13 : kn = 1 ∨ kn = 3
        · have e := HPR.out
          rw [if_pos k13] at e
          have HE := hide e
          clear e
          go_upto_region 9 with (fail)
          rcases k13 with rfl | rfl
          all_goals
            go_wp2_with fail
            go_ret
            rw [HE.out]
            exact ⟨rfl, Turns.same HY.out.1 HY.out.2⟩
        · have n1 : ¬ kn = 1 := fun h => k13 (.inl h)
          have n3 : ¬ kn = 3 := fun h => k13 (.inr h)
          have e := HPR.out
          rw [if_neg k13] at e
          clear k13
          by_cases k2 : kn = 2
          · rw [if_pos k2] at e
            have HE := hide e
            clear e n1 n3
            subst k2
            go_wp2_with fail
            go_ret
            rw [HE.out]
            exact ⟨rfl, Turns.same HY.out.1 HY.out.2⟩
          · rw [if_neg k2] at e
            by_cases k45 : kn = 4 ∨ kn = 5
            · rw [if_pos k45] at e
              have HE := hide e
              have HZ1 := hide (show z = 1 from by
                rcases Int.lt_or_le z 1 with h | h
                · have := HKN.out; rw [if_neg (by omega)] at this; omega
                · by_cases h1 : z = 1
                  · exact h1
                  · have := HKN.out; rw [if_neg h1] at this; omega)
              clear e
              have HK45 := hide k45
              clear k45
              go_upto_if 69 with (fail)
              go_cut [69] from 70 to 72 (fun v69 wy => Hid (v69 = .bool true ∧ wy = wc))
              case first =>
                rcases HK45.out with rfl | rfl
                all_goals
                  go_wp2_with fail
                  go_meet
                  case rel => exact ⟨rfl, rfl⟩
              case rest =>
                obtain ⟨rfl, rfl⟩ := hcut.out
                clear hcut
                have k5 := HY.out.1.c5
                go_wp2_with fail
                refine (diskAfter_any D s2 D.kv s2.keep _ HY.out.1 HY.out.1.keep (by rw [HKL.out]; exact hkl)).mono ?_
                rintro e w3 ⟨v, rfl, hown, hb⟩
                obtain ⟨L, hL⟩ : ∃ l, l = Dk.after s2 s2.keep := ⟨_, rfl⟩
                rw [← hL] at hown
                have hblk := hown.lt
                have hsl := slf_of_owns hown
                obtain ⟨len, a, cap, hll, rfl, hlc, HCv⟩ := hsl.form
                have HBK := hide (show ∀ k, Value.ownBlock (.slice a len cap) = some k → wc.heap.size ≤ k from fun k hk => (hblk k hk).1)
                have HC := hide HCv
                have HL := hide (And.intro hL hll)
                have hlm : len ≤ 1099511627776 := by
                  have h1 := (Dk.after_ok HOK2.out s2.keep).1
                  have h2 := HOK2.out.many
                  rw [← hL] at h1; omega
                have HD3 := hide (show DiskAt w3 D s2 ∧ Moved (Dk.own D) w w3 ∧ wc.heap.size ≤ w3.heap.size from ⟨HY.out.1.past hb, HY.out.2.then (Moved.of_below hb), hb.size⟩)
                have hmm := @run_makeMap Tryz.prog
                have f1 := HD3.out.1.free 1
                have c1 := HD3.out.1.c1
                have gl := HD3.out.1.glt
                have cA : (w3.alloc (.map #[] 0)).cell? ⟨D.g, 1, none⟩ = some (.map (some D.mb)) := (Below.cell ((Below.refl w3.heap.size w3).alloc (Nat.le_refl _) (.map #[] 0)) (p := ⟨D.g, 1, none⟩) gl).trans c1
                have fA : (w3.alloc (.map #[] 0)).frozen? ⟨D.g, 1, none⟩ = false := (Below.frozen ((Below.refl w3.heap.size w3).alloc (Nat.le_refl _) (.map #[] 0)) (p := ⟨D.g, 1, none⟩) gl).trans f1
                clear hown hblk hsl hb HCv hL hll k5
                go_upto_region 19 with (fail)
                obtain ⟨D2, hD2⟩ : ∃ X : Dk.Blk, X = ⟨D.g, w3.heap.size, D.kv⟩ := ⟨_, rfl⟩
                obtain ⟨W4, hW4⟩ : ∃ V, V = (w3.alloc (.map #[] 0)).setCell ⟨D.g, 1, none⟩ (.map (some w3.heap.size)) := ⟨_, rfl⟩
                have hsw : (w3.setCell ⟨D.g, 1, none⟩ (.map (some w3.heap.size))).alloc (.map #[] 0) = W4 := by rw [hW4, World.setCell_alloc_past _ _ _ _ gl]
                rw [hsw]
                clear hsw
                have HD4 := hide (show DiskAt W4 D2 { s2 with files := [] } ∧ Moved (fun k => k = D.g) w3 W4 from by
                  rw [hW4, hD2]
                  exact ⟨HD3.out.1.remap, Moved.setCell (S := fun k => k = D.g) (Moved.alloc (Moved.refl _ _) _) (a := ⟨D.g, 1, none⟩) rfl _⟩)
                have HX2 := hide (show D2.g = D.g ∧ D2.kv = D.kv ∧ D2.mb = w3.heap.size from by rw [hD2]; exact ⟨rfl, rfl, rfl⟩)
                clear hW4 hD2 hmm f1 c1 cA fA gl
                go_wp2_with fail
                go_loopg [85] len (fun g v85 wr => ∃ j : Nat, j ≤ len ∧ g = len - j ∧ v85 = .int .i64 j ∧ Hid (DiskAt wr D2 { s2 with files := Dk.laid (L.take j) } ∧ Moved (fun k => k = D.g) w3 wr))
                case atStart => exact ⟨0, by omega, rfl, rfl, HD4.out⟩
                case round =>
                  obtain ⟨j, hj, rfl, rfl, HQ⟩ := hrel
                  by_cases hjl : j < len
                  · obtain ⟨p, hp⟩ : ∃ p, L[j]? = some p := ⟨_, List.getElem?_eq_getElem (by rw [← HL.out.2]; exact hjl)⟩
                    obtain ⟨b, off, rfl, hbw, hx1, hx2⟩ := HC.out j p hp
                    have hbg : ¬ b = D.g := fun e => by have h1 := HBK.out b rfl; have h2 := HY.out.1.glt; omega
                    have HTK := hide (show L.take (j + 1) = L.take j ++ [p] from by rw [List.take_add_one, hp]; rfl)
                    have HPM := hide (show p ∈ Dk.after s2 s2.keep from by rw [← HL.out.1]; exact List.mem_of_getElem? hp)
                    obtain ⟨nm, tx⟩ := p
                    have HRG := hide (show wr.rangeAt b (off + j * 2) [.string nm, .string tx] from range_pair ((HQ.out.2.cell (a := ⟨b, off + j * 2, none⟩) hbw hbg).trans hx1) (by rw [Nat.add_assoc]; exact (HQ.out.2.cell (a := ⟨b, off + (j * 2 + 1), none⟩) hbw hbg).trans hx2))
                    clear hp hbw hx1 hx2 hbg
                    go_upto_region 22 with (refine wpList_load_mid rfl 51 (.tmp 87) rfl b (off + j * 2) rfl _ _ HRG.out Tryz.underlying51 rfl (by kernel_rfl) ?_)
                    obtain ⟨b10, hb10⟩ : ∃ x, x = wr.heap.size := ⟨_, rfl⟩
                    rw [← hb10]
                    obtain ⟨W5, hW5⟩ : ∃ V, V = wr.alloc (.cells #[.string nm, .string tx] 51) := ⟨_, rfl⟩
                    rw [← hW5]
                    have hb5 : Below wr.heap.size wr W5 := by rw [hW5]; exact (Below.refl _ _).alloc (Nat.le_refl _) _
                    have HB10 := hide (show W5.heap[b10]? = some (.cells #[.string nm, .string tx] 51 (0, 0)) by rw [hW5, hb10]; exact alloc_at _ _)
                    have HD5 := hide (show DiskAt W5 D2 { s2 with files := Dk.laid (L.take j) } ∧ Moved (fun k => k = D.g) w3 W5 from ⟨HQ.out.1.past hb5, HQ.out.2.then (Moved.of_below hb5)⟩)
                    have C1 := hide (show W5.cell? ⟨D.g, 1, none⟩ = some (.map (some D2.mb)) from by rw [← HX2.out.1]; exact HD5.out.1.c1)
                    have HDG := hide (show D.g < W5.heap.size ∧ ¬ D.g = D2.mb from by rw [← HX2.out.1]; exact ⟨HD5.out.1.glt, HD5.out.1.ne⟩)
                    have HLEN := hide (show (Dk.laid (L.take j)).length < maxLen by have := HD5.out.1.ok.many; have h : (Dk.laid (L.take j)).length ≤ 1099511627776 := this; unfold maxLen; omega)
                    have HNL := hide (show nm.size ≤ maxLen by have h : nm.size ≤ 140737488351232 := ((Dk.after_ok HOK2.out s2.keep).2 _ HPM.out).1; unfold maxLen; omega)
                    clear hb5 hW5 hb10
                    
                    refine wp_region_local (by kernel_rfl) (by kernel_rfl) (useList actcU) [11] (by kernel_rfl) (spR (actcL D D2 (Dk.laid (L.take j)) nm tx b10)) (fun k u => k < 12 → Below W5.heap.size W5 u) (Moved (fun k => k = D2.mb) W5) (oneE 11 (fun _ _ => True)) (one_stays (by simp [actcL]) (by kernel_rfl)) (last_pre (fun _ _ h hb => h.trans (hb.mono h.size)) (by kernel_rfl)) (one_refl (fun _ => trivial)) (dsts_lt (N := 104) (by kernel_rfl)) ((Moved.refl _ _).drew) (fun _ _ _ => (Below.refl _ _).drew) (all_ops ?_) ?_
                    · refine And.intro ?_ ?_
                      · refine lstep_run fun fr wf left => ?_
                        have o0 := (left.old 0 (by kernel_rfl)).trans rfl
                        refine ⟨wanted_none rfl, fun K hK => ?_⟩
                        have hB := hide left.base; have hP := hide (left.pre (by decide))
                        clear left
                        go_simp
                        exact hK _ _ rfl hB.out (one_refl (fun _ => trivial) _ _)
                      refine And.intro ?_ ?_
                      · refine lstep_run fun fr wf left => ?_
                        obtain ⟨x0, e0, r0⟩ := left.slot 104 rfl 0 89 _ rfl rfl (by decide) rfl
                        have s0 := Eq.symm (show x0 = .pointer (some ⟨D.g, 0, none⟩) from r0)
                        subst s0
                        refine ⟨wanted_none rfl, fun K hK => ?_⟩
                        have hB := hide left.base; have hP := hide (left.pre (by decide))
                        clear left
                        go_simp
                        exact hK _ _ rfl hB.out (one_refl (fun _ => trivial) _ _)
                      refine And.intro ?_ ?_
                      · refine lstep_run fun fr wf left => ?_
                        obtain ⟨x1, e1, r1⟩ := left.slot 104 rfl 1 90 _ rfl rfl (by decide) rfl
                        have s1 := Eq.symm (show x1 = .pointer (some ⟨D.g, 0, none⟩) from r1)
                        subst s1
                        refine ⟨wanted_none rfl, fun K hK => ?_⟩
                        have hB := hide left.base; have hP := hide (left.pre (by decide))
                        clear left
                        go_simp
                        exact hK _ _ rfl hB.out (one_refl (fun _ => trivial) _ _)
                      refine And.intro ?_ ?_
                      · refine lstep_run fun fr wf left => ?_
                        obtain ⟨x2, e2, r2⟩ := left.slot 104 rfl 2 91 _ rfl rfl (by decide) rfl
                        have s2 := Eq.symm (show x2 = .pointer (some ⟨D.g, 1, none⟩) from r2)
                        subst s2
                        refine ⟨wanted_none rfl, fun K hK => ?_⟩
                        have hB := hide left.base; have hP := hide (left.pre (by decide))
                        have hc := (hP.out.cell (p := ⟨D.g, 1, none⟩) HDG.out.1).trans C1.out
                        clear left
                        go_simp
                        exact hK _ _ rfl hB.out (one_refl (fun _ => trivial) _ _)
                      refine And.intro ?_ ?_
                      · refine lstep_run fun fr wf left => ?_
                        have o10 := (left.old 10 (by kernel_rfl)).trans rfl
                        refine ⟨wanted_none rfl, fun K hK => ?_⟩
                        have hB := hide left.base; have hP := hide (left.pre (by decide))
                        clear left
                        go_simp
                        exact hK _ _ rfl hB.out (one_refl (fun _ => trivial) _ _)
                      refine And.intro ?_ ?_
                      · refine lstep_run fun fr wf left => ?_
                        obtain ⟨x4, e4, r4⟩ := left.slot 104 rfl 4 93 _ rfl rfl (by decide) rfl
                        have s4 := Eq.symm (show x4 = .pointer (some ⟨b10, 0, none⟩) from r4)
                        subst s4
                        refine ⟨wanted_none rfl, fun K hK => ?_⟩
                        have hB := hide left.base; have hP := hide (left.pre (by decide))
                        have hc := (cell_blk ((hP.out.block b10 (heap_lt HB10.out)).trans HB10.out) 0).trans rfl
                        clear left
                        go_simp
                        exact hK _ _ rfl hB.out (one_refl (fun _ => trivial) _ _)
                      refine And.intro ?_ ?_
                      · refine lstep_run fun fr wf left => ?_
                        have o10 := (left.old 10 (by kernel_rfl)).trans rfl
                        refine ⟨wanted_none rfl, fun K hK => ?_⟩
                        have hB := hide left.base; have hP := hide (left.pre (by decide))
                        clear left
                        go_simp
                        exact hK _ _ rfl hB.out (one_refl (fun _ => trivial) _ _)
                      refine And.intro ?_ ?_
                      · refine lstep_run fun fr wf left => ?_
                        obtain ⟨x6, e6, r6⟩ := left.slot 104 rfl 6 95 _ rfl rfl (by decide) rfl
                        have s6 := Eq.symm (show x6 = .pointer (some ⟨b10, 1, none⟩) from r6)
                        subst s6
                        refine ⟨wanted_none rfl, fun K hK => ?_⟩
                        have hB := hide left.base; have hP := hide (left.pre (by decide))
                        have hc := (cell_blk ((hP.out.block b10 (heap_lt HB10.out)).trans HB10.out) 1).trans rfl
                        clear left
                        go_simp
                        exact hK _ _ rfl hB.out (one_refl (fun _ => trivial) _ _)
                      refine And.intro ?_ ?_
                      · refine lstep_run fun fr wf left => ?_
                        have o10 := (left.old 10 (by kernel_rfl)).trans rfl
                        refine ⟨wanted_none rfl, fun K hK => ?_⟩
                        have hB := hide left.base; have hP := hide (left.pre (by decide))
                        clear left
                        go_simp
                        exact hK _ _ rfl hB.out (one_refl (fun _ => trivial) _ _)
                      refine And.intro ?_ ?_
                      · refine lstep_run fun fr wf left => ?_
                        obtain ⟨x8, e8, r8⟩ := left.slot 104 rfl 8 97 _ rfl rfl (by decide) rfl
                        have s8 := Eq.symm (show x8 = .pointer (some ⟨b10, 1, none⟩) from r8)
                        subst s8
                        refine ⟨wanted_none rfl, fun K hK => ?_⟩
                        have hB := hide left.base; have hP := hide (left.pre (by decide))
                        have hc := (cell_blk ((hP.out.block b10 (heap_lt HB10.out)).trans HB10.out) 1).trans rfl
                        clear left
                        go_simp
                        exact hK _ _ rfl hB.out (one_refl (fun _ => trivial) _ _)
                      refine And.intro ?_ ?_
                      · refine lstep_run fun fr wf left => ?_
                        obtain ⟨x7, e7, r7⟩ := left.slot 104 rfl 7 96 _ rfl rfl (by decide) rfl
                        have s7 := Eq.symm (show x7 = .string tx from r7)
                        subst s7
                        obtain ⟨x9, e9, r9⟩ := left.slot 104 rfl 9 98 _ rfl rfl (by decide) rfl
                        have s9 := Eq.symm (show x9 = .string tx from r9)
                        subst s9
                        refine ⟨wanted_none rfl, fun K hK => ?_⟩
                        have hB := hide left.base; have hP := hide (left.pre (by decide))
                        clear left
                        go_simp
                        exact hK _ _ rfl hB.out (one_refl (fun _ => trivial) _ _)
                      refine And.intro ?_ ?_
                      · refine lstep_run fun fr wf left => ?_
                        obtain ⟨x3, e3, r3⟩ := left.slot 104 rfl 3 92 _ rfl rfl (by decide) rfl
                        have s3 := Eq.symm (show x3 = .map (some D2.mb) from r3)
                        subst s3
                        obtain ⟨x5, e5, r5⟩ := left.slot 104 rfl 5 94 _ rfl rfl (by decide) rfl
                        have s5 := Eq.symm (show x5 = .string nm from r5)
                        subst s5
                        obtain ⟨x10, e10, r10⟩ := left.slot 104 rfl 10 99 _ rfl rfl (by decide) rfl
                        have s10 := Eq.symm (show x10 = .agg #[.string tx, .string tx] from r10)
                        subst s10
                        refine ⟨wanted_none rfl, fun K hK => ?_⟩
                        have hB := hide left.base; have hP := hide (left.pre (by decide))
                        clear left
                        obtain ⟨w5, hrun, hm5, hg5⟩ := (own_stable _ _ HD5.out.1.map hP.out).update strK Tryz.underlying85 HLEN.out (Go.WideMaps.keyOf_string_mk Tryz.underlying9 (s := nm) HNL.out) (Dk.R_val ⟨tx, tx⟩)
                        unfold Dk.valF at hrun
                        dsimp only at hrun
                        go_simp
                        refine hK undef _ ?_ (hB.out.then (Moved.of_grown hg5 (fun j hj => by injection hj with hj; exact hj.symm))) (one_at rfl)
                        refine own_tight (n := (Dk.laid (L.take j)).length + 1) ?_
                        rw [Dk.put_dat]; exact hm5
                      exact trivial
                    · intro fr wf hB hs hd hall hkeep
                      have h11 : wf.ownsMap Tryz.prog 9 Dk.R D2.mb (Dk.put (Dk.laid (L.take j)) nm ⟨tx, tx⟩).length (Dk.dat (Dk.put (Dk.laid (L.take j)) nm ⟨tx, tx⟩)) := hall 11 _ rfl (by simp)
                      have hfr := act_ext (frame_set hs hkeep [89, 90, 91, 92, 93, 94, 95, 96, 97, 98, 99] (by kernel_rfl)) hd
                      obtain ⟨q89, hq89⟩ : ∃ q, q = fr.tmps.getD 89 undef := ⟨_, rfl⟩
                      obtain ⟨q90, hq90⟩ : ∃ q, q = fr.tmps.getD 90 undef := ⟨_, rfl⟩
                      obtain ⟨q91, hq91⟩ : ∃ q, q = fr.tmps.getD 91 undef := ⟨_, rfl⟩
                      obtain ⟨q92, hq92⟩ : ∃ q, q = fr.tmps.getD 92 undef := ⟨_, rfl⟩
                      obtain ⟨q93, hq93⟩ : ∃ q, q = fr.tmps.getD 93 undef := ⟨_, rfl⟩
                      obtain ⟨q94, hq94⟩ : ∃ q, q = fr.tmps.getD 94 undef := ⟨_, rfl⟩
                      obtain ⟨q95, hq95⟩ : ∃ q, q = fr.tmps.getD 95 undef := ⟨_, rfl⟩
                      obtain ⟨q96, hq96⟩ : ∃ q, q = fr.tmps.getD 96 undef := ⟨_, rfl⟩
                      obtain ⟨q97, hq97⟩ : ∃ q, q = fr.tmps.getD 97 undef := ⟨_, rfl⟩
                      obtain ⟨q98, hq98⟩ : ∃ q, q = fr.tmps.getD 98 undef := ⟨_, rfl⟩
                      obtain ⟨q99, hq99⟩ : ∃ q, q = fr.tmps.getD 99 undef := ⟨_, rfl⟩
                      simp only [List.foldl, ← hq89, ← hq90, ← hq91, ← hq92, ← hq93, ← hq94, ← hq95, ← hq96, ← hq97, ← hq98, ← hq99] at hfr
                      simp only [List.setIfInBounds_toArray, List.set_cons_zero, List.set_cons_succ] at hfr
                      clear hall hkeep hs hd hq89 hq90 hq91 hq92 hq93 hq94 hq95 hq96 hq97 hq98 hq99
                      subst hfr
                      have HBF := hide (And.intro hB h11)
                      clear hB h11
                      go_wp2_with fail
                      go_roundg (len - (j + 1))
                      case measure => omega
                      case rel =>
                        refine ⟨j + 1, by omega, rfl, by go_num, ?_, ?_⟩
                        · rw [HTK.out, Dk.laid_snoc]
                          refine ⟨?_, (HBF.out.1.block D2.g HD5.out.1.glt HD5.out.1.ne).trans HD5.out.1.cells, HBF.out.2, ?_, HD5.out.1.apart⟩
                          · have ha := Dk.fallen_ok HOK2.out
                            refine ⟨HOK2.out.room, HOK2.out.acts, HOK2.out.left, ?_, ?_, ?_, Dk.up_put HD5.out.1.ok.up _ _⟩
                            · intro q hq
                              rcases Dk.mem_put hq with rfl | hq
                              · exact ((Dk.after_ok HOK2.out s2.keep).2 _ HPM.out).1
                              · exact HD5.out.1.ok.names q hq
                            · have h1 := Dk.laid_len (L.take (j + 1)) []
                              have h2 : (L.take (j + 1)).length ≤ len := by rw [List.length_take, HL.out.2]; omega
                              show (Dk.put (Dk.laid (L.take j)) nm ⟨tx, tx⟩).length ≤ _
                              rw [← Dk.laid_snoc (L.take j) (nm, tx), ← HTK.out]
                              unfold Dk.laid; simp only [List.length_nil] at h1; omega
                            · intro q hq
                              rcases Dk.mem_put hq with rfl | hq
                              · exact ⟨((Dk.after_ok HOK2.out s2.keep).2 _ HPM.out).2, ((Dk.after_ok HOK2.out s2.keep).2 _ HPM.out).2⟩
                              · exact HD5.out.1.ok.sizes q hq
                          · exact HD5.out.1.keep.stay HBF.out.1.size fun k hk hlt => HBF.out.1.block k hlt (fun e => HD5.out.1.apart.2 (by rw [hk, e]))
                        · refine HD5.out.2.trans HBF.out.1 fun k hk => .inr ?_
                          have hk : k = D2.mb := hk
                          rw [hk, HX2.out.2.2]; exact Nat.le_refl _
                  · have hj' : j = len := by omega
                    have HE2 := hide (show L.take j = L by rw [hj', HL.out.2]; exact List.take_length)
                    have g7 := HQ.out.1.free 7
                    have d7 := HQ.out.1.c7
                    rw [HX2.out.1] at g7 d7
                    clear hj'
                    go_wp2_with fail
                    go_ret
                    rw [HE.out]
                    refine ⟨rfl, D2, HX2.out.1, HX2.out.2.1, .inr ?_, fun h => ?_, ?_, ?_⟩
                    · rw [HX2.out.2.2]
                      exact Nat.le_trans HD3.out.2.1.size (Nat.le_refl _)
                    · rw [← HKK.out] at h; exact absurd HK45.out h
                    · rw [← HX2.out.1]
                      refine HQ.out.1.poke 7 (.bool true) (s' := Dk.fallen s2) ?_ ?_ rfl (Dk.fallen_ok HOK2.out)
                      · simp [Dk.cells, Dk.fallen]
                      · show Dk.laid (Dk.after s2 s2.keep) = Dk.laid (L.take j)
                        rw [HE2.out, HL.out.1]
                    · refine HD3.out.2.1.then ((HQ.out.2.mono fun k h => ?_).then (Moved.setCell (S := Dk.own D) (Moved.refl _ _) (a := ⟨D.g, 7, none⟩) (.inl rfl) _))
                      exact .inl h
            · rw [if_neg k45] at e
              have HE := hide e
              have n4 : ¬ kn = 4 := fun h => k45 (.inl h)
              have n5 : ¬ kn = 5 := fun h => k45 (.inr h)
              clear e k45
              go_wp2_with fail
              go_ret
              rw [HE.out]
              exact ⟨rfl, Turns.same HY.out.1 HY.out.2⟩
end Go.Proofs.YtbfbajfdlkgloaaGreatDoor
