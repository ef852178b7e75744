/-
  The law's made: a store of a list, on an empty disk.
-/
import Derived.Test.YtbfbajfdlkgloaaGreatDoorG43

namespace Go.Proofs.YtbfbajfdlkgloaaGreatDoor
open Go Go.RowKit Go.Maps
/-- A list's cells lie in none of a disk's blocks. -/
theorem list_away {w : World} {D : Dk.Blk} {d : Dk.St} {b off n i : Nat} {x : ByteArray} (hd : DiskAt w D d) (hc : w.cell? ⟨b, off + i, none⟩ = some (.string x)) : b ≠ D.g ∧ b ≠ D.mb := by
  have hkv : ∃ a l c, D.kv = .slice a l c := by
    rcases hd.keep with ⟨_, a, c, h, _⟩ | ⟨g, o, c, h, _⟩
    · exact ⟨_, _, _, h⟩
    · exact ⟨_, _, _, h⟩
  refine ⟨fun e => ?_, fun e => ?_⟩
  · rw [e, hd.cell] at hc
    have hne : ∀ v ∈ (Dk.cells D d).toList, v ≠ .string x := by
      intro v hv
      simp only [Dk.cells, List.mem_cons, List.mem_nil_iff, or_false] at hv
      rcases hv with rfl | rfl | rfl | rfl | rfl | rfl | rfl | rfl
      all_goals first | (intro h; cases h; done) | (obtain ⟨a, l, c, h⟩ := hkv; rw [h]; intro h2; cases h2)
    have hm := Array.mem_of_getElem? hc
    exact hne _ (Array.mem_toList_iff.2 hm) rfl
  · obtain ⟨es, clock, hb, _⟩ := hd.map
    rw [e] at hc
    simp [World.cell?, hb] at hc
-- DEFS md7
def md7L (ev : Value) (D' : Dk.Blk) (s2 : Fl.St) (d2 : Dk.St) (wr : World) (x : ByteArray) (g' b off n cap i k : Nat) : List Sp :=
  [.is (.pointer (some ⟨g', 0, none⟩)), .is (.slice (some ⟨b, off, none⟩) n cap), .is (.int .i64 (i : Int)), .is (.pointer (some ⟨b, off + i, none⟩)), .is (.string x), .is (.int .i64 (i : Int)), .is (.int .u64 (i : Int)), .is (.int .i64 (k : Int)), .sl ((Fl.digs i k).map Value.string), .both (.int .i64 0) (fun u => AddedAt wr.heap.size (⟨g', ev⟩ : Fl.Blk) D' s2 d2 u) (fun _ _ h hb => h.past hb), .is (.bool false)]
def md7U : List (List Nat) := [[], [], [], [1, 2], [3], [], [5], [], [6, 7], [0, 4, 8], [9]]
-- END md7
set_option maxHeartbeats 3200000 in
set_option maxRecDepth 100000 in
theorem made_val (D : Dk.Blk) (d : Dk.St) (k : Nat) (l : List ByteArray) (v : Value) (w : World) (hd : DiskAt w D d) (hcalm : Fl.calm d) (hfs : d.files = []) (hroom : 10000 ≤ d.room ∧ d.room ≤ 9223372036854775807) (hacts : d.acts ≤ 1000000) (hkl : d.keep.length ≤ 140737488351232) (hv : SlV w v (l.map Value.string)) (hl : l.length ≤ 13) (hs : ∀ x ∈ l, x.size ≤ 500) (hk1 : 1 ≤ k) (hk : k ≤ 32) :
    Calls Tryz.prog 15 #[.pointer (some ⟨D.g, 0, none⟩), .int .i64 (k : Int), v] w fun e w' => ∃ T D', e = .returned (.pointer (some ⟨T.g, 0, none⟩)) ∧ Stands D w w' T D' (Fl.stOf k (Fl.its k 0 l)) (Fl.dOf d k (Fl.its k 0 l) (d.acts + 3 + 6 * l.length)) := by
  obtain ⟨n, a, cap, hn, rfl, hc, hx⟩ := hv.form
  rw [List.length_map] at hn
  have HX := hide hx
  have HN := hide hn
  have HS := hide hs
  have HD := hide hd
  have HCA := hide (And.intro hcalm hroom)
  have HOP := hide (Fl.open_new hcalm hfs hk1 hk)
  have HFL := hide (show d.files.length + 6 < 1099511627776 by rw [hfs]; decide)
  have HAC := hide (And.intro hacts hkl)
  rw [← hn] at hl ⊢
  have hacts6 : d.acts + 6 < 4611686018427387904 := by omega
  clear hx hn hs hd hcalm hroom hfs hv
  go_enter Tryz.func15, Tryz.ntmps15
  go_wp2_with fail
  refine (filesOpen_val D d _ k 0 _ _ HD.out hacts6 HFL.out hkl HOP.out).mono ?_
  rintro e w1 ho
  obtain ⟨T0, D0, rfl, htg, hst⟩ := Stands.of_open (DiskSt.start HD.out) ho
  obtain ⟨tg, htg2⟩ : ∃ b, b = T0.g := ⟨_, rfl⟩
  rw [← htg2]
  have HST := hide (show T0.g = tg ∧ Stands D w w1 T0 D0 (Fl.stOf k (Fl.its k 0 (l.take 0))) (Fl.dOf d k (Fl.its k 0 (l.take 0)) (d.acts + 3 + 6 * 0)) from ⟨htg2.symm, hst⟩)
  clear ho htg hst htg2
  go_upto_block 0 with (fail)
  go_wp2_with fail
  go_loopg [9] n (fun g v9 wr => ∃ (i : Nat) (T' : Fl.Blk) (D' : Dk.Blk), g = n - i ∧ i ≤ n ∧ v9 = .int .i64 (i : Int) ∧ Hid (T'.g = tg ∧ Stands D w wr T' D' (Fl.stOf k (Fl.its k 0 (l.take i))) (Fl.dOf d k (Fl.its k 0 (l.take i)) (d.acts + 3 + 6 * i))))
  case atStart => exact ⟨0, T0, D0, rfl, Nat.zero_le _, rfl, HST.out⟩
  case round =>
    obtain ⟨i, T', D', rfl, hi, rfl, HL⟩ := hrel
    by_cases hlt : i < n
    · have hlt2 : decide (i < n) = true := decide_eq_true hlt
      obtain ⟨⟨g', ev⟩, hT⟩ : ∃ t, t = T' := ⟨_, rfl⟩
      subst hT
      have hg' : g' = tg := HL.out.1
      subst hg'
      obtain ⟨x, hxx⟩ : ∃ x, l[i]? = some x := ⟨_, List.getElem?_eq_getElem (by rw [← HN.out]; exact hlt)⟩
      obtain ⟨b, off, rfl, hbl, hcl⟩ := HX.out i hlt
      have hcl2 : w.cell? ⟨b, off + i, none⟩ = some (.string x) := by rw [hcl, List.getD_eq_getElem?_getD, List.getElem?_map, hxx]; rfl
      have hxs := HS.out x (List.mem_of_getElem? hxx)
      obtain ⟨s1, hs1⟩ : ∃ s, s = Fl.stOf k (Fl.its k 0 (l.take i)) := ⟨_, rfl⟩
      obtain ⟨s2, hs2⟩ : ∃ s, s = Fl.stOf k (Fl.its k 0 (l.take (i + 1))) := ⟨_, rfl⟩
      obtain ⟨d1, hd1⟩ : ∃ s, s = Fl.dOf d k (Fl.its k 0 (l.take i)) (d.acts + 3 + 6 * i) := ⟨_, rfl⟩
      obtain ⟨d2, hd2⟩ : ∃ s, s = Fl.dOf d k (Fl.its k 0 (l.take (i + 1))) (d.acts + 3 + 6 * (i + 1)) := ⟨_, rfl⟩
      have HAD := hide (show Fl.addA s1 d1 x (Fl.digs i k) = (0, s2, d2) from by
        rw [hs1, hd1, hs2, hd2]
        have h := Fl.made_step HCA.out.1 HCA.out.2 hk1 hk (by rw [← HN.out]; exact hl) HS.out hxx (d.acts + 3 + 6 * i)
        rw [show d.acts + 3 + 6 * (i + 1) = d.acts + 3 + 6 * i + 6 by omega]
        exact h)
      have HST1 := hide (show Stands D w wr ⟨g', ev⟩ D' s1 d1 from by rw [hs1, hd1]; exact HL.out.2)
      have hda : d1.acts + 6 < 4611686018427387904 := by rw [hd1]; show d.acts + 3 + 6 * i + 6 < _; omega
      have hdf : d1.files.length + 6 < 1099511627776 := by rw [hd1]; show 3 + 6 < 1099511627776; decide
      have hdk : d1.keep.length ≤ 140737488351232 := by rw [hd1]; exact hkl
      have HDA := hide (And.intro hda (And.intro hdf hdk))
      have haw := list_away (i := i) (n := n) HD.out hcl2
      have HCLL := hide (show ∀ u, Moved (addS ⟨g', ev⟩ D') wr u → u.cell? ⟨b, off + i, none⟩ = some (.string x) from by
        intro u hm
        have h0 : Moved (Dk.own D) w u := HST1.out.moved.trans hm (by
          rintro j (e | e | e)
          · right; rw [e]; exact HST1.out.tg
          · right; exact HST1.out.te j e
          · exact HST1.out.toDiskSt.own e)
        have h1 := World.cell?_of_block (a := ⟨b, off + i, none⟩) (h0.block b hbl (fun ho => ho.elim haw.1 haw.2))
        rw [h1]; exact hcl2)
      have HS12 := hide (And.intro hs2 hd2)
      have hdl : (Fl.digs i k).length ≤ 140737488351232 := by rw [Fl.digs_len]; have := Fl.trailF_le 64 i; unfold Fl.trail; omega
      have HDL := hide (And.intro hdl (show ∀ d ∈ Fl.digs i k, d.size ≤ 140737488351232 from fun d hd => by rw [Fl.digs_size hd]; omega))
      clear hcl hcl2 hxx hs1 hs2 hd1 hd2 hda hdf hdk haw hdl hbl
      go_upto_region 7 with (fail)
-- REGION md7
      
      refine wp_region_local (by kernel_rfl) (by kernel_rfl) (useList md7U) [9, 10] (by kernel_rfl) (spR (md7L ev D' s2 d2 wr x g' b off n cap i k)) (onePre 9 (fun u => StoreAt u (⟨g', ev⟩ : Fl.Blk) D'.g s1 ∧ DiskAt u D' d1)) (Moved (addS (⟨g', ev⟩ : Fl.Blk) D') wr) (oneE 9 (fun _ _ => True)) (one_stays (by simp [md7L]) (by kernel_rfl)) (one_pre (fun _ _ h hb => ⟨h.1.past hb, h.2.past hb⟩)) (one_refl (fun _ => trivial)) (dsts_lt (N := 40) (by kernel_rfl)) ((Moved.refl _ _).drew) (fun _ _ => one_start (⟨HST1.out.store.past ((Below.refl _ _).drew), HST1.out.disk.past ((Below.refl _ _).drew)⟩)) (all_ops ?_) ?_
      · refine And.intro ?_ ?_
        · -- 0: slot 28 := Op.move (Operand.tmp 7)
          refine lstep_run fun fr wf left => ?_
          have o7 := (left.old 7 (by kernel_rfl)).trans rfl
          refine ⟨wanted_none rfl, fun K hK => ?_⟩
          have hB := hide left.base
          clear left
          go_simp
          exact hK _ _ rfl hB.out (one_refl (fun _ => trivial) _ _)
        refine And.intro ?_ ?_
        · -- 1: slot 29 := Op.move (Operand.tmp 2)
          refine lstep_run fun fr wf left => ?_
          have o2 := (left.old 2 (by kernel_rfl)).trans rfl
          refine ⟨wanted_none rfl, fun K hK => ?_⟩
          have hB := hide left.base
          clear left
          go_simp
          exact hK _ _ rfl hB.out (one_refl (fun _ => trivial) _ _)
        refine And.intro ?_ ?_
        · -- 2: slot 30 := Op.move (Operand.tmp 9)
          refine lstep_run fun fr wf left => ?_
          have o9 := (left.old 9 (by kernel_rfl)).trans rfl
          refine ⟨wanted_none rfl, fun K hK => ?_⟩
          have hB := hide left.base
          clear left
          go_simp
          exact hK _ _ rfl hB.out (one_refl (fun _ => trivial) _ _)
        refine And.intro ?_ ?_
        · -- 3: slot 31 := Op.indexAddr 22 (Operand.tmp 29) (Operand.tmp 30)
          refine lstep_run fun fr wf left => ?_
          obtain ⟨x1, e1, r1⟩ := left.slot 40 rfl 1 29 _ rfl rfl (by decide) rfl
          have s1 := Eq.symm (show x1 = .slice (some ⟨b, off, none⟩) n cap from r1)
          subst s1
          obtain ⟨x2, e2, r2⟩ := left.slot 40 rfl 2 30 _ rfl rfl (by decide) rfl
          have s2 := Eq.symm (show x2 = .int .i64 (i : Int) from r2)
          subst s2
          refine ⟨wanted_none rfl, fun K hK => ?_⟩
          have hB := hide left.base
          clear left
          go_simp
          exact hK _ _ rfl hB.out (one_refl (fun _ => trivial) _ _)
        refine And.intro ?_ ?_
        · -- 4: slot 32 := Op.load 9 (Operand.tmp 31)
          refine lstep_run fun fr wf left => ?_
          obtain ⟨x3, e3, r3⟩ := left.slot 40 rfl 3 31 _ rfl rfl (by decide) rfl
          have s3 := Eq.symm (show x3 = .pointer (some ⟨b, off + i, none⟩) from r3)
          subst s3
          refine ⟨wanted_none rfl, fun K hK => ?_⟩
          have hB := hide left.base
          have hc := HCLL.out _ hB.out
          clear left
          go_simp
          exact hK _ _ rfl hB.out (one_refl (fun _ => trivial) _ _)
        refine And.intro ?_ ?_
        · -- 5: slot 33 := Op.move (Operand.tmp 9)
          refine lstep_run fun fr wf left => ?_
          have o9 := (left.old 9 (by kernel_rfl)).trans rfl
          refine ⟨wanted_none rfl, fun K hK => ?_⟩
          have hB := hide left.base
          clear left
          go_simp
          exact hK _ _ rfl hB.out (one_refl (fun _ => trivial) _ _)
        refine And.intro ?_ ?_
        · -- 6: slot 34 := Op.convert 3 45 (Operand.tmp 33)
          refine lstep_run fun fr wf left => ?_
          obtain ⟨x5, e5, r5⟩ := left.slot 40 rfl 5 33 _ rfl rfl (by decide) rfl
          have s5 := Eq.symm (show x5 = .int .i64 (i : Int) from r5)
          subst s5
          refine ⟨wanted_none rfl, fun K hK => ?_⟩
          have hB := hide left.base
          clear left
          go_simp
          exact hK _ _ (congrArg (Value.int .u64) (by first | rfl | (rw [IntKind.wrap_u64]; omega))) hB.out (one_refl (fun _ => trivial) _ _)
        refine And.intro ?_ ?_
        · -- 7: slot 35 := Op.move (Operand.tmp 1)
          refine lstep_run fun fr wf left => ?_
          have o1 := (left.old 1 (by kernel_rfl)).trans rfl
          refine ⟨wanted_none rfl, fun K hK => ?_⟩
          have hB := hide left.base
          clear left
          go_simp
          exact hK _ _ rfl hB.out (one_refl (fun _ => trivial) _ _)
        refine And.intro ?_ ?_
        · -- 8: slot 36 := Op.call { callee := Callee.value (Operand.func 25), args := #[Operand.tmp 34, Operand.tmp 
          refine lstep_run fun fr wf left => ?_
          obtain ⟨x6, e6, r6⟩ := left.slot 40 rfl 6 34 _ rfl rfl (by decide) rfl
          have s6 := Eq.symm (show x6 = .int .u64 (i : Int) from r6)
          subst s6
          obtain ⟨x7, e7, r7⟩ := left.slot 40 rfl 7 35 _ rfl rfl (by decide) rfl
          have s7 := Eq.symm (show x7 = .int .i64 (k : Int) from r7)
          subst s7
          refine ⟨wanted_none rfl, fun K hK => ?_⟩
          have hB := hide left.base
          clear left
          go_simp
          refine (digests_any i k _ (by omega) hk).mono ?_
          rintro e w' ⟨dv, rfl, hrow, hb⟩
          exact hK _ _ (slv_of_owns hrow) (hB.out.then (Moved.of_below hb)) (one_else (by decide) hb)
        refine And.intro ?_ ?_
        · -- 9: slot 37 := Op.call { callee := Callee.value (Operand.func 26), args := #[Operand.tmp 28, Operand.tmp 
          refine lstep_run fun fr wf left => ?_
          obtain ⟨x0, e0, r0⟩ := left.slot 40 rfl 0 28 _ rfl rfl (by decide) rfl
          have s0 := Eq.symm (show x0 = .pointer (some ⟨g', 0, none⟩) from r0)
          subst s0
          obtain ⟨x4, e4, r4⟩ := left.slot 40 rfl 4 32 _ rfl rfl (by decide) rfl
          have s4 := Eq.symm (show x4 = .string x from r4)
          subst s4
          obtain ⟨x8, e8, r8⟩ := left.slot 40 rfl 8 36 _ rfl rfl (by decide) rfl
          replace r8 : SlV wf x8 ((Fl.digs i k).map Value.string) := r8
          refine ⟨wanted_none rfl, fun K hK => ?_⟩
          have hB := hide left.base; have hP := hide (one_pre_at left.pre rfl)
          clear left
          go_simp
          refine (storeAdd_val (⟨g', ev⟩ : Fl.Blk) D' s1 s2 d1 d2 0 x _ (Fl.digs i k) _ hP.out.1 hP.out.2 HST1.out.away (by omega) r8 HDL.out.1 HDL.out.2 HDA.out.1 HDA.out.2.1 HDA.out.2.2 HAD.out).mono ?_
          rintro e w' ⟨rfl, ht⟩
          have hat := ht.at (B := wr.heap.size) hB.out.size
          exact hK _ _ ⟨rfl, hat.1⟩ (hB.out.then hat.2) (one_at rfl)
        refine And.intro ?_ ?_
        · -- 10: slot 38 := Op.binOp BinOp.neq 3 (Operand.tmp 37) (Operand.const (Value.int IntKind.i64 0)) 3
          refine lstep_run fun fr wf left => ?_
          obtain ⟨x9, e9, r9⟩ := left.slot 40 rfl 9 37 _ rfl rfl (by decide) rfl
          obtain ⟨s9, q9⟩ := (show x9 = .int .i64 0 ∧ (fun u => AddedAt wr.heap.size (⟨g', ev⟩ : Fl.Blk) D' s2 d2 u) wf from r9)
          subst s9
          refine ⟨wanted_none rfl, fun K hK => ?_⟩
          have hB := hide left.base
          clear left
          go_simp
          exact hK _ _ rfl hB.out (one_refl (fun _ => trivial) _ _)
        exact trivial
      · intro fr wf hB hs hd hall hkeep
        have hw : fr.tmps.getD 37 undef = .int .i64 0 ∧ AddedAt wr.heap.size (⟨g', ev⟩ : Fl.Blk) D' s2 d2 wf := hall 9 _ rfl (by simp)
        have hz : fr.tmps.getD 38 undef = .bool false := hall 10 _ rfl (by simp)
        have hfr := act_ext (frame_setL hs hkeep [28, 29, 30, 31, 32, 33, 34, 35, 36, 37, 38] (by kernel_rfl)) hd
        clear hall hkeep hs hd
        dsimp only [List.foldl, List.set_cons_zero, List.set_cons_succ] at hfr
        generalize fr.tmps.getD 28 undef = q28 at hfr
        generalize fr.tmps.getD 29 undef = q29 at hfr
        generalize fr.tmps.getD 30 undef = q30 at hfr
        generalize fr.tmps.getD 31 undef = q31 at hfr
        generalize fr.tmps.getD 32 undef = q32 at hfr
        generalize fr.tmps.getD 33 undef = q33 at hfr
        generalize fr.tmps.getD 34 undef = q34 at hfr
        generalize fr.tmps.getD 35 undef = q35 at hfr
        generalize fr.tmps.getD 36 undef = q36 at hfr
        generalize fr.tmps.getD 37 undef = q37 at hfr hw
        generalize fr.tmps.getD 38 undef = q38 at hfr hz
        subst hfr
        have hq := hw.1
        subst hq
        subst hz
        obtain ⟨T2, D2, hT2, hS2⟩ := HST1.out.add (hw.2.added hB)
        have HN2 := hide (show T2.g = g' ∧ Stands D w wf T2 D2 (Fl.stOf k (Fl.its k 0 (l.take (i + 1)))) (Fl.dOf d k (Fl.its k 0 (l.take (i + 1))) (d.acts + 3 + 6 * (i + 1))) from by rw [← HS12.out.1, ← HS12.out.2]; exact ⟨hT2, hS2⟩)
        clear hw hB hT2 hS2
        go_wp2_with fail
        go_roundg (n - (i + 1))
        case measure => omega
        case rel => exact ⟨i + 1, T2, D2, rfl, by omega, by go_num, HN2.out⟩
      -- END REGION md7
    · have hlt2 : decide (i < n) = false := decide_eq_false hlt
      have hie : i = n := by omega
      have HF := hide (show T'.g = tg ∧ Stands D w wr T' D' (Fl.stOf k (Fl.its k 0 l)) (Fl.dOf d k (Fl.its k 0 l) (d.acts + 3 + 6 * n)) from by
        have h := HL.out
        rw [List.take_of_length_le (by rw [hie]; exact Nat.le_of_eq HN.out.symm), hie] at h
        exact h)
      clear hie
      go_wp2_with fail
      go_ret
      exact ⟨T', D', by rw [HF.out.1]; rfl, HF.out.2⟩
end Go.Proofs.YtbfbajfdlkgloaaGreatDoor
