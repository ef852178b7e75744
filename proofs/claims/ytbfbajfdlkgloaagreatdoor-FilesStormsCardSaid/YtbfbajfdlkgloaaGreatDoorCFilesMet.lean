/-
  The law's met: items are added till one is refused: the walk.
-/
import Derived.Test.YtbfbajfdlkgloaaGreatDoorCFilesListW
import Derived.Test.YtbfbajfdlkgloaaGreatDoorCFilesStormQ
namespace Go.Proofs.YtbfbajfdlkgloaaGreatDoor
open Go Go.RowKit Go.Maps
def mt4L (r : Int) (ev : Value) (D' : Dk.Blk) (s2 : Fl.St) (d2 : Dk.St) (wr : World) (x : ByteArray) (g' b off n cap i k : Nat) : List Sp :=
  [.is (.pointer (some ⟨g', 0, none⟩)), .is (.slice (some ⟨b, off, none⟩) n cap), .is (.int .i64 (i : Int)), .is (.pointer (some ⟨b, off + i, none⟩)), .is (.string x), .is (.int .i64 (i : Int)), .is (.int .u64 (i : Int)), .is (.int .i64 (k : Int)), .sl ((Fl.digs i k).map Value.string), .both (.int .i64 r) (fun u => AddedAt wr.heap.size (⟨g', ev⟩ : Fl.Blk) D' s2 d2 u) (fun _ _ h hb => h.past hb), .is (.int .i64 r)]
def mt4U : List (List Nat) := [[], [], [], [1, 2], [3], [], [5], [], [6, 7], [0, 4, 8], [9]]
/-- A disk on which items may still be added. -/
structure Fl.Runs (k : Nat) (l : List ByteArray) (i : Nat) (d : Dk.St) : Prop where
  fated : Fl.Fated d
  up : d.down = false
  files : d.files = Fl.good3 k (Fl.its k 0 (l.take i))
  room : d.room = 1048576
  acts : d.acts ≤ 1000 + 6 * i
  keep : d.keep.length ≤ 140737488351232
theorem Fl.metA_go {k i : Nat} {l : List ByteArray} {s : Fl.St} {d : Dk.St} (hi : i < l.length) (h0 : (Fl.addA s d (l.getD i ⟨#[]⟩) (Fl.digs i k)).1 = 0) : Fl.metA k l (l.length - i) i s d = Fl.metA k l (l.length - (i + 1)) (i + 1) (Fl.addA s d (l.getD i ⟨#[]⟩) (Fl.digs i k)).2.1 (Fl.addA s d (l.getD i ⟨#[]⟩) (Fl.digs i k)).2.2 := by
  rw [show l.length - i = (l.length - (i + 1)) + 1 by omega, Fl.metA, if_neg (by simpa using h0)]
theorem Fl.metA_end {k i : Nat} {l : List ByteArray} {s : Fl.St} {d : Dk.St} (hi : i < l.length) (h0 : (Fl.addA s d (l.getD i ⟨#[]⟩) (Fl.digs i k)).1 ≠ 0) : Fl.metA k l (l.length - i) i s d = (i, Fl.addA s d (l.getD i ⟨#[]⟩) (Fl.digs i k)) := by
  rw [show l.length - i = (l.length - (i + 1)) + 1 by omega, Fl.metA, if_pos h0]
set_option maxHeartbeats 3200000 in
set_option maxRecDepth 100000 in
theorem met_val {D0 D : Dk.Blk} {w0 w : World} {T : Fl.Blk} {k tg i0 : Nat} {l : List ByteArray} {d : Dk.St} (h : T.g = tg ∧ Stands D0 w0 w T D (Fl.stOf k (Fl.its k 0 (l.take i0))) d) (hr : Fl.Runs k l i0 d) (hi0 : i0 ≤ l.length) (hk1 : 1 ≤ k) (hk : k ≤ 32) (hl : l.length ≤ 12) (hs : ∀ x ∈ l, x.size ≤ 500)
    (v : Value) (hv : SlV w0 v (l.map Value.string)) (hvo : ∀ j, Dk.slBlk v = some j → ¬ Dk.own D0 j) (R : Nat × Int × Fl.St × Dk.St) (hR : Fl.metA k l (l.length - i0) i0 (Fl.stOf k (Fl.its k 0 (l.take i0))) d = R) :
    Calls Tryz.prog 40 #[.pointer (some ⟨tg, 0, none⟩), .int .i64 (k : Int), v, .int .i64 (i0 : Int)] w fun e w' => e = .returned (.tuple #[.int .i64 (R.1 : Int), .int .i64 R.2.1]) ∧ ∃ T' D', Hid (T'.g = tg ∧ Stands D0 w0 w' T' D' R.2.2.1 R.2.2.2) := by
  obtain ⟨n, a, cap, hn, rfl, hc, hx⟩ := hv.form
  rw [List.length_map] at hn
  have HX := hide hx
  have HN := hide hn
  have HS := hide hs
  have HVO := hide hvo
  have HST := hide (show T.g = tg ∧ Stands D0 w0 w T D (Fl.stOf k (Fl.its k 0 (l.take i0))) d ∧ Fl.Runs k l i0 d ∧ Fl.metA k l (l.length - i0) i0 (Fl.stOf k (Fl.its k 0 (l.take i0))) d = R from ⟨h.1, h.2, hr, hR⟩)
  rw [← hn] at hl hi0
  clear hx hn hs hv h hr hR hvo
  go_enter Tryz.func40, Tryz.ntmps40
  go_upto_block 0 with (fail)
  go_wp2_with fail
  go_loopg [10] (n - i0) (fun g v10 wr => ∃ (i : Nat) (T' : Fl.Blk) (D' : Dk.Blk) (d' : Dk.St), g = n - i ∧ i ≤ n ∧ v10 = .int .i64 (i : Int) ∧ Hid (T'.g = tg ∧ Stands D0 w0 wr T' D' (Fl.stOf k (Fl.its k 0 (l.take i))) d' ∧ Fl.Runs k l i d' ∧ Fl.metA k l (l.length - i) i (Fl.stOf k (Fl.its k 0 (l.take i))) d' = R))
  case atStart => exact ⟨i0, T, D, d, rfl, hi0, rfl, HST.out⟩
  case round =>
    obtain ⟨i, T', D', d', rfl, hi, rfl, HL⟩ := hrel
    by_cases hlt : i < n
    · have hlt2 : decide (i < n) = true := decide_eq_true hlt
      obtain ⟨⟨g', ev⟩, hT⟩ : ∃ t, t = T' := ⟨_, rfl⟩
      subst hT
      have hg' : g' = tg := HL.out.1
      subst hg'
      have hil : i < l.length := by have := HN.out; omega
      obtain ⟨x, hxe⟩ : ∃ x, x = l.getD i ⟨#[]⟩ := ⟨_, rfl⟩
      have hxx : l[i]? = some x := by rw [hxe, List.getD_eq_getElem?_getD, List.getElem?_eq_getElem hil]; rfl
      obtain ⟨b, off, rfl, hbl, hcl⟩ := HX.out i hlt
      have hxs := HS.out x (List.mem_of_getElem? hxx)
      have hown : ¬ Dk.own D0 b := HVO.out b (by rw [Dk.slBlk_some, if_neg (by omega)])
      obtain ⟨s1, hs1⟩ : ∃ s, s = Fl.stOf k (Fl.its k 0 (l.take i)) := ⟨_, rfl⟩
      have hru := HL.out.2.2.1
      have hadds := Fl.add_at hk1 hk (by have := HN.out; omega) HS.out hil hru.fated hru.up hru.files hru.room
      have hgo := @Fl.metA_go k i l s1 d' hil
      have hend := @Fl.metA_end k i l s1 d' hil
      rw [← hs1, ← hxe] at hadds
      rw [← hxe] at hgo hend
      obtain ⟨r, s2, d2, had⟩ : ∃ r s2 d2, Fl.addA s1 d' x (Fl.digs i k) = (r, s2, d2) := ⟨_, _, _, rfl⟩
      rw [had] at hadds hgo hend
      have HAD := hide had
      have HADS := hide (And.intro hadds (And.intro hgo hend))
      have HST1 := hide (show Stands D0 w0 wr ⟨g', ev⟩ D' s1 d' from by rw [hs1]; exact HL.out.2.1)
      have HME := hide (show Fl.metA k l (l.length - i) i s1 d' = R from by rw [hs1]; exact HL.out.2.2.2)
      have HRU := hide hru
      have HDA := hide (show d'.acts + 6 < 4611686018427387904 ∧ d'.files.length + 6 < 1099511627776 ∧ d'.keep.length ≤ 140737488351232 from ⟨by have := hru.acts; omega, by rw [hru.files]; show 3 + 6 < 1099511627776; decide, hru.keep⟩)
      have HCLL := hide (show ∀ u, Moved (addS ⟨g', ev⟩ D') wr u → u.cell? ⟨b, off + i, none⟩ = some (.string x) from by
        intro u hm
        have h0 : Moved (Dk.own D0) w0 u := HST1.out.moved.trans hm (by
          rintro j (e | e | e)
          · right; rw [e]; exact HST1.out.tg
          · right; exact HST1.out.te j e
          · exact HST1.out.toDiskSt.own e)
        rw [World.cell?_of_block (a := ⟨b, off + i, none⟩) (h0.block b hbl hown), hcl, List.getD_eq_getElem?_getD, List.getElem?_map, hxx]; rfl)
      have HS1 := hide hs1
      have HDL := hide (show (Fl.digs i k).length ≤ 140737488351232 ∧ ∀ d ∈ Fl.digs i k, d.size ≤ 140737488351232 from ⟨by rw [Fl.digs_len]; have := Fl.trailF_le 64 i; unfold Fl.trail; omega, fun d hd => by rw [Fl.digs_size hd]; omega⟩)
      clear hcl hxx hs1 had hadds hgo hend hru hbl hown hxe
      go_upto_region 4 with (fail)
      
      refine wp_region_local (by kernel_rfl) (by kernel_rfl) (useList mt4U) [9, 10] (by kernel_rfl) (spR (mt4L r ev D' s2 d2 wr x g' b off n cap i k)) (onePre 9 (fun u => StoreAt u (⟨g', ev⟩ : Fl.Blk) D'.g s1 ∧ DiskAt u D' d')) (Moved (addS (⟨g', ev⟩ : Fl.Blk) D') wr) (oneE 9 (fun _ _ => True)) (one_stays (by simp [mt4L]) (by kernel_rfl)) (one_pre (fun _ _ h hb => ⟨h.1.past hb, h.2.past hb⟩)) (one_refl (fun _ => trivial)) (dsts_lt (N := 35) (by kernel_rfl)) ((Moved.refl _ _).drew) (fun _ _ => one_start (⟨HST1.out.store.past ((Below.refl _ _).drew), HST1.out.disk.past ((Below.refl _ _).drew)⟩)) (all_ops ?_) ?_
      · refine And.intro ?_ ?_
        · refine lstep_run fun fr wf left => ?_
          have o0 := (left.old 0 (by kernel_rfl)).trans rfl
          refine ⟨wanted_none rfl, fun K hK => ?_⟩
          have hB := hide left.base
          clear left
          go_simp
          exact hK _ _ rfl hB.out (one_refl (fun _ => trivial) _ _)
        refine And.intro ?_ ?_
        · refine lstep_run fun fr wf left => ?_
          have o2 := (left.old 2 (by kernel_rfl)).trans rfl
          refine ⟨wanted_none rfl, fun K hK => ?_⟩
          have hB := hide left.base
          clear left
          go_simp
          exact hK _ _ rfl hB.out (one_refl (fun _ => trivial) _ _)
        refine And.intro ?_ ?_
        · refine lstep_run fun fr wf left => ?_
          have o10 := (left.old 10 (by kernel_rfl)).trans rfl
          refine ⟨wanted_none rfl, fun K hK => ?_⟩
          have hB := hide left.base
          clear left
          go_simp
          exact hK _ _ rfl hB.out (one_refl (fun _ => trivial) _ _)
        refine And.intro ?_ ?_
        · refine lstep_run fun fr wf left => ?_
          obtain ⟨x1, e1, r1⟩ := left.slot 35 rfl 1 20 _ rfl rfl (by decide) rfl
          have s1 := Eq.symm (show x1 = .slice (some ⟨b, off, none⟩) n cap from r1)
          subst s1
          obtain ⟨x2, e2, r2⟩ := left.slot 35 rfl 2 21 _ rfl rfl (by decide) rfl
          have s2 := Eq.symm (show x2 = .int .i64 (i : Int) from r2)
          subst s2
          refine ⟨wanted_none rfl, fun K hK => ?_⟩
          have hB := hide left.base
          clear left
          go_simp
          exact hK _ _ rfl hB.out (one_refl (fun _ => trivial) _ _)
        refine And.intro ?_ ?_
        · refine lstep_run fun fr wf left => ?_
          obtain ⟨x3, e3, r3⟩ := left.slot 35 rfl 3 22 _ rfl rfl (by decide) rfl
          have s3 := Eq.symm (show x3 = .pointer (some ⟨b, off + i, none⟩) from r3)
          subst s3
          refine ⟨wanted_none rfl, fun K hK => ?_⟩
          have hB := hide left.base
          have hc := HCLL.out _ hB.out
          clear left
          go_simp
          exact hK _ _ rfl hB.out (one_refl (fun _ => trivial) _ _)
        refine And.intro ?_ ?_
        · refine lstep_run fun fr wf left => ?_
          have o10 := (left.old 10 (by kernel_rfl)).trans rfl
          refine ⟨wanted_none rfl, fun K hK => ?_⟩
          have hB := hide left.base
          clear left
          go_simp
          exact hK _ _ rfl hB.out (one_refl (fun _ => trivial) _ _)
        refine And.intro ?_ ?_
        · refine lstep_run fun fr wf left => ?_
          obtain ⟨x5, e5, r5⟩ := left.slot 35 rfl 5 24 _ rfl rfl (by decide) rfl
          have s5 := Eq.symm (show x5 = .int .i64 (i : Int) from r5)
          subst s5
          refine ⟨wanted_none rfl, fun K hK => ?_⟩
          have hB := hide left.base
          clear left
          go_simp
          exact hK _ _ (congrArg (Value.int .u64) (by first | rfl | (rw [IntKind.wrap_u64]; omega))) hB.out (one_refl (fun _ => trivial) _ _)
        refine And.intro ?_ ?_
        · refine lstep_run fun fr wf left => ?_
          have o1 := (left.old 1 (by kernel_rfl)).trans rfl
          refine ⟨wanted_none rfl, fun K hK => ?_⟩
          have hB := hide left.base
          clear left
          go_simp
          exact hK _ _ rfl hB.out (one_refl (fun _ => trivial) _ _)
        refine And.intro ?_ ?_
        · refine lstep_run fun fr wf left => ?_
          obtain ⟨x6, e6, r6⟩ := left.slot 35 rfl 6 25 _ rfl rfl (by decide) rfl
          have s6 := Eq.symm (show x6 = .int .u64 (i : Int) from r6)
          subst s6
          obtain ⟨x7, e7, r7⟩ := left.slot 35 rfl 7 26 _ rfl rfl (by decide) rfl
          have s7 := Eq.symm (show x7 = .int .i64 (k : Int) from r7)
          subst s7
          refine ⟨wanted_none rfl, fun K hK => ?_⟩
          have hB := hide left.base
          clear left
          go_simp
          refine (digests_any i k _ (by omega) hk).mono ?_
          rintro e w' ⟨dv, rfl, hrow, hb⟩
          exact hK _ _ (slv_of_owns hrow) (hB.out.then (Moved.of_below hb)) (one_else (by decide) hb)
        refine And.intro ?_ ?_
        · refine lstep_run fun fr wf left => ?_
          obtain ⟨x0, e0, r0⟩ := left.slot 35 rfl 0 19 _ rfl rfl (by decide) rfl
          have s0 := Eq.symm (show x0 = .pointer (some ⟨g', 0, none⟩) from r0)
          subst s0
          obtain ⟨x4, e4, r4⟩ := left.slot 35 rfl 4 23 _ rfl rfl (by decide) rfl
          have s4 := Eq.symm (show x4 = .string x from r4)
          subst s4
          obtain ⟨x8, e8, r8⟩ := left.slot 35 rfl 8 27 _ rfl rfl (by decide) rfl
          replace r8 : SlV wf x8 ((Fl.digs i k).map Value.string) := r8
          refine ⟨wanted_none rfl, fun K hK => ?_⟩
          have hB := hide left.base; have hP := hide (one_pre_at left.pre rfl)
          clear left
          go_simp
          refine (storeAdd_val (⟨g', ev⟩ : Fl.Blk) D' s1 s2 d' d2 r x _ (Fl.digs i k) _ hP.out.1 hP.out.2 HST1.out.away (by omega) r8 HDL.out.1 HDL.out.2 HDA.out.1 HDA.out.2.1 HDA.out.2.2 HAD.out).mono ?_
          rintro e w' ⟨rfl, ht⟩
          have hat := ht.at (B := wr.heap.size) hB.out.size
          exact hK _ _ ⟨rfl, hat.1⟩ (hB.out.then hat.2) (one_at rfl)
        refine And.intro ?_ ?_
        · refine lstep_run fun fr wf left => ?_
          obtain ⟨x9, e9, r9⟩ := left.slot 35 rfl 9 28 _ rfl rfl (by decide) rfl
          obtain ⟨s9, q9⟩ := (show x9 = .int .i64 r ∧ (fun u => AddedAt wr.heap.size (⟨g', ev⟩ : Fl.Blk) D' s2 d2 u) wf from r9)
          subst s9
          refine ⟨wanted_none rfl, fun K hK => ?_⟩
          have hB := hide left.base
          clear left
          go_simp
          exact hK _ _ rfl hB.out (one_refl (fun _ => trivial) _ _)
        exact trivial
      · intro fr wf hB hs hd hall hkeep
        have hw : fr.tmps.getD 28 undef = .int .i64 r ∧ AddedAt wr.heap.size (⟨g', ev⟩ : Fl.Blk) D' s2 d2 wf := hall 9 _ rfl (by simp)
        have hz : fr.tmps.getD 11 undef = .int .i64 r := hall 10 _ rfl (by simp)
        have hfr := act_ext (frame_setL hs hkeep [19, 20, 21, 22, 23, 24, 25, 26, 27, 28, 11] (by kernel_rfl)) hd
        clear hall hkeep hs hd
        dsimp only [List.foldl, List.set_cons_zero, List.set_cons_succ] at hfr
        generalize fr.tmps.getD 19 undef = q19 at hfr
        generalize fr.tmps.getD 20 undef = q20 at hfr
        generalize fr.tmps.getD 21 undef = q21 at hfr
        generalize fr.tmps.getD 22 undef = q22 at hfr
        generalize fr.tmps.getD 23 undef = q23 at hfr
        generalize fr.tmps.getD 24 undef = q24 at hfr
        generalize fr.tmps.getD 25 undef = q25 at hfr
        generalize fr.tmps.getD 26 undef = q26 at hfr
        generalize fr.tmps.getD 27 undef = q27 at hfr
        generalize fr.tmps.getD 28 undef = q28 at hfr hw
        generalize fr.tmps.getD 11 undef = q11 at hfr hz
        subst hfr
        have hq := hw.1
        subst hq
        subst hz
        obtain ⟨T2, D2, hT2, hS2⟩ := HST1.out.add (hw.2.added hB)
        have HN2 := hide (And.intro hT2 hS2)
        clear hw hB hT2 hS2
        by_cases hr0 : r = 0
        · subst hr0
          have HG := hide (HADS.out.1.good rfl)
          have HGO := hide (HADS.out.2.1 rfl)
          go_wp2_with fail
          go_roundg (n - (i + 1))
          case measure => omega
          case rel =>
            have e2 : s2 = Fl.stOf k (Fl.its k 0 (l.take (i + 1))) := by rw [HG.out.1, Fl.take_snoc (by have := HN.out; omega)]
            refine ⟨i + 1, T2, D2, d2, rfl, by omega, by go_num, HN2.out.1, by rw [← e2]; exact HN2.out.2, ⟨HG.out.2.2.2.2.2.2.1, HG.out.2.2.1.trans HRU.out.up, by rw [Fl.take_snoc (by have := HN.out; omega)]; exact HG.out.2.1, HG.out.2.2.2.1.trans HRU.out.room, ?_, ?_⟩, by rw [← e2]; exact HGO.out.symm.trans HME.out⟩
            · have h1 := HG.out.2.2.2.2.2.1; have h2 := HRU.out.acts; exact Nat.le_trans h1 (by omega)
            · rw [show d2.keep = d'.keep from HG.out.2.2.2.2.1]; exact HRU.out.keep
        · have HE := hide (HADS.out.2.2 hr0)
          have HEQ := hide (show R = (i, r, s2, d2) from HME.out.symm.trans HE.out)
          have hrb : (r == 0) = false := by rw [beq_eq_false_iff_ne]; exact hr0
          go_wp2_with fail
          go_ret2
          refine ⟨by rw [HEQ.out]; rfl, T2, D2, ?_⟩
          rw [HEQ.out]
          exact HN2.out
    · have hlt2 : decide (i < n) = false := decide_eq_false hlt
      have hie : i = n := by omega
      have HF := hide (show R = (n, 0, Fl.stOf k (Fl.its k 0 (l.take i)), d') from by
        have h := HL.out.2.2.2
        rw [show l.length - i = 0 by have := HN.out; omega] at h
        rw [← h, ← hie]; rfl)
      go_wp2_with fail
      go_ret2
      refine ⟨by rw [HF.out]; rfl, T', D', ?_⟩
      rw [HF.out]
      exact ⟨HL.out.1, HL.out.2.1⟩
end Go.Proofs.YtbfbajfdlkgloaaGreatDoor
