/-
  The six acts of Add: the function values, each over what it holds.
-/
import Derived.Test.YtbfbajfdlkgloaaGreatDoorG24
import Derived.Deep.CutRange

namespace Go.Proofs.YtbfbajfdlkgloaaGreatDoor
open Go Go.RowKit Go.Maps
/-- The store's blocks are none of the disk's. -/
structure Fl.Away (T : Fl.Blk) (D : Dk.Blk) : Prop where
  g : T.g ≠ D.g ∧ T.g ≠ D.mb
  ev : ∀ b, T.ev.ownBlock = some b → b ≠ D.g ∧ b ≠ D.mb
  keep : ∀ b, Dk.slBlk D.kv = some b → b ≠ T.g ∧ T.ev.ownBlock ≠ some b
theorem Fl.Away.away {T : Fl.Blk} {D : Dk.Blk} (h : Fl.Away T D) : ¬ Dk.own D T.g := fun k => k.elim h.g.1 h.g.2
theorem Fl.Away.evs {T : Fl.Blk} {D : Dk.Blk} (h : Fl.Away T D) : ∀ b, T.ev.ownBlock = some b → ¬ Dk.own D b := fun b hb k => k.elim (h.ev b hb).1 (h.ev b hb).2
set_option maxRecDepth 100000 in
theorem add3_val (T : Fl.Blk) (D : Dk.Blk) (s : Fl.St) (d d' : Dk.St) (r : Int) (bs : Nat) (w : World) (h : StoreAt w T D.g s) (hd : DiskAt w D d) (hbs : w.heap[bs]? = some (.cells #[.pointer (some ⟨T.g, 0, none⟩)] 28 (0, 0))) (hap : Fl.Away T D) (hbn : bs ≠ D.g ∧ bs ≠ D.mb) (hacts : d.acts < 4611686018427387904) (hmany : d.files.length < 1099511627776) (hkl : d.keep.length ≤ 140737488351232) (hr : Dk.syncA d Fl.nItems = (r, d')) :
    Calls Tryz.prog 67 (#[] ++ #[.pointer (some ⟨bs, 0, none⟩)]) w fun e w' => e = .returned (.int .i64 r) ∧ Turns D d w w' d' := by
  show Calls Tryz.prog 67 #[.pointer (some ⟨bs, 0, none⟩)] w _
  have c0 : w.cell? ⟨bs, 0, none⟩ = some (.pointer (some ⟨T.g, 0, none⟩)) := (cell_blk hbs 0).trans rfl
  have c1 := h.c0
  have HD := hide hd
  have HR := hide hr
  clear h hd hr hbs hap
  go_enter Tryz.func67, Tryz.ntmps67
  go_wp2_with fail
  refine (syncA_val D d d' Fl.nItems r _ HD.out (by decide) hacts hmany hkl HR.out).mono ?_
  rintro e w' ⟨rfl, ht⟩
  have HT := hide ht
  clear ht
  go_wp2_with fail
  go_ret
  exact ⟨rfl, HT.out⟩
set_option maxRecDepth 100000 in
theorem add4_val (T : Fl.Blk) (D : Dk.Blk) (s : Fl.St) (d d' : Dk.St) (r : Int) (bs : Nat) (w : World) (h : StoreAt w T D.g s) (hd : DiskAt w D d) (hbs : w.heap[bs]? = some (.cells #[.pointer (some ⟨T.g, 0, none⟩)] 28 (0, 0))) (hap : Fl.Away T D) (hbn : bs ≠ D.g ∧ bs ≠ D.mb) (hacts : d.acts < 4611686018427387904) (hmany : d.files.length < 1099511627776) (hkl : d.keep.length ≤ 140737488351232) (hr : Dk.syncA d Fl.nNodes = (r, d')) :
    Calls Tryz.prog 69 (#[] ++ #[.pointer (some ⟨bs, 0, none⟩)]) w fun e w' => e = .returned (.int .i64 r) ∧ Turns D d w w' d' := by
  show Calls Tryz.prog 69 #[.pointer (some ⟨bs, 0, none⟩)] w _
  have c0 : w.cell? ⟨bs, 0, none⟩ = some (.pointer (some ⟨T.g, 0, none⟩)) := (cell_blk hbs 0).trans rfl
  have c1 := h.c0
  have HD := hide hd
  have HR := hide hr
  clear h hd hr hbs hap
  go_enter Tryz.func69, Tryz.ntmps69
  go_wp2_with fail
  refine (syncA_val D d d' Fl.nNodes r _ HD.out (by decide) hacts hmany hkl HR.out).mono ?_
  rintro e w' ⟨rfl, ht⟩
  have HT := hide ht
  clear ht
  go_wp2_with fail
  go_ret
  exact ⟨rfl, HT.out⟩
set_option maxRecDepth 100000 in
theorem add6_val (T : Fl.Blk) (D : Dk.Blk) (s : Fl.St) (d d' : Dk.St) (r : Int) (bs : Nat) (w : World) (h : StoreAt w T D.g s) (hd : DiskAt w D d) (hbs : w.heap[bs]? = some (.cells #[.pointer (some ⟨T.g, 0, none⟩)] 28 (0, 0))) (hap : Fl.Away T D) (hbn : bs ≠ D.g ∧ bs ≠ D.mb) (hacts : d.acts < 4611686018427387904) (hmany : d.files.length < 1099511627776) (hkl : d.keep.length ≤ 140737488351232) (hr : Dk.syncA d Fl.nMarks = (r, d')) :
    Calls Tryz.prog 71 (#[] ++ #[.pointer (some ⟨bs, 0, none⟩)]) w fun e w' => e = .returned (.int .i64 r) ∧ Turns D d w w' d' := by
  show Calls Tryz.prog 71 #[.pointer (some ⟨bs, 0, none⟩)] w _
  have c0 : w.cell? ⟨bs, 0, none⟩ = some (.pointer (some ⟨T.g, 0, none⟩)) := (cell_blk hbs 0).trans rfl
  have c1 := h.c0
  have HD := hide hd
  have HR := hide hr
  clear h hd hr hbs hap
  go_enter Tryz.func71, Tryz.ntmps71
  go_wp2_with fail
  refine (syncA_val D d d' Fl.nMarks r _ HD.out (by decide) hacts hmany hkl HR.out).mono ?_
  rintro e w' ⟨rfl, ht⟩
  have HT := hide ht
  clear ht
  go_wp2_with fail
  go_ret
  exact ⟨rfl, HT.out⟩
def fad1L (T : Fl.Blk) (D : Dk.Blk) (d d' : Dk.St) (w : World) (P : ByteArray) (r : Int) (bs bp fin : Nat) : List Sp :=
  [.is (.pointer (some ⟨T.g, 0, none⟩)), .is (.pointer (some ⟨T.g, 0, none⟩)), .is (.pointer (some ⟨T.g, 0, none⟩)), .is (.pointer (some ⟨D.g, 0, none⟩)), .is (.pointer (some ⟨T.g, 0, none⟩)), .is (.int .i64 (fin : Int)), .is (.string P), .both (.int .i64 r) (fun u => TurnAt D d w.heap.size u d') (fun _ _ h hb => h.past hb), .is (.int .i64 r)]
def fad1U : List (List Nat) := [[], [0], [1], [2], [], [4], [], [3, 5, 6], [7]]
set_option maxHeartbeats 1600000 in
set_option maxRecDepth 100000 in
theorem add1_val (T : Fl.Blk) (D : Dk.Blk) (s : Fl.St) (d d' : Dk.St) (r : Int) (bs bp : Nat) (P : ByteArray) (fin : Nat) (w : World) (h : StoreAt w T D.g s) (hd : DiskAt w D d) (hbs : w.heap[bs]? = some (.cells #[.pointer (some ⟨T.g, 0, none⟩)] 28 (0, 0))) (hbp : w.heap[bp]? = some (.cells #[.string P] 9 (0, 0))) (hpn : bp ≠ D.g ∧ bp ≠ D.mb) (hP : P.size ≤ 140737488351232) (hf : fin = s.fin) (hap : Fl.Away T D) (hbn : bs ≠ D.g ∧ bs ≠ D.mb) (hacts : d.acts < 4611686018427387904) (hmany : d.files.length < 1099511627776) (hkl : d.keep.length ≤ 140737488351232) (hr : Dk.writeA d Fl.nItems (fin : Nat) P = (r, d')) :
    Calls Tryz.prog 64 (#[] ++ #[.pointer (some ⟨bs, 0, none⟩), .pointer (some ⟨bp, 0, none⟩)]) w fun e w' => e = .returned (.int .i64 r) ∧ Turns D d w w' d' := by
  show Calls Tryz.prog 64 #[.pointer (some ⟨bs, 0, none⟩), .pointer (some ⟨bp, 0, none⟩)] w _
  have HC := hide (show ∀ u, Moved (Dk.own D) w u → u.cell? ⟨bs, 0, none⟩ = some (.pointer (some ⟨T.g, 0, none⟩)) ∧ StoreAt u T D.g s ∧ u.cell? ⟨T.g, 0, none⟩ = some (.pointer (some ⟨D.g, 0, none⟩)) ∧ u.cell? ⟨bp, 0, none⟩ = some (.string P) from by
    intro u hm
    have hs := h.stay hm hap.away hap.evs
    have hb : ∀ (b : Nat) (o : Obj), b ≠ D.g ∧ b ≠ D.mb → w.heap[b]? = some o → u.heap[b]? = some o := fun b o hn ho => (hm.block b (heap_lt ho) (fun k => k.elim hn.1 hn.2)).trans ho
    exact ⟨(cell_blk (hb bs _ hbn hbs) 0).trans rfl, hs, hs.c0, (cell_blk (hb bp _ hpn hbp) 0).trans rfl⟩)
  have hfin := h.ok.fin
  rw [← hf] at hfin
  have hoff : (Lit.int .i64 ((fin : Nat) : Int)).wf = true := Rec.wf_i64 (by omega) (by omega)
  have HF := hide hf
  clear hf
  have HD := hide hd
  have HW := hide hr
  have hPsz := hide hP
  clear h hd hr hbs hap hbp
  go_enter Tryz.func64, Tryz.ntmps64
  go_upto_region 1 with (fail)
  
  refine wp_region_local (by kernel_rfl) (by kernel_rfl) (useList fad1U) [7, 8] (by kernel_rfl) (spR (fad1L T D d d' w P r bs bp fin)) (onePre 7 (fun u => DiskAt u D d)) (Moved (Dk.own D) w) (oneE 7 (fun _ _ => True)) (one_stays (by simp [fad1L]) (by kernel_rfl)) (one_pre (fun _ _ h hb => h.past hb)) (one_refl (fun _ => trivial)) (dsts_lt (N := 11) (by kernel_rfl)) ((Moved.refl _ _).drew) (fun _ _ => one_start (HD.out.past ((Below.refl _ _).drew))) (all_ops ?_) ?_
  · refine And.intro ?_ ?_
    · refine lstep_run fun fr wf left => ?_
      have o0 := (left.old 0 (by kernel_rfl)).trans rfl
      refine ⟨wanted_none rfl, fun K hK => ?_⟩
      have hB := hide left.base
      have hc := (HC.out _ hB.out).1
      clear left
      go_simp
      exact hK _ _ rfl hB.out (one_refl (fun _ => trivial) _ _)
    refine And.intro ?_ ?_
    · refine lstep_run fun fr wf left => ?_
      obtain ⟨x0, e0, r0⟩ := left.slot 11 rfl 0 3 _ rfl rfl (by decide) rfl
      have s0 := Eq.symm (show x0 = .pointer (some ⟨T.g, 0, none⟩) from r0)
      subst s0
      refine ⟨wanted_none rfl, fun K hK => ?_⟩
      have hB := hide left.base
      clear left
      go_simp
      exact hK _ _ rfl hB.out (one_refl (fun _ => trivial) _ _)
    refine And.intro ?_ ?_
    · refine lstep_run fun fr wf left => ?_
      obtain ⟨x1, e1, r1⟩ := left.slot 11 rfl 1 4 _ rfl rfl (by decide) rfl
      have s1 := Eq.symm (show x1 = .pointer (some ⟨T.g, 0, none⟩) from r1)
      subst s1
      refine ⟨wanted_none rfl, fun K hK => ?_⟩
      have hB := hide left.base
      clear left
      go_simp
      exact hK _ _ rfl hB.out (one_refl (fun _ => trivial) _ _)
    refine And.intro ?_ ?_
    · refine lstep_run fun fr wf left => ?_
      obtain ⟨x2, e2, r2⟩ := left.slot 11 rfl 2 5 _ rfl rfl (by decide) rfl
      have s2 := Eq.symm (show x2 = .pointer (some ⟨T.g, 0, none⟩) from r2)
      subst s2
      refine ⟨wanted_none rfl, fun K hK => ?_⟩
      have hB := hide left.base
      have hc := (HC.out _ hB.out).2.2.1
      clear left
      go_simp
      exact hK _ _ rfl hB.out (one_refl (fun _ => trivial) _ _)
    refine And.intro ?_ ?_
    · refine lstep_run fun fr wf left => ?_
      have o0 := (left.old 0 (by kernel_rfl)).trans rfl
      refine ⟨wanted_none rfl, fun K hK => ?_⟩
      have hB := hide left.base
      have hc := (HC.out _ hB.out).1
      clear left
      go_simp
      exact hK _ _ rfl hB.out (one_refl (fun _ => trivial) _ _)
    refine And.intro ?_ ?_
    · refine lstep_run fun fr wf left => ?_
      obtain ⟨x4, e4, r4⟩ := left.slot 11 rfl 4 7 _ rfl rfl (by decide) rfl
      have s4 := Eq.symm (show x4 = .pointer (some ⟨T.g, 0, none⟩) from r4)
      subst s4
      refine ⟨wanted_none rfl, fun K hK => ?_⟩
      have hB := hide left.base
      clear left
      go_simp
      refine (storeEnd_val T D.g s fin _ (HC.out _ hB.out).2.1 HF.out).mono ?_
      rintro e w' ⟨rfl, rfl⟩
      exact hK _ _ rfl hB.out (one_refl (fun _ => trivial) _ _)
    refine And.intro ?_ ?_
    · refine lstep_run fun fr wf left => ?_
      have o1 := (left.old 1 (by kernel_rfl)).trans rfl
      refine ⟨wanted_none rfl, fun K hK => ?_⟩
      have hB := hide left.base
      have hc := (HC.out _ hB.out).2.2.2
      clear left
      go_simp
      exact hK _ _ rfl hB.out (one_refl (fun _ => trivial) _ _)
    refine And.intro ?_ ?_
    · refine lstep_run fun fr wf left => ?_
      obtain ⟨x3, e3, r3⟩ := left.slot 11 rfl 3 6 _ rfl rfl (by decide) rfl
      have s3 := Eq.symm (show x3 = .pointer (some ⟨D.g, 0, none⟩) from r3)
      subst s3
      obtain ⟨x5, e5, r5⟩ := left.slot 11 rfl 5 8 _ rfl rfl (by decide) rfl
      have s5 := Eq.symm (show x5 = .int .i64 (fin : Int) from r5)
      subst s5
      obtain ⟨x6, e6, r6⟩ := left.slot 11 rfl 6 9 _ rfl rfl (by decide) rfl
      have s6 := Eq.symm (show x6 = .string P from r6)
      subst s6
      refine ⟨wanted_none rfl, fun K hK => ?_⟩
      have hB := hide left.base; have hP := hide (one_pre_at left.pre rfl)
      clear left
      go_simp
      refine (writeA_val D d d' Fl.nItems ((fin : Int)) P r _ hP.out (by decide) hPsz.out hoff hacts hmany hkl HW.out).mono ?_
      rintro e w' ⟨rfl, ht⟩
      exact hK _ _ ⟨rfl, ht.at hB.out.size⟩ (hB.out.then ht.moved) (one_at rfl)
    refine And.intro ?_ ?_
    · refine lstep_run fun fr wf left => ?_
      obtain ⟨x7, e7, r7⟩ := left.slot 11 rfl 7 10 _ rfl rfl (by decide) rfl
      obtain ⟨s7, q7⟩ := (show x7 = .int .i64 r ∧ (fun u => TurnAt D d w.heap.size u d') wf from r7)
      subst s7
      refine ⟨wanted_none rfl, fun K hK => ?_⟩
      have hB := hide left.base
      clear left
      go_simp
      exact hK _ _ rfl hB.out (one_refl (fun _ => trivial) _ _)
    exact trivial
  · intro fr wf hB hs hd hall hkeep
    have hw : fr.tmps.getD 10 undef = .int .i64 r ∧ TurnAt D d w.heap.size wf d' := hall 7 _ rfl (by simp)
    have hr : fr.tmps.getD 2 undef = .int .i64 r := hall 8 _ rfl (by simp)
    have hfr := act_ext (frame_setL hs hkeep [3, 4, 5, 6, 7, 8, 9, 10, 2] (by kernel_rfl)) hd
    clear hall hkeep hs hd
    dsimp only [List.foldl, List.set_cons_zero, List.set_cons_succ] at hfr
    generalize fr.tmps.getD 3 undef = q3 at hfr
    generalize fr.tmps.getD 4 undef = q4 at hfr
    generalize fr.tmps.getD 5 undef = q5 at hfr
    generalize fr.tmps.getD 6 undef = q6 at hfr
    generalize fr.tmps.getD 7 undef = q7 at hfr
    generalize fr.tmps.getD 8 undef = q8 at hfr
    generalize fr.tmps.getD 9 undef = q9 at hfr
    generalize fr.tmps.getD 10 undef = q10 at hfr hw
    generalize fr.tmps.getD 2 undef = q2 at hfr hr
    subst hfr
    have H5 := hide (And.intro hw.2 hB)
    clear hw hB
    subst hr
    go_wp2_with fail
    go_ret
    exact ⟨rfl, H5.out.1.turns H5.out.2⟩
def fad5L (T : Fl.Blk) (D : Dk.Blk) (d d' : Dk.St) (w : World) (P : ByteArray) (r : Int) (bs bn bm n : Nat) : List Sp :=
  [.is (.pointer (some ⟨T.g, 0, none⟩)), .is (.pointer (some ⟨T.g, 0, none⟩)), .is (.pointer (some ⟨T.g, 0, none⟩)), .is (.pointer (some ⟨D.g, 0, none⟩)), .is (.int .i64 (n : Int)), .is (.int .i64 ((64 * n : Nat) : Int)), .is (.string P), .both (.int .i64 r) (fun u => TurnAt D d w.heap.size u d') (fun _ _ h hb => h.past hb), .is (.int .i64 r)]
def fad5U : List (List Nat) := [[], [0], [1], [2], [], [4], [], [3, 5, 6], [7]]
set_option maxHeartbeats 1600000 in
set_option maxRecDepth 100000 in
theorem add5_val (T : Fl.Blk) (D : Dk.Blk) (s : Fl.St) (d d' : Dk.St) (r : Int) (bs bn bm : Nat) (P : ByteArray) (n : Nat) (w : World) (h : StoreAt w T D.g s) (hd : DiskAt w D d) (hbs : w.heap[bs]? = some (.cells #[.pointer (some ⟨T.g, 0, none⟩)] 28 (0, 0))) (hbn2 : w.heap[bn]? = some (.cells #[.int .i64 (n : Int)] 3 (0, 0))) (hbm : w.heap[bm]? = some (.cells #[.string P] 9 (0, 0))) (hpn : (bn ≠ D.g ∧ bn ≠ D.mb) ∧ bm ≠ D.g ∧ bm ≠ D.mb) (hP : P.size ≤ 140737488351232) (hn : n ≤ 65536) (hap : Fl.Away T D) (hbn : bs ≠ D.g ∧ bs ≠ D.mb) (hacts : d.acts < 4611686018427387904) (hmany : d.files.length < 1099511627776) (hkl : d.keep.length ≤ 140737488351232) (hr : Dk.writeA d Fl.nMarks (64 * n : Nat) P = (r, d')) :
    Calls Tryz.prog 70 (#[] ++ #[.pointer (some ⟨bs, 0, none⟩), .pointer (some ⟨bn, 0, none⟩), .pointer (some ⟨bm, 0, none⟩)]) w fun e w' => e = .returned (.int .i64 r) ∧ Turns D d w w' d' := by
  show Calls Tryz.prog 70 #[.pointer (some ⟨bs, 0, none⟩), .pointer (some ⟨bn, 0, none⟩), .pointer (some ⟨bm, 0, none⟩)] w _
  have HC := hide (show ∀ u, Moved (Dk.own D) w u → u.cell? ⟨bs, 0, none⟩ = some (.pointer (some ⟨T.g, 0, none⟩)) ∧ StoreAt u T D.g s ∧ u.cell? ⟨T.g, 0, none⟩ = some (.pointer (some ⟨D.g, 0, none⟩)) ∧ u.cell? ⟨bn, 0, none⟩ = some (.int .i64 (n : Int)) ∧ u.cell? ⟨bm, 0, none⟩ = some (.string P) from by
    intro u hm
    have hs := h.stay hm hap.away hap.evs
    have hb : ∀ (b : Nat) (o : Obj), b ≠ D.g ∧ b ≠ D.mb → w.heap[b]? = some o → u.heap[b]? = some o := fun b o hn ho => (hm.block b (heap_lt ho) (fun k => k.elim hn.1 hn.2)).trans ho
    exact ⟨(cell_blk (hb bs _ hbn hbs) 0).trans rfl, hs, hs.c0, (cell_blk (hb bn _ hpn.1 hbn2) 0).trans rfl, (cell_blk (hb bm _ hpn.2 hbm) 0).trans rfl⟩)
  have hoff : (Lit.int .i64 ((64 * n : Nat) : Int)).wf = true := Rec.wf_i64 (by omega) (by omega)
  have HD := hide hd
  have HW := hide hr
  have hPsz := hide hP
  clear h hd hr hbs hap hbn2 hbm
  go_enter Tryz.func70, Tryz.ntmps70
  go_upto_region 1 with (fail)
  
  refine wp_region_local (by kernel_rfl) (by kernel_rfl) (useList fad5U) [7, 8] (by kernel_rfl) (spR (fad5L T D d d' w P r bs bn bm n)) (onePre 7 (fun u => DiskAt u D d)) (Moved (Dk.own D) w) (oneE 7 (fun _ _ => True)) (one_stays (by simp [fad5L]) (by kernel_rfl)) (one_pre (fun _ _ h hb => h.past hb)) (one_refl (fun _ => trivial)) (dsts_lt (N := 12) (by kernel_rfl)) ((Moved.refl _ _).drew) (fun _ _ => one_start (HD.out.past ((Below.refl _ _).drew))) (all_ops ?_) ?_
  · refine And.intro ?_ ?_
    · refine lstep_run fun fr wf left => ?_
      have o0 := (left.old 0 (by kernel_rfl)).trans rfl
      refine ⟨wanted_none rfl, fun K hK => ?_⟩
      have hB := hide left.base
      have hc := (HC.out _ hB.out).1
      clear left
      go_simp
      exact hK _ _ rfl hB.out (one_refl (fun _ => trivial) _ _)
    refine And.intro ?_ ?_
    · refine lstep_run fun fr wf left => ?_
      obtain ⟨x0, e0, r0⟩ := left.slot 12 rfl 0 4 _ rfl rfl (by decide) rfl
      have s0 := Eq.symm (show x0 = .pointer (some ⟨T.g, 0, none⟩) from r0)
      subst s0
      refine ⟨wanted_none rfl, fun K hK => ?_⟩
      have hB := hide left.base
      clear left
      go_simp
      exact hK _ _ rfl hB.out (one_refl (fun _ => trivial) _ _)
    refine And.intro ?_ ?_
    · refine lstep_run fun fr wf left => ?_
      obtain ⟨x1, e1, r1⟩ := left.slot 12 rfl 1 5 _ rfl rfl (by decide) rfl
      have s1 := Eq.symm (show x1 = .pointer (some ⟨T.g, 0, none⟩) from r1)
      subst s1
      refine ⟨wanted_none rfl, fun K hK => ?_⟩
      have hB := hide left.base
      clear left
      go_simp
      exact hK _ _ rfl hB.out (one_refl (fun _ => trivial) _ _)
    refine And.intro ?_ ?_
    · refine lstep_run fun fr wf left => ?_
      obtain ⟨x2, e2, r2⟩ := left.slot 12 rfl 2 6 _ rfl rfl (by decide) rfl
      have s2 := Eq.symm (show x2 = .pointer (some ⟨T.g, 0, none⟩) from r2)
      subst s2
      refine ⟨wanted_none rfl, fun K hK => ?_⟩
      have hB := hide left.base
      have hc := (HC.out _ hB.out).2.2.1
      clear left
      go_simp
      exact hK _ _ rfl hB.out (one_refl (fun _ => trivial) _ _)
    refine And.intro ?_ ?_
    · refine lstep_run fun fr wf left => ?_
      have o1 := (left.old 1 (by kernel_rfl)).trans rfl
      refine ⟨wanted_none rfl, fun K hK => ?_⟩
      have hB := hide left.base
      have hc := (HC.out _ hB.out).2.2.2.1
      clear left
      go_simp
      exact hK _ _ rfl hB.out (one_refl (fun _ => trivial) _ _)
    refine And.intro ?_ ?_
    · refine lstep_run fun fr wf left => ?_
      obtain ⟨x4, e4, r4⟩ := left.slot 12 rfl 4 8 _ rfl rfl (by decide) rfl
      have s4 := Eq.symm (show x4 = .int .i64 (n : Int) from r4)
      subst s4
      refine ⟨wanted_none rfl, fun K hK => ?_⟩
      have hB := hide left.base
      clear left
      go_simp
      exact hK _ _ (congrArg (Value.int .i64) ((IntWalk.i64_in _ (by omega)).trans (by omega))) hB.out (one_refl (fun _ => trivial) _ _)
    refine And.intro ?_ ?_
    · refine lstep_run fun fr wf left => ?_
      have o2 := (left.old 2 (by kernel_rfl)).trans rfl
      refine ⟨wanted_none rfl, fun K hK => ?_⟩
      have hB := hide left.base
      have hc := (HC.out _ hB.out).2.2.2.2
      clear left
      go_simp
      exact hK _ _ rfl hB.out (one_refl (fun _ => trivial) _ _)
    refine And.intro ?_ ?_
    · refine lstep_run fun fr wf left => ?_
      obtain ⟨x3, e3, r3⟩ := left.slot 12 rfl 3 7 _ rfl rfl (by decide) rfl
      have s3 := Eq.symm (show x3 = .pointer (some ⟨D.g, 0, none⟩) from r3)
      subst s3
      obtain ⟨x5, e5, r5⟩ := left.slot 12 rfl 5 9 _ rfl rfl (by decide) rfl
      have s5 := Eq.symm (show x5 = .int .i64 ((64 * n : Nat) : Int) from r5)
      subst s5
      obtain ⟨x6, e6, r6⟩ := left.slot 12 rfl 6 10 _ rfl rfl (by decide) rfl
      have s6 := Eq.symm (show x6 = .string P from r6)
      subst s6
      refine ⟨wanted_none rfl, fun K hK => ?_⟩
      have hB := hide left.base; have hP := hide (one_pre_at left.pre rfl)
      clear left
      go_simp
      refine (writeA_val D d d' Fl.nMarks (((64 * n : Nat) : Int)) P r _ hP.out (by decide) hPsz.out hoff hacts hmany hkl HW.out).mono ?_
      rintro e w' ⟨rfl, ht⟩
      exact hK _ _ ⟨rfl, ht.at hB.out.size⟩ (hB.out.then ht.moved) (one_at rfl)
    refine And.intro ?_ ?_
    · refine lstep_run fun fr wf left => ?_
      obtain ⟨x7, e7, r7⟩ := left.slot 12 rfl 7 11 _ rfl rfl (by decide) rfl
      obtain ⟨s7, q7⟩ := (show x7 = .int .i64 r ∧ (fun u => TurnAt D d w.heap.size u d') wf from r7)
      subst s7
      refine ⟨wanted_none rfl, fun K hK => ?_⟩
      have hB := hide left.base
      clear left
      go_simp
      exact hK _ _ rfl hB.out (one_refl (fun _ => trivial) _ _)
    exact trivial
  · intro fr wf hB hs hd hall hkeep
    have hw : fr.tmps.getD 11 undef = .int .i64 r ∧ TurnAt D d w.heap.size wf d' := hall 7 _ rfl (by simp)
    have hr : fr.tmps.getD 3 undef = .int .i64 r := hall 8 _ rfl (by simp)
    have hfr := act_ext (frame_setL hs hkeep [4, 5, 6, 7, 8, 9, 10, 11, 3] (by kernel_rfl)) hd
    clear hall hkeep hs hd
    dsimp only [List.foldl, List.set_cons_zero, List.set_cons_succ] at hfr
    generalize fr.tmps.getD 4 undef = q4 at hfr
    generalize fr.tmps.getD 5 undef = q5 at hfr
    generalize fr.tmps.getD 6 undef = q6 at hfr
    generalize fr.tmps.getD 7 undef = q7 at hfr
    generalize fr.tmps.getD 8 undef = q8 at hfr
    generalize fr.tmps.getD 9 undef = q9 at hfr
    generalize fr.tmps.getD 10 undef = q10 at hfr
    generalize fr.tmps.getD 11 undef = q11 at hfr hw
    generalize fr.tmps.getD 3 undef = q3 at hfr hr
    subst hfr
    have H5 := hide (And.intro hw.2 hB)
    clear hw hB
    subst hr
    go_wp2_with fail
    go_ret
    exact ⟨rfl, H5.out.1.turns H5.out.2⟩
def fad2L (T : Fl.Blk) (D : Dk.Blk) (d d' : Dk.St) (w : World) (P : ByteArray) (r : Int) (ra : Option Addr) (bs bf br n rl rc : Nat) : List Sp :=
  [.is (.pointer (some ⟨T.g, 0, none⟩)), .is (.pointer (some ⟨T.g, 0, none⟩)), .is (.pointer (some ⟨T.g, 0, none⟩)), .is (.pointer (some ⟨D.g, 0, none⟩)), .is (.int .i64 (n : Int)), .is (.int .i64 ((40 * n : Nat) : Int)), .is (.slice ra rl rc), .is (.string P), .both (.int .i64 r) (fun u => TurnAt D d w.heap.size u d') (fun _ _ h hb => h.past hb), .is (.int .i64 r)]
def fad2U : List (List Nat) := [[], [0], [1], [2], [], [4], [], [6], [3, 5, 7], [8]]
set_option maxHeartbeats 1600000 in
set_option maxRecDepth 100000 in
theorem add2_val (T : Fl.Blk) (D : Dk.Blk) (s : Fl.St) (d d' : Dk.St) (r : Int) (bs bf br : Nat) (P : ByteArray) (n : Nat) (rv : Value) (recs : List ByteArray) (w : World) (h : StoreAt w T D.g s) (hd : DiskAt w D d) (hbs : w.heap[bs]? = some (.cells #[.pointer (some ⟨T.g, 0, none⟩)] 28 (0, 0))) (hbf : w.heap[bf]? = some (.cells #[.int .i64 (n : Int)] 3 (0, 0))) (hbr : w.heap[br]? = some (.cells #[rv] 22 (0, 0))) (hrv : ∀ u, Moved (Dk.own D) w u → SlV u rv (recs.map Value.string)) (hpn : (bf ≠ D.g ∧ bf ≠ D.mb) ∧ br ≠ D.g ∧ br ≠ D.mb) (hrl : recs.length ≤ 140737488351232) (hPe : P = Fl.catAll recs) (hP : P.size ≤ 140737488351232) (hn : n ≤ 140000) (hap : Fl.Away T D) (hbn : bs ≠ D.g ∧ bs ≠ D.mb) (hacts : d.acts < 4611686018427387904) (hmany : d.files.length < 1099511627776) (hkl : d.keep.length ≤ 140737488351232) (hr : Dk.writeA d Fl.nNodes (40 * n : Nat) P = (r, d')) :
    Calls Tryz.prog 65 (#[] ++ #[.pointer (some ⟨bs, 0, none⟩), .pointer (some ⟨bf, 0, none⟩), .pointer (some ⟨br, 0, none⟩)]) w fun e w' => e = .returned (.int .i64 r) ∧ Turns D d w w' d' := by
  show Calls Tryz.prog 65 #[.pointer (some ⟨bs, 0, none⟩), .pointer (some ⟨bf, 0, none⟩), .pointer (some ⟨br, 0, none⟩)] w _
  have HC := hide (show ∀ u, Moved (Dk.own D) w u → u.cell? ⟨bs, 0, none⟩ = some (.pointer (some ⟨T.g, 0, none⟩)) ∧ StoreAt u T D.g s ∧ u.cell? ⟨T.g, 0, none⟩ = some (.pointer (some ⟨D.g, 0, none⟩)) ∧ u.cell? ⟨bf, 0, none⟩ = some (.int .i64 (n : Int)) ∧ u.cell? ⟨br, 0, none⟩ = some rv ∧ SlV u rv (recs.map Value.string) from by
    intro u hm
    have hs := h.stay hm hap.away hap.evs
    have hb : ∀ (b : Nat) (o : Obj), b ≠ D.g ∧ b ≠ D.mb → w.heap[b]? = some o → u.heap[b]? = some o := fun b o hn ho => (hm.block b (heap_lt ho) (fun k => k.elim hn.1 hn.2)).trans ho
    exact ⟨(cell_blk (hb bs _ hbn hbs) 0).trans rfl, hs, hs.c0, (cell_blk (hb bf _ hpn.1 hbf) 0).trans rfl, (cell_blk (hb br _ hpn.2 hbr) 0).trans rfl, hrv u hm⟩)
  have hoff : (Lit.int .i64 ((40 * n : Nat) : Int)).wf = true := Rec.wf_i64 (by omega) (by omega)
  obtain ⟨rl, ra, rc, h1, hrf, h2, h3⟩ := (hrv w (Moved.refl _ _)).form
  subst hrf
  clear h1 h2 h3
  have HPE := hide hPe
  have HD := hide hd
  have HW := hide hr
  have hPsz := hide hP
  clear h hd hr hbs hap hbf hbr hrv hPe
  go_enter Tryz.func65, Tryz.ntmps65
  go_upto_region 1 with (fail)
  
  refine wp_region_local (by kernel_rfl) (by kernel_rfl) (useList fad2U) [8, 9] (by kernel_rfl) (spR (fad2L T D d d' w P r ra bs bf br n rl rc)) (onePre 8 (fun u => DiskAt u D d)) (Moved (Dk.own D) w) (oneE 8 (fun _ _ => True)) (one_stays (by simp [fad2L]) (by kernel_rfl)) (one_pre (fun _ _ h hb => h.past hb)) (one_refl (fun _ => trivial)) (dsts_lt (N := 13) (by kernel_rfl)) ((Moved.refl _ _).drew) (fun _ _ => one_start (HD.out.past ((Below.refl _ _).drew))) (all_ops ?_) ?_
  · refine And.intro ?_ ?_
    · refine lstep_run fun fr wf left => ?_
      have o0 := (left.old 0 (by kernel_rfl)).trans rfl
      refine ⟨wanted_none rfl, fun K hK => ?_⟩
      have hB := hide left.base
      have hc := (HC.out _ hB.out).1
      clear left
      go_simp
      exact hK _ _ rfl hB.out (one_refl (fun _ => trivial) _ _)
    refine And.intro ?_ ?_
    · refine lstep_run fun fr wf left => ?_
      obtain ⟨x0, e0, r0⟩ := left.slot 13 rfl 0 4 _ rfl rfl (by decide) rfl
      have s0 := Eq.symm (show x0 = .pointer (some ⟨T.g, 0, none⟩) from r0)
      subst s0
      refine ⟨wanted_none rfl, fun K hK => ?_⟩
      have hB := hide left.base
      clear left
      go_simp
      exact hK _ _ rfl hB.out (one_refl (fun _ => trivial) _ _)
    refine And.intro ?_ ?_
    · refine lstep_run fun fr wf left => ?_
      obtain ⟨x1, e1, r1⟩ := left.slot 13 rfl 1 5 _ rfl rfl (by decide) rfl
      have s1 := Eq.symm (show x1 = .pointer (some ⟨T.g, 0, none⟩) from r1)
      subst s1
      refine ⟨wanted_none rfl, fun K hK => ?_⟩
      have hB := hide left.base
      clear left
      go_simp
      exact hK _ _ rfl hB.out (one_refl (fun _ => trivial) _ _)
    refine And.intro ?_ ?_
    · refine lstep_run fun fr wf left => ?_
      obtain ⟨x2, e2, r2⟩ := left.slot 13 rfl 2 6 _ rfl rfl (by decide) rfl
      have s2 := Eq.symm (show x2 = .pointer (some ⟨T.g, 0, none⟩) from r2)
      subst s2
      refine ⟨wanted_none rfl, fun K hK => ?_⟩
      have hB := hide left.base
      have hc := (HC.out _ hB.out).2.2.1
      clear left
      go_simp
      exact hK _ _ rfl hB.out (one_refl (fun _ => trivial) _ _)
    refine And.intro ?_ ?_
    · refine lstep_run fun fr wf left => ?_
      have o1 := (left.old 1 (by kernel_rfl)).trans rfl
      refine ⟨wanted_none rfl, fun K hK => ?_⟩
      have hB := hide left.base
      have hc := (HC.out _ hB.out).2.2.2.1
      clear left
      go_simp
      exact hK _ _ rfl hB.out (one_refl (fun _ => trivial) _ _)
    refine And.intro ?_ ?_
    · refine lstep_run fun fr wf left => ?_
      obtain ⟨x4, e4, r4⟩ := left.slot 13 rfl 4 8 _ rfl rfl (by decide) rfl
      have s4 := Eq.symm (show x4 = .int .i64 (n : Int) from r4)
      subst s4
      refine ⟨wanted_none rfl, fun K hK => ?_⟩
      have hB := hide left.base
      clear left
      go_simp
      exact hK _ _ (congrArg (Value.int .i64) ((IntWalk.i64_in _ (by omega)).trans (by omega))) hB.out (one_refl (fun _ => trivial) _ _)
    refine And.intro ?_ ?_
    · refine lstep_run fun fr wf left => ?_
      have o2 := (left.old 2 (by kernel_rfl)).trans rfl
      refine ⟨wanted_none rfl, fun K hK => ?_⟩
      have hB := hide left.base
      have hc := (HC.out _ hB.out).2.2.2.2.1
      clear left
      go_simp
      exact hK _ _ rfl hB.out (one_refl (fun _ => trivial) _ _)
    refine And.intro ?_ ?_
    · refine lstep_run fun fr wf left => ?_
      obtain ⟨x6, e6, r6⟩ := left.slot 13 rfl 6 10 _ rfl rfl (by decide) rfl
      have s6 := Eq.symm (show x6 = .slice ra rl rc from r6)
      subst s6
      refine ⟨wanted_none rfl, fun K hK => ?_⟩
      have hB := hide left.base
      clear left
      go_simp
      refine (join_val (.slice ra rl rc) recs P _ (HC.out _ hB.out).2.2.2.2.2 hrl HPE.out hPsz.out).mono ?_
      rintro e w' ⟨rfl, hb⟩
      exact hK _ _ rfl (hB.out.then (Moved.of_below hb)) (one_else (by decide) hb)
    refine And.intro ?_ ?_
    · refine lstep_run fun fr wf left => ?_
      obtain ⟨x3, e3, r3⟩ := left.slot 13 rfl 3 7 _ rfl rfl (by decide) rfl
      have s3 := Eq.symm (show x3 = .pointer (some ⟨D.g, 0, none⟩) from r3)
      subst s3
      obtain ⟨x5, e5, r5⟩ := left.slot 13 rfl 5 9 _ rfl rfl (by decide) rfl
      have s5 := Eq.symm (show x5 = .int .i64 ((40 * n : Nat) : Int) from r5)
      subst s5
      obtain ⟨x7, e7, r7⟩ := left.slot 13 rfl 7 11 _ rfl rfl (by decide) rfl
      have s7 := Eq.symm (show x7 = .string P from r7)
      subst s7
      refine ⟨wanted_none rfl, fun K hK => ?_⟩
      have hB := hide left.base; have hP := hide (one_pre_at left.pre rfl)
      clear left
      go_simp
      refine (writeA_val D d d' Fl.nNodes (((40 * n : Nat) : Int)) P r _ hP.out (by decide) hPsz.out hoff hacts hmany hkl HW.out).mono ?_
      rintro e w' ⟨rfl, ht⟩
      exact hK _ _ ⟨rfl, ht.at hB.out.size⟩ (hB.out.then ht.moved) (one_at rfl)
    refine And.intro ?_ ?_
    · refine lstep_run fun fr wf left => ?_
      obtain ⟨x8, e8, r8⟩ := left.slot 13 rfl 8 12 _ rfl rfl (by decide) rfl
      obtain ⟨s8, q8⟩ := (show x8 = .int .i64 r ∧ (fun u => TurnAt D d w.heap.size u d') wf from r8)
      subst s8
      refine ⟨wanted_none rfl, fun K hK => ?_⟩
      have hB := hide left.base
      clear left
      go_simp
      exact hK _ _ rfl hB.out (one_refl (fun _ => trivial) _ _)
    exact trivial
  · intro fr wf hB hs hd hall hkeep
    have hw : fr.tmps.getD 12 undef = .int .i64 r ∧ TurnAt D d w.heap.size wf d' := hall 8 _ rfl (by simp)
    have hr : fr.tmps.getD 3 undef = .int .i64 r := hall 9 _ rfl (by simp)
    have hfr := act_ext (frame_setL hs hkeep [4, 5, 6, 7, 8, 9, 10, 11, 12, 3] (by kernel_rfl)) hd
    clear hall hkeep hs hd
    dsimp only [List.foldl, List.set_cons_zero, List.set_cons_succ] at hfr
    generalize fr.tmps.getD 4 undef = q4 at hfr
    generalize fr.tmps.getD 5 undef = q5 at hfr
    generalize fr.tmps.getD 6 undef = q6 at hfr
    generalize fr.tmps.getD 7 undef = q7 at hfr
    generalize fr.tmps.getD 8 undef = q8 at hfr
    generalize fr.tmps.getD 9 undef = q9 at hfr
    generalize fr.tmps.getD 10 undef = q10 at hfr
    generalize fr.tmps.getD 11 undef = q11 at hfr
    generalize fr.tmps.getD 12 undef = q12 at hfr hw
    generalize fr.tmps.getD 3 undef = q3 at hfr hr
    subst hfr
    have H5 := hide (And.intro hw.2 hB)
    clear hw hB
    subst hr
    go_wp2_with fail
    go_ret
    exact ⟨rfl, H5.out.1.turns H5.out.2⟩
end Go.Proofs.YtbfbajfdlkgloaaGreatDoor
