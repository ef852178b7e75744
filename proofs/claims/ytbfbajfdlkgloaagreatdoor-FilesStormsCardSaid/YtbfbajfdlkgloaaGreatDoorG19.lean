/-
  The program's disk: Write, Cut and Sync in whatever state.
-/
import Derived.Test.YtbfbajfdlkgloaaGreatDoorG18
import Derived.Shelf.Abstract

namespace Go.Proofs.YtbfbajfdlkgloaaGreatDoor
open Go Go.RowKit Go.Maps
namespace Dk
def syncA (s : St) (n : ByteArray) : Int × St :=
  if s.down = true then (170, s) else actC s n ⟨(get s.files n).now, (get s.files n).now⟩
def cutA (s : St) (n : ByteArray) (k : Int) : Int × St :=
  if s.down = true then (170, s) else if k < 0 ∨ ((get s.files n).now.size : Int) < k then (173, s)
  else actC s n ⟨(get s.files n).now.extract 0 k.toNat, (get s.files n).was⟩
def writeA (s : St) (n : ByteArray) (off : Int) (x : ByteArray) : Int × St :=
  if s.down = true then (170, s) else if off < 0 ∨ ((get s.files n).now.size : Int) < off ∨ 268435456 - off < x.size then (173, s)
  else if full s n off x = true then (172, s) else actC s n ⟨over (get s.files n).now off.toNat x, (get s.files n).was⟩
end Dk
theorem Turns.ahead {D : Dk.Blk} {s s' : Dk.St} {w w1 w' : World} (h : Turns D s w1 w' s') (hb : Below w.heap.size w w1) : Turns D s w w' s' := by
  obtain ⟨D', h1, h2, h3, h4, h5, h6⟩ := h
  exact ⟨D', h1, h2, h3.imp id (fun h => Nat.le_trans hb.size h), h4, h5, (Moved.of_below hb).then h6⟩
set_option maxHeartbeats 1600000 in
set_option maxRecDepth 100000 in
theorem diskSync_any (D : Dk.Blk) (s : Dk.St) (n : ByteArray) (w : World) (h : DiskAt w D s) (hn : n.size ≤ 140737488351232) (hacts : s.acts < 4611686018427387904) (hmany : s.files.length < 1099511627776) (hkl : s.keep.length ≤ 140737488351232) :
    Calls Tryz.prog 68 #[.pointer (some ⟨D.g, 0, none⟩), .string n] w fun e w' => e = .returned (.int .i64 (Dk.syncA s n).1) ∧ Turns D s w w' (Dk.syncA s n).2 := by
  obtain ⟨r, hr⟩ : ∃ r, r = Dk.syncA s n := ⟨_, rfl⟩
  obtain ⟨dn, hd⟩ : ∃ d, d = s.down := ⟨_, rfl⟩
  have c7 := h.c7
  rw [← hd] at c7
  have HR := hide (show r = if dn = true then (170, s) else (Dk.actC s n ⟨(Dk.get s.files n).now, (Dk.get s.files n).now⟩) by rw [hr, hd]; rfl)
  rw [← hr]
  clear hr hd
  have HD := hide h
  clear h
  go_enter Tryz.func68, Tryz.ntmps68
  cases dn with
  | true =>
    have e := HR.out
    rw [if_pos rfl] at e
    subst e
    go_wp2_with fail
    go_ret
    exact ⟨rfl, Turns.same HD.out (Moved.refl _ _)⟩
  | false =>
    have e := HR.out
    rw [if_neg (by decide)] at e
    have HE := hide e
    clear e HR
    go_wp2_with fail
    refine (diskAct_any D s n 106 #[] ⟨(Dk.get s.files n).now, (Dk.get s.files n).now⟩ _ HD.out hn hacts hmany hkl ⟨(Dk.get_sizes HD.out.ok n).1, (Dk.get_sizes HD.out.ok n).1⟩ enters_sync (fun w1 _ => syncFn_any (Dk.get s.files n) w1)).mono ?_
    rintro e w1 ⟨rfl, ht⟩
    have H1 := hide ht
    clear ht
    go_wp2_with fail
    go_ret
    rw [HE.out]
    exact ⟨rfl, H1.out⟩
set_option maxHeartbeats 1600000 in
set_option maxRecDepth 100000 in
theorem diskCut_any (D : Dk.Blk) (s : Dk.St) (n : ByteArray) (k : Int) (w : World) (h : DiskAt w D s) (hn : n.size ≤ 140737488351232) (hk : (Lit.int .i64 k).wf = true) (hacts : s.acts < 4611686018427387904) (hmany : s.files.length < 1099511627776) (hkl : s.keep.length ≤ 140737488351232) :
    Calls Tryz.prog 98 #[.pointer (some ⟨D.g, 0, none⟩), .string n, .int .i64 k] w fun e w' => e = .returned (.int .i64 (Dk.cutA s n k).1) ∧ Turns D s w w' (Dk.cutA s n k).2 := by
  obtain ⟨r, hr⟩ : ∃ r, r = Dk.cutA s n k := ⟨_, rfl⟩
  obtain ⟨dn, hd⟩ : ∃ d, d = s.down := ⟨_, rfl⟩
  have c1 := h.c1
  have c7 := h.c7
  rw [← hd] at c7
  have HR := hide (show r = if dn = true then (170, s) else if k < 0 ∨ ((Dk.get s.files n).now.size : Int) < k then (173, s) else (Dk.actC s n ⟨(Dk.get s.files n).now.extract 0 k.toNat, (Dk.get s.files n).was⟩) by rw [hr, hd]; rfl)
  rw [← hr]
  clear hr hd
  have HD := hide h
  have hsz := (Dk.get_sizes h.ok n).1
  obtain ⟨f, hf⟩ : ∃ f, f = Dk.get s.files n := ⟨_, rfl⟩
  rw [← hf] at HR hsz
  have LOOK := hide (show ∀ u, Below w.heap.size w u → (Instr.lookup 85 (.map (some D.mb)) (.string n) false).run Tryz.prog u = .ok (.agg #[.string f.now, .string f.was]) u from fun u hu => by
    rw [hf]; exact (h.past hu).look n hn)
  have HF := hide hf
  clear h hf
  have hf0 := fld0
  obtain ⟨W1, hW1⟩ : ∃ V, V = w.alloc (.cells #[.int .i64 k] 3) := ⟨_, rfl⟩
  have hlk := LOOK.out W1 (by rw [hW1]; exact (Below.refl _ _).alloc (Nat.le_refl _) _)
  have hc5 : W1.cell? ⟨w.heap.size, 0, none⟩ = some (.int .i64 k) := by rw [hW1]; exact (cell_blk (alloc_at _ _) 0).trans rfl
  have HB1 := hide (show Below w.heap.size w W1 by rw [hW1]; exact (Below.refl _ _).alloc (Nat.le_refl _) _)
  have d1 : W1.cell? ⟨D.g, 1, none⟩ = some (.map (some D.mb)) := (HB1.out.cell (p := ⟨D.g, 1, none⟩) HD.out.glt).trans c1
  have d7 : W1.cell? ⟨D.g, 7, none⟩ = some (.bool dn) := (HB1.out.cell (p := ⟨D.g, 7, none⟩) HD.out.glt).trans c7
  have H5 := hide (show W1.heap[w.heap.size]? = some (.cells #[.int .i64 k] 3 (0, 0)) by rw [hW1]; exact alloc_at _ _)
  clear c1 c7
  go_enter Tryz.func98, Tryz.ntmps98
  go_upto_region 1 with (fail)
  rw [← hW1]
  clear hW1
  cases dn with
  | true =>
    have e := HR.out
    rw [if_pos rfl] at e
    subst e
    go_wp2_with fail
    go_ret
    exact ⟨rfl, Turns.same (HD.out.past HB1.out) (Moved.of_below HB1.out)⟩
  | false =>
    have e := HR.out
    rw [if_neg (by decide)] at e
    have HE := hide e
    clear e HR
    go_upto_region 3 with (fail)
    have C1 := hide (show D.g < W1.heap.size ∧ W1.cell? ⟨D.g, 1, none⟩ = some (.map (some D.mb)) from ⟨Nat.lt_of_lt_of_le HD.out.glt HB1.out.size, d1⟩)
    have C5 := hide (show w.heap.size < W1.heap.size ∧ W1.cell? ⟨w.heap.size, 0, none⟩ = some (.int .i64 k) from ⟨heap_lt H5.out, hc5⟩)
    clear d1 d7 hc5 hlk
    obtain ⟨bad, hbad⟩ : ∃ b : Bool, b = decide (k < 0 ∨ (f.now.size : Int) < k) := ⟨_, rfl⟩
    have HBAD := hide hbad
    clear hbad
    go_cut [12] from 13 to 27 (fun v12 wx => Hid (v12 = .bool bad ∧ DiskAt wx D s ∧ Below w.heap.size w wx ∧ wx.heap[w.heap.size]? = some (.cells #[.int .i64 k] 3 (0, 0))))
    case first =>
      by_cases k0 : k < 0
      · have hb : bad = true := by rw [HBAD.out]; exact decide_eq_true (.inl k0)
        subst hb
        
        refine wp_region_local (by kernel_rfl) (by kernel_rfl) (useList cutaU) [14] (by kernel_rfl) (spR (cutaL D w n f k)) (fun _ _ => True) (Below W1.heap.size W1) (fun _ w w' => Below w.heap.size w w') spR_stays (fun _ _ _ _ _ h _ => h) (fun _ _ => Below.refl _ _) (dsts_lt (N := 31) (by kernel_rfl)) ((Below.refl _ _).drew) (fun _ _ => trivial) (all_ops ?_) ?_
        · refine And.intro ?_ ?_
          · refine lstep_run fun fr wf left => ?_
            have o5 := (left.old 5 (by kernel_rfl)).trans rfl
            refine ⟨wanted_none rfl, fun K hK => ?_⟩
            have hB := hide left.base
            have hc := (hB.out.cell (p := ⟨w.heap.size, 0, none⟩) C5.out.1).trans C5.out.2
            clear left
            go_simp
            exact hK _ _ rfl hB.out (Below.refl _ _)
          refine And.intro ?_ ?_
          · refine lstep_run fun fr wf left => ?_
            obtain ⟨x0, e0, r0⟩ := left.slot 31 rfl 0 13 _ rfl rfl (by decide) rfl
            have s0 := Eq.symm (show x0 = .int .i64 k from r0)
            subst s0
            refine ⟨wanted_none rfl, fun K hK => ?_⟩
            have hB := hide left.base
            clear left
            go_simp
            exact hK _ _ rfl hB.out (Below.refl _ _)
          refine And.intro ?_ ?_
          · refine lstep_run fun fr wf left => ?_
            obtain ⟨x1, e1, r1⟩ := left.slot 31 rfl 1 14 _ rfl rfl (by decide) rfl
            have s1 := Eq.symm (show x1 = .bool true from r1)
            subst s1
            refine ⟨wanted_none rfl, fun K hK => ?_⟩
            have hB := hide left.base
            clear left
            go_simp
            exact hK _ _ rfl hB.out (Below.refl _ _)
          refine And.intro ?_ ?_
          · refine lstep_skip fun fr wf left => ?_
            obtain ⟨x2, e2, r2⟩ := left.slot 31 rfl 2 15 _ rfl rfl (by decide) rfl
            have s2 := Eq.symm (show x2 = .bool true from r2)
            subst s2
            exact ⟨wanted_no rfl rfl e2 (by decide), rfl⟩
          refine And.intro ?_ ?_
          · refine lstep_skip fun fr wf left => ?_
            obtain ⟨x2, e2, r2⟩ := left.slot 31 rfl 2 15 _ rfl rfl (by decide) rfl
            have s2 := Eq.symm (show x2 = .bool true from r2)
            subst s2
            exact ⟨wanted_no rfl rfl e2 (by decide), rfl⟩
          refine And.intro ?_ ?_
          · refine lstep_skip fun fr wf left => ?_
            obtain ⟨x2, e2, r2⟩ := left.slot 31 rfl 2 15 _ rfl rfl (by decide) rfl
            have s2 := Eq.symm (show x2 = .bool true from r2)
            subst s2
            exact ⟨wanted_no rfl rfl e2 (by decide), rfl⟩
          refine And.intro ?_ ?_
          · refine lstep_skip fun fr wf left => ?_
            obtain ⟨x2, e2, r2⟩ := left.slot 31 rfl 2 15 _ rfl rfl (by decide) rfl
            have s2 := Eq.symm (show x2 = .bool true from r2)
            subst s2
            exact ⟨wanted_no rfl rfl e2 (by decide), rfl⟩
          refine And.intro ?_ ?_
          · refine lstep_skip fun fr wf left => ?_
            obtain ⟨x2, e2, r2⟩ := left.slot 31 rfl 2 15 _ rfl rfl (by decide) rfl
            have s2 := Eq.symm (show x2 = .bool true from r2)
            subst s2
            exact ⟨wanted_no rfl rfl e2 (by decide), rfl⟩
          refine And.intro ?_ ?_
          · refine lstep_skip fun fr wf left => ?_
            obtain ⟨x2, e2, r2⟩ := left.slot 31 rfl 2 15 _ rfl rfl (by decide) rfl
            have s2 := Eq.symm (show x2 = .bool true from r2)
            subst s2
            exact ⟨wanted_no rfl rfl e2 (by decide), rfl⟩
          refine And.intro ?_ ?_
          · refine lstep_skip fun fr wf left => ?_
            obtain ⟨x2, e2, r2⟩ := left.slot 31 rfl 2 15 _ rfl rfl (by decide) rfl
            have s2 := Eq.symm (show x2 = .bool true from r2)
            subst s2
            exact ⟨wanted_no rfl rfl e2 (by decide), rfl⟩
          refine And.intro ?_ ?_
          · refine lstep_skip fun fr wf left => ?_
            obtain ⟨x2, e2, r2⟩ := left.slot 31 rfl 2 15 _ rfl rfl (by decide) rfl
            have s2 := Eq.symm (show x2 = .bool true from r2)
            subst s2
            exact ⟨wanted_no rfl rfl e2 (by decide), rfl⟩
          refine And.intro ?_ ?_
          · refine lstep_skip fun fr wf left => ?_
            obtain ⟨x2, e2, r2⟩ := left.slot 31 rfl 2 15 _ rfl rfl (by decide) rfl
            have s2 := Eq.symm (show x2 = .bool true from r2)
            subst s2
            exact ⟨wanted_no rfl rfl e2 (by decide), rfl⟩
          refine And.intro ?_ ?_
          · refine lstep_skip fun fr wf left => ?_
            obtain ⟨x2, e2, r2⟩ := left.slot 31 rfl 2 15 _ rfl rfl (by decide) rfl
            have s2 := Eq.symm (show x2 = .bool true from r2)
            subst s2
            exact ⟨wanted_no rfl rfl e2 (by decide), rfl⟩
          refine And.intro ?_ ?_
          · refine lstep_run fun fr wf left => ?_
            obtain ⟨x2, e2, r2⟩ := left.slot 31 rfl 2 15 _ rfl rfl (by decide) rfl
            have s2 := Eq.symm (show x2 = .bool true from r2)
            subst s2
            obtain ⟨x12, e12, r12⟩ := left.slot 31 rfl 12 25 _ rfl rfl (by decide) rfl
            have s12 := Eq.symm (show x12 = undef from r12)
            subst s12
            refine ⟨wanted_none rfl, fun K hK => ?_⟩
            have hB := hide left.base
            clear left
            go_simp
            exact hK _ _ rfl hB.out (Below.refl _ _)
          refine And.intro ?_ ?_
          · refine lstep_run fun fr wf left => ?_
            obtain ⟨x13, e13, r13⟩ := left.slot 31 rfl 13 26 _ rfl rfl (by decide) rfl
            have s13 := Eq.symm (show x13 = .bool true from r13)
            subst s13
            refine ⟨wanted_none rfl, fun K hK => ?_⟩
            have hB := hide left.base
            clear left
            go_simp
            exact hK _ _ rfl hB.out (Below.refl _ _)
          exact trivial
        · intro fr wf hB hs hd hall hkeep
          have h12 : fr.tmps.getD 12 undef = .bool true := hall 14 _ rfl (by simp)
          have hfr := act_ext (frame_set hs hkeep [13, 14, 15, 16, 17, 18, 19, 20, 21, 22, 23, 24, 25, 26, 12] (by kernel_rfl)) hd
          obtain ⟨q13, hq13⟩ : ∃ q, q = fr.tmps.getD 13 undef := ⟨_, rfl⟩
          obtain ⟨q14, hq14⟩ : ∃ q, q = fr.tmps.getD 14 undef := ⟨_, rfl⟩
          obtain ⟨q15, hq15⟩ : ∃ q, q = fr.tmps.getD 15 undef := ⟨_, rfl⟩
          obtain ⟨q16, hq16⟩ : ∃ q, q = fr.tmps.getD 16 undef := ⟨_, rfl⟩
          obtain ⟨q17, hq17⟩ : ∃ q, q = fr.tmps.getD 17 undef := ⟨_, rfl⟩
          obtain ⟨q18, hq18⟩ : ∃ q, q = fr.tmps.getD 18 undef := ⟨_, rfl⟩
          obtain ⟨q19, hq19⟩ : ∃ q, q = fr.tmps.getD 19 undef := ⟨_, rfl⟩
          obtain ⟨q20, hq20⟩ : ∃ q, q = fr.tmps.getD 20 undef := ⟨_, rfl⟩
          obtain ⟨q21, hq21⟩ : ∃ q, q = fr.tmps.getD 21 undef := ⟨_, rfl⟩
          obtain ⟨q22, hq22⟩ : ∃ q, q = fr.tmps.getD 22 undef := ⟨_, rfl⟩
          obtain ⟨q23, hq23⟩ : ∃ q, q = fr.tmps.getD 23 undef := ⟨_, rfl⟩
          obtain ⟨q24, hq24⟩ : ∃ q, q = fr.tmps.getD 24 undef := ⟨_, rfl⟩
          obtain ⟨q25, hq25⟩ : ∃ q, q = fr.tmps.getD 25 undef := ⟨_, rfl⟩
          obtain ⟨q26, hq26⟩ : ∃ q, q = fr.tmps.getD 26 undef := ⟨_, rfl⟩
          obtain ⟨q12, hq12⟩ : ∃ q, q = fr.tmps.getD 12 undef := ⟨_, rfl⟩
          rw [← hq12] at h12
          simp only [List.foldl, ← hq13, ← hq14, ← hq15, ← hq16, ← hq17, ← hq18, ← hq19, ← hq20, ← hq21, ← hq22, ← hq23, ← hq24, ← hq25, ← hq26, ← hq12] at hfr
          simp only [List.setIfInBounds_toArray, List.set_cons_zero, List.set_cons_succ] at hfr
          clear hall hkeep hs hd hq13 hq14 hq15 hq16 hq17 hq18 hq19 hq20 hq21 hq22 hq23 hq24 hq25 hq26 hq12
          subst hfr
          subst h12
          have HBF := hide hB
          clear hB
          go_wp2_with fail
          go_meet
          case rel => exact ⟨rfl, HD.out.past (HB1.out.trans (HBF.out.mono HB1.out.size)), HB1.out.trans (HBF.out.mono HB1.out.size), (HBF.out.block _ (heap_lt H5.out)).trans H5.out⟩
      · have hb : bad = decide ((f.now.size : Int) < k) := by rw [HBAD.out]; exact decide_eq_decide.2 ⟨fun h => h.resolve_left k0, .inr⟩
        subst hb
        
        refine wp_region_local (by kernel_rfl) (by kernel_rfl) (useList cutbU) [14] (by kernel_rfl) (spR (cutbL D w n f k)) (fun _ _ => True) (Below W1.heap.size W1) (fun _ w w' => Below w.heap.size w w') spR_stays (fun _ _ _ _ _ h _ => h) (fun _ _ => Below.refl _ _) (dsts_lt (N := 31) (by kernel_rfl)) ((Below.refl _ _).drew) (fun _ _ => trivial) (all_ops ?_) ?_
        · refine And.intro ?_ ?_
          · refine lstep_run fun fr wf left => ?_
            have o5 := (left.old 5 (by kernel_rfl)).trans rfl
            refine ⟨wanted_none rfl, fun K hK => ?_⟩
            have hB := hide left.base
            have hc := (hB.out.cell (p := ⟨w.heap.size, 0, none⟩) C5.out.1).trans C5.out.2
            clear left
            go_simp
            exact hK _ _ rfl hB.out (Below.refl _ _)
          refine And.intro ?_ ?_
          · refine lstep_run fun fr wf left => ?_
            obtain ⟨x0, e0, r0⟩ := left.slot 31 rfl 0 13 _ rfl rfl (by decide) rfl
            have s0 := Eq.symm (show x0 = .int .i64 k from r0)
            subst s0
            refine ⟨wanted_none rfl, fun K hK => ?_⟩
            have hB := hide left.base
            clear left
            go_simp
            exact hK _ _ rfl hB.out (Below.refl _ _)
          refine And.intro ?_ ?_
          · refine lstep_run fun fr wf left => ?_
            obtain ⟨x1, e1, r1⟩ := left.slot 31 rfl 1 14 _ rfl rfl (by decide) rfl
            have s1 := Eq.symm (show x1 = .bool false from r1)
            subst s1
            refine ⟨wanted_none rfl, fun K hK => ?_⟩
            have hB := hide left.base
            clear left
            go_simp
            exact hK _ _ rfl hB.out (Below.refl _ _)
          refine And.intro ?_ ?_
          · refine lstep_run fun fr wf left => ?_
            obtain ⟨x2, e2, r2⟩ := left.slot 31 rfl 2 15 _ rfl rfl (by decide) rfl
            have s2 := Eq.symm (show x2 = .bool false from r2)
            subst s2
            have o5 := (left.old 5 (by kernel_rfl)).trans rfl
            refine ⟨wanted_yes rfl rfl e2, fun K hK => ?_⟩
            have hB := hide left.base
            have hc := (hB.out.cell (p := ⟨w.heap.size, 0, none⟩) C5.out.1).trans C5.out.2
            clear left
            go_simp
            exact hK _ _ rfl hB.out (Below.refl _ _)
          refine And.intro ?_ ?_
          · refine lstep_run fun fr wf left => ?_
            obtain ⟨x2, e2, r2⟩ := left.slot 31 rfl 2 15 _ rfl rfl (by decide) rfl
            have s2 := Eq.symm (show x2 = .bool false from r2)
            subst s2
            have o0 := (left.old 0 (by kernel_rfl)).trans rfl
            refine ⟨wanted_yes rfl rfl e2, fun K hK => ?_⟩
            have hB := hide left.base
            clear left
            go_simp
            exact hK _ _ rfl hB.out (Below.refl _ _)
          refine And.intro ?_ ?_
          · refine lstep_run fun fr wf left => ?_
            obtain ⟨x2, e2, r2⟩ := left.slot 31 rfl 2 15 _ rfl rfl (by decide) rfl
            have s2 := Eq.symm (show x2 = .bool false from r2)
            subst s2
            obtain ⟨x4, e4, r4⟩ := left.slot 31 rfl 4 17 _ rfl rfl (by decide) rfl
            have s4 := Eq.symm (show x4 = .pointer (some ⟨D.g, 0, none⟩) from r4)
            subst s4
            refine ⟨wanted_yes rfl rfl e2, fun K hK => ?_⟩
            have hB := hide left.base
            clear left
            go_simp
            exact hK _ _ rfl hB.out (Below.refl _ _)
          refine And.intro ?_ ?_
          · refine lstep_run fun fr wf left => ?_
            obtain ⟨x2, e2, r2⟩ := left.slot 31 rfl 2 15 _ rfl rfl (by decide) rfl
            have s2 := Eq.symm (show x2 = .bool false from r2)
            subst s2
            obtain ⟨x5, e5, r5⟩ := left.slot 31 rfl 5 18 _ rfl rfl (by decide) rfl
            have s5 := Eq.symm (show x5 = .pointer (some ⟨D.g, 0, none⟩) from r5)
            subst s5
            refine ⟨wanted_yes rfl rfl e2, fun K hK => ?_⟩
            have hB := hide left.base
            clear left
            go_simp
            exact hK _ _ rfl hB.out (Below.refl _ _)
          refine And.intro ?_ ?_
          · refine lstep_run fun fr wf left => ?_
            obtain ⟨x2, e2, r2⟩ := left.slot 31 rfl 2 15 _ rfl rfl (by decide) rfl
            have s2 := Eq.symm (show x2 = .bool false from r2)
            subst s2
            obtain ⟨x6, e6, r6⟩ := left.slot 31 rfl 6 19 _ rfl rfl (by decide) rfl
            have s6 := Eq.symm (show x6 = .pointer (some ⟨D.g, 1, none⟩) from r6)
            subst s6
            refine ⟨wanted_yes rfl rfl e2, fun K hK => ?_⟩
            have hB := hide left.base
            have hc := (hB.out.cell (p := ⟨D.g, 1, none⟩) C1.out.1).trans C1.out.2
            clear left
            go_simp
            exact hK _ _ rfl hB.out (Below.refl _ _)
          refine And.intro ?_ ?_
          · refine lstep_run fun fr wf left => ?_
            obtain ⟨x2, e2, r2⟩ := left.slot 31 rfl 2 15 _ rfl rfl (by decide) rfl
            have s2 := Eq.symm (show x2 = .bool false from r2)
            subst s2
            have o1 := (left.old 1 (by kernel_rfl)).trans rfl
            refine ⟨wanted_yes rfl rfl e2, fun K hK => ?_⟩
            have hB := hide left.base
            clear left
            go_simp
            exact hK _ _ rfl hB.out (Below.refl _ _)
          refine And.intro ?_ ?_
          · refine lstep_run fun fr wf left => ?_
            obtain ⟨x2, e2, r2⟩ := left.slot 31 rfl 2 15 _ rfl rfl (by decide) rfl
            have s2 := Eq.symm (show x2 = .bool false from r2)
            subst s2
            obtain ⟨x7, e7, r7⟩ := left.slot 31 rfl 7 20 _ rfl rfl (by decide) rfl
            have s7 := Eq.symm (show x7 = .map (some D.mb) from r7)
            subst s7
            obtain ⟨x8, e8, r8⟩ := left.slot 31 rfl 8 21 _ rfl rfl (by decide) rfl
            have s8 := Eq.symm (show x8 = .string n from r8)
            subst s8
            refine ⟨wanted_yes rfl rfl e2, fun K hK => ?_⟩
            have hB := hide left.base
            have hlk := LOOK.out _ (HB1.out.trans (hB.out.mono HB1.out.size))
            clear left
            go_simp
            exact hK _ _ rfl hB.out (Below.refl _ _)
          refine And.intro ?_ ?_
          · refine lstep_run fun fr wf left => ?_
            obtain ⟨x2, e2, r2⟩ := left.slot 31 rfl 2 15 _ rfl rfl (by decide) rfl
            have s2 := Eq.symm (show x2 = .bool false from r2)
            subst s2
            obtain ⟨x9, e9, r9⟩ := left.slot 31 rfl 9 22 _ rfl rfl (by decide) rfl
            have s9 := Eq.symm (show x9 = .agg #[.string f.now, .string f.was] from r9)
            subst s9
            refine ⟨wanted_yes rfl rfl e2, fun K hK => ?_⟩
            have hB := hide left.base
            clear left
            go_simp
            exact hK _ _ rfl hB.out (Below.refl _ _)
          refine And.intro ?_ ?_
          · refine lstep_run fun fr wf left => ?_
            obtain ⟨x2, e2, r2⟩ := left.slot 31 rfl 2 15 _ rfl rfl (by decide) rfl
            have s2 := Eq.symm (show x2 = .bool false from r2)
            subst s2
            obtain ⟨x10, e10, r10⟩ := left.slot 31 rfl 10 23 _ rfl rfl (by decide) rfl
            have s10 := Eq.symm (show x10 = .string f.now from r10)
            subst s10
            refine ⟨wanted_yes rfl rfl e2, fun K hK => ?_⟩
            have hB := hide left.base
            clear left
            go_simp
            exact hK _ _ rfl hB.out (Below.refl _ _)
          refine And.intro ?_ ?_
          · refine lstep_run fun fr wf left => ?_
            obtain ⟨x2, e2, r2⟩ := left.slot 31 rfl 2 15 _ rfl rfl (by decide) rfl
            have s2 := Eq.symm (show x2 = .bool false from r2)
            subst s2
            obtain ⟨x3, e3, r3⟩ := left.slot 31 rfl 3 16 _ rfl rfl (by decide) rfl
            have s3 := Eq.symm (show x3 = .int .i64 k from r3)
            subst s3
            obtain ⟨x11, e11, r11⟩ := left.slot 31 rfl 11 24 _ rfl rfl (by decide) rfl
            have s11 := Eq.symm (show x11 = .int .i64 (f.now.size : Int) from r11)
            subst s11
            refine ⟨wanted_yes rfl rfl e2, fun K hK => ?_⟩
            have hB := hide left.base
            clear left
            go_simp
            exact hK _ _ rfl hB.out (Below.refl _ _)
          refine And.intro ?_ ?_
          · refine lstep_run fun fr wf left => ?_
            obtain ⟨x2, e2, r2⟩ := left.slot 31 rfl 2 15 _ rfl rfl (by decide) rfl
            have s2 := Eq.symm (show x2 = .bool false from r2)
            subst s2
            obtain ⟨x12, e12, r12⟩ := left.slot 31 rfl 12 25 _ rfl rfl (by decide) rfl
            have s12 := Eq.symm (show x12 = .bool (decide ((f.now.size : Int) < k)) from r12)
            subst s12
            refine ⟨wanted_none rfl, fun K hK => ?_⟩
            have hB := hide left.base
            clear left
            go_simp
            exact hK _ _ rfl hB.out (Below.refl _ _)
          refine And.intro ?_ ?_
          · refine lstep_run fun fr wf left => ?_
            obtain ⟨x13, e13, r13⟩ := left.slot 31 rfl 13 26 _ rfl rfl (by decide) rfl
            have s13 := Eq.symm (show x13 = .bool (decide ((f.now.size : Int) < k)) from r13)
            subst s13
            refine ⟨wanted_none rfl, fun K hK => ?_⟩
            have hB := hide left.base
            clear left
            go_simp
            exact hK _ _ rfl hB.out (Below.refl _ _)
          exact trivial
        · intro fr wf hB hs hd hall hkeep
          have h12 : fr.tmps.getD 12 undef = .bool (decide ((f.now.size : Int) < k)) := hall 14 _ rfl (by simp)
          have hfr := act_ext (frame_set hs hkeep [13, 14, 15, 16, 17, 18, 19, 20, 21, 22, 23, 24, 25, 26, 12] (by kernel_rfl)) hd
          obtain ⟨q13, hq13⟩ : ∃ q, q = fr.tmps.getD 13 undef := ⟨_, rfl⟩
          obtain ⟨q14, hq14⟩ : ∃ q, q = fr.tmps.getD 14 undef := ⟨_, rfl⟩
          obtain ⟨q15, hq15⟩ : ∃ q, q = fr.tmps.getD 15 undef := ⟨_, rfl⟩
          obtain ⟨q16, hq16⟩ : ∃ q, q = fr.tmps.getD 16 undef := ⟨_, rfl⟩
          obtain ⟨q17, hq17⟩ : ∃ q, q = fr.tmps.getD 17 undef := ⟨_, rfl⟩
          obtain ⟨q18, hq18⟩ : ∃ q, q = fr.tmps.getD 18 undef := ⟨_, rfl⟩
          obtain ⟨q19, hq19⟩ : ∃ q, q = fr.tmps.getD 19 undef := ⟨_, rfl⟩
          obtain ⟨q20, hq20⟩ : ∃ q, q = fr.tmps.getD 20 undef := ⟨_, rfl⟩
          obtain ⟨q21, hq21⟩ : ∃ q, q = fr.tmps.getD 21 undef := ⟨_, rfl⟩
          obtain ⟨q22, hq22⟩ : ∃ q, q = fr.tmps.getD 22 undef := ⟨_, rfl⟩
          obtain ⟨q23, hq23⟩ : ∃ q, q = fr.tmps.getD 23 undef := ⟨_, rfl⟩
          obtain ⟨q24, hq24⟩ : ∃ q, q = fr.tmps.getD 24 undef := ⟨_, rfl⟩
          obtain ⟨q25, hq25⟩ : ∃ q, q = fr.tmps.getD 25 undef := ⟨_, rfl⟩
          obtain ⟨q26, hq26⟩ : ∃ q, q = fr.tmps.getD 26 undef := ⟨_, rfl⟩
          obtain ⟨q12, hq12⟩ : ∃ q, q = fr.tmps.getD 12 undef := ⟨_, rfl⟩
          rw [← hq12] at h12
          simp only [List.foldl, ← hq13, ← hq14, ← hq15, ← hq16, ← hq17, ← hq18, ← hq19, ← hq20, ← hq21, ← hq22, ← hq23, ← hq24, ← hq25, ← hq26, ← hq12] at hfr
          simp only [List.setIfInBounds_toArray, List.set_cons_zero, List.set_cons_succ] at hfr
          clear hall hkeep hs hd hq13 hq14 hq15 hq16 hq17 hq18 hq19 hq20 hq21 hq22 hq23 hq24 hq25 hq26 hq12
          subst hfr
          subst h12
          have HBF := hide hB
          clear hB
          go_wp2_with fail
          go_meet
          case rel => exact ⟨rfl, HD.out.past (HB1.out.trans (HBF.out.mono HB1.out.size)), HB1.out.trans (HBF.out.mono HB1.out.size), (HBF.out.block _ (heap_lt H5.out)).trans H5.out⟩
    obtain ⟨rfl, hd2, hb2, h52⟩ := hcut.out
    have H2 := hide (And.intro hd2 (And.intro hb2 h52))
    clear hcut hd2 hb2 h52
    cases bad with
    | true =>
      have e := HE.out
      rw [if_pos (of_decide_eq_true HBAD.out.symm)] at e
      subst e
      go_wp2_with fail
      go_ret
      exact ⟨rfl, Turns.same (H2.out.1) (Moved.of_below H2.out.2.1)⟩
    | false =>
      have hgood := of_decide_eq_false HBAD.out.symm
      have e := HE.out
      rw [if_neg hgood] at e
      obtain ⟨kn, rfl⟩ : ∃ kn : Nat, k = (kn : Int) := ⟨k.toNat, by omega⟩
      rw [Int.toNat_natCast] at e
      have HE2 := hide e
      have hkn : kn ≤ f.now.size := by omega
      clear e HE hgood HBAD
      go_wp2_with fail
      refine (diskAct_any D s n 134 #[.pointer (some ⟨w.heap.size, 0, none⟩)] ⟨f.now.extract 0 kn, f.was⟩ _ H2.out.1 hn hacts hmany hkl ⟨by rw [ByteArray.size_extract]; omega, by rw [HF.out]; exact (Dk.get_sizes HD.out.ok n).2⟩ enters_cut (fun w1 hm => by
        rw [← HF.out]
        exact cutFn_any f kn w.heap.size w1 hkn hsz ((hm.block w.heap.size (heap_lt H2.out.2.2) (fun hS => by rcases hS with e | e; have := HD.out.glt; omega; have := HD.out.map.lt; omega)).trans H2.out.2.2))).mono ?_
      rintro e w1 ⟨rfl, ht⟩
      have H1 := hide ht
      clear ht
      go_wp2_with fail
      go_ret
      rw [HE2.out]
      exact ⟨rfl, H1.out.ahead H2.out.2.1⟩
set_option maxHeartbeats 1600000 in
set_option maxRecDepth 100000 in
theorem diskWrite_any (D : Dk.Blk) (s : Dk.St) (n : ByteArray) (off : Int) (x : ByteArray) (w : World) (h : DiskAt w D s) (hn : n.size ≤ 140737488351232) (hx : x.size ≤ 140737488351232) (hk : (Lit.int .i64 off).wf = true) (hacts : s.acts < 4611686018427387904) (hmany : s.files.length < 1099511627776) (hkl : s.keep.length ≤ 140737488351232) :
    Calls Tryz.prog 23 #[.pointer (some ⟨D.g, 0, none⟩), .string n, .int .i64 off, .string x] w fun e w' => e = .returned (.int .i64 (Dk.writeA s n off x).1) ∧ Turns D s w w' (Dk.writeA s n off x).2 := by
  obtain ⟨r, hr⟩ : ∃ r, r = Dk.writeA s n off x := ⟨_, rfl⟩
  obtain ⟨dn, hd⟩ : ∃ d, d = s.down := ⟨_, rfl⟩
  have hob : -9223372036854775808 ≤ off ∧ off ≤ 9223372036854775807 := by
    have h : IntKind.i64.min ≤ off ∧ off ≤ IntKind.i64.max := by simpa [Lit.wf] using hk
    exact h
  have HD := hide h
  have hsz := (Dk.get_sizes h.ok n).1
  obtain ⟨f, hf⟩ : ∃ f, f = Dk.get s.files n := ⟨_, rfl⟩
  rw [← hf] at hsz
  obtain ⟨fu, hfu⟩ : ∃ b, b = Dk.full s n off x := ⟨_, rfl⟩
  have HR := hide (show r = if dn = true then (170, s) else if off < 0 ∨ (f.now.size : Int) < off ∨ 268435456 - off < x.size then (173, s) else if fu = true then (172, s) else (Dk.actC s n ⟨Dk.over f.now off.toNat x, f.was⟩) by rw [hr, hd, hf, hfu]; rfl)
  have HFU := hide (show fu = (decide ((f.now.size : Int) < off + x.size) && decide (s.room < wrap64 ((Dk.used s.files : Int) - f.now.size + off + x.size))) by rw [hfu, hf]; rfl)
  rw [← hr]
  clear hr hfu
  have c1 := h.c1
  have c7 := h.c7
  rw [← hd] at c7
  clear hd
  obtain ⟨W1, hW1⟩ : ∃ V, V = (w.alloc (.cells #[.int .i64 off] 3)).alloc (.cells #[.string x] 9) := ⟨_, rfl⟩
  have hb1 : Below w.heap.size w W1 := by rw [hW1]; exact ((Below.refl _ _).alloc (Nat.le_refl _) _).alloc (by simp) _
  have hlk : (Instr.lookup 85 (.map (some D.mb)) (.string n) false).run Tryz.prog W1 = .ok (.agg #[.string f.now, .string f.was]) W1 := by rw [hf]; exact (h.past hb1).look n hn
  have hs1 : W1.heap.size = w.heap.size + 2 := by rw [hW1]; simp
  have h6 : W1.heap[w.heap.size]? = some (.cells #[.int .i64 off] 3 (0, 0)) := by rw [hW1]; exact (Below.heap_alloc (w.alloc _) _ w.heap.size (by simp)).trans (alloc_at _ _)
  have h7 : W1.heap[w.heap.size + 1]? = some (.cells #[.string x] 9 (0, 0)) := by rw [hW1]; have := alloc_at (w.alloc (.cells #[.int .i64 off] 3)) (.cells #[.string x] 9); simpa using this
  have HF := hide hf
  clear h hf
  have d1 : W1.cell? ⟨D.g, 1, none⟩ = some (.map (some D.mb)) := (hb1.cell (p := ⟨D.g, 1, none⟩) HD.out.glt).trans c1
  have d7 : W1.cell? ⟨D.g, 7, none⟩ = some (.bool dn) := (hb1.cell (p := ⟨D.g, 7, none⟩) HD.out.glt).trans c7
  have hf0 := fld0
  have HB1 := hide (And.intro hb1 (And.intro hs1 (And.intro h6 h7)))
  clear c1 c7 hb1 hs1 h6 h7
  go_enter Tryz.func23, Tryz.ntmps23
  go_upto_region 1 with (fail)
  rw [← hW1]
  clear hW1
  go_upto_region 2 with (fail)
  obtain ⟨b6, hb6⟩ : ∃ b, b = w.heap.size := ⟨_, rfl⟩
  obtain ⟨b7, hb7⟩ : ∃ b, b = w.heap.size + 1 := ⟨_, rfl⟩
  obtain ⟨b9, hb9⟩ : ∃ b, b = W1.heap.size := ⟨_, rfl⟩
  obtain ⟨W3, hW3⟩ : ∃ V, V = W1.alloc (.cells #[.int .i64 (f.now.size : Int)] 3) := ⟨_, rfl⟩
  rw [← hW3, ← hb7, ← hb6, ← hb9]
  have hb13 : Below W1.heap.size W1 W3 := by rw [hW3]; exact (Below.refl _ _).alloc (Nat.le_refl _) _
  have HB3 := hide (show Below w.heap.size w W3 from HB1.out.1.trans (hb13.mono HB1.out.1.size))
  have HD3 := hide (HD.out.past HB3.out)
  have HBB := hide (show D.g < w.heap.size ∧ D.mb < w.heap.size ∧ w.heap.size ≤ b6 ∧ w.heap.size ≤ b7 ∧ w.heap.size ≤ b9 from ⟨HD.out.glt, HD.out.map.lt, by omega, by omega, by rw [hb9, HB1.out.2.1]; omega⟩)
  have H6 := hide (show W3.heap[b6]? = some (.cells #[.int .i64 off] 3 (0, 0)) by rw [hb6]; exact (hb13.block _ (heap_lt HB1.out.2.2.1)).trans HB1.out.2.2.1)
  have H7 := hide (show W3.heap[b7]? = some (.cells #[.string x] 9 (0, 0)) by rw [hb7]; exact (hb13.block _ (heap_lt HB1.out.2.2.2)).trans HB1.out.2.2.2)
  have H9 := hide (show W3.heap[b9]? = some (.cells #[.int .i64 (f.now.size : Int)] 3 (0, 0)) by rw [hb9, hW3]; exact alloc_at _ _)
  have e7 : W3.cell? ⟨D.g, 7, none⟩ = some (.bool dn) := (hb13.cell (p := ⟨D.g, 7, none⟩) (by rw [HB1.out.2.1]; have := HBB.out.1; show D.g < _; omega)).trans d7
  have e6 : W3.cell? ⟨b6, 0, none⟩ = some (.int .i64 off) := (cell_blk H6.out 0).trans rfl
  have ex7 : W3.cell? ⟨b7, 0, none⟩ = some (.string x) := (cell_blk H7.out 0).trans rfl
  have e9 : W3.cell? ⟨b9, 0, none⟩ = some (.int .i64 (f.now.size : Int)) := (cell_blk H9.out 0).trans rfl
  clear hb6 hb7 hb9 hW3 hb13 d1 d7 hlk HB1
  cases dn with
  | true =>
    have e := HR.out
    rw [if_pos rfl] at e
    subst e
    go_wp2_with fail
    go_ret
    exact ⟨rfl, Turns.same (HD3.out) (Moved.of_below HB3.out)⟩
  | false =>
    have e := HR.out
    rw [if_neg (by decide)] at e
    have HE := hide e
    clear e HR
    obtain ⟨bad, hbad⟩ : ∃ b : Bool, b = decide (off < 0 ∨ (f.now.size : Int) < off ∨ 268435456 - off < x.size) := ⟨_, rfl⟩
    have HBAD := hide hbad
    clear hbad
    go_upto_region 4 with (fail)
    go_cut [23] from 24 to 38 (fun v23 wx => wx = W3 ∧ v23 = .bool bad)
    case first =>
      by_cases k0 : off < 0
      · have hb : bad = true := by rw [HBAD.out]; exact decide_eq_true (.inl k0)
        subst hb
        go_wp2_with fail
        go_meet
        case rel => exact ⟨rfl, rfl⟩
      · by_cases k1 : (f.now.size : Int) < off
        · have hb : bad = true := by rw [HBAD.out]; exact decide_eq_true (.inr (.inl k1))
          subst hb
          go_wp2_with fail
          go_meet
          case rel => exact ⟨rfl, rfl⟩
        · by_cases k2 : 268435456 - off < (x.size : Int)
          · have hb : bad = true := by rw [HBAD.out]; exact decide_eq_true (.inr (.inr k2))
            subst hb
            go_wp2_with fail
            go_meet
            case rel => exact ⟨rfl, rfl⟩
          · have hb : bad = false := by rw [HBAD.out]; exact decide_eq_false (by omega)
            subst hb
            go_wp2_with fail
            go_meet
            case rel => exact ⟨rfl, rfl⟩
    obtain ⟨rfl, rfl⟩ := hcut
    cases bad with
    | true =>
      have e := HE.out
      rw [if_pos (of_decide_eq_true HBAD.out.symm)] at e
      subst e
      go_wp2_with fail
      go_ret
      exact ⟨rfl, Turns.same (HD3.out) (Moved.of_below HB3.out)⟩
    | false =>
      have hgood := of_decide_eq_false HBAD.out.symm
      have e := HE.out
      rw [if_neg hgood] at e
      have HE1 := hide e
      obtain ⟨o, rfl⟩ : ∃ o : Nat, off = (o : Int) := ⟨off.toNat, by omega⟩
      have ho : o ≤ f.now.size := by omega
      have hxs : x.size ≤ 268435456 := by omega
      have hox : o + x.size ≤ 268435456 := by omega
      clear e HE hgood HBAD
      go_upto_region 6 with (fail)
      obtain ⟨U, hU⟩ : ∃ u, wrap64 (Dk.used s.files : Int) = u := ⟨_, rfl⟩
      obtain ⟨X1, hX1⟩ : ∃ u, IntKind.i64.wrap (U - (f.now.size : Int)) = u := ⟨_, rfl⟩
      obtain ⟨X2, hX2⟩ : ∃ u, IntKind.i64.wrap (X1 + (o : Int)) = u := ⟨_, rfl⟩
      obtain ⟨X3, hX3⟩ : ∃ u, IntKind.i64.wrap (X2 + (x.size : Int)) = u := ⟨_, rfl⟩
      obtain ⟨room, hroom⟩ : ∃ u, u = s.room := ⟨_, rfl⟩
      have hfu := HFU.out
      have q1 : X1 = wrap64 ((Dk.used s.files : Int) - f.now.size) := by rw [← hX1, ← hU, IntWalk.i64_left, Int.sub_eq_add_neg, wrap64_add, ← Int.sub_eq_add_neg]
      have q2 : X2 = wrap64 ((Dk.used s.files : Int) - f.now.size + o) := by rw [← hX2, q1, IntWalk.i64_left, wrap64_add]
      have q3 : X3 = wrap64 ((Dk.used s.files : Int) - f.now.size + o + x.size) := by rw [← hX3, q2, IntWalk.i64_left, wrap64_add]
      rw [← hroom, ← q3] at hfu
      clear q1 q2 q3
      have HFU2 := hide hfu
      have HU := hide hU
      have HX1 := hide hX1
      have HX2 := hide hX2
      have HX3 := hide hX3
      have C0 := hide (show D.g < wc.heap.size ∧ wc.cell? ⟨D.g, 0, none⟩ = some (.int .i64 room) from ⟨HD3.out.glt, by rw [hroom]; exact HD3.out.c0⟩)
      have C6 := hide (show b6 < wc.heap.size ∧ wc.cell? ⟨b6, 0, none⟩ = some (.int .i64 (o : Int)) from ⟨heap_lt H6.out, e6⟩)
      have C7 := hide (show b7 < wc.heap.size ∧ wc.cell? ⟨b7, 0, none⟩ = some (.string x) from ⟨heap_lt H7.out, ex7⟩)
      have C9 := hide (show b9 < wc.heap.size ∧ wc.cell? ⟨b9, 0, none⟩ = some (.int .i64 (f.now.size : Int)) from ⟨heap_lt H9.out, e9⟩)
      clear hU hX1 hX2 hX3 hroom hfu e6 ex7 e9 e7 HFU
      go_cut [38] from 39 to 61 (fun v38 wx => Hid (v38 = .bool fu ∧ Below wc.heap.size wc wx))
      case first =>
        by_cases k0 : (f.now.size : Int) < (o : Int) + (x.size : Int)
        · have hb : fu = decide (room < X3) := by rw [HFU2.out, decide_eq_true k0]; rfl
          subst hb
          
          refine wp_region_local (by kernel_rfl) (by kernel_rfl) (useList wrbU) [22] (by kernel_rfl) (spR (wrbL D n f x o b6 b7 b9 U X1 X2 X3 room)) (fun _ _ => True) (Below wc.heap.size wc) (fun _ w w' => Below w.heap.size w w') spR_stays (fun _ _ _ _ _ h _ => h) (fun _ _ => Below.refl _ _) (dsts_lt (N := 65) (by kernel_rfl)) ((Below.refl _ _).drew) (fun _ _ => trivial) (all_ops ?_) ?_
          · refine And.intro ?_ ?_
            · refine lstep_run fun fr wf left => ?_
              have o6 := (left.old 6 (by kernel_rfl)).trans rfl
              refine ⟨wanted_none rfl, fun K hK => ?_⟩
              have hB := hide left.base
              have hc := (hB.out.cell (p := ⟨b6, 0, none⟩) C6.out.1).trans C6.out.2
              clear left
              go_simp
              exact hK _ _ rfl hB.out (Below.refl _ _)
            refine And.intro ?_ ?_
            · refine lstep_run fun fr wf left => ?_
              have o7 := (left.old 7 (by kernel_rfl)).trans rfl
              refine ⟨wanted_none rfl, fun K hK => ?_⟩
              have hB := hide left.base
              have hc := (hB.out.cell (p := ⟨b7, 0, none⟩) C7.out.1).trans C7.out.2
              clear left
              go_simp
              exact hK _ _ rfl hB.out (Below.refl _ _)
            refine And.intro ?_ ?_
            · refine lstep_run fun fr wf left => ?_
              obtain ⟨x1, e1, r1⟩ := left.slot 65 rfl 1 40 _ rfl rfl (by decide) rfl
              have s1 := Eq.symm (show x1 = .string x from r1)
              subst s1
              refine ⟨wanted_none rfl, fun K hK => ?_⟩
              have hB := hide left.base
              clear left
              go_simp
              exact hK _ _ rfl hB.out (Below.refl _ _)
            refine And.intro ?_ ?_
            · refine lstep_run fun fr wf left => ?_
              obtain ⟨x0, e0, r0⟩ := left.slot 65 rfl 0 39 _ rfl rfl (by decide) rfl
              have s0 := Eq.symm (show x0 = .int .i64 (o : Int) from r0)
              subst s0
              obtain ⟨x2, e2, r2⟩ := left.slot 65 rfl 2 41 _ rfl rfl (by decide) rfl
              have s2 := Eq.symm (show x2 = .int .i64 (x.size : Int) from r2)
              subst s2
              refine ⟨wanted_none rfl, fun K hK => ?_⟩
              have hB := hide left.base
              clear left
              go_simp
              exact hK _ _ (congrArg (Value.int .i64) (IntWalk.i64_in _ (by omega))) hB.out (Below.refl _ _)
            refine And.intro ?_ ?_
            · refine lstep_run fun fr wf left => ?_
              have o9 := (left.old 9 (by kernel_rfl)).trans rfl
              refine ⟨wanted_none rfl, fun K hK => ?_⟩
              have hB := hide left.base
              have hc := (hB.out.cell (p := ⟨b9, 0, none⟩) C9.out.1).trans C9.out.2
              clear left
              go_simp
              exact hK _ _ rfl hB.out (Below.refl _ _)
            refine And.intro ?_ ?_
            · refine lstep_run fun fr wf left => ?_
              obtain ⟨x3, e3, r3⟩ := left.slot 65 rfl 3 42 _ rfl rfl (by decide) rfl
              have s3 := Eq.symm (show x3 = .int .i64 ((o : Int) + x.size) from r3)
              subst s3
              obtain ⟨x4, e4, r4⟩ := left.slot 65 rfl 4 43 _ rfl rfl (by decide) rfl
              have s4 := Eq.symm (show x4 = .int .i64 (f.now.size : Int) from r4)
              subst s4
              refine ⟨wanted_none rfl, fun K hK => ?_⟩
              have hB := hide left.base
              clear left
              go_simp
              exact hK _ _ rfl hB.out (Below.refl _ _)
            refine And.intro ?_ ?_
            · refine lstep_run fun fr wf left => ?_
              obtain ⟨x5, e5, r5⟩ := left.slot 65 rfl 5 44 _ rfl rfl (by decide) rfl
              have s5 := Eq.symm (show x5 = .bool true from r5)
              subst s5
              refine ⟨wanted_none rfl, fun K hK => ?_⟩
              have hB := hide left.base
              clear left
              go_simp
              exact hK _ _ rfl hB.out (Below.refl _ _)
            refine And.intro ?_ ?_
            · refine lstep_run fun fr wf left => ?_
              obtain ⟨x6, e6, r6⟩ := left.slot 65 rfl 6 45 _ rfl rfl (by decide) rfl
              have s6 := Eq.symm (show x6 = .bool true from r6)
              subst s6
              have o0 := (left.old 0 (by kernel_rfl)).trans rfl
              refine ⟨wanted_yes rfl rfl e6, fun K hK => ?_⟩
              have hB := hide left.base
              clear left
              go_simp
              exact hK _ _ rfl hB.out (Below.refl _ _)
            refine And.intro ?_ ?_
            · refine lstep_run fun fr wf left => ?_
              obtain ⟨x6, e6, r6⟩ := left.slot 65 rfl 6 45 _ rfl rfl (by decide) rfl
              have s6 := Eq.symm (show x6 = .bool true from r6)
              subst s6
              obtain ⟨x7, e7, r7⟩ := left.slot 65 rfl 7 46 _ rfl rfl (by decide) rfl
              have s7 := Eq.symm (show x7 = .pointer (some ⟨D.g, 0, none⟩) from r7)
              subst s7
              refine ⟨wanted_yes rfl rfl e6, fun K hK => ?_⟩
              have hB := hide left.base
              clear left
              go_simp
              refine (diskUsed_any D s wf (HD3.out.past hB.out)).mono ?_
              rintro e w' ⟨rfl, hb⟩
              exact hK _ _ (congrArg (Value.int .i64) HU.out) (hB.out.trans (hb.mono (le_base hB.out))) hb
            refine And.intro ?_ ?_
            · refine lstep_run fun fr wf left => ?_
              obtain ⟨x6, e6, r6⟩ := left.slot 65 rfl 6 45 _ rfl rfl (by decide) rfl
              have s6 := Eq.symm (show x6 = .bool true from r6)
              subst s6
              have o9 := (left.old 9 (by kernel_rfl)).trans rfl
              refine ⟨wanted_yes rfl rfl e6, fun K hK => ?_⟩
              have hB := hide left.base
              have hc := (hB.out.cell (p := ⟨b9, 0, none⟩) C9.out.1).trans C9.out.2
              clear left
              go_simp
              exact hK _ _ rfl hB.out (Below.refl _ _)
            refine And.intro ?_ ?_
            · refine lstep_run fun fr wf left => ?_
              obtain ⟨x6, e6, r6⟩ := left.slot 65 rfl 6 45 _ rfl rfl (by decide) rfl
              have s6 := Eq.symm (show x6 = .bool true from r6)
              subst s6
              obtain ⟨x8, e8, r8⟩ := left.slot 65 rfl 8 47 _ rfl rfl (by decide) rfl
              have s8 := Eq.symm (show x8 = .int .i64 U from r8)
              subst s8
              obtain ⟨x9, e9, r9⟩ := left.slot 65 rfl 9 48 _ rfl rfl (by decide) rfl
              have s9 := Eq.symm (show x9 = .int .i64 (f.now.size : Int) from r9)
              subst s9
              refine ⟨wanted_yes rfl rfl e6, fun K hK => ?_⟩
              have hB := hide left.base
              clear left
              go_simp
              exact hK _ _ (congrArg (Value.int .i64) HX1.out) hB.out (Below.refl _ _)
            refine And.intro ?_ ?_
            · refine lstep_run fun fr wf left => ?_
              obtain ⟨x6, e6, r6⟩ := left.slot 65 rfl 6 45 _ rfl rfl (by decide) rfl
              have s6 := Eq.symm (show x6 = .bool true from r6)
              subst s6
              have o6 := (left.old 6 (by kernel_rfl)).trans rfl
              refine ⟨wanted_yes rfl rfl e6, fun K hK => ?_⟩
              have hB := hide left.base
              have hc := (hB.out.cell (p := ⟨b6, 0, none⟩) C6.out.1).trans C6.out.2
              clear left
              go_simp
              exact hK _ _ rfl hB.out (Below.refl _ _)
            refine And.intro ?_ ?_
            · refine lstep_run fun fr wf left => ?_
              obtain ⟨x6, e6, r6⟩ := left.slot 65 rfl 6 45 _ rfl rfl (by decide) rfl
              have s6 := Eq.symm (show x6 = .bool true from r6)
              subst s6
              obtain ⟨x10, e10, r10⟩ := left.slot 65 rfl 10 49 _ rfl rfl (by decide) rfl
              have s10 := Eq.symm (show x10 = .int .i64 X1 from r10)
              subst s10
              obtain ⟨x11, e11, r11⟩ := left.slot 65 rfl 11 50 _ rfl rfl (by decide) rfl
              have s11 := Eq.symm (show x11 = .int .i64 (o : Int) from r11)
              subst s11
              refine ⟨wanted_yes rfl rfl e6, fun K hK => ?_⟩
              have hB := hide left.base
              clear left
              go_simp
              exact hK _ _ (congrArg (Value.int .i64) HX2.out) hB.out (Below.refl _ _)
            refine And.intro ?_ ?_
            · refine lstep_run fun fr wf left => ?_
              obtain ⟨x6, e6, r6⟩ := left.slot 65 rfl 6 45 _ rfl rfl (by decide) rfl
              have s6 := Eq.symm (show x6 = .bool true from r6)
              subst s6
              have o7 := (left.old 7 (by kernel_rfl)).trans rfl
              refine ⟨wanted_yes rfl rfl e6, fun K hK => ?_⟩
              have hB := hide left.base
              have hc := (hB.out.cell (p := ⟨b7, 0, none⟩) C7.out.1).trans C7.out.2
              clear left
              go_simp
              exact hK _ _ rfl hB.out (Below.refl _ _)
            refine And.intro ?_ ?_
            · refine lstep_run fun fr wf left => ?_
              obtain ⟨x6, e6, r6⟩ := left.slot 65 rfl 6 45 _ rfl rfl (by decide) rfl
              have s6 := Eq.symm (show x6 = .bool true from r6)
              subst s6
              obtain ⟨x13, e13, r13⟩ := left.slot 65 rfl 13 52 _ rfl rfl (by decide) rfl
              have s13 := Eq.symm (show x13 = .string x from r13)
              subst s13
              refine ⟨wanted_yes rfl rfl e6, fun K hK => ?_⟩
              have hB := hide left.base
              clear left
              go_simp
              exact hK _ _ rfl hB.out (Below.refl _ _)
            refine And.intro ?_ ?_
            · refine lstep_run fun fr wf left => ?_
              obtain ⟨x6, e6, r6⟩ := left.slot 65 rfl 6 45 _ rfl rfl (by decide) rfl
              have s6 := Eq.symm (show x6 = .bool true from r6)
              subst s6
              obtain ⟨x12, e12, r12⟩ := left.slot 65 rfl 12 51 _ rfl rfl (by decide) rfl
              have s12 := Eq.symm (show x12 = .int .i64 X2 from r12)
              subst s12
              obtain ⟨x14, e14, r14⟩ := left.slot 65 rfl 14 53 _ rfl rfl (by decide) rfl
              have s14 := Eq.symm (show x14 = .int .i64 (x.size : Int) from r14)
              subst s14
              refine ⟨wanted_yes rfl rfl e6, fun K hK => ?_⟩
              have hB := hide left.base
              clear left
              go_simp
              exact hK _ _ (congrArg (Value.int .i64) HX3.out) hB.out (Below.refl _ _)
            refine And.intro ?_ ?_
            · refine lstep_run fun fr wf left => ?_
              obtain ⟨x6, e6, r6⟩ := left.slot 65 rfl 6 45 _ rfl rfl (by decide) rfl
              have s6 := Eq.symm (show x6 = .bool true from r6)
              subst s6
              have o0 := (left.old 0 (by kernel_rfl)).trans rfl
              refine ⟨wanted_yes rfl rfl e6, fun K hK => ?_⟩
              have hB := hide left.base
              clear left
              go_simp
              exact hK _ _ rfl hB.out (Below.refl _ _)
            refine And.intro ?_ ?_
            · refine lstep_run fun fr wf left => ?_
              obtain ⟨x6, e6, r6⟩ := left.slot 65 rfl 6 45 _ rfl rfl (by decide) rfl
              have s6 := Eq.symm (show x6 = .bool true from r6)
              subst s6
              obtain ⟨x16, e16, r16⟩ := left.slot 65 rfl 16 55 _ rfl rfl (by decide) rfl
              have s16 := Eq.symm (show x16 = .pointer (some ⟨D.g, 0, none⟩) from r16)
              subst s16
              refine ⟨wanted_yes rfl rfl e6, fun K hK => ?_⟩
              have hB := hide left.base
              clear left
              go_simp
              exact hK _ _ rfl hB.out (Below.refl _ _)
            refine And.intro ?_ ?_
            · refine lstep_run fun fr wf left => ?_
              obtain ⟨x6, e6, r6⟩ := left.slot 65 rfl 6 45 _ rfl rfl (by decide) rfl
              have s6 := Eq.symm (show x6 = .bool true from r6)
              subst s6
              obtain ⟨x17, e17, r17⟩ := left.slot 65 rfl 17 56 _ rfl rfl (by decide) rfl
              have s17 := Eq.symm (show x17 = .pointer (some ⟨D.g, 0, none⟩) from r17)
              subst s17
              refine ⟨wanted_yes rfl rfl e6, fun K hK => ?_⟩
              have hB := hide left.base
              clear left
              go_simp
              exact hK _ _ rfl hB.out (Below.refl _ _)
            refine And.intro ?_ ?_
            · refine lstep_run fun fr wf left => ?_
              obtain ⟨x6, e6, r6⟩ := left.slot 65 rfl 6 45 _ rfl rfl (by decide) rfl
              have s6 := Eq.symm (show x6 = .bool true from r6)
              subst s6
              obtain ⟨x18, e18, r18⟩ := left.slot 65 rfl 18 57 _ rfl rfl (by decide) rfl
              have s18 := Eq.symm (show x18 = .pointer (some ⟨D.g, 0, none⟩) from r18)
              subst s18
              refine ⟨wanted_yes rfl rfl e6, fun K hK => ?_⟩
              have hB := hide left.base
              have hc := (hB.out.cell (p := ⟨D.g, 0, none⟩) C0.out.1).trans C0.out.2
              clear left
              go_simp
              exact hK _ _ rfl hB.out (Below.refl _ _)
            refine And.intro ?_ ?_
            · refine lstep_run fun fr wf left => ?_
              obtain ⟨x6, e6, r6⟩ := left.slot 65 rfl 6 45 _ rfl rfl (by decide) rfl
              have s6 := Eq.symm (show x6 = .bool true from r6)
              subst s6
              obtain ⟨x15, e15, r15⟩ := left.slot 65 rfl 15 54 _ rfl rfl (by decide) rfl
              have s15 := Eq.symm (show x15 = .int .i64 X3 from r15)
              subst s15
              obtain ⟨x19, e19, r19⟩ := left.slot 65 rfl 19 58 _ rfl rfl (by decide) rfl
              have s19 := Eq.symm (show x19 = .int .i64 room from r19)
              subst s19
              refine ⟨wanted_yes rfl rfl e6, fun K hK => ?_⟩
              have hB := hide left.base
              clear left
              go_simp
              exact hK _ _ rfl hB.out (Below.refl _ _)
            refine And.intro ?_ ?_
            · refine lstep_run fun fr wf left => ?_
              obtain ⟨x6, e6, r6⟩ := left.slot 65 rfl 6 45 _ rfl rfl (by decide) rfl
              have s6 := Eq.symm (show x6 = .bool true from r6)
              subst s6
              obtain ⟨x20, e20, r20⟩ := left.slot 65 rfl 20 59 _ rfl rfl (by decide) rfl
              have s20 := Eq.symm (show x20 = .bool (decide (room < X3)) from r20)
              subst s20
              refine ⟨wanted_none rfl, fun K hK => ?_⟩
              have hB := hide left.base
              clear left
              go_simp
              exact hK _ _ rfl hB.out (Below.refl _ _)
            refine And.intro ?_ ?_
            · refine lstep_run fun fr wf left => ?_
              obtain ⟨x21, e21, r21⟩ := left.slot 65 rfl 21 60 _ rfl rfl (by decide) rfl
              have s21 := Eq.symm (show x21 = .bool (decide (room < X3)) from r21)
              subst s21
              refine ⟨wanted_none rfl, fun K hK => ?_⟩
              have hB := hide left.base
              clear left
              go_simp
              exact hK _ _ rfl hB.out (Below.refl _ _)
            exact trivial
          · intro fr wf hB hs hd hall hkeep
            have h38 : fr.tmps.getD 38 undef = .bool (decide (room < X3)) := hall 22 _ rfl (by simp)
            have hfr := act_ext (frame_set hs hkeep [39, 40, 41, 42, 43, 44, 45, 46, 47, 48, 49, 50, 51, 52, 53, 54, 55, 56, 57, 58, 59, 60, 38] (by kernel_rfl)) hd
            obtain ⟨q39, hq39⟩ : ∃ q, q = fr.tmps.getD 39 undef := ⟨_, rfl⟩
            obtain ⟨q40, hq40⟩ : ∃ q, q = fr.tmps.getD 40 undef := ⟨_, rfl⟩
            obtain ⟨q41, hq41⟩ : ∃ q, q = fr.tmps.getD 41 undef := ⟨_, rfl⟩
            obtain ⟨q42, hq42⟩ : ∃ q, q = fr.tmps.getD 42 undef := ⟨_, rfl⟩
            obtain ⟨q43, hq43⟩ : ∃ q, q = fr.tmps.getD 43 undef := ⟨_, rfl⟩
            obtain ⟨q44, hq44⟩ : ∃ q, q = fr.tmps.getD 44 undef := ⟨_, rfl⟩
            obtain ⟨q45, hq45⟩ : ∃ q, q = fr.tmps.getD 45 undef := ⟨_, rfl⟩
            obtain ⟨q46, hq46⟩ : ∃ q, q = fr.tmps.getD 46 undef := ⟨_, rfl⟩
            obtain ⟨q47, hq47⟩ : ∃ q, q = fr.tmps.getD 47 undef := ⟨_, rfl⟩
            obtain ⟨q48, hq48⟩ : ∃ q, q = fr.tmps.getD 48 undef := ⟨_, rfl⟩
            obtain ⟨q49, hq49⟩ : ∃ q, q = fr.tmps.getD 49 undef := ⟨_, rfl⟩
            obtain ⟨q50, hq50⟩ : ∃ q, q = fr.tmps.getD 50 undef := ⟨_, rfl⟩
            obtain ⟨q51, hq51⟩ : ∃ q, q = fr.tmps.getD 51 undef := ⟨_, rfl⟩
            obtain ⟨q52, hq52⟩ : ∃ q, q = fr.tmps.getD 52 undef := ⟨_, rfl⟩
            obtain ⟨q53, hq53⟩ : ∃ q, q = fr.tmps.getD 53 undef := ⟨_, rfl⟩
            obtain ⟨q54, hq54⟩ : ∃ q, q = fr.tmps.getD 54 undef := ⟨_, rfl⟩
            obtain ⟨q55, hq55⟩ : ∃ q, q = fr.tmps.getD 55 undef := ⟨_, rfl⟩
            obtain ⟨q56, hq56⟩ : ∃ q, q = fr.tmps.getD 56 undef := ⟨_, rfl⟩
            obtain ⟨q57, hq57⟩ : ∃ q, q = fr.tmps.getD 57 undef := ⟨_, rfl⟩
            obtain ⟨q58, hq58⟩ : ∃ q, q = fr.tmps.getD 58 undef := ⟨_, rfl⟩
            obtain ⟨q59, hq59⟩ : ∃ q, q = fr.tmps.getD 59 undef := ⟨_, rfl⟩
            obtain ⟨q60, hq60⟩ : ∃ q, q = fr.tmps.getD 60 undef := ⟨_, rfl⟩
            obtain ⟨q38, hq38⟩ : ∃ q, q = fr.tmps.getD 38 undef := ⟨_, rfl⟩
            rw [← hq38] at h38
            simp only [List.foldl, ← hq39, ← hq40, ← hq41, ← hq42, ← hq43, ← hq44, ← hq45, ← hq46, ← hq47, ← hq48, ← hq49, ← hq50, ← hq51, ← hq52, ← hq53, ← hq54, ← hq55, ← hq56, ← hq57, ← hq58, ← hq59, ← hq60, ← hq38] at hfr
            simp only [List.setIfInBounds_toArray, List.set_cons_zero, List.set_cons_succ] at hfr
            clear hall hkeep hs hd hq39 hq40 hq41 hq42 hq43 hq44 hq45 hq46 hq47 hq48 hq49 hq50 hq51 hq52 hq53 hq54 hq55 hq56 hq57 hq58 hq59 hq60 hq38
            subst hfr
            subst h38
            have HBF := hide hB
            clear hB
            go_wp2_with fail
            go_meet
            case rel => exact ⟨rfl, HBF.out⟩
        · have hb : fu = false := by rw [HFU2.out, decide_eq_false k0]; rfl
          subst hb
          
          refine wp_region_local (by kernel_rfl) (by kernel_rfl) (useList wraU) [22] (by kernel_rfl) (spR (wraL D n f x o b6 b7 b9 U X1 X2 X3 room)) (fun _ _ => True) (Below wc.heap.size wc) (fun _ w w' => Below w.heap.size w w') spR_stays (fun _ _ _ _ _ h _ => h) (fun _ _ => Below.refl _ _) (dsts_lt (N := 65) (by kernel_rfl)) ((Below.refl _ _).drew) (fun _ _ => trivial) (all_ops ?_) ?_
          · refine And.intro ?_ ?_
            · refine lstep_run fun fr wf left => ?_
              have o6 := (left.old 6 (by kernel_rfl)).trans rfl
              refine ⟨wanted_none rfl, fun K hK => ?_⟩
              have hB := hide left.base
              have hc := (hB.out.cell (p := ⟨b6, 0, none⟩) C6.out.1).trans C6.out.2
              clear left
              go_simp
              exact hK _ _ rfl hB.out (Below.refl _ _)
            refine And.intro ?_ ?_
            · refine lstep_run fun fr wf left => ?_
              have o7 := (left.old 7 (by kernel_rfl)).trans rfl
              refine ⟨wanted_none rfl, fun K hK => ?_⟩
              have hB := hide left.base
              have hc := (hB.out.cell (p := ⟨b7, 0, none⟩) C7.out.1).trans C7.out.2
              clear left
              go_simp
              exact hK _ _ rfl hB.out (Below.refl _ _)
            refine And.intro ?_ ?_
            · refine lstep_run fun fr wf left => ?_
              obtain ⟨x1, e1, r1⟩ := left.slot 65 rfl 1 40 _ rfl rfl (by decide) rfl
              have s1 := Eq.symm (show x1 = .string x from r1)
              subst s1
              refine ⟨wanted_none rfl, fun K hK => ?_⟩
              have hB := hide left.base
              clear left
              go_simp
              exact hK _ _ rfl hB.out (Below.refl _ _)
            refine And.intro ?_ ?_
            · refine lstep_run fun fr wf left => ?_
              obtain ⟨x0, e0, r0⟩ := left.slot 65 rfl 0 39 _ rfl rfl (by decide) rfl
              have s0 := Eq.symm (show x0 = .int .i64 (o : Int) from r0)
              subst s0
              obtain ⟨x2, e2, r2⟩ := left.slot 65 rfl 2 41 _ rfl rfl (by decide) rfl
              have s2 := Eq.symm (show x2 = .int .i64 (x.size : Int) from r2)
              subst s2
              refine ⟨wanted_none rfl, fun K hK => ?_⟩
              have hB := hide left.base
              clear left
              go_simp
              exact hK _ _ (congrArg (Value.int .i64) (IntWalk.i64_in _ (by omega))) hB.out (Below.refl _ _)
            refine And.intro ?_ ?_
            · refine lstep_run fun fr wf left => ?_
              have o9 := (left.old 9 (by kernel_rfl)).trans rfl
              refine ⟨wanted_none rfl, fun K hK => ?_⟩
              have hB := hide left.base
              have hc := (hB.out.cell (p := ⟨b9, 0, none⟩) C9.out.1).trans C9.out.2
              clear left
              go_simp
              exact hK _ _ rfl hB.out (Below.refl _ _)
            refine And.intro ?_ ?_
            · refine lstep_run fun fr wf left => ?_
              obtain ⟨x3, e3, r3⟩ := left.slot 65 rfl 3 42 _ rfl rfl (by decide) rfl
              have s3 := Eq.symm (show x3 = .int .i64 ((o : Int) + x.size) from r3)
              subst s3
              obtain ⟨x4, e4, r4⟩ := left.slot 65 rfl 4 43 _ rfl rfl (by decide) rfl
              have s4 := Eq.symm (show x4 = .int .i64 (f.now.size : Int) from r4)
              subst s4
              refine ⟨wanted_none rfl, fun K hK => ?_⟩
              have hB := hide left.base
              clear left
              go_simp
              exact hK _ _ rfl hB.out (Below.refl _ _)
            refine And.intro ?_ ?_
            · refine lstep_run fun fr wf left => ?_
              obtain ⟨x5, e5, r5⟩ := left.slot 65 rfl 5 44 _ rfl rfl (by decide) rfl
              have s5 := Eq.symm (show x5 = .bool false from r5)
              subst s5
              refine ⟨wanted_none rfl, fun K hK => ?_⟩
              have hB := hide left.base
              clear left
              go_simp
              exact hK _ _ rfl hB.out (Below.refl _ _)
            refine And.intro ?_ ?_
            · refine lstep_skip fun fr wf left => ?_
              obtain ⟨x6, e6, r6⟩ := left.slot 65 rfl 6 45 _ rfl rfl (by decide) rfl
              have s6 := Eq.symm (show x6 = .bool false from r6)
              subst s6
              exact ⟨wanted_no rfl rfl e6 (by decide), rfl⟩
            refine And.intro ?_ ?_
            · refine lstep_skip fun fr wf left => ?_
              obtain ⟨x6, e6, r6⟩ := left.slot 65 rfl 6 45 _ rfl rfl (by decide) rfl
              have s6 := Eq.symm (show x6 = .bool false from r6)
              subst s6
              exact ⟨wanted_no rfl rfl e6 (by decide), rfl⟩
            refine And.intro ?_ ?_
            · refine lstep_skip fun fr wf left => ?_
              obtain ⟨x6, e6, r6⟩ := left.slot 65 rfl 6 45 _ rfl rfl (by decide) rfl
              have s6 := Eq.symm (show x6 = .bool false from r6)
              subst s6
              exact ⟨wanted_no rfl rfl e6 (by decide), rfl⟩
            refine And.intro ?_ ?_
            · refine lstep_skip fun fr wf left => ?_
              obtain ⟨x6, e6, r6⟩ := left.slot 65 rfl 6 45 _ rfl rfl (by decide) rfl
              have s6 := Eq.symm (show x6 = .bool false from r6)
              subst s6
              exact ⟨wanted_no rfl rfl e6 (by decide), rfl⟩
            refine And.intro ?_ ?_
            · refine lstep_skip fun fr wf left => ?_
              obtain ⟨x6, e6, r6⟩ := left.slot 65 rfl 6 45 _ rfl rfl (by decide) rfl
              have s6 := Eq.symm (show x6 = .bool false from r6)
              subst s6
              exact ⟨wanted_no rfl rfl e6 (by decide), rfl⟩
            refine And.intro ?_ ?_
            · refine lstep_skip fun fr wf left => ?_
              obtain ⟨x6, e6, r6⟩ := left.slot 65 rfl 6 45 _ rfl rfl (by decide) rfl
              have s6 := Eq.symm (show x6 = .bool false from r6)
              subst s6
              exact ⟨wanted_no rfl rfl e6 (by decide), rfl⟩
            refine And.intro ?_ ?_
            · refine lstep_skip fun fr wf left => ?_
              obtain ⟨x6, e6, r6⟩ := left.slot 65 rfl 6 45 _ rfl rfl (by decide) rfl
              have s6 := Eq.symm (show x6 = .bool false from r6)
              subst s6
              exact ⟨wanted_no rfl rfl e6 (by decide), rfl⟩
            refine And.intro ?_ ?_
            · refine lstep_skip fun fr wf left => ?_
              obtain ⟨x6, e6, r6⟩ := left.slot 65 rfl 6 45 _ rfl rfl (by decide) rfl
              have s6 := Eq.symm (show x6 = .bool false from r6)
              subst s6
              exact ⟨wanted_no rfl rfl e6 (by decide), rfl⟩
            refine And.intro ?_ ?_
            · refine lstep_skip fun fr wf left => ?_
              obtain ⟨x6, e6, r6⟩ := left.slot 65 rfl 6 45 _ rfl rfl (by decide) rfl
              have s6 := Eq.symm (show x6 = .bool false from r6)
              subst s6
              exact ⟨wanted_no rfl rfl e6 (by decide), rfl⟩
            refine And.intro ?_ ?_
            · refine lstep_skip fun fr wf left => ?_
              obtain ⟨x6, e6, r6⟩ := left.slot 65 rfl 6 45 _ rfl rfl (by decide) rfl
              have s6 := Eq.symm (show x6 = .bool false from r6)
              subst s6
              exact ⟨wanted_no rfl rfl e6 (by decide), rfl⟩
            refine And.intro ?_ ?_
            · refine lstep_skip fun fr wf left => ?_
              obtain ⟨x6, e6, r6⟩ := left.slot 65 rfl 6 45 _ rfl rfl (by decide) rfl
              have s6 := Eq.symm (show x6 = .bool false from r6)
              subst s6
              exact ⟨wanted_no rfl rfl e6 (by decide), rfl⟩
            refine And.intro ?_ ?_
            · refine lstep_skip fun fr wf left => ?_
              obtain ⟨x6, e6, r6⟩ := left.slot 65 rfl 6 45 _ rfl rfl (by decide) rfl
              have s6 := Eq.symm (show x6 = .bool false from r6)
              subst s6
              exact ⟨wanted_no rfl rfl e6 (by decide), rfl⟩
            refine And.intro ?_ ?_
            · refine lstep_skip fun fr wf left => ?_
              obtain ⟨x6, e6, r6⟩ := left.slot 65 rfl 6 45 _ rfl rfl (by decide) rfl
              have s6 := Eq.symm (show x6 = .bool false from r6)
              subst s6
              exact ⟨wanted_no rfl rfl e6 (by decide), rfl⟩
            refine And.intro ?_ ?_
            · refine lstep_skip fun fr wf left => ?_
              obtain ⟨x6, e6, r6⟩ := left.slot 65 rfl 6 45 _ rfl rfl (by decide) rfl
              have s6 := Eq.symm (show x6 = .bool false from r6)
              subst s6
              exact ⟨wanted_no rfl rfl e6 (by decide), rfl⟩
            refine And.intro ?_ ?_
            · refine lstep_run fun fr wf left => ?_
              obtain ⟨x6, e6, r6⟩ := left.slot 65 rfl 6 45 _ rfl rfl (by decide) rfl
              have s6 := Eq.symm (show x6 = .bool false from r6)
              subst s6
              obtain ⟨x20, e20, r20⟩ := left.slot 65 rfl 20 59 _ rfl rfl (by decide) rfl
              have s20 := Eq.symm (show x20 = undef from r20)
              subst s20
              refine ⟨wanted_none rfl, fun K hK => ?_⟩
              have hB := hide left.base
              clear left
              go_simp
              exact hK _ _ rfl hB.out (Below.refl _ _)
            refine And.intro ?_ ?_
            · refine lstep_run fun fr wf left => ?_
              obtain ⟨x21, e21, r21⟩ := left.slot 65 rfl 21 60 _ rfl rfl (by decide) rfl
              have s21 := Eq.symm (show x21 = .bool false from r21)
              subst s21
              refine ⟨wanted_none rfl, fun K hK => ?_⟩
              have hB := hide left.base
              clear left
              go_simp
              exact hK _ _ rfl hB.out (Below.refl _ _)
            exact trivial
          · intro fr wf hB hs hd hall hkeep
            have h38 : fr.tmps.getD 38 undef = .bool false := hall 22 _ rfl (by simp)
            have hfr := act_ext (frame_set hs hkeep [39, 40, 41, 42, 43, 44, 45, 46, 47, 48, 49, 50, 51, 52, 53, 54, 55, 56, 57, 58, 59, 60, 38] (by kernel_rfl)) hd
            obtain ⟨q39, hq39⟩ : ∃ q, q = fr.tmps.getD 39 undef := ⟨_, rfl⟩
            obtain ⟨q40, hq40⟩ : ∃ q, q = fr.tmps.getD 40 undef := ⟨_, rfl⟩
            obtain ⟨q41, hq41⟩ : ∃ q, q = fr.tmps.getD 41 undef := ⟨_, rfl⟩
            obtain ⟨q42, hq42⟩ : ∃ q, q = fr.tmps.getD 42 undef := ⟨_, rfl⟩
            obtain ⟨q43, hq43⟩ : ∃ q, q = fr.tmps.getD 43 undef := ⟨_, rfl⟩
            obtain ⟨q44, hq44⟩ : ∃ q, q = fr.tmps.getD 44 undef := ⟨_, rfl⟩
            obtain ⟨q45, hq45⟩ : ∃ q, q = fr.tmps.getD 45 undef := ⟨_, rfl⟩
            obtain ⟨q46, hq46⟩ : ∃ q, q = fr.tmps.getD 46 undef := ⟨_, rfl⟩
            obtain ⟨q47, hq47⟩ : ∃ q, q = fr.tmps.getD 47 undef := ⟨_, rfl⟩
            obtain ⟨q48, hq48⟩ : ∃ q, q = fr.tmps.getD 48 undef := ⟨_, rfl⟩
            obtain ⟨q49, hq49⟩ : ∃ q, q = fr.tmps.getD 49 undef := ⟨_, rfl⟩
            obtain ⟨q50, hq50⟩ : ∃ q, q = fr.tmps.getD 50 undef := ⟨_, rfl⟩
            obtain ⟨q51, hq51⟩ : ∃ q, q = fr.tmps.getD 51 undef := ⟨_, rfl⟩
            obtain ⟨q52, hq52⟩ : ∃ q, q = fr.tmps.getD 52 undef := ⟨_, rfl⟩
            obtain ⟨q53, hq53⟩ : ∃ q, q = fr.tmps.getD 53 undef := ⟨_, rfl⟩
            obtain ⟨q54, hq54⟩ : ∃ q, q = fr.tmps.getD 54 undef := ⟨_, rfl⟩
            obtain ⟨q55, hq55⟩ : ∃ q, q = fr.tmps.getD 55 undef := ⟨_, rfl⟩
            obtain ⟨q56, hq56⟩ : ∃ q, q = fr.tmps.getD 56 undef := ⟨_, rfl⟩
            obtain ⟨q57, hq57⟩ : ∃ q, q = fr.tmps.getD 57 undef := ⟨_, rfl⟩
            obtain ⟨q58, hq58⟩ : ∃ q, q = fr.tmps.getD 58 undef := ⟨_, rfl⟩
            obtain ⟨q59, hq59⟩ : ∃ q, q = fr.tmps.getD 59 undef := ⟨_, rfl⟩
            obtain ⟨q60, hq60⟩ : ∃ q, q = fr.tmps.getD 60 undef := ⟨_, rfl⟩
            obtain ⟨q38, hq38⟩ : ∃ q, q = fr.tmps.getD 38 undef := ⟨_, rfl⟩
            rw [← hq38] at h38
            simp only [List.foldl, ← hq39, ← hq40, ← hq41, ← hq42, ← hq43, ← hq44, ← hq45, ← hq46, ← hq47, ← hq48, ← hq49, ← hq50, ← hq51, ← hq52, ← hq53, ← hq54, ← hq55, ← hq56, ← hq57, ← hq58, ← hq59, ← hq60, ← hq38] at hfr
            simp only [List.setIfInBounds_toArray, List.set_cons_zero, List.set_cons_succ] at hfr
            clear hall hkeep hs hd hq39 hq40 hq41 hq42 hq43 hq44 hq45 hq46 hq47 hq48 hq49 hq50 hq51 hq52 hq53 hq54 hq55 hq56 hq57 hq58 hq59 hq60 hq38
            subst hfr
            subst h38
            have HBF := hide hB
            clear hB
            go_wp2_with fail
            go_meet
            case rel => exact ⟨rfl, HBF.out⟩
      obtain ⟨rfl, hb⟩ := hcut.out
      have HB5 := hide hb
      clear hb hcut
      cases fu with
      | true =>
        have e := HE1.out
        rw [if_pos rfl] at e
        subst e
        go_wp2_with fail
        go_ret
        exact ⟨rfl, Turns.same (HD3.out.past HB5.out) (Moved.of_below (HB3.out.trans (HB5.out.mono HB3.out.size)))⟩
      | false =>
        have e := HE1.out
        rw [if_neg (by decide), Int.toNat_natCast] at e
        have HE2 := hide e
        clear e HE1
        have HBU := hide (HB3.out.trans (HB5.out.mono HB3.out.size))
        have HD5 := hide (HD3.out.past HB5.out)
        have K6 := hide ((HB5.out.block _ (heap_lt H6.out)).trans H6.out)
        have K7 := hide ((HB5.out.block _ (heap_lt H7.out)).trans H7.out)
        have K9 := hide ((HB5.out.block _ (heap_lt H9.out)).trans H9.out)
        go_wp2_with fail
        refine (diskAct_any D s n 55 #[.pointer (some ⟨b6, 0, none⟩), .pointer (some ⟨b7, 0, none⟩), .pointer (some ⟨b9, 0, none⟩)] ⟨Dk.over f.now o x, f.was⟩ _ HD5.out hn hacts hmany hkl ⟨Dk.over_size ho (by omega) hsz, by rw [HF.out]; exact (Dk.get_sizes HD.out.ok n).2⟩ enters_write (fun w1 hm => by
          rw [← HF.out]
          have nb : ∀ b, w.heap.size ≤ b → ¬ (b = D.g ∨ b = D.mb) := fun b hb hS => by have := HBB.out.1; have := HBB.out.2.1; omega
          exact writeFn_any f o b6 b7 b9 x w1 ho hsz hxs ((hm.block b6 (heap_lt K6.out) (nb _ HBB.out.2.2.1)).trans K6.out) ((hm.block b7 (heap_lt K7.out) (nb _ HBB.out.2.2.2.1)).trans K7.out) ((hm.block b9 (heap_lt K9.out) (nb _ HBB.out.2.2.2.2)).trans K9.out))).mono ?_
        rintro e w1 ⟨rfl, ht⟩
        have H1 := hide ht
        clear ht
        go_wp2_with fail
        go_ret
        rw [HE2.out]
        exact ⟨rfl, H1.out.ahead HBU.out⟩
end Go.Proofs.YtbfbajfdlkgloaaGreatDoor
