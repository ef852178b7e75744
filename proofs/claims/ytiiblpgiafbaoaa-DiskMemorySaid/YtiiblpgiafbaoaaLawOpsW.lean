/-
  massiflaw17.act: one call at a disk in whatever state; at a disk without power.
-/
import Derived.Test.YtiiblpgiafbaoaaDiskActsW
import Derived.Test.YtiiblpgiafbaoaaFatesPure
namespace Go.Proofs.Ytiiblpgiafbaoaa
open Go Go.RowKit Go.Maps
def TurnAt (D : Dk.Blk) (s : Dk.St) (B : Nat) (u : World) (s' : Dk.St) : Prop :=
  ∃ D' : Dk.Blk, D'.g = D.g ∧ D'.kv = D.kv ∧ (D'.mb = D.mb ∨ B ≤ D'.mb) ∧ (¬ (Dk.kindNow s = 4 ∨ Dk.kindNow s = 5) → D' = D) ∧ DiskAt u D' s'
theorem TurnAt.past {D : Dk.Blk} {s s' : Dk.St} {B : Nat} {u u' : World} (h : TurnAt D s B u s') (hb : Below u.heap.size u u') : TurnAt D s B u' s' := by
  obtain ⟨D', h1, h2, h3, h4, h5⟩ := h
  exact ⟨D', h1, h2, h3, h4, h5.past hb⟩
theorem Turns.at {D : Dk.Blk} {s s' : Dk.St} {w w' : World} {B : Nat} (h : Turns D s w w' s') (hB : B ≤ w.heap.size) : TurnAt D s B w' s' := by
  obtain ⟨D', h1, h2, h3, h4, h5, _⟩ := h
  exact ⟨D', h1, h2, h3.imp id (Nat.le_trans hB), h4, h5⟩
theorem Turns.moved {D : Dk.Blk} {s s' : Dk.St} {w w' : World} (h : Turns D s w w' s') : Moved (Dk.own D) w w' := by
  obtain ⟨D', h1, h2, h3, h4, h5, h6⟩ := h
  exact h6
theorem TurnAt.turns {D : Dk.Blk} {s s' : Dk.St} {w w' : World} (h : TurnAt D s w.heap.size w' s') (hm : Moved (Dk.own D) w w') : Turns D s w w' s' := by
  obtain ⟨D', h1, h2, h3, h4, h5⟩ := h
  exact ⟨D', h1, h2, h3, h4, h5, hm⟩
theorem writeA_val (D : Dk.Blk) (s s' : Dk.St) (n : ByteArray) (off : Int) (x : ByteArray) (r : Int) (w : World) (h : DiskAt w D s) (hn : n.size ≤ 140737488351232) (hx : x.size ≤ 140737488351232) (hk : (Lit.int .i64 off).wf = true) (hacts : s.acts < 4611686018427387904) (hmany : s.files.length < 1099511627776) (hkl : s.keep.length ≤ 140737488351232) (hr : Dk.writeA s n off x = (r, s')) :
    Calls Try.prog 14 #[.pointer (some ⟨D.g, 0, none⟩), .string n, .int .i64 off, .string x] w fun e w' => e = .returned (.int .i64 r) ∧ Turns D s w w' s' := by
  have h := diskWrite_any D s n off x w h hn hx hk hacts hmany hkl
  rw [hr] at h; exact h
theorem cutA_val (D : Dk.Blk) (s s' : Dk.St) (n : ByteArray) (k : Int) (r : Int) (w : World) (h : DiskAt w D s) (hn : n.size ≤ 140737488351232) (hk : (Lit.int .i64 k).wf = true) (hacts : s.acts < 4611686018427387904) (hmany : s.files.length < 1099511627776) (hkl : s.keep.length ≤ 140737488351232) (hr : Dk.cutA s n k = (r, s')) :
    Calls Try.prog 15 #[.pointer (some ⟨D.g, 0, none⟩), .string n, .int .i64 k] w fun e w' => e = .returned (.int .i64 r) ∧ Turns D s w w' s' := by
  have h := diskCut_any D s n k w h hn hk hacts hmany hkl
  rw [hr] at h; exact h
theorem syncA_val (D : Dk.Blk) (s s' : Dk.St) (n : ByteArray) (r : Int) (w : World) (h : DiskAt w D s) (hn : n.size ≤ 140737488351232) (hacts : s.acts < 4611686018427387904) (hmany : s.files.length < 1099511627776) (hkl : s.keep.length ≤ 140737488351232) (hr : Dk.syncA s n = (r, s')) :
    Calls Try.prog 16 #[.pointer (some ⟨D.g, 0, none⟩), .string n] w fun e w' => e = .returned (.int .i64 r) ∧ Turns D s w w' s' := by
  have h := diskSync_any D s n w h hn hacts hmany hkl
  rw [hr] at h; exact h
def opacwL (D : Dk.Blk) (s s' : Dk.St) (B : Nat) (name data : ByteArray) (at_ r : Int) (b3 : Nat) : List Sp :=
  [.is (.pointer (some ⟨D.g, 0, none⟩)), .is (.pointer (some ⟨b3, 2, none⟩)), .is (.string name), .is (.pointer (some ⟨b3, 4, none⟩)), .is (.int .i64 at_), .is (.pointer (some ⟨b3, 3, none⟩)), .is (.string data), .is (.string (Dk.short data 300)), .both (.int .i64 r) (fun u => TurnAt D s B u s') (fun _ _ h hb => h.past hb), .is (.int .i64 r)]
def opacwU : List (List Nat) := [[], [], [1], [], [3], [], [5], [6], [0, 2, 4, 7], [8]]
set_option maxHeartbeats 1600000 in
set_option maxRecDepth 100000 in
theorem actA_any (D : Dk.Blk) (s : Dk.St) (o : Dk.OpV) (kv : Value) (r : Int) (s' : Dk.St) (w : World) (h : DiskAt w D s) (ho : Dk.OpOk o) (hacts : s.acts < 4611686018427387904) (hmany : s.files.length < 1099511627776) (hkl : s.keep.length ≤ 140737488351232) (hr : Dk.opA s o = (r, s')) :
    Calls Try.prog 24 #[.pointer (some ⟨D.g, 0, none⟩), .agg (Dk.opCells o kv).toArray] w fun e w' => e = .returned (.int .i64 r) ∧ Turns D s w w' s' := by
  obtain ⟨kind, which, name, data, at_, n, keep⟩ := o
  have HOK := hide ho
  have HR := hide hr
  have HD0 := hide h
  obtain ⟨W1, hW1⟩ : ∃ V, V = w.alloc (.cells #[.int .i64 kind, .int .i64 which, .string name, .string data, .int .i64 at_, .int .i64 n, kv] 30) := ⟨_, rfl⟩
  have hb1 : Below w.heap.size w W1 := by rw [hW1]; exact (Below.refl _ _).alloc (Nat.le_refl _) _
  have HB1 := hide hb1
  have HD := hide (h.past hb1)
  have HG := hide (show D.g < w.heap.size ∧ D.mb < w.heap.size from ⟨h.glt, h.map.lt⟩)
  have H3 := hide (show W1.heap[w.heap.size]? = some (.cells #[.int .i64 kind, .int .i64 which, .string name, .string data, .int .i64 at_, .int .i64 n, kv] 30 (0, 0)) by rw [hW1]; exact alloc_at _ _)
  have c0 : W1.cell? ⟨w.heap.size, 0, none⟩ = some (.int .i64 kind) := (cell_blk H3.out 0).trans rfl
  have c2 : W1.cell? ⟨w.heap.size, 2, none⟩ = some (.string name) := (cell_blk H3.out 2).trans rfl
  have c4 : W1.cell? ⟨w.heap.size, 4, none⟩ = some (.int .i64 at_) := (cell_blk H3.out 4).trans rfl
  have hdata := ho.data
  dsimp only at hdata
  clear h ho hr hb1
  unfold Dk.opCells
  go_enter Try.func24, Try.ntmps24
  go_upto_region 1 with (fail)
  rw [← hW1]
  clear hW1
  by_cases k1 : kind = 1
  · subst k1
    have hr := HR.out
    unfold Dk.opA at hr
    rw [if_pos rfl] at hr
    have HW := hide hr
    clear hr HR
    obtain ⟨b3, hb3⟩ : ∃ b, b = w.heap.size := ⟨_, rfl⟩
    rw [← hb3] at c0 c2 c4 H3
    rw [← hb3]
    have HB3 := hide (show b3 < W1.heap.size ∧ ¬ (b3 = D.g ∨ b3 = D.mb) from ⟨heap_lt H3.out, by have := HG.out.1; have := HG.out.2; omega⟩)
    have C2 := hide c2
    have C4 := hide c4
    have C3 := hide (show W1.cell? ⟨b3, 3, none⟩ = some (.string data) from (cell_blk H3.out 3).trans rfl)
    clear hb3
    go_upto_region 3 with (fail)
    
    refine wp_region_local (by kernel_rfl) (by kernel_rfl) (useList opacwU) [8, 9] (by kernel_rfl) (spR (opacwL D s s' w.heap.size name data at_ r b3)) (onePre 8 (fun u => DiskAt u D s)) (Moved (Dk.own D) W1) (oneE 8 (fun _ _ => True)) (one_stays (by simp [opacwL]) (by kernel_rfl)) (one_pre (fun _ _ h hb => h.past hb)) (one_refl (fun _ => trivial)) (dsts_lt (N := 30) (by kernel_rfl)) ((Moved.refl _ _).drew) (fun _ _ => one_start (HD.out.past ((Below.refl _ _).drew))) (all_ops ?_) ?_
    · refine And.intro ?_ ?_
      · -- 0: slot 9 := Op.move (Operand.tmp 0)
        refine lstep_run fun fr wf left => ?_
        have o0 := (left.old 0 (by kernel_rfl)).trans rfl
        refine ⟨wanted_none rfl, fun K hK => ?_⟩
        have hB := hide left.base
        clear left
        go_simp
        exact hK _ _ rfl hB.out (one_refl (fun _ => trivial) _ _)
      refine And.intro ?_ ?_
      · -- 1: slot 10 := Op.fieldAddr 30 (Operand.tmp 3) 2
        refine lstep_run fun fr wf left => ?_
        have o3 := (left.old 3 (by kernel_rfl)).trans rfl
        refine ⟨wanted_none rfl, fun K hK => ?_⟩
        have hB := hide left.base
        clear left
        go_simp
        exact hK _ _ rfl hB.out (one_refl (fun _ => trivial) _ _)
      refine And.intro ?_ ?_
      · -- 2: slot 11 := Op.load 9 (Operand.tmp 10)
        refine lstep_run fun fr wf left => ?_
        obtain ⟨x1, e1, r1⟩ := left.slot 30 rfl 1 10 _ rfl rfl (by decide) rfl
        have s1 := Eq.symm (show x1 = .pointer (some ⟨b3, 2, none⟩) from r1)
        subst s1
        refine ⟨wanted_none rfl, fun K hK => ?_⟩
        have hB := hide left.base
        have hc := (hB.out.cell (a := ⟨b3, 2, none⟩) HB3.out.1 HB3.out.2).trans C2.out
        clear left
        go_simp
        exact hK _ _ rfl hB.out (one_refl (fun _ => trivial) _ _)
      refine And.intro ?_ ?_
      · -- 3: slot 12 := Op.fieldAddr 30 (Operand.tmp 3) 4
        refine lstep_run fun fr wf left => ?_
        have o3 := (left.old 3 (by kernel_rfl)).trans rfl
        refine ⟨wanted_none rfl, fun K hK => ?_⟩
        have hB := hide left.base
        clear left
        go_simp
        exact hK _ _ rfl hB.out (one_refl (fun _ => trivial) _ _)
      refine And.intro ?_ ?_
      · -- 4: slot 13 := Op.load 3 (Operand.tmp 12)
        refine lstep_run fun fr wf left => ?_
        obtain ⟨x3, e3, r3⟩ := left.slot 30 rfl 3 12 _ rfl rfl (by decide) rfl
        have s3 := Eq.symm (show x3 = .pointer (some ⟨b3, 4, none⟩) from r3)
        subst s3
        refine ⟨wanted_none rfl, fun K hK => ?_⟩
        have hB := hide left.base
        have hc := (hB.out.cell (a := ⟨b3, 4, none⟩) HB3.out.1 HB3.out.2).trans C4.out
        clear left
        go_simp
        exact hK _ _ rfl hB.out (one_refl (fun _ => trivial) _ _)
      refine And.intro ?_ ?_
      · -- 5: slot 14 := Op.fieldAddr 30 (Operand.tmp 3) 3
        refine lstep_run fun fr wf left => ?_
        have o3 := (left.old 3 (by kernel_rfl)).trans rfl
        refine ⟨wanted_none rfl, fun K hK => ?_⟩
        have hB := hide left.base
        clear left
        go_simp
        exact hK _ _ rfl hB.out (one_refl (fun _ => trivial) _ _)
      refine And.intro ?_ ?_
      · -- 6: slot 15 := Op.load 9 (Operand.tmp 14)
        refine lstep_run fun fr wf left => ?_
        obtain ⟨x5, e5, r5⟩ := left.slot 30 rfl 5 14 _ rfl rfl (by decide) rfl
        have s5 := Eq.symm (show x5 = .pointer (some ⟨b3, 3, none⟩) from r5)
        subst s5
        refine ⟨wanted_none rfl, fun K hK => ?_⟩
        have hB := hide left.base
        have hc := (hB.out.cell (a := ⟨b3, 3, none⟩) HB3.out.1 HB3.out.2).trans C3.out
        clear left
        go_simp
        exact hK _ _ rfl hB.out (one_refl (fun _ => trivial) _ _)
      refine And.intro ?_ ?_
      · -- 7: slot 16 := Op.call { callee := Callee.value (Operand.func 13), args := #[Operand.tmp 15, Operand.cons
        refine lstep_run fun fr wf left => ?_
        obtain ⟨x6, e6, r6⟩ := left.slot 30 rfl 6 15 _ rfl rfl (by decide) rfl
        have s6 := Eq.symm (show x6 = .string data from r6)
        subst s6
        refine ⟨wanted_none rfl, fun K hK => ?_⟩
        have hB := hide left.base
        clear left
        go_simp
        refine (short_any data 300 _ hdata (by decide)).mono ?_
        rintro e w' ⟨rfl, rfl⟩
        exact hK _ _ rfl hB.out (one_refl (fun _ => trivial) _ _)
      refine And.intro ?_ ?_
      · -- 8: slot 17 := Op.call { callee := Callee.value (Operand.func 14), args := #[Operand.tmp 9, Operand.tmp 1
        refine lstep_run fun fr wf left => ?_
        obtain ⟨x0, e0, r0⟩ := left.slot 30 rfl 0 9 _ rfl rfl (by decide) rfl
        have s0 := Eq.symm (show x0 = .pointer (some ⟨D.g, 0, none⟩) from r0)
        subst s0
        obtain ⟨x2, e2, r2⟩ := left.slot 30 rfl 2 11 _ rfl rfl (by decide) rfl
        have s2 := Eq.symm (show x2 = .string name from r2)
        subst s2
        obtain ⟨x4, e4, r4⟩ := left.slot 30 rfl 4 13 _ rfl rfl (by decide) rfl
        have s4 := Eq.symm (show x4 = .int .i64 at_ from r4)
        subst s4
        obtain ⟨x7, e7, r7⟩ := left.slot 30 rfl 7 16 _ rfl rfl (by decide) rfl
        have s7 := Eq.symm (show x7 = .string (Dk.short data 300) from r7)
        subst s7
        refine ⟨wanted_none rfl, fun K hK => ?_⟩
        have hB := hide left.base; have hP := hide (one_pre_at left.pre rfl)
        clear left
        go_simp
        refine (writeA_val D s s' name at_ (Dk.short data 300) r _ hP.out HOK.out.name (Nat.le_trans (Dk.short_size data 300) (by decide)) HOK.out.at_ hacts hmany hkl HW.out).mono ?_
        rintro e w' ⟨rfl, ht⟩
        exact hK _ _ ⟨rfl, ht.at (Nat.le_trans HB1.out.size hB.out.size)⟩ (hB.out.then ht.moved) (one_at rfl)
      refine And.intro ?_ ?_
      · -- 9: slot 4 := Op.assign (Operand.tmp 17)
        refine lstep_run fun fr wf left => ?_
        obtain ⟨x8, e8, r8⟩ := left.slot 30 rfl 8 17 _ rfl rfl (by decide) rfl
        obtain ⟨s8, q8⟩ := (show x8 = .int .i64 r ∧ (fun u => TurnAt D s w.heap.size u s') wf from r8)
        subst s8
        refine ⟨wanted_none rfl, fun K hK => ?_⟩
        have hB := hide left.base
        clear left
        go_simp
        exact hK _ _ rfl hB.out (one_refl (fun _ => trivial) _ _)
      exact trivial
    · intro fr wf hB hs hd hall hkeep
      have h17 : fr.tmps.getD 17 undef = .int .i64 r ∧ TurnAt D s w.heap.size wf s' := hall 8 _ rfl (by simp)
      have h4 : fr.tmps.getD 4 undef = .int .i64 r := hall 9 _ rfl (by simp)
      have hfr := act_ext (frame_set hs hkeep [9, 10, 11, 12, 13, 14, 15, 16, 17, 4] (by kernel_rfl)) hd
      obtain ⟨q9, hq9⟩ : ∃ q, q = fr.tmps.getD 9 undef := ⟨_, rfl⟩
      obtain ⟨q10, hq10⟩ : ∃ q, q = fr.tmps.getD 10 undef := ⟨_, rfl⟩
      obtain ⟨q11, hq11⟩ : ∃ q, q = fr.tmps.getD 11 undef := ⟨_, rfl⟩
      obtain ⟨q12, hq12⟩ : ∃ q, q = fr.tmps.getD 12 undef := ⟨_, rfl⟩
      obtain ⟨q13, hq13⟩ : ∃ q, q = fr.tmps.getD 13 undef := ⟨_, rfl⟩
      obtain ⟨q14, hq14⟩ : ∃ q, q = fr.tmps.getD 14 undef := ⟨_, rfl⟩
      obtain ⟨q15, hq15⟩ : ∃ q, q = fr.tmps.getD 15 undef := ⟨_, rfl⟩
      obtain ⟨q16, hq16⟩ : ∃ q, q = fr.tmps.getD 16 undef := ⟨_, rfl⟩
      obtain ⟨q17, hq17⟩ : ∃ q, q = fr.tmps.getD 17 undef := ⟨_, rfl⟩
      obtain ⟨q4, hq4⟩ : ∃ q, q = fr.tmps.getD 4 undef := ⟨_, rfl⟩
      rw [← hq17] at h17
      rw [← hq4] at h4
      simp only [List.foldl, ← hq9, ← hq10, ← hq11, ← hq12, ← hq13, ← hq14, ← hq15, ← hq16, ← hq17, ← hq4] at hfr
      simp only [List.setIfInBounds_toArray, List.set_cons_zero, List.set_cons_succ] at hfr
      clear hall hkeep hs hd hq9 hq10 hq11 hq12 hq13 hq14 hq15 hq16 hq17 hq4
      subst hfr
      have H5 := hide (And.intro h17.2 hB)
      clear h17 hB
      subst h4
      go_wp2_with fail
      go_ret
      exact ⟨rfl, H5.out.1.turns ((Moved.of_below HB1.out).then H5.out.2)⟩
  · have k1i : (kind == 1) = false := by rw [beq_eq_false_iff_ne]; exact k1
    by_cases k2 : kind = 2
    · subst k2
      have hr := HR.out
      unfold Dk.opA at hr
      rw [if_neg (show ¬ (2 : Int) = 1 by decide), if_pos rfl] at hr
      have HW := hide hr
      clear hr HR
      go_wp2_with fail
      refine (cutA_val D s s' name at_ r _ HD.out HOK.out.name HOK.out.at_ hacts hmany hkl HW.out).mono ?_
      rintro e w2 ⟨rfl, ht⟩
      have H2 := hide ht
      clear ht
      go_wp2_with fail
      go_ret
      exact ⟨rfl, H2.out.ahead HB1.out⟩
    · have k2i : (kind == 2) = false := by rw [beq_eq_false_iff_ne]; exact k2
      have hr := HR.out
      unfold Dk.opA at hr
      rw [if_neg k1, if_neg k2] at hr
      have HW := hide hr
      clear hr HR
      go_wp2_with fail
      refine (syncA_val D s s' name r _ HD.out HOK.out.name hacts hmany hkl HW.out).mono ?_
      rintro e w2 ⟨rfl, ht⟩
      have H2 := hide ht
      clear ht
      go_wp2_with fail
      go_ret
      exact ⟨rfl, H2.out.ahead HB1.out⟩
theorem actA_at (D : Dk.Blk) (s : Dk.St) (o : Dk.OpV) (kv : Value) (r : Int) (s' : Dk.St) (w : World) (h : DiskAt w D s) (ho : Dk.OpOk o) (hacts : s.acts < 4611686018427387904) (hmany : s.files.length < 1099511627776) (hkl : s.keep.length ≤ 140737488351232) (hr : Dk.opA s o = (r, s')) :
    Calls Try.prog 24 #[.pointer (some ⟨D.g, 0, none⟩), .agg #[.int .i64 o.kind, .int .i64 o.which, .string o.name, .string o.data, .int .i64 o.at_, .int .i64 o.n, kv]] w fun e w' => e = .returned (.int .i64 r) ∧ Turns D s w w' s' :=
  actA_any D s o kv r s' w h ho hacts hmany hkl hr
/-! a disk without power -/
set_option maxRecDepth 100000 in
theorem syncDown_any (D : Dk.Blk) (s : Dk.St) (n : ByteArray) (w : World) (h : DiskAt w D s) (hd : s.down = true) :
    Calls Try.prog 16 #[.pointer (some ⟨D.g, 0, none⟩), .string n] w fun e w' => e = .returned (.int .i64 170) ∧ Below w.heap.size w w' := by
  have c7 := h.c7
  rw [hd] at c7
  clear h hd
  go_enter Try.func16, Try.ntmps16
  go_wp2_with fail
  go_ret
  exact ⟨rfl, Below.refl _ _⟩
set_option maxHeartbeats 1600000 in
set_option maxRecDepth 100000 in
theorem cutDown_any (D : Dk.Blk) (s : Dk.St) (n : ByteArray) (k : Int) (w : World) (h : DiskAt w D s) (hd : s.down = true) :
    Calls Try.prog 15 #[.pointer (some ⟨D.g, 0, none⟩), .string n, .int .i64 k] w fun e w' => e = .returned (.int .i64 170) ∧ Below w.heap.size w w' := by
  have c7 := h.c7
  rw [hd] at c7
  obtain ⟨W1, hW1⟩ : ∃ V, V = w.alloc (.cells #[.int .i64 k] 3) := ⟨_, rfl⟩
  have hb1 : Below w.heap.size w W1 := by rw [hW1]; exact (Below.refl _ _).alloc (Nat.le_refl _) _
  have d7 : W1.cell? ⟨D.g, 7, none⟩ = some (.bool true) := (hb1.cell (p := ⟨D.g, 7, none⟩) h.glt).trans c7
  have HB := hide hb1
  clear h hd c7 hb1
  go_enter Try.func15, Try.ntmps15
  go_upto_region 1 with (fail)
  rw [← hW1]
  clear hW1
  go_wp2_with fail
  go_ret
  exact ⟨rfl, HB.out⟩
set_option maxHeartbeats 1600000 in
set_option maxRecDepth 100000 in
theorem writeDown_any (D : Dk.Blk) (s : Dk.St) (n : ByteArray) (off : Int) (x : ByteArray) (w : World) (h : DiskAt w D s) (hn : n.size ≤ 140737488351232) (hd : s.down = true) :
    Calls Try.prog 14 #[.pointer (some ⟨D.g, 0, none⟩), .string n, .int .i64 off, .string x] w fun e w' => e = .returned (.int .i64 170) ∧ Below w.heap.size w w' := by
  have c7 := h.c7
  have c1 := h.c1
  rw [hd] at c7
  obtain ⟨f, hf⟩ : ∃ f, f = Dk.get s.files n := ⟨_, rfl⟩
  have hsz := (Dk.get_sizes h.ok n).1
  obtain ⟨W1, hW1⟩ : ∃ V, V = (w.alloc (.cells #[.int .i64 off] 3)).alloc (.cells #[.string x] 9) := ⟨_, rfl⟩
  have hb1 : Below w.heap.size w W1 := by rw [hW1]; exact ((Below.refl _ _).alloc (Nat.le_refl _) _).alloc (by simp) _
  have hlk : (Instr.lookup 77 (.map (some D.mb)) (.string n) false).run Try.prog W1 = .ok (.agg #[.string f.now, .string f.was]) W1 := by rw [hf]; exact (h.past hb1).look n hn
  have d1 : W1.cell? ⟨D.g, 1, none⟩ = some (.map (some D.mb)) := (hb1.cell (p := ⟨D.g, 1, none⟩) h.glt).trans c1
  have d7 : W1.cell? ⟨D.g, 7, none⟩ = some (.bool true) := (hb1.cell (p := ⟨D.g, 7, none⟩) h.glt).trans c7
  have hgl : D.g < W1.heap.size := Nat.lt_of_lt_of_le h.glt hb1.size
  have hf0 := fld0
  have HB := hide hb1
  rw [← hf] at hsz
  clear h hd c7 c1 hb1 hf
  go_enter Try.func14, Try.ntmps14
  go_upto_region 1 with (fail)
  rw [← hW1]
  clear hW1
  go_upto_region 2 with (fail)
  obtain ⟨W3, hW3⟩ : ∃ V, V = W1.alloc (.cells #[.int .i64 (f.now.size : Int)] 3) := ⟨_, rfl⟩
  rw [← hW3]
  have hb3 : Below W1.heap.size W1 W3 := by rw [hW3]; exact (Below.refl _ _).alloc (Nat.le_refl _) _
  have e7 : W3.cell? ⟨D.g, 7, none⟩ = some (.bool true) := (hb3.cell (p := ⟨D.g, 7, none⟩) hgl).trans d7
  have HB3 := hide (HB.out.trans (hb3.mono HB.out.size))
  clear hW3 hb3 d1 d7 hlk
  go_wp2_with fail
  go_ret
  exact ⟨rfl, HB3.out⟩
-- DEFS opdn
def opdnL (D : Dk.Blk) (name data : ByteArray) (at_ : Int) (b3 : Nat) : List Sp :=
  [.is (.pointer (some ⟨D.g, 0, none⟩)), .is (.pointer (some ⟨b3, 2, none⟩)), .is (.string name), .is (.pointer (some ⟨b3, 4, none⟩)), .is (.int .i64 at_), .is (.pointer (some ⟨b3, 3, none⟩)), .is (.string data), .is (.string (Dk.short data 300)), .is (.int .i64 170), .is (.int .i64 170)]
def opdnU : List (List Nat) := [[], [], [1], [], [3], [], [5], [6], [0, 2, 4, 7], [8]]
-- END opdn
set_option maxHeartbeats 1600000 in
set_option maxRecDepth 100000 in
theorem actDown_at (D : Dk.Blk) (s : Dk.St) (o : Dk.OpV) (kv : Value) (w : World) (h : DiskAt w D s) (ho : Dk.OpOk o) (hd : s.down = true) :
    Calls Try.prog 24 #[.pointer (some ⟨D.g, 0, none⟩), .agg #[.int .i64 o.kind, .int .i64 o.which, .string o.name, .string o.data, .int .i64 o.at_, .int .i64 o.n, kv]] w fun e w' => e = .returned (.int .i64 170) ∧ Below w.heap.size w w' := by
  obtain ⟨kind, which, name, data, at_, n, keep⟩ := o
  dsimp only
  have HOK := hide ho
  obtain ⟨W1, hW1⟩ : ∃ V, V = w.alloc (.cells #[.int .i64 kind, .int .i64 which, .string name, .string data, .int .i64 at_, .int .i64 n, kv] 30) := ⟨_, rfl⟩
  obtain ⟨b3, hb3⟩ : ∃ b, b = w.heap.size := ⟨_, rfl⟩
  have hb1 : Below w.heap.size w W1 := by rw [hW1]; exact (Below.refl _ _).alloc (Nat.le_refl _) _
  have HB1 := hide hb1
  have HD := hide (h.past hb1)
  have HDN := hide hd
  have H3 := hide (show W1.heap[b3]? = some (.cells #[.int .i64 kind, .int .i64 which, .string name, .string data, .int .i64 at_, .int .i64 n, kv] 30 (0, 0)) by rw [hW1, hb3]; exact alloc_at _ _)
  have c0 : W1.cell? ⟨b3, 0, none⟩ = some (.int .i64 kind) := (cell_blk H3.out 0).trans rfl
  have c2 : W1.cell? ⟨b3, 2, none⟩ = some (.string name) := (cell_blk H3.out 2).trans rfl
  have c4 : W1.cell? ⟨b3, 4, none⟩ = some (.int .i64 at_) := (cell_blk H3.out 4).trans rfl
  have hdata := ho.data
  dsimp only at hdata
  clear h ho hb1 hd
  go_enter Try.func24, Try.ntmps24
  go_upto_region 1 with (fail)
  rw [← hW1, ← hb3]
  clear hW1 hb3
  by_cases k1 : kind = 1
  · subst k1
    go_upto_region 3 with (fail)
-- REGION opdn
    
    refine wp_region_local (by kernel_rfl) (by kernel_rfl) (useList opdnU) [9] (by kernel_rfl) (spR (opdnL D name data at_ b3)) (fun _ _ => True) (Below W1.heap.size W1) (fun _ w w' => Below w.heap.size w w') spR_stays (fun _ _ _ _ _ h _ => h) (fun _ _ => Below.refl _ _) (dsts_lt (N := 30) (by kernel_rfl)) ((Below.refl _ _).drew) (fun _ _ => trivial) (all_ops ?_) ?_
    · refine And.intro ?_ ?_
      · -- 0: slot 9 := Op.move (Operand.tmp 0)
        refine lstep_run fun fr wf left => ?_
        have o0 := (left.old 0 (by kernel_rfl)).trans rfl
        refine ⟨wanted_none rfl, fun K hK => ?_⟩
        have hB := hide left.base
        clear left
        go_simp
        exact hK _ _ rfl hB.out (Below.refl _ _)
      refine And.intro ?_ ?_
      · -- 1: slot 10 := Op.fieldAddr 30 (Operand.tmp 3) 2
        refine lstep_run fun fr wf left => ?_
        have o3 := (left.old 3 (by kernel_rfl)).trans rfl
        refine ⟨wanted_none rfl, fun K hK => ?_⟩
        have hB := hide left.base
        clear left
        go_simp
        exact hK _ _ rfl hB.out (Below.refl _ _)
      refine And.intro ?_ ?_
      · -- 2: slot 11 := Op.load 9 (Operand.tmp 10)
        refine lstep_run fun fr wf left => ?_
        obtain ⟨x1, e1, r1⟩ := left.slot 30 rfl 1 10 _ rfl rfl (by decide) rfl
        have s1 := Eq.symm (show x1 = .pointer (some ⟨b3, 2, none⟩) from r1)
        subst s1
        refine ⟨wanted_none rfl, fun K hK => ?_⟩
        have hB := hide left.base
        have hc := (cell_blk ((hB.out.block b3 (heap_lt H3.out)).trans H3.out) 2).trans rfl
        clear left
        go_simp
        exact hK _ _ rfl hB.out (Below.refl _ _)
      refine And.intro ?_ ?_
      · -- 3: slot 12 := Op.fieldAddr 30 (Operand.tmp 3) 4
        refine lstep_run fun fr wf left => ?_
        have o3 := (left.old 3 (by kernel_rfl)).trans rfl
        refine ⟨wanted_none rfl, fun K hK => ?_⟩
        have hB := hide left.base
        clear left
        go_simp
        exact hK _ _ rfl hB.out (Below.refl _ _)
      refine And.intro ?_ ?_
      · -- 4: slot 13 := Op.load 3 (Operand.tmp 12)
        refine lstep_run fun fr wf left => ?_
        obtain ⟨x3, e3, r3⟩ := left.slot 30 rfl 3 12 _ rfl rfl (by decide) rfl
        have s3 := Eq.symm (show x3 = .pointer (some ⟨b3, 4, none⟩) from r3)
        subst s3
        refine ⟨wanted_none rfl, fun K hK => ?_⟩
        have hB := hide left.base
        have hc := (cell_blk ((hB.out.block b3 (heap_lt H3.out)).trans H3.out) 4).trans rfl
        clear left
        go_simp
        exact hK _ _ rfl hB.out (Below.refl _ _)
      refine And.intro ?_ ?_
      · -- 5: slot 14 := Op.fieldAddr 30 (Operand.tmp 3) 3
        refine lstep_run fun fr wf left => ?_
        have o3 := (left.old 3 (by kernel_rfl)).trans rfl
        refine ⟨wanted_none rfl, fun K hK => ?_⟩
        have hB := hide left.base
        clear left
        go_simp
        exact hK _ _ rfl hB.out (Below.refl _ _)
      refine And.intro ?_ ?_
      · -- 6: slot 15 := Op.load 9 (Operand.tmp 14)
        refine lstep_run fun fr wf left => ?_
        obtain ⟨x5, e5, r5⟩ := left.slot 30 rfl 5 14 _ rfl rfl (by decide) rfl
        have s5 := Eq.symm (show x5 = .pointer (some ⟨b3, 3, none⟩) from r5)
        subst s5
        refine ⟨wanted_none rfl, fun K hK => ?_⟩
        have hB := hide left.base
        have hc := (cell_blk ((hB.out.block b3 (heap_lt H3.out)).trans H3.out) 3).trans rfl
        clear left
        go_simp
        exact hK _ _ rfl hB.out (Below.refl _ _)
      refine And.intro ?_ ?_
      · -- 7: slot 16 := Op.call { callee := Callee.value (Operand.func 13), args := #[Operand.tmp 15, Operand.cons
        refine lstep_run fun fr wf left => ?_
        obtain ⟨x6, e6, r6⟩ := left.slot 30 rfl 6 15 _ rfl rfl (by decide) rfl
        have s6 := Eq.symm (show x6 = .string data from r6)
        subst s6
        refine ⟨wanted_none rfl, fun K hK => ?_⟩
        have hB := hide left.base
        clear left
        go_simp
        refine (short_any data 300 _ hdata (by decide)).mono ?_
        rintro e w' ⟨rfl, rfl⟩
        exact hK _ _ rfl hB.out (Below.refl _ _)
      refine And.intro ?_ ?_
      · -- 8: slot 17 := Op.call { callee := Callee.value (Operand.func 14), args := #[Operand.tmp 9, Operand.tmp 1
        refine lstep_run fun fr wf left => ?_
        obtain ⟨x0, e0, r0⟩ := left.slot 30 rfl 0 9 _ rfl rfl (by decide) rfl
        have s0 := Eq.symm (show x0 = .pointer (some ⟨D.g, 0, none⟩) from r0)
        subst s0
        obtain ⟨x2, e2, r2⟩ := left.slot 30 rfl 2 11 _ rfl rfl (by decide) rfl
        have s2 := Eq.symm (show x2 = .string name from r2)
        subst s2
        obtain ⟨x4, e4, r4⟩ := left.slot 30 rfl 4 13 _ rfl rfl (by decide) rfl
        have s4 := Eq.symm (show x4 = .int .i64 at_ from r4)
        subst s4
        obtain ⟨x7, e7, r7⟩ := left.slot 30 rfl 7 16 _ rfl rfl (by decide) rfl
        have s7 := Eq.symm (show x7 = .string (Dk.short data 300) from r7)
        subst s7
        refine ⟨wanted_none rfl, fun K hK => ?_⟩
        have hB := hide left.base
        clear left
        go_simp
        refine (writeDown_any D s name at_ (Dk.short data 300) _ (HD.out.past hB.out) HOK.out.name HDN.out).mono ?_
        rintro e w' ⟨rfl, hb⟩
        exact hK _ _ rfl (hB.out.trans (hb.mono (le_base hB.out))) hb
      refine And.intro ?_ ?_
      · -- 9: slot 4 := Op.assign (Operand.tmp 17)
        refine lstep_run fun fr wf left => ?_
        obtain ⟨x8, e8, r8⟩ := left.slot 30 rfl 8 17 _ rfl rfl (by decide) rfl
        have s8 := Eq.symm (show x8 = .int .i64 170 from r8)
        subst s8
        refine ⟨wanted_none rfl, fun K hK => ?_⟩
        have hB := hide left.base
        clear left
        go_simp
        exact hK _ _ rfl hB.out (Below.refl _ _)
      exact trivial
    · intro fr wf hB hs hd hall hkeep
      have h4 : fr.tmps.getD 4 undef = .int .i64 170 := hall 9 _ rfl (by simp)
      have hfr := act_ext (frame_set hs hkeep [9, 10, 11, 12, 13, 14, 15, 16, 17, 4] (by kernel_rfl)) hd
      obtain ⟨q9, hq9⟩ : ∃ q, q = fr.tmps.getD 9 undef := ⟨_, rfl⟩
      obtain ⟨q10, hq10⟩ : ∃ q, q = fr.tmps.getD 10 undef := ⟨_, rfl⟩
      obtain ⟨q11, hq11⟩ : ∃ q, q = fr.tmps.getD 11 undef := ⟨_, rfl⟩
      obtain ⟨q12, hq12⟩ : ∃ q, q = fr.tmps.getD 12 undef := ⟨_, rfl⟩
      obtain ⟨q13, hq13⟩ : ∃ q, q = fr.tmps.getD 13 undef := ⟨_, rfl⟩
      obtain ⟨q14, hq14⟩ : ∃ q, q = fr.tmps.getD 14 undef := ⟨_, rfl⟩
      obtain ⟨q15, hq15⟩ : ∃ q, q = fr.tmps.getD 15 undef := ⟨_, rfl⟩
      obtain ⟨q16, hq16⟩ : ∃ q, q = fr.tmps.getD 16 undef := ⟨_, rfl⟩
      obtain ⟨q17, hq17⟩ : ∃ q, q = fr.tmps.getD 17 undef := ⟨_, rfl⟩
      obtain ⟨q4, hq4⟩ : ∃ q, q = fr.tmps.getD 4 undef := ⟨_, rfl⟩
      rw [← hq4] at h4
      simp only [List.foldl, ← hq9, ← hq10, ← hq11, ← hq12, ← hq13, ← hq14, ← hq15, ← hq16, ← hq17, ← hq4] at hfr
      simp only [List.setIfInBounds_toArray, List.set_cons_zero, List.set_cons_succ] at hfr
      clear hall hkeep hs hd hq9 hq10 hq11 hq12 hq13 hq14 hq15 hq16 hq17 hq4
      subst hfr
      subst h4
      have HBF := hide hB
      clear hB
      go_wp2_with fail
      go_ret
      exact ⟨rfl, HB1.out.trans (HBF.out.mono HB1.out.size)⟩
    -- END REGION opdn
  · have k1i : (kind == 1) = false := by rw [beq_eq_false_iff_ne]; exact k1
    by_cases k2 : kind = 2
    · subst k2
      go_wp2_with fail
      refine (cutDown_any D s name at_ _ HD.out HDN.out).mono ?_
      rintro e w2 ⟨rfl, hb⟩
      have H2 := hide (HB1.out.trans (hb.mono HB1.out.size))
      clear hb
      go_wp2_with fail
      go_ret
      exact ⟨rfl, H2.out⟩
    · have k2i : (kind == 2) = false := by rw [beq_eq_false_iff_ne]; exact k2
      go_wp2_with fail
      refine (syncDown_any D s name _ HD.out HDN.out).mono ?_
      rintro e w2 ⟨rfl, hb⟩
      have H2 := hide (HB1.out.trans (hb.mono HB1.out.size))
      clear hb
      go_wp2_with fail
      go_ret
      exact ⟨rfl, H2.out⟩
end Go.Proofs.Ytiiblpgiafbaoaa
