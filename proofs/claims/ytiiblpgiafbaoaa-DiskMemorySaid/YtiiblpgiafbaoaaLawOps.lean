/-
  massiflaw17: a list of calls among the arguments (Op: seven cells, a list of choices inside); act: one call at a disk where no fate lies.
-/
import Derived.Test.YtiiblpgiafbaoaaLawAliveW
namespace Go.Proofs.Ytiiblpgiafbaoaa
open Go Go.RowKit Go.Maps
namespace Dk
structure OpV where
  kind : Int
  which : Int
  name : ByteArray
  data : ByteArray
  at_ : Int
  n : Int
  keep : List Bool
def opCells (o : OpV) (kv : Value) : List Value := [.int .i64 o.kind, .int .i64 o.which, .string o.name, .string o.data, .int .i64 o.at_, .int .i64 o.n, kv]
structure OpOk (o : OpV) : Prop where
  kind : (Lit.int .i64 o.kind).wf = true
  which : (Lit.int .i64 o.which).wf = true
  name : o.name.size ≤ 140737488351232
  data : o.data.size ≤ 140737488351232
  at_ : (Lit.int .i64 o.at_).wf = true
  n : (Lit.int .i64 o.n).wf = true
  keep : o.keep.length ≤ 140737488351232
/-- What a call does to a disk where no fate lies. -/
def opC (s : St) (o : OpV) : Int × St :=
  if o.kind = 1 then writeC s o.name o.at_ (short o.data 300) else if o.kind = 2 then cutC s o.name o.at_ else syncC s o.name
end Dk
structure OpsAt (w : World) (v : Value) (ops : List Dk.OpV) : Prop where
  ok : ∀ o ∈ ops, Dk.OpOk o
  form : ∃ len a cap, len = ops.length ∧ v = .slice a len cap ∧ len ≤ cap ∧ ∀ (j : Nat) (o : Dk.OpV), ops[j]? = some o → ∃ b off kv, a = some ⟨b, off, none⟩ ∧ b < w.heap.size ∧ w.rangeAt b (off + j * 7) (Dk.opCells o kv) ∧ SlV w kv (o.keep.map Value.bool)
-- DEFS opact
def opactL (D : Dk.Blk) (s' : Dk.St) (name data : ByteArray) (at_ r : Int) (b3 : Nat) : List Sp :=
  [.is (.pointer (some ⟨D.g, 0, none⟩)), .is (.pointer (some ⟨b3, 2, none⟩)), .is (.string name), .is (.pointer (some ⟨b3, 4, none⟩)), .is (.int .i64 at_), .is (.pointer (some ⟨b3, 3, none⟩)), .is (.string data), .is (.string (Dk.short data 300)), .both (.int .i64 r) (fun u => DiskAt u D s') (fun _ _ h hb => h.past hb), .is (.int .i64 r)]
def opactU : List (List Nat) := [[], [], [1], [], [3], [], [5], [6], [0, 2, 4, 7], [8]]
-- END opact
set_option maxHeartbeats 1600000 in
set_option maxRecDepth 100000 in
theorem act_any (D : Dk.Blk) (s : Dk.St) (o : Dk.OpV) (kv : Value) (r : Int) (s' : Dk.St) (w : World) (h : DiskAt w D s) (ho : Dk.OpOk o) (hleft : s.left = 0) (hacts : s.acts < 4611686018427387904) (hmany : s.files.length < 1099511627776) (hr : Dk.opC s o = (r, s')) :
    Calls Try.prog 24 #[.pointer (some ⟨D.g, 0, none⟩), .agg (Dk.opCells o kv).toArray] w fun e w' => e = .returned (.int .i64 r) ∧ DiskAt w' D s' ∧ Moved (Dk.own D) w w' := by
  obtain ⟨kind, which, name, data, at_, n, keep⟩ := o
  have HOK := hide ho
  have HR := hide hr
  have HD0 := hide h
  obtain ⟨W1, hW1⟩ : ∃ V, V = w.alloc (.cells #[.int .i64 kind, .int .i64 which, .string name, .string data, .int .i64 at_, .int .i64 n, kv] 30) := ⟨_, rfl⟩
  have hb1 : Below w.heap.size w W1 := by rw [hW1]; exact (Below.refl _ _).alloc (Nat.le_refl _) _
  have HB1 := hide hb1
  have HD := hide (h.past hb1)
  have HG := hide (show D.g < w.heap.size ∧ D.mb < w.heap.size from ⟨h.glt, h.map.lt⟩)
  have H3 := hide (show W1.heap[w.heap.size]? = some (.cells #[.int .i64 kind, .int .i64 which, .string name, .string data, .int .i64 at_, .int .i64 n, kv] 30 (0, 0)) by rw [hW1]; exact alloc_at _ _)
  have c0 : W1.cell? ⟨w.heap.size, 0, none⟩ = some (.int .i64 kind) := (cell_blk H3.out 0).trans rfl
  have c2 : W1.cell? ⟨w.heap.size, 2, none⟩ = some (.string name) := (cell_blk H3.out 2).trans rfl
  have c4 : W1.cell? ⟨w.heap.size, 4, none⟩ = some (.int .i64 at_) := (cell_blk H3.out 4).trans rfl
  have hdata := ho.data
  dsimp only at hdata
  clear h ho hr hb1
  unfold Dk.opCells
  go_enter Try.func24, Try.ntmps24
  go_upto_region 1 with (fail)
  rw [← hW1]
  clear hW1
  by_cases k1 : kind = 1
  · subst k1
    have hr := HR.out
    unfold Dk.opC at hr
    rw [if_pos rfl] at hr
    have HW := hide hr
    clear hr HR
    obtain ⟨b3, hb3⟩ : ∃ b, b = w.heap.size := ⟨_, rfl⟩
    rw [← hb3] at c0 c2 c4 H3
    rw [← hb3]
    have HB3 := hide (show b3 < W1.heap.size ∧ ¬ (b3 = D.g ∨ b3 = D.mb) from ⟨heap_lt H3.out, by have := HG.out.1; have := HG.out.2; omega⟩)
    have C2 := hide c2
    have C4 := hide c4
    have C3 := hide (show W1.cell? ⟨b3, 3, none⟩ = some (.string data) from (cell_blk H3.out 3).trans rfl)
    clear hb3
    go_upto_region 3 with (fail)
-- REGION opact
    
    refine wp_region_local (by kernel_rfl) (by kernel_rfl) (useList opactU) [8, 9] (by kernel_rfl) (spR (opactL D s' name data at_ r b3)) (onePre 8 (fun u => DiskAt u D s)) (Moved (Dk.own D) W1) (oneE 8 (fun _ _ => True)) (one_stays (by simp [opactL]) (by kernel_rfl)) (one_pre (fun _ _ h hb => h.past hb)) (one_refl (fun _ => trivial)) (dsts_lt (N := 30) (by kernel_rfl)) ((Moved.refl _ _).drew) (fun _ _ => one_start (HD.out.past ((Below.refl _ _).drew))) (all_ops ?_) ?_
    · refine And.intro ?_ ?_
      · -- 0: slot 9 := Op.move (Operand.tmp 0)
        refine lstep_run fun fr wf left => ?_
        have o0 := (left.old 0 (by kernel_rfl)).trans rfl
        refine ⟨wanted_none rfl, fun K hK => ?_⟩
        have hB := hide left.base
        clear left
        go_simp
        exact hK _ _ rfl hB.out (one_refl (fun _ => trivial) _ _)
      refine And.intro ?_ ?_
      · -- 1: slot 10 := Op.fieldAddr 30 (Operand.tmp 3) 2
        refine lstep_run fun fr wf left => ?_
        have o3 := (left.old 3 (by kernel_rfl)).trans rfl
        refine ⟨wanted_none rfl, fun K hK => ?_⟩
        have hB := hide left.base
        clear left
        go_simp
        exact hK _ _ rfl hB.out (one_refl (fun _ => trivial) _ _)
      refine And.intro ?_ ?_
      · -- 2: slot 11 := Op.load 9 (Operand.tmp 10)
        refine lstep_run fun fr wf left => ?_
        obtain ⟨x1, e1, r1⟩ := left.slot 30 rfl 1 10 _ rfl rfl (by decide) rfl
        have s1 := Eq.symm (show x1 = .pointer (some ⟨b3, 2, none⟩) from r1)
        subst s1
        refine ⟨wanted_none rfl, fun K hK => ?_⟩
        have hB := hide left.base
        have hc := (hB.out.cell (a := ⟨b3, 2, none⟩) HB3.out.1 HB3.out.2).trans C2.out
        clear left
        go_simp
        exact hK _ _ rfl hB.out (one_refl (fun _ => trivial) _ _)
      refine And.intro ?_ ?_
      · -- 3: slot 12 := Op.fieldAddr 30 (Operand.tmp 3) 4
        refine lstep_run fun fr wf left => ?_
        have o3 := (left.old 3 (by kernel_rfl)).trans rfl
        refine ⟨wanted_none rfl, fun K hK => ?_⟩
        have hB := hide left.base
        clear left
        go_simp
        exact hK _ _ rfl hB.out (one_refl (fun _ => trivial) _ _)
      refine And.intro ?_ ?_
      · -- 4: slot 13 := Op.load 3 (Operand.tmp 12)
        refine lstep_run fun fr wf left => ?_
        obtain ⟨x3, e3, r3⟩ := left.slot 30 rfl 3 12 _ rfl rfl (by decide) rfl
        have s3 := Eq.symm (show x3 = .pointer (some ⟨b3, 4, none⟩) from r3)
        subst s3
        refine ⟨wanted_none rfl, fun K hK => ?_⟩
        have hB := hide left.base
        have hc := (hB.out.cell (a := ⟨b3, 4, none⟩) HB3.out.1 HB3.out.2).trans C4.out
        clear left
        go_simp
        exact hK _ _ rfl hB.out (one_refl (fun _ => trivial) _ _)
      refine And.intro ?_ ?_
      · -- 5: slot 14 := Op.fieldAddr 30 (Operand.tmp 3) 3
        refine lstep_run fun fr wf left => ?_
        have o3 := (left.old 3 (by kernel_rfl)).trans rfl
        refine ⟨wanted_none rfl, fun K hK => ?_⟩
        have hB := hide left.base
        clear left
        go_simp
        exact hK _ _ rfl hB.out (one_refl (fun _ => trivial) _ _)
      refine And.intro ?_ ?_
      · -- 6: slot 15 := Op.load 9 (Operand.tmp 14)
        refine lstep_run fun fr wf left => ?_
        obtain ⟨x5, e5, r5⟩ := left.slot 30 rfl 5 14 _ rfl rfl (by decide) rfl
        have s5 := Eq.symm (show x5 = .pointer (some ⟨b3, 3, none⟩) from r5)
        subst s5
        refine ⟨wanted_none rfl, fun K hK => ?_⟩
        have hB := hide left.base
        have hc := (hB.out.cell (a := ⟨b3, 3, none⟩) HB3.out.1 HB3.out.2).trans C3.out
        clear left
        go_simp
        exact hK _ _ rfl hB.out (one_refl (fun _ => trivial) _ _)
      refine And.intro ?_ ?_
      · -- 7: slot 16 := Op.call { callee := Callee.value (Operand.func 13), args := #[Operand.tmp 15, Operand.cons
        refine lstep_run fun fr wf left => ?_
        obtain ⟨x6, e6, r6⟩ := left.slot 30 rfl 6 15 _ rfl rfl (by decide) rfl
        have s6 := Eq.symm (show x6 = .string data from r6)
        subst s6
        refine ⟨wanted_none rfl, fun K hK => ?_⟩
        have hB := hide left.base
        clear left
        go_simp
        refine (short_any data 300 _ hdata (by decide)).mono ?_
        rintro e w' ⟨rfl, rfl⟩
        exact hK _ _ rfl hB.out (one_refl (fun _ => trivial) _ _)
      refine And.intro ?_ ?_
      · -- 8: slot 17 := Op.call { callee := Callee.value (Operand.func 14), args := #[Operand.tmp 9, Operand.tmp 1
        refine lstep_run fun fr wf left => ?_
        obtain ⟨x0, e0, r0⟩ := left.slot 30 rfl 0 9 _ rfl rfl (by decide) rfl
        have s0 := Eq.symm (show x0 = .pointer (some ⟨D.g, 0, none⟩) from r0)
        subst s0
        obtain ⟨x2, e2, r2⟩ := left.slot 30 rfl 2 11 _ rfl rfl (by decide) rfl
        have s2 := Eq.symm (show x2 = .string name from r2)
        subst s2
        obtain ⟨x4, e4, r4⟩ := left.slot 30 rfl 4 13 _ rfl rfl (by decide) rfl
        have s4 := Eq.symm (show x4 = .int .i64 at_ from r4)
        subst s4
        obtain ⟨x7, e7, r7⟩ := left.slot 30 rfl 7 16 _ rfl rfl (by decide) rfl
        have s7 := Eq.symm (show x7 = .string (Dk.short data 300) from r7)
        subst s7
        refine ⟨wanted_none rfl, fun K hK => ?_⟩
        have hB := hide left.base; have hP := hide (one_pre_at left.pre rfl)
        clear left
        go_simp
        refine (write_val D s s' name at_ (Dk.short data 300) r _ hP.out HOK.out.name (Nat.le_trans (Dk.short_size data 300) (by decide)) HOK.out.at_ hleft hacts hmany HW.out).mono ?_
        rintro e w' ⟨rfl, hd, hm⟩
        exact hK _ _ ⟨rfl, hd⟩ (hB.out.then hm) (one_at rfl)
      refine And.intro ?_ ?_
      · -- 9: slot 4 := Op.assign (Operand.tmp 17)
        refine lstep_run fun fr wf left => ?_
        obtain ⟨x8, e8, r8⟩ := left.slot 30 rfl 8 17 _ rfl rfl (by decide) rfl
        obtain ⟨s8, q8⟩ := (show x8 = .int .i64 r ∧ (fun u => DiskAt u D s') wf from r8)
        subst s8
        refine ⟨wanted_none rfl, fun K hK => ?_⟩
        have hB := hide left.base
        clear left
        go_simp
        exact hK _ _ rfl hB.out (one_refl (fun _ => trivial) _ _)
      exact trivial
    · intro fr wf hB hs hd hall hkeep
      have h17 : fr.tmps.getD 17 undef = .int .i64 r ∧ DiskAt wf D s' := hall 8 _ rfl (by simp)
      have h4 : fr.tmps.getD 4 undef = .int .i64 r := hall 9 _ rfl (by simp)
      have hfr := act_ext (frame_set hs hkeep [9, 10, 11, 12, 13, 14, 15, 16, 17, 4] (by kernel_rfl)) hd
      obtain ⟨q9, hq9⟩ : ∃ q, q = fr.tmps.getD 9 undef := ⟨_, rfl⟩
      obtain ⟨q10, hq10⟩ : ∃ q, q = fr.tmps.getD 10 undef := ⟨_, rfl⟩
      obtain ⟨q11, hq11⟩ : ∃ q, q = fr.tmps.getD 11 undef := ⟨_, rfl⟩
      obtain ⟨q12, hq12⟩ : ∃ q, q = fr.tmps.getD 12 undef := ⟨_, rfl⟩
      obtain ⟨q13, hq13⟩ : ∃ q, q = fr.tmps.getD 13 undef := ⟨_, rfl⟩
      obtain ⟨q14, hq14⟩ : ∃ q, q = fr.tmps.getD 14 undef := ⟨_, rfl⟩
      obtain ⟨q15, hq15⟩ : ∃ q, q = fr.tmps.getD 15 undef := ⟨_, rfl⟩
      obtain ⟨q16, hq16⟩ : ∃ q, q = fr.tmps.getD 16 undef := ⟨_, rfl⟩
      obtain ⟨q17, hq17⟩ : ∃ q, q = fr.tmps.getD 17 undef := ⟨_, rfl⟩
      obtain ⟨q4, hq4⟩ : ∃ q, q = fr.tmps.getD 4 undef := ⟨_, rfl⟩
      rw [← hq17] at h17
      rw [← hq4] at h4
      simp only [List.foldl, ← hq9, ← hq10, ← hq11, ← hq12, ← hq13, ← hq14, ← hq15, ← hq16, ← hq17, ← hq4] at hfr
      simp only [List.setIfInBounds_toArray, List.set_cons_zero, List.set_cons_succ] at hfr
      clear hall hkeep hs hd hq9 hq10 hq11 hq12 hq13 hq14 hq15 hq16 hq17 hq4
      subst hfr
      have H5 := hide (And.intro h17.2 hB)
      clear h17 hB
      subst h4
      go_wp2_with fail
      go_ret
      exact ⟨rfl, H5.out.1, (Moved.of_below HB1.out).then H5.out.2⟩
    -- END REGION opact
  · have k1i : (kind == 1) = false := by rw [beq_eq_false_iff_ne]; exact k1
    by_cases k2 : kind = 2
    · subst k2
      have hr := HR.out
      unfold Dk.opC at hr
      rw [if_neg (show ¬ (2 : Int) = 1 by decide), if_pos rfl] at hr
      have HW := hide hr
      clear hr HR
      go_wp2_with fail
      refine (cut_val D s s' name at_ r _ HD.out HOK.out.name HOK.out.at_ hleft hacts hmany HW.out).mono ?_
      rintro e w2 ⟨rfl, hd2, hm2⟩
      have H2 := hide (And.intro hd2 hm2)
      clear hd2 hm2
      go_wp2_with fail
      go_ret
      exact ⟨rfl, H2.out.1, (Moved.of_below HB1.out).then H2.out.2⟩
    · have k2i : (kind == 2) = false := by rw [beq_eq_false_iff_ne]; exact k2
      have hr := HR.out
      unfold Dk.opC at hr
      rw [if_neg k1, if_neg k2] at hr
      have HW := hide hr
      clear hr HR
      go_wp2_with fail
      refine (sync_val D s s' name r _ HD.out HOK.out.name hleft hacts hmany HW.out).mono ?_
      rintro e w2 ⟨rfl, hd2, hm2⟩
      have H2 := hide (And.intro hd2 hm2)
      clear hd2 hm2
      go_wp2_with fail
      go_ret
      exact ⟨rfl, H2.out.1, (Moved.of_below HB1.out).then H2.out.2⟩
namespace Dk
theorem writeC_keeps (s : St) (n : ByteArray) (off : Int) (x : ByteArray) : (writeC s n off x).2.left = s.left ∧ (writeC s n off x).2.acts ≤ s.acts + 1 ∧ (writeC s n off x).2.files.length ≤ s.files.length + 1 := by
  unfold writeC
  split
  · exact ⟨rfl, Nat.le_succ _, Nat.le_succ _⟩
  · split
    · exact ⟨rfl, Nat.le_succ _, Nat.le_succ _⟩
    · split
      · exact ⟨rfl, Nat.le_succ _, Nat.le_succ _⟩
      · exact ⟨rfl, Nat.le_refl _, len_put _ _ _⟩
theorem cutC_keeps (s : St) (n : ByteArray) (k : Int) : (cutC s n k).2.left = s.left ∧ (cutC s n k).2.acts ≤ s.acts + 1 ∧ (cutC s n k).2.files.length ≤ s.files.length + 1 := by
  unfold cutC
  split
  · exact ⟨rfl, Nat.le_succ _, Nat.le_succ _⟩
  · split
    · exact ⟨rfl, Nat.le_succ _, Nat.le_succ _⟩
    · exact ⟨rfl, Nat.le_refl _, len_put _ _ _⟩
theorem syncC_keeps (s : St) (n : ByteArray) : (syncC s n).2.left = s.left ∧ (syncC s n).2.acts ≤ s.acts + 1 ∧ (syncC s n).2.files.length ≤ s.files.length + 1 := by
  unfold syncC
  split
  · exact ⟨rfl, Nat.le_succ _, Nat.le_succ _⟩
  · exact ⟨rfl, Nat.le_refl _, len_put _ _ _⟩
theorem opC_keeps (s : St) (o : OpV) : (opC s o).2.left = s.left ∧ (opC s o).2.acts ≤ s.acts + 1 ∧ (opC s o).2.files.length ≤ s.files.length + 1 := by
  unfold opC
  split
  · exact writeC_keeps s _ _ _
  · split
    · exact cutC_keeps s _ _
    · exact syncC_keeps s _
theorem wf_i64 {a : Int} (h0 : -9223372036854775808 ≤ a) (h1 : a ≤ 9223372036854775807) : (Lit.int .i64 a).wf = true := by
  have h : IntKind.i64.min ≤ a ∧ a ≤ IntKind.i64.max := ⟨h0, h1⟩
  simpa [Lit.wf] using h
theorem size_range {s : St} (h : Ok s) (n : ByteArray) : 0 ≤ size s n ∧ size s n ≤ 268435456 := by
  unfold size
  split
  · exact ⟨Int.le_refl _, by decide⟩
  · have := (get_sizes h n).1
    omega
end Dk
theorem bent_val (n m r : Int) (w : World) (hn : (Lit.int .i64 n).wf = true) (hm : -9223372036854775808 ≤ m ∧ m < 9223372036854775807) (hr : Dk.bent n m = r) :
    Calls Try.prog 11 #[.int .i64 n, .int .i64 m] w fun e w' => e = .returned (.int .i64 r) ∧ w' = w := by
  rw [← hr]; exact bent_any n m w hn hm
theorem act_at (D : Dk.Blk) (s : Dk.St) (o : Dk.OpV) (kv : Value) (r : Int) (s' : Dk.St) (w : World) (h : DiskAt w D s) (ho : Dk.OpOk o) (hleft : s.left = 0) (hacts : s.acts < 4611686018427387904) (hmany : s.files.length < 1099511627776) (hr : Dk.opC s o = (r, s')) :
    Calls Try.prog 24 #[.pointer (some ⟨D.g, 0, none⟩), .agg #[.int .i64 o.kind, .int .i64 o.which, .string o.name, .string o.data, .int .i64 o.at_, .int .i64 o.n, kv]] w fun e w' => e = .returned (.int .i64 r) ∧ DiskAt w' D s' ∧ Moved (Dk.own D) w w' :=
  act_any D s o kv r s' w h ho hleft hacts hmany hr
end Go.Proofs.Ytiiblpgiafbaoaa
