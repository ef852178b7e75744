/-
  The program's disk: what the three acts do to a file: the function values that Write, Cut and Sync hand to act.
-/
import Derived.Test.YtbfbajfdlkgloaaGreatDoorG03
import Derived.BigQuiet
import Derived.WalkSmall
import Derived.Laws.ResultCell
import Derived.Laws.Rows

namespace Go.Proofs.YtbfbajfdlkgloaaGreatDoor
open Go Go.RowKit Go.Maps
set_option maxRecDepth 100000 in
theorem syncFn_any (f : Dk.F) (w : World) :
    Calls Tryz.prog 106 (#[Dk.valF f] ++ #[]) w fun e w' => e = .returned (Dk.valF ⟨f.now, f.now⟩) ∧ Below w.heap.size w w' := by
  show Calls Tryz.prog 106 #[.agg #[.string f.now, .string f.was]] w _
  obtain ⟨a, b⟩ := f
  go_enter Tryz.func106, Tryz.ntmps106
  go_wp2_with fail
  refine bodyPost_ret (results_cell_row rfl _ _ (w.heap.size + 1) 96 _ (0, 0) _ rfl (heap_alloc2_new _ _ _) Tryz.underlying96 rfl (by kernel_rfl)) rfl ⟨rfl, ((Below.refl _ _).alloc (Nat.le_refl _) _).alloc (by simp) _⟩
set_option maxRecDepth 100000 in
theorem cutFn_any (f : Dk.F) (k b5 : Nat) (w : World) (hk : k ≤ f.now.size) (hf : f.now.size ≤ 268435456) (hb : w.heap[b5]? = some (.cells #[.int .i64 (k : Int)] 3 (0, 0))) :
    Calls Tryz.prog 134 (#[Dk.valF f] ++ #[.pointer (some ⟨b5, 0, none⟩)]) w fun e w' => e = .returned (Dk.valF ⟨f.now.extract 0 k, f.was⟩) ∧ Below w.heap.size w w' := by
  show Calls Tryz.prog 134 #[.agg #[.string f.now, .string f.was], .pointer (some ⟨b5, 0, none⟩)] w _
  obtain ⟨a, b⟩ := f
  have c5 : w.cell? ⟨b5, 0, none⟩ = some (.int .i64 (k : Int)) := (cell_blk hb 0).trans rfl
  have hlt : b5 < w.heap.size := heap_lt hb
  dsimp only at hk hf ⊢
  clear hb
  go_enter Tryz.func134, Tryz.ntmps134
  go_wp2_with fail
  refine bodyPost_ret (results_cell_row rfl _ _ (w.heap.size + 1) 96 _ (0, 0) _ rfl (heap_alloc2_new _ _ _) Tryz.underlying96 rfl (by kernel_rfl)) rfl ⟨rfl, ((Below.refl _ _).alloc (Nat.le_refl _) _).alloc (by simp) _⟩
namespace Dk
/-- A text laid over a file's bytes from a place on. -/
def over (a : ByteArray) (off : Nat) (x : ByteArray) : ByteArray := a.extract 0 off ++ x ++ a.extract (min (off + x.size) a.size) a.size
end Dk
theorem blk_stable {B : Nat} {o : Obj} : ∀ u u' : World, u.heap[B]? = some o → Below u.heap.size u u' → u'.heap[B]? = some o := fun u u' h hb => (hb.block B (heap_lt h)).trans h
def wfnL (w : World) (a b x A1 A3 : ByteArray) (off b6 b7 b9 e : Nat) : List Sp :=
  [.is (.pointer (some ⟨w.heap.size, 0, none⟩)), .is (.string a), .is (.int .i64 (off : Int)), .is (.string A1), .is (.string x), .is (.string (A1 ++ x)), .is (.pointer (some ⟨w.heap.size, 0, none⟩)), .is (.string a), .is (.int .i64 (e : Int)), .is (.string A3), .is (.string (A1 ++ x ++ A3)), .is (.pointer (some ⟨w.heap.size, 0, none⟩)), .say (fun u => u.heap[w.heap.size]? = some (.cells #[.string (A1 ++ x ++ A3), .string b] 96 (0, 0))) (blk_stable)]
def wfnU : List (List Nat) := [[], [0], [], [1, 2], [], [3, 4], [], [6], [], [7, 8], [5, 9], [], [10, 11]]
set_option maxHeartbeats 1600000 in
set_option maxRecDepth 100000 in
theorem writeFn_any (f : Dk.F) (off b6 b7 b9 : Nat) (x : ByteArray) (w : World) (hk : off ≤ f.now.size) (hf : f.now.size ≤ 268435456) (hx : x.size ≤ 268435456) (h6 : w.heap[b6]? = some (.cells #[.int .i64 (off : Int)] 3 (0, 0)))
    (h7 : w.heap[b7]? = some (.cells #[.string x] 9 (0, 0))) (h9 : w.heap[b9]? = some (.cells #[.int .i64 (f.now.size : Int)] 3 (0, 0))) :
    Calls Tryz.prog 55 (#[Dk.valF f] ++ #[.pointer (some ⟨b6, 0, none⟩), .pointer (some ⟨b7, 0, none⟩), .pointer (some ⟨b9, 0, none⟩)]) w fun e w' => e = .returned (Dk.valF ⟨Dk.over f.now off x, f.was⟩) ∧ Below w.heap.size w w' := by
  show Calls Tryz.prog 55 #[.agg #[.string f.now, .string f.was], .pointer (some ⟨b6, 0, none⟩), .pointer (some ⟨b7, 0, none⟩), .pointer (some ⟨b9, 0, none⟩)] w _
  obtain ⟨a, b⟩ := f
  dsimp only at hk hf h9 ⊢
  have c6 : w.cell? ⟨b6, 0, none⟩ = some (.int .i64 (off : Int)) := (cell_blk h6 0).trans rfl
  have c7 : w.cell? ⟨b7, 0, none⟩ = some (.string x) := (cell_blk h7 0).trans rfl
  have c9 : w.cell? ⟨b9, 0, none⟩ = some (.int .i64 (a.size : Int)) := (cell_blk h9 0).trans rfl
  have l6 : b6 < w.heap.size := heap_lt h6
  have l7 : b7 < w.heap.size := heap_lt h7
  have l9 : b9 < w.heap.size := heap_lt h9
  clear h6 h7 h9
  go_enter Tryz.func55, Tryz.ntmps55
  go_upto_region 2 with (fail)
  obtain ⟨e, he⟩ : ∃ e, e = min (off + x.size) a.size := ⟨_, rfl⟩
  have hie : (if (a.size : Int) < (off : Int) + (x.size : Int) then (a.size : Int) else (off : Int) + (x.size : Int)) = (e : Int) := by rw [he]; split <;> omega
  have hea : e ≤ a.size := by omega
  have hOV : Dk.over a off x = a.extract 0 off ++ x ++ a.extract e a.size := by unfold Dk.over; rw [he]
  have HOV := hide hOV
  simp only [hie]
  obtain ⟨W1, hW1⟩ : ∃ V, V = (w.alloc (.cells #[.string a, .string b] 96)).alloc (.cells #[.string ⟨#[]⟩, .string ⟨#[]⟩] 96) := ⟨_, rfl⟩
  rw [← hW1]
  have HS1 := hide (show W1.heap.size = w.heap.size + 2 by rw [hW1]; simp)
  have HB1 := hide (show Below w.heap.size w W1 by rw [hW1]; exact ((Below.refl _ _).alloc (Nat.le_refl _) _).alloc (by simp) _)
  have CB := hide (show W1.heap[w.heap.size]? = some (.cells #[.string a, .string b] 96 (0, 0)) by
    rw [hW1]; exact (Below.heap_alloc (w.alloc _) _ w.heap.size (by simp)).trans (alloc_at _ _))
  have CR := hide (show W1.heap[w.heap.size + 1]? = some (.cells #[.string ⟨#[]⟩, .string ⟨#[]⟩] 96 (0, 0)) by
    rw [hW1]; have := alloc_at (w.alloc (.cells #[.string a, .string b] 96)) (.cells #[.string ⟨#[]⟩, .string ⟨#[]⟩] 96); simpa using this)
  have CA := hide (show w.heap.size < W1.heap.size ∧ W1.cell? ⟨w.heap.size, 0, none⟩ = some (.string a) from ⟨by rw [HS1.out]; omega, (cell_blk CB.out 0).trans rfl⟩)
  have C6 := hide (show b6 < W1.heap.size ∧ W1.cell? ⟨b6, 0, none⟩ = some (.int .i64 (off : Int)) from ⟨by rw [HS1.out]; omega, (HB1.out.cell (p := ⟨b6, 0, none⟩) l6).trans c6⟩)
  have C7 := hide (show b7 < W1.heap.size ∧ W1.cell? ⟨b7, 0, none⟩ = some (.string x) from ⟨by rw [HS1.out]; omega, (HB1.out.cell (p := ⟨b7, 0, none⟩) l7).trans c7⟩)
  obtain ⟨A1, hA1⟩ : ∃ v, v = a.extract 0 off := ⟨_, rfl⟩
  obtain ⟨A3, hA3⟩ : ∃ v, v = a.extract e a.size := ⟨_, rfl⟩
  have HA := hide (And.intro hA1 (And.intro hA3 (show A1.size ≤ 268435456 ∧ A3.size ≤ 268435456 by rw [hA1, hA3, ByteArray.size_extract, ByteArray.size_extract]; omega)))
  clear hW1 he hie hOV c6 c7 c9 hA1 hA3
  
  refine wp_region_local (by kernel_rfl) (by kernel_rfl) (useList wfnU) [12] (by kernel_rfl) (spR (wfnL w a b x A1 A3 off b6 b7 b9 e)) (fun k u => k < 13 → Below W1.heap.size W1 u) (Moved (fun k => k = w.heap.size) W1) (oneE 12 (fun _ _ => True)) (one_stays (by simp [wfnL]) (by kernel_rfl)) (last_pre (fun _ _ h hb => h.trans (hb.mono h.size)) (by kernel_rfl)) (one_refl (fun _ => trivial)) (dsts_lt (N := 26) (by kernel_rfl)) ((Moved.refl _ _).drew) (fun _ _ _ => (Below.refl _ _).drew) (all_ops ?_) ?_
  · refine And.intro ?_ ?_
    · refine lstep_run fun fr wf left => ?_
      have o4 := (left.old 4 (by kernel_rfl)).trans rfl
      refine ⟨wanted_none rfl, fun K hK => ?_⟩
      have hB := hide left.base; have hP := hide (left.pre (by decide))
      clear left
      go_simp
      exact hK _ _ rfl hB.out (one_refl (fun _ => trivial) _ _)
    refine And.intro ?_ ?_
    · refine lstep_run fun fr wf left => ?_
      obtain ⟨x0, e0, r0⟩ := left.slot 26 rfl 0 13 _ rfl rfl (by decide) rfl
      have s0 := Eq.symm (show x0 = .pointer (some ⟨w.heap.size, 0, none⟩) from r0)
      subst s0
      refine ⟨wanted_none rfl, fun K hK => ?_⟩
      have hB := hide left.base; have hP := hide (left.pre (by decide))
      have hc := (hP.out.cell (p := ⟨w.heap.size, 0, none⟩) CA.out.1).trans CA.out.2
      clear left
      go_simp
      exact hK _ _ rfl hB.out (one_refl (fun _ => trivial) _ _)
    refine And.intro ?_ ?_
    · refine lstep_run fun fr wf left => ?_
      have o1 := (left.old 1 (by kernel_rfl)).trans rfl
      refine ⟨wanted_none rfl, fun K hK => ?_⟩
      have hB := hide left.base; have hP := hide (left.pre (by decide))
      have hc := (hP.out.cell (p := ⟨b6, 0, none⟩) C6.out.1).trans C6.out.2
      clear left
      go_simp
      exact hK _ _ rfl hB.out (one_refl (fun _ => trivial) _ _)
    refine And.intro ?_ ?_
    · refine lstep_run fun fr wf left => ?_
      obtain ⟨x1, e1, r1⟩ := left.slot 26 rfl 1 14 _ rfl rfl (by decide) rfl
      have s1 := Eq.symm (show x1 = .string a from r1)
      subst s1
      obtain ⟨x2, e2, r2⟩ := left.slot 26 rfl 2 15 _ rfl rfl (by decide) rfl
      have s2 := Eq.symm (show x2 = .int .i64 (off : Int) from r2)
      subst s2
      refine ⟨wanted_none rfl, fun K hK => ?_⟩
      have hB := hide left.base; have hP := hide (left.pre (by decide))
      have hsl := fun u => run_slice_string (P := Tryz.prog) u 9 a .i64 .i64 0 (off : Int) Tryz.underlying9 (by omega) (by omega) (by omega)
      clear left
      go_simp
      exact hK _ _ (congrArg Value.string HA.out.1.symm) hB.out (one_refl (fun _ => trivial) _ _)
    refine And.intro ?_ ?_
    · refine lstep_run fun fr wf left => ?_
      have o2 := (left.old 2 (by kernel_rfl)).trans rfl
      refine ⟨wanted_none rfl, fun K hK => ?_⟩
      have hB := hide left.base; have hP := hide (left.pre (by decide))
      have hc := (hP.out.cell (p := ⟨b7, 0, none⟩) C7.out.1).trans C7.out.2
      clear left
      go_simp
      exact hK _ _ rfl hB.out (one_refl (fun _ => trivial) _ _)
    refine And.intro ?_ ?_
    · refine lstep_run fun fr wf left => ?_
      obtain ⟨x3, e3, r3⟩ := left.slot 26 rfl 3 16 _ rfl rfl (by decide) rfl
      have s3 := Eq.symm (show x3 = .string A1 from r3)
      subst s3
      obtain ⟨x4, e4, r4⟩ := left.slot 26 rfl 4 17 _ rfl rfl (by decide) rfl
      have s4 := Eq.symm (show x4 = .string x from r4)
      subst s4
      refine ⟨wanted_none rfl, fun K hK => ?_⟩
      have hB := hide left.base; have hP := hide (left.pre (by decide))
      have hsum : ¬ (9223372036854775807 < A1.size + x.size) := by have := HA.out.2.2.1; omega
      clear left
      go_simp
      exact hK _ _ rfl hB.out (one_refl (fun _ => trivial) _ _)
    refine And.intro ?_ ?_
    · refine lstep_run fun fr wf left => ?_
      have o4 := (left.old 4 (by kernel_rfl)).trans rfl
      refine ⟨wanted_none rfl, fun K hK => ?_⟩
      have hB := hide left.base; have hP := hide (left.pre (by decide))
      clear left
      go_simp
      exact hK _ _ rfl hB.out (one_refl (fun _ => trivial) _ _)
    refine And.intro ?_ ?_
    · refine lstep_run fun fr wf left => ?_
      obtain ⟨x6, e6, r6⟩ := left.slot 26 rfl 6 19 _ rfl rfl (by decide) rfl
      have s6 := Eq.symm (show x6 = .pointer (some ⟨w.heap.size, 0, none⟩) from r6)
      subst s6
      refine ⟨wanted_none rfl, fun K hK => ?_⟩
      have hB := hide left.base; have hP := hide (left.pre (by decide))
      have hc := (hP.out.cell (p := ⟨w.heap.size, 0, none⟩) CA.out.1).trans CA.out.2
      clear left
      go_simp
      exact hK _ _ rfl hB.out (one_refl (fun _ => trivial) _ _)
    refine And.intro ?_ ?_
    · refine lstep_run fun fr wf left => ?_
      have o6 := (left.old 6 (by kernel_rfl)).trans rfl
      refine ⟨wanted_none rfl, fun K hK => ?_⟩
      have hB := hide left.base; have hP := hide (left.pre (by decide))
      clear left
      go_simp
      exact hK _ _ rfl hB.out (one_refl (fun _ => trivial) _ _)
    refine And.intro ?_ ?_
    · refine lstep_run fun fr wf left => ?_
      obtain ⟨x7, e7, r7⟩ := left.slot 26 rfl 7 20 _ rfl rfl (by decide) rfl
      have s7 := Eq.symm (show x7 = .string a from r7)
      subst s7
      obtain ⟨x8, e8, r8⟩ := left.slot 26 rfl 8 21 _ rfl rfl (by decide) rfl
      have s8 := Eq.symm (show x8 = .int .i64 (e : Int) from r8)
      subst s8
      refine ⟨wanted_none rfl, fun K hK => ?_⟩
      have hB := hide left.base; have hP := hide (left.pre (by decide))
      clear left
      go_simp
      exact hK _ _ (congrArg Value.string HA.out.2.1.symm) hB.out (one_refl (fun _ => trivial) _ _)
    refine And.intro ?_ ?_
    · refine lstep_run fun fr wf left => ?_
      obtain ⟨x5, e5, r5⟩ := left.slot 26 rfl 5 18 _ rfl rfl (by decide) rfl
      have s5 := Eq.symm (show x5 = .string (A1 ++ x) from r5)
      subst s5
      obtain ⟨x9, e9, r9⟩ := left.slot 26 rfl 9 22 _ rfl rfl (by decide) rfl
      have s9 := Eq.symm (show x9 = .string A3 from r9)
      subst s9
      refine ⟨wanted_none rfl, fun K hK => ?_⟩
      have hB := hide left.base; have hP := hide (left.pre (by decide))
      have hsum : ¬ (9223372036854775807 < A1.size + x.size + A3.size) := by have := HA.out.2.2.1; have := HA.out.2.2.2; omega
      clear left
      go_simp
      exact hK _ _ rfl hB.out (one_refl (fun _ => trivial) _ _)
    refine And.intro ?_ ?_
    · refine lstep_run fun fr wf left => ?_
      have o4 := (left.old 4 (by kernel_rfl)).trans rfl
      refine ⟨wanted_none rfl, fun K hK => ?_⟩
      have hB := hide left.base; have hP := hide (left.pre (by decide))
      clear left
      go_simp
      exact hK _ _ rfl hB.out (one_refl (fun _ => trivial) _ _)
    refine And.intro ?_ ?_
    · refine lstep_run fun fr wf left => ?_
      obtain ⟨x10, e10, r10⟩ := left.slot 26 rfl 10 23 _ rfl rfl (by decide) rfl
      have s10 := Eq.symm (show x10 = .string (A1 ++ x ++ A3) from r10)
      subst s10
      obtain ⟨x11, e11, r11⟩ := left.slot 26 rfl 11 24 _ rfl rfl (by decide) rfl
      have s11 := Eq.symm (show x11 = .pointer (some ⟨w.heap.size, 0, none⟩) from r11)
      subst s11
      refine ⟨wanted_none rfl, fun K hK => ?_⟩
      have hB := hide left.base; have hP := hide (left.pre (by decide))
      clear left
      have hbk := (hP.out.block w.heap.size CA.out.1).trans CB.out
      have hc := (cell_blk hbk 0).trans rfl
      have hf0 := frozen_blk hbk 0
      go_simp
      refine hK undef _ ?_ (hB.out.setCell (a := ⟨w.heap.size, 0, none⟩) rfl _) (one_at rfl)
      exact (heap_setCell_same _ _ _ _ _ _ hbk).trans (by simp)
    exact trivial
  · intro fr wf hB hs hd hall hkeep
    have h12 : wf.heap[w.heap.size]? = some (.cells #[.string (A1 ++ x ++ A3), .string b] 96 (0, 0)) := hall 12 _ rfl (by simp)
    have hfr := act_ext (frame_set hs hkeep [13, 14, 15, 16, 17, 18, 19, 20, 21, 22, 23, 24] (by kernel_rfl)) hd
    obtain ⟨q13, hq13⟩ : ∃ q, q = fr.tmps.getD 13 undef := ⟨_, rfl⟩
    obtain ⟨q14, hq14⟩ : ∃ q, q = fr.tmps.getD 14 undef := ⟨_, rfl⟩
    obtain ⟨q15, hq15⟩ : ∃ q, q = fr.tmps.getD 15 undef := ⟨_, rfl⟩
    obtain ⟨q16, hq16⟩ : ∃ q, q = fr.tmps.getD 16 undef := ⟨_, rfl⟩
    obtain ⟨q17, hq17⟩ : ∃ q, q = fr.tmps.getD 17 undef := ⟨_, rfl⟩
    obtain ⟨q18, hq18⟩ : ∃ q, q = fr.tmps.getD 18 undef := ⟨_, rfl⟩
    obtain ⟨q19, hq19⟩ : ∃ q, q = fr.tmps.getD 19 undef := ⟨_, rfl⟩
    obtain ⟨q20, hq20⟩ : ∃ q, q = fr.tmps.getD 20 undef := ⟨_, rfl⟩
    obtain ⟨q21, hq21⟩ : ∃ q, q = fr.tmps.getD 21 undef := ⟨_, rfl⟩
    obtain ⟨q22, hq22⟩ : ∃ q, q = fr.tmps.getD 22 undef := ⟨_, rfl⟩
    obtain ⟨q23, hq23⟩ : ∃ q, q = fr.tmps.getD 23 undef := ⟨_, rfl⟩
    obtain ⟨q24, hq24⟩ : ∃ q, q = fr.tmps.getD 24 undef := ⟨_, rfl⟩
    simp only [List.foldl, ← hq13, ← hq14, ← hq15, ← hq16, ← hq17, ← hq18, ← hq19, ← hq20, ← hq21, ← hq22, ← hq23, ← hq24] at hfr
    simp only [List.setIfInBounds_toArray, List.set_cons_zero, List.set_cons_succ] at hfr
    clear hall hkeep hs hd hq13 hq14 hq15 hq16 hq17 hq18 hq19 hq20 hq21 hq22 hq23 hq24
    subst hfr
    have hr := (hB.block (w.heap.size + 1) (by rw [HS1.out]; omega) (by omega)).trans CR.out
    have HH := hide h12
    have HRR := hide hr
    have HBF := hide hB
    clear h12 hr hB
    go_wp2_with (first | refine wpList_load_row rfl 96 (.tmp 4) rfl w.heap.size rfl 96 _ (0, 0) _ HH.out Tryz.underlying96 rfl (by kernel_rfl) ?_ | refine wpList_store_row rfl 96 (.tmp 5) (.tmp 25) rfl (w.heap.size + 1) _ rfl rfl 96 _ HRR.out (by kernel_rfl) rfl (by simp [Value.oneCell']) ?_)
    refine bodyPost_ret (results_cell_row rfl _ _ (w.heap.size + 1) 96 _ (0, 0) _ rfl (setRow_heap _ _ _ _ _ _ HRR.out) Tryz.underlying96 rfl (by kernel_rfl)) rfl ⟨?_, ?_⟩
    · show Ending.returned (.agg #[.string (A1 ++ x ++ A3), .string b]) = .returned (.agg #[.string (Dk.over a off x), .string b])
      rw [HOV.out, HA.out.1, HA.out.2.1]
    · exact Go.below_setRow (HB1.out.trans (HBF.out.below (by rw [HS1.out]; omega) (fun j hj => by omega))) (by omega) _
end Go.Proofs.YtbfbajfdlkgloaaGreatDoor
