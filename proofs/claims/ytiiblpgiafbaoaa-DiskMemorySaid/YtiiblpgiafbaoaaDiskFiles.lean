/-
  The program's disk: Files, and the choosing of what stays (After's function values).
-/
import Derived.Test.YtiiblpgiafbaoaaDiskToldW
import Derived.BigQuiet
import Derived.WalkSmall
namespace Go.Proofs.Ytiiblpgiafbaoaa
open Go Go.RowKit Go.Maps
namespace Dk
def files (s : St) : List (ByteArray × ByteArray) := pick s.files (s.files.map fun p => p.2.now)
/-- The choice that comes next, and how many have been taken behind it. -/
def choose (keep : List Bool) (c : Nat) : Bool × Nat := if keep = [] then (false, c) else (keep.getD (c % keep.length) false, c + 1)
end Dk
theorem enters_files : Enters Try.prog 40 := enters_of Try.func40 (by kernel_rfl) rfl
set_option maxRecDepth 100000 in
theorem filesFn_any (f : Dk.F) (w : World) :
    Calls Try.prog 40 (#[Dk.valF f] ++ #[]) w fun e w' => e = .returned (.string f.now) ∧ Below w.heap.size w w' := by
  show Calls Try.prog 40 #[.agg #[.string f.now, .string f.was]] w _
  obtain ⟨a, b⟩ := f
  go_enter Try.func40, Try.ntmps40
  go_wp2_with fail
  go_ret
  exact ⟨rfl, (Below.refl _ _).alloc (Nat.le_refl _) _⟩
set_option maxRecDepth 100000 in
theorem diskFiles_any (D : Dk.Blk) (s : Dk.St) (w : World) (h : DiskAt w D s) :
    Calls Try.prog 22 #[.pointer (some ⟨D.g, 0, none⟩)] w fun e w' => ∃ v, e = .returned v ∧ w'.ownsRow w.heap.size 42 2 v (Dk.files s).length (flatF (Dk.files s)) ∧ Below w.heap.size w w' := by
  have HD := hide h
  clear h
  go_enter Try.func22, Try.ntmps22
  go_wp2_with fail
  refine (diskTold_any (I := fun _ u => True) (S := fun _ => False) D s 40 #[] (s.files.map fun p => p.2.now) w HD.out (by simp) enters_files ⟨id, id, fun _ _ => id⟩ (fun _ h => h.elim) trivial (fun _ _ _ _ _ => trivial)
    (fun j p r u hp hr _ => ?_)).mono ?_
  · have e : r = p.2.now := by
      rw [List.getElem?_map, hp] at hr
      exact (Option.some.inj hr).symm
    rw [e]
    refine (filesFn_any p.2 u).mono ?_
    rintro e u' ⟨rfl, hb⟩
    exact ⟨rfl, trivial, Moved.of_below hb⟩
  · rintro e w1 ⟨v, rfl, hown, _, hm⟩
    have H1 := hide (And.intro hown (hm.below (B := w.heap.size) (Nat.le_refl _) (fun _ h => h.elim)))
    clear hown hm
    go_wp2_with fail
    go_ret
    exact ⟨v, rfl, H1.out.1, H1.out.2⟩
theorem enters_choose : Enters Try.prog 41 := enters_of Try.func41 (by kernel_rfl) rfl
set_option maxHeartbeats 1600000 in
set_option maxRecDepth 100000 in
theorem choose_any (b3 b5 : Nat) (kv : Value) (keep : List Bool) (c : Nat) (w : World) (h3 : w.heap[b3]? = some (.cells #[kv] 28 (0, 0))) (h5 : w.heap[b5]? = some (.cells #[.int .i64 (c : Int)] 3 (0, 0))) (hk : SlV w kv (keep.map Value.bool))
    (hne : Dk.slBlk kv ≠ some b5) (hne2 : b3 ≠ b5) (hc : c ≤ 9223372036854775806) (hl : keep.length ≤ 140737488351232) :
    Calls Try.prog 41 #[.pointer (some ⟨b3, 0, none⟩), .pointer (some ⟨b5, 0, none⟩)] w fun e w' => e = .returned (.bool (Dk.choose keep c).1) ∧ w'.heap[b5]? = some (.cells #[.int .i64 ((Dk.choose keep c).2 : Int)] 3 (0, 0)) ∧ Moved (fun k => k = b5) w w' := by
  obtain ⟨len, a, cap, hll, rfl, hlc, HCv⟩ := hk.form
  rw [List.length_map] at hll
  have c3 : w.cell? ⟨b3, 0, none⟩ = some (.slice a len cap) := (cell_blk h3 0).trans rfl
  have c5 : w.cell? ⟨b5, 0, none⟩ = some (.int .i64 (c : Int)) := (cell_blk h5 0).trans rfl
  have f5 := frozen_blk h5 0
  have H5 := hide h5
  have HC := hide HCv
  have HL := hide hll
  have hll2 : len ≤ 140737488351232 := by omega
  clear hk h3 h5 HCv hll
  go_enter Try.func41, Try.ntmps41
  by_cases h0 : len = 0
  · have hk0 : keep = [] := List.eq_nil_of_length_eq_zero (by rw [← HL.out]; exact h0)
    subst hk0
    subst h0
    go_wp2_with fail
    go_ret
    exact ⟨rfl, H5.out, Moved.refl _ _⟩
  · have hk0 : keep ≠ [] := fun e => h0 (by rw [HL.out, e]; rfl)
    have hpos : 0 < len := by omega
    have HK := hide hk0
    clear hk0
    go_upto_region 4 with (fail)
    obtain ⟨W1, hW1⟩ : ∃ V, V = w.setCell ⟨b5, 0, none⟩ (.int .i64 ((c : Int) + 1)) := ⟨_, rfl⟩
    rw [← hW1]
    obtain ⟨i, hi⟩ : ∃ i, i = c % len := ⟨_, rfl⟩
    have hil : i < len := by rw [hi]; exact Nat.mod_lt _ hpos
    have him : (c : Int).tmod (len : Int) = (i : Int) := by rw [hi]; rfl
    obtain ⟨b, off, rfl, hbw, hcell⟩ := HC.out i hil
    have hbne : b ≠ b5 := fun e => hne (by rw [e, Dk.slBlk_some, if_neg h0])
    have hm1 : Moved (fun k => k = b5) w W1 := by rw [hW1]; exact Moved.setCell (S := fun k => k = b5) (Moved.refl _ _) (a := ⟨b5, 0, none⟩) rfl _
    have e3 : W1.cell? ⟨b3, 0, none⟩ = some (.slice (some ⟨b, off, none⟩) len cap) := by
      rw [World.cell?_of_block (a := ⟨b3, 0, none⟩) (hm1.block b3 (by
        rcases Nat.lt_or_ge b3 w.heap.size with h | h
        · exact h
        · simp [World.cell?, Array.getElem?_eq_none h] at c3) hne2)]; exact c3
    have e5 : W1.cell? ⟨b5, 0, none⟩ = some (.int .i64 ((c : Int) + 1)) := by rw [hW1]; exact World.cell?_setCell_same _ _ _ c5
    have ei : W1.cell? ⟨b, off + i, none⟩ = some (.bool (keep.getD i false)) := by
      rw [World.cell?_of_block (a := ⟨b, off + i, none⟩) (hm1.block b hbw hbne), hcell, getD_map _ _ _ false (by rw [← HL.out]; exact hil)]
    obtain ⟨ans, hans⟩ : ∃ v, v = keep.getD i false := ⟨_, rfl⟩
    rw [← hans] at ei
    have HR := hide (show Dk.choose keep c = (ans, c + 1) by unfold Dk.choose; rw [if_neg HK.out, hans, hi, HL.out])
    have H51 := hide (show W1.heap[b5]? = some (.cells #[.int .i64 ((c : Int) + 1)] 3 (0, 0)) by rw [hW1]; exact (heap_setCell_same _ _ _ _ _ _ H5.out).trans (by simp))
    have HM1 := hide hm1
    have hz0 : ((len : Int) == 0) = false := by rw [beq_eq_false_iff_ne]; omega
    clear hW1 hi hcell hbw hbne hm1 hans c3 c5 f5 hne
    go_quiet (fail)
    go_wp2_with fail
    go_ret
    refine ⟨by rw [HR.out]; rfl, ?_, HM1.out.then (Moved.of_below (below_drewN (Below.refl _ _) _))⟩
    rw [HR.out]
    simpa using H51.out
#print axioms choose_any
end Go.Proofs.Ytiiblpgiafbaoaa
