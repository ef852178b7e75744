/-
  The program's disk: Lay (and slices.Clone of a list of choices).
-/
import Derived.Test.YtbfbajfdlkgloaaGreatDoorG17
import Derived.Test.YtbfbajfdlkgloaaGreatDoorG26
import Derived.Deep.MidRow
import Derived.Deep.CutBlock
import Derived.Lib.LazyBuf
namespace Go.Proofs.YtbfbajfdlkgloaaGreatDoor
open Go Go.RowKit Go.Maps
namespace Dk
def layC (s : St) (at_ kind : Int) (keep : List Bool) : St :=
  if s.down = true then s else if 1 ≤ at_ ∧ 1 ≤ kind ∧ kind ≤ 5 then { s with fat := at_, kind := kind, keep := keep, left := at_ } else { s with left := 0 }
end Dk
theorem info_bool : (Tryz.prog.info? 4).map (fun i => (i.zero, i.size, i.bytes)) = some (some (.bool false), 1, 1) := by kernel_rfl
theorem owns_empty (w : World) (T : Nat) : (w.alloc (.cells #[] T)).ownsRow w.heap.size T 1 (.slice (some ⟨w.heap.size, 0, none⟩) 0 0) 0 [] :=
  ⟨rfl, .inr ⟨w.heap.size, 0, #[], rfl, Nat.le_refl _, alloc_at _ _, Nat.le_refl _, Nat.zero_le _, rfl, rfl⟩⟩
set_option maxRecDepth 100000 in
theorem cloneBools_any (kv : Value) (keep : List Bool) (w : World) (hkv : SlV w kv (keep.map Value.bool)) (hkl : keep.length ≤ 140737488351232) :
    Calls Tryz.prog 91 #[kv] w fun e w' => ∃ v, e = .returned v ∧ w'.ownsRow w.heap.size 4 1 v keep.length (keep.map Value.bool) ∧ Below w.heap.size w w' := by
  have HKV := hide hkv
  have HKL := hide hkl
  obtain ⟨len, a, cap, hll, rfl, hlc, HCv⟩ := hkv.form
  clear hkv HCv hkl
  by_cases hnil : a = none
  · subst hnil
    have hk : keep = [] ∧ len = 0 ∧ cap = 0 := by
      rcases HKV.out with ⟨h, a', cap', hv, hn⟩ | ⟨b, off, cap', hv, _⟩
      · injection hv with h1 h2 h3
        exact ⟨by simpa using h, h2, by rw [h3]; exact hn h1.symm⟩
      · injection hv with h1; cases h1
    obtain ⟨rfl, rfl, rfl⟩ := hk
    clear hll hlc
    have heq : ∀ u : World, (binOp .eql 71 (.slice none 0 0) (.slice none 0 0)).run Tryz.prog u = .ok (.bool true) u := fun u => run_eql_slice_nil u _ _ _ _ _ Tryz.underlying71
    go_enter Tryz.func91, Tryz.ntmps91
    go_wp2_with fail
    go_ret
    exact ⟨_, rfl, World.ownsRow_nil _ _ _ _, Below.refl _ _⟩
  · obtain ⟨ad, rfl⟩ : ∃ x, a = some x := by cases a with | none => exact absurd rfl hnil | some x => exact ⟨x, rfl⟩
    clear hnil
    have HLL := hide hll
    clear hll
    have heq : ∀ u : World, (binOp .eql 71 (.slice (some ad) len cap) (.slice none 0 0)).run Tryz.prog u = .ok (.bool false) u := fun u => run_eql_slice_nil u _ _ _ _ _ Tryz.underlying71
    go_enter Tryz.func91, Tryz.ntmps91
    go_wp2_with (at_builtin; refine wpList_append_slv rfl _ _ 71 rfl w.heap.size 4 (.bool false) 1 Tryz.underlying71 info_bool rfl _ 0 [] rfl (owns_empty w _) _ (keep.map Value.bool) rfl (HKV.out.below ((Below.refl _ _).alloc (Nat.le_refl _) _)) ?_ ?_ ?_ ?_ ?_)
    · intro u hu
      obtain ⟨b, _, rfl⟩ := List.mem_map.1 hu
      rfl
    · rw [List.length_map]; have := HKL.out; unfold maxLen; omega
    · rw [List.length_map]; have := HKL.out; omega
    · simp
    · intro v' w' hown hgr
      have hb : Below w.heap.size w w' := by
        have h1 : Below w.heap.size w (w.alloc (.cells #[] 4)) := (Below.refl _ _).alloc (Nat.le_refl _) _
        exact below_grown h1 (owns_empty w _) hgr (Nat.le_refl _) (by simp)
      have HO := hide (And.intro hown hb)
      clear hown hgr hb
      go_wp2_with fail
      go_ret
      refine ⟨_, rfl, ?_, HO.out.2⟩
      exact HO.out.1
/-- The disk behind Lay: its struct and its map lie where they lay; its list of choices may be new. -/
def Laid (D : Dk.Blk) (w w' : World) (s' : Dk.St) : Prop :=
  ∃ D' : Dk.Blk, D'.g = D.g ∧ D'.mb = D.mb ∧ (D'.kv = D.kv ∨ ∀ k, Dk.slBlk D'.kv = some k → w.heap.size ≤ k) ∧ DiskAt w' D' s' ∧ Moved (fun k => k = D.g) w w'
def layaL (D : Dk.Blk) (s : Dk.St) (at_ kind : Int) (a : Option Addr) (len cap bx : Nat) : List Sp :=
  [.is (.pointer (some ⟨D.g, 0, none⟩)), .is (.pointer (some ⟨D.g, 0, none⟩)), .is (.agg #[.int .i64 at_, .int .i64 kind, .slice a len cap]), .is (.pointer (some ⟨bx, 0, none⟩)), .is (.int .i64 at_), .is (.pointer (some ⟨D.g, 0, none⟩)), .is (.pointer (some ⟨D.g, 3, none⟩)), .say (fun u => u.heap[D.g]? = some (.cells #[.int .i64 s.room, .map (some D.mb), .int .i64 (s.acts : Int), .int .i64 at_, .int .i64 kind, .slice a len cap, .int .i64 0, .bool s.down] 87 (0, 0))) (blk_stable), .is (.pointer (some ⟨D.g, 0, none⟩)), .is (.pointer (some ⟨D.g, 6, none⟩)), .say (fun u => u.heap[D.g]? = some (.cells #[.int .i64 s.room, .map (some D.mb), .int .i64 (s.acts : Int), .int .i64 at_, .int .i64 kind, .slice a len cap, .int .i64 at_, .bool s.down] 87 (0, 0))) (blk_stable)]
def layaU : List (List Nat) := [[], [], [], [], [3], [0], [5], [2, 6], [1], [8], [4, 7, 9]]
set_option maxHeartbeats 3200000 in
set_option maxRecDepth 100000 in
theorem diskLay_any (D : Dk.Blk) (s : Dk.St) (at_ kind : Int) (kv : Value) (keep : List Bool) (w : World) (h : DiskAt w D s) (hat : (Lit.int .i64 at_).wf = true) (hkv : SlV w kv (keep.map Value.bool)) (hkl : keep.length ≤ 140737488351232) (hap : Dk.slBlk kv ≠ some D.g) :
    Calls Tryz.prog 39 #[.pointer (some ⟨D.g, 0, none⟩), .agg #[.int .i64 at_, .int .i64 kind, kv]] w fun e w' => e = .returned (.tuple #[]) ∧ Laid D w w' (Dk.layC s at_ kind keep) := by
  have c7 := h.c7
  obtain ⟨dn, hd⟩ : ∃ d, d = s.down := ⟨_, rfl⟩
  rw [← hd] at c7
  obtain ⟨s', hs'⟩ : ∃ t, t = Dk.layC s at_ kind keep := ⟨_, rfl⟩
  have HS := hide (show s' = if dn = true then s else if 1 ≤ at_ ∧ 1 ≤ kind ∧ kind ≤ 5 then { s with fat := at_, kind := kind, keep := keep, left := at_ } else { s with left := 0 } by rw [hs', hd]; rfl)
  rw [← hs']
  have hat2 : at_ ≤ 9223372036854775807 := by
    have h : IntKind.i64.min ≤ at_ ∧ at_ ≤ IntKind.i64.max := by simpa [Lit.wf] using hat
    exact h.2
  have HD := hide h
  have HKV := hide hkv
  have HKL := hide hkl
  obtain ⟨len, a, cap, hll, rfl, hlc, HCv⟩ := hkv.form
  clear hs' hd h hkv hkl hll hlc HCv hat
  obtain ⟨bx, hbx⟩ : ∃ x, x = w.heap.size := ⟨_, rfl⟩
  obtain ⟨W1, hW1⟩ : ∃ V, V = w.alloc (.cells #[.int .i64 at_, .int .i64 kind, .slice a len cap] 79) := ⟨_, rfl⟩
  have hb1 : Below w.heap.size w W1 := by rw [hW1]; exact (Below.refl _ _).alloc (Nat.le_refl _) _
  have hbk : W1.heap[bx]? = some (.cells #[.int .i64 at_, .int .i64 kind, .slice a len cap] 79 (0, 0)) := by rw [hW1, hbx]; exact alloc_at _ _
  have HD1 := hide (HD.out.past hb1)
  have HBX := hide (show ¬ bx = D.g ∧ ¬ bx = D.mb ∧ D.g < W1.heap.size from by have h1 := HD.out.glt; have h2 := HD.out.map.lt; have h3 := hb1.size; refine ⟨by omega, by omega, by omega⟩)
  have HB1 := hide (And.intro hb1 hbk)
  replace c7 : W1.cell? ⟨D.g, 7, none⟩ = some (.bool dn) := (hb1.cell (p := ⟨D.g, 7, none⟩) HD.out.glt).trans c7
  have c6 : W1.cell? ⟨D.g, 6, none⟩ = some (.int .i64 s.left) := HD1.out.c6
  have f6 := HD1.out.free 6
  clear hb1 hbk
  go_enter Tryz.func39, Tryz.ntmps39
  go_upto_region 1 with (fail)
  rw [← hW1, ← hbx]
  clear hW1 hbx
  cases dn with
  | true =>
    have HE := hide (show s' = s from HS.out.trans (if_pos rfl))
    go_wp2_with fail
    refine bodyPost_ret (results_none rfl _ _ _) rfl ⟨rfl, D, rfl, rfl, .inl rfl, ?_, Moved.of_below HB1.out.1⟩
    rw [HE.out]; exact HD1.out
  | false =>
    go_upto_region 3 with (fail)
    obtain ⟨W2, hW2⟩ : ∃ V, V = W1.setCell ⟨D.g, 6, none⟩ (.int .i64 0) := ⟨_, rfl⟩
    rw [← hW2]
    have HM2 := hide (show Moved (fun k => k = D.g) W1 W2 by rw [hW2]; exact Moved.setCell (S := fun k => k = D.g) (Moved.refl _ _) (a := ⟨D.g, 6, none⟩) rfl _)
    have ho := HD.out.ok
    have HD2 := hide (show DiskAt W2 D { s with left := 0 } by
      rw [hW2]
      exact HD1.out.poke 6 (.int .i64 0) (by simp [Dk.cells]) rfl rfl ⟨ho.room, ho.acts, ⟨Int.le_refl _, by show (0 : Int) ≤ _; decide⟩, ho.names, ho.many, ho.sizes, ho.up⟩)
    have HBK := hide ((HM2.out.block bx (heap_lt HB1.out.2) HBX.out.1).trans HB1.out.2)
    have k0 : W2.cell? ⟨bx, 0, none⟩ = some (.int .i64 at_) := (cell_blk HBK.out 0).trans rfl
    have k1 : W2.cell? ⟨bx, 1, none⟩ = some (.int .i64 kind) := (cell_blk HBK.out 1).trans rfl
    obtain ⟨gd, hgd⟩ : ∃ b : Bool, b = decide (1 ≤ at_ ∧ 1 ≤ kind ∧ kind ≤ 5) := ⟨_, rfl⟩
    have HGD := hide hgd
    clear hW2 c6 c7 f6 hgd ho
    go_cut [23] from 11 to 24 (fun v23 wx => Hid (v23 = .bool gd ∧ wx = W2))
    case first =>
      by_cases e1 : 1 ≤ at_
      · by_cases e2 : 1 ≤ kind
        · by_cases e3 : kind ≤ 5
          · have hb : gd = true := by rw [HGD.out]; exact decide_eq_true ⟨e1, e2, e3⟩
            subst hb
            go_wp2_with fail
            go_meet
            case rel => exact ⟨rfl, rfl⟩
          · have hb : gd = false := by rw [HGD.out]; exact decide_eq_false (fun h => e3 h.2.2)
            subst hb
            go_wp2_with fail
            go_meet
            case rel => exact ⟨rfl, rfl⟩
        · have hb : gd = false := by rw [HGD.out]; exact decide_eq_false (fun h => e2 h.2.1)
          subst hb
          go_wp2_with fail
          go_meet
          case rel => exact ⟨rfl, rfl⟩
      · have hb : gd = false := by rw [HGD.out]; exact decide_eq_false (fun h => e1 h.1)
        subst hb
        go_wp2_with fail
        go_meet
        case rel => exact ⟨rfl, rfl⟩
    case rest =>
      obtain ⟨rfl, rfl⟩ := hcut.out
      clear hcut
      cases gd with
      | false =>
        have hg := of_decide_eq_false HGD.out.symm
        have HE := hide (show s' = { s with left := 0 } from (HS.out.trans (if_neg (by decide))).trans (if_neg hg))
        clear hg
        go_wp2_with fail
        refine bodyPost_end (results_none rfl _ _ _) rfl ⟨rfl, D, rfl, rfl, .inl rfl, ?_, (Moved.of_below HB1.out.1).then HM2.out⟩
        rw [HE.out]; exact HD2.out
      | true =>
        have hg := of_decide_eq_true HGD.out.symm
        have HG := hide hg
        have HE := hide (show s' = { s with fat := at_, kind := kind, keep := keep, left := at_ } from (HS.out.trans (if_neg (by decide))).trans (if_pos hg))
        have HF := hide (show wc.heap[D.g]? = some (Obj.cells #[.int .i64 s.room, .map (some D.mb), .int .i64 (s.acts : Int), .int .i64 s.fat, .int .i64 s.kind, D.kv, .int .i64 0, .bool s.down] 87 (0, 0)) from HD2.out.cells)
        clear hg
        go_upto_region 4 with (fail)
        
        refine wp_region_local (by kernel_rfl) (by kernel_rfl) (useList layaU) [10] (by kernel_rfl) (spR (layaL D s at_ kind a len cap bx)) (onePre 7 (fun u => u.heap[D.g]? = some (.cells #[.int .i64 s.room, .map (some D.mb), .int .i64 (s.acts : Int), .int .i64 s.fat, .int .i64 s.kind, D.kv, .int .i64 0, .bool s.down] 87 (0, 0)))) (Moved (fun k => k = D.g) wc) (setE [7, 10]) (set_stays (by simp [layaL]) (by kernel_rfl)) (set_pre (fun _ _ h hb => blk_stable _ _ h hb) (by kernel_rfl)) set_refl (dsts_lt (N := 40) (by kernel_rfl)) ((Moved.refl _ _).drew) (fun _ _ => one_start HF.out) (all_ops ?_) ?_
        · refine And.intro ?_ ?_
          · refine lstep_run fun fr wf left => ?_
            have o0 := (left.old 0 (by kernel_rfl)).trans rfl
            refine ⟨wanted_none rfl, fun K hK => ?_⟩
            have hB := hide left.base
            clear left
            go_simp
            exact hK _ _ rfl hB.out (set_refl _ _)
          refine And.intro ?_ ?_
          · refine lstep_run fun fr wf left => ?_
            have o0 := (left.old 0 (by kernel_rfl)).trans rfl
            refine ⟨wanted_none rfl, fun K hK => ?_⟩
            have hB := hide left.base
            clear left
            go_simp
            exact hK _ _ rfl hB.out (set_refl _ _)
          refine And.intro ?_ ?_
          · refine lstep_run fun fr wf left => ?_
            have o3 := (left.old 3 (by kernel_rfl)).trans rfl
            refine ⟨wanted_none rfl, fun K hK => ?_⟩
            have hB := hide left.base
            have hk := (hB.out.block bx (heap_lt HBK.out) HBX.out.1).trans HBK.out
            clear left
            refine wp_load_mid 79 (.tmp 3) rfl bx 0 (eval_tmp (show fr.tmps[3]? = some (.pointer (some ⟨bx, 0, none⟩)) from o3)) [.int .i64 at_, .int .i64 kind, .slice a len cap] _ (fun j v hv => by rw [Nat.zero_add, cell_blk hk]; simpa using hv) Tryz.underlying79 rfl (by kernel_rfl) ?_
            exact hK _ _ rfl hB.out (set_refl _ _)
          refine And.intro ?_ ?_
          · refine lstep_run fun fr wf left => ?_
            have o3 := (left.old 3 (by kernel_rfl)).trans rfl
            refine ⟨wanted_none rfl, fun K hK => ?_⟩
            have hB := hide left.base
            clear left
            go_simp
            exact hK _ _ rfl hB.out (set_refl _ _)
          refine And.intro ?_ ?_
          · refine lstep_run fun fr wf left => ?_
            obtain ⟨x3, e3, r3⟩ := left.slot 40 rfl 3 27 _ rfl rfl (by decide) rfl
            have s3 := Eq.symm (show x3 = .pointer (some ⟨bx, 0, none⟩) from r3)
            subst s3
            refine ⟨wanted_none rfl, fun K hK => ?_⟩
            have hB := hide left.base
            have hk := (hB.out.block bx (heap_lt HBK.out) HBX.out.1).trans HBK.out
            have hc := (cell_blk hk 0).trans rfl
            clear left
            go_simp
            exact hK _ _ rfl hB.out (set_refl _ _)
          refine And.intro ?_ ?_
          · refine lstep_run fun fr wf left => ?_
            obtain ⟨x0, e0, r0⟩ := left.slot 40 rfl 0 24 _ rfl rfl (by decide) rfl
            have s0 := Eq.symm (show x0 = .pointer (some ⟨D.g, 0, none⟩) from r0)
            subst s0
            refine ⟨wanted_none rfl, fun K hK => ?_⟩
            have hB := hide left.base
            clear left
            go_simp
            exact hK _ _ rfl hB.out (set_refl _ _)
          refine And.intro ?_ ?_
          · refine lstep_run fun fr wf left => ?_
            obtain ⟨x5, e5, r5⟩ := left.slot 40 rfl 5 29 _ rfl rfl (by decide) rfl
            have s5 := Eq.symm (show x5 = .pointer (some ⟨D.g, 0, none⟩) from r5)
            subst s5
            refine ⟨wanted_none rfl, fun K hK => ?_⟩
            have hB := hide left.base
            clear left
            go_simp
            exact hK _ _ rfl hB.out (set_refl _ _)
          refine And.intro ?_ ?_
          · refine lstep_run fun fr wf left => ?_
            obtain ⟨x2, e2, r2⟩ := left.slot 40 rfl 2 26 _ rfl rfl (by decide) rfl
            have s2 := Eq.symm (show x2 = .agg #[.int .i64 at_, .int .i64 kind, .slice a len cap] from r2)
            subst s2
            obtain ⟨x6, e6, r6⟩ := left.slot 40 rfl 6 30 _ rfl rfl (by decide) rfl
            have s6 := Eq.symm (show x6 = .pointer (some ⟨D.g, 3, none⟩) from r6)
            subst s6
            refine ⟨wanted_none rfl, fun K hK => ?_⟩
            have hB := hide left.base; have hP := hide (one_pre_at left.pre rfl)
            clear left
            refine wp_store_mid 79 (.tmp 30) (.tmp 26) rfl D.g 3 #[.int .i64 at_, .int .i64 kind, .slice a len cap] (eval_tmp e6) (eval_tmp e2) (fun j hj => ?_) (by kernel_rfl) (by simp [Value.oneCell']) ?_
            · rw [cell_blk hP.out]
              refine ⟨?_, frozen_blk hP.out _⟩
              rcases j with _ | _ | _ | j
              · rfl
              · rfl
              · rfl
              · simp at hj; omega
            · refine hK _ _ ?_ (((hB.out.setCell (a := ⟨D.g, 3, none⟩) rfl _).setCell (a := ⟨D.g, 4, none⟩) rfl _).setCell (a := ⟨D.g, 5, none⟩) rfl _) (set_at rfl)
              have e1 := heap_setCell_same wf D.g 3 _ _ (.int .i64 at_) hP.out
              have e2 := heap_setCell_same _ D.g 4 _ _ (.int .i64 kind) e1
              have e3 := heap_setCell_same _ D.g 5 _ _ (.slice a len cap) e2
              exact e3.trans rfl
          refine And.intro ?_ ?_
          · refine lstep_run fun fr wf left => ?_
            obtain ⟨x1, e1, r1⟩ := left.slot 40 rfl 1 25 _ rfl rfl (by decide) rfl
            have s1 := Eq.symm (show x1 = .pointer (some ⟨D.g, 0, none⟩) from r1)
            subst s1
            refine ⟨wanted_none rfl, fun K hK => ?_⟩
            have hB := hide left.base
            clear left
            go_simp
            exact hK _ _ rfl hB.out (set_refl _ _)
          refine And.intro ?_ ?_
          · refine lstep_run fun fr wf left => ?_
            obtain ⟨x8, e8, r8⟩ := left.slot 40 rfl 8 31 _ rfl rfl (by decide) rfl
            have s8 := Eq.symm (show x8 = .pointer (some ⟨D.g, 0, none⟩) from r8)
            subst s8
            refine ⟨wanted_none rfl, fun K hK => ?_⟩
            have hB := hide left.base
            clear left
            go_simp
            exact hK _ _ rfl hB.out (set_refl _ _)
          refine And.intro ?_ ?_
          · refine lstep_run fun fr wf left => ?_
            obtain ⟨x4, e4, r4⟩ := left.slot 40 rfl 4 28 _ rfl rfl (by decide) rfl
            have s4 := Eq.symm (show x4 = .int .i64 at_ from r4)
            subst s4
            obtain ⟨x9, e9, r9⟩ := left.slot 40 rfl 9 32 _ rfl rfl (by decide) rfl
            have s9 := Eq.symm (show x9 = .pointer (some ⟨D.g, 6, none⟩) from r9)
            subst s9
            refine ⟨wanted_none rfl, fun K hK => ?_⟩
            have hB := hide left.base
            have r7 : wf.heap[D.g]? = some (.cells #[.int .i64 s.room, .map (some D.mb), .int .i64 (s.acts : Int), .int .i64 at_, .int .i64 kind, .slice a len cap, .int .i64 0, .bool s.down] 87 (0, 0)) := left.new 7 _ rfl (by decide)
            clear left
            have hc := (cell_blk r7 6).trans rfl
            have hf := frozen_blk r7 6
            go_simp
            refine hK undef _ ?_ (hB.out.setCell (a := ⟨D.g, 6, none⟩) rfl _) (set_at rfl)
            exact (heap_setCell_same wf D.g 6 _ _ (.int .i64 at_) r7).trans rfl
          exact trivial
        · intro fr wf hB hs hd hall hkeep
          have h10 : wf.heap[D.g]? = some (.cells #[.int .i64 s.room, .map (some D.mb), .int .i64 (s.acts : Int), .int .i64 at_, .int .i64 kind, .slice a len cap, .int .i64 at_, .bool s.down] 87 (0, 0)) := hall 10 _ rfl (by simp)
          have hfr := act_ext (frame_set hs hkeep [24, 25, 26, 27, 28, 29, 30, 31, 32] (by kernel_rfl)) hd
          obtain ⟨q24, hq24⟩ : ∃ q, q = fr.tmps.getD 24 undef := ⟨_, rfl⟩
          obtain ⟨q25, hq25⟩ : ∃ q, q = fr.tmps.getD 25 undef := ⟨_, rfl⟩
          obtain ⟨q26, hq26⟩ : ∃ q, q = fr.tmps.getD 26 undef := ⟨_, rfl⟩
          obtain ⟨q27, hq27⟩ : ∃ q, q = fr.tmps.getD 27 undef := ⟨_, rfl⟩
          obtain ⟨q28, hq28⟩ : ∃ q, q = fr.tmps.getD 28 undef := ⟨_, rfl⟩
          obtain ⟨q29, hq29⟩ : ∃ q, q = fr.tmps.getD 29 undef := ⟨_, rfl⟩
          obtain ⟨q30, hq30⟩ : ∃ q, q = fr.tmps.getD 30 undef := ⟨_, rfl⟩
          obtain ⟨q31, hq31⟩ : ∃ q, q = fr.tmps.getD 31 undef := ⟨_, rfl⟩
          obtain ⟨q32, hq32⟩ : ∃ q, q = fr.tmps.getD 32 undef := ⟨_, rfl⟩
          simp only [List.foldl, ← hq24, ← hq25, ← hq26, ← hq27, ← hq28, ← hq29, ← hq30, ← hq31, ← hq32] at hfr
          simp only [List.setIfInBounds_toArray, List.set_cons_zero, List.set_cons_succ] at hfr
          clear hall hkeep hs hd hq24 hq25 hq26 hq27 hq28 hq29 hq30 hq31 hq32
          subst hfr
          have HBF := hide (And.intro hB h10)
          clear hB h10
          have hk := (HBF.out.1.block bx (heap_lt HBK.out) HBX.out.1).trans HBK.out
          have k2 : wf.cell? ⟨bx, 2, none⟩ = some (.slice a len cap) := (cell_blk hk 2).trans rfl
          have HMF := hide (show Moved (fun k => k = D.g) w wf from ((Moved.of_below HB1.out.1).then HM2.out).then HBF.out.1)
          clear hk k0 k1
          go_wp2_with fail
          refine (cloneBools_any (.slice a len cap) keep wf (HKV.out.stay HMF.out.size (fun k hk hlt => HMF.out.block k hlt (fun e => hap (by rw [hk, e])))) HKL.out).mono ?_
          rintro e w3 ⟨v, rfl, hown, hb⟩
          have hsl := slv_of_owns hown
          have hblk := hown.lt
          have hgw : D.g < wf.heap.size := heap_lt HBF.out.2
          have h3 := (hb.block D.g hgw).trans HBF.out.2
          have c5 := (cell_blk h3 5).trans (by rfl)
          have f5 := frozen_blk h3 5
          obtain ⟨len2, a2, cap2, hl2, rfl, hl3, hl4⟩ := hsl.form
          have HFR := hide (show ∀ k, Dk.slBlk (.slice a2 len2 cap2) = some k → wf.heap.size ≤ k from fun k hk => by
            cases a2 with
            | none => cases hk
            | some ad =>
              rw [Dk.slBlk_some] at hk
              split at hk
              · cases hk
              · exact (hblk k hk).1)
          have H3 := hide (And.intro h3 (And.intro hsl (And.intro hb hgw)))
          clear hown hsl hblk h3 hb k2 hgw hl2 hl3 hl4
          go_wp2_with fail
          have hm4 : Moved (fun k => k = D.g) w3 (w3.setCell ⟨D.g, 5, none⟩ (.slice a2 len2 cap2)) := Moved.setCell (S := fun k => k = D.g) (Moved.refl _ _) (a := ⟨D.g, 5, none⟩) rfl _
          have hma := (HMF.out.then (Moved.of_below H3.out.2.2.1)).then hm4
          have ho := HD.out.ok
          refine bodyPost_end (results_none rfl _ _ _) rfl ⟨rfl, ⟨D.g, D.mb, .slice a2 len2 cap2⟩, rfl, rfl, .inr (fun k hk => Nat.le_trans HMF.out.size (HFR.out k hk)), ?_, hma⟩
          rw [HE.out]
          refine ⟨⟨ho.room, ho.acts, ⟨by have := HG.out.1; show 0 ≤ at_; omega, hat2⟩, ho.names, ho.many, ho.sizes, ho.up⟩, ?_, ?_, ?_, ?_, ?_⟩
          · exact (heap_setCell_same w3 D.g 5 _ _ (.slice a2 len2 cap2) H3.out.1).trans rfl
          · obtain ⟨es, clock, hb, F, hs, hD⟩ := HD.out.map
            exact ⟨es, clock, (hma.block D.mb HD.out.map.lt (fun e => HD.out.ne e.symm)).trans hb, F, hs, hD⟩
          · exact H3.out.2.1.stay hm4.size fun k hk hlt => hm4.block k hlt (fun e => by have h1 := HFR.out k hk; have h2 := H3.out.2.2.2; have e : k = D.g := e; omega)
          · intro e; have h1 := HFR.out _ e; have h2 := H3.out.2.2.2; exact absurd h2 (Nat.not_lt.2 h1)
          · intro e; have h1 := HFR.out _ e; have h2 := HMF.out.size; have h3 := HD.out.map.lt; exact absurd (Nat.lt_of_lt_of_le h3 h2) (Nat.not_lt.2 h1)
end Go.Proofs.YtbfbajfdlkgloaaGreatDoor
