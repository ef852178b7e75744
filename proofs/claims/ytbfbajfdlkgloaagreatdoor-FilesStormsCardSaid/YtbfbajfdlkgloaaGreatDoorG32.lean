/-
  The program's store: settle.
-/
import Derived.Test.YtbfbajfdlkgloaaGreatDoorG30

namespace Go.Proofs.YtbfbajfdlkgloaaGreatDoor
open Go Go.RowKit Go.Maps
/-- The disk behind a call, in its place. -/
def TurnsTo (D : Dk.Blk) (w w' : World) (d' : Dk.St) : Prop :=
  ∃ D' : Dk.Blk, D'.g = D.g ∧ D'.kv = D.kv ∧ (D'.mb = D.mb ∨ w.heap.size ≤ D'.mb) ∧ DiskAt w' D' d' ∧ Moved (Dk.own D) w w'
theorem TurnsTo.of {D : Dk.Blk} {d d' : Dk.St} {w u u' : World} {B : Nat} (h : TurnAt D d B u' d') (hB : w.heap.size ≤ B) (hm : Moved (Dk.own D) w u) (hm2 : Moved (Dk.own D) u u') : TurnsTo D w u' d' := by
  obtain ⟨D', h1, h2, h3, h4, h5⟩ := h
  exact ⟨D', h1, h2, h3.imp id (Nat.le_trans hB), h5, hm.then hm2⟩
theorem TurnAt.stays {D : Dk.Blk} {d d' : Dk.St} {u : World} {B : Nat} (h : TurnAt D d B u d') (hk : ¬ (Dk.kindNow d = 4 ∨ Dk.kindNow d = 5)) : DiskAt u D d' := by
  obtain ⟨D', h1, h2, h3, h4, h5⟩ := h
  rw [h4 hk] at h5
  exact h5
theorem ix3 (i : Int) (x : ByteArray) (h : (i = 0 ∧ x = Fl.nItems) ∨ (i = 1 ∧ x = Fl.nNodes) ∨ (i = 2 ∧ x = Fl.nMarks)) (w : World) :
    (Instr.index 40 (.agg #[.string ⟨#[105, 116, 101, 109, 115]⟩, .string ⟨#[110, 111, 100, 101, 115]⟩, .string ⟨#[109, 97, 114, 107, 115]⟩]) (.int .i64 i)).run Tryz.prog w = .ok (.string x) w := by
  rcases h with ⟨rfl, rfl⟩ | ⟨rfl, rfl⟩ | ⟨rfl, rfl⟩ <;> kernel_rfl
namespace Fl
def syncs : List ActV := [.sync nItems, .sync nNodes, .sync nMarks]
def cutsA : Dk.St → List (ByteArray × Nat) → Int × Dk.St
  | d, [] => doAll d syncs
  | d, (n, k) :: r => if (cutIf d n k).1 ≠ 0 then cutIf d n k else cutsA (cutIf d n k).2 r
theorem settle_cuts (d : Dk.St) (e n : Nat) : settleA d e n = cutsA d [(nItems, e), (nNodes, 40 * nodes n), (nMarks, 64 * n)] := rfl
theorem cutA_grow {d : Dk.St} {n : ByteArray} {k : Int} (h : (Dk.cutA d n k).1 = 0) : (Dk.cutA d n k).2.acts = d.acts + 1 ∧ (Dk.cutA d n k).2.files.length ≤ d.files.length + 1 ∧ (Dk.cutA d n k).2.keep = d.keep ∧ ¬ (Dk.kindNow d = 4 ∨ Dk.kindNow d = 5) := by
  unfold Dk.cutA at h ⊢
  split at h
  · simp at h
  · rename_i h1
    split at h
    · simp at h
    · rename_i h2
      rw [if_neg h1, if_neg h2]
      obtain ⟨g1, g2, g3⟩ := Dk.actC_grow h
      exact ⟨g1, g2, g3, Dk.actC_same h⟩
end Fl
/-- What holds behind so many cuts. -/
def CutsAt (D : Dk.Blk) (d : Dk.St) (A : List (ByteArray × Nat)) (WA : World) (i : Nat) (di : Dk.St) (u : World) : Prop :=
  DiskAt u D di ∧ Moved (Dk.own D) WA u ∧ Fl.cutsA d A = Fl.cutsA di (A.drop i) ∧ di.acts ≤ d.acts + i ∧ di.files.length ≤ d.files.length + i ∧ di.keep = d.keep
theorem CutsAt.skip {D : Dk.Blk} {d di : Dk.St} {A : List (ByteArray × Nat)} {WA u u' : World} {i k : Nat} {n : ByteArray} (h : CutsAt D d A WA i di u) (ha : A.drop i = (n, k) :: A.drop (i + 1)) (hs : ¬ (k : Int) < Dk.size di n) (hb : Below u.heap.size u u') : CutsAt D d A WA (i + 1) di u' := by
  obtain ⟨h1, h2, h3, h4, h5, h6⟩ := h
  refine ⟨h1.past hb, h2.then (Moved.of_below hb), ?_, by omega, by omega, h6⟩
  rw [h3, ha]
  show (if (Fl.cutIf di n k).1 ≠ 0 then Fl.cutIf di n k else Fl.cutsA (Fl.cutIf di n k).2 (A.drop (i + 1))) = _
  have e : Fl.cutIf di n k = (0, di) := by unfold Fl.cutIf; rw [if_neg hs]
  rw [e, if_neg (fun h => h rfl)]
theorem CutsAt.next {D : Dk.Blk} {d di d2 : Dk.St} {A : List (ByteArray × Nat)} {WA u u' : World} {i k B : Nat} {n : ByteArray} (h : CutsAt D d A WA i di u) (ha : A.drop i = (n, k) :: A.drop (i + 1)) (hs : (k : Int) < Dk.size di n) (hr : Dk.cutA di n k = (0, d2)) (ht : TurnAt D di B u' d2) (hm : Moved (Dk.own D) u u') : CutsAt D d A WA (i + 1) d2 u' := by
  obtain ⟨h1, h2, h3, h4, h5, h6⟩ := h
  obtain ⟨g1, g2, g3, g4⟩ := Fl.cutA_grow (d := di) (n := n) (k := k) (by rw [hr])
  rw [hr] at g1 g2 g3
  refine ⟨ht.stays g4, h2.then hm, ?_, by dsimp only at g1; omega, by dsimp only at g2; omega, by rw [← h6]; exact g3⟩
  rw [h3, ha]
  show (if (Fl.cutIf di n k).1 ≠ 0 then Fl.cutIf di n k else Fl.cutsA (Fl.cutIf di n k).2 (A.drop (i + 1))) = _
  have e : Fl.cutIf di n k = (0, d2) := by unfold Fl.cutIf; rw [if_pos hs, hr]
  rw [e, if_neg (fun h => h rfl)]
theorem CutsAt.err {D : Dk.Blk} {d di d2 : Dk.St} {A : List (ByteArray × Nat)} {WA u : World} {i k : Nat} {n : ByteArray} {r : Int} (h : CutsAt D d A WA i di u) (ha : A.drop i = (n, k) :: A.drop (i + 1)) (hs : (k : Int) < Dk.size di n) (hr : Dk.cutA di n k = (r, d2)) (h0 : r ≠ 0) : Fl.cutsA d A = (r, d2) := by
  rw [h.2.2.1, ha]
  show (if (Fl.cutIf di n k).1 ≠ 0 then Fl.cutIf di n k else Fl.cutsA (Fl.cutIf di n k).2 (A.drop (i + 1))) = _
  have e : Fl.cutIf di n k = (r, d2) := by unfold Fl.cutIf; rw [if_pos hs, hr]
  rw [e, if_pos h0]
def st1L (w : World) (T : Fl.Blk) (ad : Option Addr) (n cap Q k0 k1 k2 : Nat) : List Sp :=
  [.is (.pointer (some ⟨T.g, 0, none⟩)), .is (.int .i64 (k0 : Int)), .is (.pointer (some ⟨T.g, 0, none⟩)), .is (.pointer (some ⟨T.g, 0, none⟩)), .is (.pointer (some ⟨T.g, 2, none⟩)), .is (.slice ad n cap), .is (.int .i64 (n : Int)), .is (.int .i64 (Q : Int)), .is (.int .i64 (k1 : Int)), .is (.pointer (some ⟨T.g, 0, none⟩)), .is (.pointer (some ⟨T.g, 0, none⟩)), .is (.pointer (some ⟨T.g, 2, none⟩)), .is (.slice ad n cap), .is (.int .i64 (n : Int)), .is (.int .i64 (k2 : Int)), .is (.agg #[.int .i64 (k0 : Int), .int .i64 (k1 : Int), .int .i64 (k2 : Int)]), .blk (w.heap.size) 3 144, .cont (w.heap.size) 144 [.int .i64 (k0 : Int), .int .i64 (k1 : Int), .int .i64 (k2 : Int)]]
def st1U : List (List Nat) := [[], [0], [], [2], [3], [4], [5], [6], [7], [], [9], [10], [11], [12], [13], [1, 8, 14], [], [15, 16]]
def st70L (T : Fl.Blk) (D : Dk.Blk) (di d2 : Dk.St) (W8 : World) (rc : Int) (b3 k0 : Nat) : List Sp :=
  [.is (.pointer (some ⟨T.g, 0, none⟩)), .is (.pointer (some ⟨T.g, 0, none⟩)), .is (.pointer (some ⟨T.g, 0, none⟩)), .is (.pointer (some ⟨D.g, 0, none⟩)), .is (.string ⟨#[105, 116, 101, 109, 115]⟩), .is (.int .i64 0), .is (.pointer (some ⟨b3, 0, none⟩)), .is (.int .i64 (k0 : Int)), .both (.int .i64 rc) (fun u => TurnAt D di W8.heap.size u d2) (fun _ _ h hb => h.past hb), .is (.int .i64 rc)]
def st70U : List (List Nat) := [[], [0], [1], [2], [], [], [5], [6], [3, 4, 7], [8]]
def st71L (T : Fl.Blk) (D : Dk.Blk) (di d2 : Dk.St) (W8 : World) (rc : Int) (b3 k1 : Nat) : List Sp :=
  [.is (.pointer (some ⟨T.g, 0, none⟩)), .is (.pointer (some ⟨T.g, 0, none⟩)), .is (.pointer (some ⟨T.g, 0, none⟩)), .is (.pointer (some ⟨D.g, 0, none⟩)), .is (.string ⟨#[110, 111, 100, 101, 115]⟩), .is (.int .i64 1), .is (.pointer (some ⟨b3, 1, none⟩)), .is (.int .i64 (k1 : Int)), .both (.int .i64 rc) (fun u => TurnAt D di W8.heap.size u d2) (fun _ _ h hb => h.past hb), .is (.int .i64 rc)]
def st71U : List (List Nat) := [[], [0], [1], [2], [], [], [5], [6], [3, 4, 7], [8]]
def st72L (T : Fl.Blk) (D : Dk.Blk) (di d2 : Dk.St) (W8 : World) (rc : Int) (b3 k2 : Nat) : List Sp :=
  [.is (.pointer (some ⟨T.g, 0, none⟩)), .is (.pointer (some ⟨T.g, 0, none⟩)), .is (.pointer (some ⟨T.g, 0, none⟩)), .is (.pointer (some ⟨D.g, 0, none⟩)), .is (.string ⟨#[109, 97, 114, 107, 115]⟩), .is (.int .i64 2), .is (.pointer (some ⟨b3, 2, none⟩)), .is (.int .i64 (k2 : Int)), .both (.int .i64 rc) (fun u => TurnAt D di W8.heap.size u d2) (fun _ _ h hb => h.past hb), .is (.int .i64 rc)]
def st72U : List (List Nat) := [[], [0], [1], [2], [], [], [5], [6], [3, 4, 7], [8]]
set_option maxHeartbeats 8000000 in
set_option maxRecDepth 100000 in
theorem storeSettle_val (T : Fl.Blk) (D : Dk.Blk) (s : Fl.St) (d d' : Dk.St) (r : Int) (w : World) (h : StoreAt w T D.g s) (hd : DiskAt w D d) (hap : Fl.Away T D) (hacts : d.acts + 6 < 4611686018427387904) (hmany : d.files.length + 6 < 1099511627776) (hkl : d.keep.length ≤ 140737488351232) (hr : Fl.settleA d s.fin s.ends.length = (r, d')) :
    Calls Tryz.prog 49 #[.pointer (some ⟨T.g, 0, none⟩)] w fun e w' => e = .returned (.int .i64 r) ∧ TurnsTo D w w' d' := by
  obtain ⟨ad, cap, hv, hc, hx⟩ := h.form
  obtain ⟨n, hn⟩ : ∃ n, n = s.ends.length := ⟨_, rfl⟩
  rw [← hn] at hc hv
  have hm := h.ok.many
  rw [← hn] at hm
  obtain ⟨Q, hQ⟩ : ∃ q, q = Fl.nodes n := ⟨_, rfl⟩
  have hQn : Q ≤ 2 * n := by rw [hQ]; exact nodes_le n
  obtain ⟨k0, hk0⟩ : ∃ k, k = s.fin := ⟨_, rfl⟩
  obtain ⟨k1, hk1⟩ : ∃ k, k = 40 * Q := ⟨_, rfl⟩
  obtain ⟨k2, hk2⟩ : ∃ k, k = 64 * n := ⟨_, rfl⟩
  have hf := h.ok.fin
  rw [← hk0] at hf
  have hl1 : k1 ≤ 8000000 := by omega
  have hl2 : k2 ≤ 8000000 := by omega
  obtain ⟨A, hA⟩ : ∃ A : List (ByteArray × Nat), A = [(Fl.nItems, k0), (Fl.nNodes, k1), (Fl.nMarks, k2)] := ⟨_, rfl⟩
  have HR := hide (show Fl.cutsA d A = (r, d') by rw [← hr, Fl.settle_cuts, hA, hk0, hk1, hk2, hQ, hn])
  have HT := hide h
  have HD := hide hd
  have HAP := hide hap
  have HN := hide hn
  have HQ := hide hQ
  have HK0 := hide hk0
  have HK1 := hide hk1
  have HK2 := hide hk2
  have HA := hide hA
  have HACT := hide (And.intro hacts (And.intro hmany hkl))
  have hev : ∀ u, Below w.heap.size w u → u.cell? ⟨T.g, 2, none⟩ = some (.slice ad n cap) := by intro u hb; rw [(HT.out.past hb).c2, hv]
  have HEV := hide hev
  clear h hd hap hn hQ hk0 hk1 hk2 hA hacts hmany hkl hr hv hx hev
  go_enter Tryz.func49, Tryz.ntmps49
  go_upto_region 1 with (fail)
  go_cut [3] from 11 to 26 (fun v3 wx => Hid (v3 = .pointer (some ⟨w.heap.size, 0, none⟩) ∧ wx.heap[w.heap.size]? = some (.cells #[.int .i64 (k0 : Int), .int .i64 (k1 : Int), .int .i64 (k2 : Int)] 144 (0, 0)) ∧ Below w.heap.size w wx))
  case first =>
    
    refine wp_region_local (by kernel_rfl) (by kernel_rfl) (useList st1U) [16, 17] (by kernel_rfl) (spR (st1L w T ad n cap Q k0 k1 k2)) (asPre 16 (w.heap.size)) (Below w.heap.size w) (asE 16 17 (w.heap.size) 3 144) (as_stays (by simp [st1L]) (by decide) rfl (by kernel_rfl)) (as_pre (by kernel_rfl)) as_refl (dsts_lt (N := 70) (by kernel_rfl)) ((Below.refl _ _).drew) (fun i _ => as_start (rfl)) (all_ops ?_) ?_
    · refine And.intro ?_ ?_
      · refine lstep_run fun fr wf left => ?_
        have o0 := (left.old 0 (by kernel_rfl)).trans rfl
        refine ⟨wanted_none rfl, fun K hK => ?_⟩
        have hB := hide left.base
        clear left
        go_simp
        exact hK _ _ rfl hB.out (And.intro (Below.refl _ _) rfl)
      refine And.intro ?_ ?_
      · refine lstep_run fun fr wf left => ?_
        obtain ⟨x0, e0, r0⟩ := left.slot 70 rfl 0 11 _ rfl rfl (by decide) rfl
        have s0 := Eq.symm (show x0 = .pointer (some ⟨T.g, 0, none⟩) from r0)
        subst s0
        refine ⟨wanted_none rfl, fun K hK => ?_⟩
        have hB := hide left.base
        clear left
        go_simp
        refine (storeEnd_val T D.g s k0 _ (HT.out.past hB.out) HK0.out).mono ?_
        rintro e w' ⟨rfl, rfl⟩
        exact hK _ _ rfl hB.out (And.intro (Below.refl _ _) rfl)
      refine And.intro ?_ ?_
      · refine lstep_run fun fr wf left => ?_
        have o0 := (left.old 0 (by kernel_rfl)).trans rfl
        refine ⟨wanted_none rfl, fun K hK => ?_⟩
        have hB := hide left.base
        clear left
        go_simp
        exact hK _ _ rfl hB.out (And.intro (Below.refl _ _) rfl)
      refine And.intro ?_ ?_
      · refine lstep_run fun fr wf left => ?_
        obtain ⟨x2, e2, r2⟩ := left.slot 70 rfl 2 13 _ rfl rfl (by decide) rfl
        have s2 := Eq.symm (show x2 = .pointer (some ⟨T.g, 0, none⟩) from r2)
        subst s2
        refine ⟨wanted_none rfl, fun K hK => ?_⟩
        have hB := hide left.base
        clear left
        go_simp
        exact hK _ _ rfl hB.out (And.intro (Below.refl _ _) rfl)
      refine And.intro ?_ ?_
      · refine lstep_run fun fr wf left => ?_
        obtain ⟨x3, e3, r3⟩ := left.slot 70 rfl 3 14 _ rfl rfl (by decide) rfl
        have s3 := Eq.symm (show x3 = .pointer (some ⟨T.g, 0, none⟩) from r3)
        subst s3
        refine ⟨wanted_none rfl, fun K hK => ?_⟩
        have hB := hide left.base
        clear left
        go_simp
        exact hK _ _ rfl hB.out (And.intro (Below.refl _ _) rfl)
      refine And.intro ?_ ?_
      · refine lstep_run fun fr wf left => ?_
        obtain ⟨x4, e4, r4⟩ := left.slot 70 rfl 4 15 _ rfl rfl (by decide) rfl
        have s4 := Eq.symm (show x4 = .pointer (some ⟨T.g, 2, none⟩) from r4)
        subst s4
        refine ⟨wanted_none rfl, fun K hK => ?_⟩
        have hB := hide left.base
        have hc := HEV.out _ hB.out
        clear left
        go_simp
        exact hK _ _ rfl hB.out (And.intro (Below.refl _ _) rfl)
      refine And.intro ?_ ?_
      · refine lstep_run fun fr wf left => ?_
        obtain ⟨x5, e5, r5⟩ := left.slot 70 rfl 5 16 _ rfl rfl (by decide) rfl
        have s5 := Eq.symm (show x5 = .slice ad n cap from r5)
        subst s5
        refine ⟨wanted_none rfl, fun K hK => ?_⟩
        have hB := hide left.base
        clear left
        go_simp
        exact hK _ _ rfl hB.out (And.intro (Below.refl _ _) rfl)
      refine And.intro ?_ ?_
      · refine lstep_run fun fr wf left => ?_
        obtain ⟨x6, e6, r6⟩ := left.slot 70 rfl 6 17 _ rfl rfl (by decide) rfl
        have s6 := Eq.symm (show x6 = .int .i64 (n : Int) from r6)
        subst s6
        refine ⟨wanted_none rfl, fun K hK => ?_⟩
        have hB := hide left.base
        clear left
        go_simp
        refine (nodes_val n Q _ (by omega) HQ.out).mono ?_
        rintro e w' ⟨rfl, rfl⟩
        exact hK _ _ rfl hB.out (And.intro (Below.refl _ _) rfl)
      refine And.intro ?_ ?_
      · refine lstep_run fun fr wf left => ?_
        obtain ⟨x7, e7, r7⟩ := left.slot 70 rfl 7 18 _ rfl rfl (by decide) rfl
        have s7 := Eq.symm (show x7 = .int .i64 (Q : Int) from r7)
        subst s7
        refine ⟨wanted_none rfl, fun K hK => ?_⟩
        have hB := hide left.base
        clear left
        have h1 := HK1.out
        go_simp
        exact hK _ _ (congrArg (Value.int .i64) ((IntWalk.i64_in _ (by omega)).trans (by omega))) hB.out (And.intro (Below.refl _ _) rfl)
      refine And.intro ?_ ?_
      · refine lstep_run fun fr wf left => ?_
        have o0 := (left.old 0 (by kernel_rfl)).trans rfl
        refine ⟨wanted_none rfl, fun K hK => ?_⟩
        have hB := hide left.base
        clear left
        go_simp
        exact hK _ _ rfl hB.out (And.intro (Below.refl _ _) rfl)
      refine And.intro ?_ ?_
      · refine lstep_run fun fr wf left => ?_
        obtain ⟨x9, e9, r9⟩ := left.slot 70 rfl 9 20 _ rfl rfl (by decide) rfl
        have s9 := Eq.symm (show x9 = .pointer (some ⟨T.g, 0, none⟩) from r9)
        subst s9
        refine ⟨wanted_none rfl, fun K hK => ?_⟩
        have hB := hide left.base
        clear left
        go_simp
        exact hK _ _ rfl hB.out (And.intro (Below.refl _ _) rfl)
      refine And.intro ?_ ?_
      · refine lstep_run fun fr wf left => ?_
        obtain ⟨x10, e10, r10⟩ := left.slot 70 rfl 10 21 _ rfl rfl (by decide) rfl
        have s10 := Eq.symm (show x10 = .pointer (some ⟨T.g, 0, none⟩) from r10)
        subst s10
        refine ⟨wanted_none rfl, fun K hK => ?_⟩
        have hB := hide left.base
        clear left
        go_simp
        exact hK _ _ rfl hB.out (And.intro (Below.refl _ _) rfl)
      refine And.intro ?_ ?_
      · refine lstep_run fun fr wf left => ?_
        obtain ⟨x11, e11, r11⟩ := left.slot 70 rfl 11 22 _ rfl rfl (by decide) rfl
        have s11 := Eq.symm (show x11 = .pointer (some ⟨T.g, 2, none⟩) from r11)
        subst s11
        refine ⟨wanted_none rfl, fun K hK => ?_⟩
        have hB := hide left.base
        have hc := HEV.out _ hB.out
        clear left
        go_simp
        exact hK _ _ rfl hB.out (And.intro (Below.refl _ _) rfl)
      refine And.intro ?_ ?_
      · refine lstep_run fun fr wf left => ?_
        obtain ⟨x12, e12, r12⟩ := left.slot 70 rfl 12 23 _ rfl rfl (by decide) rfl
        have s12 := Eq.symm (show x12 = .slice ad n cap from r12)
        subst s12
        refine ⟨wanted_none rfl, fun K hK => ?_⟩
        have hB := hide left.base
        clear left
        go_simp
        exact hK _ _ rfl hB.out (And.intro (Below.refl _ _) rfl)
      refine And.intro ?_ ?_
      · refine lstep_run fun fr wf left => ?_
        obtain ⟨x13, e13, r13⟩ := left.slot 70 rfl 13 24 _ rfl rfl (by decide) rfl
        have s13 := Eq.symm (show x13 = .int .i64 (n : Int) from r13)
        subst s13
        refine ⟨wanted_none rfl, fun K hK => ?_⟩
        have hB := hide left.base
        clear left
        have h1 := HK2.out
        go_simp
        exact hK _ _ (congrArg (Value.int .i64) ((IntWalk.i64_in _ (by omega)).trans (by omega))) hB.out (And.intro (Below.refl _ _) rfl)
      refine And.intro ?_ ?_
      · refine lstep_run fun fr wf left => ?_
        obtain ⟨x1, e1, r1⟩ := left.slot 70 rfl 1 12 _ rfl rfl (by decide) rfl
        have s1 := Eq.symm (show x1 = .int .i64 (k0 : Int) from r1)
        subst s1
        obtain ⟨x8, e8, r8⟩ := left.slot 70 rfl 8 19 _ rfl rfl (by decide) rfl
        have s8 := Eq.symm (show x8 = .int .i64 (k1 : Int) from r8)
        subst s8
        obtain ⟨x14, e14, r14⟩ := left.slot 70 rfl 14 25 _ rfl rfl (by decide) rfl
        have s14 := Eq.symm (show x14 = .int .i64 (k2 : Int) from r14)
        subst s14
        refine ⟨wanted_none rfl, fun K hK => ?_⟩
        have hB := hide left.base
        clear left
        go_simp
        exact hK _ _ rfl hB.out (And.intro (Below.refl _ _) rfl)
      refine And.intro ?_ ?_
      · refine lstep_run fun fr wf left => ?_
        refine ⟨wanted_none rfl, fun K hK => ?_⟩
        have hB := hide left.base
        have hp := hide (show wf.heap.size = w.heap.size from left.pre)
        clear left
        go_simp
        rw [hp.out]
        exact hK _ _ ⟨rfl, _, rfl, by rw [← hp.out]; exact alloc_at _ _⟩ (hB.out.alloc (le_base hB.out) _) (by rw [← hp.out]; exact Below.alloc (Below.refl _ _) (Nat.le_refl _) _)
      refine And.intro ?_ ?_
      · refine lstep_run fun fr wf left => ?_
        obtain ⟨x15, e15, r15⟩ := left.slot 70 rfl 15 26 _ rfl rfl (by decide) rfl
        have s15 := Eq.symm (show x15 = .agg #[.int .i64 (k0 : Int), .int .i64 (k1 : Int), .int .i64 (k2 : Int)] from r15)
        subst s15
        obtain ⟨x16, e16, r16⟩ := left.slot 70 rfl 16 3 _ rfl rfl (by decide) rfl
        obtain ⟨s16, c16, n16, h16⟩ := (show x16 = .pointer (some ⟨w.heap.size, 0, none⟩) ∧ ∃ cs : Array Value, cs.size = 3 ∧ wf.heap[w.heap.size]? = some (.cells cs 144 (0, 0)) from r16)
        subst s16
        refine ⟨wanted_none rfl, fun K hK => ?_⟩
        have hB := hide left.base
        clear left
        refine wp_store_row 144 (.tmp 3) (.tmp 26) rfl (w.heap.size) #[.int .i64 (k0 : Int), .int .i64 (k1 : Int), .int .i64 (k2 : Int)] (eval_tmp e16) (eval_tmp e15) 144 c16 h16 (by kernel_rfl) n16 (by simp [Value.oneCell']) ?_
        exact hK _ _ (setRow_heap wf (w.heap.size) c16 _ 144 (0, 0) h16) (Go.below_setRow hB.out (Nat.le_refl _) _) (as_fill_at rfl h16 rfl)
      exact trivial
    · intro fr wf hB hs hd hall hkeep
      have h3 : fr.tmps.getD 3 undef = .pointer (some ⟨w.heap.size, 0, none⟩) ∧ ∃ cs : Array Value, cs.size = 3 ∧ wf.heap[w.heap.size]? = some (.cells cs 144 (0, 0)) := hall 16 _ rfl (by simp)
      have hc3 : wf.heap[w.heap.size]? = some (.cells ([.int .i64 (k0 : Int), .int .i64 (k1 : Int), .int .i64 (k2 : Int)] : List Value).toArray 144 (0, 0)) := hall 17 _ rfl (by simp)
      have hfr := act_ext (frame_setL hs hkeep [11, 12, 13, 14, 15, 16, 17, 18, 19, 20, 21, 22, 23, 24, 25, 26, 3] (by kernel_rfl)) hd
      clear hall hkeep hs hd
      dsimp only [List.foldl, List.set_cons_zero, List.set_cons_succ] at hfr
      generalize fr.tmps.getD 11 undef = q11 at hfr
      generalize fr.tmps.getD 12 undef = q12 at hfr
      generalize fr.tmps.getD 13 undef = q13 at hfr
      generalize fr.tmps.getD 14 undef = q14 at hfr
      generalize fr.tmps.getD 15 undef = q15 at hfr
      generalize fr.tmps.getD 16 undef = q16 at hfr
      generalize fr.tmps.getD 17 undef = q17 at hfr
      generalize fr.tmps.getD 18 undef = q18 at hfr
      generalize fr.tmps.getD 19 undef = q19 at hfr
      generalize fr.tmps.getD 20 undef = q20 at hfr
      generalize fr.tmps.getD 21 undef = q21 at hfr
      generalize fr.tmps.getD 22 undef = q22 at hfr
      generalize fr.tmps.getD 23 undef = q23 at hfr
      generalize fr.tmps.getD 24 undef = q24 at hfr
      generalize fr.tmps.getD 25 undef = q25 at hfr
      generalize fr.tmps.getD 26 undef = q26 at hfr
      generalize fr.tmps.getD 3 undef = q3 at hfr h3
      subst hfr
      have h3e := h3.1
      subst h3e
      have HBF := hide (And.intro hc3 hB)
      clear hc3 hB h3
      go_wp2_with fail
      go_meet
      case rel => exact ⟨rfl, HBF.out⟩
  case rest =>
    obtain ⟨h3, hb3, hbw⟩ := hcut.out
    subst h3
    obtain ⟨b3, hb3e⟩ : ∃ b, b = w.heap.size := ⟨_, rfl⟩
    rw [← hb3e] at hb3
    rw [← hb3e]
    go_upto_block 0 with (fail)
    obtain ⟨WA, hWA⟩ : ∃ u, u = wc.alloc (.cells #[.string ⟨#[105, 116, 101, 109, 115]⟩, .string ⟨#[110, 111, 100, 101, 115]⟩, .string ⟨#[109, 97, 114, 107, 115]⟩] 40) := ⟨_, rfl⟩
    obtain ⟨b4, hb4⟩ : ∃ b, b = wc.heap.size := ⟨_, rfl⟩
    rw [← hWA, ← hb4]
    have hb4o : WA.heap[b4]? = some (.cells #[.string ⟨#[105, 116, 101, 109, 115]⟩, .string ⟨#[110, 111, 100, 101, 115]⟩, .string ⟨#[109, 97, 114, 107, 115]⟩] 40 (0, 0)) := by rw [hWA, hb4]; exact alloc_at _ _
    have hbA : Below wc.heap.size wc WA := by rw [hWA]; exact (Below.refl _ _).alloc (Nat.le_refl _) _
    have hwA : Below w.heap.size w WA := hbw.trans (hbA.mono hbw.size)
    have HFN := hide (show ∀ u, Moved (Dk.own D) WA u → StoreAt u T D.g s ∧ u.heap[b3]? = some (.cells #[.int .i64 (k0 : Int), .int .i64 (k1 : Int), .int .i64 (k2 : Int)] 144 (0, 0)) ∧ u.heap[b4]? = some (.cells #[.string ⟨#[105, 116, 101, 109, 115]⟩, .string ⟨#[110, 111, 100, 101, 115]⟩, .string ⟨#[109, 97, 114, 107, 115]⟩] 40 (0, 0)) from by
      intro u hm
      have h2 := HD.out.glt
      have h3 := HD.out.map.lt
      have h4 := hbw.size
      refine ⟨(HT.out.past hwA).stay hm HAP.out.away HAP.out.evs, ?_, (hm.block b4 (heap_lt hb4o) (by rintro (e | e) <;> omega)).trans hb4o⟩
      have h1 := (hbA.block b3 (heap_lt hb3)).trans hb3
      refine (hm.block b3 (heap_lt h1) ?_).trans h1
      have h2 := HD.out.glt
      have h3 := HD.out.map.lt
      rintro (e | e)
      · omega
      · omega)
    have HWA := hide (And.intro hwA (HD.out.past hwA))
    clear hcut hb3 hbw hb3e hWA hbA hwA hb4 hb4o
    go_wp2_with fail
    go_loopg [29] 3 (fun g v29 wr => ∃ (i : Nat) (di : Dk.St), g = 3 - i ∧ i ≤ 3 ∧ v29 = .int .i64 (i : Int) ∧ Hid (CutsAt D d A WA i di wr))
    case atStart => exact ⟨0, d, rfl, Nat.zero_le _, rfl, HWA.out.2, Moved.refl _ _, rfl, Nat.le_refl _, Nat.le_refl _, rfl⟩
    case round =>
      obtain ⟨i, di, rfl, hi3, rfl, HL⟩ := hrel
      have hacts2 : di.acts < 4611686018427387904 := by have h1 := HL.out.2.2.2.1; have h2 := HACT.out.1; omega
      have hmany2 : di.files.length < 1099511627776 := by have h1 := HL.out.2.2.2.2.1; have h2 := HACT.out.2.1; omega
      have hkl2 : di.keep.length ≤ 140737488351232 := by rw [HL.out.2.2.2.2.2]; exact HACT.out.2.2
      have hcase : i = 0 ∨ i = 1 ∨ i = 2 ∨ i = 3 := by omega
      have HF := hide (HFN.out wr HL.out.2.1)
      have c0 := HF.out.1.c0
      rcases hcase with rfl | rfl | rfl | rfl
      · have hcl : wr.cell? ⟨b3, 0, none⟩ = some (.int .i64 (k0 : Int)) := (cell_blk HF.out.2.1 0).trans rfl
        have HDR := hide (show A.drop 0 = (Fl.nItems, k0) :: A.drop 1 from by rw [HA.out]; rfl)
        have hix := ix3 0 ⟨#[105, 116, 101, 109, 115]⟩ (by decide)
        obtain ⟨sz, hsz⟩ : ∃ z, z = Dk.size di Fl.nItems := ⟨_, rfl⟩
        have HSZ := hide hsz
        have hszn : Dk.size di ⟨#[105, 116, 101, 109, 115]⟩ = sz := hsz.symm
        clear hsz
        by_cases hcut : (k0 : Int) < sz
        · have hcd : decide ((k0 : Int) < sz) = true := decide_eq_true hcut
          have HCT := hide hcut
          clear hcut
          go_upto_region 6 with (fail)
          go_quiet ((go_at_call 24; exact Calls.quiet_of_same (diskSize_any D di _ _ (HL.out.1.past (below_drewN (Below.refl _ _) _)) (by decide))))
          generalize hW8 : World.drewN wr _ = W8
          have hb8 : Below wr.heap.size wr W8 := by rw [← hW8]; exact below_drewN (Below.refl _ _) _
          have HL8 := hide (show CutsAt D d A WA 0 di W8 from ⟨HL.out.1.past hb8, HL.out.2.1.then (Moved.of_below hb8), HL.out.2.2⟩)
          have HFC := hide (show ∀ u, Moved (Dk.own D) W8 u → u.cell? ⟨T.g, 0, none⟩ = some (.pointer (some ⟨D.g, 0, none⟩)) ∧ u.cell? ⟨b3, 0, none⟩ = some (.int .i64 (k0 : Int)) from by
            intro u hm
            have h1 := HFN.out u (HL8.out.2.1.then hm)
            exact ⟨h1.1.c0, (cell_blk h1.2.1 0).trans rfl⟩)
          obtain ⟨rc, d2, hrc⟩ : ∃ rc d2, Dk.cutA di Fl.nItems (k0 : Int) = (rc, d2) := ⟨_, _, rfl⟩
          have HRC := hide hrc
          have hkw : (Lit.int .i64 (k0 : Int)).wf = true := Rec.wf_i64 (by omega) (by omega)
          clear hrc hcl hszn hcd hW8 hb8 c0
          go_upto_region 7 with (fail)
          
          refine wp_region_local (by kernel_rfl) (by kernel_rfl) (useList st70U) [8, 9] (by kernel_rfl) (spR (st70L T D di d2 W8 rc b3 k0)) (onePre 8 (fun u => DiskAt u D di)) (Moved (Dk.own D) W8) (oneE 8 (fun _ _ => True)) (one_stays (by simp [st70L]) (by kernel_rfl)) (one_pre (fun _ _ h hb => h.past hb)) (one_refl (fun _ => trivial)) (dsts_lt (N := 70) (by kernel_rfl)) ((Moved.refl _ _).drew) (fun _ _ => one_start (HL8.out.1.past ((Below.refl _ _).drew))) (all_ops ?_) ?_
          · refine And.intro ?_ ?_
            · refine lstep_run fun fr wf left => ?_
              have o0 := (left.old 0 (by kernel_rfl)).trans rfl
              refine ⟨wanted_none rfl, fun K hK => ?_⟩
              have hB := hide left.base
              clear left
              go_simp
              exact hK _ _ rfl hB.out (one_refl (fun _ => trivial) _ _)
            refine And.intro ?_ ?_
            · refine lstep_run fun fr wf left => ?_
              obtain ⟨x0, e0, r0⟩ := left.slot 70 rfl 0 43 _ rfl rfl (by decide) rfl
              have s0 := Eq.symm (show x0 = .pointer (some ⟨T.g, 0, none⟩) from r0)
              subst s0
              refine ⟨wanted_none rfl, fun K hK => ?_⟩
              have hB := hide left.base
              clear left
              go_simp
              exact hK _ _ rfl hB.out (one_refl (fun _ => trivial) _ _)
            refine And.intro ?_ ?_
            · refine lstep_run fun fr wf left => ?_
              obtain ⟨x1, e1, r1⟩ := left.slot 70 rfl 1 44 _ rfl rfl (by decide) rfl
              have s1 := Eq.symm (show x1 = .pointer (some ⟨T.g, 0, none⟩) from r1)
              subst s1
              refine ⟨wanted_none rfl, fun K hK => ?_⟩
              have hB := hide left.base
              clear left
              go_simp
              exact hK _ _ rfl hB.out (one_refl (fun _ => trivial) _ _)
            refine And.intro ?_ ?_
            · refine lstep_run fun fr wf left => ?_
              obtain ⟨x2, e2, r2⟩ := left.slot 70 rfl 2 45 _ rfl rfl (by decide) rfl
              have s2 := Eq.symm (show x2 = .pointer (some ⟨T.g, 0, none⟩) from r2)
              subst s2
              refine ⟨wanted_none rfl, fun K hK => ?_⟩
              have hB := hide left.base
              have hc := (HFC.out _ hB.out).1
              clear left
              go_simp
              exact hK _ _ rfl hB.out (one_refl (fun _ => trivial) _ _)
            refine And.intro ?_ ?_
            · refine lstep_run fun fr wf left => ?_
              have o6 := (left.old 6 (by kernel_rfl)).trans rfl
              refine ⟨wanted_none rfl, fun K hK => ?_⟩
              have hB := hide left.base
              clear left
              go_simp
              exact hK _ _ rfl hB.out (one_refl (fun _ => trivial) _ _)
            refine And.intro ?_ ?_
            · refine lstep_run fun fr wf left => ?_
              have o5 := (left.old 5 (by kernel_rfl)).trans rfl
              refine ⟨wanted_none rfl, fun K hK => ?_⟩
              have hB := hide left.base
              clear left
              go_simp
              exact hK _ _ rfl hB.out (one_refl (fun _ => trivial) _ _)
            refine And.intro ?_ ?_
            · refine lstep_run fun fr wf left => ?_
              obtain ⟨x5, e5, r5⟩ := left.slot 70 rfl 5 48 _ rfl rfl (by decide) rfl
              have s5 := Eq.symm (show x5 = .int .i64 0 from r5)
              subst s5
              have o3 := (left.old 3 (by kernel_rfl)).trans rfl
              refine ⟨wanted_none rfl, fun K hK => ?_⟩
              have hB := hide left.base
              clear left
              go_simp
              exact hK _ _ rfl hB.out (one_refl (fun _ => trivial) _ _)
            refine And.intro ?_ ?_
            · refine lstep_run fun fr wf left => ?_
              obtain ⟨x6, e6, r6⟩ := left.slot 70 rfl 6 49 _ rfl rfl (by decide) rfl
              have s6 := Eq.symm (show x6 = .pointer (some ⟨b3, 0, none⟩) from r6)
              subst s6
              refine ⟨wanted_none rfl, fun K hK => ?_⟩
              have hB := hide left.base
              have hc := (HFC.out _ hB.out).2
              clear left
              go_simp
              exact hK _ _ rfl hB.out (one_refl (fun _ => trivial) _ _)
            refine And.intro ?_ ?_
            · refine lstep_run fun fr wf left => ?_
              obtain ⟨x3, e3, r3⟩ := left.slot 70 rfl 3 46 _ rfl rfl (by decide) rfl
              have s3 := Eq.symm (show x3 = .pointer (some ⟨D.g, 0, none⟩) from r3)
              subst s3
              obtain ⟨x4, e4, r4⟩ := left.slot 70 rfl 4 47 _ rfl rfl (by decide) rfl
              have s4 := Eq.symm (show x4 = .string ⟨#[105, 116, 101, 109, 115]⟩ from r4)
              subst s4
              obtain ⟨x7, e7, r7⟩ := left.slot 70 rfl 7 50 _ rfl rfl (by decide) rfl
              have s7 := Eq.symm (show x7 = .int .i64 (k0 : Int) from r7)
              subst s7
              refine ⟨wanted_none rfl, fun K hK => ?_⟩
              have hB := hide left.base; have hP := hide (one_pre_at left.pre rfl)
              clear left
              go_simp
              refine (cutA_val D di d2 _ _ rc _ hP.out (by decide) hkw hacts2 hmany2 hkl2 HRC.out).mono ?_
              rintro e w' ⟨rfl, ht⟩
              exact hK _ _ ⟨rfl, ht.at hB.out.size⟩ (hB.out.then ht.moved) (one_at rfl)
            refine And.intro ?_ ?_
            · refine lstep_run fun fr wf left => ?_
              obtain ⟨x8, e8, r8⟩ := left.slot 70 rfl 8 51 _ rfl rfl (by decide) rfl
              obtain ⟨s8, q8⟩ := (show x8 = .int .i64 rc ∧ (fun u => TurnAt D di W8.heap.size u d2) wf from r8)
              subst s8
              refine ⟨wanted_none rfl, fun K hK => ?_⟩
              have hB := hide left.base
              clear left
              go_simp
              exact hK _ _ rfl hB.out (one_refl (fun _ => trivial) _ _)
            exact trivial
          · intro fr wf hB hs hd hall hkeep
            have hw : fr.tmps.getD 51 undef = .int .i64 rc ∧ TurnAt D di W8.heap.size wf d2 := hall 8 _ rfl (by simp)
            have hr : fr.tmps.getD 7 undef = .int .i64 rc := hall 9 _ rfl (by simp)
            have hfr := act_ext (frame_setL hs hkeep [43, 44, 45, 46, 47, 48, 49, 50, 51, 7] (by kernel_rfl)) hd
            clear hall hkeep hs hd
            dsimp only [List.foldl, List.set_cons_zero, List.set_cons_succ] at hfr
            generalize fr.tmps.getD 43 undef = q43 at hfr
            generalize fr.tmps.getD 44 undef = q44 at hfr
            generalize fr.tmps.getD 45 undef = q45 at hfr
            generalize fr.tmps.getD 46 undef = q46 at hfr
            generalize fr.tmps.getD 47 undef = q47 at hfr
            generalize fr.tmps.getD 48 undef = q48 at hfr
            generalize fr.tmps.getD 49 undef = q49 at hfr
            generalize fr.tmps.getD 50 undef = q50 at hfr
            generalize fr.tmps.getD 51 undef = q51 at hfr hw
            generalize fr.tmps.getD 7 undef = q7 at hfr hr
            subst hfr
            have H5 := hide (And.intro hw.2 hB)
            clear hw hB
            subst hr
            by_cases h0 : rc = 0
            · subst h0
              go_wp2_with fail
              go_roundg (3 - 1)
              case measure => decide
              case rel => exact ⟨1, d2, rfl, by decide, rfl, HL8.out.next HDR.out (by rw [← HSZ.out]; exact HCT.out) HRC.out H5.out.1 H5.out.2⟩
            · have hne : (rc != 0) = true := by simp [h0]
              have HH0 := hide h0
              clear h0
              go_wp2_with fail
              go_ret
              have he := HL8.out.err HDR.out (by rw [← HSZ.out]; exact HCT.out) HRC.out HH0.out
              rw [HR.out] at he
              injection he with he1 he2
              subst he1; subst he2
              exact ⟨rfl, TurnsTo.of H5.out.1 (Nat.le_trans HWA.out.1.size HL8.out.2.1.size) ((Moved.of_below HWA.out.1).then HL8.out.2.1) H5.out.2⟩
        · have hcd : decide ((k0 : Int) < sz) = false := decide_eq_false hcut
          have HCT := hide hcut
          clear hcut
          go_upto_region 6 with (fail)
          go_quiet ((go_at_call 24; exact Calls.quiet_of_same (diskSize_any D di _ _ (HL.out.1.past (below_drewN (Below.refl _ _) _)) (by decide))))
          go_wp2_with fail
          go_roundg (3 - 1)
          case measure => decide
          case rel => exact ⟨1, di, rfl, by decide, rfl, HL.out.skip HDR.out (by rw [← HSZ.out]; exact Int.not_lt.2 HCT.out) (below_drewN (Below.refl _ _) _)⟩
      · have hcl : wr.cell? ⟨b3, 1, none⟩ = some (.int .i64 (k1 : Int)) := (cell_blk HF.out.2.1 1).trans rfl
        have HDR := hide (show A.drop 1 = (Fl.nNodes, k1) :: A.drop 2 from by rw [HA.out]; rfl)
        have hix := ix3 1 ⟨#[110, 111, 100, 101, 115]⟩ (by decide)
        obtain ⟨sz, hsz⟩ : ∃ z, z = Dk.size di Fl.nNodes := ⟨_, rfl⟩
        have HSZ := hide hsz
        have hszn : Dk.size di ⟨#[110, 111, 100, 101, 115]⟩ = sz := hsz.symm
        clear hsz
        by_cases hcut : (k1 : Int) < sz
        · have hcd : decide ((k1 : Int) < sz) = true := decide_eq_true hcut
          have HCT := hide hcut
          clear hcut
          go_upto_region 6 with (fail)
          go_quiet ((go_at_call 24; exact Calls.quiet_of_same (diskSize_any D di _ _ (HL.out.1.past (below_drewN (Below.refl _ _) _)) (by decide))))
          generalize hW8 : World.drewN wr _ = W8
          have hb8 : Below wr.heap.size wr W8 := by rw [← hW8]; exact below_drewN (Below.refl _ _) _
          have HL8 := hide (show CutsAt D d A WA 1 di W8 from ⟨HL.out.1.past hb8, HL.out.2.1.then (Moved.of_below hb8), HL.out.2.2⟩)
          have HFC := hide (show ∀ u, Moved (Dk.own D) W8 u → u.cell? ⟨T.g, 0, none⟩ = some (.pointer (some ⟨D.g, 0, none⟩)) ∧ u.cell? ⟨b3, 1, none⟩ = some (.int .i64 (k1 : Int)) from by
            intro u hm
            have h1 := HFN.out u (HL8.out.2.1.then hm)
            exact ⟨h1.1.c0, (cell_blk h1.2.1 1).trans rfl⟩)
          obtain ⟨rc, d2, hrc⟩ : ∃ rc d2, Dk.cutA di Fl.nNodes (k1 : Int) = (rc, d2) := ⟨_, _, rfl⟩
          have HRC := hide hrc
          have hkw : (Lit.int .i64 (k1 : Int)).wf = true := Rec.wf_i64 (by omega) (by omega)
          clear hrc hcl hszn hcd hW8 hb8 c0
          go_upto_region 7 with (fail)
          
          refine wp_region_local (by kernel_rfl) (by kernel_rfl) (useList st71U) [8, 9] (by kernel_rfl) (spR (st71L T D di d2 W8 rc b3 k1)) (onePre 8 (fun u => DiskAt u D di)) (Moved (Dk.own D) W8) (oneE 8 (fun _ _ => True)) (one_stays (by simp [st71L]) (by kernel_rfl)) (one_pre (fun _ _ h hb => h.past hb)) (one_refl (fun _ => trivial)) (dsts_lt (N := 70) (by kernel_rfl)) ((Moved.refl _ _).drew) (fun _ _ => one_start (HL8.out.1.past ((Below.refl _ _).drew))) (all_ops ?_) ?_
          · refine And.intro ?_ ?_
            · refine lstep_run fun fr wf left => ?_
              have o0 := (left.old 0 (by kernel_rfl)).trans rfl
              refine ⟨wanted_none rfl, fun K hK => ?_⟩
              have hB := hide left.base
              clear left
              go_simp
              exact hK _ _ rfl hB.out (one_refl (fun _ => trivial) _ _)
            refine And.intro ?_ ?_
            · refine lstep_run fun fr wf left => ?_
              obtain ⟨x0, e0, r0⟩ := left.slot 70 rfl 0 43 _ rfl rfl (by decide) rfl
              have s0 := Eq.symm (show x0 = .pointer (some ⟨T.g, 0, none⟩) from r0)
              subst s0
              refine ⟨wanted_none rfl, fun K hK => ?_⟩
              have hB := hide left.base
              clear left
              go_simp
              exact hK _ _ rfl hB.out (one_refl (fun _ => trivial) _ _)
            refine And.intro ?_ ?_
            · refine lstep_run fun fr wf left => ?_
              obtain ⟨x1, e1, r1⟩ := left.slot 70 rfl 1 44 _ rfl rfl (by decide) rfl
              have s1 := Eq.symm (show x1 = .pointer (some ⟨T.g, 0, none⟩) from r1)
              subst s1
              refine ⟨wanted_none rfl, fun K hK => ?_⟩
              have hB := hide left.base
              clear left
              go_simp
              exact hK _ _ rfl hB.out (one_refl (fun _ => trivial) _ _)
            refine And.intro ?_ ?_
            · refine lstep_run fun fr wf left => ?_
              obtain ⟨x2, e2, r2⟩ := left.slot 70 rfl 2 45 _ rfl rfl (by decide) rfl
              have s2 := Eq.symm (show x2 = .pointer (some ⟨T.g, 0, none⟩) from r2)
              subst s2
              refine ⟨wanted_none rfl, fun K hK => ?_⟩
              have hB := hide left.base
              have hc := (HFC.out _ hB.out).1
              clear left
              go_simp
              exact hK _ _ rfl hB.out (one_refl (fun _ => trivial) _ _)
            refine And.intro ?_ ?_
            · refine lstep_run fun fr wf left => ?_
              have o6 := (left.old 6 (by kernel_rfl)).trans rfl
              refine ⟨wanted_none rfl, fun K hK => ?_⟩
              have hB := hide left.base
              clear left
              go_simp
              exact hK _ _ rfl hB.out (one_refl (fun _ => trivial) _ _)
            refine And.intro ?_ ?_
            · refine lstep_run fun fr wf left => ?_
              have o5 := (left.old 5 (by kernel_rfl)).trans rfl
              refine ⟨wanted_none rfl, fun K hK => ?_⟩
              have hB := hide left.base
              clear left
              go_simp
              exact hK _ _ rfl hB.out (one_refl (fun _ => trivial) _ _)
            refine And.intro ?_ ?_
            · refine lstep_run fun fr wf left => ?_
              obtain ⟨x5, e5, r5⟩ := left.slot 70 rfl 5 48 _ rfl rfl (by decide) rfl
              have s5 := Eq.symm (show x5 = .int .i64 1 from r5)
              subst s5
              have o3 := (left.old 3 (by kernel_rfl)).trans rfl
              refine ⟨wanted_none rfl, fun K hK => ?_⟩
              have hB := hide left.base
              clear left
              go_simp
              exact hK _ _ rfl hB.out (one_refl (fun _ => trivial) _ _)
            refine And.intro ?_ ?_
            · refine lstep_run fun fr wf left => ?_
              obtain ⟨x6, e6, r6⟩ := left.slot 70 rfl 6 49 _ rfl rfl (by decide) rfl
              have s6 := Eq.symm (show x6 = .pointer (some ⟨b3, 1, none⟩) from r6)
              subst s6
              refine ⟨wanted_none rfl, fun K hK => ?_⟩
              have hB := hide left.base
              have hc := (HFC.out _ hB.out).2
              clear left
              go_simp
              exact hK _ _ rfl hB.out (one_refl (fun _ => trivial) _ _)
            refine And.intro ?_ ?_
            · refine lstep_run fun fr wf left => ?_
              obtain ⟨x3, e3, r3⟩ := left.slot 70 rfl 3 46 _ rfl rfl (by decide) rfl
              have s3 := Eq.symm (show x3 = .pointer (some ⟨D.g, 0, none⟩) from r3)
              subst s3
              obtain ⟨x4, e4, r4⟩ := left.slot 70 rfl 4 47 _ rfl rfl (by decide) rfl
              have s4 := Eq.symm (show x4 = .string ⟨#[110, 111, 100, 101, 115]⟩ from r4)
              subst s4
              obtain ⟨x7, e7, r7⟩ := left.slot 70 rfl 7 50 _ rfl rfl (by decide) rfl
              have s7 := Eq.symm (show x7 = .int .i64 (k1 : Int) from r7)
              subst s7
              refine ⟨wanted_none rfl, fun K hK => ?_⟩
              have hB := hide left.base; have hP := hide (one_pre_at left.pre rfl)
              clear left
              go_simp
              refine (cutA_val D di d2 _ _ rc _ hP.out (by decide) hkw hacts2 hmany2 hkl2 HRC.out).mono ?_
              rintro e w' ⟨rfl, ht⟩
              exact hK _ _ ⟨rfl, ht.at hB.out.size⟩ (hB.out.then ht.moved) (one_at rfl)
            refine And.intro ?_ ?_
            · refine lstep_run fun fr wf left => ?_
              obtain ⟨x8, e8, r8⟩ := left.slot 70 rfl 8 51 _ rfl rfl (by decide) rfl
              obtain ⟨s8, q8⟩ := (show x8 = .int .i64 rc ∧ (fun u => TurnAt D di W8.heap.size u d2) wf from r8)
              subst s8
              refine ⟨wanted_none rfl, fun K hK => ?_⟩
              have hB := hide left.base
              clear left
              go_simp
              exact hK _ _ rfl hB.out (one_refl (fun _ => trivial) _ _)
            exact trivial
          · intro fr wf hB hs hd hall hkeep
            have hw : fr.tmps.getD 51 undef = .int .i64 rc ∧ TurnAt D di W8.heap.size wf d2 := hall 8 _ rfl (by simp)
            have hr : fr.tmps.getD 7 undef = .int .i64 rc := hall 9 _ rfl (by simp)
            have hfr := act_ext (frame_setL hs hkeep [43, 44, 45, 46, 47, 48, 49, 50, 51, 7] (by kernel_rfl)) hd
            clear hall hkeep hs hd
            dsimp only [List.foldl, List.set_cons_zero, List.set_cons_succ] at hfr
            generalize fr.tmps.getD 43 undef = q43 at hfr
            generalize fr.tmps.getD 44 undef = q44 at hfr
            generalize fr.tmps.getD 45 undef = q45 at hfr
            generalize fr.tmps.getD 46 undef = q46 at hfr
            generalize fr.tmps.getD 47 undef = q47 at hfr
            generalize fr.tmps.getD 48 undef = q48 at hfr
            generalize fr.tmps.getD 49 undef = q49 at hfr
            generalize fr.tmps.getD 50 undef = q50 at hfr
            generalize fr.tmps.getD 51 undef = q51 at hfr hw
            generalize fr.tmps.getD 7 undef = q7 at hfr hr
            subst hfr
            have H5 := hide (And.intro hw.2 hB)
            clear hw hB
            subst hr
            by_cases h0 : rc = 0
            · subst h0
              go_wp2_with fail
              go_roundg (3 - 2)
              case measure => decide
              case rel => exact ⟨2, d2, rfl, by decide, rfl, HL8.out.next HDR.out (by rw [← HSZ.out]; exact HCT.out) HRC.out H5.out.1 H5.out.2⟩
            · have hne : (rc != 0) = true := by simp [h0]
              have HH0 := hide h0
              clear h0
              go_wp2_with fail
              go_ret
              have he := HL8.out.err HDR.out (by rw [← HSZ.out]; exact HCT.out) HRC.out HH0.out
              rw [HR.out] at he
              injection he with he1 he2
              subst he1; subst he2
              exact ⟨rfl, TurnsTo.of H5.out.1 (Nat.le_trans HWA.out.1.size HL8.out.2.1.size) ((Moved.of_below HWA.out.1).then HL8.out.2.1) H5.out.2⟩
        · have hcd : decide ((k1 : Int) < sz) = false := decide_eq_false hcut
          have HCT := hide hcut
          clear hcut
          go_upto_region 6 with (fail)
          go_quiet ((go_at_call 24; exact Calls.quiet_of_same (diskSize_any D di _ _ (HL.out.1.past (below_drewN (Below.refl _ _) _)) (by decide))))
          go_wp2_with fail
          go_roundg (3 - 2)
          case measure => decide
          case rel => exact ⟨2, di, rfl, by decide, rfl, HL.out.skip HDR.out (by rw [← HSZ.out]; exact Int.not_lt.2 HCT.out) (below_drewN (Below.refl _ _) _)⟩
      · have hcl : wr.cell? ⟨b3, 2, none⟩ = some (.int .i64 (k2 : Int)) := (cell_blk HF.out.2.1 2).trans rfl
        have HDR := hide (show A.drop 2 = (Fl.nMarks, k2) :: A.drop 3 from by rw [HA.out]; rfl)
        have hix := ix3 2 ⟨#[109, 97, 114, 107, 115]⟩ (by decide)
        obtain ⟨sz, hsz⟩ : ∃ z, z = Dk.size di Fl.nMarks := ⟨_, rfl⟩
        have HSZ := hide hsz
        have hszn : Dk.size di ⟨#[109, 97, 114, 107, 115]⟩ = sz := hsz.symm
        clear hsz
        by_cases hcut : (k2 : Int) < sz
        · have hcd : decide ((k2 : Int) < sz) = true := decide_eq_true hcut
          have HCT := hide hcut
          clear hcut
          go_upto_region 6 with (fail)
          go_quiet ((go_at_call 24; exact Calls.quiet_of_same (diskSize_any D di _ _ (HL.out.1.past (below_drewN (Below.refl _ _) _)) (by decide))))
          generalize hW8 : World.drewN wr _ = W8
          have hb8 : Below wr.heap.size wr W8 := by rw [← hW8]; exact below_drewN (Below.refl _ _) _
          have HL8 := hide (show CutsAt D d A WA 2 di W8 from ⟨HL.out.1.past hb8, HL.out.2.1.then (Moved.of_below hb8), HL.out.2.2⟩)
          have HFC := hide (show ∀ u, Moved (Dk.own D) W8 u → u.cell? ⟨T.g, 0, none⟩ = some (.pointer (some ⟨D.g, 0, none⟩)) ∧ u.cell? ⟨b3, 2, none⟩ = some (.int .i64 (k2 : Int)) from by
            intro u hm
            have h1 := HFN.out u (HL8.out.2.1.then hm)
            exact ⟨h1.1.c0, (cell_blk h1.2.1 2).trans rfl⟩)
          obtain ⟨rc, d2, hrc⟩ : ∃ rc d2, Dk.cutA di Fl.nMarks (k2 : Int) = (rc, d2) := ⟨_, _, rfl⟩
          have HRC := hide hrc
          have hkw : (Lit.int .i64 (k2 : Int)).wf = true := Rec.wf_i64 (by omega) (by omega)
          clear hrc hcl hszn hcd hW8 hb8 c0
          go_upto_region 7 with (fail)
          
          refine wp_region_local (by kernel_rfl) (by kernel_rfl) (useList st72U) [8, 9] (by kernel_rfl) (spR (st72L T D di d2 W8 rc b3 k2)) (onePre 8 (fun u => DiskAt u D di)) (Moved (Dk.own D) W8) (oneE 8 (fun _ _ => True)) (one_stays (by simp [st72L]) (by kernel_rfl)) (one_pre (fun _ _ h hb => h.past hb)) (one_refl (fun _ => trivial)) (dsts_lt (N := 70) (by kernel_rfl)) ((Moved.refl _ _).drew) (fun _ _ => one_start (HL8.out.1.past ((Below.refl _ _).drew))) (all_ops ?_) ?_
          · refine And.intro ?_ ?_
            · refine lstep_run fun fr wf left => ?_
              have o0 := (left.old 0 (by kernel_rfl)).trans rfl
              refine ⟨wanted_none rfl, fun K hK => ?_⟩
              have hB := hide left.base
              clear left
              go_simp
              exact hK _ _ rfl hB.out (one_refl (fun _ => trivial) _ _)
            refine And.intro ?_ ?_
            · refine lstep_run fun fr wf left => ?_
              obtain ⟨x0, e0, r0⟩ := left.slot 70 rfl 0 43 _ rfl rfl (by decide) rfl
              have s0 := Eq.symm (show x0 = .pointer (some ⟨T.g, 0, none⟩) from r0)
              subst s0
              refine ⟨wanted_none rfl, fun K hK => ?_⟩
              have hB := hide left.base
              clear left
              go_simp
              exact hK _ _ rfl hB.out (one_refl (fun _ => trivial) _ _)
            refine And.intro ?_ ?_
            · refine lstep_run fun fr wf left => ?_
              obtain ⟨x1, e1, r1⟩ := left.slot 70 rfl 1 44 _ rfl rfl (by decide) rfl
              have s1 := Eq.symm (show x1 = .pointer (some ⟨T.g, 0, none⟩) from r1)
              subst s1
              refine ⟨wanted_none rfl, fun K hK => ?_⟩
              have hB := hide left.base
              clear left
              go_simp
              exact hK _ _ rfl hB.out (one_refl (fun _ => trivial) _ _)
            refine And.intro ?_ ?_
            · refine lstep_run fun fr wf left => ?_
              obtain ⟨x2, e2, r2⟩ := left.slot 70 rfl 2 45 _ rfl rfl (by decide) rfl
              have s2 := Eq.symm (show x2 = .pointer (some ⟨T.g, 0, none⟩) from r2)
              subst s2
              refine ⟨wanted_none rfl, fun K hK => ?_⟩
              have hB := hide left.base
              have hc := (HFC.out _ hB.out).1
              clear left
              go_simp
              exact hK _ _ rfl hB.out (one_refl (fun _ => trivial) _ _)
            refine And.intro ?_ ?_
            · refine lstep_run fun fr wf left => ?_
              have o6 := (left.old 6 (by kernel_rfl)).trans rfl
              refine ⟨wanted_none rfl, fun K hK => ?_⟩
              have hB := hide left.base
              clear left
              go_simp
              exact hK _ _ rfl hB.out (one_refl (fun _ => trivial) _ _)
            refine And.intro ?_ ?_
            · refine lstep_run fun fr wf left => ?_
              have o5 := (left.old 5 (by kernel_rfl)).trans rfl
              refine ⟨wanted_none rfl, fun K hK => ?_⟩
              have hB := hide left.base
              clear left
              go_simp
              exact hK _ _ rfl hB.out (one_refl (fun _ => trivial) _ _)
            refine And.intro ?_ ?_
            · refine lstep_run fun fr wf left => ?_
              obtain ⟨x5, e5, r5⟩ := left.slot 70 rfl 5 48 _ rfl rfl (by decide) rfl
              have s5 := Eq.symm (show x5 = .int .i64 2 from r5)
              subst s5
              have o3 := (left.old 3 (by kernel_rfl)).trans rfl
              refine ⟨wanted_none rfl, fun K hK => ?_⟩
              have hB := hide left.base
              clear left
              go_simp
              exact hK _ _ rfl hB.out (one_refl (fun _ => trivial) _ _)
            refine And.intro ?_ ?_
            · refine lstep_run fun fr wf left => ?_
              obtain ⟨x6, e6, r6⟩ := left.slot 70 rfl 6 49 _ rfl rfl (by decide) rfl
              have s6 := Eq.symm (show x6 = .pointer (some ⟨b3, 2, none⟩) from r6)
              subst s6
              refine ⟨wanted_none rfl, fun K hK => ?_⟩
              have hB := hide left.base
              have hc := (HFC.out _ hB.out).2
              clear left
              go_simp
              exact hK _ _ rfl hB.out (one_refl (fun _ => trivial) _ _)
            refine And.intro ?_ ?_
            · refine lstep_run fun fr wf left => ?_
              obtain ⟨x3, e3, r3⟩ := left.slot 70 rfl 3 46 _ rfl rfl (by decide) rfl
              have s3 := Eq.symm (show x3 = .pointer (some ⟨D.g, 0, none⟩) from r3)
              subst s3
              obtain ⟨x4, e4, r4⟩ := left.slot 70 rfl 4 47 _ rfl rfl (by decide) rfl
              have s4 := Eq.symm (show x4 = .string ⟨#[109, 97, 114, 107, 115]⟩ from r4)
              subst s4
              obtain ⟨x7, e7, r7⟩ := left.slot 70 rfl 7 50 _ rfl rfl (by decide) rfl
              have s7 := Eq.symm (show x7 = .int .i64 (k2 : Int) from r7)
              subst s7
              refine ⟨wanted_none rfl, fun K hK => ?_⟩
              have hB := hide left.base; have hP := hide (one_pre_at left.pre rfl)
              clear left
              go_simp
              refine (cutA_val D di d2 _ _ rc _ hP.out (by decide) hkw hacts2 hmany2 hkl2 HRC.out).mono ?_
              rintro e w' ⟨rfl, ht⟩
              exact hK _ _ ⟨rfl, ht.at hB.out.size⟩ (hB.out.then ht.moved) (one_at rfl)
            refine And.intro ?_ ?_
            · refine lstep_run fun fr wf left => ?_
              obtain ⟨x8, e8, r8⟩ := left.slot 70 rfl 8 51 _ rfl rfl (by decide) rfl
              obtain ⟨s8, q8⟩ := (show x8 = .int .i64 rc ∧ (fun u => TurnAt D di W8.heap.size u d2) wf from r8)
              subst s8
              refine ⟨wanted_none rfl, fun K hK => ?_⟩
              have hB := hide left.base
              clear left
              go_simp
              exact hK _ _ rfl hB.out (one_refl (fun _ => trivial) _ _)
            exact trivial
          · intro fr wf hB hs hd hall hkeep
            have hw : fr.tmps.getD 51 undef = .int .i64 rc ∧ TurnAt D di W8.heap.size wf d2 := hall 8 _ rfl (by simp)
            have hr : fr.tmps.getD 7 undef = .int .i64 rc := hall 9 _ rfl (by simp)
            have hfr := act_ext (frame_setL hs hkeep [43, 44, 45, 46, 47, 48, 49, 50, 51, 7] (by kernel_rfl)) hd
            clear hall hkeep hs hd
            dsimp only [List.foldl, List.set_cons_zero, List.set_cons_succ] at hfr
            generalize fr.tmps.getD 43 undef = q43 at hfr
            generalize fr.tmps.getD 44 undef = q44 at hfr
            generalize fr.tmps.getD 45 undef = q45 at hfr
            generalize fr.tmps.getD 46 undef = q46 at hfr
            generalize fr.tmps.getD 47 undef = q47 at hfr
            generalize fr.tmps.getD 48 undef = q48 at hfr
            generalize fr.tmps.getD 49 undef = q49 at hfr
            generalize fr.tmps.getD 50 undef = q50 at hfr
            generalize fr.tmps.getD 51 undef = q51 at hfr hw
            generalize fr.tmps.getD 7 undef = q7 at hfr hr
            subst hfr
            have H5 := hide (And.intro hw.2 hB)
            clear hw hB
            subst hr
            by_cases h0 : rc = 0
            · subst h0
              go_wp2_with fail
              go_roundg (3 - 3)
              case measure => decide
              case rel => exact ⟨3, d2, rfl, by decide, rfl, HL8.out.next HDR.out (by rw [← HSZ.out]; exact HCT.out) HRC.out H5.out.1 H5.out.2⟩
            · have hne : (rc != 0) = true := by simp [h0]
              have HH0 := hide h0
              clear h0
              go_wp2_with fail
              go_ret
              have he := HL8.out.err HDR.out (by rw [← HSZ.out]; exact HCT.out) HRC.out HH0.out
              rw [HR.out] at he
              injection he with he1 he2
              subst he1; subst he2
              exact ⟨rfl, TurnsTo.of H5.out.1 (Nat.le_trans HWA.out.1.size HL8.out.2.1.size) ((Moved.of_below HWA.out.1).then HL8.out.2.1) H5.out.2⟩
        · have hcd : decide ((k2 : Int) < sz) = false := decide_eq_false hcut
          have HCT := hide hcut
          clear hcut
          go_upto_region 6 with (fail)
          go_quiet ((go_at_call 24; exact Calls.quiet_of_same (diskSize_any D di _ _ (HL.out.1.past (below_drewN (Below.refl _ _) _)) (by decide))))
          go_wp2_with fail
          go_roundg (3 - 3)
          case measure => decide
          case rel => exact ⟨3, di, rfl, by decide, rfl, HL.out.skip HDR.out (by rw [← HSZ.out]; exact Int.not_lt.2 HCT.out) (below_drewN (Below.refl _ _) _)⟩
      · have HC3 := hide (show Fl.doAll di Fl.syncs = (r, d') from by
          have h1 := HL.out.2.2.1
          rw [HR.out, show A.drop 3 = [] by rw [HA.out]; rfl] at h1
          exact h1.symm)
        have HB := hide (show di.acts ≤ d.acts + 3 ∧ di.files.length ≤ d.files.length + 3 ∧ di.keep = d.keep from HL.out.2.2.2)
        have d40 : wr.cell? ⟨b4, 0, none⟩ = some (.string ⟨#[105, 116, 101, 109, 115]⟩) := (cell_blk HF.out.2.2 0).trans rfl
        have d41 : wr.cell? ⟨b4, 1, none⟩ = some (.string ⟨#[110, 111, 100, 101, 115]⟩) := (cell_blk HF.out.2.2 1).trans rfl
        have d42 : wr.cell? ⟨b4, 2, none⟩ = some (.string ⟨#[109, 97, 114, 107, 115]⟩) := (cell_blk HF.out.2.2 2).trans rfl
        clear hacts2 hmany2 hkl2 c0
        obtain ⟨wp, rfl⟩ : ∃ u, u = wr := ⟨_, rfl⟩
        go_upto_block 2 with (fail)
        go_wp2_with fail
        go_loopg [57] 3 (fun g v57 wq => ∃ (i : Nat) (dj : Dk.St), g = 3 - i ∧ i ≤ 3 ∧ v57 = .int .i64 (i : Int) ∧ Hid (LoopAt D di Fl.syncs wp i dj wq))
        case atStart => exact ⟨0, di, rfl, Nat.zero_le _, rfl, LoopAt.start _ HL.out.1⟩
        case round =>
          obtain ⟨j, dj, rfl, hj3, rfl, HM⟩ := hrel
          have hacts2 : dj.acts < 4611686018427387904 := by have h1 := HM.out.2.2.2.1; have h2 := HACT.out.1; have h3 := HB.out.1; omega
          have hmany2 : dj.files.length < 1099511627776 := by have h1 := HM.out.2.2.2.2.1; have h2 := HACT.out.2.1; have h3 := HB.out.2.1; omega
          have hkl2 : dj.keep.length ≤ 140737488351232 := by rw [HM.out.2.2.2.2.2, HB.out.2.2]; exact HACT.out.2.2
          have hcase : j = 0 ∨ j = 1 ∨ j = 2 ∨ j = 3 := by omega
          have c0 := (HFN.out wr (HL.out.2.1.then HM.out.2.1)).1.c0
          rcases hcase with rfl | rfl | rfl | rfl
          · have hix := ix3 0 ⟨#[105, 116, 101, 109, 115]⟩ (by decide)
            obtain ⟨rs, d2, hrs⟩ : ∃ rs d2, Fl.doV dj (.sync Fl.nItems) = (rs, d2) := ⟨_, _, rfl⟩
            have HRS := hide hrs
            clear hrs
            go_wp2_with fail
            refine (syncA_val D dj d2 _ rs _ HM.out.1 (by decide) hacts2 hmany2 hkl2 HRS.out).mono ?_
            rintro e w7 ⟨rfl, ht⟩
            have HTN := hide ht
            clear ht c0
            by_cases h0 : rs = 0
            · subst h0
              go_wp2_with fail
              go_roundg (3 - 1)
              case measure => decide
              case rel => exact ⟨1, d2, rfl, by decide, rfl, HM.out.next rfl HRS.out HTN.out⟩
            · have hne : (rs != 0) = true := by simp [h0]
              have HH0 := hide h0
              clear h0
              go_wp2_with fail
              go_ret
              have he := HM.out.err (i := 0) (a := .sync Fl.nItems) rfl HRS.out HH0.out
              rw [HC3.out] at he
              injection he with he1 he2
              subst he1; subst he2
              exact ⟨rfl, TurnsTo.of (HTN.out.at (Nat.le_refl _)) (Nat.le_trans HWA.out.1.size (Nat.le_trans HL.out.2.1.size HM.out.2.1.size)) ((Moved.of_below HWA.out.1).then (HL.out.2.1.then HM.out.2.1)) HTN.out.moved⟩
          · have hix := ix3 1 ⟨#[110, 111, 100, 101, 115]⟩ (by decide)
            obtain ⟨rs, d2, hrs⟩ : ∃ rs d2, Fl.doV dj (.sync Fl.nNodes) = (rs, d2) := ⟨_, _, rfl⟩
            have HRS := hide hrs
            clear hrs
            go_wp2_with fail
            refine (syncA_val D dj d2 _ rs _ HM.out.1 (by decide) hacts2 hmany2 hkl2 HRS.out).mono ?_
            rintro e w7 ⟨rfl, ht⟩
            have HTN := hide ht
            clear ht c0
            by_cases h0 : rs = 0
            · subst h0
              go_wp2_with fail
              go_roundg (3 - 2)
              case measure => decide
              case rel => exact ⟨2, d2, rfl, by decide, rfl, HM.out.next rfl HRS.out HTN.out⟩
            · have hne : (rs != 0) = true := by simp [h0]
              have HH0 := hide h0
              clear h0
              go_wp2_with fail
              go_ret
              have he := HM.out.err (i := 1) (a := .sync Fl.nNodes) rfl HRS.out HH0.out
              rw [HC3.out] at he
              injection he with he1 he2
              subst he1; subst he2
              exact ⟨rfl, TurnsTo.of (HTN.out.at (Nat.le_refl _)) (Nat.le_trans HWA.out.1.size (Nat.le_trans HL.out.2.1.size HM.out.2.1.size)) ((Moved.of_below HWA.out.1).then (HL.out.2.1.then HM.out.2.1)) HTN.out.moved⟩
          · have hix := ix3 2 ⟨#[109, 97, 114, 107, 115]⟩ (by decide)
            obtain ⟨rs, d2, hrs⟩ : ∃ rs d2, Fl.doV dj (.sync Fl.nMarks) = (rs, d2) := ⟨_, _, rfl⟩
            have HRS := hide hrs
            clear hrs
            go_wp2_with fail
            refine (syncA_val D dj d2 _ rs _ HM.out.1 (by decide) hacts2 hmany2 hkl2 HRS.out).mono ?_
            rintro e w7 ⟨rfl, ht⟩
            have HTN := hide ht
            clear ht c0
            by_cases h0 : rs = 0
            · subst h0
              go_wp2_with fail
              go_roundg (3 - 3)
              case measure => decide
              case rel => exact ⟨3, d2, rfl, by decide, rfl, HM.out.next rfl HRS.out HTN.out⟩
            · have hne : (rs != 0) = true := by simp [h0]
              have HH0 := hide h0
              clear h0
              go_wp2_with fail
              go_ret
              have he := HM.out.err (i := 2) (a := .sync Fl.nMarks) rfl HRS.out HH0.out
              rw [HC3.out] at he
              injection he with he1 he2
              subst he1; subst he2
              exact ⟨rfl, TurnsTo.of (HTN.out.at (Nat.le_refl _)) (Nat.le_trans HWA.out.1.size (Nat.le_trans HL.out.2.1.size HM.out.2.1.size)) ((Moved.of_below HWA.out.1).then (HL.out.2.1.then HM.out.2.1)) HTN.out.moved⟩
          · have he := HM.out.fin (i := 3) rfl
            rw [HC3.out] at he
            obtain ⟨he1, he2⟩ := Prod.mk.inj he
            have HE := hide (And.intro he1 he2)
            clear he1 he2
            go_wp2_with fail
            go_ret
            refine ⟨(congrArg (fun z => Ending.returned (Value.int .i64 z)) HE.out.1).symm, D, rfl, rfl, .inl rfl, by rw [HE.out.2]; exact HM.out.1, (Moved.of_below HWA.out.1).then (HL.out.2.1.then HM.out.2.1)⟩
end Go.Proofs.YtbfbajfdlkgloaaGreatDoor
