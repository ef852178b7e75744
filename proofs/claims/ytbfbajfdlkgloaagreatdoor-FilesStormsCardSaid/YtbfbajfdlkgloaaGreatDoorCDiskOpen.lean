/-
  The program's disk: Open.
-/
import Derived.Test.YtbfbajfdlkgloaaGreatDoorG17
import Derived.Test.YtbfbajfdlkgloaaGreatDoorG09
import Derived.Maps.OwnSet
import Derived.Deep.CutBlock
namespace Go.Proofs.YtbfbajfdlkgloaaGreatDoor
open Go Go.RowKit Go.Maps
namespace Dk
def has (l : Fs) (n : ByteArray) : Bool := l.any fun p => decide (p.1 = n)
def openStep (o : Option (Fs × Int)) (p : ByteArray × ByteArray) : Option (Fs × Int) :=
  o.bind fun q => if has q.1 p.1 = true ∨ 268435456 < p.2.size then none else some (put q.1 p.1 ⟨p.2, p.2⟩, wrap64 (q.2 + p.2.size))
def openS (l : List (ByteArray × ByteArray)) : Option (Fs × Int) := l.foldl openStep (some ([], 0))
/-- Open: the error's number, and the disk. -/
def openC (room : Int) (l : List (ByteArray × ByteArray)) : Int × Option St :=
  match openS l with
  | none => (173, none)
  | some q => if max room 0 < q.2 then (172, none) else (0, some { newSt room with files := q.1 })
theorem openS_none : ∀ l : List (ByteArray × ByteArray), l.foldl openStep none = none
  | [] => rfl
  | _ :: l => openS_none l
theorem openS_snoc (l : List (ByteArray × ByteArray)) (p : ByteArray × ByteArray) : openS (l ++ [p]) = openStep (openS l) p := by
  unfold openS; rw [List.foldl_append]; rfl
theorem openS_bad {l : List (ByteArray × ByteArray)} {j : Nat} {p : ByteArray × ByteArray} {fs : Fs} {sum : Int} (hp : l[j]? = some p) (hS : openS (l.take j) = some (fs, sum)) (hb : has fs p.1 = true ∨ 268435456 < p.2.size) : openS l = none := by
  have e : l = l.take j ++ (p :: l.drop (j + 1)) := by
    obtain ⟨hj, rfl⟩ := List.getElem?_eq_some_iff.1 hp
    rw [← List.drop_eq_getElem_cons hj, List.take_append_drop]
  rw [e]
  unfold openS at hS ⊢
  rw [List.foldl_append, hS, List.foldl_cons]
  have : openStep (some (fs, sum)) p = none := by unfold openStep; simp only [Option.bind_some]; rw [if_pos hb]
  rw [this, openS_none]
theorem openS_next {l : List (ByteArray × ByteArray)} {j : Nat} {p : ByteArray × ByteArray} {fs : Fs} {sum : Int} (hp : l[j]? = some p) (hS : openS (l.take j) = some (fs, sum)) (hb : ¬ (has fs p.1 = true ∨ 268435456 < p.2.size)) : openS (l.take (j + 1)) = some (put fs p.1 ⟨p.2, p.2⟩, wrap64 (sum + p.2.size)) := by
  rw [List.take_add_one, hp]
  show openS (l.take j ++ [p]) = _
  rw [openS_snoc, hS]
  unfold openStep
  simp only [Option.bind_some]; rw [if_neg hb]
theorem has_put (l : Fs) (n : ByteArray) (f : F) (m : ByteArray) : has (put l n f) m = (decide (n = m) || has l m) := by
  rw [Bool.eq_iff_iff]
  unfold has
  rw [Bool.or_eq_true, List.any_eq_true, List.any_eq_true, decide_eq_true_iff]
  constructor
  · rintro ⟨p, hp, h⟩
    rcases mem_put hp with rfl | hp
    · exact .inl (of_decide_eq_true h)
    · exact .inr ⟨p, hp, h⟩
  · rintro (rfl | ⟨p, hp, h⟩)
    · exact ⟨(n, f), mem_ins.2 (.inl rfl), by simp⟩
    · have hpm := of_decide_eq_true h
      by_cases e : p.1 = n
      · exact ⟨(n, f), mem_ins.2 (.inl rfl), by rw [← e]; exact h⟩
      · exact ⟨p, mem_ins.2 (.inr (List.mem_filter.2 ⟨hp, by simp [e]⟩)), h⟩
theorem openS_len : ∀ (l : List (ByteArray × ByteArray)) (o : Option (Fs × Int)) (k : Nat) (q : Fs × Int), (∀ r, o = some r → r.1.length ≤ k) → l.foldl openStep o = some q → q.1.length ≤ k + l.length
  | [], o, k, q, h, e => h q e
  | p :: l, o, k, q, h, e => by
    have := openS_len l (openStep o p) (k + 1) q (fun r hr => by
      unfold openStep at hr
      cases o with
      | none => cases hr
      | some x =>
        simp only [Option.bind_some] at hr
        split at hr
        · cases hr
        · injection hr with hr
          rw [← hr]
          have h1 := h x rfl
          have h2 := len_put x.1 p.1 ⟨p.2, p.2⟩
          show (put x.1 p.1 ⟨p.2, p.2⟩).length ≤ _
          omega) e
    simp only [List.length_cons]; omega
end Dk
def Opened (r : Int × Option Dk.St) (w : World) (e : Ending) (w' : World) : Prop :=
  Below w.heap.size w w' ∧ ((r.2 = none ∧ e = .returned (.tuple #[.pointer none, .int .i64 r.1])) ∨ ∃ (s : Dk.St) (D : Dk.Blk), r = (0, some s) ∧ e = .returned (.tuple #[.pointer (some ⟨D.g, 0, none⟩), .int .i64 0]) ∧ DiskAt w' D s ∧ w.heap.size ≤ D.g ∧ w.heap.size ≤ D.mb ∧ D.kv = .slice none 0 0)
/-- The map of the names that were seen. -/
def SeenAt (w : World) (mb n : Nat) (fs : Dk.Fs) : Prop := ∃ D : DataW Unit, w.ownsMap Tryz.prog 9 (plainElem Tryz.prog 3) mb n D ∧ IsMap D ∧ ∀ m : ByteArray, D.atKey (.string (Dk.key m)) (.lit (.int .i64 0)) = .lit (.int .i64 (if Dk.has fs m = true then 1 else 0))
theorem zeroInt (w : World) : (zeroValue 3).run Tryz.prog w = .ok (.int .i64 0) w := by kernel_rfl
theorem key_lit (m : ByteArray) : WideAt.IsKeyLit (.string (Dk.key m)) := by first | trivial | simp [WideAt.IsKeyLit]
theorem own_stable' {mb n : Nat} {d : DataW Unit} {R : Value → Option (DataW Unit × List MemPlace)} : ∀ u u' : World, u.ownsMap Tryz.prog 9 R mb n d → Below u.heap.size u u' → u'.ownsMap Tryz.prog 9 R mb n d := by
  rintro u u' h hb
  have hlt := h.lt
  obtain ⟨es, clock, h1, h2⟩ := h
  exact ⟨es, clock, (hb.block mb hlt).trans h1, h2⟩
theorem SeenAt.past {w w' : World} {mb n : Nat} {fs : Dk.Fs} (h : SeenAt w mb n fs) (hb : Below w.heap.size w w') : SeenAt w' mb n fs := by
  obtain ⟨D, h1, h2, h3⟩ := h
  exact ⟨D, own_stable' _ _ h1 hb, h2, h3⟩
theorem SeenAt.stay {S : Nat → Prop} {w w' : World} {mb n : Nat} {fs : Dk.Fs} (h : SeenAt w mb n fs) (hm : Moved S w w') (hs : ¬ S mb) : SeenAt w' mb n fs := by
  obtain ⟨D, h1, h2, h3⟩ := h
  have hlt := h1.lt
  obtain ⟨es, clock, h4, h5⟩ := h1
  exact ⟨D, ⟨es, clock, (hm.block mb hlt hs).trans h4, h5⟩, h2, h3⟩
def opnaL (D : Dk.Blk) (fs : Dk.Fs) (nm tx : ByteArray) (b10 : Nat) : List Sp :=
  [.is (.pointer (some ⟨D.g, 0, none⟩)), .is (.pointer (some ⟨D.g, 0, none⟩)), .is (.pointer (some ⟨D.g, 1, none⟩)), .is (.map (some D.mb)), .is (.pointer (some ⟨b10, 0, none⟩)), .is (.string nm), .is (.pointer (some ⟨b10, 1, none⟩)), .is (.string tx), .is (.pointer (some ⟨b10, 1, none⟩)), .is (.string tx), .is (.agg #[.string tx, .string tx]), .say (fun u => u.ownsMap Tryz.prog 9 Dk.R D.mb (Dk.put fs nm ⟨tx, tx⟩).length (Dk.dat (Dk.put fs nm ⟨tx, tx⟩))) (own_stable)]
def opnaU : List (List Nat) := [[], [0], [1], [2], [], [4], [], [6], [], [8], [7, 9], [3, 5, 10]]
set_option maxHeartbeats 6400000 in
set_option maxRecDepth 100000 in
theorem diskOpen_any (room : Int) (v : Value) (l : List (ByteArray × ByteArray)) (w : World) (hr : (Lit.int .i64 room).wf = true) (hv : SlF w v l) (hl : l.length ≤ 1099511627776) (hn : ∀ p ∈ l, p.1.size ≤ 140737488351232 ∧ p.2.size ≤ 140737488351232) :
    Calls Tryz.prog 29 #[.int .i64 room, v] w (Opened (Dk.openC room l) w) := by
  obtain ⟨len, a, cap, hll, rfl, hlc, HCv⟩ := hv.form
  have HC := hide HCv
  have HL := hide hll
  have hlm : len ≤ 1099511627776 := by omega
  clear hv HCv hll hl
  go_enter Tryz.func29, Tryz.ntmps29
  go_wp2_with fail
  refine (diskNew_any room w hr).mono ?_
  rintro e w1 ⟨D, rfl, hD, hg, hm, hkv, hb⟩
  obtain ⟨s0, hs0⟩ : ∃ s, s = Dk.newSt room := ⟨_, rfl⟩
  have HRM := hide (show s0 = ⟨max room 0, [], 0, 0, 0, [], 0, false⟩ from hs0)
  rw [← hs0] at hD
  have HD := hide (And.intro hD (And.intro hg (And.intro hm (And.intro hkv hb))))
  have HS0 := hide hs0
  have hmm := @run_makeMap Tryz.prog
  clear hD hg hm hkv hb hs0
  go_upto_region 3 with (fail)
  obtain ⟨mb2, hmb2⟩ : ∃ x, x = w1.heap.size := ⟨_, rfl⟩
  obtain ⟨W2, hW2⟩ : ∃ V, V = w1.alloc (.map #[] 0) := ⟨_, rfl⟩
  rw [← hW2, ← hmb2]
  have H2 := hide (show DiskAt W2 D { s0 with files := [] } ∧ SeenAt W2 mb2 0 [] ∧ Below w1.heap.size w1 W2 from by
    have hbb : Below w1.heap.size w1 W2 := by rw [hW2]; exact (Below.refl _ _).alloc (Nat.le_refl _) _
    refine ⟨?_, ⟨.map [], by rw [hW2, hmb2]; exact World.ownsMap_made _ _ _ _, isMap_empty, fun m => ?_⟩, hbb⟩
    · have := HD.out.1.past hbb
      rw [show ({ s0 with files := [] } : Dk.St) = s0 by rw [HRM.out]]
      exact this
    · rfl)
  have HMB := hide (show mb2 = w1.heap.size from hmb2)
  clear hW2 hmb2 hmm
  go_wp2_with fail
  go_loopg [8, 16] len (fun g v8 v16 wr => ∃ (j : Nat) (fs : Dk.Fs) (sum : Int), j ≤ len ∧ g = len - j ∧ v16 = .int .i64 j ∧ v8 = .int .i64 sum ∧ -9223372036854775808 ≤ sum ∧ sum ≤ 9223372036854775807 ∧ Hid (Dk.openS (l.take j) = some (fs, sum) ∧ DiskAt wr D { s0 with files := fs } ∧ SeenAt wr mb2 j fs ∧ Below w.heap.size w wr))
  case atStart => exact ⟨0, [], 0, by omega, rfl, rfl, rfl, by decide, by decide, rfl, H2.out.1, H2.out.2.1, HD.out.2.2.2.2.trans (H2.out.2.2.mono HD.out.2.2.2.2.size)⟩
  case round =>
    obtain ⟨j, fs, sum, hj, rfl, rfl, rfl, hs0, hs1, HQ⟩ := hrel
    by_cases hjl : j < len
    · obtain ⟨p, hp⟩ : ∃ p, l[j]? = some p := ⟨_, List.getElem?_eq_getElem (by rw [← HL.out]; exact hjl)⟩
      obtain ⟨b, off, rfl, hbw, hx1, hx2⟩ := HC.out j p hp
      have HP := hide hp
      have hnp := hn p (List.mem_of_getElem? hp)
      obtain ⟨nm, tx⟩ := p
      have hnl : nm.size ≤ 140737488351232 := hnp.1
      have htl : tx.size ≤ 140737488351232 := hnp.2
      have HRG := hide (show wr.rangeAt b (off + j * 2) [.string nm, .string tx] from range_pair ((HQ.out.2.2.2.cell (p := ⟨b, off + j * 2, none⟩) hbw).trans hx1) (by rw [Nat.add_assoc]; exact (HQ.out.2.2.2.cell (p := ⟨b, off + (j * 2 + 1), none⟩) hbw).trans hx2))
      clear hp hbw hx1 hx2 hnp
      go_upto_region 7 with (refine wpList_load_mid rfl 51 (.tmp 18) rfl b (off + j * 2) rfl _ _ HRG.out Tryz.underlying51 rfl (by kernel_rfl) ?_)
      obtain ⟨b10, hb10⟩ : ∃ x, x = wr.heap.size := ⟨_, rfl⟩
      rw [← hb10]
      obtain ⟨W5, hW5⟩ : ∃ V, V = wr.alloc (.cells #[.string nm, .string tx] 51) := ⟨_, rfl⟩
      rw [← hW5]
      have hb5 : Below wr.heap.size wr W5 := by rw [hW5]; exact (Below.refl _ _).alloc (Nat.le_refl _) _
      have hk5 : W5.heap[b10]? = some (.cells #[.string nm, .string tx] 51 (0, 0)) := by rw [hW5, hb10]; exact alloc_at _ _
      have k0 : W5.cell? ⟨b10, 0, none⟩ = some (.string nm) := (cell_blk hk5 0).trans rfl
      have HD5 := hide (HQ.out.2.1.past hb5)
      have HW5 := hide (show Below w.heap.size w W5 from HQ.out.2.2.2.trans (hb5.mono HQ.out.2.2.2.size))
      obtain ⟨Ds, hown0, him, hat⟩ := HQ.out.2.2.1
      have hown := own_stable' _ _ hown0 hb5
      have hmb : mb2 < wr.heap.size := hown0.lt
      have hkey := Go.WideMaps.keyOf_string_mk Tryz.underlying9 (s := nm) (show nm.size ≤ maxLen by unfold maxLen; omega)
      obtain ⟨c, hlk1, hc, _⟩ := hown.lookup_int strK Tryz.underlying123 Tryz.underlying3 (zeroInt _) hkey
      have hcc : c = if Dk.has fs nm = true then 1 else 0 := by
        have e := (hat nm).symm.trans hc
        injection e with e; injection e with _ e; exact e.symm
      clear hc
      have hwf : (Lit.int .i64 (c + 1)).wf = true := by rw [hcc]; split <;> decide
      obtain ⟨W6, hrun, hown6, hg6⟩ := hown.update strK Tryz.underlying123 (show j < maxLen by unfold maxLen; omega) hkey (plainElem_int Tryz.underlying3 hwf)
      obtain ⟨c2, hlk2, hc2, _⟩ := hown6.lookup_int strK Tryz.underlying123 Tryz.underlying3 (zeroInt _) hkey
      have hcc2 : c2 = c + 1 := by
        have e := (atKey_put_same (D := Ds) (k := .string nm.data.toList) him (key_lit nm) _ _).symm.trans hc2
        injection e with e; injection e with _ e; exact e.symm
      have hm6 : Moved (fun k => k = mb2) W5 W6 := Moved.of_grown hg6 (fun j hj => by injection hj with hj; exact hj.symm)
      have hbm : ¬ b10 = mb2 := by omega
      have hk6 : W6.heap[b10]? = some (.cells #[.string nm, .string tx] 51 (0, 0)) := (hm6.block b10 (heap_lt hk5) hbm).trans hk5
      have q0 : W6.cell? ⟨b10, 0, none⟩ = some (.string nm) := (cell_blk hk6 0).trans rfl
      have q1 : W6.cell? ⟨b10, 1, none⟩ = some (.string tx) := (cell_blk hk6 1).trans rfl
      have HMM := hide (show mb2 ≠ D.g ∧ mb2 ≠ D.mb ∧ w.heap.size ≤ mb2 from by
        have h1 := HD.out.1.glt; have h2 := HD.out.1.map.lt; have h3 := HMB.out; have h4 := HD.out.2.2.2.2.size; omega)
      have HD6 := hide (show DiskAt W6 D { s0 with files := fs } from HD5.out.stay hm6 ⟨fun e => HMM.out.1 e.symm, fun e => HMM.out.2.1 e.symm, fun k hk => by rw [HD.out.2.2.2.1] at hk; cases hk⟩)
      have HW6 := hide (show Below w.heap.size w W6 from HW5.out.trans (hm6.below HW5.out.size (fun k hk => by rw [hk]; exact HMM.out.2.2)))
      have HB10 := hide hk6
      have HS6 := hide (show Dk.has fs nm = false → SeenAt W6 mb2 (j + 1) (Dk.put fs nm ⟨tx, tx⟩) from fun hh => by
        refine ⟨_, hown6, him.put _ _, fun m => ?_⟩
        rw [Dk.has_put]
        by_cases e : nm = m
        · subst e
          refine (atKey_put_same (D := Ds) (k := .string nm.data.toList) him (key_lit nm) _ _).trans ?_
          rw [hcc]
          simp [hh]
        · refine (atKey_put_other (D := Ds) (k' := .string (Dk.key m)) (k := .string nm.data.toList) (fun h => e (by injection h with h; exact (Dk.key_inj h).symm)) _ _).trans ?_
          rw [hat m]
          simp [e])
      have HB5 := hide hb5
      clear hb5 hk5 hk6 hown0 him hat hown hkey hwf hown6 hc2 hg6 hm6 hbm hmb hW5 hb10
      by_cases hh : Dk.has fs nm = true
      · have hc1 : c = 1 := by rw [hcc, if_pos hh]
        have hc0 : 0 ≤ c := by omega
        have hc9 : c ≤ 1 := by omega
        have hc2' : 1 < c2 := by omega
        clear hc1
        have HE := hide (show Dk.openC room l = (173, none) by unfold Dk.openC; rw [Dk.openS_bad HP.out HQ.out.1 (.inl hh)])
        clear hh hcc hcc2
        go_wp2_with fail
        go_ret2
        rw [HE.out]
        exact ⟨HW6.out, .inl ⟨rfl, rfl⟩⟩
      · have hc1 : c = 0 := by rw [hcc, if_neg hh]
        have hc0 : 0 ≤ c := by omega
        have hc9 : c ≤ 1 := by omega
        have hc2' : ¬ 1 < c2 := by omega
        clear hc1
        by_cases hbig : 268435456 < tx.size
        · have HE := hide (show Dk.openC room l = (173, none) by unfold Dk.openC; rw [Dk.openS_bad HP.out HQ.out.1 (.inr hbig)])
          have hbig2 : (268435456 : Int) < (tx.size : Int) := by omega
          clear hh hcc hcc2
          go_wp2_with fail
          go_ret2
          rw [HE.out]
          exact ⟨HW6.out, .inl ⟨rfl, rfl⟩⟩
        · have HN := hide (Dk.openS_next HP.out HQ.out.1 (fun h => h.elim hh hbig))
          have HS7 := hide (HS6.out (by simpa using hh))
          have hbig2 : ¬ (268435456 : Int) < (tx.size : Int) := by omega
          have HLEN := hide (show fs.length < maxLen by have := HD6.out.ok.many; have h : fs.length ≤ 1099511627776 := this; unfold maxLen; omega)
          have HNL := hide (show nm.size ≤ maxLen by unfold maxLen; omega)
          have C1 := hide (show W6.cell? ⟨D.g, 1, none⟩ = some (.map (some D.mb)) from HD6.out.c1)
          have HDG := hide (show D.g < W6.heap.size ∧ ¬ D.g = D.mb from ⟨HD6.out.glt, HD6.out.ne⟩)
          clear hh hcc hcc2
          go_upto_region 11 with (fail)
          
          refine wp_region_local (by kernel_rfl) (by kernel_rfl) (useList opnaU) [11] (by kernel_rfl) (spR (opnaL D fs nm tx b10)) (fun k u => k < 12 → Below W6.heap.size W6 u) (Moved (fun k => k = D.mb) W6) (oneE 11 (fun _ _ => True)) (one_stays (by simp [opnaL]) (by kernel_rfl)) (last_pre (fun _ _ h hb => h.trans (hb.mono h.size)) (by kernel_rfl)) (one_refl (fun _ => trivial)) (dsts_lt (N := 60) (by kernel_rfl)) ((Moved.refl _ _).drew) (fun _ _ _ => (Below.refl _ _).drew) (all_ops ?_) ?_
          · refine And.intro ?_ ?_
            · refine lstep_run fun fr wf left => ?_
              have o6 := (left.old 6 (by kernel_rfl)).trans rfl
              refine ⟨wanted_none rfl, fun K hK => ?_⟩
              have hB := hide left.base; have hP := hide (left.pre (by decide))
              clear left
              go_simp
              exact hK _ _ rfl hB.out (one_refl (fun _ => trivial) _ _)
            refine And.intro ?_ ?_
            · refine lstep_run fun fr wf left => ?_
              obtain ⟨x0, e0, r0⟩ := left.slot 60 rfl 0 41 _ rfl rfl (by decide) rfl
              have s0 := Eq.symm (show x0 = .pointer (some ⟨D.g, 0, none⟩) from r0)
              subst s0
              refine ⟨wanted_none rfl, fun K hK => ?_⟩
              have hB := hide left.base; have hP := hide (left.pre (by decide))
              clear left
              go_simp
              exact hK _ _ rfl hB.out (one_refl (fun _ => trivial) _ _)
            refine And.intro ?_ ?_
            · refine lstep_run fun fr wf left => ?_
              obtain ⟨x1, e1, r1⟩ := left.slot 60 rfl 1 42 _ rfl rfl (by decide) rfl
              have s1 := Eq.symm (show x1 = .pointer (some ⟨D.g, 0, none⟩) from r1)
              subst s1
              refine ⟨wanted_none rfl, fun K hK => ?_⟩
              have hB := hide left.base; have hP := hide (left.pre (by decide))
              clear left
              go_simp
              exact hK _ _ rfl hB.out (one_refl (fun _ => trivial) _ _)
            refine And.intro ?_ ?_
            · refine lstep_run fun fr wf left => ?_
              obtain ⟨x2, e2, r2⟩ := left.slot 60 rfl 2 43 _ rfl rfl (by decide) rfl
              have s2 := Eq.symm (show x2 = .pointer (some ⟨D.g, 1, none⟩) from r2)
              subst s2
              refine ⟨wanted_none rfl, fun K hK => ?_⟩
              have hB := hide left.base; have hP := hide (left.pre (by decide))
              have hc := (hP.out.cell (p := ⟨D.g, 1, none⟩) HDG.out.1).trans C1.out
              clear left
              go_simp
              exact hK _ _ rfl hB.out (one_refl (fun _ => trivial) _ _)
            refine And.intro ?_ ?_
            · refine lstep_run fun fr wf left => ?_
              have o10 := (left.old 10 (by kernel_rfl)).trans rfl
              refine ⟨wanted_none rfl, fun K hK => ?_⟩
              have hB := hide left.base; have hP := hide (left.pre (by decide))
              clear left
              go_simp
              exact hK _ _ rfl hB.out (one_refl (fun _ => trivial) _ _)
            refine And.intro ?_ ?_
            · refine lstep_run fun fr wf left => ?_
              obtain ⟨x4, e4, r4⟩ := left.slot 60 rfl 4 45 _ rfl rfl (by decide) rfl
              have s4 := Eq.symm (show x4 = .pointer (some ⟨b10, 0, none⟩) from r4)
              subst s4
              refine ⟨wanted_none rfl, fun K hK => ?_⟩
              have hB := hide left.base; have hP := hide (left.pre (by decide))
              have hc := (cell_blk ((hP.out.block b10 (heap_lt HB10.out)).trans HB10.out) 0).trans rfl
              clear left
              go_simp
              exact hK _ _ rfl hB.out (one_refl (fun _ => trivial) _ _)
            refine And.intro ?_ ?_
            · refine lstep_run fun fr wf left => ?_
              have o10 := (left.old 10 (by kernel_rfl)).trans rfl
              refine ⟨wanted_none rfl, fun K hK => ?_⟩
              have hB := hide left.base; have hP := hide (left.pre (by decide))
              clear left
              go_simp
              exact hK _ _ rfl hB.out (one_refl (fun _ => trivial) _ _)
            refine And.intro ?_ ?_
            · refine lstep_run fun fr wf left => ?_
              obtain ⟨x6, e6, r6⟩ := left.slot 60 rfl 6 47 _ rfl rfl (by decide) rfl
              have s6 := Eq.symm (show x6 = .pointer (some ⟨b10, 1, none⟩) from r6)
              subst s6
              refine ⟨wanted_none rfl, fun K hK => ?_⟩
              have hB := hide left.base; have hP := hide (left.pre (by decide))
              have hc := (cell_blk ((hP.out.block b10 (heap_lt HB10.out)).trans HB10.out) 1).trans rfl
              clear left
              go_simp
              exact hK _ _ rfl hB.out (one_refl (fun _ => trivial) _ _)
            refine And.intro ?_ ?_
            · refine lstep_run fun fr wf left => ?_
              have o10 := (left.old 10 (by kernel_rfl)).trans rfl
              refine ⟨wanted_none rfl, fun K hK => ?_⟩
              have hB := hide left.base; have hP := hide (left.pre (by decide))
              clear left
              go_simp
              exact hK _ _ rfl hB.out (one_refl (fun _ => trivial) _ _)
            refine And.intro ?_ ?_
            · refine lstep_run fun fr wf left => ?_
              obtain ⟨x8, e8, r8⟩ := left.slot 60 rfl 8 49 _ rfl rfl (by decide) rfl
              have s8 := Eq.symm (show x8 = .pointer (some ⟨b10, 1, none⟩) from r8)
              subst s8
              refine ⟨wanted_none rfl, fun K hK => ?_⟩
              have hB := hide left.base; have hP := hide (left.pre (by decide))
              have hc := (cell_blk ((hP.out.block b10 (heap_lt HB10.out)).trans HB10.out) 1).trans rfl
              clear left
              go_simp
              exact hK _ _ rfl hB.out (one_refl (fun _ => trivial) _ _)
            refine And.intro ?_ ?_
            · refine lstep_run fun fr wf left => ?_
              obtain ⟨x7, e7, r7⟩ := left.slot 60 rfl 7 48 _ rfl rfl (by decide) rfl
              have s7 := Eq.symm (show x7 = .string tx from r7)
              subst s7
              obtain ⟨x9, e9, r9⟩ := left.slot 60 rfl 9 50 _ rfl rfl (by decide) rfl
              have s9 := Eq.symm (show x9 = .string tx from r9)
              subst s9
              refine ⟨wanted_none rfl, fun K hK => ?_⟩
              have hB := hide left.base; have hP := hide (left.pre (by decide))
              clear left
              go_simp
              exact hK _ _ rfl hB.out (one_refl (fun _ => trivial) _ _)
            refine And.intro ?_ ?_
            · refine lstep_run fun fr wf left => ?_
              obtain ⟨x3, e3, r3⟩ := left.slot 60 rfl 3 44 _ rfl rfl (by decide) rfl
              have s3 := Eq.symm (show x3 = .map (some D.mb) from r3)
              subst s3
              obtain ⟨x5, e5, r5⟩ := left.slot 60 rfl 5 46 _ rfl rfl (by decide) rfl
              have s5 := Eq.symm (show x5 = .string nm from r5)
              subst s5
              obtain ⟨x10, e10, r10⟩ := left.slot 60 rfl 10 51 _ rfl rfl (by decide) rfl
              have s10 := Eq.symm (show x10 = .agg #[.string tx, .string tx] from r10)
              subst s10
              refine ⟨wanted_none rfl, fun K hK => ?_⟩
              have hB := hide left.base; have hP := hide (left.pre (by decide))
              clear left
              obtain ⟨w5, hrun, hm5, hg5⟩ := (own_stable _ _ HD6.out.map hP.out).update strK Tryz.underlying85 HLEN.out (Go.WideMaps.keyOf_string_mk Tryz.underlying9 (s := nm) HNL.out) (Dk.R_val ⟨tx, tx⟩)
              unfold Dk.valF at hrun
              dsimp only at hrun
              go_simp
              refine hK undef _ ?_ (hB.out.then (Moved.of_grown hg5 (fun j hj => by injection hj with hj; exact hj.symm))) (one_at rfl)
              refine own_tight (n := fs.length + 1) ?_
              rw [Dk.put_dat]; exact hm5
            exact trivial
          · intro fr wf hB hs hd hall hkeep
            have h11 : wf.ownsMap Tryz.prog 9 Dk.R D.mb (Dk.put fs nm ⟨tx, tx⟩).length (Dk.dat (Dk.put fs nm ⟨tx, tx⟩)) := hall 11 _ rfl (by simp)
            have hfr := act_ext (frame_set hs hkeep [41, 42, 43, 44, 45, 46, 47, 48, 49, 50, 51] (by kernel_rfl)) hd
            obtain ⟨q41, hq41⟩ : ∃ q, q = fr.tmps.getD 41 undef := ⟨_, rfl⟩
            obtain ⟨q42, hq42⟩ : ∃ q, q = fr.tmps.getD 42 undef := ⟨_, rfl⟩
            obtain ⟨q43, hq43⟩ : ∃ q, q = fr.tmps.getD 43 undef := ⟨_, rfl⟩
            obtain ⟨q44, hq44⟩ : ∃ q, q = fr.tmps.getD 44 undef := ⟨_, rfl⟩
            obtain ⟨q45, hq45⟩ : ∃ q, q = fr.tmps.getD 45 undef := ⟨_, rfl⟩
            obtain ⟨q46, hq46⟩ : ∃ q, q = fr.tmps.getD 46 undef := ⟨_, rfl⟩
            obtain ⟨q47, hq47⟩ : ∃ q, q = fr.tmps.getD 47 undef := ⟨_, rfl⟩
            obtain ⟨q48, hq48⟩ : ∃ q, q = fr.tmps.getD 48 undef := ⟨_, rfl⟩
            obtain ⟨q49, hq49⟩ : ∃ q, q = fr.tmps.getD 49 undef := ⟨_, rfl⟩
            obtain ⟨q50, hq50⟩ : ∃ q, q = fr.tmps.getD 50 undef := ⟨_, rfl⟩
            obtain ⟨q51, hq51⟩ : ∃ q, q = fr.tmps.getD 51 undef := ⟨_, rfl⟩
            simp only [List.foldl, ← hq41, ← hq42, ← hq43, ← hq44, ← hq45, ← hq46, ← hq47, ← hq48, ← hq49, ← hq50, ← hq51] at hfr
            simp only [List.setIfInBounds_toArray, List.set_cons_zero, List.set_cons_succ] at hfr
            clear hall hkeep hs hd hq41 hq42 hq43 hq44 hq45 hq46 hq47 hq48 hq49 hq50 hq51
            subst hfr
            have HBF := hide (And.intro hB h11)
            clear hB h11
            go_wp2_with fail
            go_roundg (len - (j + 1))
            case measure => omega
            case rel =>
              refine ⟨j + 1, Dk.put fs nm ⟨tx, tx⟩, wrap64 (sum + tx.size), by omega, rfl, by go_num, rfl, by unfold wrap64; omega, by unfold wrap64; omega, HN.out, ?_, HS7.out.stay HBF.out.1 HMM.out.2.1, HW6.out.trans (HBF.out.1.below HW6.out.size (fun k hk => by have hk : k = D.mb := hk; rw [hk]; exact HD.out.2.2.1))⟩
              have ho := HD6.out.ok
              refine ⟨⟨ho.room, ho.acts, ho.left, ?_, ?_, ?_, Dk.up_put ho.up _ _⟩, (HBF.out.1.block D.g HDG.out.1 HDG.out.2).trans HD6.out.cells, HBF.out.2, ?_, HD6.out.apart⟩
              · intro q hq
                rcases Dk.mem_put hq with rfl | hq
                · exact hnl
                · exact ho.names q hq
              · have h1 := Dk.openS_len (l.take (j + 1)) (some ([], 0)) 0 _ (fun r hr => by injection hr with hr; rw [← hr]; exact Nat.le_refl _) HN.out
                have h2 : (l.take (j + 1)).length ≤ len := by rw [List.length_take, HL.out]; omega
                show (Dk.put fs nm ⟨tx, tx⟩).length ≤ _
                have h1 : (Dk.put fs nm ⟨tx, tx⟩).length ≤ 0 + (l.take (j + 1)).length := h1
                omega
              · intro q hq
                rcases Dk.mem_put hq with rfl | hq
                · have ht : tx.size ≤ 268435456 := by omega
                  exact ⟨ht, ht⟩
                · exact ho.sizes q hq
              · exact HD6.out.keep.stay HBF.out.1.size fun k hk hlt => HBF.out.1.block k hlt (fun e => HD6.out.apart.2 (by rw [hk, e]))
    · have hj' : j = len := by omega
      have HO := hide (show Dk.openS l = some (fs, sum) by rw [← HQ.out.1, hj', HL.out, List.take_length])
      have hrm : 0 ≤ max room 0 ∧ max room 0 ≤ 9223372036854775807 := by
        have h : IntKind.i64.min ≤ room ∧ room ≤ IntKind.i64.max := by simpa [Lit.wf] using hr
        have h2 : room ≤ 9223372036854775807 := h.2
        omega
      obtain ⟨rm, hrme⟩ : ∃ r, r = max room 0 := ⟨_, rfl⟩
      have d0 := HQ.out.2.1.c0
      rw [show ({ s0 with files := fs } : Dk.St).room = rm by rw [HRM.out, hrme]] at d0
      have HRM2 := hide hrme
      clear hj' hrme
      by_cases hs : rm < sum
      · have HE := hide (show Dk.openC room l = (172, none) by unfold Dk.openC; rw [HO.out]; dsimp only; rw [if_pos (by rw [← HRM2.out]; exact hs)])
        go_wp2_with fail
        go_ret2
        rw [HE.out]
        exact ⟨HQ.out.2.2.2, .inl ⟨rfl, rfl⟩⟩
      · have HE := hide (show Dk.openC room l = (0, some { s0 with files := fs }) by unfold Dk.openC; rw [HO.out]; dsimp only; rw [if_neg (by rw [← HRM2.out]; exact hs), HS0.out])
        go_wp2_with fail
        go_ret2
        rw [HE.out]
        exact ⟨HQ.out.2.2.2, .inr ⟨_, D, rfl, rfl, HQ.out.2.1, HD.out.2.1, HD.out.2.2.1, HD.out.2.2.2.1⟩⟩
end Go.Proofs.YtbfbajfdlkgloaaGreatDoor
