/-
  massiflaw18.RecordLays: the walk, where the texts handed in are together not longer than memory bears.
-/
import Derived.Test.YtoddjpkacaekbaaRecChain
import Derived.Test.YtoddjpkacaekbaaRecReads
import Derived.BigQuiet
import Derived.WalkSmall
namespace Go.Proofs.Ytoddjpkacaekbaa
open Go.RowKit
theorem info_str : (Try.prog.info? 9).map (fun i => (i.zero, i.size, i.bytes)) = some (some (.string ByteArray.empty), 1, 16) := by kernel_rfl
theorem ones_str (ps : List ByteArray) : ∀ u ∈ ps.map Value.string, u.oneCell' = true := by
  intro u hu
  obtain ⟨p, _, rfl⟩ := List.mem_map.1 hu
  rfl
theorem owns_empty (w : World) (T : Nat) : (w.alloc (.cells #[] T)).ownsRow w.heap.size T 1 (.slice (some ⟨w.heap.size, 0, none⟩) 0 0) 0 [] := World.ownsRow_lit _ #[] 0 (Nat.le_refl _) (Nat.zero_le _) rfl
theorem refNode_val (p : Nat) (d t : ByteArray) (w : World) (hp : p < 18446744073709551616) (hd : d.size ≤ 140737488351232) (ht : t = Rec.nodeB p d) : Calls Try.prog 19 #[.int .u64 (p : Int), .string d] w fun e w' => e = .returned (.string t) ∧ Below w.heap.size w w' := by
  rw [ht]; exact refNode_any p d w hp hd
theorem refMark_val (m : Rec.Mk) (t : ByteArray) (w : World) (hm : m.ok) (ht : t = Rec.markB m) : Calls Try.prog 20 #[.agg m.cells] w fun e w' => e = .returned (.string t) ∧ Below w.heap.size w w' := by
  rw [ht]; exact refMark_any m w hm
theorem chain_val (c : Nat) (item : ByteArray) (v : Value) (xs : List ByteArray) (r : Nat) (w : World) (hc : c < 4294967296) (hi : item.size ≤ 140737488351232) (hv : SlV w v (xs.map Value.string)) (hn : xs.length ≤ 140737488351232) (hxs : Rec.sizes xs ≤ 140737488351232) (hr : r = Rec.chainB c item xs) :
    Calls Try.prog 21 #[.int .u32 (c : Int), .string item, v] w fun e w' => e = .returned (.int .u32 (r : Int)) ∧ Below w.heap.size w w' := by
  rw [hr]; exact chain_any c item v xs w hc hi hv hn hxs
theorem refChain_val (c : Nat) (item : ByteArray) (v : Value) (xs : List ByteArray) (r : Nat) (w : World) (hc : c < 4294967296) (hi : item.size ≤ 140737488351232) (hv : SlV w v (xs.map Value.string)) (hn : xs.length ≤ 140737488351232) (hxs : Rec.sizes xs ≤ 140737488351232) (hr : r = Rec.chainB c item xs) :
    Calls Try.prog 22 #[.int .u32 (c : Int), .string item, v] w fun e w' => e = .returned (.int .u32 (r : Int)) ∧ Below w.heap.size w w' := by
  rw [hr]; exact refChain_any c item v xs w hc hi hv hn hxs
theorem arr_drewN {w : World} {g e : Nat} {xs : List Value} (h : Arr w g e xs) {m : Nat} : Arr (w.drewN m) g e xs := by
  obtain ⟨C, lo, hi, h1, h2⟩ := h
  exact ⟨C, lo, hi, by simpa using h1, h2⟩
theorem take_map_succ (ns : List ByteArray) (k : Nat) (x : ByteArray) (h : k < ns.length) (hx : x = ns.getD (ns.length - 1 - k) ByteArray.empty) : (ns.reverse.take k).map Value.string ++ [.string x] = (ns.reverse.take (k + 1)).map Value.string := by
  have hxr : x = ns.reverse[k]'(by simpa using h) := by
    rw [hx, List.getElem_reverse]
    simp [List.getD, show ns.length - 1 - k < ns.length by omega]
  rw [List.take_succ_eq_append_getElem (by simpa using h), List.map_append, ← hxr]
  rfl
def mark1 : Value := .string ⟨#[109, 97, 114, 107, 32, 111, 110, 101]⟩
def mark2 : Value := .string ⟨#[109, 97, 114, 107, 32, 116, 119, 111]⟩
/-- The list while its beginning is turned round. -/
def turning (ns : List ByteArray) (k : Nat) : List Value := (ns.reverse.take k ++ ns.drop k).map Value.string ++ [mark1, mark2]
theorem turning_len (ns : List ByteArray) (k : Nat) (h : k ≤ ns.length) : (turning ns k).length = ns.length + 2 := by
  unfold turning; simp; omega
theorem turning_set (ns : List ByteArray) (k : Nat) (x : ByteArray) (h : k < ns.length) (hx : x = ns.getD (ns.length - 1 - k) ByteArray.empty) : (turning ns k).set k (.string x) = turning ns (k + 1) := by
  have hxr : x = ns.reverse[k]'(by simpa using h) := by
    rw [hx, List.getElem_reverse]
    simp [List.getD, show ns.length - 1 - k < ns.length by omega]
  unfold turning
  have hl : (ns.reverse.take k).length = k := by simp; omega
  rw [List.set_append_left _ _ (by simp; omega), ← List.map_set, List.set_append_right _ _ (by omega), hl, Nat.sub_self, List.drop_eq_getElem_cons h, List.set_cons_zero]
  congr 2
  rw [List.take_succ_eq_append_getElem (by simpa using h), ← hxr, List.append_assoc]
  rfl
theorem turning_zero (ns : List ByteArray) : turning ns 0 = ns.map Value.string ++ [mark1, mark2] := by unfold turning; simp
theorem turning_all (ns : List ByteArray) : turning ns ns.length = ns.reverse.map Value.string ++ [mark1, mark2] := by
  unfold turning
  rw [List.take_of_length_le (by simp), List.drop_length, List.append_nil]
theorem sizes_reverse (ns : List ByteArray) : Rec.sizes ns.reverse = Rec.sizes ns := by
  unfold Rec.sizes; rw [List.map_reverse, List.sum_reverse]
-- DEFS laysa
def laysaL (w : World) (item d P N M : ByteArray) (p : Nat) (mk : Int) (ms mi mn mc : Nat) : List Sp :=
  [.is (.bool true), .is (.bool false), .is (.bool false), .is (.string item), .is (.string P), .is (.string item), .is (.string P), .is (.bool false), .is (.bool false), .is (.bool false), .is (.int .u64 (p : Int)), .is (.string d), .is (.string N), .is (.int .u64 (p : Int)), .is (.string d), .is (.string N), .is (.bool false), .is (.bool false), .is (.bool false), .is (.agg #[.int .i64 mk, .int .u64 (ms : Int), .int .u64 (mi : Int), .int .u64 (mn : Int), .int .u32 (mc : Int)]), .is (.agg #[.int .i64 mk, .int .u64 (ms : Int), .int .u64 (mi : Int), .int .u64 (mn : Int), .int .u32 (mc : Int)]), .is (.string M), .is (.agg #[.int .i64 mk, .int .u64 (ms : Int), .int .u64 (mi : Int), .int .u64 (mn : Int), .int .u32 (mc : Int)]), .is (.string M), .is (.bool false), .is (.bool false)]
def laysaU : List (List Nat) := [[], [0], [1], [2], [2, 3], [2], [2, 5], [2, 4, 6], [2, 7], [8], [9], [9], [9, 10, 11], [9], [9], [9, 13, 14], [9, 12, 15], [9, 16], [17], [18], [18, 19], [18, 20], [18], [18, 22], [18, 21, 23], [18, 24]]
-- END laysa
-- DEFS laysb
def laysbL (w : World) (item : ByteArray) (a : Option Addr) (n g cw cap mc C : Nat) : List Sp :=
  [.is (.pointer (some ⟨w.heap.size, 4, none⟩)), .is (.int .u32 (mc : Int)), .is (.string item), .is (.slice (some ⟨g, 0, none⟩) (n + 2) cw), .is (.int .i64 (n : Int)), .is (.slice (some ⟨g, 0, none⟩) n cw), .is (.int .u32 (C : Int)), .is (.pointer (some ⟨w.heap.size, 4, none⟩)), .is (.int .u32 (mc : Int)), .is (.string item), .is (.slice a n cap), .is (.int .u32 (C : Int)), .is (.bool false), .is (.bool false), .is (.slice (some ⟨g, 0, none⟩) (n + 2) cw), .is (.int .i64 (n : Int)), .is (.pointer (some ⟨g, n, none⟩)), .is (.string ⟨#[109, 97, 114, 107, 32, 111, 110, 101]⟩), .is (.bool false), .is (.bool false), .is (.bool false), .is (.slice (some ⟨g, 0, none⟩) (n + 2) cw), .is (.int .i64 (n : Int)), .is (.int .i64 ((n : Int) + 1)), .is (.pointer (some ⟨g, n + 1, none⟩)), .is (.string ⟨#[109, 97, 114, 107, 32, 116, 119, 111]⟩), .is (.bool false), .is (.bool false)]
def laysbU : List (List Nat) := [[], [0], [], [], [], [3, 4], [1, 2, 5], [], [7], [], [], [8, 9, 10], [6, 11], [12], [13], [13], [13, 14, 15], [13, 16], [13, 17], [13, 18], [19], [20], [20], [20, 22], [20, 21, 23], [20, 24], [20, 25], [20, 26]]
-- END laysb
-- DEFS laysc
def layscL (w : World) (item : ByteArray) (vo : Value) (j g cw mc C2 : Nat) : List Sp :=
  [.is (.pointer (some ⟨w.heap.size, 4, none⟩)), .is (.int .u32 (mc : Int)), .is (.string item), .is (.slice (some ⟨g, 0, none⟩) (j + 2) cw), .is (.int .i64 (j : Int)), .is (.slice (some ⟨g, 0, none⟩) j cw), .is (.int .u32 (C2 : Int)), .is (.pointer (some ⟨w.heap.size, 4, none⟩)), .is (.int .u32 (mc : Int)), .is (.string item), .is (vo), .is (.int .u32 (C2 : Int)), .is (.bool true), .is (.bool true)]
def layscU : List (List Nat) := [[], [0], [], [], [], [3, 4], [1, 2, 5], [], [7], [], [], [8, 9, 10], [6, 11], [12]]
-- END laysc
set_option maxHeartbeats 1600000 in
set_option maxRecDepth 100000 in
theorem lays_any (item : ByteArray) (p : Nat) (d : ByteArray) (m : Rec.Mk) (v : Value) (ns : List ByteArray) (w : World) (hi : item.size ≤ 1048576) (hp : p < 18446744073709551616) (hd : d.size ≤ 1048576) (hm : m.ok)
    (hv : SlV w v (ns.map Value.string)) (hn : ns.length ≤ 1048576) (hns : Rec.sizes ns ≤ 1048576) :
    Calls Try.prog 6 #[.string item, .int .u64 (p : Int), .string d, .agg m.cells, v] w fun e w' => e = .returned (.bool true) ∧ Below w.heap.size w w' := by
  obtain ⟨mk, ms, mi, mn, mc⟩ := m
  have HM4 := hide (show mc < 4294967296 from hm.2.2.2.2)
  obtain ⟨n, a, cap, hl, rfl, hc, HCv⟩ := hv.form
  rw [List.length_map] at hl
  have HV := hide hv
  have HCC := hide HCv
  have HL := hide hl
  have hnb : n ≤ 1048576 := by omega
  have h47 : item.size ≤ 140737488351232 := by omega
  have d47 : d.size ≤ 140737488351232 := by omega
  have hn47 : ns.length ≤ 140737488351232 := by omega
  have hz47 : Rec.sizes ns ≤ 140737488351232 := by omega
  obtain ⟨P, hP⟩ : ∃ X, X = Rec.payB item := ⟨_, rfl⟩
  obtain ⟨N, hN⟩ : ∃ X, X = Rec.nodeB p d := ⟨_, rfl⟩
  obtain ⟨M, hM⟩ : ∃ X, X = Rec.markB ⟨mk, ms, mi, mn, mc⟩ := ⟨_, rfl⟩
  obtain ⟨C, hC⟩ : ∃ X, X = Rec.chainB mc item ns := ⟨_, rfl⟩
  obtain ⟨C2, hC2⟩ : ∃ X, X = Rec.chainB mc item ns.reverse := ⟨_, rfl⟩
  have HX := hide (And.intro hP (And.intro hN (And.intro hM hm)))
  have HC := hide hC
  have HC2 := hide hC2
  clear hP hN hM hm hv HCv hl hC hC2
  unfold Rec.Mk.cells
  go_enter Try.func6, Try.ntmps6
  go_upto_region 1 with (fail)
  obtain ⟨W0, hW0⟩ : ∃ V, V = w.alloc (.cells #[.int .i64 mk, .int .u64 (ms : Int), .int .u64 (mi : Int), .int .u64 (mn : Int), .int .u32 (mc : Int)] 34) := ⟨_, rfl⟩
  rw [← hW0]
  have HZ0 := hide (show W0.heap[w.heap.size]? = some (.cells #[.int .i64 mk, .int .u64 (ms : Int), .int .u64 (mi : Int), .int .u64 (mn : Int), .int .u32 (mc : Int)] 34) by rw [hW0]; exact alloc_at _ _)
  have HB0 := hide (show Below w.heap.size w W0 by rw [hW0]; exact (Below.refl _ _).alloc (Nat.le_refl _) _)
  have HW0 := hide (show W0.heap.size = w.heap.size + 1 by rw [hW0]; simp)
  clear hW0
  go_cut [41] from 16 to 42 (fun v41 wx => Hid (v41 = .bool false ∧ Below W0.heap.size W0 wx))
  case first =>
-- REGION laysa
    
    refine wp_region_local (by kernel_rfl) (by kernel_rfl) (useList laysaU) [25] (by kernel_rfl) (spR (laysaL w item d P N M p mk ms mi mn mc)) (fun _ _ => True) (Below W0.heap.size W0) (fun _ w w' => Below w.heap.size w w') spR_stays (fun _ _ _ _ _ h _ => h) (fun _ _ => Below.refl _ _) (dsts_lt (N := 127) (by kernel_rfl)) ((Below.refl _ _).drew) (fun _ _ => trivial) (all_ops ?_) ?_
    · refine And.intro ?_ ?_
      · -- 0: slot 16 := Op.call { callee := Callee.value (Operand.func 7), args := #[], argTypes := #[] }
        refine lstep_run fun fr wf left => ?_
        refine ⟨wanted_none rfl, fun K hK => ?_⟩
        have hB := hide left.base
        clear left
        go_simp
        refine (fixed_any _).mono ?_
        rintro e w' ⟨rfl, hb⟩
        exact hK _ _ rfl (hB.out.trans (hb.mono (le_base hB.out))) hb
      refine And.intro ?_ ?_
      · -- 1: slot 17 := Op.unOp UnOp.not 4 (Operand.tmp 16)
        refine lstep_run fun fr wf left => ?_
        obtain ⟨x0, e0, r0⟩ := left.slot 127 rfl 0 16 _ rfl rfl (by decide) rfl
        have s0 := Eq.symm (show x0 = .bool true from r0)
        subst s0
        refine ⟨wanted_none rfl, fun K hK => ?_⟩
        have hB := hide left.base
        clear left
        go_simp
        exact hK _ _ rfl hB.out (Below.refl _ _)
      refine And.intro ?_ ?_
      · -- 2: slot 18 := Op.move (Operand.tmp 17)
        refine lstep_run fun fr wf left => ?_
        obtain ⟨x1, e1, r1⟩ := left.slot 127 rfl 1 17 _ rfl rfl (by decide) rfl
        have s1 := Eq.symm (show x1 = .bool false from r1)
        subst s1
        refine ⟨wanted_none rfl, fun K hK => ?_⟩
        have hB := hide left.base
        clear left
        go_simp
        exact hK _ _ rfl hB.out (Below.refl _ _)
      refine And.intro ?_ ?_
      · -- 3: slot 19 := Op.move (Operand.tmp 0)
        refine lstep_run fun fr wf left => ?_
        obtain ⟨x2, e2, r2⟩ := left.slot 127 rfl 2 18 _ rfl rfl (by decide) rfl
        have s2 := Eq.symm (show x2 = .bool false from r2)
        subst s2
        have o0 := (left.old 0 (by kernel_rfl)).trans rfl
        refine ⟨wanted_yes rfl rfl e2, fun K hK => ?_⟩
        have hB := hide left.base
        clear left
        go_simp
        exact hK _ _ rfl hB.out (Below.refl _ _)
      refine And.intro ?_ ?_
      · -- 4: slot 20 := Op.call { callee := Callee.value (Operand.func 15), args := #[Operand.tmp 19], argTypes :=
        refine lstep_run fun fr wf left => ?_
        obtain ⟨x2, e2, r2⟩ := left.slot 127 rfl 2 18 _ rfl rfl (by decide) rfl
        have s2 := Eq.symm (show x2 = .bool false from r2)
        subst s2
        obtain ⟨x3, e3, r3⟩ := left.slot 127 rfl 3 19 _ rfl rfl (by decide) rfl
        have s3 := Eq.symm (show x3 = .string item from r3)
        subst s3
        refine ⟨wanted_yes rfl rfl e2, fun K hK => ?_⟩
        have hB := hide left.base
        clear left
        go_simp
        refine (pay_val item P _ h47 HX.out.1).mono ?_
        rintro e w' ⟨rfl, hb⟩
        exact hK _ _ rfl (hB.out.trans (hb.mono (le_base hB.out))) hb
      refine And.intro ?_ ?_
      · -- 5: slot 21 := Op.move (Operand.tmp 0)
        refine lstep_run fun fr wf left => ?_
        obtain ⟨x2, e2, r2⟩ := left.slot 127 rfl 2 18 _ rfl rfl (by decide) rfl
        have s2 := Eq.symm (show x2 = .bool false from r2)
        subst s2
        have o0 := (left.old 0 (by kernel_rfl)).trans rfl
        refine ⟨wanted_yes rfl rfl e2, fun K hK => ?_⟩
        have hB := hide left.base
        clear left
        go_simp
        exact hK _ _ rfl hB.out (Below.refl _ _)
      refine And.intro ?_ ?_
      · -- 6: slot 22 := Op.call { callee := Callee.value (Operand.func 18), args := #[Operand.tmp 21], argTypes :=
        refine lstep_run fun fr wf left => ?_
        obtain ⟨x2, e2, r2⟩ := left.slot 127 rfl 2 18 _ rfl rfl (by decide) rfl
        have s2 := Eq.symm (show x2 = .bool false from r2)
        subst s2
        obtain ⟨x5, e5, r5⟩ := left.slot 127 rfl 5 21 _ rfl rfl (by decide) rfl
        have s5 := Eq.symm (show x5 = .string item from r5)
        subst s5
        refine ⟨wanted_yes rfl rfl e2, fun K hK => ?_⟩
        have hB := hide left.base
        clear left
        go_simp
        refine (refPay_val item P _ h47 HX.out.1).mono ?_
        rintro e w' ⟨rfl, hb⟩
        exact hK _ _ rfl (hB.out.trans (hb.mono (le_base hB.out))) hb
      refine And.intro ?_ ?_
      · -- 7: slot 23 := Op.binOp BinOp.neq 9 (Operand.tmp 20) (Operand.tmp 22) 9
        refine lstep_run fun fr wf left => ?_
        obtain ⟨x2, e2, r2⟩ := left.slot 127 rfl 2 18 _ rfl rfl (by decide) rfl
        have s2 := Eq.symm (show x2 = .bool false from r2)
        subst s2
        obtain ⟨x4, e4, r4⟩ := left.slot 127 rfl 4 20 _ rfl rfl (by decide) rfl
        have s4 := Eq.symm (show x4 = .string P from r4)
        subst s4
        obtain ⟨x6, e6, r6⟩ := left.slot 127 rfl 6 22 _ rfl rfl (by decide) rfl
        have s6 := Eq.symm (show x6 = .string P from r6)
        subst s6
        refine ⟨wanted_yes rfl rfl e2, fun K hK => ?_⟩
        have hB := hide left.base
        clear left
        go_simp
        exact hK _ _ rfl hB.out (Below.refl _ _)
      refine And.intro ?_ ?_
      · -- 8: slot 24 := Op.pick (Operand.tmp 18) (Operand.const (Value.bool true)) (Operand.tmp 23)
        refine lstep_run fun fr wf left => ?_
        obtain ⟨x2, e2, r2⟩ := left.slot 127 rfl 2 18 _ rfl rfl (by decide) rfl
        have s2 := Eq.symm (show x2 = .bool false from r2)
        subst s2
        obtain ⟨x7, e7, r7⟩ := left.slot 127 rfl 7 23 _ rfl rfl (by decide) rfl
        have s7 := Eq.symm (show x7 = .bool false from r7)
        subst s7
        refine ⟨wanted_none rfl, fun K hK => ?_⟩
        have hB := hide left.base
        clear left
        go_simp
        exact hK _ _ rfl hB.out (Below.refl _ _)
      refine And.intro ?_ ?_
      · -- 9: slot 25 := Op.move (Operand.tmp 24)
        refine lstep_run fun fr wf left => ?_
        obtain ⟨x8, e8, r8⟩ := left.slot 127 rfl 8 24 _ rfl rfl (by decide) rfl
        have s8 := Eq.symm (show x8 = .bool false from r8)
        subst s8
        refine ⟨wanted_none rfl, fun K hK => ?_⟩
        have hB := hide left.base
        clear left
        go_simp
        exact hK _ _ rfl hB.out (Below.refl _ _)
      refine And.intro ?_ ?_
      · -- 10: slot 26 := Op.move (Operand.tmp 1)
        refine lstep_run fun fr wf left => ?_
        obtain ⟨x9, e9, r9⟩ := left.slot 127 rfl 9 25 _ rfl rfl (by decide) rfl
        have s9 := Eq.symm (show x9 = .bool false from r9)
        subst s9
        have o1 := (left.old 1 (by kernel_rfl)).trans rfl
        refine ⟨wanted_yes rfl rfl e9, fun K hK => ?_⟩
        have hB := hide left.base
        clear left
        go_simp
        exact hK _ _ rfl hB.out (Below.refl _ _)
      refine And.intro ?_ ?_
      · -- 11: slot 27 := Op.move (Operand.tmp 2)
        refine lstep_run fun fr wf left => ?_
        obtain ⟨x9, e9, r9⟩ := left.slot 127 rfl 9 25 _ rfl rfl (by decide) rfl
        have s9 := Eq.symm (show x9 = .bool false from r9)
        subst s9
        have o2 := (left.old 2 (by kernel_rfl)).trans rfl
        refine ⟨wanted_yes rfl rfl e9, fun K hK => ?_⟩
        have hB := hide left.base
        clear left
        go_simp
        exact hK _ _ rfl hB.out (Below.refl _ _)
      refine And.intro ?_ ?_
      · -- 12: slot 28 := Op.call { callee := Callee.value (Operand.func 16), args := #[Operand.tmp 26, Operand.tmp 
        refine lstep_run fun fr wf left => ?_
        obtain ⟨x9, e9, r9⟩ := left.slot 127 rfl 9 25 _ rfl rfl (by decide) rfl
        have s9 := Eq.symm (show x9 = .bool false from r9)
        subst s9
        obtain ⟨x10, e10, r10⟩ := left.slot 127 rfl 10 26 _ rfl rfl (by decide) rfl
        have s10 := Eq.symm (show x10 = .int .u64 (p : Int) from r10)
        subst s10
        obtain ⟨x11, e11, r11⟩ := left.slot 127 rfl 11 27 _ rfl rfl (by decide) rfl
        have s11 := Eq.symm (show x11 = .string d from r11)
        subst s11
        refine ⟨wanted_yes rfl rfl e9, fun K hK => ?_⟩
        have hB := hide left.base
        clear left
        go_simp
        refine (node_val p d N _ hp d47 HX.out.2.1).mono ?_
        rintro e w' ⟨rfl, hb⟩
        exact hK _ _ rfl (hB.out.trans (hb.mono (le_base hB.out))) hb
      refine And.intro ?_ ?_
      · -- 13: slot 29 := Op.move (Operand.tmp 1)
        refine lstep_run fun fr wf left => ?_
        obtain ⟨x9, e9, r9⟩ := left.slot 127 rfl 9 25 _ rfl rfl (by decide) rfl
        have s9 := Eq.symm (show x9 = .bool false from r9)
        subst s9
        have o1 := (left.old 1 (by kernel_rfl)).trans rfl
        refine ⟨wanted_yes rfl rfl e9, fun K hK => ?_⟩
        have hB := hide left.base
        clear left
        go_simp
        exact hK _ _ rfl hB.out (Below.refl _ _)
      refine And.intro ?_ ?_
      · -- 14: slot 30 := Op.move (Operand.tmp 2)
        refine lstep_run fun fr wf left => ?_
        obtain ⟨x9, e9, r9⟩ := left.slot 127 rfl 9 25 _ rfl rfl (by decide) rfl
        have s9 := Eq.symm (show x9 = .bool false from r9)
        subst s9
        have o2 := (left.old 2 (by kernel_rfl)).trans rfl
        refine ⟨wanted_yes rfl rfl e9, fun K hK => ?_⟩
        have hB := hide left.base
        clear left
        go_simp
        exact hK _ _ rfl hB.out (Below.refl _ _)
      refine And.intro ?_ ?_
      · -- 15: slot 31 := Op.call { callee := Callee.value (Operand.func 19), args := #[Operand.tmp 29, Operand.tmp 
        refine lstep_run fun fr wf left => ?_
        obtain ⟨x9, e9, r9⟩ := left.slot 127 rfl 9 25 _ rfl rfl (by decide) rfl
        have s9 := Eq.symm (show x9 = .bool false from r9)
        subst s9
        obtain ⟨x13, e13, r13⟩ := left.slot 127 rfl 13 29 _ rfl rfl (by decide) rfl
        have s13 := Eq.symm (show x13 = .int .u64 (p : Int) from r13)
        subst s13
        obtain ⟨x14, e14, r14⟩ := left.slot 127 rfl 14 30 _ rfl rfl (by decide) rfl
        have s14 := Eq.symm (show x14 = .string d from r14)
        subst s14
        refine ⟨wanted_yes rfl rfl e9, fun K hK => ?_⟩
        have hB := hide left.base
        clear left
        go_simp
        refine (refNode_val p d N _ hp d47 HX.out.2.1).mono ?_
        rintro e w' ⟨rfl, hb⟩
        exact hK _ _ rfl (hB.out.trans (hb.mono (le_base hB.out))) hb
      refine And.intro ?_ ?_
      · -- 16: slot 32 := Op.binOp BinOp.neq 9 (Operand.tmp 28) (Operand.tmp 31) 9
        refine lstep_run fun fr wf left => ?_
        obtain ⟨x9, e9, r9⟩ := left.slot 127 rfl 9 25 _ rfl rfl (by decide) rfl
        have s9 := Eq.symm (show x9 = .bool false from r9)
        subst s9
        obtain ⟨x12, e12, r12⟩ := left.slot 127 rfl 12 28 _ rfl rfl (by decide) rfl
        have s12 := Eq.symm (show x12 = .string N from r12)
        subst s12
        obtain ⟨x15, e15, r15⟩ := left.slot 127 rfl 15 31 _ rfl rfl (by decide) rfl
        have s15 := Eq.symm (show x15 = .string N from r15)
        subst s15
        refine ⟨wanted_yes rfl rfl e9, fun K hK => ?_⟩
        have hB := hide left.base
        clear left
        go_simp
        exact hK _ _ rfl hB.out (Below.refl _ _)
      refine And.intro ?_ ?_
      · -- 17: slot 33 := Op.pick (Operand.tmp 25) (Operand.const (Value.bool true)) (Operand.tmp 32)
        refine lstep_run fun fr wf left => ?_
        obtain ⟨x9, e9, r9⟩ := left.slot 127 rfl 9 25 _ rfl rfl (by decide) rfl
        have s9 := Eq.symm (show x9 = .bool false from r9)
        subst s9
        obtain ⟨x16, e16, r16⟩ := left.slot 127 rfl 16 32 _ rfl rfl (by decide) rfl
        have s16 := Eq.symm (show x16 = .bool false from r16)
        subst s16
        refine ⟨wanted_none rfl, fun K hK => ?_⟩
        have hB := hide left.base
        clear left
        go_simp
        exact hK _ _ rfl hB.out (Below.refl _ _)
      refine And.intro ?_ ?_
      · -- 18: slot 34 := Op.move (Operand.tmp 33)
        refine lstep_run fun fr wf left => ?_
        obtain ⟨x17, e17, r17⟩ := left.slot 127 rfl 17 33 _ rfl rfl (by decide) rfl
        have s17 := Eq.symm (show x17 = .bool false from r17)
        subst s17
        refine ⟨wanted_none rfl, fun K hK => ?_⟩
        have hB := hide left.base
        clear left
        go_simp
        exact hK _ _ rfl hB.out (Below.refl _ _)
      refine And.intro ?_ ?_
      · -- 19: slot 35 := Op.load 34 (Operand.tmp 8)
        refine lstep_run fun fr wf left => ?_
        obtain ⟨x18, e18, r18⟩ := left.slot 127 rfl 18 34 _ rfl rfl (by decide) rfl
        have s18 := Eq.symm (show x18 = .bool false from r18)
        subst s18
        have o8 := (left.old 8 (by kernel_rfl)).trans rfl
        refine ⟨wanted_yes rfl rfl e18, fun K hK => ?_⟩
        have hB := hide left.base
        have hc := (hB.out.block w.heap.size (heap_lt HZ0.out)).trans HZ0.out
        clear left
        refine wp_load_row 34 (.tmp 8) rfl w.heap.size (eval_tmp (v := .pointer (some ⟨w.heap.size, 0, none⟩)) o8) 34 _ (0, 0) _ hc Try.underlying34 rfl (by kernel_rfl) ?_
        exact hK _ _ rfl hB.out (Below.refl _ _)
      refine And.intro ?_ ?_
      · -- 20: slot 36 := Op.call { callee := Callee.value (Operand.func 14), args := #[Operand.tmp 35], argTypes :=
        refine lstep_run fun fr wf left => ?_
        obtain ⟨x18, e18, r18⟩ := left.slot 127 rfl 18 34 _ rfl rfl (by decide) rfl
        have s18 := Eq.symm (show x18 = .bool false from r18)
        subst s18
        obtain ⟨x19, e19, r19⟩ := left.slot 127 rfl 19 35 _ rfl rfl (by decide) rfl
        have s19 := Eq.symm (show x19 = .agg #[.int .i64 mk, .int .u64 (ms : Int), .int .u64 (mi : Int), .int .u64 (mn : Int), .int .u32 (mc : Int)] from r19)
        subst s19
        refine ⟨wanted_yes rfl rfl e18, fun K hK => ?_⟩
        have hB := hide left.base
        clear left
        go_simp
        refine (mine_val ⟨mk, ms, mi, mn, mc⟩ _).mono ?_
        rintro e w' ⟨rfl, hb⟩
        exact hK _ _ rfl (hB.out.trans (hb.mono (le_base hB.out))) hb
      refine And.intro ?_ ?_
      · -- 21: slot 37 := Op.call { callee := Callee.value (Operand.func 17), args := #[Operand.tmp 36], argTypes :=
        refine lstep_run fun fr wf left => ?_
        obtain ⟨x18, e18, r18⟩ := left.slot 127 rfl 18 34 _ rfl rfl (by decide) rfl
        have s18 := Eq.symm (show x18 = .bool false from r18)
        subst s18
        obtain ⟨x20, e20, r20⟩ := left.slot 127 rfl 20 36 _ rfl rfl (by decide) rfl
        have s20 := Eq.symm (show x20 = .agg #[.int .i64 mk, .int .u64 (ms : Int), .int .u64 (mi : Int), .int .u64 (mn : Int), .int .u32 (mc : Int)] from r20)
        subst s20
        refine ⟨wanted_yes rfl rfl e18, fun K hK => ?_⟩
        have hB := hide left.base
        clear left
        go_simp
        refine (mark_val ⟨mk, ms, mi, mn, mc⟩ M _ HX.out.2.2.2 HX.out.2.2.1).mono ?_
        rintro e w' ⟨rfl, hb⟩
        exact hK _ _ rfl (hB.out.trans (hb.mono (le_base hB.out))) hb
      refine And.intro ?_ ?_
      · -- 22: slot 38 := Op.load 34 (Operand.tmp 8)
        refine lstep_run fun fr wf left => ?_
        obtain ⟨x18, e18, r18⟩ := left.slot 127 rfl 18 34 _ rfl rfl (by decide) rfl
        have s18 := Eq.symm (show x18 = .bool false from r18)
        subst s18
        have o8 := (left.old 8 (by kernel_rfl)).trans rfl
        refine ⟨wanted_yes rfl rfl e18, fun K hK => ?_⟩
        have hB := hide left.base
        have hc := (hB.out.block w.heap.size (heap_lt HZ0.out)).trans HZ0.out
        clear left
        refine wp_load_row 34 (.tmp 8) rfl w.heap.size (eval_tmp (v := .pointer (some ⟨w.heap.size, 0, none⟩)) o8) 34 _ (0, 0) _ hc Try.underlying34 rfl (by kernel_rfl) ?_
        exact hK _ _ rfl hB.out (Below.refl _ _)
      refine And.intro ?_ ?_
      · -- 23: slot 39 := Op.call { callee := Callee.value (Operand.func 20), args := #[Operand.tmp 38], argTypes :=
        refine lstep_run fun fr wf left => ?_
        obtain ⟨x18, e18, r18⟩ := left.slot 127 rfl 18 34 _ rfl rfl (by decide) rfl
        have s18 := Eq.symm (show x18 = .bool false from r18)
        subst s18
        obtain ⟨x22, e22, r22⟩ := left.slot 127 rfl 22 38 _ rfl rfl (by decide) rfl
        have s22 := Eq.symm (show x22 = .agg #[.int .i64 mk, .int .u64 (ms : Int), .int .u64 (mi : Int), .int .u64 (mn : Int), .int .u32 (mc : Int)] from r22)
        subst s22
        refine ⟨wanted_yes rfl rfl e18, fun K hK => ?_⟩
        have hB := hide left.base
        clear left
        go_simp
        refine (refMark_val ⟨mk, ms, mi, mn, mc⟩ M _ HX.out.2.2.2 HX.out.2.2.1).mono ?_
        rintro e w' ⟨rfl, hb⟩
        exact hK _ _ rfl (hB.out.trans (hb.mono (le_base hB.out))) hb
      refine And.intro ?_ ?_
      · -- 24: slot 40 := Op.binOp BinOp.neq 9 (Operand.tmp 37) (Operand.tmp 39) 9
        refine lstep_run fun fr wf left => ?_
        obtain ⟨x18, e18, r18⟩ := left.slot 127 rfl 18 34 _ rfl rfl (by decide) rfl
        have s18 := Eq.symm (show x18 = .bool false from r18)
        subst s18
        obtain ⟨x21, e21, r21⟩ := left.slot 127 rfl 21 37 _ rfl rfl (by decide) rfl
        have s21 := Eq.symm (show x21 = .string M from r21)
        subst s21
        obtain ⟨x23, e23, r23⟩ := left.slot 127 rfl 23 39 _ rfl rfl (by decide) rfl
        have s23 := Eq.symm (show x23 = .string M from r23)
        subst s23
        refine ⟨wanted_yes rfl rfl e18, fun K hK => ?_⟩
        have hB := hide left.base
        clear left
        go_simp
        exact hK _ _ rfl hB.out (Below.refl _ _)
      refine And.intro ?_ ?_
      · -- 25: slot 41 := Op.pick (Operand.tmp 34) (Operand.const (Value.bool true)) (Operand.tmp 40)
        refine lstep_run fun fr wf left => ?_
        obtain ⟨x18, e18, r18⟩ := left.slot 127 rfl 18 34 _ rfl rfl (by decide) rfl
        have s18 := Eq.symm (show x18 = .bool false from r18)
        subst s18
        obtain ⟨x24, e24, r24⟩ := left.slot 127 rfl 24 40 _ rfl rfl (by decide) rfl
        have s24 := Eq.symm (show x24 = .bool false from r24)
        subst s24
        refine ⟨wanted_none rfl, fun K hK => ?_⟩
        have hB := hide left.base
        clear left
        go_simp
        exact hK _ _ rfl hB.out (Below.refl _ _)
      exact trivial
    · intro fr wf hB hs hd hall hkeep
      have h41 : fr.tmps.getD 41 undef = .bool false := hall 25 _ rfl (by simp)
      have hfr := act_ext (frame_set hs hkeep [16, 17, 18, 19, 20, 21, 22, 23, 24, 25, 26, 27, 28, 29, 30, 31, 32, 33, 34, 35, 36, 37, 38, 39, 40, 41] (by kernel_rfl)) hd
      obtain ⟨q16, hq16⟩ : ∃ q, q = fr.tmps.getD 16 undef := ⟨_, rfl⟩
      obtain ⟨q17, hq17⟩ : ∃ q, q = fr.tmps.getD 17 undef := ⟨_, rfl⟩
      obtain ⟨q18, hq18⟩ : ∃ q, q = fr.tmps.getD 18 undef := ⟨_, rfl⟩
      obtain ⟨q19, hq19⟩ : ∃ q, q = fr.tmps.getD 19 undef := ⟨_, rfl⟩
      obtain ⟨q20, hq20⟩ : ∃ q, q = fr.tmps.getD 20 undef := ⟨_, rfl⟩
      obtain ⟨q21, hq21⟩ : ∃ q, q = fr.tmps.getD 21 undef := ⟨_, rfl⟩
      obtain ⟨q22, hq22⟩ : ∃ q, q = fr.tmps.getD 22 undef := ⟨_, rfl⟩
      obtain ⟨q23, hq23⟩ : ∃ q, q = fr.tmps.getD 23 undef := ⟨_, rfl⟩
      obtain ⟨q24, hq24⟩ : ∃ q, q = fr.tmps.getD 24 undef := ⟨_, rfl⟩
      obtain ⟨q25, hq25⟩ : ∃ q, q = fr.tmps.getD 25 undef := ⟨_, rfl⟩
      obtain ⟨q26, hq26⟩ : ∃ q, q = fr.tmps.getD 26 undef := ⟨_, rfl⟩
      obtain ⟨q27, hq27⟩ : ∃ q, q = fr.tmps.getD 27 undef := ⟨_, rfl⟩
      obtain ⟨q28, hq28⟩ : ∃ q, q = fr.tmps.getD 28 undef := ⟨_, rfl⟩
      obtain ⟨q29, hq29⟩ : ∃ q, q = fr.tmps.getD 29 undef := ⟨_, rfl⟩
      obtain ⟨q30, hq30⟩ : ∃ q, q = fr.tmps.getD 30 undef := ⟨_, rfl⟩
      obtain ⟨q31, hq31⟩ : ∃ q, q = fr.tmps.getD 31 undef := ⟨_, rfl⟩
      obtain ⟨q32, hq32⟩ : ∃ q, q = fr.tmps.getD 32 undef := ⟨_, rfl⟩
      obtain ⟨q33, hq33⟩ : ∃ q, q = fr.tmps.getD 33 undef := ⟨_, rfl⟩
      obtain ⟨q34, hq34⟩ : ∃ q, q = fr.tmps.getD 34 undef := ⟨_, rfl⟩
      obtain ⟨q35, hq35⟩ : ∃ q, q = fr.tmps.getD 35 undef := ⟨_, rfl⟩
      obtain ⟨q36, hq36⟩ : ∃ q, q = fr.tmps.getD 36 undef := ⟨_, rfl⟩
      obtain ⟨q37, hq37⟩ : ∃ q, q = fr.tmps.getD 37 undef := ⟨_, rfl⟩
      obtain ⟨q38, hq38⟩ : ∃ q, q = fr.tmps.getD 38 undef := ⟨_, rfl⟩
      obtain ⟨q39, hq39⟩ : ∃ q, q = fr.tmps.getD 39 undef := ⟨_, rfl⟩
      obtain ⟨q40, hq40⟩ : ∃ q, q = fr.tmps.getD 40 undef := ⟨_, rfl⟩
      obtain ⟨q41, hq41⟩ : ∃ q, q = fr.tmps.getD 41 undef := ⟨_, rfl⟩
      rw [← hq41] at h41
      simp only [List.foldl, ← hq16, ← hq17, ← hq18, ← hq19, ← hq20, ← hq21, ← hq22, ← hq23, ← hq24, ← hq25, ← hq26, ← hq27, ← hq28, ← hq29, ← hq30, ← hq31, ← hq32, ← hq33, ← hq34, ← hq35, ← hq36, ← hq37, ← hq38, ← hq39, ← hq40, ← hq41] at hfr
      simp only [List.setIfInBounds_toArray, List.set_cons_zero, List.set_cons_succ] at hfr
      clear hall hkeep hs hd hq16 hq17 hq18 hq19 hq20 hq21 hq22 hq23 hq24 hq25 hq26 hq27 hq28 hq29 hq30 hq31 hq32 hq33 hq34 hq35 hq36 hq37 hq38 hq39 hq40 hq41
      subst hfr
      subst h41
      go_wp2_with fail
      go_meet
      case rel => exact ⟨rfl, hB⟩
    -- END REGION laysa
  obtain ⟨rfl, hb⟩ := hcut.out
  have HB1 := hide hb
  clear hb hcut
  obtain ⟨B, hBd⟩ : ∃ B, B = wc.heap.size := ⟨_, rfl⟩
  have HBD := hide (And.intro hBd (show W0.heap.size ≤ B by rw [hBd]; exact HB1.out.size))
  clear hBd
  have HVc := hide (HV.out.below (HB0.out.trans (HB1.out.mono HB0.out.size)))
  go_wp2_with (at_builtin; refine wpList_append_slv rfl _ _ 43 rfl wc.heap.size 9 _ 16 Try.underlying43 info_str rfl _ 0 [] rfl (World.ownsRow_nil _ _ _ _) _ (ns.map Value.string) rfl HVc.out (ones_str _) ?_ ?_ (Nat.le_refl _) ?_)
  · unfold maxLen; simp; omega
  · simp; omega
  · intro v2 w2 hown hgr
    have hown2 : w2.ownsRow B 9 1 v2 n (ns.map Value.string) := by
      rw [HBD.out.1, HL.out]
      simpa using hown
    have hb2 : Below W0.heap.size W0 w2 := HB1.out.grown hgr HB1.out.size (fun k hk => by cases hk)
    have hs2 : B ≤ w2.heap.size := by rw [HBD.out.1]; exact hgr.size
    have HO := hide hown2
    have HB2 := hide (And.intro hb2 hs2)
    clear hown hgr hown2 hb2 hs2
    go_wp2_with (at_builtin; refine wpList_append_slv rfl _ _ 43 rfl B 9 _ 16 Try.underlying43 info_str rfl v2 n (ns.map Value.string) rfl (own_below HO.out (Below.alloc (Below.refl _ _) (Nat.le_refl _) _)) _ [mark1, mark2] rfl (slv_new _ _ _ _ rfl) (by simp [mark1, mark2, Value.oneCell']) ?_ ?_ ?_ ?_)
    · unfold maxLen; simp; omega
    · simp; omega
    · have := HB2.out.2; simp; omega
    · intro v3 W5 hown hgr
      have hown3 : W5.ownsRow B 9 1 v3 (n + 2) (ns.map Value.string ++ [mark1, mark2]) := hown
      have hb3 : Below W0.heap.size W0 W5 := below_grown (HB2.out.1.alloc (Nat.le_trans HBD.out.2 HB2.out.2) _) (own_below HO.out (Below.alloc (Below.refl _ _) (Nat.le_refl _) _)) hgr HBD.out.2 (by have := HBD.out.2; have := HB2.out.2; simp; omega)
      obtain ⟨g, cw, rfl, hgB, hcw, hcm, harr⟩ := arr_of_owns hown3 (by omega)
      have HGB := hide (show W0.heap.size ≤ g from Nat.le_trans HBD.out.2 hgB)
      have HZ5 := hide ((hb3.block w.heap.size (heap_lt HZ0.out)).trans HZ0.out)
      have HV5 := hide (HV.out.below (HB0.out.trans (hb3.mono HB0.out.size)))
      have HB5 := hide hb3
      have HA5 := hide harr
      have HS5 := hide (show SlV W5 (.slice (some ⟨g, 0, none⟩) n cw) (ns.map Value.string) from by
        have h1 := (harr.slv (n := n + 2) (cap := cw) (by simp; exact HL.out) hcw).take n (by simp; have := HL.out; omega)
        rw [List.take_append_of_le_length (by simp; exact Nat.le_of_eq HL.out), List.take_of_length_le (by simp; exact Nat.le_of_eq HL.out.symm)] at h1
        exact h1)
      have HR1 := hide (show (ns.map Value.string ++ [mark1, mark2]).getD n undef = mark1 ∧ (ns.map Value.string ++ [mark1, mark2]).getD (n + 1) undef = mark2 from by
        have e : (ns.map Value.string).length = n := by simp; exact HL.out.symm
        constructor
        · simp [List.getD, List.getElem?_append_right, e]
        · simp [List.getD, List.getElem?_append_right, e])
      have HR2 := hide HR1.out.2
      replace HR1 := hide HR1.out.1
      have HNL := hide HL.out.symm
      clear hown hgr hown3 hb3 hgB harr hcm HO HB2 HVc HB1
      go_upto_region 7 with (fail)
      go_cut [77] from 50 to 78 (fun v77 wx => Hid (v77 = .bool false ∧ Below W5.heap.size W5 wx))
      case first =>
-- REGION laysb
          
          refine wp_region_local (by kernel_rfl) (by kernel_rfl) (useList laysbU) [27] (by kernel_rfl) (spR (laysbL w item a n g cw cap mc C)) (fun _ _ => True) (Below W5.heap.size W5) (fun _ w w' => Below w.heap.size w w') spR_stays (fun _ _ _ _ _ h _ => h) (fun _ _ => Below.refl _ _) (dsts_lt (N := 127) (by kernel_rfl)) ((Below.refl _ _).drew) (fun _ _ => trivial) (all_ops ?_) ?_
          · refine And.intro ?_ ?_
            · -- 0: slot 50 := Op.fieldAddr 34 (Operand.tmp 8) 4
              refine lstep_run fun fr wf left => ?_
              have o8 := (left.old 8 (by kernel_rfl)).trans rfl
              refine ⟨wanted_none rfl, fun K hK => ?_⟩
              have hB := hide left.base
              clear left
              go_simp
              exact hK _ _ rfl hB.out (Below.refl _ _)
            refine And.intro ?_ ?_
            · -- 1: slot 51 := Op.load 29 (Operand.tmp 50)
              refine lstep_run fun fr wf left => ?_
              obtain ⟨x0, e0, r0⟩ := left.slot 127 rfl 0 50 _ rfl rfl (by decide) rfl
              have s0 := Eq.symm (show x0 = .pointer (some ⟨w.heap.size, 4, none⟩) from r0)
              subst s0
              refine ⟨wanted_none rfl, fun K hK => ?_⟩
              have hB := hide left.base
              have hc := (cell_blk ((hB.out.block w.heap.size (heap_lt HZ5.out)).trans HZ5.out) 4).trans rfl
              clear left
              go_simp
              exact hK _ _ rfl hB.out (Below.refl _ _)
            refine And.intro ?_ ?_
            · -- 2: slot 52 := Op.move (Operand.tmp 0)
              refine lstep_run fun fr wf left => ?_
              have o0 := (left.old 0 (by kernel_rfl)).trans rfl
              refine ⟨wanted_none rfl, fun K hK => ?_⟩
              have hB := hide left.base
              clear left
              go_simp
              exact hK _ _ rfl hB.out (Below.refl _ _)
            refine And.intro ?_ ?_
            · -- 3: slot 53 := Op.move (Operand.tmp 12)
              refine lstep_run fun fr wf left => ?_
              have o12 := (left.old 12 (by kernel_rfl)).trans rfl
              refine ⟨wanted_none rfl, fun K hK => ?_⟩
              have hB := hide left.base
              clear left
              go_simp
              exact hK _ _ rfl hB.out (Below.refl _ _)
            refine And.intro ?_ ?_
            · -- 4: slot 54 := Op.move (Operand.tmp 11)
              refine lstep_run fun fr wf left => ?_
              have o11 := (left.old 11 (by kernel_rfl)).trans rfl
              refine ⟨wanted_none rfl, fun K hK => ?_⟩
              have hB := hide left.base
              clear left
              go_simp
              exact hK _ _ rfl hB.out (Below.refl _ _)
            refine And.intro ?_ ?_
            · -- 5: slot 55 := Op.slice 43 (Operand.tmp 53) none (some (Operand.tmp 54)) none
              refine lstep_run fun fr wf left => ?_
              obtain ⟨x3, e3, r3⟩ := left.slot 127 rfl 3 53 _ rfl rfl (by decide) rfl
              have s3 := Eq.symm (show x3 = .slice (some ⟨g, 0, none⟩) (n + 2) cw from r3)
              subst s3
              obtain ⟨x4, e4, r4⟩ := left.slot 127 rfl 4 54 _ rfl rfl (by decide) rfl
              have s4 := Eq.symm (show x4 = .int .i64 (n : Int) from r4)
              subst s4
              refine ⟨wanted_none rfl, fun K hK => ?_⟩
              have hB := hide left.base
              clear left
              have hcw1 : n ≤ cw := by omega
              go_simp
              exact hK _ _ rfl hB.out (Below.refl _ _)
            refine And.intro ?_ ?_
            · -- 6: slot 56 := Op.call { callee := Callee.value (Operand.func 21), args := #[Operand.tmp 51, Operand.tmp 
              refine lstep_run fun fr wf left => ?_
              obtain ⟨x1, e1, r1⟩ := left.slot 127 rfl 1 51 _ rfl rfl (by decide) rfl
              have s1 := Eq.symm (show x1 = .int .u32 (mc : Int) from r1)
              subst s1
              obtain ⟨x2, e2, r2⟩ := left.slot 127 rfl 2 52 _ rfl rfl (by decide) rfl
              have s2 := Eq.symm (show x2 = .string item from r2)
              subst s2
              obtain ⟨x5, e5, r5⟩ := left.slot 127 rfl 5 55 _ rfl rfl (by decide) rfl
              have s5 := Eq.symm (show x5 = .slice (some ⟨g, 0, none⟩) n cw from r5)
              subst s5
              refine ⟨wanted_none rfl, fun K hK => ?_⟩
              have hB := hide left.base
              clear left
              go_simp
              refine (chain_val mc item _ ns C _ HM4.out h47 (SlV.below HS5.out hB.out) hn47 hz47 HC.out).mono ?_
              rintro e w' ⟨rfl, hb⟩
              exact hK _ _ rfl (hB.out.trans (hb.mono (le_base hB.out))) hb
            refine And.intro ?_ ?_
            · -- 7: slot 57 := Op.fieldAddr 34 (Operand.tmp 8) 4
              refine lstep_run fun fr wf left => ?_
              have o8 := (left.old 8 (by kernel_rfl)).trans rfl
              refine ⟨wanted_none rfl, fun K hK => ?_⟩
              have hB := hide left.base
              clear left
              go_simp
              exact hK _ _ rfl hB.out (Below.refl _ _)
            refine And.intro ?_ ?_
            · -- 8: slot 58 := Op.load 29 (Operand.tmp 57)
              refine lstep_run fun fr wf left => ?_
              obtain ⟨x7, e7, r7⟩ := left.slot 127 rfl 7 57 _ rfl rfl (by decide) rfl
              have s7 := Eq.symm (show x7 = .pointer (some ⟨w.heap.size, 4, none⟩) from r7)
              subst s7
              refine ⟨wanted_none rfl, fun K hK => ?_⟩
              have hB := hide left.base
              have hc := (cell_blk ((hB.out.block w.heap.size (heap_lt HZ5.out)).trans HZ5.out) 4).trans rfl
              clear left
              go_simp
              exact hK _ _ rfl hB.out (Below.refl _ _)
            refine And.intro ?_ ?_
            · -- 9: slot 59 := Op.move (Operand.tmp 0)
              refine lstep_run fun fr wf left => ?_
              have o0 := (left.old 0 (by kernel_rfl)).trans rfl
              refine ⟨wanted_none rfl, fun K hK => ?_⟩
              have hB := hide left.base
              clear left
              go_simp
              exact hK _ _ rfl hB.out (Below.refl _ _)
            refine And.intro ?_ ?_
            · -- 10: slot 60 := Op.move (Operand.tmp 4)
              refine lstep_run fun fr wf left => ?_
              have o4 := (left.old 4 (by kernel_rfl)).trans rfl
              refine ⟨wanted_none rfl, fun K hK => ?_⟩
              have hB := hide left.base
              clear left
              go_simp
              exact hK _ _ rfl hB.out (Below.refl _ _)
            refine And.intro ?_ ?_
            · -- 11: slot 61 := Op.call { callee := Callee.value (Operand.func 22), args := #[Operand.tmp 58, Operand.tmp 
              refine lstep_run fun fr wf left => ?_
              obtain ⟨x8, e8, r8⟩ := left.slot 127 rfl 8 58 _ rfl rfl (by decide) rfl
              have s8 := Eq.symm (show x8 = .int .u32 (mc : Int) from r8)
              subst s8
              obtain ⟨x9, e9, r9⟩ := left.slot 127 rfl 9 59 _ rfl rfl (by decide) rfl
              have s9 := Eq.symm (show x9 = .string item from r9)
              subst s9
              obtain ⟨x10, e10, r10⟩ := left.slot 127 rfl 10 60 _ rfl rfl (by decide) rfl
              have s10 := Eq.symm (show x10 = .slice a n cap from r10)
              subst s10
              refine ⟨wanted_none rfl, fun K hK => ?_⟩
              have hB := hide left.base
              clear left
              go_simp
              refine (refChain_val mc item _ ns C _ HM4.out h47 (SlV.below HV5.out hB.out) hn47 hz47 HC.out).mono ?_
              rintro e w' ⟨rfl, hb⟩
              exact hK _ _ rfl (hB.out.trans (hb.mono (le_base hB.out))) hb
            refine And.intro ?_ ?_
            · -- 12: slot 62 := Op.binOp BinOp.neq 29 (Operand.tmp 56) (Operand.tmp 61) 29
              refine lstep_run fun fr wf left => ?_
              obtain ⟨x6, e6, r6⟩ := left.slot 127 rfl 6 56 _ rfl rfl (by decide) rfl
              have s6 := Eq.symm (show x6 = .int .u32 (C : Int) from r6)
              subst s6
              obtain ⟨x11, e11, r11⟩ := left.slot 127 rfl 11 61 _ rfl rfl (by decide) rfl
              have s11 := Eq.symm (show x11 = .int .u32 (C : Int) from r11)
              subst s11
              refine ⟨wanted_none rfl, fun K hK => ?_⟩
              have hB := hide left.base
              clear left
              go_simp
              exact hK _ _ rfl hB.out (Below.refl _ _)
            refine And.intro ?_ ?_
            · -- 13: slot 63 := Op.move (Operand.tmp 62)
              refine lstep_run fun fr wf left => ?_
              obtain ⟨x12, e12, r12⟩ := left.slot 127 rfl 12 62 _ rfl rfl (by decide) rfl
              have s12 := Eq.symm (show x12 = .bool false from r12)
              subst s12
              refine ⟨wanted_none rfl, fun K hK => ?_⟩
              have hB := hide left.base
              clear left
              go_simp
              exact hK _ _ rfl hB.out (Below.refl _ _)
            refine And.intro ?_ ?_
            · -- 14: slot 64 := Op.move (Operand.tmp 12)
              refine lstep_run fun fr wf left => ?_
              obtain ⟨x13, e13, r13⟩ := left.slot 127 rfl 13 63 _ rfl rfl (by decide) rfl
              have s13 := Eq.symm (show x13 = .bool false from r13)
              subst s13
              have o12 := (left.old 12 (by kernel_rfl)).trans rfl
              refine ⟨wanted_yes rfl rfl e13, fun K hK => ?_⟩
              have hB := hide left.base
              clear left
              go_simp
              exact hK _ _ rfl hB.out (Below.refl _ _)
            refine And.intro ?_ ?_
            · -- 15: slot 65 := Op.move (Operand.tmp 11)
              refine lstep_run fun fr wf left => ?_
              obtain ⟨x13, e13, r13⟩ := left.slot 127 rfl 13 63 _ rfl rfl (by decide) rfl
              have s13 := Eq.symm (show x13 = .bool false from r13)
              subst s13
              have o11 := (left.old 11 (by kernel_rfl)).trans rfl
              refine ⟨wanted_yes rfl rfl e13, fun K hK => ?_⟩
              have hB := hide left.base
              clear left
              go_simp
              exact hK _ _ rfl hB.out (Below.refl _ _)
            refine And.intro ?_ ?_
            · -- 16: slot 66 := Op.indexAddr 43 (Operand.tmp 64) (Operand.tmp 65)
              refine lstep_run fun fr wf left => ?_
              obtain ⟨x13, e13, r13⟩ := left.slot 127 rfl 13 63 _ rfl rfl (by decide) rfl
              have s13 := Eq.symm (show x13 = .bool false from r13)
              subst s13
              obtain ⟨x14, e14, r14⟩ := left.slot 127 rfl 14 64 _ rfl rfl (by decide) rfl
              have s14 := Eq.symm (show x14 = .slice (some ⟨g, 0, none⟩) (n + 2) cw from r14)
              subst s14
              obtain ⟨x15, e15, r15⟩ := left.slot 127 rfl 15 65 _ rfl rfl (by decide) rfl
              have s15 := Eq.symm (show x15 = .int .i64 (n : Int) from r15)
              subst s15
              refine ⟨wanted_yes rfl rfl e13, fun K hK => ?_⟩
              have hB := hide left.base
              have hlt : (n : Int) < (n : Int) + 2 := by omega
              clear left
              go_simp
              exact hK _ _ rfl hB.out (Below.refl _ _)
            refine And.intro ?_ ?_
            · -- 17: slot 67 := Op.load 9 (Operand.tmp 66)
              refine lstep_run fun fr wf left => ?_
              obtain ⟨x13, e13, r13⟩ := left.slot 127 rfl 13 63 _ rfl rfl (by decide) rfl
              have s13 := Eq.symm (show x13 = .bool false from r13)
              subst s13
              obtain ⟨x16, e16, r16⟩ := left.slot 127 rfl 16 66 _ rfl rfl (by decide) rfl
              have s16 := Eq.symm (show x16 = .pointer (some ⟨g, n, none⟩) from r16)
              subst s16
              refine ⟨wanted_yes rfl rfl e13, fun K hK => ?_⟩
              have hB := hide left.base
              have hc := ((HA5.out.past hB.out).cell n (by simp [HNL.out])).trans (congrArg some HR1.out)
              clear left
              go_simp
              exact hK _ _ rfl hB.out (Below.refl _ _)
            refine And.intro ?_ ?_
            · -- 18: slot 68 := Op.binOp BinOp.neq 9 (Operand.tmp 67) (Operand.const (Value.string { data := #[109, 97, 11
              refine lstep_run fun fr wf left => ?_
              obtain ⟨x13, e13, r13⟩ := left.slot 127 rfl 13 63 _ rfl rfl (by decide) rfl
              have s13 := Eq.symm (show x13 = .bool false from r13)
              subst s13
              obtain ⟨x17, e17, r17⟩ := left.slot 127 rfl 17 67 _ rfl rfl (by decide) rfl
              have s17 := Eq.symm (show x17 = .string ⟨#[109, 97, 114, 107, 32, 111, 110, 101]⟩ from r17)
              subst s17
              refine ⟨wanted_yes rfl rfl e13, fun K hK => ?_⟩
              have hB := hide left.base
              clear left
              go_simp
              exact hK _ _ rfl hB.out (Below.refl _ _)
            refine And.intro ?_ ?_
            · -- 19: slot 69 := Op.pick (Operand.tmp 63) (Operand.const (Value.bool true)) (Operand.tmp 68)
              refine lstep_run fun fr wf left => ?_
              obtain ⟨x13, e13, r13⟩ := left.slot 127 rfl 13 63 _ rfl rfl (by decide) rfl
              have s13 := Eq.symm (show x13 = .bool false from r13)
              subst s13
              obtain ⟨x18, e18, r18⟩ := left.slot 127 rfl 18 68 _ rfl rfl (by decide) rfl
              have s18 := Eq.symm (show x18 = .bool false from r18)
              subst s18
              refine ⟨wanted_none rfl, fun K hK => ?_⟩
              have hB := hide left.base
              clear left
              go_simp
              exact hK _ _ rfl hB.out (Below.refl _ _)
            refine And.intro ?_ ?_
            · -- 20: slot 70 := Op.move (Operand.tmp 69)
              refine lstep_run fun fr wf left => ?_
              obtain ⟨x19, e19, r19⟩ := left.slot 127 rfl 19 69 _ rfl rfl (by decide) rfl
              have s19 := Eq.symm (show x19 = .bool false from r19)
              subst s19
              refine ⟨wanted_none rfl, fun K hK => ?_⟩
              have hB := hide left.base
              clear left
              go_simp
              exact hK _ _ rfl hB.out (Below.refl _ _)
            refine And.intro ?_ ?_
            · -- 21: slot 71 := Op.move (Operand.tmp 12)
              refine lstep_run fun fr wf left => ?_
              obtain ⟨x20, e20, r20⟩ := left.slot 127 rfl 20 70 _ rfl rfl (by decide) rfl
              have s20 := Eq.symm (show x20 = .bool false from r20)
              subst s20
              have o12 := (left.old 12 (by kernel_rfl)).trans rfl
              refine ⟨wanted_yes rfl rfl e20, fun K hK => ?_⟩
              have hB := hide left.base
              clear left
              go_simp
              exact hK _ _ rfl hB.out (Below.refl _ _)
            refine And.intro ?_ ?_
            · -- 22: slot 72 := Op.move (Operand.tmp 11)
              refine lstep_run fun fr wf left => ?_
              obtain ⟨x20, e20, r20⟩ := left.slot 127 rfl 20 70 _ rfl rfl (by decide) rfl
              have s20 := Eq.symm (show x20 = .bool false from r20)
              subst s20
              have o11 := (left.old 11 (by kernel_rfl)).trans rfl
              refine ⟨wanted_yes rfl rfl e20, fun K hK => ?_⟩
              have hB := hide left.base
              clear left
              go_simp
              exact hK _ _ rfl hB.out (Below.refl _ _)
            refine And.intro ?_ ?_
            · -- 23: slot 73 := Op.binOp BinOp.add 3 (Operand.tmp 72) (Operand.const (Value.int IntKind.i64 1)) 3
              refine lstep_run fun fr wf left => ?_
              obtain ⟨x20, e20, r20⟩ := left.slot 127 rfl 20 70 _ rfl rfl (by decide) rfl
              have s20 := Eq.symm (show x20 = .bool false from r20)
              subst s20
              obtain ⟨x22, e22, r22⟩ := left.slot 127 rfl 22 72 _ rfl rfl (by decide) rfl
              have s22 := Eq.symm (show x22 = .int .i64 (n : Int) from r22)
              subst s22
              refine ⟨wanted_yes rfl rfl e20, fun K hK => ?_⟩
              have hB := hide left.base
              clear left
              go_simp
              exact hK _ _ (congrArg (Value.int .i64) (IntWalk.i64_in _ (by omega))) hB.out (Below.refl _ _)
            refine And.intro ?_ ?_
            · -- 24: slot 74 := Op.indexAddr 43 (Operand.tmp 71) (Operand.tmp 73)
              refine lstep_run fun fr wf left => ?_
              obtain ⟨x20, e20, r20⟩ := left.slot 127 rfl 20 70 _ rfl rfl (by decide) rfl
              have s20 := Eq.symm (show x20 = .bool false from r20)
              subst s20
              obtain ⟨x21, e21, r21⟩ := left.slot 127 rfl 21 71 _ rfl rfl (by decide) rfl
              have s21 := Eq.symm (show x21 = .slice (some ⟨g, 0, none⟩) (n + 2) cw from r21)
              subst s21
              obtain ⟨x23, e23, r23⟩ := left.slot 127 rfl 23 73 _ rfl rfl (by decide) rfl
              have s23 := Eq.symm (show x23 = .int .i64 ((n : Int) + 1) from r23)
              subst s23
              refine ⟨wanted_yes rfl rfl e20, fun K hK => ?_⟩
              have hB := hide left.base
              have hlt : (n : Int) + 1 < (n : Int) + 2 := by omega
              clear left
              go_simp
              exact hK _ _ rfl hB.out (Below.refl _ _)
            refine And.intro ?_ ?_
            · -- 25: slot 75 := Op.load 9 (Operand.tmp 74)
              refine lstep_run fun fr wf left => ?_
              obtain ⟨x20, e20, r20⟩ := left.slot 127 rfl 20 70 _ rfl rfl (by decide) rfl
              have s20 := Eq.symm (show x20 = .bool false from r20)
              subst s20
              obtain ⟨x24, e24, r24⟩ := left.slot 127 rfl 24 74 _ rfl rfl (by decide) rfl
              have s24 := Eq.symm (show x24 = .pointer (some ⟨g, n + 1, none⟩) from r24)
              subst s24
              refine ⟨wanted_yes rfl rfl e20, fun K hK => ?_⟩
              have hB := hide left.base
              have hc := ((HA5.out.past hB.out).cell (n + 1) (by simp [HNL.out])).trans (congrArg some HR2.out)
              clear left
              go_simp
              exact hK _ _ rfl hB.out (Below.refl _ _)
            refine And.intro ?_ ?_
            · -- 26: slot 76 := Op.binOp BinOp.neq 9 (Operand.tmp 75) (Operand.const (Value.string { data := #[109, 97, 11
              refine lstep_run fun fr wf left => ?_
              obtain ⟨x20, e20, r20⟩ := left.slot 127 rfl 20 70 _ rfl rfl (by decide) rfl
              have s20 := Eq.symm (show x20 = .bool false from r20)
              subst s20
              obtain ⟨x25, e25, r25⟩ := left.slot 127 rfl 25 75 _ rfl rfl (by decide) rfl
              have s25 := Eq.symm (show x25 = .string ⟨#[109, 97, 114, 107, 32, 116, 119, 111]⟩ from r25)
              subst s25
              refine ⟨wanted_yes rfl rfl e20, fun K hK => ?_⟩
              have hB := hide left.base
              clear left
              go_simp
              exact hK _ _ rfl hB.out (Below.refl _ _)
            refine And.intro ?_ ?_
            · -- 27: slot 77 := Op.pick (Operand.tmp 70) (Operand.const (Value.bool true)) (Operand.tmp 76)
              refine lstep_run fun fr wf left => ?_
              obtain ⟨x20, e20, r20⟩ := left.slot 127 rfl 20 70 _ rfl rfl (by decide) rfl
              have s20 := Eq.symm (show x20 = .bool false from r20)
              subst s20
              obtain ⟨x26, e26, r26⟩ := left.slot 127 rfl 26 76 _ rfl rfl (by decide) rfl
              have s26 := Eq.symm (show x26 = .bool false from r26)
              subst s26
              refine ⟨wanted_none rfl, fun K hK => ?_⟩
              have hB := hide left.base
              clear left
              go_simp
              exact hK _ _ rfl hB.out (Below.refl _ _)
            exact trivial
          · intro fr wf hB hs hd hall hkeep
            have h77 : fr.tmps.getD 77 undef = .bool false := hall 27 _ rfl (by simp)
            have hfr := act_ext (frame_set hs hkeep [50, 51, 52, 53, 54, 55, 56, 57, 58, 59, 60, 61, 62, 63, 64, 65, 66, 67, 68, 69, 70, 71, 72, 73, 74, 75, 76, 77] (by kernel_rfl)) hd
            obtain ⟨q50, hq50⟩ : ∃ q, q = fr.tmps.getD 50 undef := ⟨_, rfl⟩
            obtain ⟨q51, hq51⟩ : ∃ q, q = fr.tmps.getD 51 undef := ⟨_, rfl⟩
            obtain ⟨q52, hq52⟩ : ∃ q, q = fr.tmps.getD 52 undef := ⟨_, rfl⟩
            obtain ⟨q53, hq53⟩ : ∃ q, q = fr.tmps.getD 53 undef := ⟨_, rfl⟩
            obtain ⟨q54, hq54⟩ : ∃ q, q = fr.tmps.getD 54 undef := ⟨_, rfl⟩
            obtain ⟨q55, hq55⟩ : ∃ q, q = fr.tmps.getD 55 undef := ⟨_, rfl⟩
            obtain ⟨q56, hq56⟩ : ∃ q, q = fr.tmps.getD 56 undef := ⟨_, rfl⟩
            obtain ⟨q57, hq57⟩ : ∃ q, q = fr.tmps.getD 57 undef := ⟨_, rfl⟩
            obtain ⟨q58, hq58⟩ : ∃ q, q = fr.tmps.getD 58 undef := ⟨_, rfl⟩
            obtain ⟨q59, hq59⟩ : ∃ q, q = fr.tmps.getD 59 undef := ⟨_, rfl⟩
            obtain ⟨q60, hq60⟩ : ∃ q, q = fr.tmps.getD 60 undef := ⟨_, rfl⟩
            obtain ⟨q61, hq61⟩ : ∃ q, q = fr.tmps.getD 61 undef := ⟨_, rfl⟩
            obtain ⟨q62, hq62⟩ : ∃ q, q = fr.tmps.getD 62 undef := ⟨_, rfl⟩
            obtain ⟨q63, hq63⟩ : ∃ q, q = fr.tmps.getD 63 undef := ⟨_, rfl⟩
            obtain ⟨q64, hq64⟩ : ∃ q, q = fr.tmps.getD 64 undef := ⟨_, rfl⟩
            obtain ⟨q65, hq65⟩ : ∃ q, q = fr.tmps.getD 65 undef := ⟨_, rfl⟩
            obtain ⟨q66, hq66⟩ : ∃ q, q = fr.tmps.getD 66 undef := ⟨_, rfl⟩
            obtain ⟨q67, hq67⟩ : ∃ q, q = fr.tmps.getD 67 undef := ⟨_, rfl⟩
            obtain ⟨q68, hq68⟩ : ∃ q, q = fr.tmps.getD 68 undef := ⟨_, rfl⟩
            obtain ⟨q69, hq69⟩ : ∃ q, q = fr.tmps.getD 69 undef := ⟨_, rfl⟩
            obtain ⟨q70, hq70⟩ : ∃ q, q = fr.tmps.getD 70 undef := ⟨_, rfl⟩
            obtain ⟨q71, hq71⟩ : ∃ q, q = fr.tmps.getD 71 undef := ⟨_, rfl⟩
            obtain ⟨q72, hq72⟩ : ∃ q, q = fr.tmps.getD 72 undef := ⟨_, rfl⟩
            obtain ⟨q73, hq73⟩ : ∃ q, q = fr.tmps.getD 73 undef := ⟨_, rfl⟩
            obtain ⟨q74, hq74⟩ : ∃ q, q = fr.tmps.getD 74 undef := ⟨_, rfl⟩
            obtain ⟨q75, hq75⟩ : ∃ q, q = fr.tmps.getD 75 undef := ⟨_, rfl⟩
            obtain ⟨q76, hq76⟩ : ∃ q, q = fr.tmps.getD 76 undef := ⟨_, rfl⟩
            obtain ⟨q77, hq77⟩ : ∃ q, q = fr.tmps.getD 77 undef := ⟨_, rfl⟩
            rw [← hq77] at h77
            simp only [List.foldl, ← hq50, ← hq51, ← hq52, ← hq53, ← hq54, ← hq55, ← hq56, ← hq57, ← hq58, ← hq59, ← hq60, ← hq61, ← hq62, ← hq63, ← hq64, ← hq65, ← hq66, ← hq67, ← hq68, ← hq69, ← hq70, ← hq71, ← hq72, ← hq73, ← hq74, ← hq75, ← hq76, ← hq77] at hfr
            simp only [List.setIfInBounds_toArray, List.set_cons_zero, List.set_cons_succ] at hfr
            clear hall hkeep hs hd hq50 hq51 hq52 hq53 hq54 hq55 hq56 hq57 hq58 hq59 hq60 hq61 hq62 hq63 hq64 hq65 hq66 hq67 hq68 hq69 hq70 hq71 hq72 hq73 hq74 hq75 hq76 hq77
            subst hfr
            subst h77
            go_wp2_with fail
            go_meet
            case rel => exact ⟨rfl, hB⟩
          -- END REGION laysb
      obtain ⟨rfl, hb⟩ := hcut.out
      have HA6 := hide (HA5.out.past hb)
      have HB6 := hide (HB5.out.trans (hb.mono HB5.out.size))
      clear hb hcut HA5 HS5 HR1 HR2 HZ5 HV5 HB5
      go_wp2_with fail
      go_loopg [13] n (fun q v13 wr => ∃ k : Nat, k ≤ n ∧ q = n - k ∧ v13 = .int .i64 k ∧ Hid (Arr wr g 9 (ns.map Value.string ++ [mark1, mark2]) ∧ Below W0.heap.size W0 wr))
      case atStart => exact ⟨0, by omega, rfl, rfl, HA6.out, HB6.out⟩
      case round =>
        obtain ⟨k, hk, rfl, rfl, HR⟩ := hrel
        by_cases hkn : k < n
        · have hc5 := HR.out.1.cell k (by simp; have := HL.out; omega)
          obtain ⟨b, off, rfl, hbw, hcell⟩ := HCC.out k hkn
          have hkl : k < ns.length := by rw [← HL.out]; exact hkn
          have hc0 : wr.cell? ⟨b, off + k, none⟩ = some ((ns.map Value.string).getD k undef) := by rw [(HB0.out.trans (HR.out.2.mono HB0.out.size)).cell (p := ⟨b, off + k, none⟩) hbw]; exact hcell
          have hx5 : (ns.map Value.string ++ [mark1, mark2]).getD k undef = (ns.map Value.string).getD k undef := by simp [List.getD, List.getElem?_append_left, hkl]
          rw [hx5] at hc5
          rw [getD_map _ _ _ ByteArray.empty hkl] at hc5 hc0
          generalize ns.getD k ByteArray.empty = x at hc5 hc0
          clear hcell hx5 hkl
          have hd2 : decide (n + 2 ≤ k) = false := decide_eq_false (by omega)
          go_wp2
          go_quiet (fail)
          go_wp2
          go_roundg (n - (k + 1))
          case measure => omega
          case rel => exact ⟨k + 1, by omega, rfl, by go_num, arr_drewN HR.out.1, below_drewN HR.out.2 _⟩
        · have hk' : k = n := by omega
          subst hk'
          obtain ⟨B2, hB2⟩ : ∃ B2, B2 = wr.heap.size := ⟨_, rfl⟩
          have hgB2 : g < B2 := by rw [hB2]; exact HR.out.1.lt
          have hkB : B2 ≤ wr.heap.size := by omega
          have HB2 := hide (And.intro hgB2 (show W0.heap.size ≤ B2 by rw [hB2]; exact HR.out.2.size))
          clear hB2 hgB2
          have HR0 := hide (show Arr wr g 9 (turning ns 0) from by rw [turning_zero]; exact HR.out.1)
          have HRB := hide HR.out.2
          have HKB := hide hkB
          clear HR hkB
          go_wp2_with fail
          go_loopg [14, 15] k (fun q v14 v15 wq => ∃ j : Nat, j ≤ k ∧ q = k - j ∧ v15 = .int .i64 j ∧ Hid (wq.ownsRow B2 9 1 v14 j ((ns.reverse.take j).map Value.string) ∧ Arr wq g 9 (turning ns j) ∧ Below W0.heap.size W0 wq ∧ B2 ≤ wq.heap.size))
          case atStart => exact ⟨0, by omega, rfl, rfl, by rw [List.take_zero]; exact World.ownsRow_nil _ _ _ _, HR0.out, HRB.out, HKB.out⟩
          case round =>
            obtain ⟨j, hj, rfl, rfl, HQ⟩ := hrel
            by_cases hjk : j < k
            · obtain ⟨j1, hj1⟩ : ∃ j1 : Nat, j1 = k - 1 - j := ⟨_, rfl⟩
              have hj1k : j1 < k := by omega
              have hj1i : (k : Int) - 1 - (j : Int) = (j1 : Int) := by omega
              obtain ⟨b, off, rfl, hbw, hcell⟩ := HCC.out j1 hj1k
              have hjl : j < ns.length := by rw [← HL.out]; exact hjk
              have hj1l : j1 < ns.length := by rw [← HL.out]; exact hj1k
              have hc0 : wr.cell? ⟨b, off + j1, none⟩ = some ((ns.map Value.string).getD j1 undef) := by rw [(HB0.out.trans (HQ.out.2.2.1.mono HB0.out.size)).cell (p := ⟨b, off + j1, none⟩) hbw]; exact hcell
              rw [getD_map _ _ _ ByteArray.empty hj1l] at hc0
              obtain ⟨x, hx⟩ : ∃ x, x = ns.getD (ns.length - 1 - j) ByteArray.empty := ⟨_, rfl⟩
              rw [show j1 = ns.length - 1 - j by rw [← HL.out]; exact hj1, ← hx, show ns.length - 1 - j = j1 by rw [← HL.out]; exact hj1.symm] at hc0
              have hl2 : (turning ns j).length = k + 2 := by rw [turning_len ns j (by omega), HL.out]
              have hc5 := HQ.out.2.1.cell j (by rw [hl2]; omega)
              have hf5 := HQ.out.2.1.frozen j (by rw [hl2]; omega)
              generalize (turning ns j).getD j undef = was at hc5
              have HXX := hide (And.intro hx hjl)
              have HL2 := hide hl2
              clear hcell hx hjl hj1l hl2 hj1
              go_upto_region 19 with (fail)
              obtain ⟨W6, hW6⟩ : ∃ V, V = wr.setCell ⟨g, j, none⟩ (.string x) := ⟨_, rfl⟩
              rw [← hW6]
              have hA6 : Arr W6 g 9 (turning ns (j + 1)) := by
                have h := HQ.out.2.1.set j (by rw [HL2.out]; omega) (.string x)
                rw [turning_set ns j x HXX.out.2 HXX.out.1, ← hW6] at h
                exact h
              have HQ6 := hide (show W6.ownsRow B2 9 1 u14 j ((ns.reverse.take j).map Value.string) ∧ Arr W6 g 9 (turning ns (j + 1)) ∧ Below W0.heap.size W0 W6 ∧ B2 ≤ W6.heap.size from
                ⟨by rw [hW6]; exact ownsRow_setCell_below HQ.out.1 HB2.out.1 _, hA6, by rw [hW6]; exact HQ.out.2.2.1.setCell HGB.out _, by rw [hW6]; simpa using HQ.out.2.2.2⟩)
              have hc6 := hA6.cell j (by rw [turning_len ns (j + 1) (by have := HXX.out.2; omega), ← HL.out]; omega)
              rw [show (turning ns (j + 1)).getD j undef = .string x by rw [← turning_set ns j x HXX.out.2 HXX.out.1]; simp [List.getD, show j < (turning ns j).length by rw [HL2.out]; omega]] at hc6
              clear hA6 hW6 hc5 hf5 hc0 hj1i hbw
              go_wp2_with (at_builtin; refine wpList_append_slv rfl _ _ 43 rfl B2 9 _ 16 Try.underlying43 info_str rfl u14 j ((ns.reverse.take j).map Value.string) rfl (own_below HQ6.out.1 (Below.alloc (Below.refl _ _) (Nat.le_refl _) _)) _ [.string x] rfl (slv_new _ _ _ _ rfl) (by simp [Value.oneCell']) ?_ ?_ ?_ ?_)
              · unfold maxLen; simp; omega
              · simp; omega
              · have := HQ6.out.2.2.2; simp; omega
              · intro v7 w7 hown hgr
                have hown2 : w7.ownsRow B2 9 1 v7 (j + 1) ((ns.reverse.take (j + 1)).map Value.string) := by
                  rw [← take_map_succ ns j x HXX.out.2 HXX.out.1, List.map_take, List.map_reverse]; exact hown
                have hal : Below W6.heap.size W6 (W6.alloc (.cells #[.string x] 9)) := (Below.refl _ _).alloc (Nat.le_refl _) _
                have hb7 : Below B2 W6 w7 := below_grown (hal.mono HQ6.out.2.2.2) (own_below HQ6.out.1 hal) hgr (Nat.le_refl _) (by have := HQ6.out.2.2.2; simp; omega)
                have HQ7 := hide (show w7.ownsRow B2 9 1 v7 (j + 1) ((ns.reverse.take (j + 1)).map Value.string) ∧ Arr w7 g 9 (turning ns (j + 1)) ∧ Below W0.heap.size W0 w7 ∧ B2 ≤ w7.heap.size from
                  ⟨hown2, HQ6.out.2.1.below HB2.out.1 hb7, HQ6.out.2.2.1.trans (hb7.mono HB2.out.2), Nat.le_trans HQ6.out.2.2.2 hb7.size⟩)
                clear hown hgr hown2 hb7 hal
                go_wp2_with fail
                go_roundg (k - (j + 1))
                case measure => omega
                case rel => exact ⟨j + 1, by omega, rfl, by go_num, HQ7.out⟩
            · have hj' : j = k := by omega
              subst hj'
              have hA9 := HQ.out.2.1
              rw [show turning ns j = turning ns ns.length by rw [HL.out], turning_all] at hA9
              have HS9 := hide (show SlV wr (.slice (some ⟨g, 0, none⟩) j cw) (ns.reverse.map Value.string) from by
                have h1 := (hA9.slv (n := j + 2) (cap := cw) (by simp; exact HL.out) hcw).take j (by simp; have := HL.out; omega)
                rw [List.take_append_of_le_length (by simp; exact Nat.le_of_eq HL.out), List.take_of_length_le (by simp; exact Nat.le_of_eq HL.out.symm)] at h1
                exact h1)
              have HO9 := hide (show SlV wr u14 (ns.reverse.map Value.string) from by
                have h1 := slv_of_owns HQ.out.1
                rw [List.take_of_length_le (by simp; exact Nat.le_of_eq HL.out.symm)] at h1
                exact h1)
              have HB9 := hide (HB0.out.trans (HQ.out.2.2.1.mono HB0.out.size))
              have HZ9 := hide ((HQ.out.2.2.1.block w.heap.size (heap_lt HZ0.out)).trans HZ0.out)
              have hnr : ns.reverse.length ≤ 140737488351232 := by rw [List.length_reverse]; exact hn47
              have hzr : Rec.sizes ns.reverse ≤ 140737488351232 := by rw [sizes_reverse]; exact hz47
              clear hA9
              go_upto_region 20 with (fail)
              generalize u14 = vo at HO9 HQ
-- REGION laysc
              rename_i hrest
              refine wp_region_local (by kernel_rfl) (by kernel_rfl) (useList layscU) [13] (by kernel_rfl) (spR (layscL w item vo j g cw mc C2)) (fun _ _ => True) (Below wr.heap.size wr) (fun _ w w' => Below w.heap.size w w') spR_stays (fun _ _ _ _ _ h _ => h) (fun _ _ => Below.refl _ _) (dsts_lt (N := 127) (by kernel_rfl)) ((Below.refl _ _).drew) (fun _ _ => trivial) (all_ops ?_) ?_
              · refine And.intro ?_ ?_
                · -- 0: slot 114 := Op.fieldAddr 34 (Operand.tmp 8) 4
                  refine lstep_run fun fr wf left => ?_
                  have o8 := (left.old 8 (by kernel_rfl)).trans rfl
                  refine ⟨wanted_none rfl, fun K hK => ?_⟩
                  have hB := hide left.base
                  clear left
                  go_simp
                  exact hK _ _ rfl hB.out (Below.refl _ _)
                refine And.intro ?_ ?_
                · -- 1: slot 115 := Op.load 29 (Operand.tmp 114)
                  refine lstep_run fun fr wf left => ?_
                  obtain ⟨x0, e0, r0⟩ := left.slot 127 rfl 0 114 _ rfl rfl (by decide) rfl
                  have s0 := Eq.symm (show x0 = .pointer (some ⟨w.heap.size, 4, none⟩) from r0)
                  subst s0
                  refine ⟨wanted_none rfl, fun K hK => ?_⟩
                  have hB := hide left.base
                  have hc := (cell_blk ((hB.out.block w.heap.size (heap_lt HZ9.out)).trans HZ9.out) 4).trans rfl
                  clear left
                  go_simp
                  exact hK _ _ rfl hB.out (Below.refl _ _)
                refine And.intro ?_ ?_
                · -- 2: slot 116 := Op.move (Operand.tmp 0)
                  refine lstep_run fun fr wf left => ?_
                  have o0 := (left.old 0 (by kernel_rfl)).trans rfl
                  refine ⟨wanted_none rfl, fun K hK => ?_⟩
                  have hB := hide left.base
                  clear left
                  go_simp
                  exact hK _ _ rfl hB.out (Below.refl _ _)
                refine And.intro ?_ ?_
                · -- 3: slot 117 := Op.move (Operand.tmp 12)
                  refine lstep_run fun fr wf left => ?_
                  have o12 := (left.old 12 (by kernel_rfl)).trans rfl
                  refine ⟨wanted_none rfl, fun K hK => ?_⟩
                  have hB := hide left.base
                  clear left
                  go_simp
                  exact hK _ _ rfl hB.out (Below.refl _ _)
                refine And.intro ?_ ?_
                · -- 4: slot 118 := Op.move (Operand.tmp 11)
                  refine lstep_run fun fr wf left => ?_
                  have o11 := (left.old 11 (by kernel_rfl)).trans rfl
                  refine ⟨wanted_none rfl, fun K hK => ?_⟩
                  have hB := hide left.base
                  clear left
                  go_simp
                  exact hK _ _ rfl hB.out (Below.refl _ _)
                refine And.intro ?_ ?_
                · -- 5: slot 119 := Op.slice 43 (Operand.tmp 117) none (some (Operand.tmp 118)) none
                  refine lstep_run fun fr wf left => ?_
                  obtain ⟨x3, e3, r3⟩ := left.slot 127 rfl 3 117 _ rfl rfl (by decide) rfl
                  have s3 := Eq.symm (show x3 = .slice (some ⟨g, 0, none⟩) (j + 2) cw from r3)
                  subst s3
                  obtain ⟨x4, e4, r4⟩ := left.slot 127 rfl 4 118 _ rfl rfl (by decide) rfl
                  have s4 := Eq.symm (show x4 = .int .i64 (j : Int) from r4)
                  subst s4
                  refine ⟨wanted_none rfl, fun K hK => ?_⟩
                  have hB := hide left.base
                  clear left
                  have hcw1 : j ≤ cw := by omega
                  go_simp
                  exact hK _ _ rfl hB.out (Below.refl _ _)
                refine And.intro ?_ ?_
                · -- 6: slot 120 := Op.call { callee := Callee.value (Operand.func 21), args := #[Operand.tmp 115, Operand.tmp
                  refine lstep_run fun fr wf left => ?_
                  obtain ⟨x1, e1, r1⟩ := left.slot 127 rfl 1 115 _ rfl rfl (by decide) rfl
                  have s1 := Eq.symm (show x1 = .int .u32 (mc : Int) from r1)
                  subst s1
                  obtain ⟨x2, e2, r2⟩ := left.slot 127 rfl 2 116 _ rfl rfl (by decide) rfl
                  have s2 := Eq.symm (show x2 = .string item from r2)
                  subst s2
                  obtain ⟨x5, e5, r5⟩ := left.slot 127 rfl 5 119 _ rfl rfl (by decide) rfl
                  have s5 := Eq.symm (show x5 = .slice (some ⟨g, 0, none⟩) j cw from r5)
                  subst s5
                  refine ⟨wanted_none rfl, fun K hK => ?_⟩
                  have hB := hide left.base
                  clear left
                  go_simp
                  refine (chain_val mc item _ ns.reverse C2 _ HM4.out h47 (SlV.below HS9.out hB.out) hnr hzr HC2.out).mono ?_
                  rintro e w' ⟨rfl, hb⟩
                  exact hK _ _ rfl (hB.out.trans (hb.mono (le_base hB.out))) hb
                refine And.intro ?_ ?_
                · -- 7: slot 121 := Op.fieldAddr 34 (Operand.tmp 8) 4
                  refine lstep_run fun fr wf left => ?_
                  have o8 := (left.old 8 (by kernel_rfl)).trans rfl
                  refine ⟨wanted_none rfl, fun K hK => ?_⟩
                  have hB := hide left.base
                  clear left
                  go_simp
                  exact hK _ _ rfl hB.out (Below.refl _ _)
                refine And.intro ?_ ?_
                · -- 8: slot 122 := Op.load 29 (Operand.tmp 121)
                  refine lstep_run fun fr wf left => ?_
                  obtain ⟨x7, e7, r7⟩ := left.slot 127 rfl 7 121 _ rfl rfl (by decide) rfl
                  have s7 := Eq.symm (show x7 = .pointer (some ⟨w.heap.size, 4, none⟩) from r7)
                  subst s7
                  refine ⟨wanted_none rfl, fun K hK => ?_⟩
                  have hB := hide left.base
                  have hc := (cell_blk ((hB.out.block w.heap.size (heap_lt HZ9.out)).trans HZ9.out) 4).trans rfl
                  clear left
                  go_simp
                  exact hK _ _ rfl hB.out (Below.refl _ _)
                refine And.intro ?_ ?_
                · -- 9: slot 123 := Op.move (Operand.tmp 0)
                  refine lstep_run fun fr wf left => ?_
                  have o0 := (left.old 0 (by kernel_rfl)).trans rfl
                  refine ⟨wanted_none rfl, fun K hK => ?_⟩
                  have hB := hide left.base
                  clear left
                  go_simp
                  exact hK _ _ rfl hB.out (Below.refl _ _)
                refine And.intro ?_ ?_
                · -- 10: slot 124 := Op.move (Operand.tmp 14)
                  refine lstep_run fun fr wf left => ?_
                  have o14 := (left.old 14 (by kernel_rfl)).trans rfl
                  refine ⟨wanted_none rfl, fun K hK => ?_⟩
                  have hB := hide left.base
                  clear left
                  go_simp
                  exact hK _ _ rfl hB.out (Below.refl _ _)
                refine And.intro ?_ ?_
                · -- 11: slot 125 := Op.call { callee := Callee.value (Operand.func 22), args := #[Operand.tmp 122, Operand.tmp
                  refine lstep_run fun fr wf left => ?_
                  obtain ⟨x8, e8, r8⟩ := left.slot 127 rfl 8 122 _ rfl rfl (by decide) rfl
                  have s8 := Eq.symm (show x8 = .int .u32 (mc : Int) from r8)
                  subst s8
                  obtain ⟨x9, e9, r9⟩ := left.slot 127 rfl 9 123 _ rfl rfl (by decide) rfl
                  have s9 := Eq.symm (show x9 = .string item from r9)
                  subst s9
                  obtain ⟨x10, e10, r10⟩ := left.slot 127 rfl 10 124 _ rfl rfl (by decide) rfl
                  have s10 := Eq.symm (show x10 = vo from r10)
                  subst s10
                  refine ⟨wanted_none rfl, fun K hK => ?_⟩
                  have hB := hide left.base
                  clear left
                  go_simp
                  refine (refChain_val mc item _ ns.reverse C2 _ HM4.out h47 (SlV.below HO9.out hB.out) hnr hzr HC2.out).mono ?_
                  rintro e w' ⟨rfl, hb⟩
                  exact hK _ _ rfl (hB.out.trans (hb.mono (le_base hB.out))) hb
                refine And.intro ?_ ?_
                · -- 12: slot 126 := Op.binOp BinOp.eql 29 (Operand.tmp 120) (Operand.tmp 125) 29
                  refine lstep_run fun fr wf left => ?_
                  obtain ⟨x6, e6, r6⟩ := left.slot 127 rfl 6 120 _ rfl rfl (by decide) rfl
                  have s6 := Eq.symm (show x6 = .int .u32 (C2 : Int) from r6)
                  subst s6
                  obtain ⟨x11, e11, r11⟩ := left.slot 127 rfl 11 125 _ rfl rfl (by decide) rfl
                  have s11 := Eq.symm (show x11 = .int .u32 (C2 : Int) from r11)
                  subst s11
                  refine ⟨wanted_none rfl, fun K hK => ?_⟩
                  have hB := hide left.base
                  clear left
                  go_simp
                  exact hK _ _ rfl hB.out (Below.refl _ _)
                refine And.intro ?_ ?_
                · -- 13: slot 10 := Op.assign (Operand.tmp 126)
                  refine lstep_run fun fr wf left => ?_
                  obtain ⟨x12, e12, r12⟩ := left.slot 127 rfl 12 126 _ rfl rfl (by decide) rfl
                  have s12 := Eq.symm (show x12 = .bool true from r12)
                  subst s12
                  refine ⟨wanted_none rfl, fun K hK => ?_⟩
                  have hB := hide left.base
                  clear left
                  go_simp
                  exact hK _ _ rfl hB.out (Below.refl _ _)
                exact trivial
              · intro fr wf hB _ hd hall _
                have hv : fr.tmps.getD 10 undef = .bool true := hall 13 _ rfl (by simp)
                refine hrest _ _ (wp_ret ?_)
                exact bodyPost_ret (by rw [results_tmp rfl, hv]) hd ⟨rfl, HB9.out.trans (hB.mono HB9.out.size)⟩
              -- END REGION laysc
end Go.Proofs.Ytoddjpkacaekbaa
