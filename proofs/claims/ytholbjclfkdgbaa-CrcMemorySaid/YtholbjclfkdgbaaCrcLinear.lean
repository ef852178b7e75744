/-
  massiflaw05.CrcLinear: the walk.
-/
import Derived.Test.YtholbjclfkdgbaaCrcParts
import Derived.Deep.Cut
import Derived.Deep.AppendLies
namespace Go.Proofs.Ytholbjclfkdgbaa
open Go.RowKit
namespace Crc
theorem bv8_xor (a b : UInt8) : bv8 (a ^^^ b) = bv8 a ^^^ bv8 b := by
  apply BitVec.eq_of_toNat_eq
  have h : ∀ c : UInt8, (bv8 c).toNat = c.toNat := fun c => by have := c.toNat_lt; simp [bv8]
  rw [BitVec.toNat_xor, h, h, h, UInt8.toNat_xor]
def xor3 : List UInt8 → List UInt8 → List UInt8 → List UInt8
  | x :: xs, y :: ys, z :: zs => (x ^^^ y ^^^ z) :: xor3 xs ys zs
  | _, _, _ => []
theorem byteStep_xor (x y : BitVec 32) (a b : UInt8) : byteStep (x ^^^ y) (a ^^^ b) = byteStep x a ^^^ byteStep y b := by
  unfold byteStep
  rw [bv8_xor, ← stepN_xor]; congr 1; ac_rfl
theorem fold_xor3 : ∀ (X Y Z : List UInt8) (x y z : BitVec 32), X.length = Y.length → Y.length = Z.length → fold (x ^^^ y ^^^ z) (xor3 X Y Z) = fold x X ^^^ fold y Y ^^^ fold z Z
  | [], [], [], x, y, z, _, _ => rfl
  | a :: X, b :: Y, c :: Z, x, y, z, h1, h2 => by
    show fold (byteStep (x ^^^ y ^^^ z) (a ^^^ b ^^^ c)) (xor3 X Y Z) = _
    rw [byteStep_xor, byteStep_xor, fold_xor3 X Y Z _ _ _ (by simpa using h1) (by simpa using h2)]; rfl
theorem more_xor3 (X Y Z : List UInt8) (h1 : X.length = Y.length) (h2 : Y.length = Z.length) : more 0#32 (xor3 X Y Z) = more 0#32 X ^^^ more 0#32 Y ^^^ more 0#32 Z := by
  unfold more
  have e : (~~~(0#32) : BitVec 32) = ~~~(0#32) ^^^ ~~~(0#32) ^^^ ~~~(0#32) := by decide
  rw [show fold (~~~(0#32)) (xor3 X Y Z) = fold (~~~(0#32) ^^^ ~~~(0#32) ^^^ ~~~(0#32)) (xor3 X Y Z) by rw [← e], fold_xor3 X Y Z _ _ _ h1 h2]
  have n : ∀ a b c : BitVec 32, ~~~(a ^^^ b ^^^ c) = ~~~a ^^^ ~~~b ^^^ ~~~c := by
    intro a b c
    refine BitVec.eq_of_getLsbD_eq fun i hi => ?_
    simp only [BitVec.getLsbD_xor, BitVec.getLsbD_not, hi]
    cases a.getLsbD i <;> cases b.getLsbD i <;> cases c.getLsbD i <;> rfl
  exact n _ _ _
theorem xor3_take (X Y Z : List UInt8) (k : Nat) (hx : k < X.length) (hy : k < Y.length) (hz : k < Z.length) : xor3 (X.take (k + 1)) (Y.take (k + 1)) (Z.take (k + 1)) = xor3 (X.take k) (Y.take k) (Z.take k) ++ [X[k] ^^^ Y[k] ^^^ Z[k]] := by
  induction k generalizing X Y Z with
  | zero =>
    cases X with
    | nil => simp at hx
    | cons x X =>
      cases Y with
      | nil => simp at hy
      | cons y Y =>
        cases Z with
        | nil => simp at hz
        | cons z Z => simp [xor3]
  | succ k ih =>
    cases X with
    | nil => simp at hx
    | cons x X =>
      cases Y with
      | nil => simp at hy
      | cons y Y =>
        cases Z with
        | nil => simp at hz
        | cons z Z =>
          have := ih X Y Z (by simpa using hx) (by simpa using hy) (by simpa using hz)
          simp only [List.take_succ_cons, xor3, List.cons_append, List.getElem_cons_succ]
          rw [this]
theorem xor3_len : ∀ (X Y Z : List UInt8), X.length = Y.length → Y.length = Z.length → (xor3 X Y Z).length = X.length
  | [], [], [], _, _ => rfl
  | _ :: X, _ :: Y, _ :: Z, h1, h2 => by simp [xor3, xor3_len X Y Z (by simpa using h1) (by simpa using h2)]
theorem bits8_xor (a b : UInt8) : bits .xor .u8 (a.toNat : Int) (b.toNat : Int) = ((a ^^^ b).toNat : Int) := by
  unfold bits
  simp only [BitVec.ofInt_natCast]
  rw [IntKind.wrap_u8]
  show ((BitVec.ofNat 8 a.toNat ^^^ BitVec.ofNat 8 b.toNat).toNat : Int) % 256 = _
  have ha := a.toNat_lt
  have hb := b.toNat_lt
  rw [BitVec.toNat_xor, BitVec.toNat_ofNat, BitVec.toNat_ofNat, UInt8.toNat_xor, Nat.mod_eq_of_lt (by simpa using ha), Nat.mod_eq_of_lt (by simpa using hb)]
  have : a.toNat ^^^ b.toNat < 2 ^ 8 := Nat.xor_lt_two_pow (by simpa using ha) (by simpa using hb)
  omega
end Crc
-- DEFS
def linL (x y z : ByteArray) (u8 : Value) (k B : Nat) (cx cy cz : Int) (xs : List Value) : List Sp :=
  [.is (u8), .is (.string x), .is (.int .i64 ↑k), .is (.int .u8 cx), .is (.string y), .is (.int .i64 ↑k), .is (.int .u8 cy), .is (.int .u8 (bits .xor .u8 cx cy)), .is (.string z), .is (.int .i64 ↑k), .is (.int .u8 cz), .is (.int .u8 (bits .xor .u8 (bits .xor .u8 cx cy) cz)), .sl [.int .u8 (bits .xor .u8 (bits .xor .u8 cx cy) cz)], .own B 5 (k + 1) (xs ++ [.int .u8 (bits .xor .u8 (bits .xor .u8 cx cy) cz)]), .own B 5 (k + 1) (xs ++ [.int .u8 (bits .xor .u8 (bits .xor .u8 cx cy) cz)])]
def linU : List (List Nat) := [[], [], [], [1, 2], [], [], [4, 5], [3, 6], [], [], [8, 9], [7, 10], [11], [0, 12], [13]]
-- DEFS END
-- DEFS2
def linL2 (x y z : ByteArray) (u8 : Value) (n : Nat) (bs : List UInt8) (NX NY NZ : Int) : List Sp :=
  [.is (u8), .is (.string ⟨bs.toArray⟩), .sl [.string ⟨bs.toArray⟩], .is (.int .u32 (bits .xor .u32 (bits .xor .u32 NX NY) NZ)), .is (.string x), .is (.int .i64 ↑n), .is (.string (x.extract 0 n)), .sl [.string (x.extract 0 n)], .is (.int .u32 NX), .is (.string y), .is (.int .i64 ↑n), .is (.string (y.extract 0 n)), .sl [.string (y.extract 0 n)], .is (.int .u32 NY), .is (.int .u32 (bits .xor .u32 NX NY)), .is (.string z), .is (.int .i64 ↑n), .is (.string (z.extract 0 n)), .sl [.string (z.extract 0 n)], .is (.int .u32 NZ), .is (.int .u32 (bits .xor .u32 (bits .xor .u32 NX NY) NZ)), .is (.bool true), .is (.bool true)]
def linU2 : List (List Nat) := [[], [0], [1], [2], [], [], [4, 5], [6], [7], [], [], [9, 10], [11], [12], [8, 13], [], [], [15, 16], [17], [18], [14, 19], [3, 20], [21]]
-- DEFS2 END
theorem int_u8 {a b : Int} (h : a = b) : Value.int .u8 a = Value.int .u8 b := by rw [h]
theorem bytes_take (a : ByteArray) (n : Nat) : (a.extract 0 n).data.toList = a.data.toList.take n := by simp
theorem extract_le (a : ByteArray) (n : Nat) (h : a.size ≤ 140737488351232) : (a.extract 0 n).size ≤ 9223372036854775807 := by rw [ByteArray.size_extract]; omega
theorem info_u8 : (Try.prog.info? 5).map (fun i => (i.zero, i.size, i.bytes)) = some (some (.int .u8 0), 1, 1) := by kernel_rfl
set_option maxHeartbeats 1600000 in
set_option maxRecDepth 100000 in
theorem linear_any (x y z : ByteArray) (w : World) (hx : x.size ≤ 140737488351232) (hy : y.size ≤ 140737488351232) (hz : z.size ≤ 140737488351232) :
    Calls Try.prog 6 #[.string x, .string y, .string z] w fun e w' => e = .returned (.bool true) ∧ Below w.heap.size w w' := by
  go_enter Try.func6, Try.ntmps6
  go_wp2_with fail
  refine (alive_any _).mono ?_
  rintro e w1 ⟨rfl, hb1⟩
  have HB1 := hide hb1
  clear hb1
  go_upto_if 17 with (fail)
  go_cut [7] from 10 (fun v7 wc => wc = w1 ∧ ∃ n : Nat, v7 = .int .i64 n ∧ n ≤ x.size ∧ n ≤ y.size)
  case first =>
    go_wp2
    · go_meet
      case rel => exact ⟨rfl, y.size, rfl, by omega, by omega⟩
    · go_meet
      case rel => exact ⟨rfl, x.size, rfl, by omega, by omega⟩
  case rest =>
    obtain ⟨rfl, n0, rfl, hn1, hn2⟩ := hcut
    go_upto_if 23 with (fail)
    go_cut [7] from 10 (fun v7 wd => wd = wc ∧ ∃ n : Nat, v7 = .int .i64 n ∧ n ≤ x.size ∧ n ≤ y.size ∧ n ≤ z.size)
    case first =>
      go_wp2
      · go_meet
        case rel => exact ⟨rfl, z.size, rfl, by omega, by omega, by omega⟩
      · go_meet
        case rel => exact ⟨rfl, n0, rfl, by omega, by omega, by omega⟩
    case rest =>
      obtain ⟨rfl, n, rfl, hnx, hny, hnz⟩ := hcut
      obtain ⟨B, hBd⟩ : ∃ B, B = wc.heap.size := ⟨_, rfl⟩
      have HBD := hide hBd
      clear hBd
      go_wp2
      go_loopg [8, 9] n (fun g v8 v9 wr => ∃ k : Nat, k ≤ n ∧ g = n - k ∧ v9 = .int .i64 k ∧ Hid (wr.ownsRow B 5 1 v8 k ((Crc.xor3 (x.data.toList.take k) (y.data.toList.take k) (z.data.toList.take k)).map byteV)) ∧ Hid (Below B wc wr))
      case atStart => exact ⟨0, by omega, rfl, rfl, World.ownsRow_nil _ _ _ _, Below.refl _ _⟩
      case round =>
        obtain ⟨k, hk, rfl, rfl, HO, HB⟩ := hrel
        by_cases hkn : k < n
        · have hkx : k < x.size := by omega
          have hky : k < y.size := by omega
          have hkz : k < z.size := by omega
          obtain ⟨cx, hcx⟩ : ∃ c : Int, c = (x[k].toNat : Int) := ⟨_, rfl⟩
          obtain ⟨cy, hcy⟩ : ∃ c : Int, c = (y[k].toNat : Int) := ⟨_, rfl⟩
          obtain ⟨cz, hcz⟩ : ∃ c : Int, c = (z[k].toNat : Int) := ⟨_, rfl⟩
          have HX := hide (And.intro hcx (And.intro hcy hcz))
          clear hcx hcy hcz
          go_wp2
          have hown0 := HO.out
          obtain ⟨xs, hxs⟩ : ∃ xs, xs = (Crc.xor3 (x.data.toList.take k) (y.data.toList.take k) (z.data.toList.take k)).map byteV := ⟨_, rfl⟩
          rw [← hxs] at hown0
          have HXS := hide hxs
          clear hxs
          -- REGION 12
          rename_i hrest
          refine wp_region_local (by kernel_rfl) (by kernel_rfl) (useList linU) [14] (by kernel_rfl) (spR (linL x y z u8 k B cx cy cz xs)) (onePre 13 fun w => w.ownsRow B 5 1 u8 k xs) (Below B wc) (oneE 13 (Below B)) (one_stays (by simp [linL]) (by kernel_rfl)) (one_pre fun _ _ h hb => own_below h hb) (one_refl fun _ => Below.refl _ _) (dsts_lt (N := 67) (by kernel_rfl)) HB.out.drew (fun i _ => one_start hown0) (all_ops ?_) ?_
          · refine And.intro ?_ ?_
            · -- 0: slot 31 := Op.move (Operand.tmp 8)
              refine lstep_run fun fr wf left => ?_
              have o8 := (left.old 8 (by kernel_rfl)).trans rfl
              refine ⟨wanted_none rfl, fun K hK => ?_⟩
              have hB := hide left.base
              clear left
              go_simp
              exact hK _ _ rfl hB.out (Below.refl _ _)
            refine And.intro ?_ ?_
            · -- 1: slot 32 := Op.move (Operand.tmp 0)
              refine lstep_run fun fr wf left => ?_
              have o0 := (left.old 0 (by kernel_rfl)).trans rfl
              refine ⟨wanted_none rfl, fun K hK => ?_⟩
              have hB := hide left.base
              clear left
              go_simp
              exact hK _ _ rfl hB.out (Below.refl _ _)
            refine And.intro ?_ ?_
            · -- 2: slot 33 := Op.move (Operand.tmp 9)
              refine lstep_run fun fr wf left => ?_
              have o9 := (left.old 9 (by kernel_rfl)).trans rfl
              refine ⟨wanted_none rfl, fun K hK => ?_⟩
              have hB := hide left.base
              clear left
              go_simp
              exact hK _ _ rfl hB.out (Below.refl _ _)
            refine And.intro ?_ ?_
            · -- 3: slot 34 := Op.index 9 (Operand.tmp 32) (Operand.tmp 33)
              refine lstep_run fun fr wf left => ?_
              obtain ⟨x1, e1, r1⟩ := left.slot 67 rfl 1 32 _ rfl rfl (by decide) rfl
              have s1 := Eq.symm (show x1 = .string x from r1)
              subst s1
              obtain ⟨x2, e2, r2⟩ := left.slot 67 rfl 2 33 _ rfl rfl (by decide) rfl
              have s2 := Eq.symm (show x2 = .int .i64 ↑k from r2)
              subst s2
              refine ⟨wanted_none rfl, fun K hK => ?_⟩
              have hB := hide left.base
              clear left
              go_simp
              exact hK _ _ (int_u8 HX.out.1.symm) hB.out (Below.refl _ _)
            refine And.intro ?_ ?_
            · -- 4: slot 35 := Op.move (Operand.tmp 1)
              refine lstep_run fun fr wf left => ?_
              have o1 := (left.old 1 (by kernel_rfl)).trans rfl
              refine ⟨wanted_none rfl, fun K hK => ?_⟩
              have hB := hide left.base
              clear left
              go_simp
              exact hK _ _ rfl hB.out (Below.refl _ _)
            refine And.intro ?_ ?_
            · -- 5: slot 36 := Op.move (Operand.tmp 9)
              refine lstep_run fun fr wf left => ?_
              have o9 := (left.old 9 (by kernel_rfl)).trans rfl
              refine ⟨wanted_none rfl, fun K hK => ?_⟩
              have hB := hide left.base
              clear left
              go_simp
              exact hK _ _ rfl hB.out (Below.refl _ _)
            refine And.intro ?_ ?_
            · -- 6: slot 37 := Op.index 9 (Operand.tmp 35) (Operand.tmp 36)
              refine lstep_run fun fr wf left => ?_
              obtain ⟨x4, e4, r4⟩ := left.slot 67 rfl 4 35 _ rfl rfl (by decide) rfl
              have s4 := Eq.symm (show x4 = .string y from r4)
              subst s4
              obtain ⟨x5, e5, r5⟩ := left.slot 67 rfl 5 36 _ rfl rfl (by decide) rfl
              have s5 := Eq.symm (show x5 = .int .i64 ↑k from r5)
              subst s5
              refine ⟨wanted_none rfl, fun K hK => ?_⟩
              have hB := hide left.base
              clear left
              go_simp
              exact hK _ _ (int_u8 HX.out.2.1.symm) hB.out (Below.refl _ _)
            refine And.intro ?_ ?_
            · -- 7: slot 38 := Op.binOp BinOp.xor 5 (Operand.tmp 34) (Operand.tmp 37) 5
              refine lstep_run fun fr wf left => ?_
              obtain ⟨x3, e3, r3⟩ := left.slot 67 rfl 3 34 _ rfl rfl (by decide) rfl
              have s3 := Eq.symm (show x3 = .int .u8 cx from r3)
              subst s3
              obtain ⟨x6, e6, r6⟩ := left.slot 67 rfl 6 37 _ rfl rfl (by decide) rfl
              have s6 := Eq.symm (show x6 = .int .u8 cy from r6)
              subst s6
              refine ⟨wanted_none rfl, fun K hK => ?_⟩
              have hB := hide left.base
              clear left
              go_simp
              exact hK _ _ rfl hB.out (Below.refl _ _)
            refine And.intro ?_ ?_
            · -- 8: slot 39 := Op.move (Operand.tmp 2)
              refine lstep_run fun fr wf left => ?_
              have o2 := (left.old 2 (by kernel_rfl)).trans rfl
              refine ⟨wanted_none rfl, fun K hK => ?_⟩
              have hB := hide left.base
              clear left
              go_simp
              exact hK _ _ rfl hB.out (Below.refl _ _)
            refine And.intro ?_ ?_
            · -- 9: slot 40 := Op.move (Operand.tmp 9)
              refine lstep_run fun fr wf left => ?_
              have o9 := (left.old 9 (by kernel_rfl)).trans rfl
              refine ⟨wanted_none rfl, fun K hK => ?_⟩
              have hB := hide left.base
              clear left
              go_simp
              exact hK _ _ rfl hB.out (Below.refl _ _)
            refine And.intro ?_ ?_
            · -- 10: slot 41 := Op.index 9 (Operand.tmp 39) (Operand.tmp 40)
              refine lstep_run fun fr wf left => ?_
              obtain ⟨x8, e8, r8⟩ := left.slot 67 rfl 8 39 _ rfl rfl (by decide) rfl
              have s8 := Eq.symm (show x8 = .string z from r8)
              subst s8
              obtain ⟨x9, e9, r9⟩ := left.slot 67 rfl 9 40 _ rfl rfl (by decide) rfl
              have s9 := Eq.symm (show x9 = .int .i64 ↑k from r9)
              subst s9
              refine ⟨wanted_none rfl, fun K hK => ?_⟩
              have hB := hide left.base
              clear left
              go_simp
              exact hK _ _ (int_u8 HX.out.2.2.symm) hB.out (Below.refl _ _)
            refine And.intro ?_ ?_
            · -- 11: slot 42 := Op.binOp BinOp.xor 5 (Operand.tmp 38) (Operand.tmp 41) 5
              refine lstep_run fun fr wf left => ?_
              obtain ⟨x7, e7, r7⟩ := left.slot 67 rfl 7 38 _ rfl rfl (by decide) rfl
              have s7 := Eq.symm (show x7 = .int .u8 (bits .xor .u8 cx cy) from r7)
              subst s7
              obtain ⟨x10, e10, r10⟩ := left.slot 67 rfl 10 41 _ rfl rfl (by decide) rfl
              have s10 := Eq.symm (show x10 = .int .u8 cz from r10)
              subst s10
              refine ⟨wanted_none rfl, fun K hK => ?_⟩
              have hB := hide left.base
              clear left
              go_simp
              exact hK _ _ rfl hB.out (Below.refl _ _)
            refine And.intro ?_ ?_
            · -- 12: slot 43 := Op.buildSlice 31 1 #[(0, Operand.tmp 42)]
              refine lstep_run fun fr wf left => ?_
              obtain ⟨x11, e11, r11⟩ := left.slot 67 rfl 11 42 _ rfl rfl (by decide) rfl
              have s11 := Eq.symm (show x11 = .int .u8 (bits .xor .u8 (bits .xor .u8 cx cy) cz) from r11)
              subst s11
              refine ⟨wanted_none rfl, fun K hK => ?_⟩
              have hB := hide left.base
              clear left
              go_simp
              exact hK _ _ (slv_new _ _ _ _ rfl) (hB.out.alloc (by rw [HBD.out]; exact hB.out.size) _) (Below.alloc (Below.refl _ _) (Nat.le_refl _) _)
            refine And.intro ?_ ?_
            · -- 13: slot 44 := Op.call { callee := Callee.builtin Builtin.append, args := #[Operand.tmp 31, Operand.tmp 4
              refine lstep_run fun fr wf left => ?_
              obtain ⟨x0, e0, r0⟩ := left.slot 67 rfl 0 31 _ rfl rfl (by decide) rfl
              have s0 := Eq.symm (show x0 = u8 from r0)
              subst s0
              obtain ⟨x12, e12, r12⟩ := left.slot 67 rfl 12 43 _ rfl rfl (by decide) rfl
              replace r12 : SlV wf x12 [.int .u8 (bits .xor .u8 (bits .xor .u8 cx cy) cz)] := r12
              refine ⟨wanted_none rfl, fun K hK => ?_⟩
              have hB := hide left.base
              have hown : wf.ownsRow B 5 1 u8 k xs := left.pre
              clear left
              refine wp_append_slv (.tmp 31) (.tmp 43) 31 rfl B 5 _ 1 Try.underlying31 info_u8 rfl u8 k xs (eval_tmp e0) hown x12 _ (eval_tmp e12) r12 (by simp [Value.oneCell']) (by unfold maxLen; simp; omega) (by simp; omega) (by rw [HBD.out]; exact hB.out.size) ?_
              intro v' w' hown' hgr
              exact hK _ _ hown' (below_grown hB.out hown hgr (Nat.le_refl _) (by rw [HBD.out]; exact hB.out.size)) (below_grown (Below.refl _ _) hown hgr (Nat.le_refl _) (by rw [HBD.out]; exact hB.out.size))
            refine And.intro ?_ ?_
            · -- 14: slot 8 := Op.assign (Operand.tmp 44)
              refine lstep_run fun fr wf left => ?_
              obtain ⟨x13, e13, r13⟩ := left.slot 67 rfl 13 44 _ rfl rfl (by decide) rfl
              replace r13 : wf.ownsRow B 5 1 x13 (k + 1) (xs ++ [.int .u8 (bits .xor .u8 (bits .xor .u8 cx cy) cz)]) := r13
              refine ⟨wanted_none rfl, fun K hK => ?_⟩
              have hB := hide left.base
              clear left
              go_simp
              exact hK _ _ r13 hB.out (Below.refl _ _)
            exact trivial
          · intro fr wf hB hs hd hall hkeep
            have h8 : wf.ownsRow B 5 1 (fr.tmps.getD 8 undef) (k + 1) (xs ++ [.int .u8 (bits .xor .u8 (bits .xor .u8 cx cy) cz)]) := hall 14 _ rfl (by simp)
            have hfr := act_ext (frame_set hs hkeep [31, 32, 33, 34, 35, 36, 37, 38, 39, 40, 41, 42, 43, 44, 8] (by kernel_rfl)) hd
            obtain ⟨q31, hq31⟩ : ∃ q, q = fr.tmps.getD 31 undef := ⟨_, rfl⟩
            obtain ⟨q32, hq32⟩ : ∃ q, q = fr.tmps.getD 32 undef := ⟨_, rfl⟩
            obtain ⟨q33, hq33⟩ : ∃ q, q = fr.tmps.getD 33 undef := ⟨_, rfl⟩
            obtain ⟨q34, hq34⟩ : ∃ q, q = fr.tmps.getD 34 undef := ⟨_, rfl⟩
            obtain ⟨q35, hq35⟩ : ∃ q, q = fr.tmps.getD 35 undef := ⟨_, rfl⟩
            obtain ⟨q36, hq36⟩ : ∃ q, q = fr.tmps.getD 36 undef := ⟨_, rfl⟩
            obtain ⟨q37, hq37⟩ : ∃ q, q = fr.tmps.getD 37 undef := ⟨_, rfl⟩
            obtain ⟨q38, hq38⟩ : ∃ q, q = fr.tmps.getD 38 undef := ⟨_, rfl⟩
            obtain ⟨q39, hq39⟩ : ∃ q, q = fr.tmps.getD 39 undef := ⟨_, rfl⟩
            obtain ⟨q40, hq40⟩ : ∃ q, q = fr.tmps.getD 40 undef := ⟨_, rfl⟩
            obtain ⟨q41, hq41⟩ : ∃ q, q = fr.tmps.getD 41 undef := ⟨_, rfl⟩
            obtain ⟨q42, hq42⟩ : ∃ q, q = fr.tmps.getD 42 undef := ⟨_, rfl⟩
            obtain ⟨q43, hq43⟩ : ∃ q, q = fr.tmps.getD 43 undef := ⟨_, rfl⟩
            obtain ⟨q44, hq44⟩ : ∃ q, q = fr.tmps.getD 44 undef := ⟨_, rfl⟩
            obtain ⟨q8, hq8⟩ : ∃ q, q = fr.tmps.getD 8 undef := ⟨_, rfl⟩
            rw [← hq8] at h8
            simp only [List.foldl, ← hq31, ← hq32, ← hq33, ← hq34, ← hq35, ← hq36, ← hq37, ← hq38, ← hq39, ← hq40, ← hq41, ← hq42, ← hq43, ← hq44, ← hq8] at hfr
            simp only [List.setIfInBounds_toArray, List.set_cons_zero, List.set_cons_succ] at hfr
            clear hall hkeep hs hd hq31 hq32 hq33 hq34 hq35 hq36 hq37 hq38 hq39 hq40 hq41 hq42 hq43 hq44 hq8
            subst hfr
            refine hrest _ _ ?_
          -- REGION 12 END
            go_wp2
            go_roundg (n - (k + 1))
            case measure => omega
            case rel =>
              refine ⟨k + 1, by omega, rfl, by go_num, ?_, hB⟩
              rw [Crc.xor3_take _ _ _ k (by simpa using hkx) (by simpa using hky) (by simpa using hkz), List.map_append, ← HXS.out]
              have e : [Value.int .u8 (bits .xor .u8 (bits .xor .u8 cx cy) cz)] = List.map byteV [x.data.toList[k]'(by simpa using hkx) ^^^ y.data.toList[k]'(by simpa using hky) ^^^ z.data.toList[k]'(by simpa using hkz)] := by
                rw [HX.out.1, HX.out.2.1, HX.out.2.2, Crc.bits8_xor, Crc.bits8_xor]; rfl
              rw [← e]; exact h8
        · have hk2 : n = k := by omega
          subst hk2
          obtain ⟨bs, hbs⟩ : ∃ bs, bs = Crc.xor3 (x.data.toList.take n) (y.data.toList.take n) (z.data.toList.take n) := ⟨_, rfl⟩
          have HS : Hid (SlV wr u8 (bs.map byteV)) := hide (by rw [hbs]; exact slv_of_owns HO.out)
          obtain ⟨NX, hNX⟩ : ∃ N : Int, ((Crc.ofParts 0#32 ([x.extract 0 n].map bytesOf)).toNat : Int) = N := ⟨_, rfl⟩
          obtain ⟨NY, hNY⟩ : ∃ N : Int, ((Crc.ofParts 0#32 ([y.extract 0 n].map bytesOf)).toNat : Int) = N := ⟨_, rfl⟩
          obtain ⟨NZ, hNZ⟩ : ∃ N : Int, ((Crc.ofParts 0#32 ([z.extract 0 n].map bytesOf)).toNat : Int) = N := ⟨_, rfl⟩
          have hall : ((Crc.ofParts 0#32 ([(⟨bs.toArray⟩ : ByteArray)].map bytesOf)).toNat : Int) = bits .xor .u32 (bits .xor .u32 NX NY) NZ := by
            rw [← hNX, ← hNY, ← hNZ, Crc.bits_xor, Crc.bits_xor, ofParts_one, ofParts_one, ofParts_one, ofParts_one, bytes_take x n, bytes_take y n, bytes_take z n,
              ← Crc.more_xor3 _ _ _ (by simp; omega) (by simp; omega), ← hbs]
          have hbl : (⟨bs.toArray⟩ : ByteArray).size ≤ 9223372036854775807 := by
            show bs.toArray.size ≤ _
            rw [hbs, List.size_toArray, Crc.xor3_len _ _ _ (by simp; omega) (by simp; omega)]
            simp; omega
          have HE := hide (And.intro hNX (And.intro hNY (And.intro hNZ (And.intro hall (And.intro hbl (And.intro (extract_le x n hx) (And.intro (extract_le y n hy) (extract_le z n hz))))))))
          clear hNX hNY hNZ hall hbl hbs
          go_wp2
          -- REGION 13
          rename_i hrest
          refine wp_region_local (by kernel_rfl) (by kernel_rfl) (useList linU2) [22] (by kernel_rfl) (spR (linL2 x y z u8 n bs NX NY NZ)) (fun _ _ => True) (Below wr.heap.size wr) (fun _ w w' => Below w.heap.size w w') spR_stays (fun _ _ _ _ _ h _ => h) (fun _ _ => Below.refl _ _) (dsts_lt (N := 67) (by kernel_rfl)) ((Below.refl _ _).drew) (fun _ _ => trivial) (all_ops ?_) ?_
          · refine And.intro ?_ ?_
            · -- 0: slot 45 := Op.move (Operand.tmp 8)
              refine lstep_run fun fr wf left => ?_
              have o8 := (left.old 8 (by kernel_rfl)).trans rfl
              refine ⟨wanted_none rfl, fun K hK => ?_⟩
              have hB := hide left.base
              clear left
              go_simp
              exact hK _ _ rfl hB.out (Below.refl _ _)
            refine And.intro ?_ ?_
            · -- 1: slot 46 := Op.convert 31 9 (Operand.tmp 45)
              refine lstep_run fun fr wf left => ?_
              obtain ⟨x0, e0, r0⟩ := left.slot 67 rfl 0 45 _ rfl rfl (by decide) rfl
              have s0 := Eq.symm (show x0 = u8 from r0)
              subst s0
              refine ⟨wanted_none rfl, fun K hK => ?_⟩
              have hB := hide left.base
              clear left
              refine wp_bytes_string (.tmp 45) 31 9 5 rfl Try.underlying31 Try.underlying5 Try.underlying9 u8 (eval_tmp e0) bs (SlV.below HS.out hB.out) ?_
              exact hK _ _ rfl hB.out (Below.refl _ _)
            refine And.intro ?_ ?_
            · -- 2: slot 47 := Op.buildSlice 22 1 #[(0, Operand.tmp 46)]
              refine lstep_run fun fr wf left => ?_
              obtain ⟨x1, e1, r1⟩ := left.slot 67 rfl 1 46 _ rfl rfl (by decide) rfl
              have s1 := Eq.symm (show x1 = .string ⟨bs.toArray⟩ from r1)
              subst s1
              refine ⟨wanted_none rfl, fun K hK => ?_⟩
              have hB := hide left.base
              clear left
              go_simp
              exact hK _ _ (slv_new _ _ _ _ rfl) (hB.out.alloc hB.out.size _) (Below.alloc (Below.refl _ _) (Nat.le_refl _) _)
            refine And.intro ?_ ?_
            · -- 3: slot 48 := Op.call { callee := Callee.value (Operand.func 12), args := #[Operand.tmp 47], argTypes :=
              refine lstep_run fun fr wf left => ?_
              obtain ⟨x2, e2, r2⟩ := left.slot 67 rfl 2 47 _ rfl rfl (by decide) rfl
              replace r2 : SlV wf x2 [.string ⟨bs.toArray⟩] := r2
              refine ⟨wanted_none rfl, fun K hK => ?_⟩
              have hB := hide left.base
              clear left
              go_simp
              refine (of_val _ [⟨bs.toArray⟩] (bits .xor .u32 (bits .xor .u32 NX NY) NZ) _ r2 (by simp) (by intro p hp; rw [List.mem_singleton.1 hp]; exact HE.out.2.2.2.2.1) (HE.out.2.2.2.1)).mono ?_
              rintro e w' ⟨rfl, hb⟩
              exact hK _ _ rfl (below_next hB.out hb) hb
            refine And.intro ?_ ?_
            · -- 4: slot 49 := Op.move (Operand.tmp 0)
              refine lstep_run fun fr wf left => ?_
              have o0 := (left.old 0 (by kernel_rfl)).trans rfl
              refine ⟨wanted_none rfl, fun K hK => ?_⟩
              have hB := hide left.base
              clear left
              go_simp
              exact hK _ _ rfl hB.out (Below.refl _ _)
            refine And.intro ?_ ?_
            · -- 5: slot 50 := Op.move (Operand.tmp 7)
              refine lstep_run fun fr wf left => ?_
              have o7 := (left.old 7 (by kernel_rfl)).trans rfl
              refine ⟨wanted_none rfl, fun K hK => ?_⟩
              have hB := hide left.base
              clear left
              go_simp
              exact hK _ _ rfl hB.out (Below.refl _ _)
            refine And.intro ?_ ?_
            · -- 6: slot 51 := Op.slice 9 (Operand.tmp 49) none (some (Operand.tmp 50)) none
              refine lstep_run fun fr wf left => ?_
              obtain ⟨x4, e4, r4⟩ := left.slot 67 rfl 4 49 _ rfl rfl (by decide) rfl
              have s4 := Eq.symm (show x4 = .string x from r4)
              subst s4
              obtain ⟨x5, e5, r5⟩ := left.slot 67 rfl 5 50 _ rfl rfl (by decide) rfl
              have s5 := Eq.symm (show x5 = .int .i64 ↑n from r5)
              subst s5
              refine ⟨wanted_none rfl, fun K hK => ?_⟩
              have hB := hide left.base
              clear left
              go_simp
              exact hK _ _ rfl hB.out (Below.refl _ _)
            refine And.intro ?_ ?_
            · -- 7: slot 52 := Op.buildSlice 22 1 #[(0, Operand.tmp 51)]
              refine lstep_run fun fr wf left => ?_
              obtain ⟨x6, e6, r6⟩ := left.slot 67 rfl 6 51 _ rfl rfl (by decide) rfl
              have s6 := Eq.symm (show x6 = .string (x.extract 0 n) from r6)
              subst s6
              refine ⟨wanted_none rfl, fun K hK => ?_⟩
              have hB := hide left.base
              clear left
              go_simp
              exact hK _ _ (slv_new _ _ _ _ rfl) (hB.out.alloc hB.out.size _) (Below.alloc (Below.refl _ _) (Nat.le_refl _) _)
            refine And.intro ?_ ?_
            · -- 8: slot 53 := Op.call { callee := Callee.value (Operand.func 12), args := #[Operand.tmp 52], argTypes :=
              refine lstep_run fun fr wf left => ?_
              obtain ⟨x7, e7, r7⟩ := left.slot 67 rfl 7 52 _ rfl rfl (by decide) rfl
              replace r7 : SlV wf x7 [.string (x.extract 0 n)] := r7
              refine ⟨wanted_none rfl, fun K hK => ?_⟩
              have hB := hide left.base
              clear left
              go_simp
              refine (of_val _ [x.extract 0 n] NX _ r7 (by simp) (by intro p hp; rw [List.mem_singleton.1 hp]; exact HE.out.2.2.2.2.2.1) (HE.out.1)).mono ?_
              rintro e w' ⟨rfl, hb⟩
              exact hK _ _ rfl (below_next hB.out hb) hb
            refine And.intro ?_ ?_
            · -- 9: slot 54 := Op.move (Operand.tmp 1)
              refine lstep_run fun fr wf left => ?_
              have o1 := (left.old 1 (by kernel_rfl)).trans rfl
              refine ⟨wanted_none rfl, fun K hK => ?_⟩
              have hB := hide left.base
              clear left
              go_simp
              exact hK _ _ rfl hB.out (Below.refl _ _)
            refine And.intro ?_ ?_
            · -- 10: slot 55 := Op.move (Operand.tmp 7)
              refine lstep_run fun fr wf left => ?_
              have o7 := (left.old 7 (by kernel_rfl)).trans rfl
              refine ⟨wanted_none rfl, fun K hK => ?_⟩
              have hB := hide left.base
              clear left
              go_simp
              exact hK _ _ rfl hB.out (Below.refl _ _)
            refine And.intro ?_ ?_
            · -- 11: slot 56 := Op.slice 9 (Operand.tmp 54) none (some (Operand.tmp 55)) none
              refine lstep_run fun fr wf left => ?_
              obtain ⟨x9, e9, r9⟩ := left.slot 67 rfl 9 54 _ rfl rfl (by decide) rfl
              have s9 := Eq.symm (show x9 = .string y from r9)
              subst s9
              obtain ⟨x10, e10, r10⟩ := left.slot 67 rfl 10 55 _ rfl rfl (by decide) rfl
              have s10 := Eq.symm (show x10 = .int .i64 ↑n from r10)
              subst s10
              refine ⟨wanted_none rfl, fun K hK => ?_⟩
              have hB := hide left.base
              clear left
              go_simp
              exact hK _ _ rfl hB.out (Below.refl _ _)
            refine And.intro ?_ ?_
            · -- 12: slot 57 := Op.buildSlice 22 1 #[(0, Operand.tmp 56)]
              refine lstep_run fun fr wf left => ?_
              obtain ⟨x11, e11, r11⟩ := left.slot 67 rfl 11 56 _ rfl rfl (by decide) rfl
              have s11 := Eq.symm (show x11 = .string (y.extract 0 n) from r11)
              subst s11
              refine ⟨wanted_none rfl, fun K hK => ?_⟩
              have hB := hide left.base
              clear left
              go_simp
              exact hK _ _ (slv_new _ _ _ _ rfl) (hB.out.alloc hB.out.size _) (Below.alloc (Below.refl _ _) (Nat.le_refl _) _)
            refine And.intro ?_ ?_
            · -- 13: slot 58 := Op.call { callee := Callee.value (Operand.func 12), args := #[Operand.tmp 57], argTypes :=
              refine lstep_run fun fr wf left => ?_
              obtain ⟨x12, e12, r12⟩ := left.slot 67 rfl 12 57 _ rfl rfl (by decide) rfl
              replace r12 : SlV wf x12 [.string (y.extract 0 n)] := r12
              refine ⟨wanted_none rfl, fun K hK => ?_⟩
              have hB := hide left.base
              clear left
              go_simp
              refine (of_val _ [y.extract 0 n] NY _ r12 (by simp) (by intro p hp; rw [List.mem_singleton.1 hp]; exact HE.out.2.2.2.2.2.2.1) (HE.out.2.1)).mono ?_
              rintro e w' ⟨rfl, hb⟩
              exact hK _ _ rfl (below_next hB.out hb) hb
            refine And.intro ?_ ?_
            · -- 14: slot 59 := Op.binOp BinOp.xor 23 (Operand.tmp 53) (Operand.tmp 58) 23
              refine lstep_run fun fr wf left => ?_
              obtain ⟨x8, e8, r8⟩ := left.slot 67 rfl 8 53 _ rfl rfl (by decide) rfl
              have s8 := Eq.symm (show x8 = .int .u32 NX from r8)
              subst s8
              obtain ⟨x13, e13, r13⟩ := left.slot 67 rfl 13 58 _ rfl rfl (by decide) rfl
              have s13 := Eq.symm (show x13 = .int .u32 NY from r13)
              subst s13
              refine ⟨wanted_none rfl, fun K hK => ?_⟩
              have hB := hide left.base
              clear left
              go_simp
              exact hK _ _ rfl hB.out (Below.refl _ _)
            refine And.intro ?_ ?_
            · -- 15: slot 60 := Op.move (Operand.tmp 2)
              refine lstep_run fun fr wf left => ?_
              have o2 := (left.old 2 (by kernel_rfl)).trans rfl
              refine ⟨wanted_none rfl, fun K hK => ?_⟩
              have hB := hide left.base
              clear left
              go_simp
              exact hK _ _ rfl hB.out (Below.refl _ _)
            refine And.intro ?_ ?_
            · -- 16: slot 61 := Op.move (Operand.tmp 7)
              refine lstep_run fun fr wf left => ?_
              have o7 := (left.old 7 (by kernel_rfl)).trans rfl
              refine ⟨wanted_none rfl, fun K hK => ?_⟩
              have hB := hide left.base
              clear left
              go_simp
              exact hK _ _ rfl hB.out (Below.refl _ _)
            refine And.intro ?_ ?_
            · -- 17: slot 62 := Op.slice 9 (Operand.tmp 60) none (some (Operand.tmp 61)) none
              refine lstep_run fun fr wf left => ?_
              obtain ⟨x15, e15, r15⟩ := left.slot 67 rfl 15 60 _ rfl rfl (by decide) rfl
              have s15 := Eq.symm (show x15 = .string z from r15)
              subst s15
              obtain ⟨x16, e16, r16⟩ := left.slot 67 rfl 16 61 _ rfl rfl (by decide) rfl
              have s16 := Eq.symm (show x16 = .int .i64 ↑n from r16)
              subst s16
              refine ⟨wanted_none rfl, fun K hK => ?_⟩
              have hB := hide left.base
              clear left
              go_simp
              exact hK _ _ rfl hB.out (Below.refl _ _)
            refine And.intro ?_ ?_
            · -- 18: slot 63 := Op.buildSlice 22 1 #[(0, Operand.tmp 62)]
              refine lstep_run fun fr wf left => ?_
              obtain ⟨x17, e17, r17⟩ := left.slot 67 rfl 17 62 _ rfl rfl (by decide) rfl
              have s17 := Eq.symm (show x17 = .string (z.extract 0 n) from r17)
              subst s17
              refine ⟨wanted_none rfl, fun K hK => ?_⟩
              have hB := hide left.base
              clear left
              go_simp
              exact hK _ _ (slv_new _ _ _ _ rfl) (hB.out.alloc hB.out.size _) (Below.alloc (Below.refl _ _) (Nat.le_refl _) _)
            refine And.intro ?_ ?_
            · -- 19: slot 64 := Op.call { callee := Callee.value (Operand.func 12), args := #[Operand.tmp 63], argTypes :=
              refine lstep_run fun fr wf left => ?_
              obtain ⟨x18, e18, r18⟩ := left.slot 67 rfl 18 63 _ rfl rfl (by decide) rfl
              replace r18 : SlV wf x18 [.string (z.extract 0 n)] := r18
              refine ⟨wanted_none rfl, fun K hK => ?_⟩
              have hB := hide left.base
              clear left
              go_simp
              refine (of_val _ [z.extract 0 n] NZ _ r18 (by simp) (by intro p hp; rw [List.mem_singleton.1 hp]; exact HE.out.2.2.2.2.2.2.2) (HE.out.2.2.1)).mono ?_
              rintro e w' ⟨rfl, hb⟩
              exact hK _ _ rfl (below_next hB.out hb) hb
            refine And.intro ?_ ?_
            · -- 20: slot 65 := Op.binOp BinOp.xor 23 (Operand.tmp 59) (Operand.tmp 64) 23
              refine lstep_run fun fr wf left => ?_
              obtain ⟨x14, e14, r14⟩ := left.slot 67 rfl 14 59 _ rfl rfl (by decide) rfl
              have s14 := Eq.symm (show x14 = .int .u32 (bits .xor .u32 NX NY) from r14)
              subst s14
              obtain ⟨x19, e19, r19⟩ := left.slot 67 rfl 19 64 _ rfl rfl (by decide) rfl
              have s19 := Eq.symm (show x19 = .int .u32 NZ from r19)
              subst s19
              refine ⟨wanted_none rfl, fun K hK => ?_⟩
              have hB := hide left.base
              clear left
              go_simp
              exact hK _ _ rfl hB.out (Below.refl _ _)
            refine And.intro ?_ ?_
            · -- 21: slot 66 := Op.binOp BinOp.eql 23 (Operand.tmp 48) (Operand.tmp 65) 23
              refine lstep_run fun fr wf left => ?_
              obtain ⟨x3, e3, r3⟩ := left.slot 67 rfl 3 48 _ rfl rfl (by decide) rfl
              have s3 := Eq.symm (show x3 = .int .u32 (bits .xor .u32 (bits .xor .u32 NX NY) NZ) from r3)
              subst s3
              obtain ⟨x20, e20, r20⟩ := left.slot 67 rfl 20 65 _ rfl rfl (by decide) rfl
              have s20 := Eq.symm (show x20 = .int .u32 (bits .xor .u32 (bits .xor .u32 NX NY) NZ) from r20)
              subst s20
              refine ⟨wanted_none rfl, fun K hK => ?_⟩
              have hB := hide left.base
              clear left
              go_simp
              exact hK _ _ rfl hB.out (Below.refl _ _)
            refine And.intro ?_ ?_
            · -- 22: slot 6 := Op.assign (Operand.tmp 66)
              refine lstep_run fun fr wf left => ?_
              obtain ⟨x21, e21, r21⟩ := left.slot 67 rfl 21 66 _ rfl rfl (by decide) rfl
              have s21 := Eq.symm (show x21 = .bool true from r21)
              subst s21
              refine ⟨wanted_none rfl, fun K hK => ?_⟩
              have hB := hide left.base
              clear left
              go_simp
              exact hK _ _ rfl hB.out (Below.refl _ _)
            exact trivial
          · intro fr wf hB _ hd hall _
            have hv : fr.tmps.getD 6 undef = .bool true := hall 22 _ rfl (by simp)
          -- REGION 13 END
            refine hrest _ _ (wp_ret ?_)
            exact bodyPost_ret (by rw [results_tmp rfl, hv]) hd ⟨rfl, (HB1.out.trans (HB.out.mono (by rw [HBD.out]; exact HB1.out.size))).trans (hB.mono (Nat.le_trans HB1.out.size HB.out.size))⟩
#print axioms linear_any
end Go.Proofs.Ytholbjclfkdgbaa
