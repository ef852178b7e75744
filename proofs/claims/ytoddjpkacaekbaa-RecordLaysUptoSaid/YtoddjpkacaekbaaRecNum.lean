/-
  record.number, record.value: the walks.
-/
import Derived.Test.YtoddjpkacaekbaaProg
import Derived.Test.YtoddjpkacaekbaaRecPure
import Derived.Test.YtoddjpkacaekbaaMem
import Derived.Test.YtoddjpkacaekbaaCrcWalk
import Derived.WalkKit
import Derived.Deep.LoopGhost
import Derived.Deep.Cut
namespace Go.Proofs.Ytoddjpkacaekbaa
open Go.RowKit
theorem info_u8 : (Try.prog.info? 5).map (fun i => (i.zero, i.size, i.bytes)) = some (some (.int .u8 0), 1, 1) := by kernel_rfl
/-- The first i bytes are laid. -/
def laidTo (x n i : Nat) : List Value := ((Rec.big x n).take i).map byteV ++ List.replicate (n - i) (.int .u8 0)
theorem laidTo_length (x n i : Nat) (h : i ≤ n) : (laidTo x n i).length = n := by
  unfold laidTo
  simp [Rec.big_length]; omega
theorem laidTo_set (x n i : Nat) (h : i < n) : (laidTo x n i).set i (byteV (UInt8.ofNat (x / 256 ^ (n - 1 - i)))) = laidTo x n (i + 1) := by
  have hl : (((Rec.big x n).take i).map byteV).length = i := by simp [Rec.big_length]; omega
  unfold laidTo
  rw [List.set_append_right _ _ (by omega), hl, Nat.sub_self]
  obtain ⟨m, hm⟩ : ∃ m, n - i = m + 1 := ⟨n - i - 1, by omega⟩
  rw [hm, show n - (i + 1) = m by omega, List.replicate_succ, List.set_cons_zero]
  have hg := Rec.big_get x n i h
  have hlt : i < (Rec.big x n).length := by rw [Rec.big_length]; exact h
  rw [List.take_succ_eq_append_getElem hlt, List.map_append, List.append_assoc]
  congr 1
  rw [← hg]
  simp [List.getD, hlt]
theorem laidTo_all (x n : Nat) : laidTo x n n = (Rec.big x n).map byteV := by
  unfold laidTo
  rw [Nat.sub_self, List.replicate_zero, List.append_nil, List.take_of_length_le (by rw [Rec.big_length]; exact Nat.le_refl _)]
theorem shr_bytes (x n i : Nat) (hx : x < 18446744073709551616) (hin : i < n) : Op.shift .shr .u64 (x : Int) .i64 (8 * ((n : Int) - 1 - i)) = pure (.int .u64 ((x / 256 ^ (n - 1 - i) : Nat) : Int)) := by
  have hy : (8 * ((n : Int) - 1 - i)) = ((8 * (n - 1 - i) : Nat) : Int) := by omega
  rw [hy]
  generalize n - 1 - i = m
  unfold Op.shift
  rw [if_neg (by omega)]
  show pure (Value.int .u64 ((x : Int).fdiv (2 ^ min ((8 * m : Nat) : Int).toNat 64))) = _
  rw [Int.toNat_natCast]
  have h2 : ((2 : Int) ^ min (8 * m) 64) = ((2 ^ min (8 * m) 64 : Nat) : Int) := by simp
  have h3 : (x : Int).fdiv ((2 ^ min (8 * m) 64 : Nat) : Int) = ((x / 2 ^ min (8 * m) 64 : Nat) : Int) := by
    rw [Int.fdiv_eq_ediv_of_nonneg _ (Int.natCast_nonneg _)]; rfl
  rw [h2, h3]
  congr 3
  have h4 : 256 ^ m = 2 ^ (8 * m) := by rw [Nat.pow_mul]
  rw [h4]
  rcases Nat.lt_or_ge (8 * m) 64 with h | h
  · rw [Nat.min_eq_left (Nat.le_of_lt h)]
  · rw [Nat.min_eq_right h, Nat.div_eq_of_lt (show x < 2 ^ 64 from hx), Nat.div_eq_of_lt (show x < 2 ^ (8 * m) from Nat.lt_of_lt_of_le hx (Nat.pow_le_pow_right (show 0 < 2 by decide) h))]
theorem byte_of (x m : Nat) : Value.int .u8 ((x : Int) / 256 ^ m % 256) = byteV (UInt8.ofNat (x / 256 ^ m)) := by
  unfold byteV
  rw [UInt8.toNat_ofNat']
  have h : (256 : Int) ^ m = ((256 ^ m : Nat) : Int) := by simp
  rw [h]
  rfl
theorem or_byte (x : Nat) (c : UInt8) (hx : x < 2 ^ 56) : bits .or .u64 ((x : Int) * 256) (c.toNat : Int) = ((x * 256 + c.toNat : Nat) : Int) := by
  have hc := c.toNat_lt
  have p64 : (2 : Nat) ^ 64 = 18446744073709551616 := rfl
  have hx : x < 72057594037927936 := hx
  unfold bits
  rw [IntKind.wrap_u64]
  have e1 : ((x : Int) * 256) = ((x * 256 : Nat) : Int) := by omega
  rw [e1]
  simp only [BitVec.ofInt_natCast]
  show ((BitVec.ofNat 64 (x * 256) ||| BitVec.ofNat 64 c.toNat).toNat : Int) % 18446744073709551616 = _
  rw [BitVec.toNat_or, BitVec.toNat_ofNat, BitVec.toNat_ofNat, p64, Nat.mod_eq_of_lt (show x * 256 < 18446744073709551616 by omega), Nat.mod_eq_of_lt (show c.toNat < 18446744073709551616 by omega)]
  have h2 := Nat.two_pow_add_eq_or_of_lt (i := 8) (b := c.toNat) (by omega) x
  rw [show x * 256 = 2 ^ 8 * x by omega, ← h2]
  omega
theorem pow256_le {i : Nat} (h : i ≤ 7) : 256 ^ i ≤ 2 ^ 56 := by
  have : 256 ^ i ≤ 256 ^ 7 := Nat.pow_le_pow_right (by decide) h
  omega
set_option maxHeartbeats 1600000 in
set_option maxRecDepth 100000 in
theorem number_any (x n : Nat) (w : World) (hx : x < 18446744073709551616) (hn : n ≤ 1000) :
    Calls Try.prog 27 #[.int .u64 (x : Int), .int .i64 (n : Int)] w fun e w' => e = .returned (.string (Rec.numB x n)) ∧ Below w.heap.size w w' := by
  go_enter Try.func27, Try.ntmps27
  go_wp2_with (at_make; refine wpList_make_arr rfl _ _ 44 rfl 5 _ 1 Try.underlying44 info_u8 rfl .i64 .i64 _ _ n rfl rfl rfl rfl ?_ ?_ ?_)
  · omega
  · unfold maxLen; omega
  · intro w1 HA hb1
    have HB := hide hb1
    clear hb1
    go_wp2_with fail
    go_loopg [11] n (fun g v11 wr => ∃ i : Nat, i ≤ n ∧ g = n - i ∧ v11 = .int .i64 i ∧ Hid (Arr wr w.heap.size 5 (laidTo x n i) ∧ Below w.heap.size w wr))
    case atStart => exact ⟨0, by omega, rfl, rfl, HA.out, HB.out⟩
    case round =>
      obtain ⟨i, hi, rfl, rfl, HR⟩ := hrel
      by_cases hin : i < n
      · have hc := HR.out.1.cell i (by rw [laidTo_length _ _ _ hi]; exact hin)
        have hf := HR.out.1.frozen i (by rw [laidTo_length _ _ _ hi]; exact hin)
        generalize (laidTo x n i).getD i undef = was at hc
        have hsh := shr_bytes x n i hx hin
        go_wp2
        go_roundg (n - (i + 1))
        case measure => omega
        case rel =>
          refine ⟨i + 1, by omega, rfl, by go_num, ?_, HR.out.2.setCell (Nat.le_refl _) _⟩
          have h := HR.out.1.set i (by rw [laidTo_length _ _ _ hi]; exact hin) (byteV (UInt8.ofNat (x / 256 ^ (n - 1 - i))))
          rw [laidTo_set x n i hin] at h
          rw [byte_of]
          exact h
      · have hi' : i = n := by omega
        subst hi'
        have hs := HR.out.1.slv (n := i) (cap := i) (laidTo_length x i i (Nat.le_refl _)).symm (Nat.le_refl _)
        rw [laidTo_all] at hs
        have hcs := run_bytes_string (P := Try.prog) (w := wr) 44 9 5 Try.underlying44 Try.underlying5 Try.underlying9 hs
        have HB2 := hide HR.out.2
        clear hs HR
        go_wp2
        go_ret
        exact ⟨rfl, HB2.out⟩
set_option maxHeartbeats 1600000 in
set_option maxRecDepth 100000 in
theorem value_same (v : Value) (l : List UInt8) (w : World) (hv : SlV w v (l.map byteV)) (hl : l.length ≤ 8) :
    Calls Try.prog 23 #[v] w fun e w' => e = .returned (.int .u64 (Rec.small l : Int)) ∧ w' = w := by
  obtain ⟨len, a, cap, hlen, rfl, hcap, hf⟩ := hv.form
  rw [List.length_map] at hlen
  have HL := hide hlen
  have hl8 : len ≤ 8 := by omega
  have HF := hide hf
  clear hv hf hlen
  go_enter Try.func23, Try.ntmps23
  go_wp2
  go_loopg [3, 8] len (fun g v3 v8 wr => wr = w ∧ ∃ (i : Nat) (xi : Nat), i ≤ len ∧ g = len - i ∧ v8 = .int .i64 i ∧ v3 = .int .u64 xi ∧ Hid (xi = Rec.small (l.take i)))
  case atStart => exact ⟨rfl, 0, 0, by omega, rfl, rfl, rfl, rfl⟩
  case round =>
    obtain ⟨rfl, i, xi, hi, rfl, rfl, rfl, HX⟩ := hrel
    by_cases hin : i < len
    · obtain ⟨b, off, rfl, hb, hcell⟩ := HF.out i hin
      have hil : i < l.length := by rw [← HL.out]; exact hin
      rw [getD_map _ _ _ 0 hil] at hcell
      obtain ⟨c, hc⟩ : ∃ c, c = l.getD i 0 := ⟨_, rfl⟩
      rw [← hc] at hcell
      unfold byteV at hcell
      have hx : xi < 2 ^ 56 := by
        rw [HX.out]
        have h1 := Rec.small_lt (l.take i)
        rw [List.length_take_of_le (by omega)] at h1
        exact Nat.lt_of_lt_of_le h1 (pow256_le (by omega))
      have HOR := or_byte xi c hx
      have hx2 : (xi : Int) < 72057594037927936 := by omega
      clear hx
      have HC := hide hc
      clear hc
      go_wp2
      go_roundg (len - (i + 1))
      case measure => omega
      case rel =>
        refine ⟨rfl, i + 1, xi * 256 + c.toNat, by omega, rfl, by go_num, by rw [show IntKind.u64.wrap (c.toNat : Int) = c.toNat by rw [IntKind.wrap_u64]; have := c.toNat_lt; omega, HOR], ?_⟩
        unfold Hid
        rw [List.take_succ_eq_append_getElem hil, Rec.small_snoc, ← HX.out, HC.out]
        simp [List.getD, hil]
    · have hi' : i = len := by omega
      subst hi'
      go_wp2
      go_ret
      refine ⟨congrArg (fun z : Nat => Ending.returned (.int .u64 (z : Int))) (a₁ := xi) ?_, rfl⟩
      rw [HX.out, List.take_of_length_le (by rw [← HL.out]; exact Nat.le_refl _)]
theorem value_any (v : Value) (l : List UInt8) (w : World) (hv : SlV w v (l.map byteV)) (hl : l.length ≤ 8) :
    Calls Try.prog 23 #[v] w fun e w' => e = .returned (.int .u64 (Rec.small l : Int)) ∧ Below w.heap.size w w' :=
  (value_same v l w hv hl).mono fun _ _ ⟨h1, h2⟩ => ⟨h1, h2 ▸ Below.refl _ _⟩
theorem value_val (v : Value) (l : List UInt8) (n : Nat) (w : World) (hv : SlV w v (l.map byteV)) (hl : l.length ≤ 8) (hn : n = Rec.small l) :
    Calls Try.prog 23 #[v] w fun e w' => e = .returned (.int .u64 (n : Int)) ∧ w' = w := by
  rw [hn]; exact value_same v l w hv hl
#print axioms value_any
end Go.Proofs.Ytoddjpkacaekbaa
