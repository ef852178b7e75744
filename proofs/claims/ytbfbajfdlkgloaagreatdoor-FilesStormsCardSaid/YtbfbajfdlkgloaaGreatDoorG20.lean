/-
  The store of chapter 19 as plain data: what the program's package files answers, over a disk's pure state. No program in sight.
-/
import Derived.Test.YtbfbajfdlkgloaaGreatDoorG14
import Derived.Test.YtbfbajfdlkgloaaGreatDoorG16
import Derived.Test.YtbfbajfdlkgloaaGreatDoorG19

namespace Go.Proofs.YtbfbajfdlkgloaaGreatDoor
open Go Go.RowKit
namespace Fl
/-- The ones of a number. -/
def ones (n : Nat) : Nat := ((List.range 64).map fun j => n / 2 ^ j % 2).sum
/-- How many nodes so many items have. -/
def nodes (n : Nat) : Nat := 2 * n - ones n
def nItems : ByteArray := ⟨#[105, 116, 101, 109, 115]⟩
def nNodes : ByteArray := ⟨#[110, 111, 100, 101, 115]⟩
def nMarks : ByteArray := ⟨#[109, 97, 114, 107, 115]⟩
/-- The store: its strength, where each item's record ends, the chain, whether it is lame. -/
structure St where
  k : Nat
  ends : List Nat
  chain : Nat
  lame : Bool
deriving DecidableEq
def St.fin (s : St) : Nat := s.ends.getLastD 0
def bytesA (d : Dk.St) (name : ByteArray) (off n : Int) : ByteArray × Int :=
  if (Dk.read d name off n).2 = 0 ∨ (Dk.read d name off n).2 = 170 then Dk.read d name off n else (⟨#[]⟩, 190)
/-- Where the item i's record begins. -/
def begins (s : St) (i : Nat) : Nat := if i = 0 then 0 else s.ends.getD (i - 1) 0
def payOf (b : ByteArray) : ByteArray × Int := match Rec.readPayB b with
  | some (it, n) => if n = b.size then (it, 0) else (⟨#[]⟩, 190)
  | none => (⟨#[]⟩, 190)
def itemA (s : St) (d : Dk.St) (i : Nat) : ByteArray × Int :=
  if s.ends.length ≤ i then (⟨#[]⟩, 31)
  else if (bytesA d nItems (begins s i) ((s.ends.getD i 0 : Int) - begins s i)).2 ≠ 0 then (⟨#[]⟩, (bytesA d nItems (begins s i) ((s.ends.getD i 0 : Int) - begins s i)).2)
  else payOf (bytesA d nItems (begins s i) ((s.ends.getD i 0 : Int) - begins s i)).1
def nodeOf (k p : Nat) (b : ByteArray) : ByteArray × Int :=
  if Rec.nodeOk k p b = true then (⟨((bytesOf b).take k).toArray⟩, 0) else (⟨#[]⟩, 190)
def nodeA (s : St) (d : Dk.St) (p : Nat) : ByteArray × Int :=
  if nodes s.ends.length ≤ p then (⟨#[]⟩, 31)
  else if (bytesA d nNodes (40 * p : Nat) 40).2 ≠ 0 then (⟨#[]⟩, (bytesA d nNodes (40 * p : Nat) 40).2)
  else nodeOf s.k p (bytesA d nNodes (40 * p : Nat) 40).1
def checkA (s : St) (item : ByteArray) (made : List ByteArray) : Int :=
  if s.lame = true then 191 else if 1048576 < item.size then 100 else if 65536 ≤ s.ends.length then 101
  else if made.length ≠ nodes (s.ends.length + 1) - nodes s.ends.length then 192
  else if (made.all fun d => decide (d.size = s.k)) = false then 192
  else if 268435456 < s.fin + 8 + item.size then 172 else 0
/-- The nodes' records, from a place on. -/
def recsB (first : Nat) : List ByteArray → List ByteArray
  | [] => []
  | d :: r => Rec.nodeB first d :: recsB (first + 1) r
theorem recsB_len : ∀ (l : List ByteArray) (p : Nat), (recsB p l).length = l.length
  | [], _ => rfl
  | d :: l, p => by unfold recsB; rw [List.length_cons, List.length_cons, recsB_len l]
theorem recsB_get : ∀ (l : List ByteArray) (p i : Nat) (d : ByteArray), l[i]? = some d → (recsB p l)[i]? = some (Rec.nodeB (p + i) d)
  | [], _, i, d, h => by simp at h
  | e :: l, p, 0, d, h => by
    unfold recsB
    simp only [List.getElem?_cons_zero, Option.some.injEq] at h ⊢
    rw [h]; rfl
  | e :: l, p, i + 1, d, h => by
    unfold recsB
    rw [List.getElem?_cons_succ] at h ⊢
    rw [recsB_get l (p + 1) i d h, show p + 1 + i = p + (i + 1) by omega]
def catAll (l : List ByteArray) : ByteArray := Rec.catB ⟨#[]⟩ l
inductive ActV where
  | write (name : ByteArray) (off : Nat) (x : ByteArray)
  | sync (name : ByteArray)
def doV (d : Dk.St) : ActV → Int × Dk.St
  | .write n off x => Dk.writeA d n off x
  | .sync n => Dk.syncA d n
/-- One act behind another, up to the first that errs. -/
def doAll : Dk.St → List ActV → Int × Dk.St
  | d, [] => (0, d)
  | d, a :: r => if (doV d a).1 = 0 then doAll (doV d a).2 r else doV d a
def fin' (s : St) (item : ByteArray) : Nat := s.fin + (Rec.payB item).size
def chain' (s : St) (item : ByteArray) (made : List ByteArray) : Nat := Rec.chainB s.chain (Rec.payB item) (recsB (nodes s.ends.length) made)
def markOfAdd (s : St) (item : ByteArray) (made : List ByteArray) : Rec.Mk := ⟨(s.k : Int), s.ends.length + 1, fin' s item, 40 * nodes (s.ends.length + 1), chain' s item made⟩
def actsOf (s : St) (item : ByteArray) (made : List ByteArray) : List ActV :=
  [.write nItems s.fin (Rec.payB item), .write nNodes (40 * nodes s.ends.length) (catAll (recsB (nodes s.ends.length) made)), .sync nItems, .sync nNodes, .write nMarks (64 * s.ends.length) (Rec.markB (markOfAdd s item made)), .sync nMarks]
def addA (s : St) (d : Dk.St) (item : ByteArray) (made : List ByteArray) : Int × St × Dk.St :=
  if checkA s item made ≠ 0 then (checkA s item made, s, d)
  else if (doAll d (actsOf s item made)).1 ≠ 0 then ((doAll d (actsOf s item made)).1, { s with lame := true }, (doAll d (actsOf s item made)).2)
  else (0, { s with ends := s.ends ++ [fin' s item], chain := chain' s item made }, (doAll d (actsOf s item made)).2)
/-! ### Open -/
def isZero (b : ByteArray) : Bool := (bytesOf b).all (· == 0)
/-- The markers: f are left to be read, acc have been. -/
def markersF (k : Int) (M : ByteArray) : Nat → List Rec.Mk → Option (List Rec.Mk)
  | 0, acc => some acc
  | f + 1, acc =>
    if f = 0 ∧ isZero (M.extract (64 * acc.length) (64 * acc.length + 64)) = true then some acc
    else match Rec.readMarkB (M.extract (64 * acc.length) (64 * acc.length + 64)) with
      | none => none
      | some m => if 65536 ≤ acc.length ∨ m.size ≠ acc.length + 1 ∨ m.k ≠ k ∨ m.items ≤ (acc.getLast?.map (·.items)).getD 0 ∨ m.nodes ≠ 40 * nodes (acc.length + 1) then none else markersF k M f (acc ++ [m])
/-- The records of the nodes from p on, as many as f: read. -/
def madeF (N : ByteArray) (p : Nat) : Nat → List ByteArray
  | 0 => []
  | f + 1 => N.extract (40 * p) (40 * p + 40) :: madeF N (p + 1) f
def madeOk (k : Nat) (N : ByteArray) (p f : Nat) : Bool := (List.range f).all fun j => Rec.nodeOk k (p + j) (N.extract (40 * (p + j)) (40 * (p + j) + 40))
def payOk (b : ByteArray) : Bool := match Rec.readPayB b with
  | some (_, n) => n == b.size
  | none => false
/-- What is held against the files, marker by marker: i have been, up to e, with this chain. -/
def lookF (k : Nat) (A N : ByteArray) : List Rec.Mk → Nat → Nat → Nat → Option Nat
  | [], _, _, c => some c
  | m :: r, i, e, c =>
    if payOk (A.extract e m.items) = false ∨ madeOk k N (nodes i) (nodes (i + 1) - nodes i) = false
      ∨ Rec.chainB c (A.extract e m.items) (madeF N (nodes i) (nodes (i + 1) - nodes i)) ≠ m.chain then none
    else lookF k A N r (i + 1) m.items m.chain
def cutIf (d : Dk.St) (name : ByteArray) (n : Nat) : Int × Dk.St := if (n : Int) < Dk.size d name then Dk.cutA d name n else (0, d)
def settleA (d : Dk.St) (e n : Nat) : Int × Dk.St :=
  if (cutIf d nItems e).1 ≠ 0 then cutIf d nItems e
  else if (cutIf (cutIf d nItems e).2 nNodes (40 * nodes n)).1 ≠ 0 then cutIf (cutIf d nItems e).2 nNodes (40 * nodes n)
  else if (cutIf (cutIf (cutIf d nItems e).2 nNodes (40 * nodes n)).2 nMarks (64 * n)).1 ≠ 0 then cutIf (cutIf (cutIf d nItems e).2 nNodes (40 * nodes n)).2 nMarks (64 * n)
  else doAll (cutIf (cutIf (cutIf d nItems e).2 nNodes (40 * nodes n)).2 nMarks (64 * n)).2 [.sync nItems, .sync nNodes, .sync nMarks]
def tooShort (A N : ByteArray) (ms : List Rec.Mk) : Bool := match ms.getLast? with
  | none => false
  | some m => decide (A.size < m.items ∨ N.size < m.nodes)
def openA (d : Dk.St) (k : Int) : Int × Option St × Dk.St :=
  if k < 1 ∨ 32 < k then (70, none, d) else if d.down = true then (170, none, d)
  else match markersF k (Dk.get d.files nMarks).now ((Dk.get d.files nMarks).now.size / 64) [] with
    | none => (190, none, d)
    | some ms =>
      if tooShort (Dk.get d.files nItems).now (Dk.get d.files nNodes).now ms = true then (190, none, d)
      else match lookF k.toNat (Dk.get d.files nItems).now (Dk.get d.files nNodes).now ms 0 0 0 with
        | none => (190, none, d)
        | some c =>
          let r := settleA d ((ms.map (·.items)).getLastD 0) ms.length
          if r.1 ≠ 0 then (r.1, none, r.2) else (0, some ⟨k.toNat, ms.map (·.items), c, false⟩, r.2)
end Fl
end Go.Proofs.YtbfbajfdlkgloaaGreatDoor

/-
  Of packages num, place, hash and files: Ones, Nodes, Check, nodes.
-/
namespace Go.Proofs.YtbfbajfdlkgloaaGreatDoor
open Go Go.RowKit
namespace Fl
def onesTo (n i : Nat) : Nat := ((List.range i).map fun j => n / 2 ^ j % 2).sum
theorem onesTo_succ (n i : Nat) : onesTo n (i + 1) = onesTo n i + n / 2 ^ i % 2 := by
  unfold onesTo
  rw [List.range_succ, List.map_append, List.sum_append]
  simp
theorem onesTo_le (n : Nat) : ∀ i, onesTo n i ≤ i
  | 0 => Nat.le_refl _
  | i + 1 => by
    rw [onesTo_succ]
    have := onesTo_le n i
    omega
theorem onesTo_le_self (n : Nat) : ∀ i, onesTo n i + n / 2 ^ i ≤ n
  | 0 => by simp [onesTo]
  | i + 1 => by
    rw [onesTo_succ]
    have := onesTo_le_self n i
    have h : n / 2 ^ (i + 1) = n / 2 ^ i / 2 := by rw [Nat.pow_succ, Nat.div_div_eq_div_mul]
    rw [h]
    generalize n / 2 ^ i = q at *
    omega
theorem ones_le (n : Nat) : ones n ≤ n ∧ ones n ≤ 64 := ⟨by have := onesTo_le_self n 64; unfold onesTo at this; unfold ones; omega, onesTo_le n 64⟩
theorem ones_succ (n : Nat) : ∀ i, onesTo (n + 1) i ≤ onesTo n i + 1
  | 0 => by simp [onesTo]
  | i + 1 => by
    -- the first i + 1 digits: by the lowest
    have key : ∀ m j, onesTo m (j + 1) = m % 2 + onesTo (m / 2) j := by
      intro m j
      unfold onesTo
      rw [List.range_succ_eq_map, List.map_cons, List.sum_cons, List.map_map]
      congr 1
      · simp
      · congr 1
        apply List.map_congr_left
        intro a _
        show m / 2 ^ (a + 1) % 2 = m / 2 / 2 ^ a % 2
        rw [Nat.pow_succ, Nat.mul_comm, Nat.div_div_eq_div_mul]
    rw [key, key]
    rcases Nat.mod_two_eq_zero_or_one n with h | h
    · rw [show (n + 1) / 2 = n / 2 by omega]; omega
    · have := ones_succ (n / 2) i
      rw [show (n + 1) / 2 = n / 2 + 1 by omega]; omega
theorem nodes_mono (n : Nat) : nodes n ≤ nodes (n + 1) := by
  have h1 : ones (n + 1) ≤ ones n + 1 := ones_succ n 64
  have h2 := (ones_le n).1
  unfold nodes
  omega
end Fl
theorem shr_nat (x i : Nat) (hx : x < 18446744073709551616) (hi : i < 64) : Op.shift .shr .u64 (x : Int) .i64 (i : Int) = pure (.int .u64 ((x / 2 ^ i : Nat) : Int)) := by
  unfold Op.shift
  rw [if_neg (by omega)]
  show pure (Value.int .u64 ((x : Int).fdiv (2 ^ min ((i : Nat) : Int).toNat 64))) = _
  rw [Int.toNat_natCast, Nat.min_eq_left (Nat.le_of_lt hi)]
  have h2 : ((2 : Int) ^ i) = ((2 ^ i : Nat) : Int) := by simp
  rw [h2, Int.fdiv_eq_ediv_of_nonneg _ (Int.natCast_nonneg _)]
  rfl
theorem and_bit (p : Nat) (hp : p < 18446744073709551616) : bits .and .u64 (p : Int) 1 = ((p % 2 : Nat) : Int) := by
  unfold bits
  rw [IntKind.wrap_u64]
  rw [show (1 : Int) = ((1 : Nat) : Int) from rfl]
  simp only [BitVec.ofInt_natCast]
  show ((BitVec.ofNat 64 p &&& BitVec.ofNat 64 1).toNat : Int) % 18446744073709551616 = _
  have p64 : (2 : Nat) ^ 64 = 18446744073709551616 := rfl
  rw [BitVec.toNat_and, BitVec.toNat_ofNat, BitVec.toNat_ofNat, p64, Nat.mod_eq_of_lt hp, Nat.mod_eq_of_lt (show 1 < 18446744073709551616 by decide)]
  rw [show (1 : Nat) = 2 ^ 1 - 1 from rfl, Nat.and_two_pow_sub_one_eq_mod]
  omega
set_option maxRecDepth 100000 in
theorem ones_any (n : Nat) (w : World) (hn : n < 18446744073709551616) :
    Calls Tryz.prog 92 #[.int .u64 (n : Int)] w fun e w' => e = .returned (.int .i64 (Fl.ones n : Int)) ∧ w' = w := by
  go_enter Tryz.func92, Tryz.ntmps92
  go_wp2_with fail
  go_loopg [3, 5] 64 (fun g v3 v5 wr => ∃ i : Nat, i ≤ 64 ∧ g = 64 - i ∧ v3 = .int .i64 (Fl.onesTo n i : Int) ∧ v5 = .int .i64 i ∧ wr = w)
  case atStart => exact ⟨0, Nat.zero_le _, rfl, rfl, rfl, rfl⟩
  case round =>
    obtain ⟨i, hi, rfl, rfl, rfl, rfl⟩ := hrel
    by_cases hlt : i < 64
    · have hil : (i : Int) < 64 := by omega
      have hsh := shr_nat n i hn hlt
      obtain ⟨y, hy⟩ : ∃ y, y = n / 2 ^ i % 2 := ⟨_, rfl⟩
      have hy1 : y ≤ 1 := by rw [hy]; omega
      have hand : bits .and .u64 ((n : Int) / 2 ^ i) 1 = (y : Int) := by
        have h := and_bit (n / 2 ^ i) (Nat.lt_of_le_of_lt (Nat.div_le_self _ _) hn)
        rw [hy, ← h]
        congr 1
      have hto := Fl.onesTo_le n i
      have hsum := Fl.onesTo_succ n i
      obtain ⟨o, ho⟩ : ∃ o, o = Fl.onesTo n i := ⟨_, rfl⟩
      rw [← ho] at hto hsum
      rw [← hy] at hsum
      rw [← ho]
      have HS := hide hsum
      clear hsum hy ho
      go_wp2_with fail
      go_roundg (64 - (i + 1))
      case measure => omega
      case rel =>
        refine ⟨i + 1, by omega, rfl, ?_, by go_num, rfl⟩
        rw [HS.out]
        go_num
    · obtain rfl : i = 64 := by omega
      go_wp2_with fail
      go_ret
      exact ⟨rfl, rfl⟩
set_option maxRecDepth 100000 in
theorem placeNodes_any (n : Nat) (w : World) (hn : n ≤ 1099511627776) :
    Calls Tryz.prog 43 #[.int .u64 (n : Int)] w fun e w' => e = .returned (.tuple #[.int .u64 (Fl.nodes n : Int), .bool true]) ∧ w' = w := by
  have h1 := (Fl.ones_le n).1
  have h2 := (Fl.ones_le n).2
  have HN := hide (show (Fl.nodes n : Int) = 2 * (n : Int) - Fl.ones n by unfold Fl.nodes; omega)
  have hnn : ¬ (1099511627776 : Int) < n := by omega
  go_enter Tryz.func43, Tryz.ntmps43
  go_wp2_with fail
  refine (ones_any n _ (by omega)).mono ?_
  rintro e w1 ⟨rfl, he⟩
  subst he
  go_wp2_with fail
  go_ret2
  exact ⟨by rw [HN.out]; rfl, rfl⟩
theorem placeNodes_val (n q : Nat) (w : World) (hn : n ≤ 1099511627776) (hq : q = Fl.nodes n) :
    Calls Tryz.prog 43 #[.int .u64 (n : Int)] w fun e w' => e = .returned (.tuple #[.int .u64 (q : Int), .bool true]) ∧ w' = w := by
  rw [hq]; exact placeNodes_any n w hn
theorem nodes_le (n : Nat) : Fl.nodes n ≤ 2 * n := by unfold Fl.nodes; omega
set_option maxRecDepth 100000 in
theorem nodes_val (n q : Nat) (w : World) (hn : n ≤ 1099511627776) (hq : q = Fl.nodes n) :
    Calls Tryz.prog 58 #[.int .i64 (n : Int)] w fun e w' => e = .returned (.int .i64 (q : Int)) ∧ w' = w := by
  have h1 : q ≤ 2 * n := by rw [hq]; exact nodes_le n
  have HQ := hide hq
  clear hq
  go_enter Tryz.func58, Tryz.ntmps58
  go_wp2_with fail
  refine (placeNodes_val n q _ hn HQ.out).mono ?_
  rintro e w1 ⟨rfl, he⟩
  subst he
  go_wp2_with fail
  go_ret
  exact ⟨rfl, rfl⟩
set_option maxRecDepth 100000 in
theorem hashCheck_any (k : Int) (w : World) :
    Calls Tryz.prog 46 #[.int .i64 k] w fun e w' => e = .returned (.int .i64 (if k < 1 ∨ 32 < k then 70 else 0)) ∧ w' = w := by
  go_enter Tryz.func46, Tryz.ntmps46
  by_cases h1 : k < 1
  · rw [if_pos (.inl h1)]
    go_wp2_with fail
    go_ret
    exact ⟨rfl, rfl⟩
  · by_cases h2 : 32 < k
    · rw [if_pos (.inr h2)]
      go_wp2_with fail
      go_ret
      exact ⟨rfl, rfl⟩
    · rw [if_neg (by omega)]
      go_wp2_with fail
      go_ret
      exact ⟨rfl, rfl⟩
end Go.Proofs.YtbfbajfdlkgloaaGreatDoor

/-
  The store's acts on a disk of its three files where no fate lies, in plain Lean. No program in sight.
-/
namespace Go.Proofs.YtbfbajfdlkgloaaGreatDoor
open Go Go.RowKit
namespace Fl
/-- A disk of the three files. -/
def d3 (b : Dk.St) (fi fm fn : Dk.F) (acts : Nat) : Dk.St := { b with files := [(nItems, fi), (nMarks, fm), (nNodes, fn)], acts := acts }
def calm (b : Dk.St) : Prop := b.down = false ∧ b.left = 0
theorem get_items (fi fm fn : Dk.F) : Dk.get [(nItems, fi), (nMarks, fm), (nNodes, fn)] nItems = fi := rfl
theorem get_marks (fi fm fn : Dk.F) : Dk.get [(nItems, fi), (nMarks, fm), (nNodes, fn)] nMarks = fm := rfl
theorem get_nodes (fi fm fn : Dk.F) : Dk.get [(nItems, fi), (nMarks, fm), (nNodes, fn)] nNodes = fn := rfl
theorem put_items (fi fm fn f : Dk.F) : Dk.put [(nItems, fi), (nMarks, fm), (nNodes, fn)] nItems f = [(nItems, f), (nMarks, fm), (nNodes, fn)] := rfl
theorem put_marks (fi fm fn f : Dk.F) : Dk.put [(nItems, fi), (nMarks, fm), (nNodes, fn)] nMarks f = [(nItems, fi), (nMarks, f), (nNodes, fn)] := rfl
theorem put_nodes (fi fm fn f : Dk.F) : Dk.put [(nItems, fi), (nMarks, fm), (nNodes, fn)] nNodes f = [(nItems, fi), (nMarks, fm), (nNodes, f)] := rfl
theorem actC_calm {d : Dk.St} (hl : d.left = 0) (n : ByteArray) (f : Dk.F) : Dk.actC d n f = (0, { d with files := Dk.put d.files n f, acts := d.acts + 1 }) := by
  have hk : Dk.kindNow d = 0 := by unfold Dk.kindNow; rw [hl]; rfl
  unfold Dk.actC Dk.doneF Dk.struck
  rw [hk, hl]
  simp [hl]
theorem sync_calm {d : Dk.St} (h : calm d) (n : ByteArray) : Dk.syncA d n = (0, { d with files := Dk.put d.files n ⟨(Dk.get d.files n).now, (Dk.get d.files n).now⟩, acts := d.acts + 1 }) := by
  unfold Dk.syncA
  rw [if_neg (by rw [h.1]; decide), actC_calm h.2]
theorem write_calm {d : Dk.St} (h : calm d) (n x : ByteArray) (off : Nat) (ho : off = (Dk.get d.files n).now.size) (hx : off + x.size ≤ 268435456) (hu : (Dk.used d.files : Int) + x.size ≤ d.room) (hr : d.room ≤ 9223372036854775807) :
    Dk.writeA d n off x = (0, { d with files := Dk.put d.files n ⟨(Dk.get d.files n).now ++ x, (Dk.get d.files n).was⟩, acts := d.acts + 1 }) := by
  have hover : Dk.over (Dk.get d.files n).now off x = (Dk.get d.files n).now ++ x := by
    unfold Dk.over
    have h1 : (Dk.get d.files n).now.extract 0 off = (Dk.get d.files n).now := by
      apply Rec.bytes_inj
      rw [Rec.bytes_extract, List.drop_zero, List.take_of_length_le (by rw [Rec.bytes_length]; omega)]
    have h2 : (Dk.get d.files n).now.extract (min (off + x.size) (Dk.get d.files n).now.size) (Dk.get d.files n).now.size = ⟨#[]⟩ := by
      apply Rec.bytes_inj
      rw [Rec.bytes_extract, List.drop_of_length_le (by simp [Rec.bytes_length]; omega)]
      rfl
    rw [h1, h2]
    apply Rec.bytes_inj
    rw [Rec.bytes_append, Rec.bytes_append]
    show _ ++ [] = _
    simp
  have hfull : Dk.full d n (off : Int) x = false := by
    unfold Dk.full
    rw [IntWalk.wrap64_in _ (by omega)]
    rw [show decide (d.room < (Dk.used d.files : Int) - (Dk.get d.files n).now.size + off + x.size) = false from decide_eq_false (by omega)]
    simp
  unfold Dk.writeA
  rw [if_neg (by rw [h.1]; decide), if_neg (by omega), hfull, if_neg (by decide), actC_calm h.2, Int.toNat_natCast, hover]
theorem used3 (fi fm fn : Dk.F) : Dk.used [(nItems, fi), (nMarks, fm), (nNodes, fn)] = fi.now.size + (fm.now.size + (fn.now.size + 0)) := rfl
/-- The six acts. -/
theorem six_calm {b : Dk.St} (h : calm b) (A M N P Q R : ByteArray) (acts : Nat) (hA : A.size + P.size ≤ 268435456) (hM : M.size + R.size ≤ 268435456) (hN : N.size + Q.size ≤ 268435456)
    (hu : ((A.size + M.size + N.size + P.size + Q.size + R.size : Nat) : Int) ≤ b.room) (hr : b.room ≤ 9223372036854775807) :
    doAll (d3 b ⟨A, A⟩ ⟨M, M⟩ ⟨N, N⟩ acts) [.write nItems A.size P, .write nNodes N.size Q, .sync nItems, .sync nNodes, .write nMarks M.size R, .sync nMarks]
      = (0, d3 b ⟨A ++ P, A ++ P⟩ ⟨M ++ R, M ++ R⟩ ⟨N ++ Q, N ++ Q⟩ (acts + 6)) := by
  have hc : ∀ fi fm fn a, calm (d3 b fi fm fn a) := fun _ _ _ _ => h
  have w1 : doV (d3 b ⟨A, A⟩ ⟨M, M⟩ ⟨N, N⟩ acts) (.write nItems A.size P) = (0, d3 b ⟨A ++ P, A⟩ ⟨M, M⟩ ⟨N, N⟩ (acts + 1)) :=
    write_calm (hc _ _ _ _) nItems P A.size rfl hA (by show ((Dk.used [(nItems, _), (nMarks, _), (nNodes, _)] : Nat) : Int) + _ ≤ b.room; rw [used3]; dsimp only; omega) hr
  have w2 : doV (d3 b ⟨A ++ P, A⟩ ⟨M, M⟩ ⟨N, N⟩ (acts + 1)) (.write nNodes N.size Q) = (0, d3 b ⟨A ++ P, A⟩ ⟨M, M⟩ ⟨N ++ Q, N⟩ (acts + 2)) :=
    write_calm (hc _ _ _ _) nNodes Q N.size rfl hN (by show ((Dk.used [(nItems, _), (nMarks, _), (nNodes, _)] : Nat) : Int) + _ ≤ b.room; rw [used3]; dsimp only; rw [ByteArray.size_append]; omega) hr
  have w3 : doV (d3 b ⟨A ++ P, A⟩ ⟨M, M⟩ ⟨N ++ Q, N⟩ (acts + 2)) (.sync nItems) = (0, d3 b ⟨A ++ P, A ++ P⟩ ⟨M, M⟩ ⟨N ++ Q, N⟩ (acts + 3)) := sync_calm (hc _ _ _ _) nItems
  have w4 : doV (d3 b ⟨A ++ P, A ++ P⟩ ⟨M, M⟩ ⟨N ++ Q, N⟩ (acts + 3)) (.sync nNodes) = (0, d3 b ⟨A ++ P, A ++ P⟩ ⟨M, M⟩ ⟨N ++ Q, N ++ Q⟩ (acts + 4)) := sync_calm (hc _ _ _ _) nNodes
  have w5 : doV (d3 b ⟨A ++ P, A ++ P⟩ ⟨M, M⟩ ⟨N ++ Q, N ++ Q⟩ (acts + 4)) (.write nMarks M.size R) = (0, d3 b ⟨A ++ P, A ++ P⟩ ⟨M ++ R, M⟩ ⟨N ++ Q, N ++ Q⟩ (acts + 5)) :=
    write_calm (hc _ _ _ _) nMarks R M.size rfl hM (by show ((Dk.used [(nItems, _), (nMarks, _), (nNodes, _)] : Nat) : Int) + _ ≤ b.room; rw [used3]; dsimp only; rw [ByteArray.size_append, ByteArray.size_append]; omega) hr
  have w6 : doV (d3 b ⟨A ++ P, A ++ P⟩ ⟨M ++ R, M⟩ ⟨N ++ Q, N ++ Q⟩ (acts + 5)) (.sync nMarks) = (0, d3 b ⟨A ++ P, A ++ P⟩ ⟨M ++ R, M ++ R⟩ ⟨N ++ Q, N ++ Q⟩ (acts + 6)) := sync_calm (hc _ _ _ _) nMarks
  simp only [doAll, w1, w2, w3, w4, w5, w6, if_true]
end Fl
end Go.Proofs.YtbfbajfdlkgloaaGreatDoor

/-
  A record of which one byte is another one, or that is cut, is not read. No program in sight.
-/
namespace Go.Proofs.YtbfbajfdlkgloaaGreatDoor
namespace Rec
theorem fold_inj (b : List UInt8) : ∀ x y : BitVec 32, Crc.fold x b = Crc.fold y b → x = y := by
  induction b with
  | nil => intro x y h; exact h
  | cons c b ih =>
    intro x y h
    have h2 := ih _ _ h
    have h3 := Crc.stepN_inj 8 h2
    have h4 : (x ^^^ Crc.bv8 c) ^^^ Crc.bv8 c = (y ^^^ Crc.bv8 c) ^^^ Crc.bv8 c := by rw [h3]
    rw [BitVec.xor_assoc, BitVec.xor_self, BitVec.xor_zero, BitVec.xor_assoc, BitVec.xor_self, BitVec.xor_zero] at h4
    exact h4
theorem byteStep_inj {x : BitVec 32} {c d : UInt8} (h : Crc.byteStep x c = Crc.byteStep x d) : c = d := by
  have h3 := Crc.stepN_inj 8 h
  have h4 : x ^^^ (x ^^^ Crc.bv8 c) = x ^^^ (x ^^^ Crc.bv8 d) := by rw [h3]
  rw [← BitVec.xor_assoc, ← BitVec.xor_assoc, BitVec.xor_self, BitVec.zero_xor, BitVec.zero_xor] at h4
  have h5 := congrArg BitVec.toNat h4
  have hc := c.toNat_lt
  have hd := d.toNat_lt
  simp only [Crc.bv8, BitVec.toNat_ofNat] at h5
  apply UInt8.toNat_inj.1
  omega
theorem fold_set {l : List UInt8} {k : Nat} {c : UInt8} (hk : k < l.length) (hc : c ≠ l[k]) (x : BitVec 32) : Crc.fold x (l.set k c) ≠ Crc.fold x l := by
  intro h
  have e1 : l = l.take k ++ l[k] :: l.drop (k + 1) := by
    conv => lhs; rw [← List.take_append_drop k l, List.drop_eq_getElem_cons hk]
  have e2 : l.set k c = l.take k ++ c :: l.drop (k + 1) := by rw [List.set_eq_take_append_cons_drop, if_pos hk]
  rw [e2] at h
  conv at h => rhs; rw [e1]
  unfold Crc.fold at h
  rw [List.foldl_append, List.foldl_append, List.foldl_cons, List.foldl_cons] at h
  exact hc (byteStep_inj (fold_inj _ _ _ h))
theorem big_inj4 {a b : Nat} (ha : a < 4294967296) (hb : b < 4294967296) (h : big a 4 = big b 4) : a = b := by
  have h2 := congrArg small h
  rw [small_big, small_big] at h2
  have p4 : (256 : Nat) ^ 4 = 4294967296 := rfl
  rw [p4] at h2
  omega
/-- A sealed text of which one byte is another one is not sealed. -/
theorem turned_whole (s t : ByteArray) (k : Nat) (c : UInt8) (hs : wholeB s = true) (h4 : 4 ≤ s.size) (hk : k < (bytesOf s).length) (hc : c ≠ (bytesOf s)[k]) (ht : bytesOf t = (bytesOf s).set k c) : wholeB t = false := by
  rw [Bool.eq_false_iff]
  intro hw
  rw [wholeB_iff] at hs hw
  have hsz : t.size = s.size := by rw [← bytes_length, ht, List.length_set, bytes_length]
  have hbs := congrArg bytesOf hs
  have hbt := congrArg bytesOf hw
  rw [bytes_sealB, bytes_extract, List.drop_zero] at hbs hbt
  rw [hsz, ht] at hbt
  rw [bytes_length] at hk
  have hl : (bytesOf s).length = s.size := bytes_length s
  -- the four bytes behind
  have hS : (bytesOf s).drop (s.size - 4) = big (sumB (s.extract 0 (s.size - 4))) 4 := by
    conv => lhs; rw [← hbs]
    rw [drop_left (by simp; omega)]
  have hT : ((bytesOf s).set k c).drop (s.size - 4) = big (sumB (t.extract 0 (s.size - 4))) 4 := by
    conv => lhs; rw [← hbt]
    rw [drop_left (by simp; omega)]
  by_cases hlt : k < s.size - 4
  · rw [List.drop_set_of_lt (by omega), hS] at hT
    have hsum := big_inj4 (sumB_lt _) (sumB_lt _) hT
    unfold sumB at hsum
    have hx : (t.extract 0 (s.size - 4)).data.toList = ((s.extract 0 (s.size - 4)).data.toList).set k c := by
      have e1 := bytes_extract t 0 (s.size - 4)
      have e2 := bytes_extract s 0 (s.size - 4)
      rw [List.drop_zero, ht, List.take_set] at e1
      rw [List.drop_zero] at e2
      show bytesOf (t.extract 0 (s.size - 4)) = (bytesOf (s.extract 0 (s.size - 4))).set k c
      rw [e1, e2]
    rw [hx] at hsum
    have hb := BitVec.eq_of_toNat_eq hsum
    unfold Crc.more at hb
    have hb2 : Crc.fold (~~~0#32) ((s.extract 0 (s.size - 4)).data.toList) = Crc.fold (~~~0#32) (((s.extract 0 (s.size - 4)).data.toList).set k c) := by
      have := congrArg (fun z => ~~~ z) hb
      simpa using this
    have e2 : (s.extract 0 (s.size - 4)).data.toList = (bytesOf s).take (s.size - 4) := by
      have := bytes_extract s 0 (s.size - 4)
      rw [List.drop_zero] at this
      exact this
    rw [e2] at hb2
    exact fold_set (k := k) (by simp; omega) (by rw [List.getElem_take]; exact hc) _ hb2.symm
  · have hx : t.extract 0 (s.size - 4) = s.extract 0 (s.size - 4) := by
      apply bytes_inj
      rw [bytes_extract, bytes_extract, ht, List.take_set_of_le (by omega)]
    rw [hx, ← hS] at hT
    have h5 := congrArg (fun l => l[k - (s.size - 4)]?) hT
    simp only [List.getElem?_drop] at h5
    rw [show s.size - 4 + (k - (s.size - 4)) = k by omega, List.getElem?_set_self (by omega), List.getElem?_eq_getElem (by omega)] at h5
    exact hc (Option.some.inj h5)
theorem payB_seal {item : ByteArray} (h : item.size ≤ 1048576) : payB item = sealB (numB item.size 4 ++ item) := by unfold payB; rw [if_neg (by omega)]
theorem pay_head {item : ByteArray} (h : item.size ≤ 1048576) : (bytesOf (payB item)).take 4 = big item.size 4 := by
  rw [payB_seal h, bytes_sealB, bytes_append, bytes_numB, List.append_assoc, take_left (by rw [big_length])]
theorem readPay_cut {item : ByteArray} (h : item.size ≤ 1048576) {c : Nat} (hc : c < item.size + 8) : readPayB ((payB item).extract 0 c) = none := by
  have hsz : ((payB item).extract 0 c).size = c := by rw [ByteArray.size_extract, payB_size item h]; omega
  unfold readPayB
  by_cases h4 : c < 4
  · rw [if_pos (by omega)]
  · have hk : small (bytesOf (((payB item).extract 0 c).extract 0 4)) = item.size := by
      rw [bytes_extract, bytes_extract, List.drop_zero, List.drop_zero, List.take_take, show min 4 c = 4 by omega, pay_head h, small_big]
      omega
    rw [if_neg (by omega), hk, if_pos (.inr (by omega))]
theorem readPay_turned {item t : ByteArray} (h : item.size ≤ 1048576) {k : Nat} {c : UInt8} (h4 : 4 ≤ k) (hk : k < (bytesOf (payB item)).length) (hc : c ≠ (bytesOf (payB item))[k]) (ht : bytesOf t = (bytesOf (payB item)).set k c) : readPayB t = none := by
  have hw := turned_whole (payB item) t k c (by rw [payB_seal h]; exact whole_seal _) (by rw [payB_size item h]; omega) hk hc ht
  have hts : t.size = item.size + 8 := by rw [← bytes_length, ht, List.length_set, bytes_length, payB_size item h]
  have hsm : small (bytesOf (t.extract 0 4)) = item.size := by
    rw [bytes_extract, List.drop_zero, ht, List.take_set_of_le (by omega), pay_head h, small_big]
    omega
  have hex : t.extract 0 (item.size + 8) = t := by
    apply bytes_inj
    rw [bytes_extract, List.drop_zero, List.take_of_length_le (by rw [bytes_length]; omega)]
  unfold readPayB
  rw [if_neg (by omega), hsm, if_neg (by omega), hex, hw]
  rfl
theorem readNode_err {k : Int} {p : Nat} {s : ByteArray} (h1 : 1 ≤ k) (h2 : k ≤ 32) (h : s.size ≠ 40 ∨ wholeB s = false) : readNodeV k p s = .tuple #[.string ⟨#[]⟩, .int .i64 180] := by
  unfold readNodeV
  rw [if_neg (by omega), if_neg]
  unfold nodeOk
  rcases h with h | h
  · simp [h]
  · simp [h]
theorem readMark_err {s : ByteArray} (h : s.size ≠ 64 ∨ wholeB s = false) : readMarkV s = .tuple #[mkV zeroMk, .int .i64 180] := by
  unfold readMarkV readMarkB
  by_cases h64 : s.size = 64
  · have hw : wholeB s = false := by rcases h with h | h; exact absurd h64 h; exact h
    rw [if_pos h64, if_neg]
    rw [beqB, decide_eq_true_iff]
    intro hm
    by_cases hr : 1 ≤ (markOf s).k ∧ (markOf s).k ≤ 32
    · have : wholeB s = true := by
        rw [← hm]
        unfold markB
        rw [if_neg (by omega)]
        exact whole_seal _
      rw [this] at hw; cases hw
    · have : markB (markOf s) = ⟨#[]⟩ := by unfold markB; rw [if_pos (by omega)]
      rw [this] at hm
      rw [← hm] at h64
      exact absurd h64 (by decide)
  · rw [if_neg h64]
theorem byte_xor (a b : UInt8) : bits .xor .u8 (a.toNat : Int) (b.toNat : Int) = ((a ^^^ b).toNat : Int) := by
  unfold bits
  simp only [BitVec.ofInt_natCast]
  rw [IntKind.wrap_u8]
  show ((BitVec.ofNat 8 a.toNat ^^^ BitVec.ofNat 8 b.toNat).toNat : Int) % 256 = _
  have ha := a.toNat_lt
  have hb := b.toNat_lt
  rw [UInt8.toNat_xor, BitVec.toNat_xor, BitVec.toNat_ofNat, BitVec.toNat_ofNat, Nat.mod_eq_of_lt (by omega), Nat.mod_eq_of_lt (by omega)]
  have := Nat.xor_lt_two_pow (n := 8) ha hb
  omega
theorem xor_ne (a : UInt8) {c : UInt8} (h : c ≠ 0) : a ^^^ c ≠ a := by
  intro e
  apply h
  have := congrArg (fun x => a ^^^ x) e
  simpa [← UInt8.xor_assoc] using this
theorem turned_all {it d' X0 X1 X2 s t : ByteArray} {p i kk : Nat} {m : Mk} {c : UInt8} (h0 : X0 = payB it) (h1 : X1 = nodeB p d') (h2 : X2 = markB m) (hit : it.size ≤ 2000) (hd1 : 1 ≤ d'.size) (hd2 : d'.size ≤ 32) (hk1 : 1 ≤ m.k) (hk2 : m.k ≤ 32)
    (hs : s = [X0, X1, X2].getD i ByteArray.empty) (hkk : kk < s.size) (h8 : 8 ≤ s.size) (hc : c ≠ 0) (ht : bytesOf t = (bytesOf s).set kk ((bytesOf s).getD kk 0 ^^^ c)) :
    (i = 0 → 4 ≤ kk → payV (readPayB t) = .tuple #[.string ⟨#[]⟩, .int .i64 0, .int .i64 180]) ∧ (i = 1 → readNodeV (d'.size : Int) p t = .tuple #[.string ⟨#[]⟩, .int .i64 180]) ∧ (i = 2 → readMarkV t = .tuple #[.agg #[.int .i64 0, .int .u64 0, .int .u64 0, .int .u64 0, .int .u32 0], .int .i64 180]) := by
  have hl : kk < (bytesOf s).length := by rw [bytes_length]; exact hkk
  have hne : (bytesOf s).getD kk 0 ^^^ c ≠ (bytesOf s)[kk] := by
    have e : (bytesOf s).getD kk 0 = (bytesOf s)[kk] := by simp [List.getD, hl]
    rw [e]; exact xor_ne _ hc
  refine ⟨fun hi h4 => ?_, fun hi => ?_, fun hi => ?_⟩
  · subst hi
    have e : s = payB it := hs.trans h0
    subst e
    rw [readPay_turned (by omega) h4 hl hne ht]
    rfl
  · subst hi
    have e : s = nodeB p d' := hs.trans h1
    refine readNode_err (by omega) (by omega) (.inr (turned_whole s t kk _ ?_ (by omega) hl hne ht))
    rw [e, node_body rfl hd2]; exact whole_seal _
  · subst hi
    have e : s = markB m := hs.trans h2
    refine readMark_err (.inr (turned_whole s t kk _ ?_ (by omega) hl hne ht))
    rw [e]; unfold markB; rw [if_neg (by omega)]; exact whole_seal _
end Rec
end Go.Proofs.YtbfbajfdlkgloaaGreatDoor
