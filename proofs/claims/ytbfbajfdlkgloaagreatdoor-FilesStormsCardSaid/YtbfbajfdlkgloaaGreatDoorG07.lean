/-
  make and copy upon an array of the call's own. No program in sight.
-/
import Derived.Test.YtbfbajfdlkgloaaGreatDoorG00
import Derived.OwnWalk
import Derived.Laws.IdiomCopy
import Derived.Test.YtbfbajfdlkgloaaGreatDoorG06

namespace Go.Proofs.YtbfbajfdlkgloaaGreatDoor
open Go.RowKit
theorem arr_of_owns_at {w : World} {base e g n cap : Nat} {xs : List Value} (h : w.ownsRow base e 1 (.slice (some ⟨g, 0, none⟩) n cap) n xs) : n ≤ cap ∧ Arr w g e xs := by
  obtain ⟨hl, h2⟩ := h
  rw [Nat.mul_one] at hl
  rcases h2 with ⟨h3, _⟩ | ⟨g', cap', cur, hv, hg, hh, hc, hm, hs, hx⟩
  · injection h3 with h4; cases h4
  · injection hv with e1 e2 e3
    injection e1 with e4
    injection e4 with e5
    subst e5; subst e3
    refine ⟨hc, cur, 0, 0, hh, .inr rfl, by rw [hl, hs]; omega, ?_⟩
    rw [hl]; rw [Nat.mul_one] at hx; exact hx
/-- make([]T, n), one cell an element: an array of zeros. -/
theorem wpList_make_arr {P : Program} {w : World} {ops : Array Oper} {rest : List Oper} {o : Oper} {a : Act} {Q : Exit → Act → World → Prop}
    (hg : o.guard = none) (l c : Operand) (t : TypeId) (hop : o.op = Op.makeSlice t l c)
    (e : TypeId) (z : Value) (bytes : Nat) (h1 : P.underlying t = some (.slice e)) (hi : (P.info? e).map (fun i => (i.zero, i.size, i.bytes)) = some (some z, 1, bytes)) (hzc : z.cells = #[z])
    (kl kc : IntKind) (L C : Int) (n : Nat) (hl : a.eval l = .int kl L) (hc : a.eval c = .int kc C) (hL : L = (n : Int)) (hC : C = (n : Int)) (b2 : bytes * n ≤ 281474976710656) (b3 : n ≤ maxLen)
    (hK : ∀ w', Hid (Arr w' w.heap.size e (List.replicate n z)) → Below w.heap.size w w' → wpList P ops Q rest (a.put o.dst (.slice (some ⟨w.heap.size, 0, none⟩) n n)) w') :
    wpList P ops Q (o :: rest) a w := by
  obtain ⟨i, hi, hz0, hz1, hz2⟩ := info_parts hi
  refine wpList_make_full w hg l c t hop w.heap.size e i z 1 h1 hi hz0 hz1 kl kc L C n hl hc hL hC (by rw [hz2]; exact b2) b3 (Nat.le_refl _) fun w' hown hgr => ?_
  rw [Nat.mul_one, hzc, toList_madeCells_one] at hown
  exact hK w' (arr_of_owns_at hown).2 ((Below.refl _ _).grown hgr (Nat.le_refl _) (fun k hk => by cases hk))
theorem Arr.setCells {e g : Nat} : ∀ (vs : List Value) {w : World} {xs : List Value} (o : Nat) (_h : Arr w g e xs) (_ho : o + vs.length ≤ xs.length), Arr (w.setCells g o vs) g e (xs.take o ++ vs ++ xs.drop (o + vs.length))
  | [], w, xs, o, h, ho => by simpa [World.setCells] using h
  | v :: vs, w, xs, o, h, ho => by
    have hlt : o < xs.length := by simp at ho; omega
    have := Arr.setCells vs (o + 1) (h.set o hlt v) (by simp at ho ⊢; omega)
    rw [World.setCells]
    have e1 : (xs.set o v).take (o + 1) = xs.take o ++ [v] := by
      rw [List.take_succ_eq_append_getElem (by simpa using hlt)]
      simp [List.take_set_of_le]
    have e2 : (xs.set o v).drop (o + 1 + vs.length) = xs.drop (o + (v :: vs).length) := by
      rw [List.drop_set_of_lt (by omega)]
      congr 1
      simp; omega
    rw [e1, e2] at this
    simpa using this
theorem below_setCells {B g : Nat} {w0 : World} (hB : B ≤ g) : ∀ (vs : List Value) (o : Nat) (w : World), Below B w0 w → Below B w0 (w.setCells g o vs)
  | [], _, _, h => h
  | v :: vs, o, w, h => below_setCells hB vs (o + 1) _ (h.setCell hB v)
/-- The bytes of a text over an array's first cells. -/
theorem run_copy_string {P : Program} (w : World) (dT sT ty elem : TypeId) (g dLen dCap : Nat) (s : ByteArray) (xs : List Value) (e : TypeId)
    (hu : P.underlying dT = some (.slice elem)) (hs : (P.info? elem).map (·.size) = some 1) (harr : Arr w g e xs) (hfit : s.size ≤ xs.length) (hd : s.size ≤ dLen) :
    (Builtin.copy_ #[dT, sT] ty #[.slice (some ⟨g, 0, none⟩) dLen dCap, .string s]).run P w = .ok (goInt s.size) (w.setCells g 0 ((bytesOf s).map byteV)) := by
  have hl : ((bytesOf s).map byteV).length = s.size := by simp [bytesOf]
  have hst := run_storeCells_cells (P := P) g 0 ((bytesOf s).map byteV) 0 w (fun j hj => by
      rw [Nat.zero_add, harr.cell j (by omega)]; rfl) (fun j hj => by
      rw [Nat.zero_add, harr.frozen j (by omega)]) (by simp [byteV, Value.oneCell'])
  cases hq : P.info? elem with
  | none => simp [hq] at hs
  | some i =>
    have hi : i.size = 1 := by simpa [hq] using hs
    have hmin : Nat.min s.size dLen = s.size := Nat.min_eq_left hd
    have hcs : (((s.extract 0 s.size).data.map fun b => Value.int .u8 b.toNat)).toList = (bytesOf s).map byteV := by
      have : s.extract 0 s.size = s := by simp
      rw [this]
      simp [bytesOf, byteV]
    have hmin' : min s.size dLen = s.size := hmin
    simp [Builtin.copy_, run_underlying hu, Builtin.lenOf, Builtin.firstCells, sizeOf, typeInfo, hq, hi, hmin', hmin]
    have hcs2 : List.take s.size (List.map (fun b => Value.int .u8 ↑b.toNat) s.data.toList) = List.map byteV (bytesOf s) := by
      rw [List.take_of_length_le (by simp)]; simp [bytesOf, byteV]
    rw [hcs2, hst]
    rfl
theorem copied_all {s : ByteArray} {n : Nat} {z : Value} (_h : s.size ≤ n) : (List.replicate n z).take 0 ++ (bytesOf s).map byteV ++ (List.replicate n z).drop (0 + ((bytesOf s).map byteV).length) = (bytesOf s).map byteV ++ List.replicate (n - s.size) z := by
  simp [bytesOf]
/-- A uint64 is a number below 2^64. -/
theorem u64_nat {a : Int} (h : (Lit.int .u64 a).wf = true) : ∃ n : Nat, a = (n : Int) ∧ n < 18446744073709551616 := by
  have h2 : IntKind.u64.min ≤ a ∧ a ≤ IntKind.u64.max := by simpa [Lit.wf] using h
  have h3 : 0 ≤ a ∧ a ≤ 18446744073709551615 := h2
  exact ⟨a.toNat, by omega, by omega⟩
theorem u32_nat {a : Int} (h : (Lit.int .u32 a).wf = true) : ∃ n : Nat, a = (n : Int) ∧ n < 4294967296 := by
  have h2 : IntKind.u32.min ≤ a ∧ a ≤ IntKind.u32.max := by simpa [Lit.wf] using h
  have h3 : 0 ≤ a ∧ a ≤ 4294967295 := h2
  exact ⟨a.toNat, by omega, by omega⟩
end Go.Proofs.YtbfbajfdlkgloaaGreatDoor

/-
  The program's disk: a sector of a text, with zero bytes for what lacks.
-/
namespace Go.Proofs.YtbfbajfdlkgloaaGreatDoor
open Go Go.RowKit Go.Maps
theorem dk_u8 : (Tryz.prog.info? 5).map (fun i => (i.zero, i.size, i.bytes)) = some (some (.int .u8 0), 1, 1) := by kernel_rfl
namespace Dk
def zeros (n : Nat) : ByteArray := ⟨(List.replicate n (0 : UInt8)).toArray⟩
theorem zeros_size (n : Nat) : (zeros n).size = n := by show (List.replicate n (0 : UInt8)).toArray.size = n; simp
def part (s : ByteArray) (k e : Nat) : ByteArray := s.extract (k * 64) (min (min ((k + 1) * 64) e) s.size)
def sector (s : ByteArray) (k e : Nat) : ByteArray := part s k e ++ zeros (min ((k + 1) * 64) e - k * 64 - (part s k e).size)
end Dk
set_option maxHeartbeats 1600000 in
set_option maxRecDepth 100000 in
theorem sector_any (s : ByteArray) (k e : Nat) (w : World) (hs : s.size ≤ 268435456) (he : e ≤ 268435456) (hk : k * 64 < e) :
    Calls Tryz.prog 52 #[.string s, .int .i64 (k : Int), .int .i64 (e : Int)] w fun r w' => r = .returned (.string (Dk.sector s k e)) ∧ Below w.heap.size w w' := by
  go_enter Tryz.func52, Tryz.ntmps52
  obtain ⟨tt, hto⟩ : ∃ t, t = min ((k + 1) * 64) e := ⟨_, rfl⟩
  have htoi : min (((k : Int) + 1) * 64) (e : Int) = (tt : Int) := by omega
  obtain ⟨lo, hlo⟩ : ∃ t, t = k * 64 := ⟨_, rfl⟩
  have hloi : (k : Int) * 64 = (lo : Int) := by omega
  have hlt : lo < tt := by omega
  have htt : tt ≤ 268435456 := by omega
  obtain ⟨m, hm⟩ : ∃ m, m = min tt s.size := ⟨_, rfl⟩
  have hmi : min (tt : Int) (s.size : Int) = (m : Int) := by omega
  obtain ⟨P, hP⟩ : ∃ P, P = s.extract lo m := ⟨_, rfl⟩
  have hPs : P.size ≤ tt - lo := by rw [hP, ByteArray.size_extract]; omega
  have hPP : Dk.part s k e = P := by unfold Dk.part; rw [hP, hm, hto, hlo]
  obtain ⟨z, hz⟩ : ∃ z, z = tt - lo - P.size := ⟨_, rfl⟩
  have hzi : (tt : Int) - (lo : Int) - (P.size : Int) = (z : Int) := by omega
  have HR := hide (show Dk.sector s k e = P ++ Dk.zeros z by unfold Dk.sector; rw [hPP, hz, hto, hlo])
  have hz47 : z ≤ 268435456 := by omega
  have HPX := hide hP
  have HMI := hide (And.intro hmi hzi)
  have HLT := hide (And.intro hlt (And.intro htt (And.intro hm (And.intro hPs (And.intro hz hz47)))))
  clear hmi hzi hlt htt hm hPs hz hz47 hPP hP hto hlo
  go_upto_region 3 with (fail)
  clear htoi hloi hk he
  obtain ⟨hlt, htt, hm, hPs, hz, hz47⟩ := HLT.out
  obtain ⟨hmi, hzi⟩ := HMI.out
  have hml : lo < s.size → lo ≤ m := fun h => by omega
  have hms : m ≤ s.size := by omega
  have hP0 : ¬ lo < s.size → P = ⟨#[]⟩ := fun h => by
    have h1 : P.size = 0 := by rw [HPX.out, ByteArray.size_extract]; omega
    exact ByteArray.size_eq_zero_iff.1 h1
  have hz2 : z ≤ tt := by omega
  clear hm hz
  obtain ⟨g, hg⟩ : ∃ g : Bool, g = decide (lo < s.size) := ⟨_, rfl⟩
  have HG := hide hg
  clear hg
  go_cut [20] from 17 to 21 (fun v20 wx => wx = w ∧ v20 = .bool g)
  case first =>
    go_wp2_with fail
    go_meet
    case rel => exact ⟨rfl, by rw [HG.out]⟩
  obtain ⟨rfl, rfl⟩ := hcut
  go_upto_if 20 with (fail)
  go_cut [9] from 21 to 28 (fun v9 wx => wx = wc ∧ v9 = .string P)
  case first =>
    cases g with
    | true =>
      have h0 := of_decide_eq_true HG.out.symm
      have hlm := hml h0
      have hsl := fun u => run_slice_string (P := Tryz.prog) u 9 s .i64 .i64 (lo : Int) (m : Int) Tryz.underlying9 (by omega) (by omega) (by omega)
      go_wp2_with fail
      go_meet
      case rel => exact ⟨rfl, by rw [HPX.out]⟩
    | false =>
      have hPe : P = ⟨#[]⟩ := hP0 (of_decide_eq_false HG.out.symm)
      subst hPe
      go_wp2_with fail
      go_meet
      case rel => exact ⟨rfl, rfl⟩
  case rest =>
    obtain ⟨rfl, rfl⟩ := hcut
    have hsum : P.size + z ≤ 9223372036854775807 := by omega
    clear hml hP0 hmi HPX HMI HLT
    go_wp2_with (at_make; refine wpList_make_arr rfl _ _ 46 rfl 5 _ 1 Tryz.underlying46 dk_u8 rfl .i64 .i64 _ _ z rfl rfl ?_ ?_ ?_ ?_ ?_)
    · omega
    · omega
    · omega
    · unfold maxLen; omega
    · intro w1 HA hb1
      have HB := hide hb1
      clear hb1
      have hs2 := HA.out.slv (n := z) (cap := z) (by simp) (Nat.le_refl _)
      rw [show List.replicate z (Value.int .u8 0) = (List.replicate z (0 : UInt8)).map byteV by rw [List.map_replicate]; rfl] at hs2
      have hcs := run_bytes_string (P := Tryz.prog) (w := w1) 46 9 5 Tryz.underlying46 Tryz.underlying5 Tryz.underlying9 hs2
      go_wp2_with fail
      go_ret
      refine ⟨?_, HB.out⟩
      rw [HR.out]
      unfold Dk.zeros
      rw [List.toArray_replicate]
      rfl
end Go.Proofs.YtbfbajfdlkgloaaGreatDoor
