/-
  make and copy upon an array of the call's own. No program in sight.
-/
import Derived.Test.YtiiblpgiafbaoaaArr
import Derived.OwnWalk
import Derived.Laws.IdiomCopy
namespace Go.Proofs.Ytiiblpgiafbaoaa
open Go.RowKit
theorem arr_of_owns_at {w : World} {base e g n cap : Nat} {xs : List Value} (h : w.ownsRow base e 1 (.slice (some ⟨g, 0, none⟩) n cap) n xs) : n ≤ cap ∧ Arr w g e xs := by
  obtain ⟨hl, h2⟩ := h
  rw [Nat.mul_one] at hl
  rcases h2 with ⟨h3, _⟩ | ⟨g', cap', cur, hv, hg, hh, hc, hm, hs, hx⟩
  · injection h3 with h4; cases h4
  · injection hv with e1 e2 e3
    injection e1 with e4
    injection e4 with e5
    subst e5; subst e3
    refine ⟨hc, cur, 0, 0, hh, .inr rfl, by rw [hl, hs]; omega, ?_⟩
    rw [hl]; rw [Nat.mul_one] at hx; exact hx
/-- make([]T, n), one cell an element: an array of zeros. -/
theorem wpList_make_arr {P : Program} {w : World} {ops : Array Oper} {rest : List Oper} {o : Oper} {a : Act} {Q : Exit → Act → World → Prop}
    (hg : o.guard = none) (l c : Operand) (t : TypeId) (hop : o.op = Op.makeSlice t l c)
    (e : TypeId) (z : Value) (bytes : Nat) (h1 : P.underlying t = some (.slice e)) (hi : (P.info? e).map (fun i => (i.zero, i.size, i.bytes)) = some (some z, 1, bytes)) (hzc : z.cells = #[z])
    (kl kc : IntKind) (L C : Int) (n : Nat) (hl : a.eval l = .int kl L) (hc : a.eval c = .int kc C) (hL : L = (n : Int)) (hC : C = (n : Int)) (b2 : bytes * n ≤ 281474976710656) (b3 : n ≤ maxLen)
    (hK : ∀ w', Hid (Arr w' w.heap.size e (List.replicate n z)) → Below w.heap.size w w' → wpList P ops Q rest (a.put o.dst (.slice (some ⟨w.heap.size, 0, none⟩) n n)) w') :
    wpList P ops Q (o :: rest) a w := by
  obtain ⟨i, hi, hz0, hz1, hz2⟩ := info_parts hi
  refine wpList_make_full w hg l c t hop w.heap.size e i z 1 h1 hi hz0 hz1 kl kc L C n hl hc hL hC (by rw [hz2]; exact b2) b3 (Nat.le_refl _) fun w' hown hgr => ?_
  rw [Nat.mul_one, hzc, toList_madeCells_one] at hown
  exact hK w' (arr_of_owns_at hown).2 ((Below.refl _ _).grown hgr (Nat.le_refl _) (fun k hk => by cases hk))
theorem Arr.setCells {e g : Nat} : ∀ (vs : List Value) {w : World} {xs : List Value} (o : Nat) (_h : Arr w g e xs) (_ho : o + vs.length ≤ xs.length), Arr (w.setCells g o vs) g e (xs.take o ++ vs ++ xs.drop (o + vs.length))
  | [], w, xs, o, h, ho => by simpa [World.setCells] using h
  | v :: vs, w, xs, o, h, ho => by
    have hlt : o < xs.length := by simp at ho; omega
    have := Arr.setCells vs (o + 1) (h.set o hlt v) (by simp at ho ⊢; omega)
    rw [World.setCells]
    have e1 : (xs.set o v).take (o + 1) = xs.take o ++ [v] := by
      rw [List.take_succ_eq_append_getElem (by simpa using hlt)]
      simp [List.take_set_of_le]
    have e2 : (xs.set o v).drop (o + 1 + vs.length) = xs.drop (o + (v :: vs).length) := by
      rw [List.drop_set_of_lt (by omega)]
      congr 1
      simp; omega
    rw [e1, e2] at this
    simpa using this
theorem below_setCells {B g : Nat} {w0 : World} (hB : B ≤ g) : ∀ (vs : List Value) (o : Nat) (w : World), Below B w0 w → Below B w0 (w.setCells g o vs)
  | [], _, _, h => h
  | v :: vs, o, w, h => below_setCells hB vs (o + 1) _ (h.setCell hB v)
/-- The bytes of a text over an array's first cells. -/
theorem run_copy_string {P : Program} (w : World) (dT sT ty elem : TypeId) (g dLen dCap : Nat) (s : ByteArray) (xs : List Value) (e : TypeId)
    (hu : P.underlying dT = some (.slice elem)) (hs : (P.info? elem).map (·.size) = some 1) (harr : Arr w g e xs) (hfit : s.size ≤ xs.length) (hd : s.size ≤ dLen) :
    (Builtin.copy_ #[dT, sT] ty #[.slice (some ⟨g, 0, none⟩) dLen dCap, .string s]).run P w = .ok (goInt s.size) (w.setCells g 0 ((bytesOf s).map byteV)) := by
  have hl : ((bytesOf s).map byteV).length = s.size := by simp [bytesOf]
  have hst := run_storeCells_cells (P := P) g 0 ((bytesOf s).map byteV) 0 w (fun j hj => by
      rw [Nat.zero_add, harr.cell j (by omega)]; rfl) (fun j hj => by
      rw [Nat.zero_add, harr.frozen j (by omega)]) (by simp [byteV, Value.oneCell'])
  cases hq : P.info? elem with
  | none => simp [hq] at hs
  | some i =>
    have hi : i.size = 1 := by simpa [hq] using hs
    have hmin : Nat.min s.size dLen = s.size := Nat.min_eq_left hd
    have hcs : (((s.extract 0 s.size).data.map fun b => Value.int .u8 b.toNat)).toList = (bytesOf s).map byteV := by
      have : s.extract 0 s.size = s := by simp
      rw [this]
      simp [bytesOf, byteV]
    have hmin' : min s.size dLen = s.size := hmin
    simp [Builtin.copy_, run_underlying hu, Builtin.lenOf, Builtin.firstCells, sizeOf, typeInfo, hq, hi, hmin', hmin]
    have hcs2 : List.take s.size (List.map (fun b => Value.int .u8 ↑b.toNat) s.data.toList) = List.map byteV (bytesOf s) := by
      rw [List.take_of_length_le (by simp)]; simp [bytesOf, byteV]
    rw [hcs2, hst]
    rfl
theorem copied_all {s : ByteArray} {n : Nat} {z : Value} (_h : s.size ≤ n) : (List.replicate n z).take 0 ++ (bytesOf s).map byteV ++ (List.replicate n z).drop (0 + ((bytesOf s).map byteV).length) = (bytesOf s).map byteV ++ List.replicate (n - s.size) z := by
  simp [bytesOf]
/-- A uint64 is a number below 2^64. -/
theorem u64_nat {a : Int} (h : (Lit.int .u64 a).wf = true) : ∃ n : Nat, a = (n : Int) ∧ n < 18446744073709551616 := by
  have h2 : IntKind.u64.min ≤ a ∧ a ≤ IntKind.u64.max := by simpa [Lit.wf] using h
  have h3 : 0 ≤ a ∧ a ≤ 18446744073709551615 := h2
  exact ⟨a.toNat, by omega, by omega⟩
theorem u32_nat {a : Int} (h : (Lit.int .u32 a).wf = true) : ∃ n : Nat, a = (n : Int) ∧ n < 4294967296 := by
  have h2 : IntKind.u32.min ≤ a ∧ a ≤ IntKind.u32.max := by simpa [Lit.wf] using h
  have h3 : 0 ≤ a ∧ a ≤ 4294967295 := h2
  exact ⟨a.toNat, by omega, by omega⟩
#print axioms run_copy_string
end Go.Proofs.Ytiiblpgiafbaoaa
