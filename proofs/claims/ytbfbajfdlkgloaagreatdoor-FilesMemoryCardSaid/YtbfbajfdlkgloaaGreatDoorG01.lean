/-
  A writable array of the call's own, its first cells read as a list (one cell each). No program in sight.
-/
import Derived.Test.YtbfbajfdlkgloaaGreatDoorG00
import Derived.Laws.IdiomStrings

namespace Go.Proofs.YtbfbajfdlkgloaaGreatDoor
open Go.RowKit
def Arr (w : World) (g e : Nat) (xs : List Value) : Prop := ∃ C lo hi, w.heap[g]? = some (.cells C e (lo, hi)) ∧ (xs.length ≤ lo ∨ hi = 0) ∧ xs.length ≤ C.size ∧ C.toList.take xs.length = xs
theorem Arr.lt {w : World} {g e : Nat} {xs : List Value} (h : Arr w g e xs) : g < w.heap.size := by
  obtain ⟨C, lo, hi, h1, _⟩ := h
  rcases Nat.lt_or_ge g w.heap.size with h | h
  · exact h
  · simp [Array.getElem?_eq_none h] at h1
theorem Arr.at {w : World} {g e : Nat} {xs : List Value} (h : Arr w g e xs) (j : Nat) (hj : j < xs.length) : w.cell? ⟨g, j, none⟩ = some xs[j] := by
  obtain ⟨C, lo, hi, h1, h2, h3, h4⟩ := h
  rw [cell_blk h1]
  have : C.toList[j]? = some xs[j] := by
    rw [← List.getElem?_eq_getElem hj, ← List.getElem?_take_of_lt (l := C.toList) hj]
    rw [h4]
  simpa using this
theorem Arr.cell {w : World} {g e : Nat} {xs : List Value} (h : Arr w g e xs) (j : Nat) (hj : j < xs.length) : w.cell? ⟨g, j, none⟩ = some (xs.getD j undef) := by
  rw [h.at j hj]; simp [List.getD, hj]
theorem Arr.frozen {w : World} {g e : Nat} {xs : List Value} (h : Arr w g e xs) (j : Nat) (hj : j < xs.length) : w.frozen? ⟨g, j, none⟩ = false := by
  obtain ⟨C, lo, hi, h1, h2, h3, h4⟩ := h
  simp [World.frozen?, h1]
  omega
theorem Arr.set {w : World} {g e : Nat} {xs : List Value} (h : Arr w g e xs) (j : Nat) (_hj : j < xs.length) (v : Value) : Arr (w.setCell ⟨g, j, none⟩ v) g e (xs.set j v) := by
  obtain ⟨C, lo, hi, h1, h2, h3, h4⟩ := h
  refine ⟨C.setIfInBounds j v, lo, hi, ?_, by simpa using h2, by simpa using h3, ?_⟩
  · rw [World.setCell]
    show (w.heap.modify g _)[g]? = _
    rw [Array.getElem?_modify, if_pos rfl, h1]
    rfl
  · rw [List.length_set, Array.toList_setIfInBounds, List.take_set, h4]
theorem Arr.slv {w : World} {g e : Nat} {xs : List Value} (h : Arr w g e xs) {n cap : Nat} (hn : n = xs.length) (hc : n ≤ cap) : SlV w (.slice (some ⟨g, 0, none⟩) n cap) xs := by
  subst hn
  exact .inr ⟨g, 0, cap, rfl, hc, h.lt, fun j hj => by rw [Nat.zero_add]; exact h.at j hj⟩
theorem Arr.slv_sub {w : World} {g e : Nat} {xs : List Value} (h : Arr w g e xs) {off n cap : Nat} (hn : off + n ≤ xs.length) (hc : n ≤ cap) : SlV w (.slice (some ⟨g, off, none⟩) n cap) ((xs.drop off).take n) := by
  have hl : ((xs.drop off).take n).length = n := by simp; omega
  refine .inr ⟨g, off, cap, by rw [hl], by rw [hl]; exact hc, h.lt, fun j hj => ?_⟩
  rw [hl] at hj
  rw [h.at (off + j) (by omega)]
  simp
theorem Arr.below {w w' : World} {g e B : Nat} {xs : List Value} (h : Arr w g e xs) (hg : g < B) (hb : Below B w w') : Arr w' g e xs := by
  obtain ⟨C, lo, hi, h1, h2⟩ := h
  exact ⟨C, lo, hi, (hb.block g hg).trans h1, h2⟩
theorem Arr.past {w w' : World} {g e : Nat} {xs : List Value} (h : Arr w g e xs) (hb : Below w.heap.size w w') : Arr w' g e xs := h.below h.lt hb
theorem arr_new (w : World) (xs : List Value) (C : Array Value) (e lo hi : Nat) (h2 : xs.length ≤ lo) (h3 : C.toList.take xs.length = xs) (h4 : xs.length ≤ C.size) : Arr (w.alloc (.cells C e (lo, hi))) w.heap.size e xs :=
  ⟨C, lo, hi, alloc_at _ _, .inl h2, h4, h3⟩
theorem arr_bytes (w : World) (s : ByteArray) (cap e : Nat) : Arr (w.drew.alloc (.cells (bytesRow s cap) e ((bytesRow s cap).size, (bytesRow s cap).size + 1))) w.heap.size e ((bytesOf s).map byteV) := by
  have hl : ((bytesOf s).map byteV).length = s.size := by simp [bytesOf]
  have hb : s.size ≤ (bytesRow s cap).size := by unfold bytesRow; simp
  refine arr_new w.drew _ _ _ _ _ (by rw [hl]; exact hb) ?_ (by rw [hl]; exact hb)
  rw [hl]
  unfold bytesRow
  rw [Array.toList_append, List.take_append_of_le_length (by simp)]
  rw [List.take_of_length_le (by simp)]
  simp [bytesOf, byteV]
/-- A grown row that holds something is such an array. -/
theorem arr_of_owns {w : World} {base e : Nat} {v : Value} {n : Nat} {xs : List Value} (h : w.ownsRow base e 1 v n xs) (hn : 0 < n) : ∃ g cap, v = .slice (some ⟨g, 0, none⟩) n cap ∧ base ≤ g ∧ n ≤ cap ∧ cap ≤ maxLen ∧ Arr w g e xs := by
  obtain ⟨hl, h2⟩ := h
  rw [Nat.mul_one] at hl
  rcases h2 with ⟨rfl, rfl⟩ | ⟨g, cap, cur, rfl, hg, hh, hc, hm, hs, hx⟩
  · omega
  · refine ⟨g, cap, rfl, hg, hc, hm, cur, 0, 0, hh, .inr rfl, by rw [hl, hs]; omega, ?_⟩
    rw [hl]; rw [Nat.mul_one] at hx; exact hx
/-- A slice that holds something. -/
theorem SlV.pos {w : World} {v : Value} {xs : List Value} (h : SlV w v xs) (hn : 0 < xs.length) : ∃ b off cap, v = .slice (some ⟨b, off, none⟩) xs.length cap ∧ xs.length ≤ cap ∧ b < w.heap.size ∧ ∀ j, j < xs.length → w.cell? ⟨b, off + j, none⟩ = some (xs.getD j undef) := by
  rcases h with ⟨rfl, _⟩ | ⟨b, off, cap, rfl, hc, hb, hx⟩
  · exact absurd hn (by simp)
  · exact ⟨b, off, cap, rfl, hc, hb, fun j hj => by rw [hx j hj]; simp [List.getD, hj]⟩
/-- A uint32 is a word of 32 bits. -/
theorem u32_bv {a : Int} (h : (Lit.int .u32 a).wf = true) : ∃ c : BitVec 32, a = (c.toNat : Int) := by
  have h2 : IntKind.u32.min ≤ a ∧ a ≤ IntKind.u32.max := by simpa [Lit.wf] using h
  have h3 : 0 ≤ a ∧ a ≤ 4294967295 := h2
  refine ⟨BitVec.ofNat 32 a.toNat, ?_⟩
  rw [BitVec.toNat_ofNat]
  omega
end Go.Proofs.YtbfbajfdlkgloaaGreatDoor
