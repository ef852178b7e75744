/-
  The bytes of a text one by one; behind the end: 0. No program in sight.
-/
import Derived.Test.YtiiblpgiafbaoaaBase
namespace Go.Proofs.Ytiiblpgiafbaoaa
def byt (x : ByteArray) (i : Nat) : UInt8 := (bytesOf x).getD i 0
theorem bytes_len (x : ByteArray) : (bytesOf x).length = x.size := by unfold bytesOf; rw [Array.length_toList]; rfl
theorem byt_ge {x : ByteArray} {i : Nat} (h : x.size ≤ i) : byt x i = 0 := by
  unfold byt
  rw [List.getD_eq_getElem?_getD, List.getElem?_eq_none (by rw [bytes_len]; exact h)]; rfl
theorem byt_lt {x : ByteArray} {i : Nat} (h : i < x.size) : byt x i = x[i] := by
  unfold byt
  rw [List.getD_eq_getElem?_getD, List.getElem?_eq_getElem (by rw [bytes_len]; exact h)]
  rfl
theorem byt_append (a b : ByteArray) (i : Nat) : byt (a ++ b) i = if i < a.size then byt a i else byt b (i - a.size) := by
  unfold byt
  have e : bytesOf (a ++ b) = bytesOf a ++ bytesOf b := by unfold bytesOf; rw [ByteArray.data_append, Array.toList_append]
  rw [e, List.getD_eq_getElem?_getD, List.getElem?_append, bytes_len]
  split <;> rw [List.getD_eq_getElem?_getD]
theorem byt_extract (x : ByteArray) (a b i : Nat) : byt (x.extract a b) i = if a + i < b then byt x (a + i) else 0 := by
  by_cases hs : i < (x.extract a b).size
  · have hs2 := hs
    rw [ByteArray.size_extract] at hs2
    rw [if_pos (by omega), byt_lt hs, byt_lt (show a + i < x.size by omega)]
    simp [ByteArray.getElem_extract]
  · rw [byt_ge (by omega)]
    rw [ByteArray.size_extract] at hs
    split
    · rw [byt_ge (by omega)]
    · rfl
theorem byt_ext {a b : ByteArray} (hs : a.size = b.size) (h : ∀ i, i < a.size → byt a i = byt b i) : a = b := by
  have e : bytesOf a = bytesOf b := by
    apply List.ext_getElem?
    intro i
    by_cases hi : i < a.size
    · have h1 := h i hi
      unfold byt at h1
      rw [List.getD_eq_getElem?_getD, List.getD_eq_getElem?_getD, List.getElem?_eq_getElem (by rw [bytes_len]; exact hi), List.getElem?_eq_getElem (by rw [bytes_len, ← hs]; exact hi)] at h1
      rw [List.getElem?_eq_getElem (by rw [bytes_len]; exact hi), List.getElem?_eq_getElem (by rw [bytes_len, ← hs]; exact hi)]
      simpa using h1
    · rw [List.getElem?_eq_none (by rw [bytes_len]; omega), List.getElem?_eq_none (by rw [bytes_len]; omega)]
  obtain ⟨⟨a⟩⟩ := a
  obtain ⟨⟨b⟩⟩ := b
  have e : a = b := e
  rw [e]
theorem byt_of_list (l : List UInt8) (i : Nat) : byt ⟨l.toArray⟩ i = l.getD i 0 := rfl
#print axioms byt_ext
end Go.Proofs.Ytiiblpgiafbaoaa
