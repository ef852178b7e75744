/-
  A REGION IN WHICH TWO OPERATIONS TURN MEMORY, the second behind the first; all others make new memory at most.
-/
import Derived.Test.YtiiblpgiafbaoaaRegion
namespace Go.Proofs.Ytiiblpgiafbaoaa
open Go Go.RowKit
def twoE (a b : Nat) (Ea Eb : World → World → Prop) (i : Nat) (w w' : World) : Prop := if i = a then Ea w w' else if i = b then Eb w w' else Below w.heap.size w w'
def twoPre (a b : Nat) (Pa Pb : World → Prop) (k : Nat) (w : World) : Prop := if k = a then Pa w else if k = b then Pb w else True
def twoChk (ops : Array Oper) (uses : Nat → List Nat) (fin : List Nat) (L : List Sp) (s a : Nat) : Bool := (List.range ops.size).all fun j => !stillUsed ops uses fin s j || (L.getD j (.is undef)).isIs || j == a
theorem two_stays {ops : Array Oper} {uses : Nat → List Nat} {fin : List Nat} {L : List Sp} {a b : Nat} {Ea Eb : World → World → Prop} (hlen : L.length ≤ ops.size) (ha : oneChk ops uses fin L a = true) (hb : twoChk ops uses fin L b a = true)
    (hab : ∀ v w w', (L.getD a (.is undef)).holds w v → Eb w w' → (L.getD a (.is undef)).holds w' v) :
    ∀ i j v w w', stillUsed ops uses fin i j = true → spR L j v w → twoE a b Ea Eb i w w' → spR L j v w' := by
  intro i j v w w' hu hr he
  unfold twoE at he
  split at he
  · rename_i hi
    subst hi
    refine Sp.isIs_any ?_ hr
    by_cases hj : j < ops.size
    · have := List.all_eq_true.1 ha j (List.mem_range.2 hj)
      rw [hu] at this; simpa using this
    · simp only [List.getD, List.getElem?_eq_none (show L.length ≤ j by omega)]; rfl
  · split at he
    · rename_i hi
      subst hi
      by_cases hj : j < ops.size
      · have := List.all_eq_true.1 hb j (List.mem_range.2 hj)
        rw [hu] at this
        simp only [Bool.not_true, Bool.false_or, Bool.or_eq_true, beq_iff_eq] at this
        rcases this with h | h
        · exact Sp.isIs_any h hr
        · subst h
          exact hab v w w' hr he
      · refine Sp.isIs_any ?_ hr
        simp only [List.getD, List.getElem?_eq_none (show L.length ≤ j by omega)]; rfl
    · exact Sp.stays hr he
theorem two_pre {ops : Array Oper} {a b : Nat} {Ea Eb : World → World → Prop} {Pa Pb : World → Prop} (ha : ∀ w w', Pa w → Below w.heap.size w w' → Pa w') (hb : ∀ w w', Pb w → Below w.heap.size w w' → Pb w') (hba : ∀ w w', Pb w → Ea w w' → Pb w')
    (hc : preKept ops b a = false) : ∀ i k w w', preKept ops i k = true → twoPre a b Pa Pb k w → twoE a b Ea Eb i w w' → twoPre a b Pa Pb k w' := by
  intro i k w w' hp hw he
  unfold twoPre at *
  have hik : i ≠ k := by intro e; unfold preKept at hp; simp [e] at hp
  split
  · rename_i hk
    rw [if_pos hk] at hw
    unfold twoE at he
    split at he
    · rename_i hi; exact absurd (hi.trans hk.symm) hik
    · split at he
      · rename_i hi
        rw [hi, hk, hc] at hp; cases hp
      · exact ha _ _ hw he
  · rename_i hk
    rw [if_neg hk] at hw
    split
    · rename_i hkb
      rw [if_pos hkb] at hw
      unfold twoE at he
      split at he
      · exact hba _ _ hw he
      · split at he
        · rename_i hi; exact absurd (hi.trans hkb.symm) hik
        · exact hb _ _ hw he
    · trivial
theorem two_start {a b i : Nat} {Pa Pb : World → Prop} {w : World} (ha : Pa w) (hb : Pb w) : twoPre a b Pa Pb i w := by
  unfold twoPre
  split
  · exact ha
  · split
    · exact hb
    · trivial
theorem two_refl {a b : Nat} {Ea Eb : World → World → Prop} (ha : ∀ w, Ea w w) (hb : ∀ w, Eb w w) : ∀ i w, twoE a b Ea Eb i w w := by
  intro i w
  unfold twoE
  split
  · exact ha w
  · split
    · exact hb w
    · exact Below.refl _ _
theorem two_else {a b i : Nat} {Ea Eb : World → World → Prop} {w w' : World} (h : i ≠ a ∧ i ≠ b) (hb : Below w.heap.size w w') : twoE a b Ea Eb i w w' := by unfold twoE; rw [if_neg h.1, if_neg h.2]; exact hb
theorem two_first {a b i : Nat} {Ea Eb : World → World → Prop} {w w' : World} (h : i = a) (he : Ea w w') : twoE a b Ea Eb i w w' := by unfold twoE; rw [if_pos h]; exact he
theorem two_second {a b i : Nat} {Ea Eb : World → World → Prop} {w w' : World} (h : i = b) (hab : a ≠ b) (he : Eb w w') : twoE a b Ea Eb i w w' := by unfold twoE; rw [if_neg (by omega), if_pos h]; exact he
theorem two_pre_first {a b i : Nat} {Pa Pb : World → Prop} {w : World} (h : twoPre a b Pa Pb i w) (hi : i = a) : Pa w := by unfold twoPre at h; rw [if_pos hi] at h; exact h
theorem two_pre_second {a b i : Nat} {Pa Pb : World → Prop} {w : World} (h : twoPre a b Pa Pb i w) (hi : i = b) (hab : a ≠ b) : Pb w := by unfold twoPre at h; rw [if_neg (by omega), if_pos hi] at h; exact h
end Go.Proofs.Ytiiblpgiafbaoaa
