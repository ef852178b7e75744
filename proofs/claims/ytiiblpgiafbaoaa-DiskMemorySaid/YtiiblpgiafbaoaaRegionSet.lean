/-
  A REGION IN WHICH SOME OPERATIONS (a list of them) TURN MEMORY, each in its turn; all others make new memory at most. What each leaves is said of the world ('say'), and is not asked for behind the next.
-/
import Derived.Test.YtiiblpgiafbaoaaRegion
namespace Go.Proofs.Ytiiblpgiafbaoaa
open Go Go.RowKit
def setE (S : List Nat) (i : Nat) (w w' : World) : Prop := if S.contains i = true then True else Below w.heap.size w w'
theorem set_stays {ops : Array Oper} {uses : Nat → List Nat} {fin : List Nat} {L : List Sp} {S : List Nat} (hlen : L.length ≤ ops.size) (hc : (S.all fun s => oneChk ops uses fin L s) = true) :
    ∀ i j v w w', stillUsed ops uses fin i j = true → spR L j v w → setE S i w w' → spR L j v w' := by
  intro i j v w w' hu hr he
  unfold setE at he
  split at he
  · rename_i hi
    have hm : i ∈ S := by simpa using hi
    have ho := List.all_eq_true.1 hc i hm
    refine Sp.isIs_any ?_ hr
    by_cases hj : j < ops.size
    · have := List.all_eq_true.1 ho j (List.mem_range.2 hj)
      rw [hu] at this; simpa using this
    · simp only [List.getD, List.getElem?_eq_none (show L.length ≤ j by omega)]; rfl
  · exact Sp.stays hr he
/-- What is asked for ahead of an operation; kept by all that may come ahead of it. -/
theorem set_pre {ops : Array Oper} {S : List Nat} {a : Nat} {Pr : World → Prop} (hk : ∀ w w', Pr w → Below w.heap.size w w' → Pr w') (hc : (S.all fun s => s == a || !preKept ops s a) = true) :
    ∀ i k w w', preKept ops i k = true → onePre a Pr k w → setE S i w w' → onePre a Pr k w' := by
  intro i k w w' hp hw he
  unfold onePre at *
  split
  · rename_i hka
    rw [if_pos hka] at hw
    unfold setE at he
    split at he
    · rename_i hi
      have hm : i ∈ S := by simpa using hi
      have ho := List.all_eq_true.1 hc i hm
      rw [hka] at hp
      rw [hp] at ho
      simp only [Bool.not_true, Bool.or_false, beq_iff_eq] at ho
      unfold preKept at hp
      simp [ho] at hp
    · exact hk _ _ hw he
  · trivial
theorem set_else {S : List Nat} {i : Nat} {w w' : World} (h : S.contains i = false) (hb : Below w.heap.size w w') : setE S i w w' := by unfold setE; rw [if_neg (by rw [h]; decide)]; exact hb
theorem set_at {S : List Nat} {i : Nat} {w w' : World} (h : S.contains i = true) : setE S i w w' := by unfold setE; rw [if_pos h]; trivial
theorem set_refl {S : List Nat} : ∀ i w, setE S i w w := by
  intro i w
  unfold setE
  split
  · trivial
  · exact Below.refl _ _
end Go.Proofs.Ytiiblpgiafbaoaa
