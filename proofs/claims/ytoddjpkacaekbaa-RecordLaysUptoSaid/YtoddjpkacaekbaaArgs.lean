/-
  A struct among the arguments, each field of one cell: its value written out. No program in sight.
-/
import Derived.Test.YtoddjpkacaekbaaBase
import Derived.Deep.Fields
import Derived.WideShapes
namespace Go.Proofs.Ytoddjpkacaekbaa
open Go.ChangeShapes Go.WideShapes
theorem open_flds {H : Type} {enc : TypeId × Value → H} {P : Program} {w : World} {base : Nat} {spare : Nat → Bool} {held : Bool} {r : Reach} {b0 : Nat} {t : TypeId} {fs : Array Field} {v : Value} {d : DataW H} {p : List MemPlace}
    (hs : P.underlying t = some (.struct fs)) (hone : Go.Deep.oneCellFields P fs = true) (hC : P.cellsOf t = fs.size)
    (hv : Value.okWide P w r b0 t v) (h : DataW.Trod enc P w base spare held t v d p) :
    ∃ (cs : List Value) (n : Nat), v = .agg cs.toArray ∧ cs.length = fs.size ∧ ∀ (i : Nat) (f : Field), fs[i]? = some f → ∃ c y, cs[i]? = some c ∧ DataW.trod enc P w base spare held n f.type [c] = some y := by
  obtain ⟨cs, rfl, hsz⟩ := okWide_struct hs hv
  obtain ⟨fuel, hf⟩ := h
  obtain ⟨xs, n, _, hx, hl, hxl, hi⟩ := DataW.trod_struct hs hf
  have hcl : cs.toList.length = fs.size := by rw [← hC, ← hsz]; simp
  refine ⟨cs.toList, n, by simp, hcl, fun i f hfi => ?_⟩
  obtain ⟨h1, h2⟩ := Go.Deep.hone_of hone i f hfi
  have hlt : i < fs.size := (Array.getElem?_eq_some_iff.1 hfi).1
  have h3 := hi i f hfi
  have hlt2 : i < cs.toList.length := by omega
  refine ⟨cs.toList[i], xs[i]'(by omega), List.getElem?_eq_getElem hlt2, ?_⟩
  rw [h1, h2] at h3
  have h4 : ((Value.agg cs).cells.toList.drop i).take 1 = [cs.toList[i]] := by
    show (cs.toList.drop i).take 1 = _
    rw [List.drop_eq_getElem_cons hlt2]; rfl
  rw [h4] at h3
  rw [h3, List.getElem?_eq_getElem]
section
variable {H : Type} {enc : TypeId × Value → H} {P : Program} {w : World} {base : Nat} {spare : Nat → Bool} {held : Bool} {n : Nat} {fs : Array Field} {cs : List Value}
theorem fld_int (h : ∀ (i : Nat) (f : Field), fs[i]? = some f → ∃ c y, cs[i]? = some c ∧ DataW.trod enc P w base spare held n f.type [c] = some y) (i : Nat) (f : Field) (hf : fs[i]? = some f) (k : IntKind) (hu : P.underlying f.type = some (.int k)) :
    ∃ a, cs[i]? = some (.int k a) ∧ (Lit.int k a).wf = true := by
  obtain ⟨c, y, hc, hy⟩ := h i f hf
  obtain ⟨a, ha, _, hw⟩ := DataW.trod_int hu hy
  have : c = .int k a := by simpa using ha
  exact ⟨a, by rw [hc, this], hw⟩
end
theorem flds_eq {cs l : List Value} (hl : cs.length = l.length) (h : ∀ i, i < l.length → cs[i]? = l[i]?) : cs = l := by
  apply List.ext_getElem?
  intro i
  by_cases hi : i < l.length
  · exact h i hi
  · rw [List.getElem?_eq_none (by omega), List.getElem?_eq_none (by omega)]
#print axioms open_flds
end Go.Proofs.Ytoddjpkacaekbaa
