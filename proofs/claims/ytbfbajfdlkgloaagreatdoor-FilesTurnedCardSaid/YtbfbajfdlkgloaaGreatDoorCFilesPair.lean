/-
  Two whole numbers among the arguments, opened. No program's code in sight.
-/
import Derived.Test.YtbfbajfdlkgloaaGreatDoorG00
import Derived.OpenShut
import Derived.WideShapes
import Derived.SizedLaws
namespace Go.Proofs.YtbfbajfdlkgloaaGreatDoor
open Go Go.RowKit Go.ChangeShapes Go.WideShapes
set_option maxRecDepth 100000 in
theorem Fl.open_pair {H : Type} {enc : TypeId × Value → H} {P : Program} {W : World} {r : Reach} {b0 : Nat} {v : Value} {d : DataW H} {p : List MemPlace} {t e : TypeId}
    (ht : P.underlying t = some (.array 2 e)) (he : P.underlying e = some (.int .i64)) (hc : P.cellsOf e = 1) (hC : P.cellsOf t = 2)
    (hv : Value.okWide P W r b0 t v) (h : DataW.Trod enc P W 0 (fun _ => true) true t v d p) :
    ∃ q0 q1 : Int, v = .agg #[.int .i64 q0, .int .i64 q1] ∧ (Lit.int .i64 q0).wf = true ∧ (Lit.int .i64 q1).wf = true := by
  have hcs : ∃ cs : Array Value, v = .agg cs ∧ cs.size = P.cellsOf t := by
    simp only [Value.okWide, ht] at hv
    obtain ⟨cs, h1, h2, _⟩ := hv
    exact ⟨cs, h1, h2⟩
  obtain ⟨cs, rfl, hn⟩ := hcs
  rw [hC] at hn
  obtain ⟨fuel, hf⟩ := h
  obtain ⟨xs, m, _, hx, _, hl, hi⟩ := DataW.trod_array ht hf
  have hone : ∀ i, i < 2 → ∃ q : Int, cs[i]? = some (.int .i64 q) ∧ (Lit.int .i64 q).wf = true := by
    intro i hi2
    have h3 := hi i hi2
    rw [hc, Nat.mul_one] at h3
    have hlt : i < cs.toList.length := by simpa [hn] using hi2
    have h4 : ((Value.agg cs).cells.toList.drop i).take 1 = [cs.toList[i]] := by
      show (cs.toList.drop i).take 1 = _
      rw [List.drop_eq_getElem_cons hlt]; rfl
    have hlx : i < xs.length := by omega
    rw [h4, List.getElem?_eq_getElem hlx] at h3
    obtain ⟨q, hq, _, hw⟩ := DataW.trod_int he h3
    have hq' : cs.toList[i] = .int .i64 q := by simpa using hq
    refine ⟨q, ?_, hw⟩
    rw [← hq']; simp
  obtain ⟨q0, g0, w0⟩ := hone 0 (by omega)
  obtain ⟨q1, g1, w1⟩ := hone 1 (by omega)
  refine ⟨q0, q1, ?_, w0, w1⟩
  congr 1
  apply Array.ext_getElem?
  intro i
  rcases i with _ | _ | i
  · exact g0
  · exact g1
  · rw [Array.getElem?_eq_none (by omega), Array.getElem?_eq_none (by simp)]
#print axioms Fl.open_pair
end Go.Proofs.YtbfbajfdlkgloaaGreatDoor
