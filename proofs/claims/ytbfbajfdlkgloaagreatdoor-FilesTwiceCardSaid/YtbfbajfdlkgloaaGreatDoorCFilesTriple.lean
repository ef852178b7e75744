/-
  Three strings among the arguments, opened. No program's code in sight.
-/
import Derived.Test.YtbfbajfdlkgloaaGreatDoorG00
import Derived.OpenShut
import Derived.WideShapes
import Derived.SizedLaws
namespace Go.Proofs.YtbfbajfdlkgloaaGreatDoor
open Go Go.RowKit Go.ChangeShapes Go.WideShapes
theorem Fl.all_mem {H : Type} {P : Program} {e : TypeId} : ∀ {l : List (DataW H)} {d : DataW H}, d ∈ l → ∀ n ∈ d.weights P e, n ∈ DataW.weightsAll P e l
  | x :: l, d, h, n, hn => by
    simp only [DataW.weightsAll, List.mem_append]
    rcases List.mem_cons.1 h with rfl | h
    · exact .inl hn
    · exact .inr (Fl.all_mem h n hn)
set_option maxRecDepth 100000 in
theorem Fl.open_triple {H : Type} {enc : TypeId × Value → H} {P : Program} {W : World} {r : Reach} {b0 : Nat} {v : Value} {d : DataW H} {p : List MemPlace} {ts : List TypeId} {ds : List (DataW H)} {j : Nat} {t e : TypeId}
    (hsz : (DataW.weightsEach P ts ds).all (· ≤ reachBytes) = true) (htj : ts[j]? = some t) (hdj : ds[j]? = some d)
    (ht : P.underlying t = some (.array 3 e)) (he : P.underlying e = some .string) (hc : P.cellsOf e = 1) (hC : P.cellsOf t = 3)
    (hv : Value.okWide P W r b0 t v) (h : DataW.Trod enc P W 0 (fun _ => true) true t v d p) :
    ∃ s0 s1 s2 : ByteArray, v = .agg #[.string s0, .string s1, .string s2] ∧ s0.size ≤ 140737488351232 ∧ s1.size ≤ 140737488351232 ∧ s2.size ≤ 140737488351232 := by
  have hcs : ∃ cs : Array Value, v = .agg cs ∧ cs.size = P.cellsOf t := by
    simp only [Value.okWide, ht] at hv
    obtain ⟨cs, h1, h2, _⟩ := hv
    exact ⟨cs, h1, h2⟩
  obtain ⟨cs, rfl, hn⟩ := hcs
  rw [hC] at hn
  obtain ⟨fuel, hf⟩ := h
  obtain ⟨xs, m, _, hx, _, hl, hi⟩ := DataW.trod_array ht hf
  have hd : d = .agg (xs.map (·.1)) := by simp only [Prod.mk.injEq] at hx; exact hx.1
  have hw : ∀ x ∈ xs, ∀ n ∈ x.1.weights P e, n ≤ reachBytes := by
    intro x hxm n hnm
    have h1 := List.all_eq_true.1 hsz n (DataW.weights_mem_each htj hdj n (by
      rw [hd]; simp only [DataW.weights, ht]
      exact Fl.all_mem (List.mem_map_of_mem hxm) n hnm))
    simpa using h1
  have hone : ∀ i, i < 3 → ∃ s : ByteArray, cs[i]? = some (.string s) ∧ s.size ≤ 140737488351232 := by
    intro i hi3
    have h3 := hi i hi3
    rw [hc, Nat.mul_one] at h3
    have hlt : i < cs.toList.length := by simpa [hn] using hi3
    have h4 : ((Value.agg cs).cells.toList.drop i).take 1 = [cs.toList[i]] := by
      show (cs.toList.drop i).take 1 = _
      rw [List.drop_eq_getElem_cons hlt]; rfl
    have hlx : i < xs.length := by omega
    rw [h4, List.getElem?_eq_getElem hlx] at h3
    obtain ⟨s, hs, hxs, _⟩ := DataW.trod_string he h3
    have hs' : cs.toList[i] = .string s := by simpa using hs
    refine ⟨s, ?_, ?_⟩
    · rw [← hs']; simp
    · have h5 := hw xs[i] (List.getElem_mem hlx) s.data.toList.length (by rw [hxs]; simp [DataW.weights])
      have h6 : s.size ≤ reachBytes := by simpa using h5
      exact Nat.le_trans h6 (by decide)
  obtain ⟨s0, g0, q0⟩ := hone 0 (by omega)
  obtain ⟨s1, g1, q1⟩ := hone 1 (by omega)
  obtain ⟨s2, g2, q2⟩ := hone 2 (by omega)
  refine ⟨s0, s1, s2, ?_, q0, q1, q2⟩
  congr 1
  apply Array.ext_getElem?
  intro i
  rcases i with _ | _ | _ | i
  · exact g0
  · exact g1
  · exact g2
  · rw [Array.getElem?_eq_none (by omega), Array.getElem?_eq_none (by simp)]
#print axioms Fl.open_triple
end Go.Proofs.YtbfbajfdlkgloaaGreatDoor
