/-
  A fate among the arguments, opened. No program's code in sight.
-/
import Derived.Test.YtiiblpgiafbaoaaLawOps
import Derived.Test.YtiiblpgiafbaoaaOpens
namespace Go.Proofs.Ytiiblpgiafbaoaa
open Go Go.RowKit Go.ChangeShapes Go.WideShapes
theorem open_struct {H : Type} {enc : TypeId × Value → H} {P : Program} {W : World} {r : Reach} {b0 : Nat} {t : TypeId} {fs : Array Field} {v : Value} {d : DataW H} {p : List MemPlace}
    (hs : P.underlying t = some (.struct fs)) (hone : Go.Deep.oneCellFields P fs = true) (hC : P.cellsOf t = fs.size)
    (hv : Value.okWide P W r b0 t v) (h : DataW.Trod enc P W 0 (fun _ => true) true t v d p) (hl : Light P t d) : ∃ cs : List Value, v = .agg cs.toArray ∧ ReadFlds enc P W fs cs := by
  obtain ⟨cs, rfl, hcz⟩ := okWide_struct hs hv
  obtain ⟨fuel, hf⟩ := h
  exact ⟨cs.toList, by simp, read_struct (cs := cs.toList) (x := (d, p)) hs hone hC hf hl⟩
set_option maxRecDepth 100000 in
theorem open_fate {H : Type} {enc : TypeId × Value → H} {W : World} {r : Reach} {b0 : Nat} {v : Value} {d : DataW H} {p : List MemPlace} {ts : List TypeId} {ds : List (DataW H)} {j : Nat}
    (hsz : (DataW.weightsEach Try.prog ts ds).all (· ≤ reachBytes) = true) (htj : ts[j]? = some 59) (hdj : ds[j]? = some d)
    (hv : Value.okWide Try.prog W r b0 59 v) (h : DataW.Trod enc Try.prog W 0 (fun _ => true) true 59 v d p) :
    ∃ (at_ kind : Int) (kv : Value) (keep : List Bool), v = .agg #[.int .i64 at_, .int .i64 kind, kv] ∧ (Lit.int .i64 at_).wf = true ∧ (Lit.int .i64 kind).wf = true ∧ SlV W kv (keep.map Value.bool) ∧ keep.length ≤ 140737488351232 := by
  obtain ⟨cs, rfl, hl, hfl⟩ := open_struct Try.underlying59 (by kernel_rfl) (by kernel_rfl) hv h (light_of_each hsz htj hdj)
  obtain ⟨c0, g0, e0⟩ := hfl 0 _ rfl
  obtain ⟨c1, g1, e1⟩ := hfl 1 _ rfl
  obtain ⟨c2, g2, e2⟩ := hfl 2 _ rfl
  obtain ⟨z0, rfl, q0⟩ := e0.int (k := .i64) Try.underlying3
  obtain ⟨z1, rfl, q1⟩ := e1.int (k := .i64) Try.underlying3
  obtain ⟨bs, hbs, hbl⟩ := e2.bools Try.underlying28 Try.underlying4 (by kernel_rfl) (by kernel_rfl)
  refine ⟨z0, z1, c2, bs, ?_, q0, q1, hbs, hbl⟩
  congr 1
  apply Array.toList_inj.1
  show cs = _
  apply List.ext_getElem?
  intro i
  rcases i with _ | _ | _ | i
  · exact g0
  · exact g1
  · exact g2
  · rw [List.getElem?_eq_none (by rw [hl]; exact Nat.le_add_left 3 i), List.getElem?_eq_none (by simp)]
#print axioms open_fate
end Go.Proofs.Ytiiblpgiafbaoaa
