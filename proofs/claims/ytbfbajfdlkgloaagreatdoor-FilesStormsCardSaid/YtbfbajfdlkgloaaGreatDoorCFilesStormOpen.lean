/-
  massiflaw19's Storm among the arguments, opened. No program's code in sight.
-/
import Derived.Test.YtbfbajfdlkgloaaGreatDoorCOpens
import Derived.Test.YtbfbajfdlkgloaaGreatDoorG20
namespace Go.Proofs.YtbfbajfdlkgloaaGreatDoor
open Go Go.RowKit Go.ChangeShapes Go.WideShapes
theorem Fl.open_struct {H : Type} {enc : TypeId × Value → H} {P : Program} {W : World} {r : Reach} {b0 : Nat} {t : TypeId} {fs : Array Field} {v : Value} {d : DataW H} {p : List MemPlace}
    (hs : P.underlying t = some (.struct fs)) (hone : Go.Deep.oneCellFields P fs = true) (hC : P.cellsOf t = fs.size)
    (hv : Value.okWide P W r b0 t v) (h : DataW.Trod enc P W 0 (fun _ => true) true t v d p) (hl : Light P t d) : ∃ cs : List Value, v = .agg cs.toArray ∧ ReadFlds enc P W fs cs := by
  obtain ⟨cs, rfl, hcz⟩ := okWide_struct hs hv
  obtain ⟨fuel, hf⟩ := h
  exact ⟨cs.toList, by simp, read_struct (cs := cs.toList) (x := (d, p)) hs hone hC hf hl⟩
set_option maxRecDepth 100000 in
theorem Fl.open_storm {H : Type} {enc : TypeId × Value → H} {W : World} {r : Reach} {b0 : Nat} {v : Value} {d : DataW H} {p : List MemPlace} {ts : List TypeId} {ds : List (DataW H)} {j : Nat}
    (hsz : (DataW.weightsEach Tryz.prog ts ds).all (· ≤ reachBytes) = true) (htj : ts[j]? = some 76) (hdj : ds[j]? = some d)
    (hv : Value.okWide Tryz.prog W r b0 76 v) (h : DataW.Trod enc Tryz.prog W 0 (fun _ => true) true 76 v d p) :
    ∃ (q0 q1 q2 : Int) (kv3 : Value) (keep3 : List Bool) (pw : Bool) (kv5 : Value) (keep5 : List Bool) (q6 q7 : Int) (kv8 : Value) (keep8 : List Bool),
      v = .agg #[.int .i64 q0, .int .i64 q1, .int .i64 q2, kv3, .bool pw, kv5, .int .i64 q6, .int .i64 q7, kv8] ∧ SlV W kv3 (keep3.map Value.bool) ∧ keep3.length ≤ 140737488351232 ∧ SlV W kv5 (keep5.map Value.bool) ∧ keep5.length ≤ 140737488351232 ∧ SlV W kv8 (keep8.map Value.bool) ∧ keep8.length ≤ 140737488351232 := by
  obtain ⟨cs, rfl, hl, hfl⟩ := Fl.open_struct Tryz.underlying76 (by kernel_rfl) (by kernel_rfl) hv h (light_of_each hsz htj hdj)
  obtain ⟨c0, g0, e0⟩ := hfl 0 _ rfl
  obtain ⟨c1, g1, e1⟩ := hfl 1 _ rfl
  obtain ⟨c2, g2, e2⟩ := hfl 2 _ rfl
  obtain ⟨c3, g3, e3⟩ := hfl 3 _ rfl
  obtain ⟨c4, g4, e4⟩ := hfl 4 _ rfl
  obtain ⟨c5, g5, e5⟩ := hfl 5 _ rfl
  obtain ⟨c6, g6, e6⟩ := hfl 6 _ rfl
  obtain ⟨c7, g7, e7⟩ := hfl 7 _ rfl
  obtain ⟨c8, g8, e8⟩ := hfl 8 _ rfl
  obtain ⟨z0, rfl, _⟩ := e0.int (k := .i64) Tryz.underlying3
  obtain ⟨z1, rfl, _⟩ := e1.int (k := .i64) Tryz.underlying3
  obtain ⟨z2, rfl, _⟩ := e2.int (k := .i64) Tryz.underlying3
  obtain ⟨b3, h3, l3⟩ := e3.bools Tryz.underlying71 Tryz.underlying4 (by kernel_rfl) (by kernel_rfl)
  obtain ⟨z4, rfl⟩ := e4.bool Tryz.underlying4
  obtain ⟨b5, h5, l5⟩ := e5.bools Tryz.underlying71 Tryz.underlying4 (by kernel_rfl) (by kernel_rfl)
  obtain ⟨z6, rfl, _⟩ := e6.int (k := .i64) Tryz.underlying3
  obtain ⟨z7, rfl, _⟩ := e7.int (k := .i64) Tryz.underlying3
  obtain ⟨b8, h8, l8⟩ := e8.bools Tryz.underlying71 Tryz.underlying4 (by kernel_rfl) (by kernel_rfl)
  refine ⟨z0, z1, z2, c3, b3, z4, c5, b5, z6, z7, c8, b8, ?_, h3, l3, h5, l5, h8, l8⟩
  congr 1
  apply Array.toList_inj.1
  show cs = _
  apply List.ext_getElem?
  intro i
  rcases i with _ | _ | _ | _ | _ | _ | _ | _ | _ | i
  · exact g0
  · exact g1
  · exact g2
  · exact g3
  · exact g4
  · exact g5
  · exact g6
  · exact g7
  · exact g8
  · rw [List.getElem?_eq_none (by rw [hl]; exact Nat.le_add_left 9 i), List.getElem?_eq_none (by simp)]
#print axioms Fl.open_storm
end Go.Proofs.YtbfbajfdlkgloaaGreatDoor
