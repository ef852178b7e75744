/-
  massiflaw17: a list of calls among the arguments, opened. No program's code in sight.
-/
import Derived.Test.YtiiblpgiafbaoaaLawOps
import Derived.Test.YtiiblpgiafbaoaaOpens
namespace Go.Proofs.Ytiiblpgiafbaoaa
open Go Go.RowKit Go.ChangeShapes Go.WideShapes
theorem open_ops {H : Type} {enc : TypeId × Value → H} {W : World} {t : TypeId} {a : Option Addr} {len cap : Nat} {d : DataW H} {p : List MemPlace} {ts : List TypeId} {ds : List (DataW H)} {j : Nat}
    (hsz : (DataW.weightsEach Try.prog ts ds).all (· ≤ reachBytes) = true) (htj : ts[j]? = some t) (hdj : ds[j]? = some d)
    (ht : Try.prog.underlying t = some (.slice 30)) (h : DataW.Trod enc Try.prog W 0 (fun _ => true) true t (.slice a len cap) d p) :
    ∃ ops : List Dk.OpV, OpsAt W (.slice a len cap) ops ∧ ops.length ≤ 140737488351232 := by
  obtain ⟨fuel, hf⟩ := h
  have hlight := light_of_each hsz htj hdj
  obtain ⟨h1, h2, h3⟩ := read_rows (fs := _) ht Try.underlying30 (by kernel_rfl) (by kernel_rfl) (by decide) (show DataW.trod enc Try.prog W 0 (fun _ => true) true fuel t [.slice a len cap] = some (d, p) from hf) hlight
  obtain ⟨ops, hol, ho⟩ := list_upto (β := Dk.OpV) (p := fun j o => Dk.OpOk o ∧ ∃ b off kv, a = some ⟨b, off, none⟩ ∧ b < W.heap.size ∧ W.rangeAt b (off + j * 7) (Dk.opCells o kv) ∧ SlV W kv (o.keep.map Value.bool)) len (fun j hj => by
    obtain ⟨b, off, cs, ha, hb, hr, hcl, hf⟩ := h3 j hj
    obtain ⟨c0, g0, e0⟩ := hf 0 _ rfl
    obtain ⟨c1, g1, e1⟩ := hf 1 _ rfl
    obtain ⟨c2, g2, e2⟩ := hf 2 _ rfl
    obtain ⟨c3, g3, e3⟩ := hf 3 _ rfl
    obtain ⟨c4, g4, e4⟩ := hf 4 _ rfl
    obtain ⟨c5, g5, e5⟩ := hf 5 _ rfl
    obtain ⟨c6, g6, e6⟩ := hf 6 _ rfl
    obtain ⟨z0, rfl, q0⟩ := e0.int (k := .i64) Try.underlying3
    obtain ⟨z1, rfl, q1⟩ := e1.int (k := .i64) Try.underlying3
    obtain ⟨z2, rfl, q2⟩ := e2.str Try.underlying9
    obtain ⟨z3, rfl, q3⟩ := e3.str Try.underlying9
    obtain ⟨z4, rfl, q4⟩ := e4.int (k := .i64) Try.underlying3
    obtain ⟨z5, rfl, q5⟩ := e5.int (k := .i64) Try.underlying3
    obtain ⟨z6, v6, q6⟩ := e6.bools Try.underlying28 Try.underlying4 (by kernel_rfl) (by kernel_rfl)
    have hcs : cs = Dk.opCells ⟨z0, z1, z2, z3, z4, z5, z6⟩ c6 := by
      apply List.ext_getElem?
      intro i
      rcases i with _ | _ | _ | _ | _ | _ | _ | i
      · exact g0
      · exact g1
      · exact g2
      · exact g3
      · exact g4
      · exact g5
      · exact g6
      · rw [List.getElem?_eq_none (by rw [hcl]; exact Nat.le_add_left 7 i), List.getElem?_eq_none (by simp [Dk.opCells])]
    exact ⟨⟨z0, z1, z2, z3, z4, z5, z6⟩, ⟨q0, q1, q2, q3, q4, q5, q6⟩, b, off, c6, ha, hb, hcs ▸ hr, v6⟩)
  refine ⟨ops, ⟨fun o hm => ?_, len, a, cap, hol.symm, rfl, h1, fun j o hj => (ho j o hj).2⟩, ?_⟩
  · obtain ⟨j, hj⟩ := List.mem_iff_getElem?.1 hm
    exact (ho j o hj).1
  · have hB : Try.prog.bytesOf 30 = 88 := by kernel_rfl
    rw [hB] at h2
    have : reachBytes = 140737488351232 := rfl
    omega
#print axioms open_ops
end Go.Proofs.Ytiiblpgiafbaoaa
