/-
  massiflaw17: lists of edits, of choices, of files among the arguments, opened. No program's code in sight.
-/
import Derived.Test.YtiiblpgiafbaoaaEditW
import Derived.Test.YtiiblpgiafbaoaaOpens
namespace Go.Proofs.Ytiiblpgiafbaoaa
open Go Go.RowKit Go.ChangeShapes Go.WideShapes
theorem open_eds {H : Type} {enc : TypeId × Value → H} {W : World} {t : TypeId} {a : Option Addr} {len cap : Nat} {d : DataW H} {p : List MemPlace} {ts : List TypeId} {ds : List (DataW H)} {j : Nat}
    (hsz : (DataW.weightsEach Try.prog ts ds).all (· ≤ reachBytes) = true) (htj : ts[j]? = some t) (hdj : ds[j]? = some d)
    (ht : Try.prog.underlying t = some (.slice 88)) (h : DataW.Trod enc Try.prog W 0 (fun _ => true) true t (.slice a len cap) d p) :
    ∃ eds : List Dk.EditV, EdsAt W (.slice a len cap) eds ∧ eds.length ≤ 140737488351232 := by
  obtain ⟨fuel, hf⟩ := h
  have hlight := light_of_each hsz htj hdj
  obtain ⟨h1, h2, h3⟩ := read_rows (fs := _) ht Try.underlying88 (by kernel_rfl) (by kernel_rfl) (by decide) (show DataW.trod enc Try.prog W 0 (fun _ => true) true fuel t [.slice a len cap] = some (d, p) from hf) hlight
  obtain ⟨eds, hol, ho⟩ := list_upto (β := Dk.EditV) (p := fun j o => Dk.EditOk o ∧ ∃ b off, a = some ⟨b, off, none⟩ ∧ b < W.heap.size ∧ W.rangeAt b (off + j * 3) (Dk.edCells o)) len (fun j hj => by
    obtain ⟨b, off, cs, ha, hb, hr, hcl, hf⟩ := h3 j hj
    obtain ⟨c0, g0, e0⟩ := hf 0 _ rfl
    obtain ⟨c1, g1, e1⟩ := hf 1 _ rfl
    obtain ⟨c2, g2, e2⟩ := hf 2 _ rfl
    obtain ⟨z0, rfl, q0⟩ := e0.int (k := .i64) Try.underlying3
    obtain ⟨z1, rfl, q1⟩ := e1.str Try.underlying9
    obtain ⟨z2, rfl⟩ := e2.bool Try.underlying4
    have hcs : cs = Dk.edCells ⟨z0, z1, z2⟩ := by
      apply List.ext_getElem?
      intro i
      rcases i with _ | _ | _ | i
      · exact g0
      · exact g1
      · exact g2
      · rw [List.getElem?_eq_none (by rw [hcl]; exact Nat.le_add_left 3 i), List.getElem?_eq_none (by simp [Dk.edCells])]
    exact ⟨⟨z0, z1, z2⟩, ⟨q0, q1⟩, b, off, ha, hb, hcs ▸ hr⟩)
  refine ⟨eds, ⟨fun o hm => ?_, len, a, cap, hol.symm, rfl, h1, fun j o hj => (ho j o hj).2⟩, ?_⟩
  · obtain ⟨j, hj⟩ := List.mem_iff_getElem?.1 hm
    exact (ho j o hj).1
  · have hB : Try.prog.bytesOf 88 = 32 := by kernel_rfl
    rw [hB] at h2
    have : reachBytes = 140737488351232 := rfl
    omega
theorem open_bools {H : Type} {enc : TypeId × Value → H} {W : World} {t : TypeId} {a : Option Addr} {len cap : Nat} {d : DataW H} {p : List MemPlace} {ts : List TypeId} {ds : List (DataW H)} {j : Nat}
    (hsz : (DataW.weightsEach Try.prog ts ds).all (· ≤ reachBytes) = true) (htj : ts[j]? = some t) (hdj : ds[j]? = some d)
    (ht : Try.prog.underlying t = some (.slice 4)) (h : DataW.Trod enc Try.prog W 0 (fun _ => true) true t (.slice a len cap) d p) :
    ∃ bs : List Bool, SlV W (.slice a len cap) (bs.map Value.bool) ∧ bs.length ≤ 140737488351232 := by
  obtain ⟨fuel, hf⟩ := h
  exact Read1.bools ht Try.underlying4 (by kernel_rfl) (by kernel_rfl) ⟨fuel, (d, p), hf, light_of_each hsz htj hdj⟩
theorem nil_cap {H : Type} {enc : TypeId × Value → H} {P : Program} {W : World} {t e : TypeId} {len cap n : Nat} {x : DataW H × List MemPlace} (ht : P.underlying t = some (.slice e)) (h : DataW.trod enc P W 0 (fun _ => true) true n t [.slice none len cap] = some x) : cap = 0 := by
  rcases Go.Deep.open_slice ht h with ⟨hcs, _⟩ | ⟨x0, l, c, m, k, D, Pl, hcs, _, hlc, _, hm, rfl, hx⟩
  · simp only [List.cons.injEq, and_true, Value.slice.injEq] at hcs
    exact hcs.2.2
  · simp only [List.cons.injEq, and_true, Value.slice.injEq] at hcs
    cases hcs.1
theorem open_files {H : Type} {enc : TypeId × Value → H} {W : World} {t : TypeId} {a : Option Addr} {len cap : Nat} {d : DataW H} {p : List MemPlace} {ts : List TypeId} {ds : List (DataW H)} {j : Nat}
    (hsz : (DataW.weightsEach Try.prog ts ds).all (· ≤ reachBytes) = true) (htj : ts[j]? = some t) (hdj : ds[j]? = some d)
    (ht : Try.prog.underlying t = some (.slice 42)) (h : DataW.Trod enc Try.prog W 0 (fun _ => true) true t (.slice a len cap) d p) :
    ∃ fs : List (ByteArray × ByteArray), SlF W (.slice a len cap) fs ∧ fs.length * 32 ≤ 140737488351232 ∧ ∀ q ∈ fs, q.1.size ≤ 140737488351232 ∧ q.2.size ≤ 140737488351232 := by
  obtain ⟨fuel, hf⟩ := h
  have hlight := light_of_each hsz htj hdj
  obtain ⟨h1, h2, h3⟩ := read_rows (fs := _) ht Try.underlying42 (by kernel_rfl) (by kernel_rfl) (by decide) (show DataW.trod enc Try.prog W 0 (fun _ => true) true fuel t [.slice a len cap] = some (d, p) from hf) hlight
  obtain ⟨fs, hol, ho⟩ := list_upto (β := ByteArray × ByteArray) (p := fun j o => (o.1.size ≤ 140737488351232 ∧ o.2.size ≤ 140737488351232) ∧ ∃ b off, a = some ⟨b, off, none⟩ ∧ b < W.heap.size ∧ W.rangeAt b (off + j * 2) [.string o.1, .string o.2]) len (fun j hj => by
    obtain ⟨b, off, cs, ha, hb, hr, hcl, hf⟩ := h3 j hj
    obtain ⟨c0, g0, e0⟩ := hf 0 _ rfl
    obtain ⟨c1, g1, e1⟩ := hf 1 _ rfl
    obtain ⟨z0, rfl, q0⟩ := e0.str Try.underlying9
    obtain ⟨z1, rfl, q1⟩ := e1.str Try.underlying9
    have hcs : cs = [.string z0, .string z1] := by
      apply List.ext_getElem?
      intro i
      rcases i with _ | _ | i
      · exact g0
      · exact g1
      · rw [List.getElem?_eq_none (by rw [hcl]; exact Nat.le_add_left 2 i), List.getElem?_eq_none (by simp)]
    exact ⟨⟨z0, z1⟩, ⟨q0, q1⟩, b, off, ha, hb, hcs ▸ hr⟩)
  refine ⟨fs, ?_, ?_, fun q hm => ?_⟩
  · by_cases h0 : len = 0
    · subst h0
      have : fs = [] := List.eq_nil_of_length_eq_zero hol
      subst this
      refine .inl ⟨rfl, a, cap, rfl, fun e => ?_⟩
      subst e
      exact nil_cap ht hf
    · obtain ⟨b, off, ha, hb, _⟩ := (ho 0 _ (List.getElem?_eq_getElem (by omega))).2
      refine .inr ⟨b, off, cap, by rw [ha, hol], by omega, hb, fun j hj => ?_⟩
      obtain ⟨_, b', off', ha', hb', hr⟩ := ho j _ (List.getElem?_eq_getElem hj)
      rw [ha] at ha'
      injection ha' with ha'
      injection ha' with e1 e2
      subst e1; subst e2
      exact ⟨by have := hr 0 _ rfl; simpa using this, by have := hr 1 _ rfl; rw [Nat.add_assoc] at this; exact this⟩
  · have hB : Try.prog.bytesOf 42 = 32 := by kernel_rfl
    rw [hB] at h2
    have : reachBytes = 140737488351232 := rfl
    have h4 : fs.length ≤ cap := by omega
    rw [this] at h2
    exact Nat.le_trans (Nat.mul_le_mul_right 32 h4) h2
  · obtain ⟨j, hj⟩ := List.mem_iff_getElem?.1 hm
    exact (ho j q hj).1
#print axioms open_eds
end Go.Proofs.Ytiiblpgiafbaoaa
