/-
  The row of massiflaw18.RecordTurned: for every input the law returns true and each argument reads as it did. Conditions: none.
-/
import Derived.Test.YtoddjpkacaekbaaRows
import Derived.Test.YtoddjpkacaekbaaRecTurned
import Derived.Test.YtoddjpkacaekbaaArgs
import Derived.WalkKit
import Derived.ProofKit
import Derived.OpenShut
import Derived.ShutString
import Derived.ChangeOld
import Derived.Below
import Derived.SizedLaws
namespace Go.Proofs.Ytoddjpkacaekbaa.recordTurned
open Go.ChangeShapes Go.WideShapes Go.ChangeAt Go.RowKit
open Go.ChangeMaps (open_string shut_string)
theorem own : ownKnob Try.prog.godebug = none := by kernel_rfl
theorem laidOut : laidOutB Try.prog = true := by kernel_rfl
set_option maxRecDepth 100000 in
theorem lifted (os : Os) (started : os.Started) (H : Type) (enc : TypeId × Value → H) :
    ReturnsInHanded {} Try.checked os 5 .any (Rows.recordTurnedSpec.pre6 enc Try.prog Try.f5 Rows.recordTurnedRow.domain false) (Rows.recordTurnedSpec.post enc Try.prog Try.f5 false true false false) := by
  refine returnsInHanded_of_change_sized (C := Try.checked) own started (by kernel_rfl) Try.func5
    (ChangeSpec.witness6 (enc := enc) (C := Try.checked) false ⟨#[], #[.string ByteArray.empty, .int .u64 0, .string ByteArray.empty, .agg #[.int .i64 0, .int .u64 0, .int .u64 0, .int .u64 0, .int .u32 0], .int .i64 0, .int .u8 0], []⟩ 8 (by kernel_rfl) (by kernel_rfl) (by kernel_rfl) (by kernel_rfl)) ?_
  intro W base args ds gs before hval0 hW _ hsz0 _
  have hsz : (DataW.weightsEach Try.prog (Try.f5.params.toList ++ Rows.recordTurnedSpec.plain.varTypes Try.prog) (ds ++ gs)).all (· ≤ reachBytes) = true := hsz0
  have hval : ∀ (j : Nat) t v, Try.f5.params[j]? = some t → args[j]? = some v → Value.okWide Try.prog W .any base t v := hval0
  have hW' := hW
  obtain ⟨p, q, hA0, hV, rfl, _, _⟩ := hW
  have hA : DataW.TrodAll enc Try.prog W 0 (fun _ => true) true Try.f5.params.toList args.toList ds p := hA0
  rw [Try.params5] at hA hval hsz
  obtain ⟨v0, vs0, d0, ds0, p0, q0, hargs, rfl, rfl, h0, r0⟩ := trodAll_cons hA
  obtain ⟨v1, vs1, d1, ds1, p1, q1, rfl, rfl, rfl, h1, r1⟩ := trodAll_cons r0
  obtain ⟨v2, vs2, d2, ds2, p2, q2, rfl, rfl, rfl, h2, r2⟩ := trodAll_cons r1
  obtain ⟨v3, vs3, d3, ds3, p3, q3, rfl, rfl, rfl, h3, r3⟩ := trodAll_cons r2
  obtain ⟨v4, vs4, d4, ds4, p4, q4, rfl, rfl, rfl, h4, r4⟩ := trodAll_cons r3
  obtain ⟨v5, vs5, d5, ds5, p5, q5, rfl, rfl, rfl, h5, r5⟩ := trodAll_cons r4
  obtain ⟨rfl, rfl, rfl⟩ := trodAll_nil r5
  obtain rfl : args = #[v0, v1, v2, v3, v4, v5] := by cases args; simp_all
  obtain ⟨rfl, rfl⟩ := trodVars_none hV
  obtain ⟨a0, rfl, rfl, rfl, y0⟩ := open_string Try.underlying9 (hval 0 9 v0 rfl rfl) h0
  have w0 : a0.size ≤ 140737488351232 := by
    have z := sized_string hsz (j := 0) (t := 9) rfl rfl
    rw [Array.length_toList] at z
    exact z
  obtain ⟨a1, rfl, rfl, rfl, w1⟩ := open_int Try.underlying22 (hval 1 22 v1 rfl rfl) h1
  obtain ⟨a2, rfl, rfl, rfl, y2⟩ := open_string Try.underlying9 (hval 2 9 v2 rfl rfl) h2
  have w2 : a2.size ≤ 140737488351232 := by
    have z := sized_string hsz (j := 2) (t := 9) rfl rfl
    rw [Array.length_toList] at z
    exact z
  have k3 := h3
  have lt3 : ∀ x ∈ p3, x.block < W.heap.size := by obtain ⟨m, hm⟩ := k3; exact DataW.trod_lt m _ _ _ hm
  obtain ⟨cs3, n3, rfl, hcl3, hf3⟩ := open_flds Try.underlying34 (by kernel_rfl) (by kernel_rfl) (hval 3 34 v3 rfl rfl) h3
  obtain ⟨b3_0, g3_0, w3_0⟩ := fld_int hf3 0 _ rfl .i64 Try.underlying3
  obtain ⟨b3_1, g3_1, w3_1⟩ := fld_int hf3 1 _ rfl .u64 Try.underlying22
  obtain ⟨b3_2, g3_2, w3_2⟩ := fld_int hf3 2 _ rfl .u64 Try.underlying22
  obtain ⟨b3_3, g3_3, w3_3⟩ := fld_int hf3 3 _ rfl .u64 Try.underlying22
  obtain ⟨b3_4, g3_4, w3_4⟩ := fld_int hf3 4 _ rfl .u32 Try.underlying29
  obtain rfl : cs3 = [.int .i64 b3_0, .int .u64 b3_1, .int .u64 b3_2, .int .u64 b3_3, .int .u32 b3_4] := flds_eq hcl3 (fun i hi => by
    rcases i with _|_|_|_|_|i
    · exact g3_0
    · exact g3_1
    · exact g3_2
    · exact g3_3
    · exact g3_4
    · simp at hi; omega)
  obtain ⟨a4, rfl, rfl, rfl, w4⟩ := open_int Try.underlying3 (hval 4 3 v4 rfl rfl) h4
  obtain ⟨a5, rfl, rfl, rfl, w5⟩ := open_int Try.underlying5 (hval 5 5 v5 rfl rfl) h5
  obtain ⟨p1, rfl, q1⟩ := u64_nat w1
  obtain ⟨m1, rfl, s1⟩ := u64_nat w3_1
  obtain ⟨m2, rfl, s2⟩ := u64_nat w3_2
  obtain ⟨m3, rfl, s3⟩ := u64_nat w3_3
  obtain ⟨m4, rfl, s4⟩ := u32_nat w3_4
  obtain ⟨c5, rfl⟩ := u8_byte w5
  clear hA0 hval0 hsz0 hsz
  refine (turned_any a0 p1 a2 ⟨b3_0, m1, m2, m3, m4⟩ a4 c5 W w0 q1 w2 ⟨w3_0, s1, s2, s3, s4⟩ w4).mono fun e W' ⟨he, bel⟩ => ?_
  subst he
  exact ⟨_, rfl, _, _, _, [], _, [], hW', trodAll_mk1 (shut_bool Try.underlying4 _), (trodAll_cons_mk (shut_string Try.underlying9 y0) (trodAll_cons_mk (shut_int Try.underlying22 w1) (trodAll_cons_mk (shut_string Try.underlying9 y2) (trodAll_cons_mk (Below.trod laidOut (by kernel_rfl) (of_decide_eq_true (by kernel_rfl)) k3 bel lt3) (trodAll_cons_mk (shut_int Try.underlying3 w4) (trodAll_cons_mk (shut_int Try.underlying5 w5) trodAll_mk0)))))), rfl, bel.frame _, fun h => by cases h⟩
theorem over : Rows.recordTurnedRow.holds Try.pinned (OpenSpec.ofChange Rows.recordTurnedSpec) :=
  OpenClaim.holds_of_wide 5 Try.f5 rfl rfl rfl rfl rfl rfl rfl ⟨rfl, rfl, rfl, rfl, rfl⟩ rfl rfl rfl rfl rfl (by kernel_rfl) Try.func5 (by kernel_rfl)
    (of_decide_eq_true (by kernel_rfl)) (by unfold Func.isWrapper; first | (rw [if_pos (by decide +kernel)]; kernel_rfl) | (rw [if_neg (by decide +kernel)]; exact ⟨rfl, rfl⟩))
    (fun os started H enc _ => lifted os started H enc)
end Go.Proofs.Ytoddjpkacaekbaa.recordTurned
namespace Go.Proofs.Ytoddjpkacaekbaa
theorem recordTurned_holds : Rows.RecordTurnedSaid := recordTurned.over
#print axioms recordTurned_holds
end Go.Proofs.Ytoddjpkacaekbaa
