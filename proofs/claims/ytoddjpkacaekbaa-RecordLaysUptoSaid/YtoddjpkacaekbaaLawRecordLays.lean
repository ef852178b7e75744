/-
  The row of massiflaw18.RecordLays: for every input the law returns true and each argument reads as it did. Conditions: what it reads is of bulk at most 1048576.
-/
import Derived.Test.YtoddjpkacaekbaaRows
import Derived.Test.YtoddjpkacaekbaaRecLays
import Derived.Test.YtoddjpkacaekbaaArgs
import Derived.Test.YtoddjpkacaekbaaBulk
import Derived.WalkKit
import Derived.ProofKit
import Derived.OpenShut
import Derived.ShutString
import Derived.ChangeOld
import Derived.Below
import Derived.SizedLaws
import Derived.Deep.CondSized
namespace Go.Proofs.Ytoddjpkacaekbaa.recordLays
open Go.ChangeShapes Go.WideShapes Go.ChangeAt Go.RowKit
open Go.ChangeMaps (open_string shut_string)
theorem own : ownKnob Try.prog.godebug = none := by kernel_rfl
theorem laidOut : laidOutB Try.prog = true := by kernel_rfl
set_option maxRecDepth 100000 in
theorem lifted (os : Os) (started : os.Started) (H : Type) (enc : TypeId × Value → H) (F : Stop.Interp) :
    ReturnsInHanded {} Try.checked os 6 .any ((Rows.OpenSpec.upto Rows.recordLaysSpec).pre6 enc Try.prog Try.f6 Rows.recordLaysUptoRow.domain false) (((Rows.OpenSpec.upto Rows.recordLaysSpec).at F).post enc Try.prog Try.f6 false true false false) := by
  refine returnsInHanded_of_cond_sized (C := Try.checked) (s := Rows.OpenSpec.upto Rows.recordLaysSpec) (k := Rows.uptoSmall) rfl own started (by kernel_rfl) Try.func6
    (OpenSpec.witness (enc := enc) (C := Try.checked) (s := Rows.OpenSpec.upto Rows.recordLaysSpec) (k := Rows.uptoSmall) rfl false ⟨#[], #[.string ByteArray.empty, .int .u64 0, .string ByteArray.empty, .agg #[.int .i64 0, .int .u64 0, .int .u64 0, .int .u64 0, .int .u32 0], .slice none 0 0], []⟩ 8 (by kernel_rfl) (by kernel_rfl) (by kernel_rfl) (by kernel_rfl)
      (x := ([.lit (.string []), .lit (.int .u64 0), .lit (.string []), .agg [.lit (.int .i64 0), .lit (.int .u64 0), .lit (.int .u64 0), .lit (.int .u64 0), .lit (.int .u32 0)], .nil], [], [])) (by kernel_rfl) rfl (by kernel_rfl)) ?_
  intro W base args ds gs before hval0 hW _ hk hsz0 _
  have hsz : (DataW.weightsEach Try.prog (Try.f6.params.toList ++ Rows.recordLaysSpec.plain.varTypes Try.prog) (ds ++ gs)).all (· ≤ reachBytes) = true := hsz0
  have hval : ∀ (j : Nat) t v, Try.f6.params[j]? = some t → args[j]? = some v → Value.okWide Try.prog W .any base t v := hval0
  have hW' := hW
  obtain ⟨p, q, hA0, hV, rfl, _, _⟩ := hW
  have hA : DataW.TrodAll enc Try.prog W 0 (fun _ => true) true Try.f6.params.toList args.toList ds p := hA0
  rw [Try.params6] at hA hval hsz
  obtain ⟨v0, vs0, d0, ds0, p0, q0, hargs, rfl, rfl, h0, r0⟩ := trodAll_cons hA
  obtain ⟨v1, vs1, d1, ds1, p1, q1, rfl, rfl, rfl, h1, r1⟩ := trodAll_cons r0
  obtain ⟨v2, vs2, d2, ds2, p2, q2, rfl, rfl, rfl, h2, r2⟩ := trodAll_cons r1
  obtain ⟨v3, vs3, d3, ds3, p3, q3, rfl, rfl, rfl, h3, r3⟩ := trodAll_cons r2
  obtain ⟨v4, vs4, d4, ds4, p4, q4, rfl, rfl, rfl, h4, r4⟩ := trodAll_cons r3
  obtain ⟨rfl, rfl, rfl⟩ := trodAll_nil r4
  obtain rfl : args = #[v0, v1, v2, v3, v4] := by cases args; simp_all
  obtain ⟨rfl, rfl⟩ := trodVars_none hV
  obtain ⟨a0, rfl, rfl, rfl, y0⟩ := open_string Try.underlying9 (hval 0 9 v0 rfl rfl) h0
  have w0 : a0.size ≤ 140737488351232 := by
    have z := sized_string hsz (j := 0) (t := 9) rfl rfl
    rw [Array.length_toList] at z
    exact z
  obtain ⟨a1, rfl, rfl, rfl, w1⟩ := open_int Try.underlying22 (hval 1 22 v1 rfl rfl) h1
  obtain ⟨a2, rfl, rfl, rfl, y2⟩ := open_string Try.underlying9 (hval 2 9 v2 rfl rfl) h2
  have w2 : a2.size ≤ 140737488351232 := by
    have z := sized_string hsz (j := 2) (t := 9) rfl rfl
    rw [Array.length_toList] at z
    exact z
  have k3 := h3
  have lt3 : ∀ x ∈ p3, x.block < W.heap.size := by obtain ⟨m, hm⟩ := k3; exact DataW.trod_lt m _ _ _ hm
  obtain ⟨cs3, n3, rfl, hcl3, hf3⟩ := open_flds Try.underlying34 (by kernel_rfl) (by kernel_rfl) (hval 3 34 v3 rfl rfl) h3
  obtain ⟨b3_0, g3_0, w3_0⟩ := fld_int hf3 0 _ rfl .i64 Try.underlying3
  obtain ⟨b3_1, g3_1, w3_1⟩ := fld_int hf3 1 _ rfl .u64 Try.underlying22
  obtain ⟨b3_2, g3_2, w3_2⟩ := fld_int hf3 2 _ rfl .u64 Try.underlying22
  obtain ⟨b3_3, g3_3, w3_3⟩ := fld_int hf3 3 _ rfl .u64 Try.underlying22
  obtain ⟨b3_4, g3_4, w3_4⟩ := fld_int hf3 4 _ rfl .u32 Try.underlying29
  obtain rfl : cs3 = [.int .i64 b3_0, .int .u64 b3_1, .int .u64 b3_2, .int .u64 b3_3, .int .u32 b3_4] := flds_eq hcl3 (fun i hi => by
    rcases i with _|_|_|_|_|i
    · exact g3_0
    · exact g3_1
    · exact g3_2
    · exact g3_3
    · exact g3_4
    · simp at hi; omega)
  have k4 := h4
  have lt4 : ∀ x ∈ p4, x.block < W.heap.size := by obtain ⟨m, hm⟩ := k4; exact DataW.trod_lt m _ _ _ hm
  obtain ⟨s4, len4, cap4, rfl⟩ := okWide_slice Try.underlying43 (hval 4 43 v4 rfl rfl)
  obtain ⟨a4, n4, w4, y4, z4, bk4⟩ := open_strs_bulk hsz (j := 4) (t := 43) rfl rfl Try.underlying43 Try.underlying9 (by kernel_rfl) (by kernel_rfl) h4
  have hb := bulk_le hk
  simp only [List.cons_append, List.nil_append, List.append_nil, bulk_cons, bulk_str, Array.length_toList] at hb
  have ez0 : a0.data.size = a0.size := rfl
  have ez2 : a2.data.size = a2.size := rfl
  obtain ⟨p1, rfl, q1⟩ := u64_nat w1
  obtain ⟨m1, rfl, s1⟩ := u64_nat w3_1
  obtain ⟨m2, rfl, s2⟩ := u64_nat w3_2
  obtain ⟨m3, rfl, s3⟩ := u64_nat w3_3
  obtain ⟨m4, rfl, s4⟩ := u32_nat w3_4
  clear hA0 hval0 hsz0 hsz
  refine (lays_any a0 p1 a2 ⟨b3_0, m1, m2, m3, m4⟩ _ a4 W (by omega) q1 (by omega) ⟨w3_0, s1, s2, s3, s4⟩ w4 (by omega) (by unfold Rec.sizes; omega)).mono fun e W' ⟨he, bel⟩ => ?_
  subst he
  exact ⟨_, rfl, _, _, _, [], _, [], hW', trodAll_mk1 (shut_bool Try.underlying4 _), (trodAll_cons_mk (shut_string Try.underlying9 y0) (trodAll_cons_mk (shut_int Try.underlying22 w1) (trodAll_cons_mk (shut_string Try.underlying9 y2) (trodAll_cons_mk (Below.trod laidOut (by kernel_rfl) (of_decide_eq_true (by kernel_rfl)) k3 bel lt3) (trodAll_cons_mk (Below.trod laidOut (by kernel_rfl) (of_decide_eq_true (by kernel_rfl)) k4 bel lt4) trodAll_mk0))))), rfl, bel.frame _, fun h => by cases h⟩
theorem over : Rows.recordLaysUptoRow.holds Try.pinned (Rows.OpenSpec.upto Rows.recordLaysSpec) :=
  OpenClaim.holds_of_cond 6 Try.f6 rfl rfl rfl rfl rfl rfl rfl ⟨rfl, rfl, rfl, rfl, rfl⟩ rfl rfl rfl rfl rfl (by kernel_rfl) Try.func6 (by kernel_rfl)
    (of_decide_eq_true (by kernel_rfl)) (by unfold Func.isWrapper; first | (rw [if_pos (by decide +kernel)]; kernel_rfl) | (rw [if_neg (by decide +kernel)]; exact ⟨rfl, rfl⟩))
    (fun os started H enc _ F => lifted os started H enc F)
end Go.Proofs.Ytoddjpkacaekbaa.recordLays
namespace Go.Proofs.Ytoddjpkacaekbaa
theorem recordLays_holds : Rows.RecordLaysUptoSaid := recordLays.over
#print axioms recordLays_holds
end Go.Proofs.Ytoddjpkacaekbaa
