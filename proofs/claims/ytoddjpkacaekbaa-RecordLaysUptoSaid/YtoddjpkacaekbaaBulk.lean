/-
  What a bound on the bulk of the arguments gives: texts and lists of texts are short.
-/
import Derived.Test.YtoddjpkacaekbaaRows
import Derived.Test.YtoddjpkacaekbaaBase
namespace Go.Proofs.Ytoddjpkacaekbaa
open Go.RowKit Go.ChangeShapes Go.WideShapes
theorem bulk_cons {H : Type} (d : DataW H) (l : List (DataW H)) : Rows.uptoBulkAll (d :: l) = Rows.uptoBulk d + Rows.uptoBulkAll l := by
  simp only [Rows.uptoBulkAll]
theorem bulk_str {H : Type} (bytes : List UInt8) : Rows.uptoBulk (DataW.lit (H := H) (.string bytes)) = bytes.length + 1 := by
  simp [Rows.uptoBulk]
theorem bulk_strs {H : Type} : ∀ ps : List ByteArray, Rows.uptoBulkAll (strs (H := H) ps) = (ps.map ByteArray.size).sum + ps.length
  | [] => by simp [strs, Rows.uptoBulkAll]
  | p :: ps => by
    have ih := bulk_strs (H := H) ps
    unfold strs at ih ⊢
    rw [List.map_cons, bulk_cons, ih, bulk_str, List.map_cons, List.sum_cons, List.length_cons, Array.length_toList]
    show p.size + 1 + _ = _
    omega
theorem bulk_le {H : Type} {l : List (DataW H)} (hk : Rows.uptoSmall H l = true) : Rows.uptoBulkAll l ≤ 1048576 := of_decide_eq_true hk
theorem open_strs_bulk {H : Type} {enc : TypeId × Value → H} {P : Program} {W : World} {t e : TypeId} {a : Option Addr} {len cap : Nat} {d : DataW H} {p : List MemPlace} {ts : List TypeId} {ds : List (DataW H)} {j : Nat}
    (hsz : (DataW.weightsEach P ts ds).all (· ≤ reachBytes) = true) (htj : ts[j]? = some t) (hdj : ds[j]? = some d)
    (ht : P.underlying t = some (.slice e)) (he : P.underlying e = some .string) (hc : P.cellsOf e = 1) (hB : P.bytesOf e = 16)
    (h : DataW.Trod enc P W 0 (fun _ => true) true t (.slice a len cap) d p) :
    ∃ ps : List ByteArray, ps.length = len ∧ SlV W (.slice a len cap) (ps.map Value.string) ∧ ps.length * 16 ≤ 140737488351232 ∧ (∀ s ∈ ps, s.size ≤ 140737488351232) ∧ (ps.map ByteArray.size).sum + ps.length ≤ Rows.uptoBulk d := by
  obtain ⟨ps, h1, h2, h3, h4⟩ := open_strs_slv hsz htj hdj ht he hc hB h
  refine ⟨ps, h1, h2, h3, h4, ?_⟩
  obtain ⟨fuel, hf⟩ := h
  rcases open_strings ht he hc hf with ⟨hcs, _⟩ | ⟨x, l, c, ss, hcs, _, hl, hm, hz, hx, hcell, hws⟩
  · simp [Value.cells] at hcs
    obtain ⟨rfl, rfl, rfl⟩ := hcs
    have : ps = [] := List.eq_nil_of_length_eq_zero h1
    subst this
    simp
  · simp [Value.cells] at hcs
    obtain ⟨rfl, rfl, rfl⟩ := hcs
    have hd : d = .slice (strs (ss.take len)) (strs (ss.drop len)) := congrArg Prod.fst hx
    simp only [if_true] at hz
    have hlen : (ss.take len).length = len := by simp; omega
    have hps : ps = ss.take len := by
      rcases h2 with ⟨h5, _⟩ | ⟨b, off, cap', hv, hcc, hb, hxx⟩
      · have h5' : ps = [] := by simpa using h5
        subst h5'
        rw [← h1]; rfl
      · injection hv with e1 e2 e3
        apply List.ext_getElem (by rw [h1, hlen])
        intro k hk1 hk2
        have q1 := hxx k (by simpa using hk1)
        have q2 := hcell k (by rw [hlen] at hk2; omega)
        obtain rfl := Option.some.inj e1
        rw [Addr.add_lit, q1, List.getElem_map] at q2
        have q3 := Option.some.inj q2
        injection q3 with q4
        rw [q4, List.getElem_take]
        simp [List.getD, show k < ss.length by rw [List.length_take] at hk2; omega]
    subst hd
    rw [hps]
    have := bulk_strs (H := H) (ss.take len)
    simp only [Rows.uptoBulk]
    omega
#print axioms open_strs_bulk
end Go.Proofs.Ytoddjpkacaekbaa
