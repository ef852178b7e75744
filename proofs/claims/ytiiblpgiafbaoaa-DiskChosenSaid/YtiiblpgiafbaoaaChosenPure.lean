/-
  massiflaw17.DiskChosen, in plain Lean: with keep false but at one place just one thing of what may be lost stays. No program in sight.
-/
import Derived.Test.YtiiblpgiafbaoaaSecPure
namespace Go.Proofs.Ytiiblpgiafbaoaa
open Go
/-- Are the bytes from a place on, up to i, those of another text? -/
def eqUp (x y : ByteArray) (s i : Nat) : Bool := decide (∀ k, k < i → s ≤ k → byt x k = byt y k)
theorem eqUp_start (x y : ByteArray) (s : Nat) : eqUp x y s s = true := decide_eq_true fun k h1 h2 => by omega
theorem eqUp_succ (x y : ByteArray) (s i : Nat) (h : s ≤ i) : eqUp x y s (i + 1) = (eqUp x y s i && decide (byt x i = byt y i)) := by
  unfold eqUp
  rw [Bool.eq_iff_iff, Bool.and_eq_true, decide_eq_true_iff, decide_eq_true_iff, decide_eq_true_iff]
  constructor
  · intro hh
    exact ⟨fun k h1 h2 => hh k (by omega) h2, hh i (by omega) h⟩
  · rintro ⟨h1, h2⟩ k h3 h4
    by_cases e : k = i
    · rw [e]; exact h2
    · exact h1 k (by omega) h4
namespace Dk
def unl (was now : ByteArray) (s : Nat) : Bool := !eqUp was now (64 * s) (64 * s + 64)
theorem unl_sector {was now : ByteArray} {s e : Nat} (he : e = max now.size was.size) (hs : s * 64 < e) : unl was now s = false ↔ sector now s e = sector was s e := by
  unfold unl eqUp
  rw [Bool.not_eq_false', decide_eq_true_iff]
  constructor
  · intro h
    refine byt_ext (by rw [sector_size _ _ _ hs, sector_size _ _ _ hs]) fun i hi => ?_
    rw [sector_size _ _ _ hs] at hi
    rw [byt_sector _ _ _ _ hi, byt_sector _ _ _ _ hi]
    exact (h (s * 64 + i) (by omega) (by omega)).symm
  · intro h k h1 h2
    by_cases hk : k < e
    · exact (sector_same h (by omega) hk).symm
    · rw [byt_ge (by omega), byt_ge (by omega)]
def cnt (was now : ByteArray) (k : Nat) : Nat := ((List.range k).filter (unl was now)).length
theorem cnt_succ (was now : ByteArray) (k : Nat) : cnt was now (k + 1) = cnt was now k + if unl was now k = true then 1 else 0 := by
  unfold cnt
  rw [List.range_succ, List.filter_append, List.length_append]
  congr 1
  by_cases h : unl was now k = true
  · simp [h]
  · simp [h]
def pre (was now : ByteArray) : List Int := if was.size = now.size then [] else [-1]
def looseL (was now : ByteArray) (k : Nat) : List Int := pre was now ++ ((List.range k).filter (unl was now)).map Int.ofNat
theorem looseL_succ (was now : ByteArray) (k : Nat) : looseL was now (k + 1) = looseL was now k ++ if unl was now k = true then [(k : Int)] else [] := by
  unfold looseL
  rw [List.range_succ, List.filter_append, List.map_append, List.append_assoc]
  congr 2
  by_cases h : unl was now k = true
  · simp [h]
  · simp [h]
theorem looseL_len (was now : ByteArray) (k : Nat) : (looseL was now k).length = (pre was now).length + cnt was now k := by
  unfold looseL cnt; rw [List.length_append, List.length_map]
theorem cnt_le (was now : ByteArray) (k : Nat) : cnt was now k ≤ k := by
  unfold cnt
  have := List.length_filter_le (unl was now) (List.range k)
  rw [List.length_range] at this; exact this
theorem looseL_le (was now : ByteArray) (k : Nat) : (looseL was now k).length ≤ k + 1 := by
  rw [looseL_len]
  have h1 := cnt_le was now k
  have h2 : (pre was now).length ≤ 1 := by unfold pre; split <;> simp
  omega
theorem loose_at {was now : ByteArray} {s N : Nat} (hs : s < N) (hu : unl was now s = true) : (looseL was now N)[(pre was now).length + cnt was now s]? = some (s : Int) := by
  induction N with
  | zero => omega
  | succ N ih =>
    rw [looseL_succ]
    by_cases h : s = N
    · subst h
      rw [if_pos hu, List.getElem?_append_right (by rw [looseL_len]; exact Nat.le_refl _), looseL_len, Nat.sub_self]
      rfl
    · have h2 := ih (by omega)
      rw [List.getElem?_append_left (by have := (List.getElem?_eq_some_iff.1 h2).1; exact this)]
      exact h2
theorem loose_up (was now : ByteArray) (N : Nat) : (looseL was now N).Pairwise (· < ·) := by
  unfold looseL
  rw [List.pairwise_append]
  refine ⟨?_, ?_, ?_⟩
  · unfold pre; split <;> simp
  · rw [List.pairwise_map]
    refine List.Pairwise.imp ?_ (List.Pairwise.filter _ (List.pairwise_lt_range (n := N)))
    intro a b h
    exact Int.ofNat_lt.2 h
  · intro a ha b hb
    obtain ⟨n, _, rfl⟩ := List.mem_map.1 hb
    unfold pre at ha
    split at ha
    · cases ha
    · simp only [List.mem_singleton] at ha
      subst ha
      show (-1 : Int) < (n : Int)
      omega
theorem loose_inj {was now : ByteArray} {N i j : Nat} {x : Int} (hi : (looseL was now N)[i]? = some x) (hj : (looseL was now N)[j]? = some x) : i = j := by
  have hp := List.pairwise_iff_getElem.1 (loose_up was now N)
  obtain ⟨h1, e1⟩ := List.getElem?_eq_some_iff.1 hi
  obtain ⟨h2, e2⟩ := List.getElem?_eq_some_iff.1 hj
  rcases Nat.lt_trichotomy i j with h | h | h
  · have := hp i j h1 h2 h; omega
  · exact h
  · have := hp j i h2 h1 h; omega
/-- How many choices have been taken behind k sectors. -/
theorem secs_cnt {keep : List Bool} (hk : keep ≠ []) (now was : ByteArray) (c : Nat) : ∀ K, (K = 0 ∨ (K - 1) * 64 < endLen ⟨now, was⟩) → (secs keep ⟨now, was⟩ (endLen ⟨now, was⟩) c K).2 = c + cnt was now K
  | 0, _ => rfl
  | K + 1, h => by
    have hK : K * 64 < endLen ⟨now, was⟩ := by rcases h with h | h; cases h; simpa using h
    have ih := secs_cnt hk now was c K (by omega)
    rw [cnt_succ]
    have hu := unl_sector (was := was) (now := now) (s := K) (e := endLen ⟨now, was⟩) rfl hK
    unfold secs
    dsimp only
    by_cases hs : sector now K (endLen ⟨now, was⟩) = sector was K (endLen ⟨now, was⟩)
    · rw [if_pos hs, hu.2 hs, if_neg (by decide)]
      exact ih
    · have hu2 : unl was now K = true := by
        cases hx : unl was now K with
        | true => rfl
        | false => exact absurd (hu.1 hx) hs
      rw [if_neg hs, hu2, if_pos rfl]
      show (choose keep _).2 = _
      unfold choose
      rw [if_neg hk]
      dsimp only
      rw [ih]; omega
def keepAt (n only : Nat) : List Bool := (List.replicate n false).set only true
theorem keepAt_get {n only j : Nat} (hj : j < n) (ho : only < n) : (keepAt n only).getD (j % (keepAt n only).length) false = decide (j = only) := by
  have hl : (keepAt n only).length = n := by unfold keepAt; simp
  rw [hl, Nat.mod_eq_of_lt hj]
  unfold keepAt
  rw [List.getD_eq_getElem?_getD, List.getElem?_set]
  by_cases h : only = j
  · rw [if_pos h, if_pos (by simpa using ho), decide_eq_true h.symm]; rfl
  · rw [if_neg h, List.getElem?_replicate, if_pos hj, decide_eq_false (fun e => h e.symm)]; rfl
/-- What is asked for. -/
def wantB (was now : ByteArray) (x : Int) (i : Nat) : UInt8 := if x = ((i / 64 : Nat) : Int) then byt now i else byt was i
def wantN (was now : ByteArray) (x : Int) : Nat := if x = -1 then now.size else was.size
def want (was now : ByteArray) (x : Int) : ByteArray := ⟨((List.range (wantN was now x)).map (wantB was now x)).toArray⟩
theorem want_size (was now : ByteArray) (x : Int) : (want was now x).size = wantN was now x := by
  show (((List.range (wantN was now x)).map (wantB was now x)).toArray).size = _
  simp
theorem chosen_law (was now : ByteArray) (only : Nat) (x : Int) (hx : (looseL was now (nsec ⟨now, was⟩))[only]? = some x) :
    (afterF (keepAt (looseL was now (nsec ⟨now, was⟩)).length only) ⟨now, was⟩ 0).1 = want was now x := by
  obtain ⟨L, hL⟩ : ∃ L, L = looseL was now (nsec ⟨now, was⟩) := ⟨_, rfl⟩
  obtain ⟨ho, _⟩ := List.getElem?_eq_some_iff.1 hx
  rw [← hL] at ho ⊢
  obtain ⟨keep, hk⟩ : ∃ k, k = keepAt L.length only := ⟨_, rfl⟩
  rw [← hk]
  have hne : keep ≠ [] := by
    intro e
    have : keep.length = L.length := by rw [hk]; unfold keepAt; simp
    rw [e] at this
    simp at this; omega
  have hch : ∀ c, c < L.length → choose keep c = (decide (c = only), c + 1) := by
    intro c hc
    unfold choose
    rw [if_neg hne, hk, keepAt_get hc ho]
  have hfirst : firstQ keep ⟨now, was⟩ 0 = if was.size = now.size then (true, 0) else (decide (0 = only), 1) := by
    unfold firstQ
    dsimp only
    split
    · rfl
    · rw [hch 0 (by omega)]
  have hpre : (firstQ keep ⟨now, was⟩ 0).2 = (pre was now).length := by
    rw [hfirst]; unfold pre; split <;> rfl
  have hlen : stayLen keep ⟨now, was⟩ 0 = wantN was now x := by
    unfold stayLen wantN
    rw [hfirst]
    dsimp only
    by_cases hs : was.size = now.size
    · rw [if_pos hs, if_pos rfl]
      split
      · rfl
      · exact hs.symm
    · rw [if_neg hs]
      have h0 : L[0]? = some (-1) := by rw [hL]; unfold looseL pre; rw [if_neg hs]; rfl
      by_cases h : only = 0
      · rw [h, ← hL, h0] at hx
        injection hx with hx
        rw [if_pos hx.symm, h]; rfl
      · have h1 : ¬ x = -1 := by
          intro e
          rw [e, ← hL] at hx
          rw [hL] at hx h0
          exact h (loose_inj hx h0)
        rw [if_neg h1, if_neg]
        simp only [decide_eq_true_iff]
        exact fun e => h e.symm
  refine byt_ext (by rw [afterF_size_eq, hlen, want_size]) fun i hi => ?_
  rw [afterF_size_eq] at hi
  rw [afterF_byt _ _ _ _ hi]
  have hle := stayLen_le keep ⟨now, was⟩ 0
  have hnx : i / 64 * 64 < endLen ⟨now, was⟩ := by omega
  have hw : byt (want was now x) i = wantB was now x i := by
    unfold want
    rw [byt_of_list, List.getD_eq_getElem?_getD, List.getElem?_map, List.getElem?_range (by rw [← hlen]; exact hi)]; rfl
  rw [hw]
  unfold wantB
  dsimp only
  have hu := unl_sector (was := was) (now := now) (s := i / 64) (e := endLen ⟨now, was⟩) rfl hnx
  cases hun : unl was now (i / 64) with
  | false =>
    have he := sector_same (hu.1 hun) rfl (show i < endLen ⟨now, was⟩ by omega)
    rw [he]
    split <;> split <;> rfl
  | true =>
    have hsN : i / 64 < nsec ⟨now, was⟩ := by unfold nsec; omega
    have hat := loose_at hsN hun
    rw [hpre] at *
    have hc : (secs keep ⟨now, was⟩ (endLen ⟨now, was⟩) (pre was now).length (i / 64)).2 = (pre was now).length + cnt was now (i / 64) := secs_cnt hne now was _ (i / 64) (by omega)
    have hlt : (pre was now).length + cnt was now (i / 64) < L.length := by rw [hL]; exact (List.getElem?_eq_some_iff.1 hat).1
    have hsel : sel keep ⟨now, was⟩ (endLen ⟨now, was⟩) (pre was now).length (i / 64) = decide ((pre was now).length + cnt was now (i / 64) = only) := by
      unfold sel nextQ
      rw [if_neg (fun e => by rw [hu.2 e] at hun; cases hun), hc, hch _ hlt]
    rw [hsel]
    by_cases hq : (pre was now).length + cnt was now (i / 64) = only
    · rw [hq, hx] at hat
      injection hat with hat
      rw [decide_eq_true hq, if_pos rfl, if_pos hat]
    · rw [decide_eq_false hq, if_neg (by decide), if_neg]
      intro e
      rw [e] at hx
      exact hq (loose_inj hat hx)
theorem loose_none {was now : ByteArray} (h : looseL was now (nsec ⟨now, was⟩) = []) : now = was := by
  have hp : was.size = now.size := by
    unfold looseL pre at h
    split at h
    · assumption
    · cases h
  have hf : (List.range (nsec ⟨now, was⟩)).filter (unl was now) = [] := by
    unfold looseL at h
    have := (List.append_eq_nil_iff.1 h).2
    simpa using this
  refine byt_ext hp.symm fun i hi => ?_
  have hs : i / 64 < nsec ⟨now, was⟩ := by
    unfold nsec endLen; dsimp only; omega
  have hu : unl was now (i / 64) = false := by
    cases hx : unl was now (i / 64) with
    | false => rfl
    | true =>
      have : i / 64 ∈ (List.range (nsec ⟨now, was⟩)).filter (unl was now) := List.mem_filter.2 ⟨List.mem_range.2 hs, hx⟩
      rw [hf] at this; cases this
  unfold unl eqUp at hu
  rw [Bool.not_eq_false', decide_eq_true_iff] at hu
  exact (hu i (by omega) (by omega)).symm
end Dk
end Go.Proofs.Ytiiblpgiafbaoaa
