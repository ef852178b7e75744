/-
  A REGION THAT DRAWS ITS ORDER, two of whose operations (p and q) leave values of which something is said together (two new blocks: they are not one), for a third (s) that uses both.
-/
import Derived.Test.YtbfbajfdlkgloaaGreatDoorG01

namespace Go.Proofs.YtbfbajfdlkgloaaGreatDoor
open Go Go.RowKit
section
variable {P : Program} {ops : Array Oper} {Q : Exit → Act → World → Prop}
def PairInv (ops : Array Oper) (p q : Nat) (Rp : Value → Value → Prop) (listed : Array Bool) (a : Act) : Prop :=
  ∀ op oq, ops[p]? = some op → ops[q]? = some oq → listed.getD p true = true → listed.getD q true = true → Rp (slotVal a op) (slotVal a oq)
/-- What s, the last, leaves of both. -/
def PairFin (ops : Array Oper) (p q s : Nat) (Fin : Value → Value → World → Prop) (listed : Array Bool) (a : Act) (w : World) : Prop :=
  ∀ op oq, ops[p]? = some op → ops[q]? = some oq → listed.getD s true = true → Fin (slotVal a op) (slotVal a oq) w
def PairNew (R : Nat → Value → World → Prop) (p q : Nat) (Rp : Value → Value → Prop) (i : Nat) (v : Value) (w : World) : Prop := (i = p → ∀ vq, R q vq w → Rp v vq) ∧ (i = q → ∀ vp, R p vp w → Rp vp v)
def LStepP (P : Program) (ops : Array Oper) (uses : Nat → List Nat) (R : Nat → Value → World → Prop) (Pre : Nat → World → Prop) (B : World → Prop) (E : Nat → World → World → Prop) (p q s : Nat) (Rp : Value → Value → Prop) (Fin : Value → Value → World → Prop) (Q : Exit → Act → World → Prop) (a₀ : Act) (i : Nat) (o : Oper) : Prop :=
  ∀ a w, B w → Pre i w → a.tmps.size = a₀.tmps.size → a.defers = a₀.defers →
    (∀ j oj, ops[j]? = some oj → j ∈ uses i → R j (slotVal a oj) w) →
    (∀ t, t ∈ o.looksAt ops → (∀ j oj, ops[j]? = some oj → oj.dst = some t → edgeTo o j = false) → a.tmps[t]? = a₀.tmps[t]?) →
    (i = s → ∀ op oq, ops[p]? = some op → ops[q]? = some oq → Rp (slotVal a op) (slotVal a oq)) →
    if Region.wanted o (yielded ops a.tmps) then o.wp P a w (fun a' w' => ∃ v, a' = a.put o.dst v ∧ R i (if o.dst = none then slotVal a o else v) w' ∧ B w' ∧ E i w w' ∧ PairNew R p q Rp i v w ∧ (i = s → ∀ op oq, ops[p]? = some op → ops[q]? = some oq → Fin (slotVal a op) (slotVal a oq) w')) Q
    else R i (if o.dst = none then slotVal a o else undef) w ∧ i ≠ p ∧ i ≠ q ∧ i ≠ s
theorem lstepP_of {uses : Nat → List Nat} {R : Nat → Value → World → Prop} {Pre : Nat → World → Prop} {B : World → Prop} {E : Nat → World → World → Prop} {p q s : Nat} {Rp : Value → Value → Prop} {Fin : Value → Value → World → Prop} {a₀ : Act} {i : Nat} {o : Oper} (hp : i ≠ p) (hq : i ≠ q) (hs' : i ≠ s)
    (h : LStep P ops uses R Pre B E Q a₀ i o) : LStepP P ops uses R Pre B E p q s Rp Fin Q a₀ i o := by
  intro a w hB hpre hs hd new old _
  have h1 := h a w hB hpre hs hd new old
  split
  · rename_i hw
    rw [if_pos hw] at h1
    refine Oper.wp_mono (fun a' w' h => ?_) h1
    obtain ⟨v, e, r1, r2, r3⟩ := h
    exact ⟨v, e, r1, r2, r3, ⟨fun e => absurd e hp, fun e => absurd e hq⟩, fun e => absurd e hs'⟩
  · rename_i hw
    rw [if_neg hw] at h1
    exact ⟨h1, hp, hq, hs'⟩
theorem lstepP_run {uses : Nat → List Nat} {R : Nat → Value → World → Prop} {Pre : Nat → World → Prop} {B : World → Prop} {E : Nat → World → World → Prop} {p q s : Nat} {Rp : Value → Value → Prop} {Fin : Value → Value → World → Prop} {a₀ : Act} {i : Nat} {o : Oper}
    (h : ∀ a w, Left ops uses R Pre B a₀ i o a w → (i = s → ∀ op oq, ops[p]? = some op → ops[q]? = some oq → Rp (slotVal a op) (slotVal a oq)) → Region.wanted o (yielded ops a.tmps) = true ∧ ∀ K : Act → World → Prop, (∀ v w', R i (if o.dst = none then slotVal a o else v) w' → B w' → E i w w' → PairNew R p q Rp i v w → (i = s → ∀ op oq, ops[p]? = some op → ops[q]? = some oq → Fin (slotVal a op) (slotVal a oq) w') → K (a.put o.dst v) w') → o.wp P a w K Q) :
    LStepP P ops uses R Pre B E p q s Rp Fin Q a₀ i o := by
  intro a w hB hp hs hd new old hrp
  obtain ⟨h1, h2⟩ := h a w ⟨hB, hp, hs, new, fun t ht => old t (isOld_spec ht).1 (isOld_spec ht).2⟩ hrp
  rw [if_pos h1]
  exact h2 _ fun v w' r1 r2 r3 r4 r5 => ⟨v, rfl, r1, r2, r3, r4, r5⟩
def pairOk (ops : Array Oper) (p q s : Nat) : Bool :=
  p != q && p != s && q != s && decide (s < ops.size) && (match ops[p]? with | some o => o.dst.isSome | none => false) && (match ops[q]? with | some o => o.dst.isSome | none => false) && (match ops[s]? with | some o => (edgeTo o p && edgeTo o q) && ((List.range ops.size).all fun j => j == s || (foreOf ops s).contains j) && (match o.dst with | none => true | some _ => false) | none => false)
theorem pairOk_spec {p q s : Nat} (h : pairOk ops p q s = true) : p ≠ q ∧ p ≠ s ∧ q ≠ s ∧ (∀ o, ops[p]? = some o → o.dst ≠ none) ∧ (∀ o, ops[q]? = some o → o.dst ≠ none) ∧ (∀ o, ops[s]? = some o → edgeTo o p = true ∧ edgeTo o q = true ∧ (∀ j, j < ops.size → j ≠ s → j ∈ foreOf ops s) ∧ o.dst = none) ∧ s < ops.size := by
  unfold pairOk at h
  simp only [Bool.and_eq_true, bne_iff_ne, ne_eq, decide_eq_true_eq] at h
  obtain ⟨⟨⟨⟨⟨⟨h1, h2⟩, h3⟩, h4⟩, h5⟩, h6⟩, h7⟩ := h
  refine ⟨h1, h2, h3, fun o ho => ?_, fun o ho => ?_, fun o ho => ?_, h4⟩
  · rw [ho] at h5
    intro e
    have h5 : o.dst.isSome = true := h5
    rw [e] at h5; cases h5
  · rw [ho] at h6
    intro e
    have h6 : o.dst.isSome = true := h6
    rw [e] at h6; cases h6
  · rw [ho] at h7
    have h7 : ((edgeTo o p && edgeTo o q) && ((List.range ops.size).all fun j => j == s || (foreOf ops s).contains j) && (match o.dst with | none => true | some _ => false)) = true := h7
    simp only [Bool.and_eq_true] at h7
    obtain ⟨⟨⟨h8, h9⟩, h10⟩, h11⟩ := h7
    refine ⟨h8, h9, fun j hj hjs => ?_, ?_⟩
    · have := List.all_eq_true.1 h10 j (List.mem_range.2 hj)
      simpa [hjs] using this
    · cases hd : o.dst with
      | none => rfl
      | some _ => rw [hd] at h11; cases h11
theorem pair_step {uses : Nat → List Nat} {fin : List Nat} {R : Nat → Value → World → Prop} {Pre : Nat → World → Prop} {B : World → Prop} {a₀ : Act} {p q s : Nat} {Rp : Value → Value → Prop} (hok : localOk ops = true) (hpq : p ≠ q)
    (hdp : ∀ o, ops[p]? = some o → o.dst ≠ none) (hdq : ∀ o, ops[q]? = some o → o.dst ≠ none) (hes : ∀ o, ops[s]? = some o → edgeTo o p = true ∧ edgeTo o q = true ∧ (∀ j, j < ops.size → j ≠ s → j ∈ foreOf ops s) ∧ o.dst = none) (hss : s < ops.size) (hup : p ∈ uses s) (huq : q ∈ uses s)
    {listed : Array Bool} {a : Act} {w : World} (inv : LInv ops uses fin R Pre B a₀ listed a w) (hpi : PairInv ops p q Rp listed a) {i : Nat} {o : Oper} (ho : ops[i]? = some o) (h0 : listed.getD i true = false) (hall : ∀ e ∈ o.after, Region.binds .any e = true → listed.getD e.on false = true)
    (hps : p ≠ s) (hqs : q ≠ s) {v : Value} (hN : PairNew R p q Rp i v w) (hsz : ∀ d, o.dst = some d → d < a₀.tmps.size) : PairInv ops p q Rp (listed.setIfInBounds i true) (a.put o.dst v) := by
  intro op oq hop hoq hlp hlq
  have hso := Array.getElem?_eq_getElem hss
  have hlive : ∀ k, k = p ∨ k = q → listed.getD k true = false → ∀ m, m = p ∨ m = q → Live ops uses fin listed m := by
    intro k hk hkl m hm
    have hsl : listed.getD s true = false := by
      cases hc : listed.getD s true with
      | false => rfl
      | true =>
        have hek : edgeTo ops[s] k = true := by rcases hk with rfl | rfl; exact (hes _ hso).1; exact (hes _ hso).2.1
        obtain ⟨e, he1, he2, hbd⟩ := edgeTo_iff.1 hek
        have h3 := inv.closed s _ hso hc e he1 hbd
        have hb := localOk_edges hok hso e he1 hbd
        rw [he2] at h3 hb
        rw [getD_indep (by rw [inv.size]; omega) true false, h3] at hkl; cases hkl
    exact .inr ⟨s, hss, hsl, by rcases hm with rfl | rfl; exact hup; exact huq⟩
  have hput : ∀ k ok, ops[k]? = some ok → ok.dst ≠ none → k ≠ i → slotVal (a.put o.dst v) ok = slotVal a ok := by
    intro k ok hk hd hki
    refine slotVal_other fun d hw he => ?_
    cases hdk : ok.dst with
    | none => exact hd hdk
    | some d2 =>
      rw [watch_dst hdk] at hw
      injection hw with hw
      subst hw
      have := (localOk_pair hok ho hk hdk (Ne.symm hki)).1
      exact this he
  by_cases hip : i = p
  · subst hip
    have hqi : q ≠ i := Ne.symm hpq
    rw [getD_set_other hqi] at hlq
    rw [ho] at hop
    injection hop with hop
    subst hop
    rw [hput q oq hoq (hdq oq hoq) hqi]
    have hv : slotVal (a.put o.dst v) o = v := by
      rw [slotVal_same (fun d hd => by rw [inv.tsize]; exact hsz d hd), if_neg (hdp o ho)]
    rw [hv]
    exact hN.1 rfl _ (inv.done q oq hoq hlq (hlive i (.inl rfl) h0 q (.inr rfl)))
  · rw [getD_set_other (Ne.symm hip)] at hlp
    by_cases hiq : i = q
    · subst hiq
      rw [ho] at hoq
      injection hoq with hoq
      subst hoq
      rw [hput p op hop (hdp op hop) (Ne.symm hip)]
      have hv : slotVal (a.put o.dst v) o = v := by
        rw [slotVal_same (fun d hd => by rw [inv.tsize]; exact hsz d hd), if_neg (hdq o ho)]
      rw [hv]
      exact hN.2 rfl _ (inv.done p op hop hlp (hlive i (.inr rfl) h0 p (.inl rfl)))
    · rw [getD_set_other (Ne.symm hiq)] at hlq
      rw [hput p op hop (hdp op hop) (Ne.symm hip), hput q oq hoq (hdq oq hoq) (Ne.symm hiq)]
      exact hpi op oq hop hoq hlp hlq
theorem fore_listed {uses : Nat → List Nat} {fin : List Nat} {R : Nat → Value → World → Prop} {Pre : Nat → World → Prop} {B : World → Prop} {a₀ : Act} (hok : localOk ops = true) {listed : Array Bool} {a : Act} {w : World} (inv : LInv ops uses fin R Pre B a₀ listed a w) :
    ∀ k, k < ops.size → listed.getD k true = true → ∀ m ∈ foreOf ops k, m < ops.size ∧ listed.getD m true = true := by
  have hedge : ∀ k, k < ops.size → listed.getD k true = true → ∀ m ∈ edgesOf ops k, m < ops.size ∧ listed.getD m true = true := by
    intro k hk hkl m hm
    unfold edgesOf at hm
    rw [Array.getElem?_eq_getElem hk] at hm
    simp only [List.mem_map, List.mem_filter] at hm
    obtain ⟨e, ⟨he1, he2⟩, rfl⟩ := hm
    have h3 := inv.closed k _ (Array.getElem?_eq_getElem hk) hkl e (Array.mem_toList_iff.1 he1) he2
    have hlt2 : e.on < ops.size := by
      have := localOk_edges hok (Array.getElem?_eq_getElem hk) e (Array.mem_toList_iff.1 he1) he2
      omega
    exact ⟨hlt2, by rw [getD_indep (by rw [inv.size]; exact hlt2) true false]; exact h3⟩
  have hfore : ∀ k, k < ops.size → listed.getD k true = true → ∀ m ∈ foreOf ops k, m < ops.size ∧ listed.getD m true = true := by
    intro k hk hkl
    unfold foreOf
    have gen : ∀ l : List Nat, ∀ m ∈ l.foldr (fun k S => if S.contains k then edgesOf ops k ++ S else S) (edgesOf ops k), m < ops.size ∧ listed.getD m true = true := by
      intro l
      induction l with
      | nil => exact hedge k hk hkl
      | cons x l ih =>
        intro m hm
        rw [List.foldr_cons] at hm
        split at hm
        · rename_i hc
          rcases List.mem_append.1 hm with h | h
          · have hx := ih x (by simpa using hc)
            exact hedge x hx.1 hx.2 m h
          · exact ih m h
        · exact ih m hm
    exact gen _
  exact hfore
theorem fin_step {uses : Nat → List Nat} {fin : List Nat} {R : Nat → Value → World → Prop} {Pre : Nat → World → Prop} {B : World → Prop} {a₀ : Act} {p q s : Nat} {Fin : Value → Value → World → Prop} (hok : localOk ops = true)
    (hes : ∀ o, ops[s]? = some o → edgeTo o p = true ∧ edgeTo o q = true ∧ (∀ j, j < ops.size → j ≠ s → j ∈ foreOf ops s) ∧ o.dst = none) (hss : s < ops.size)
    {listed : Array Bool} {a : Act} {w w' : World} (inv : LInv ops uses fin R Pre B a₀ listed a w) {i : Nat} {o : Oper} (ho : ops[i]? = some o) (h0 : listed.getD i true = false) {v : Value}
    (hF : i = s → ∀ op oq, ops[p]? = some op → ops[q]? = some oq → Fin (slotVal a op) (slotVal a oq) w') : PairFin ops p q s Fin (listed.setIfInBounds i true) (a.put o.dst v) w' := by
  intro op oq hop hoq hls
  have hso := Array.getElem?_eq_getElem hss
  by_cases his : i = s
  · subst his
    rw [(hes o ho).2.2.2]
    exact hF rfl op oq hop hoq
  · exfalso
    rw [getD_set_other (Ne.symm his)] at hls
    have hlt : i < ops.size := (Array.getElem?_eq_some_iff.1 ho).1
    have h3 := (fore_listed hok inv s hss hls i ((hes _ hso).2.2.1 i hlt his)).2
    rw [h0] at h3
    cases h3
theorem wpAny_pair {p q s : Nat} {Rp : Value → Value → Prop} {Fin : Value → Value → World → Prop} (hpq : p ≠ q) (hps : p ≠ s) (hqs : q ≠ s) (hdp : ∀ o, ops[p]? = some o → o.dst ≠ none) (hdq : ∀ o, ops[q]? = some o → o.dst ≠ none) (hes : ∀ o, ops[s]? = some o → edgeTo o p = true ∧ edgeTo o q = true ∧ (∀ j, j < ops.size → j ≠ s → j ∈ foreOf ops s) ∧ o.dst = none) (hss : s < ops.size) {uses : Nat → List Nat} {fin : List Nat} {R : Nat → Value → World → Prop} {Pre : Nat → World → Prop} {B : World → Prop} {E : Nat → World → World → Prop} {a₀ : Act} (hok : localOk ops = true) (huses : usesOk ops uses = true)
    (hst : ∀ i j v w w', stillUsed ops uses fin i j = true → R j v w → E i w w' → R j v w') (hpre : ∀ i k w w', preKept ops i k = true → Pre k w → E i w w' → Pre k w')
    (hrefl : ∀ i w, E i w w) (hsize : ∀ (i : Nat) (o : Oper) (d : Nat), ops[i]? = some o → o.dst = some d → d < a₀.tmps.size)
    (hup : p ∈ uses s) (huq : q ∈ uses s)
    (hstep : ∀ (i : Nat) (o : Oper), ops[i]? = some o → LStepP P ops uses R Pre B E p q s Rp Fin Q a₀ i o)
    (hfin : ∀ a w, LInv ops uses fin R Pre B a₀ (Array.replicate ops.size true) a w → PairFin ops p q s Fin (Array.replicate ops.size true) a w → Q .normal a w) :
    ∀ (fuel : Nat) (listed : Array Bool) (a : Act) (w : World), ((List.range ops.size).filter fun i => !listed.getD i true).length ≤ fuel → LInv ops uses fin R Pre B a₀ listed a w → PairInv ops p q Rp listed a → PairFin ops p q s Fin listed a w → wpAny P .any ops Q fuel listed a w := by
  have last : ∀ (listed : Array Bool) (a : Act) (w : World), LInv ops uses fin R Pre B a₀ listed a w → PairFin ops p q s Fin listed a w → Region.ready .any ops listed = [] → Q .normal a w := by
    intro listed a w inv hpf hr
    have hall : ∀ i, i < ops.size → listed.getD i true = true := by
      intro i
      induction i using Nat.strongRecOn with
      | _ i ih =>
        intro hlt
        cases hc : listed.getD i true with
        | true => rfl
        | false =>
          have hi : ops[i]? = some ops[i] := Array.getElem?_eq_getElem hlt
          have : i ∈ Region.ready .any ops listed := mem_ready.2 ⟨hc, _, hi, fun e he hbd => by
            have h := localOk_edges hok hi e he hbd
            have h2 := ih e.on h (by omega)
            rw [getD_indep (by rw [inv.size]; omega) false true]; exact h2⟩
          rw [hr] at this; cases this
    have he : listed = Array.replicate ops.size true := by
      apply Array.ext
      · simp [inv.size]
      · intro i h1 h2
        have := hall i (by rw [← inv.size]; exact h1)
        simpa [Array.getD, h1] using this
    subst he
    exact hfin a w inv hpf
  intro fuel
  induction fuel with
  | zero =>
    intro listed a w hf inv hpi hpf
    have hr : Region.ready .any ops listed = [] := by
      cases hc : Region.ready .any ops listed with
      | nil => rfl
      | cons i rest =>
        have hi : i ∈ Region.ready .any ops listed := by rw [hc]; exact List.mem_cons_self
        obtain ⟨h0, o, ho, _⟩ := mem_ready.1 hi
        have hlt : i < ops.size := (Array.getElem?_eq_some_iff.1 ho).1
        have : i ∈ (List.range ops.size).filter fun i => !listed.getD i true := List.mem_filter.2 ⟨List.mem_range.2 hlt, by simp only [h0]; rfl⟩
        rw [List.eq_nil_of_length_eq_zero (Nat.le_zero.1 hf)] at this
        cases this
    exact ⟨hr, last listed a w inv hpf hr⟩
  | succ fuel ih =>
    intro listed a w hf inv hpi hpf
    refine ⟨last listed a w inv hpf, fun i hi => ?_⟩
    obtain ⟨h0, o, ho, hall⟩ := mem_ready.1 hi
    have hlt : i < ops.size := (Array.getElem?_eq_some_iff.1 ho).1
    have hless : ((List.range ops.size).filter fun k => !(listed.setIfInBounds i true).getD k true).length ≤ fuel := by
      have hsub : ((List.range ops.size).filter fun k => !(listed.setIfInBounds i true).getD k true) = ((List.range ops.size).filter fun k => !listed.getD k true).filter (fun k => k != i) := by
        rw [List.filter_filter]
        refine List.filter_congr fun k hk => ?_
        by_cases hki : k = i
        · subst hki
          rw [getD_set_self (by rw [inv.size]; exact hlt)]; simp
        · rw [getD_set_other hki]; simp [hki]
      rw [hsub]
      have hmem : i ∈ (List.range ops.size).filter fun k => !listed.getD k true := List.mem_filter.2 ⟨List.mem_range.2 hlt, by simp only [h0]; rfl⟩
      have : (((List.range ops.size).filter fun k => !listed.getD k true).filter (fun k => k != i)).length < ((List.range ops.size).filter fun k => !listed.getD k true).length :=
        List.length_filter_lt_length_iff_exists.2 ⟨i, hmem, by simp⟩
      omega
    have hs := hstep i o ho a w inv.base (inv.pre i hlt h0) inv.tsize inv.defers (fun j oj hj hu => by
        obtain ⟨e, he1, he2, hbd⟩ := edgeTo_iff.1 (usesOk_spec huses ho j hu)
        have hb := localOk_edges hok ho e he1 hbd
        have hl := hall e he1 hbd
        rw [he2] at hl hb
        exact inv.done j oj hj (by rw [getD_indep (by rw [inv.size]; omega) true false]; exact hl) (.inr ⟨i, hlt, h0, hu⟩)) (fun t ht hno => by
        refine inv.keep t fun k ok hk hlk hd => ?_
        by_cases hki : i = k
        · subst hki; rw [h0] at hlk; cases hlk
        · rcases (localOk_pair hok ho hk hd hki).2 with h | h | h
          · rw [hno k ok hk hd] at h; cases h
          · obtain ⟨e, he1, he2, hbd⟩ := edgeTo_iff.1 h
            have := inv.closed k ok hk hlk e he1 hbd
            rw [he2, getD_indep (by rw [inv.size]; exact hlt) false true, h0] at this; cases this
          · exact h ht) (fun his op oq hop hoq => by
        subst his
        have hl : ∀ k, edgeTo o k = true → listed.getD k true = true := by
          intro k hk
          obtain ⟨e, he1, he2, hbd⟩ := edgeTo_iff.1 hk
          have hb := localOk_edges hok ho e he1 hbd
          have hl := hall e he1 hbd
          rw [he2] at hl hb
          rw [getD_indep (by rw [inv.size]; omega) true false]; exact hl
        exact hpi op oq hop hoq (hl p (hes o ho).1) (hl q (hes o ho).2.1))
    unfold wpOp
    rw [ho]
    dsimp only
    split
    · rename_i hw
      rw [if_pos hw] at hs
      refine .inl (Oper.wp_mono (fun a' w' h => ?_) hs)
      obtain ⟨v, rfl, hR, hB, hS, hN, hF⟩ := h
      exact ih _ _ _ hless (linv_step hok hst hpre hsize inv ho hall h0 hR hB hS) (pair_step hok hpq hdp hdq hes hss hup huq inv hpi ho h0 hall hps hqs hN (fun d hd => hsize i o d ho hd)) (fin_step hok hes hss inv ho h0 hF)
    · rename_i hw
      rw [if_neg hw] at hs
      exact ih _ _ _ hless (linv_step (v := undef) hok hst hpre hsize inv ho hall h0 hs.1 inv.base (hrefl i w)) (pair_step hok hpq hdp hdq hes hss hup huq inv hpi ho h0 hall hps hqs ⟨fun e => absurd e hs.2.1, fun e => absurd e hs.2.2.1⟩ (fun d hd => hsize i o d ho hd)) (fin_step hok hes hss inv ho h0 (fun e => absurd e hs.2.2.2))
/-- THE REGION. -/
theorem wp_region_pair {id : Nat} {a₀ : Act} {w₀ : World} (hm : P.follows .mixedOrders = true) (hok : localOk ops = true) (p q s : Nat) (Rp : Value → Value → Prop) (Fin : Value → Value → World → Prop) (hchk : pairOk ops p q s = true) (uses : Nat → List Nat) (fin : List Nat) (huses : usesOk ops uses = true)
    (R : Nat → Value → World → Prop) (Pre : Nat → World → Prop) (B : World → Prop) (E : Nat → World → World → Prop)
    (hst : ∀ i j v w w', stillUsed ops uses fin i j = true → R j v w → E i w w' → R j v w') (hpre : ∀ i k w w', preKept ops i k = true → Pre k w → E i w w' → Pre k w')
    (hrefl : ∀ i w, E i w w) (hsize : ∀ (i : Nat) (o : Oper) (d : Nat), ops[i]? = some o → o.dst = some d → d < a₀.tmps.size)
    (hB : B { w₀ with drawn := w₀.drawn + 1 }) (hP : ∀ i, i < ops.size → Pre i { w₀ with drawn := w₀.drawn + 1 })
    (hstep : ∀ (i : Nat) (o : Oper), ops[i]? = some o → LStepP P ops uses R Pre B E p q s Rp Fin Q a₀ i o) (hup : p ∈ uses s) (huq : q ∈ uses s)
    (hfin : ∀ a w, B w → a.tmps.size = a₀.tmps.size → a.defers = a₀.defers → (∀ (i : Nat) (o : Oper), ops[i]? = some o → i ∈ fin → R i (slotVal a o) w) →
      (∀ t, (∀ (i : Nat) (o : Oper), ops[i]? = some o → o.dst ≠ some t) → a.tmps[t]? = a₀.tmps[t]?) → (∀ op oq, ops[p]? = some op → ops[q]? = some oq → Fin (slotVal a op) (slotVal a oq) w) → Q .normal a w) : (Code.region id ops true).wp P Q a₀ w₀ := by
  refine wp_region_any hm (wpAny_pair (p := p) (q := q) (s := s) (Rp := Rp) (Fin := Fin) (pairOk_spec hchk).1 (pairOk_spec hchk).2.1 (pairOk_spec hchk).2.2.1 (pairOk_spec hchk).2.2.2.1 (pairOk_spec hchk).2.2.2.2.1 (pairOk_spec hchk).2.2.2.2.2.1 (pairOk_spec hchk).2.2.2.2.2.2 (uses := uses) (fin := fin) (R := R) (Pre := Pre) (B := B) (E := E) (a₀ := a₀) hok huses hst hpre hrefl hsize hup huq hstep ?_ _ _ _ _ ?_ ?_ ?_ ?_)
  · intro a w inv hpf
    refine hfin a w inv.base inv.tsize inv.defers (fun i o hi hf => inv.done i o hi (by simp [Array.getD]) (.inl hf)) (fun t ht => inv.keep t fun i o hi _ => ht i o hi) (fun op oq h1 h2 => hpf op oq h1 h2 (by have := (pairOk_spec hchk).2.2.2.2.2.2; simp [Array.getD]))
  · exact Nat.le_trans (List.length_filter_le _ _) (by simp)
  · refine ⟨by simp, ?_, hB, rfl, rfl, ?_, fun i hi _ => hP i hi, fun t _ => rfl⟩
    · intro i o hi hl
      have hlt : i < ops.size := (Array.getElem?_eq_some_iff.1 hi).1
      simp [Array.getD, hlt] at hl
    · intro i o hi hl
      have hlt : i < ops.size := (Array.getElem?_eq_some_iff.1 hi).1
      simp [Array.getD, hlt] at hl
  · intro op oq hop hoq hlp _
    have hlt : p < ops.size := (Array.getElem?_eq_some_iff.1 hop).1
    simp [Array.getD, hlt] at hlp
  · intro op oq _ _ hls
    have hlt := (pairOk_spec hchk).2.2.2.2.2.2
    simp [Array.getD, hlt] at hls
end
end Go.Proofs.YtbfbajfdlkgloaaGreatDoor
