/-
  A REGION THAT DRAWS ITS ORDER, BY WHAT EACH OPERATION LEAVES: each operation is shown ONCE, from what its own forerunners have left, in whatever world; whatever order is drawn, all hold in the end.
  Conditions: what is said of a slot stands through all that the other operations do ('St'); every two operations that name one slot are tied by an edge ('localOk').
-/
import Derived.Orders
import Derived.Laws.CopyOwn
import Derived.WalkKit
import Derived.Test.YtbfbajfdlkgloaaGreatDoorG00

namespace Go.Proofs.YtbfbajfdlkgloaaGreatDoor
open Go Go.RowKit
section
variable {P : Program} {ops : Array Oper} {Q : Exit → Act → World → Prop}

def edgeTo (o : Oper) (j : Nat) : Bool := o.after.toList.any fun e => Region.binds .any e && e.on == j

/-- The slot that is watched: the operation's own; of a store: its pointer's. -/
def watch (o : Oper) : Option Nat := match o.dst with
  | some d => some d
  | none => match o.op with
    | .store _ (.tmp p) _ => some p
    | _ => none
def watchOk (ops : Array Oper) (o : Oper) : Bool := match o.dst, watch o with
  | none, some p => (List.range ops.size).all fun j => match ops[j]? with
    | none => true
    | some oj => oj.dst != some p || edgeTo o j
  | _, _ => true
def localOk (ops : Array Oper) : Bool :=
  (List.range ops.size).all fun i => match ops[i]? with
    | none => true
    | some o =>
      (o.after.toList.all fun e => !Region.binds .any e || decide (e.on < i)) &&
      (match o.op with | .select .. => false | _ => true) && watchOk ops o &&
      (List.range ops.size).all fun j => match ops[j]? with
        | none => true
        | some oj => match oj.dst with
          | none => true
          | some t => (i == j || o.dst != some t) && (i == j || edgeTo o j || edgeTo oj i || !(o.looksAt ops).contains t)

theorem localOk_edges (h : localOk ops = true) {i : Nat} {o : Oper} (hi : ops[i]? = some o) : ∀ e ∈ o.after, Region.binds .any e = true → e.on < i := by
  have hlt : i < ops.size := (Array.getElem?_eq_some_iff.1 hi).1
  unfold localOk at h
  have := List.all_eq_true.1 h i (List.mem_range.2 hlt)
  rw [hi] at this
  simp only [Bool.and_eq_true] at this
  intro e he hb
  have h2 := List.all_eq_true.1 this.1.1.1 e (Array.mem_toList_iff.2 he)
  rw [hb] at h2
  simpa using h2
theorem localOk_pair (h : localOk ops = true) {i j : Nat} {o oj : Oper} {t : Nat} (hi : ops[i]? = some o) (hj : ops[j]? = some oj) (ht : oj.dst = some t) (hne : i ≠ j) :
    o.dst ≠ some t ∧ (edgeTo o j = true ∨ edgeTo oj i = true ∨ t ∉ o.looksAt ops) := by
  have hlt : i < ops.size := (Array.getElem?_eq_some_iff.1 hi).1
  have hlj : j < ops.size := (Array.getElem?_eq_some_iff.1 hj).1
  unfold localOk at h
  have := List.all_eq_true.1 h i (List.mem_range.2 hlt)
  rw [hi] at this
  simp only [Bool.and_eq_true] at this
  have h2 := List.all_eq_true.1 this.2 j (List.mem_range.2 hlj)
  rw [hj] at h2
  simp only [ht, Bool.and_eq_true, Bool.or_eq_true, beq_iff_eq, hne, false_or, bne_iff_ne, ne_eq, Bool.not_eq_true'] at h2
  refine ⟨h2.1, ?_⟩
  rcases h2.2 with (h3 | h3) | h3
  · exact .inl h3
  · exact .inr (.inl h3)
  · exact .inr (.inr (by simpa using h3))

theorem localOk_watch (h : localOk ops = true) {i j : Nat} {o oj : Oper} {p : Nat} (hi : ops[i]? = some o) (hd : o.dst = none) (hw : watch o = some p) (hj : ops[j]? = some oj) (hp : oj.dst = some p) : edgeTo o j = true := by
  have hlt : i < ops.size := (Array.getElem?_eq_some_iff.1 hi).1
  have hlj : j < ops.size := (Array.getElem?_eq_some_iff.1 hj).1
  unfold localOk at h
  have := List.all_eq_true.1 h i (List.mem_range.2 hlt)
  rw [hi] at this
  simp only [Bool.and_eq_true] at this
  have h2 := this.1.2
  unfold watchOk at h2
  rw [hd, hw] at h2
  have h3 := List.all_eq_true.1 h2 j (List.mem_range.2 hlj)
  rw [hj] at h3
  simpa [hp] using h3
theorem watch_dst {o : Oper} {d : Nat} (h : o.dst = some d) : watch o = some d := by unfold watch; rw [h]
/-- Does an operation still have its use of what j left, where i is carried out now? (uses k: the operations whose leavings k uses; fin: what is wanted in the end.) -/
def edgesOf (ops : Array Oper) (k : Nat) : List Nat := match ops[k]? with | none => [] | some o => (o.after.toList.filter fun e => Region.binds .any e).map (·.on)
/-- What was done ahead of j, whatever the order. -/
def foreOf (ops : Array Oper) (j : Nat) : List Nat := (List.range j).foldr (fun k S => if S.contains k then edgesOf ops k ++ S else S) (edgesOf ops j)
def stillUsed (ops : Array Oper) (uses : Nat → List Nat) (fin : List Nat) (i j : Nat) : Bool :=
  i != j && !((ops[j]?).any fun o => edgeTo o i) && !((foreOf ops j).contains i) && (fin.contains j || (List.range ops.size).any fun k => k != i && (uses k).contains j && !((ops[i]?).any fun o => edgeTo o k))
def preKept (ops : Array Oper) (i k : Nat) : Bool := i != k && !((ops[i]?).any fun o => edgeTo o k)
def usesOk (ops : Array Oper) (uses : Nat → List Nat) : Bool :=
  (List.range ops.size).all fun k => match ops[k]? with | none => true | some o => (uses k).all fun j => edgeTo o j
theorem usesOk_spec {ops : Array Oper} {uses : Nat → List Nat} (h : usesOk ops uses = true) {k : Nat} {o : Oper} (hk : ops[k]? = some o) : ∀ j ∈ uses k, edgeTo o j = true := by
  have hlt : k < ops.size := (Array.getElem?_eq_some_iff.1 hk).1
  have := List.all_eq_true.1 h k (List.mem_range.2 hlt)
  rw [hk] at this
  exact fun j hj => List.all_eq_true.1 this j hj
/-- What an operation's slot holds; of a store: what the slot of its pointer holds. -/
def slotVal (a : Act) (o : Oper) : Value := match watch o with | some d => a.tmps.getD d undef | none => undef
theorem slotVal_at {a : Act} {o : Oper} {p : Nat} {v : Value} (hw : watch o = some p) (h : a.tmps[p]? = some v) : slotVal a o = v := by
  unfold slotVal; rw [hw]; simp [Array.getD_eq_getD_getElem?, h]
def Live (ops : Array Oper) (uses : Nat → List Nat) (fin : List Nat) (listed : Array Bool) (i : Nat) : Prop := i ∈ fin ∨ ∃ k, k < ops.size ∧ listed.getD k true = false ∧ i ∈ uses k

/-- What holds while the operations of 'listed' are done. -/
structure LInv (ops : Array Oper) (uses : Nat → List Nat) (fin : List Nat) (R : Nat → Value → World → Prop) (Pre : Nat → World → Prop) (B : World → Prop) (a₀ : Act) (listed : Array Bool) (a : Act) (w : World) : Prop where
  size : listed.size = ops.size
  closed : ∀ (i : Nat) (o : Oper), ops[i]? = some o → listed.getD i true = true → ∀ e ∈ o.after, Region.binds .any e = true → listed.getD e.on false = true
  base : B w
  defers : a.defers = a₀.defers
  tsize : a.tmps.size = a₀.tmps.size
  done : ∀ (i : Nat) (o : Oper), ops[i]? = some o → listed.getD i true = true → Live ops uses fin listed i → R i (slotVal a o) w
  pre : ∀ i, i < ops.size → listed.getD i true = false → Pre i w
  keep : ∀ t, (∀ (i : Nat) (o : Oper), ops[i]? = some o → listed.getD i true = true → o.dst ≠ some t) → a.tmps[t]? = a₀.tmps[t]?

theorem edgeTo_iff {o : Oper} {j : Nat} : edgeTo o j = true ↔ ∃ e ∈ o.after, e.on = j ∧ Region.binds .any e = true := by
  unfold edgeTo
  rw [List.any_eq_true]
  constructor
  · rintro ⟨e, he, h⟩
    rw [Bool.and_eq_true, beq_iff_eq] at h
    exact ⟨e, Array.mem_toList_iff.1 he, h.2, h.1⟩
  · rintro ⟨e, he, h1, h2⟩
    exact ⟨e, Array.mem_toList_iff.2 he, by rw [h2, h1]; simp⟩

theorem getD_set_self {listed : Array Bool} {i : Nat} (h : i < listed.size) (d : Bool) : (listed.setIfInBounds i true).getD i d = true := by
  simp [Array.getD, h]
theorem getD_set_other {listed : Array Bool} {i j : Nat} (h : j ≠ i) (d : Bool) : (listed.setIfInBounds i true).getD j d = listed.getD j d := by
  simp only [Array.getD_eq_getD_getElem?, Array.getElem?_setIfInBounds_ne (Ne.symm h)]
theorem getD_indep {listed : Array Bool} {i : Nat} (h : i < listed.size) (d d' : Bool) : listed.getD i d = listed.getD i d' := by
  simp [Array.getD, h]

theorem put_get_same {a : Act} {d : Nat} {v : Value} (h : d < a.tmps.size) : (a.put (some d) v).tmps[d]? = some v := by
  simp [Act.put, h]
theorem put_get_other {a : Act} {dst : Option Nat} {t : Nat} {v : Value} (h : dst ≠ some t) : (a.put dst v).tmps[t]? = a.tmps[t]? := by
  cases dst with
  | none => rfl
  | some d =>
    have : d ≠ t := fun e => h (by rw [e])
    simp [Act.put, Array.getElem?_setIfInBounds_ne this]
theorem put_size (a : Act) (dst : Option Nat) (v : Value) : (a.put dst v).tmps.size = a.tmps.size := by cases dst <;> simp [Act.put]
theorem put_defers (a : Act) (dst : Option Nat) (v : Value) : (a.put dst v).defers = a.defers := by cases dst <;> rfl

/-- What an operation must show, from what its forerunners left. -/
def LStep (P : Program) (ops : Array Oper) (uses : Nat → List Nat) (R : Nat → Value → World → Prop) (Pre : Nat → World → Prop) (B : World → Prop) (E : Nat → World → World → Prop) (Q : Exit → Act → World → Prop) (a₀ : Act) (i : Nat) (o : Oper) : Prop :=
  ∀ a w, B w → Pre i w → a.tmps.size = a₀.tmps.size → a.defers = a₀.defers →
    (∀ j oj, ops[j]? = some oj → j ∈ uses i → R j (slotVal a oj) w) →
    (∀ t, t ∈ o.looksAt ops → (∀ j oj, ops[j]? = some oj → oj.dst = some t → edgeTo o j = false) → a.tmps[t]? = a₀.tmps[t]?) →
    if Region.wanted o (yielded ops a.tmps) then o.wp P a w (fun a' w' => ∃ v, a' = a.put o.dst v ∧ R i (if o.dst = none then slotVal a o else v) w' ∧ B w' ∧ E i w w') Q else R i (if o.dst = none then slotVal a o else undef) w

theorem slotVal_same {a : Act} {o : Oper} {v : Value} (h : ∀ d, o.dst = some d → d < a.tmps.size) : slotVal (a.put o.dst v) o = if o.dst = none then slotVal a o else v := by
  cases hd : o.dst with
  | none => rfl
  | some d =>
    unfold slotVal
    rw [watch_dst hd]
    simp [Act.put, h d hd]
theorem slotVal_other {a : Act} {o ok : Oper} {v : Value} (h : ∀ d, watch ok = some d → o.dst ≠ some d) : slotVal (a.put o.dst v) ok = slotVal a ok := by
  unfold slotVal
  cases hd : watch ok with
  | none => rfl
  | some d =>
    have := put_get_other (a := a) (v := v) (h d hd)
    simp [Array.getD_eq_getD_getElem?, this]

theorem linv_step {uses : Nat → List Nat} {fin : List Nat} {R : Nat → Value → World → Prop} {Pre : Nat → World → Prop} {B : World → Prop} {E : Nat → World → World → Prop} {a₀ : Act} (hok : localOk ops = true)
    (hst : ∀ i j v w w', stillUsed ops uses fin i j = true → R j v w → E i w w' → R j v w') (hpre : ∀ i k w w', preKept ops i k = true → Pre k w → E i w w' → Pre k w')
    (hsize : ∀ (i : Nat) (o : Oper) (d : Nat), ops[i]? = some o → o.dst = some d → d < a₀.tmps.size)
    {listed : Array Bool} {a : Act} {w : World} (inv : LInv ops uses fin R Pre B a₀ listed a w) {i : Nat} {o : Oper} (hi : ops[i]? = some o) (hall : ∀ e ∈ o.after, Region.binds .any e = true → listed.getD e.on false = true) (hnot : listed.getD i true = false)
    {v : Value} {w' : World} (hR : R i (if o.dst = none then slotVal a o else v) w') (hB : B w') (hS : E i w w') : LInv ops uses fin R Pre B a₀ (listed.setIfInBounds i true) (a.put o.dst v) w' := by
  have hlt : i < ops.size := (Array.getElem?_eq_some_iff.1 hi).1
  have hl : i < listed.size := by rw [inv.size]; exact hlt
  have hfree : ∀ k, k < ops.size → listed.getD k true = false → edgeTo o k = false := by
    intro k hk hkl
    cases hc : edgeTo o k with
    | false => rfl
    | true =>
      obtain ⟨e, he1, he2, hb⟩ := edgeTo_iff.1 hc
      have h3 := hall e he1 hb
      rw [he2, getD_indep (by rw [inv.size]; exact hk) false true, hkl] at h3; cases h3
  have hedge : ∀ k, k < ops.size → listed.getD k true = true → ∀ m ∈ edgesOf ops k, m < ops.size ∧ listed.getD m true = true := by
    intro k hk hkl m hm
    unfold edgesOf at hm
    rw [Array.getElem?_eq_getElem hk] at hm
    simp only [List.mem_map, List.mem_filter] at hm
    obtain ⟨e, ⟨he1, he2⟩, rfl⟩ := hm
    have h3 := inv.closed k _ (Array.getElem?_eq_getElem hk) hkl e (Array.mem_toList_iff.1 he1) he2
    have hlt2 : e.on < ops.size := by
      have := localOk_edges hok (Array.getElem?_eq_getElem hk) e (Array.mem_toList_iff.1 he1) he2
      omega
    exact ⟨hlt2, by rw [getD_indep (by rw [inv.size]; exact hlt2) true false]; exact h3⟩
  have hfore : ∀ k, k < ops.size → listed.getD k true = true → ∀ m ∈ foreOf ops k, m < ops.size ∧ listed.getD m true = true := by
    intro k hk hkl
    unfold foreOf
    have gen : ∀ l : List Nat, ∀ m ∈ l.foldr (fun k S => if S.contains k then edgesOf ops k ++ S else S) (edgesOf ops k), m < ops.size ∧ listed.getD m true = true := by
      intro l
      induction l with
      | nil => exact hedge k hk hkl
      | cons x l ih =>
        intro m hm
        rw [List.foldr_cons] at hm
        split at hm
        · rename_i hc
          rcases List.mem_append.1 hm with h | h
          · have hx := ih x (by simpa using hc)
            exact hedge x hx.1 hx.2 m h
          · exact ih m h
        · exact ih m hm
    exact gen _
  refine ⟨by simp [inv.size], ?_, hB, by rw [put_defers]; exact inv.defers, by rw [put_size]; exact inv.tsize, ?_, ?_, ?_⟩
  · intro k ok hk hlk e he heb
    by_cases hki : k = i
    · subst hki
      obtain rfl : ok = o := Option.some.inj (hk.symm.trans hi)
      have h := localOk_edges hok hi e he heb
      have h2 := hall e he heb
      rw [getD_set_other (by omega)]; exact h2
    · rw [getD_set_other hki] at hlk
      have h2 := inv.closed k ok hk hlk e he heb
      by_cases he2 : e.on = i
      · rw [he2]; exact getD_set_self hl _
      · rw [getD_set_other he2]; exact h2
  · intro k ok hk hlk hlive
    by_cases hki : k = i
    · subst hki
      obtain rfl : ok = o := Option.some.inj (hk.symm.trans hi)
      rw [slotVal_same (fun d hd => by rw [inv.tsize]; exact hsize _ _ _ hi hd)]
      exact hR
    · rw [getD_set_other hki] at hlk
      have hback : edgeTo ok i = false := by
        cases hc : edgeTo ok i with
        | false => rfl
        | true =>
          obtain ⟨e, he1, he2, heb⟩ := edgeTo_iff.1 hc
          have h3 := inv.closed k ok hk hlk e he1 heb
          rw [he2, getD_indep hl false true, hnot] at h3; cases h3
      rw [slotVal_other (fun d hd => by
        cases hkd : ok.dst with
        | some d' =>
          rw [watch_dst hkd] at hd
          injection hd with hd
          subst hd
          exact (localOk_pair hok hi hk hkd (Ne.symm hki)).1
        | none =>
          intro hod
          rw [localOk_watch hok hk hkd hd hi hod] at hback
          cases hback)]
      have hlive0 : Live ops uses fin listed k := by
        rcases hlive with h | ⟨m, hm, hml, hu⟩
        · exact .inl h
        · by_cases hmi : m = i
          · subst hmi; rw [getD_set_self hl] at hml; cases hml
          · exact .inr ⟨m, hm, by rwa [getD_set_other hmi] at hml, hu⟩
      refine hst i k _ _ _ ?_ (inv.done k ok hk hlk hlive0) hS
      unfold stillUsed
      rw [Bool.and_eq_true, Bool.or_eq_true]
      have hfar : i ∉ foreOf ops k := fun hc => by
        have h3 := (hfore k (Array.getElem?_eq_some_iff.1 hk).1 hlk i hc).2
        rw [getD_indep hl true false, getD_indep hl false true, hnot] at h3; cases h3
      refine ⟨by simp [hk, hback, hfar, Ne.symm hki], ?_⟩
      rcases hlive with h | ⟨m, hm, hml, hu⟩
      · exact .inl (by simpa using h)
      · right
        have hmi : m ≠ i := fun e => by subst e; rw [getD_set_self hl] at hml; cases hml
        rw [getD_set_other hmi] at hml
        rw [List.any_eq_true]
        exact ⟨m, List.mem_range.2 hm, by simp [hmi, hu, hi, hfree m hm hml]⟩
  · intro k hk hkl
    have hki : k ≠ i := fun e => by subst e; rw [getD_set_self hl] at hkl; cases hkl
    rw [getD_set_other hki] at hkl
    refine hpre i k _ _ ?_ (inv.pre k hk hkl) hS
    unfold preKept
    simp [Ne.symm hki, hi, hfree k hk hkl]
  · intro t ht
    have h1 : o.dst ≠ some t := ht i o hi (getD_set_self hl _)
    rw [put_get_other h1]
    refine inv.keep t fun k ok hk hlk => ?_
    by_cases hki : k = i
    · subst hki; rw [hnot] at hlk; cases hlk
    · exact ht k ok hk (by rw [getD_set_other hki]; exact hlk)

theorem wpAny_local {uses : Nat → List Nat} {fin : List Nat} {R : Nat → Value → World → Prop} {Pre : Nat → World → Prop} {B : World → Prop} {E : Nat → World → World → Prop} {a₀ : Act} (hok : localOk ops = true) (huses : usesOk ops uses = true)
    (hst : ∀ i j v w w', stillUsed ops uses fin i j = true → R j v w → E i w w' → R j v w') (hpre : ∀ i k w w', preKept ops i k = true → Pre k w → E i w w' → Pre k w')
    (hrefl : ∀ i w, E i w w) (hsize : ∀ (i : Nat) (o : Oper) (d : Nat), ops[i]? = some o → o.dst = some d → d < a₀.tmps.size)
    (hstep : ∀ (i : Nat) (o : Oper), ops[i]? = some o → LStep P ops uses R Pre B E Q a₀ i o)
    (hfin : ∀ a w, LInv ops uses fin R Pre B a₀ (Array.replicate ops.size true) a w → Q .normal a w) :
    ∀ (fuel : Nat) (listed : Array Bool) (a : Act) (w : World), ((List.range ops.size).filter fun i => !listed.getD i true).length ≤ fuel → LInv ops uses fin R Pre B a₀ listed a w → wpAny P .any ops Q fuel listed a w := by
  have last : ∀ (listed : Array Bool) (a : Act) (w : World), LInv ops uses fin R Pre B a₀ listed a w → Region.ready .any ops listed = [] → Q .normal a w := by
    intro listed a w inv hr
    have hall : ∀ i, i < ops.size → listed.getD i true = true := by
      intro i
      induction i using Nat.strongRecOn with
      | _ i ih =>
        intro hlt
        cases hc : listed.getD i true with
        | true => rfl
        | false =>
          have hi : ops[i]? = some ops[i] := Array.getElem?_eq_getElem hlt
          have : i ∈ Region.ready .any ops listed := mem_ready.2 ⟨hc, _, hi, fun e he hbd => by
            have h := localOk_edges hok hi e he hbd
            have h2 := ih e.on h (by omega)
            rw [getD_indep (by rw [inv.size]; omega) false true]; exact h2⟩
          rw [hr] at this; cases this
    have he : listed = Array.replicate ops.size true := by
      apply Array.ext
      · simp [inv.size]
      · intro i h1 h2
        have := hall i (by rw [← inv.size]; exact h1)
        simpa [Array.getD, h1] using this
    subst he
    exact hfin a w inv
  intro fuel
  induction fuel with
  | zero =>
    intro listed a w hf inv
    have hr : Region.ready .any ops listed = [] := by
      cases hc : Region.ready .any ops listed with
      | nil => rfl
      | cons i rest =>
        have hi : i ∈ Region.ready .any ops listed := by rw [hc]; exact List.mem_cons_self
        obtain ⟨h0, o, ho, _⟩ := mem_ready.1 hi
        have hlt : i < ops.size := (Array.getElem?_eq_some_iff.1 ho).1
        have : i ∈ (List.range ops.size).filter fun i => !listed.getD i true := List.mem_filter.2 ⟨List.mem_range.2 hlt, by simp only [h0]; rfl⟩
        rw [List.eq_nil_of_length_eq_zero (Nat.le_zero.1 hf)] at this
        cases this
    exact ⟨hr, last listed a w inv hr⟩
  | succ fuel ih =>
    intro listed a w hf inv
    refine ⟨last listed a w inv, fun i hi => ?_⟩
    obtain ⟨h0, o, ho, hall⟩ := mem_ready.1 hi
    have hlt : i < ops.size := (Array.getElem?_eq_some_iff.1 ho).1
    have hless : ((List.range ops.size).filter fun k => !(listed.setIfInBounds i true).getD k true).length ≤ fuel := by
      have hsub : ((List.range ops.size).filter fun k => !(listed.setIfInBounds i true).getD k true) = ((List.range ops.size).filter fun k => !listed.getD k true).filter (fun k => k != i) := by
        rw [List.filter_filter]
        refine List.filter_congr fun k hk => ?_
        by_cases hki : k = i
        · subst hki
          rw [getD_set_self (by rw [inv.size]; exact hlt)]; simp
        · rw [getD_set_other hki]; simp [hki]
      rw [hsub]
      have hmem : i ∈ (List.range ops.size).filter fun k => !listed.getD k true := List.mem_filter.2 ⟨List.mem_range.2 hlt, by simp only [h0]; rfl⟩
      have : (((List.range ops.size).filter fun k => !listed.getD k true).filter (fun k => k != i)).length < ((List.range ops.size).filter fun k => !listed.getD k true).length :=
        List.length_filter_lt_length_iff_exists.2 ⟨i, hmem, by simp⟩
      omega
    have hs := hstep i o ho a w inv.base (inv.pre i hlt h0) inv.tsize inv.defers (fun j oj hj hu => by
        obtain ⟨e, he1, he2, hbd⟩ := edgeTo_iff.1 (usesOk_spec huses ho j hu)
        have hb := localOk_edges hok ho e he1 hbd
        have hl := hall e he1 hbd
        rw [he2] at hl hb
        exact inv.done j oj hj (by rw [getD_indep (by rw [inv.size]; omega) true false]; exact hl) (.inr ⟨i, hlt, h0, hu⟩)) (fun t ht hno => by
        refine inv.keep t fun k ok hk hlk hd => ?_
        by_cases hki : i = k
        · subst hki; rw [h0] at hlk; cases hlk
        · rcases (localOk_pair hok ho hk hd hki).2 with h | h | h
          · rw [hno k ok hk hd] at h; cases h
          · obtain ⟨e, he1, he2, hbd⟩ := edgeTo_iff.1 h
            have := inv.closed k ok hk hlk e he1 hbd
            rw [he2, getD_indep (by rw [inv.size]; exact hlt) false true, h0] at this; cases this
          · exact h ht)
    unfold wpOp
    rw [ho]
    dsimp only
    split
    · rename_i hw
      rw [if_pos hw] at hs
      refine .inl (Oper.wp_mono (fun a' w' h => ?_) hs)
      obtain ⟨v, rfl, hR, hB, hS⟩ := h
      exact ih _ _ _ hless (linv_step hok hst hpre hsize inv ho hall h0 hR hB hS)
    · rename_i hw
      rw [if_neg hw] at hs
      exact ih _ _ _ hless (linv_step (v := undef) hok hst hpre hsize inv ho hall h0 hs inv.base (hrefl i w))

/-- THE REGION. -/
theorem wp_region_local {id : Nat} {a₀ : Act} {w₀ : World} (hm : P.follows .mixedOrders = true) (hok : localOk ops = true) (uses : Nat → List Nat) (fin : List Nat) (huses : usesOk ops uses = true)
    (R : Nat → Value → World → Prop) (Pre : Nat → World → Prop) (B : World → Prop) (E : Nat → World → World → Prop)
    (hst : ∀ i j v w w', stillUsed ops uses fin i j = true → R j v w → E i w w' → R j v w') (hpre : ∀ i k w w', preKept ops i k = true → Pre k w → E i w w' → Pre k w')
    (hrefl : ∀ i w, E i w w) (hsize : ∀ (i : Nat) (o : Oper) (d : Nat), ops[i]? = some o → o.dst = some d → d < a₀.tmps.size)
    (hB : B { w₀ with drawn := w₀.drawn + 1 }) (hP : ∀ i, i < ops.size → Pre i { w₀ with drawn := w₀.drawn + 1 })
    (hstep : ∀ (i : Nat) (o : Oper), ops[i]? = some o → LStep P ops uses R Pre B E Q a₀ i o)
    (hfin : ∀ a w, B w → a.tmps.size = a₀.tmps.size → a.defers = a₀.defers → (∀ (i : Nat) (o : Oper), ops[i]? = some o → i ∈ fin → R i (slotVal a o) w) →
      (∀ t, (∀ (i : Nat) (o : Oper), ops[i]? = some o → o.dst ≠ some t) → a.tmps[t]? = a₀.tmps[t]?) → Q .normal a w) : (Code.region id ops true).wp P Q a₀ w₀ := by
  refine wp_region_any hm (wpAny_local (uses := uses) (fin := fin) (R := R) (Pre := Pre) (B := B) (E := E) (a₀ := a₀) hok huses hst hpre hrefl hsize hstep ?_ _ _ _ _ ?_ ?_)
  · intro a w inv
    refine hfin a w inv.base inv.tsize inv.defers (fun i o hi hf => inv.done i o hi (by simp [Array.getD]) (.inl hf)) (fun t ht => inv.keep t fun i o hi _ => ht i o hi)
  · exact Nat.le_trans (List.length_filter_le _ _) (by simp)
  · refine ⟨by simp, ?_, hB, rfl, rfl, ?_, fun i hi _ => hP i hi, fun t _ => rfl⟩
    · intro i o hi hl
      have hlt : i < ops.size := (Array.getElem?_eq_some_iff.1 hi).1
      simp [Array.getD, hlt] at hl
    · intro i o hi hl
      have hlt : i < ops.size := (Array.getElem?_eq_some_iff.1 hi).1
      simp [Array.getD, hlt] at hl
end

/-! ### how it is used: what is said of each slot, a list; each operation by 'lstep' -/
def isOld (ops : Array Oper) (o : Oper) (t : Nat) : Bool :=
  (o.looksAt ops).contains t && ops.toList.zipIdx.all fun x => x.1.dst != some t || !edgeTo o x.2
theorem isOld_spec {ops : Array Oper} {o : Oper} {t : Nat} (h : isOld ops o t = true) : t ∈ o.looksAt ops ∧ ∀ j oj, ops[j]? = some oj → oj.dst = some t → edgeTo o j = false := by
  unfold isOld at h
  simp only [Bool.and_eq_true, List.contains_iff_mem] at h
  refine ⟨h.1, fun j oj hj hd => ?_⟩
  have hm : (oj, j) ∈ ops.toList.zipIdx := by
    rw [List.mem_zipIdx_iff_getElem?]
    simpa using hj
  have := List.all_eq_true.1 h.2 _ hm
  simp only [Bool.or_eq_true, bne_iff_ne, ne_eq, Bool.not_eq_true'] at this
  exact this.resolve_left (fun hne => hne hd)
def allFrom (S : Nat → Oper → Prop) : Nat → List Oper → Prop
  | _, [] => True
  | k, o :: l => S k o ∧ allFrom S (k + 1) l
theorem allFrom_get {S : Nat → Oper → Prop} : ∀ {l : List Oper} {k : Nat}, allFrom S k l → ∀ i o, l[i]? = some o → S (k + i) o
  | [], _, _, i, o, h => by simp at h
  | x :: l, k, h, 0, o, ho => by simp at ho; subst ho; exact h.1
  | x :: l, k, h, i + 1, o, ho => by
    have := allFrom_get h.2 i o (by simpa using ho)
    rw [show k + (i + 1) = k + 1 + i by omega]; exact this
theorem all_ops {S : Nat → Oper → Prop} {l : List Oper} (h : allFrom S 0 l) : ∀ (i : Nat) (o : Oper), l.toArray[i]? = some o → S i o := by
  intro i o ho
  have := allFrom_get h i o (by simpa using ho)
  rwa [Nat.zero_add] at this
def dstsBelow (N : Nat) (ops : Array Oper) : Bool := ops.toList.all fun o => match o.dst with | some d => decide (d < N) | none => true
theorem dsts_lt {N : Nat} {ops : Array Oper} (h : dstsBelow N ops = true) : ∀ (i : Nat) (o : Oper) (d : Nat), ops[i]? = some o → o.dst = some d → d < N := by
  intro i o d hi hd
  have := List.all_eq_true.1 h o (by obtain ⟨hl, rfl⟩ := Array.getElem?_eq_some_iff.1 hi; simp)
  simpa [hd] using this
theorem eval_tmp {a : Act} {t : Nat} {v : Value} (h : a.tmps[t]? = some v) : a.eval (.tmp t) = v := by simp [Act.eval, Array.getD_eq_getD_getElem?, h]
theorem wanted_none {ops : Array Oper} {o : Oper} {tmps : Array Value} (hg : o.guard = none) : Region.wanted o (yielded ops tmps) = true := by simp [Region.wanted, hg]
theorem wanted_yes {ops : Array Oper} {o : Oper} {tmps : Array Value} {j d : Nat} {b : Bool} (hg : o.guard = some (j, b)) (hj : ((ops[j]?).bind (·.dst)) = some d) (h : tmps[d]? = some (.bool b)) : Region.wanted o (yielded ops tmps) = true := by
  simp [Region.wanted, hg, yielded, hj, h]
theorem wanted_no {ops : Array Oper} {o : Oper} {tmps : Array Value} {j d : Nat} {b c : Bool} (hg : o.guard = some (j, b)) (hj : ((ops[j]?).bind (·.dst)) = some d) (h : tmps[d]? = some (.bool c)) (hne : c ≠ b) : ¬ Region.wanted o (yielded ops tmps) = true := by
  simp [Region.wanted, hg, yielded, hj, h]; exact hne
theorem wanted_undef {ops : Array Oper} {o : Oper} {tmps : Array Value} {j d : Nat} {b : Bool} (hg : o.guard = some (j, b)) (hj : ((ops[j]?).bind (·.dst)) = some d) (h : tmps[d]? = some undef) : ¬ Region.wanted o (yielded ops tmps) = true := by
  simp [Region.wanted, hg, yielded, hj, h, undef]
section
variable {P : Program} {ops : Array Oper} {Q : Exit → Act → World → Prop} {uses : Nat → List Nat} {R : Nat → Value → World → Prop} {Pre : Nat → World → Prop} {B : World → Prop} {E : Nat → World → World → Prop} {a₀ : Act} {i : Nat} {o : Oper}
/-- What the forerunners have left, in hand. -/
structure Left (ops : Array Oper) (uses : Nat → List Nat) (R : Nat → Value → World → Prop) (Pre : Nat → World → Prop) (B : World → Prop) (a₀ : Act) (i : Nat) (o : Oper) (a : Act) (w : World) : Prop where
  base : B w
  pre : Pre i w
  size : a.tmps.size = a₀.tmps.size
  new : ∀ (j : Nat) (oj : Oper), ops[j]? = some oj → j ∈ uses i → R j (slotVal a oj) w
  old : ∀ t, isOld ops o t = true → a.tmps[t]? = a₀.tmps[t]?
theorem Left.slot {a : Act} {w : World} (left : Left ops uses R Pre B a₀ i o a w) (N : Nat) (hN : a₀.tmps.size = N) (j d : Nat) (oj : Oper) (hj : ops[j]? = some oj) (hd : oj.dst = some d) (hlt : d < N) (hu : (uses i).contains j = true) : ∃ v, a.tmps[d]? = some v ∧ R j v w := by
  have h := left.new j oj hj (by simpa using hu)
  refine ⟨a.tmps.getD d undef, ?_, by simpa [slotVal, watch_dst hd] using h⟩
  have hd2 : d < a.tmps.size := by rw [left.size, hN]; exact hlt
  simp [Array.getD_eq_getD_getElem?, hd2]
theorem lstep_run (h : ∀ a w, Left ops uses R Pre B a₀ i o a w → Region.wanted o (yielded ops a.tmps) = true ∧ ∀ K : Act → World → Prop, (∀ v w', R i (if o.dst = none then slotVal a o else v) w' → B w' → E i w w' → K (a.put o.dst v) w') → o.wp P a w K Q) : LStep P ops uses R Pre B E Q a₀ i o := by
  intro a w hB hp hs hd new old
  obtain ⟨h1, h2⟩ := h a w ⟨hB, hp, hs, new, fun t ht => old t (isOld_spec ht).1 (isOld_spec ht).2⟩
  rw [if_pos h1]
  exact h2 _ fun v w' r1 r2 r3 => ⟨v, rfl, r1, r2, r3⟩
theorem lstep_skip (h : ∀ a w, Left ops uses R Pre B a₀ i o a w → ¬ Region.wanted o (yielded ops a.tmps) = true ∧ R i (if o.dst = none then slotVal a o else undef) w) : LStep P ops uses R Pre B E Q a₀ i o := by
  intro a w hB hp hs hd new old
  obtain ⟨h1, h2⟩ := h a w ⟨hB, hp, hs, new, fun t ht => old t (isOld_spec ht).1 (isOld_spec ht).2⟩
  rw [if_neg h1]; exact h2
end
/-- The frame behind the region, written out: what no operation writes is as it was. -/
theorem frame_set {ops : Array Oper} {a a₀ : Act} (hs : a.tmps.size = a₀.tmps.size) (hk : ∀ t, (∀ (i : Nat) (o : Oper), ops[i]? = some o → o.dst ≠ some t) → a.tmps[t]? = a₀.tmps[t]?)
    (D : List Nat) (hD : (ops.toList.all fun o => match o.dst with | some d => D.contains d | none => true) = true) : a.tmps = D.foldl (fun A d => A.setIfInBounds d (a.tmps.getD d undef)) a₀.tmps := by
  have size : ∀ (D : List Nat) (A : Array Value), (D.foldl (fun A d => A.setIfInBounds d (a.tmps.getD d undef)) A).size = A.size := by
    intro D
    induction D with
    | nil => intro A; rfl
    | cons d D ih => intro A; rw [List.foldl_cons, ih]; simp
  have get : ∀ (D : List Nat) (A : Array Value) (t : Nat), t < A.size → (D.foldl (fun A d => A.setIfInBounds d (a.tmps.getD d undef)) A)[t]? = if t ∈ D then some (a.tmps.getD t undef) else A[t]? := by
    intro D
    induction D with
    | nil => intro A t _; simp
    | cons d D ih =>
      intro A t ht
      rw [List.foldl_cons, ih _ _ (by simpa using ht)]
      by_cases h : t ∈ D
      · rw [if_pos h, if_pos (List.mem_cons_of_mem _ h)]
      · rw [if_neg h]
        by_cases e : t = d
        · subst e; rw [if_pos List.mem_cons_self]; simp [ht]
        · rw [if_neg (by simp [e, h]), Array.getElem?_setIfInBounds_ne (Ne.symm e)]
  apply Array.ext_getElem?
  intro t
  by_cases ht : t < a.tmps.size
  · rw [get D a₀.tmps t (by omega)]
    by_cases h : t ∈ D
    · rw [if_pos h]; simp [ht, Array.getD_eq_getD_getElem?]
    · rw [if_neg h]
      refine hk t fun i o hi hd => h ?_
      have := List.all_eq_true.1 hD o (by obtain ⟨hl, rfl⟩ := Array.getElem?_eq_some_iff.1 hi; simp)
      rw [hd] at this
      simpa using this
  · rw [Array.getElem?_eq_none (by omega), Array.getElem?_eq_none (by rw [size]; omega)]
/-- The same as lists: its reckoning is by evaluation alone. -/
theorem frame_setL {ops : Array Oper} {a a₀ : Act} (hs : a.tmps.size = a₀.tmps.size) (hk : ∀ t, (∀ (i : Nat) (o : Oper), ops[i]? = some o → o.dst ≠ some t) → a.tmps[t]? = a₀.tmps[t]?)
    (D : List Nat) (hD : (ops.toList.all fun o => match o.dst with | some d => D.contains d | none => true) = true) : a.tmps = (D.foldl (fun A d => List.set A d (a.tmps.getD d undef)) a₀.tmps.toList).toArray := by
  have h := frame_set hs hk D hD
  have e : ∀ (D : List Nat) (A : Array Value), (D.foldl (fun A d => A.setIfInBounds d (a.tmps.getD d undef)) A) = (D.foldl (fun A d => List.set A d (a.tmps.getD d undef)) A.toList).toArray := by
    intro D
    induction D with
    | nil => intro A; simp
    | cons d D ih => intro A; rw [List.foldl_cons, ih, List.foldl_cons, Array.toList_setIfInBounds]
  exact h.trans (e D _)
theorem act_ext {a : Act} {T : Array Value} {D : List Deferred} (h1 : a.tmps = T) (h2 : a.defers = D) : a = ⟨T, D⟩ := by cases a; simp_all
theorem own_below {w w' : World} {base e size : Nat} {v : Value} {n : Nat} {xs : List Value} (h : w.ownsRow base e size v n xs) (hb : Below w.heap.size w w') : w'.ownsRow base e size v n xs := by
  obtain ⟨h1, h2⟩ := h
  refine ⟨h1, ?_⟩
  rcases h2 with h2 | ⟨g, cap, cur, hv, hg, hh, r⟩
  · exact .inl h2
  · have hlt : g < w.heap.size := by
      rcases Nat.lt_or_ge g w.heap.size with h | h
      · exact h
      · simp [Array.getElem?_eq_none h] at hh
    exact .inr ⟨g, cap, cur, hv, hg, (hb.block g hlt).trans hh, r⟩

theorem le_base {B : Nat} {w0 w : World} (h : Below B w0 w) (hB : B ≤ w0.heap.size := by first | exact Nat.le_refl _ | omega) : B ≤ w.heap.size := Nat.le_trans hB h.size
/-- What may be said of a slot. -/
inductive Sp where
  | is (v : Value)
  | sl (xs : List Value)
  | own (base e n : Nat) (xs : List Value)
  | blk (G n T : Nat)
  | cont (G T : Nat) (cs : List Value)
  | fresh (G n T : Nat)
  | full (G T : Nat) (cs : List Value)
  | say (p : World → Prop) (hp : ∀ w w', p w → Below w.heap.size w w' → p w')
  | both (u : Value) (p : World → Prop) (hp : ∀ w w', p w → Below w.heap.size w w' → p w')
  | rel (q : Value → World → Prop) (hq : ∀ v w w', q v w → Below w.heap.size w w' → q v w')
def Sp.holds (w : World) (v : Value) : Sp → Prop
  | .is u => v = u
  | .sl xs => SlV w v xs
  | .own base e n xs => w.ownsRow base e 1 v n xs
  | .blk G n T => v = .pointer (some ⟨G, 0, none⟩) ∧ ∃ cs : Array Value, cs.size = n ∧ w.heap[G]? = some (.cells cs T (0, 0))
  | .cont G T cs => w.heap[G]? = some (.cells cs.toArray T (0, 0))
  | .fresh G n T => ∃ B, v = .pointer (some ⟨B, 0, none⟩) ∧ G ≤ B ∧ ∃ cs : Array Value, cs.size = n ∧ w.heap[B]? = some (.cells cs T (0, 0))
  | .full G T cs => ∃ B, v = .pointer (some ⟨B, 0, none⟩) ∧ G ≤ B ∧ w.heap[B]? = some (.cells cs.toArray T (0, 0))
  | .say p _ => p w
  | .both u p _ => v = u ∧ p w
  | .rel q _ => q v w
theorem heap_lt {w : World} {G : Nat} {o : Obj} (h : w.heap[G]? = some o) : G < w.heap.size := by
  rcases Nat.lt_or_ge G w.heap.size with h1 | h1
  · exact h1
  · simp [Array.getElem?_eq_none h1] at h
theorem Sp.stays {w w' : World} {v : Value} {s : Sp} (h : s.holds w v) (hb : Below w.heap.size w w') : s.holds w' v := by
  cases s with
  | is u => exact h
  | sl xs => exact SlV.below h hb
  | own base e n xs => exact own_below h hb
  | blk G n T =>
    obtain ⟨hv, cs, hn, hh⟩ := h
    exact ⟨hv, cs, hn, (hb.block G (heap_lt hh)).trans hh⟩
  | cont G T cs => exact (hb.block G (heap_lt h)).trans h
  | fresh G n T =>
    obtain ⟨B, hv, hg, cs, hn, hh⟩ := h
    exact ⟨B, hv, hg, cs, hn, (hb.block B (heap_lt hh)).trans hh⟩
  | full G T cs =>
    obtain ⟨B, hv, hg, hh⟩ := h
    exact ⟨B, hv, hg, (hb.block B (heap_lt hh)).trans hh⟩
  | say p hp => exact hp w w' h hb
  | both u p hp => exact ⟨h.1, hp w w' h.2 hb⟩
  | rel q hq => exact hq _ w w' h hb
def Sp.isIs : Sp → Bool | .is _ => true | _ => false
theorem Sp.isIs_any {w w' : World} {v : Value} {s : Sp} (hs : s.isIs = true) (h : s.holds w v) : s.holds w' v := by
  cases s with
  | is u => exact h
  | _ => cases hs
def spR (L : List Sp) (i : Nat) (v : Value) (w : World) : Prop := (L.getD i (.is undef)).holds w v
theorem spR_stays {ops : Array Oper} {uses : Nat → List Nat} {fin : List Nat} {L : List Sp} : ∀ i j v w w', stillUsed ops uses fin i j = true → spR L j v w → Below w.heap.size w w' → spR L j v w' := fun _ _ _ _ _ _ h hb => Sp.stays h hb
def useList (U : List (List Nat)) (k : Nat) : List Nat := U.getD k []
/-! one operation s writes to what was there -/
def oneE (s : Nat) (F : World → World → Prop) (i : Nat) (w w' : World) : Prop := if i = s then F w w' else Below w.heap.size w w'
def onePre (s : Nat) (Pr : World → Prop) (k : Nat) (w : World) : Prop := if k = s then Pr w else True
def oneChk (ops : Array Oper) (uses : Nat → List Nat) (fin : List Nat) (L : List Sp) (s : Nat) : Bool := (List.range ops.size).all fun j => !stillUsed ops uses fin s j || (L.getD j (.is undef)).isIs
theorem one_stays {ops : Array Oper} {uses : Nat → List Nat} {fin : List Nat} {L : List Sp} {s : Nat} {F : World → World → Prop} (hlen : L.length ≤ ops.size) (hc : oneChk ops uses fin L s = true) :
    ∀ i j v w w', stillUsed ops uses fin i j = true → spR L j v w → oneE s F i w w' → spR L j v w' := by
  intro i j v w w' hu hr he
  unfold oneE at he
  split at he
  · rename_i hi
    subst hi
    refine Sp.isIs_any ?_ hr
    by_cases hj : j < ops.size
    · have := List.all_eq_true.1 hc j (List.mem_range.2 hj)
      rw [hu] at this; simpa using this
    · simp only [List.getD, List.getElem?_eq_none (show L.length ≤ j by omega)]; rfl
  · exact Sp.stays hr he
theorem one_pre {ops : Array Oper} {s : Nat} {F : World → World → Prop} {Pr : World → Prop} (hk : ∀ w w', Pr w → Below w.heap.size w w' → Pr w') :
    ∀ i k w w', preKept ops i k = true → onePre s Pr k w → oneE s F i w w' → onePre s Pr k w' := by
  intro i k w w' hp hw he
  unfold onePre at *
  split
  · rename_i hks
    rw [if_pos hks] at hw
    have hne : i ≠ s := by
      intro e
      unfold preKept at hp
      simp [e, hks] at hp
    rw [oneE, if_neg hne] at he
    exact hk _ _ hw he
  · trivial
theorem last_pre {ops : Array Oper} {s N : Nat} {F : World → World → Prop} {Pr : World → Prop} (hk : ∀ w w', Pr w → Below w.heap.size w w' → Pr w') (hc : ((List.range N).all fun k => !preKept ops s k) = true) :
    ∀ i k w w', preKept ops i k = true → (k < N → Pr w) → oneE s F i w w' → (k < N → Pr w') := by
  intro i k w w' hp hw he hlt
  unfold oneE at he
  split at he
  · rename_i hi
    subst hi
    have := List.all_eq_true.1 hc k (List.mem_range.2 hlt)
    rw [hp] at this; cases this
  · exact hk _ _ (hw hlt) he
theorem one_pre_at {s : Nat} {Pr : World → Prop} {w : World} {i : Nat} (h : onePre s Pr i w) (hi : i = s) : Pr w := by unfold onePre at h; rw [if_pos hi] at h; exact h
theorem one_at {s i : Nat} {w w' : World} (h : i = s) : oneE s (fun _ _ => True) i w w' := by unfold oneE; rw [if_pos h]; trivial
theorem one_start {s i : Nat} {Pr : World → Prop} {w : World} (h : Pr w) : onePre s Pr i w := by unfold onePre; split <;> first | exact h | trivial
theorem one_else {s i : Nat} {F : World → World → Prop} {w w' : World} (h : i ≠ s) (hb : Below w.heap.size w w') : oneE s F i w w' := by
  unfold oneE; rw [if_neg h]; exact hb
theorem one_refl {s : Nat} {F : World → World → Prop} (hF : ∀ w, F w w) : ∀ i w, oneE s F i w w := by
  intro i w
  unfold oneE
  split
  · exact hF w
  · exact Below.refl _ _
/-! one operation (sa) makes a block, one (ss) fills it; all others make nothing (so the block's number is known) -/
def asE (sa ss G n T : Nat) (i : Nat) (w w' : World) : Prop :=
  if i = ss then Below G w w' ∧ ((∃ cs : Array Value, cs.size = n ∧ w.heap[G]? = some (.cells cs T (0, 0))) → ∃ cs : Array Value, cs.size = n ∧ w'.heap[G]? = some (.cells cs T (0, 0)))
  else if i = sa then Below w.heap.size w w' else Below w.heap.size w w' ∧ w'.heap.size = w.heap.size
def asPre (sa G : Nat) (i : Nat) (w : World) : Prop := if i = sa then w.heap.size = G else True
def Sp.isBlk (G n T : Nat) : Sp → Bool | .is _ => true | .blk G' n' T' => G == G' && n == n' && T == T' | _ => false
def asChk (ops : Array Oper) (uses : Nat → List Nat) (fin : List Nat) (L : List Sp) (ss sa : Nat) : Bool := (List.range ops.size).all fun j => !stillUsed ops uses fin ss j || (L.getD j (.is undef)).isIs || j == sa
theorem as_stays {ops : Array Oper} {uses : Nat → List Nat} {fin : List Nat} {L : List Sp} {sa ss G n T : Nat} (hlen : L.length ≤ ops.size) (hne : sa ≠ ss) (hL : L.getD sa (.is undef) = .blk G n T) (hc : asChk ops uses fin L ss sa = true) :
    ∀ i j v w w', stillUsed ops uses fin i j = true → spR L j v w → asE sa ss G n T i w w' → spR L j v w' := by
  intro i j v w w' hu hr he
  unfold asE at he
  split at he
  · rename_i hi
    subst hi
    by_cases hj : j < ops.size
    · have := List.all_eq_true.1 hc j (List.mem_range.2 hj)
      rw [hu] at this
      simp only [Bool.not_true, Bool.false_or, Bool.or_eq_true, beq_iff_eq] at this
      rcases this with h | h
      · exact Sp.isIs_any h hr
      · subst h
        unfold spR at hr ⊢
        rw [hL] at hr ⊢
        exact ⟨hr.1, he.2 hr.2⟩
    · have e : L.getD j (.is undef) = .is undef := by simp only [List.getD, List.getElem?_eq_none (show L.length ≤ j by omega)]; rfl
      unfold spR at hr ⊢
      rw [e] at hr ⊢
      exact hr
  · split at he
    · exact Sp.stays hr he
    · exact Sp.stays hr he.1
theorem as_pre {ops : Array Oper} {sa ss G n T : Nat} (hed : ((ops[ss]?).any fun o => edgeTo o sa) = true) : ∀ i k w w', preKept ops i k = true → asPre sa G k w → asE sa ss G n T i w w' → asPre sa G k w' := by
  intro i k w w' hp hw he
  unfold asPre at *
  split
  · rename_i hk
    subst hk
    rw [if_pos rfl] at hw
    have h1 : i ≠ k := by intro e; unfold preKept at hp; simp [e] at hp
    have h2 : i ≠ ss := by
      intro e
      unfold preKept at hp
      subst e
      rw [hed] at hp
      simp at hp
    unfold asE at he
    rw [if_neg h2, if_neg h1] at he
    omega
  · trivial
theorem as_refl {sa ss G n T : Nat} : ∀ i w, asE sa ss G n T i w w := by
  intro i w
  unfold asE
  split
  · exact ⟨Below.refl _ _, id⟩
  · split
    · exact Below.refl _ _
    · exact ⟨Below.refl _ _, rfl⟩
theorem as_start {sa G i : Nat} {w : World} (h : w.heap.size = G) : asPre sa G i w := by unfold asPre; split <;> first | exact h | trivial
theorem as_fill {G n T : Nat} {w : World} {cs cs' : Array Value} (_h : w.heap[G]? = some (.cells cs' T (0, 0))) (hn : cs.size = n) : Below G w (w.setRow G cs) ∧ ((∃ cs : Array Value, cs.size = n ∧ w.heap[G]? = some (.cells cs T (0, 0))) → ∃ c : Array Value, c.size = n ∧ (w.setRow G cs).heap[G]? = some (.cells c T (0, 0))) :=
  ⟨Go.below_setRow (Below.refl _ _) (Nat.le_refl _) cs, fun ⟨c, _, hc⟩ => ⟨cs, hn, setRow_heap w G c cs T (0, 0) hc⟩⟩
theorem as_fill_at {sa ss G n T i : Nat} {w : World} {cs cs' : Array Value} (hi : i = ss) (h : w.heap[G]? = some (.cells cs' T (0, 0))) (hn : cs.size = n) : asE sa ss G n T i w (w.setRow G cs) := by
  unfold asE
  rw [if_pos hi]
  exact as_fill h hn
/-! one operation (ss) fills a block that another one made; the others may make memory too -/
def wsE (ss G : Nat) (i : Nat) (w w' : World) : Prop :=
  if i = ss then Below G w w' ∧ ∀ (b : Nat) (cs : Array Value) (T : Nat), w.heap[b]? = some (.cells cs T (0, 0)) → ∃ cs' : Array Value, cs'.size = cs.size ∧ w'.heap[b]? = some (.cells cs' T (0, 0))
  else Below w.heap.size w w'
def Sp.isFresh : Sp → Bool | .is _ => true | .fresh _ _ _ => true | _ => false
def wsChk (ops : Array Oper) (uses : Nat → List Nat) (fin : List Nat) (L : List Sp) (ss : Nat) : Bool := (List.range ops.size).all fun j => !stillUsed ops uses fin ss j || (L.getD j (.is undef)).isFresh
theorem ws_stays {ops : Array Oper} {uses : Nat → List Nat} {fin : List Nat} {L : List Sp} {ss G : Nat} (hlen : L.length ≤ ops.size) (hc : wsChk ops uses fin L ss = true) :
    ∀ i j v w w', stillUsed ops uses fin i j = true → spR L j v w → wsE ss G i w w' → spR L j v w' := by
  intro i j v w w' hu hr he
  unfold wsE at he
  split at he
  · rename_i hi
    subst hi
    by_cases hj : j < ops.size
    · have := List.all_eq_true.1 hc j (List.mem_range.2 hj)
      rw [hu] at this
      simp only [Bool.not_true, Bool.false_or] at this
      unfold spR at hr ⊢
      revert hr this
      cases L.getD j (.is undef) with
      | is u => intro h _; exact h
      | fresh G' n T =>
        rintro ⟨B, hv, hg, cs, hn, hh⟩ _
        obtain ⟨cs', h1, h2⟩ := he.2 B cs T hh
        exact ⟨B, hv, hg, cs', h1.trans hn, h2⟩
      | _ => intro _ h; cases h
    · have e : L.getD j (.is undef) = .is undef := by simp only [List.getD, List.getElem?_eq_none (show L.length ≤ j by omega)]; rfl
      unfold spR at hr ⊢
      rw [e] at hr ⊢
      exact hr
  · exact Sp.stays hr he
theorem ws_refl {ss G : Nat} : ∀ i w, wsE ss G i w w := by
  intro i w
  unfold wsE
  split
  · exact ⟨Below.refl _ _, fun b cs T h => ⟨cs, rfl, h⟩⟩
  · exact Below.refl _ _
theorem ws_fill {ss G B T i : Nat} {w : World} {cs cs' : Array Value} (hi : i = ss) (hG : G ≤ B) (h : w.heap[B]? = some (.cells cs' T (0, 0))) (hn : cs.size = cs'.size) : wsE ss G i w (w.setRow B cs) := by
  unfold wsE
  rw [if_pos hi]
  refine ⟨Go.below_setRow (Below.refl _ _) hG cs, fun b c T' hb => ?_⟩
  by_cases hbB : b = B
  · subst hbB
    rw [h] at hb
    injection hb with hb
    injection hb with e1 e2 _
    subst e1; subst e2
    exact ⟨cs, hn, setRow_heap w b _ cs _ (0, 0) h⟩
  · exact ⟨c, rfl, (setRow_other w B b cs hbB).trans hb⟩
end Go.Proofs.YtbfbajfdlkgloaaGreatDoor
