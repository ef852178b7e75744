/-
  massiflaw17.DiskFates, in plain Lean: what each act does to a disk with a fate and to one without. No program in sight.
-/
import Derived.Test.YtiiblpgiafbaoaaDiskActsW
import Derived.Test.YtiiblpgiafbaoaaLawOps
import Derived.Test.YtiiblpgiafbaoaaDiskLay
namespace Go.Proofs.Ytiiblpgiafbaoaa
open Go Go.RowKit Go.Maps
namespace Dk
def aSt (fs : Fs) (i : Nat) (at_ k : Int) (keep : List Bool) (left : Int) : St := ⟨1048576, fs, i, at_, k, keep, left, false⟩
def bSt (fs : Fs) (j : Nat) : St := ⟨1048576, fs, j, 0, 0, [], 0, false⟩
def opA (s : St) (o : OpV) : Int × St :=
  if o.kind = 1 then writeA s o.name o.at_ (short o.data 300) else if o.kind = 2 then cutA s o.name o.at_ else syncA s o.name
/-- What a call makes of its file. -/
def newF (fs : Fs) (o : OpV) : F :=
  if o.kind = 1 then ⟨over (get fs o.name).now o.at_.toNat (short o.data 300), (get fs o.name).was⟩
  else if o.kind = 2 then ⟨(get fs o.name).now.extract 0 o.at_.toNat, (get fs o.name).was⟩ else ⟨(get fs o.name).now, (get fs o.name).now⟩
theorem used_ins (x : ByteArray × F) : ∀ l : Fs, used (ins x l) = x.2.now.size + used l
  | [] => rfl
  | y :: l => by
    unfold ins
    split
    · simp [used]
    · have := used_ins x l
      simp only [used, List.map_cons, List.sum_cons] at this ⊢
      omega
theorem used_cons (q : ByteArray × F) (l : Fs) : used (q :: l) = q.2.now.size + used l := by simp [used]
theorem used_filter {n : ByteArray} : ∀ {l : Fs}, l.Pairwise (fun p q => p.1 ≠ q.1) → used (l.filter fun p => !decide (p.1 = n)) + (get l n).now.size = used l
  | [], _ => rfl
  | q :: l, h => by
    obtain ⟨h1, h2⟩ := List.pairwise_cons.1 h
    have ih := used_filter (n := n) h2
    by_cases e : q.1 = n
    · have hf : l.filter (fun p => !decide (p.1 = n)) = l := by
        rw [List.filter_eq_self]
        intro p hp
        have := h1 p hp
        rw [e] at this
        rw [decide_eq_false (fun x => this x.symm)]; rfl
      rw [List.filter_cons_of_neg (by simp [e]), hf]
      have hg : get (q :: l) n = q.2 := by unfold get; rw [List.find?_cons_of_pos (by simp [e])]; rfl
      rw [hg, used_cons]; omega
    · have hg : get (q :: l) n = get l n := by unfold get; rw [List.find?_cons_of_neg (by simp [e])]
      rw [List.filter_cons_of_pos (by simp [e]), hg, used_cons, used_cons]; omega
theorem used_put {l : Fs} (h : Up l) (n : ByteArray) (f : F) : used (put l n f) + (get l n).now.size = used l + f.now.size := by
  unfold put
  rw [used_ins]
  have := used_filter (n := n) (up_unique h)
  show f.now.size + _ + _ = _
  omega
theorem get_le_used {l : Fs} (h : Up l) (n : ByteArray) : (get l n).now.size ≤ used l := by
  have := used_filter (n := n) (up_unique h)
  omega
theorem newF_now (fs : Fs) (o : OpV) (h : 0 ≤ o.at_ ∧ o.at_ ≤ (get fs o.name).now.size) : (newF fs o).now.size ≤ (get fs o.name).now.size + 300 := by
  unfold newF
  have hs := short_size o.data 300
  split
  · show (over _ _ _).size ≤ _
    unfold over
    rw [ByteArray.size_append, ByteArray.size_append, ByteArray.size_extract, ByteArray.size_extract]
    omega
  · split
    · show (ByteArray.extract _ _ _).size ≤ _
      rw [ByteArray.size_extract]; omega
    · show (get fs o.name).now.size ≤ _; omega
/-- A file's two texts are within bounds. -/
structure Fit (fs : Fs) (i : Nat) : Prop where
  up : Up fs
  used : used fs ≤ 300 * i
  len : fs.length ≤ i
theorem Fit.next {fs : Fs} {i : Nat} (h : Fit fs i) (o : OpV) (ho : 0 ≤ o.at_ ∧ o.at_ ≤ (get fs o.name).now.size) : Fit (put fs o.name (newF fs o)) (i + 1) := by
  refine ⟨up_put h.up _ _, ?_, ?_⟩
  · have h1 := used_put h.up o.name (newF fs o)
    have h2 := newF_now fs o ho
    have h3 := h.used
    omega
  · have := len_put fs o.name (newF fs o)
    have := h.len; omega
theorem Fit.more {fs : Fs} {i : Nat} (h : Fit fs i) : Fit fs (i + 1) := ⟨h.up, Nat.le_trans h.used (by omega), Nat.le_trans h.len (by omega)⟩
theorem fit_start : Fit [] 0 := ⟨List.Pairwise.nil, Nat.le_refl _, Nat.le_refl _⟩
theorem not_full {s : St} {fs : Fs} {i : Nat} (hfs : s.files = fs) (hr : s.room = 1048576) (h : Fit fs i) (hi : i ≤ 60) (n : ByteArray) (off : Int) (x : ByteArray) (hx : x.size ≤ 300) (ho : 0 ≤ off ∧ off ≤ (get fs n).now.size) : full s n off x = false := by
  unfold full
  rw [hfs, hr]
  have h1 := get_le_used h.up n
  have h2 := h.used
  rw [IntWalk.wrap64_in _ (by omega), Bool.and_eq_false_iff]
  exact .inr (decide_eq_false (by omega))
theorem opA_act {s : St} {fs : Fs} {i : Nat} (hfs : s.files = fs) (hr : s.room = 1048576) (hd : s.down = false) (h : Fit fs i) (hi : i ≤ 60) (o : OpV) (ho : 0 ≤ o.at_ ∧ o.at_ ≤ (get fs o.name).now.size) : opA s o = actC s o.name (newF fs o) := by
  have hs := short_size o.data 300
  have h1 := get_le_used h.up o.name
  have h2 := h.used
  have hdn : ¬ s.down = true := by rw [hd]; decide
  unfold opA newF
  by_cases k1 : o.kind = 1
  · rw [if_pos k1, if_pos k1]
    unfold writeA
    rw [not_full hfs hr h hi _ _ _ hs ho, hfs, if_neg hdn, if_neg (by omega), if_neg (by decide)]
  · rw [if_neg k1, if_neg k1]
    by_cases k2 : o.kind = 2
    · rw [if_pos k2, if_pos k2]
      unfold cutA
      rw [hfs, if_neg hdn, if_neg (by omega)]
    · rw [if_neg k2, if_neg k2]
      unfold syncA
      rw [hfs, if_neg hdn]
theorem opC_b {fs : Fs} {i j : Nat} (h : Fit fs i) (hi : i ≤ 60) (o : OpV) (ho : 0 ≤ o.at_ ∧ o.at_ ≤ (get fs o.name).now.size) : opC (bSt fs j) o = (0, bSt (put fs o.name (newF fs o)) (j + 1)) := by
  have hs := short_size o.data 300
  have h1 := get_le_used h.up o.name
  have h2 := h.used
  have hg : get (bSt fs j).files o.name = get fs o.name := rfl
  have hdn : ¬ (bSt fs j).down = true := by simp [bSt]
  unfold opC newF
  by_cases k1 : o.kind = 1
  · rw [if_pos k1, if_pos k1]
    unfold writeC
    rw [not_full (s := bSt fs j) rfl rfl h hi _ _ _ hs ho, hg, if_neg hdn, if_neg (by omega), if_neg (by decide)]
    rfl
  · rw [if_neg k1, if_neg k1]
    by_cases k2 : o.kind = 2
    · rw [if_pos k2, if_pos k2]
      unfold cutC
      rw [hg, if_neg hdn, if_neg (by omega)]
      rfl
    · rw [if_neg k2, if_neg k2]
      unfold syncC
      rw [hg, if_neg hdn]
      rfl
/-- How many acts are left till the fate's, behind i acts. -/
def leftAt (at_ : Int) (i : Nat) : Int := if (i : Int) < at_ then at_ - i else 0
theorem leftAt_next (at_ : Int) (i : Nat) (h : 1 ≤ at_) : (if 0 < leftAt at_ i then leftAt at_ i - 1 else leftAt at_ i) = leftAt at_ (i + 1) := by
  unfold leftAt
  split <;> split <;> split <;> omega
theorem leftAt_one (at_ : Int) (i : Nat) : leftAt at_ i = 1 ↔ (i : Int) + 1 = at_ := by
  unfold leftAt
  split <;> omega
def faA (fs : Fs) (i : Nat) (at_ k : Int) (keep : List Bool) : St := aSt fs i at_ k keep (leftAt at_ i)
theorem faA_struck (fs : Fs) (i : Nat) (at_ k : Int) (keep : List Bool) (h : 1 ≤ at_) : struck (faA fs i at_ k keep) = faA fs (i + 1) at_ k keep := by
  unfold struck faA aSt
  dsimp only
  rw [leftAt_next at_ i h]
theorem kind_off {fs : Fs} {i : Nat} {at_ k : Int} {keep : List Bool} (h : ¬ (i : Int) + 1 = at_) : kindNow (faA fs i at_ k keep) = 0 := by
  unfold kindNow
  rw [if_neg]
  show ¬ leftAt at_ i = 1
  rw [leftAt_one]; exact h
theorem kind_on {fs : Fs} {i : Nat} {at_ k : Int} {keep : List Bool} (h : (i : Int) + 1 = at_) : kindNow (faA fs i at_ k keep) = k := by
  unfold kindNow
  rw [if_pos]
  · rfl
  · show leftAt at_ i = 1
    rw [leftAt_one]; exact h
theorem done_put {fs : Fs} {i : Nat} {at_ k : Int} {keep : List Bool} (h : 1 ≤ at_) (n : ByteArray) (f : F) (hk : ¬ (kindNow (faA fs i at_ k keep) = 1 ∨ kindNow (faA fs i at_ k keep) = 2 ∨ kindNow (faA fs i at_ k keep) = 4)) : doneF (faA fs i at_ k keep) n f = faA (put fs n f) (i + 1) at_ k keep := by
  unfold doneF
  rw [if_neg hk, faA_struck _ _ _ _ _ h]; rfl
theorem done_not {fs : Fs} {i : Nat} {at_ k : Int} {keep : List Bool} (h : 1 ≤ at_) (n : ByteArray) (f : F) (hk : kindNow (faA fs i at_ k keep) = 1 ∨ kindNow (faA fs i at_ k keep) = 2 ∨ kindNow (faA fs i at_ k keep) = 4) : doneF (faA fs i at_ k keep) n f = faA fs (i + 1) at_ k keep := by
  unfold doneF
  rw [if_pos hk, faA_struck _ _ _ _ _ h]
/-- The files behind an act: of the disk with the fate. -/
def filesN (met : Bool) (k : Int) (fs : Fs) (o : OpV) : Fs := if met = true ∧ (k = 1 ∨ k = 2 ∨ k = 4) then fs else put fs o.name (newF fs o)
def errN (met : Bool) (k : Int) : Int := if met = true then (if k = 1 ∨ k = 3 then 171 else if k = 2 then 172 else if k = 4 ∨ k = 5 then 170 else 0) else 0
theorem opA_met {fs : Fs} {i : Nat} {at_ k : Int} {keep : List Bool} (h : Fit fs i) (hi : i ≤ 60) (ha : 1 ≤ at_) (o : OpV) (ho : 0 ≤ o.at_ ∧ o.at_ ≤ (get fs o.name).now.size) (met : Bool) (hm : met = decide ((i : Int) + 1 = at_)) :
    opA (faA fs i at_ k keep) o = (errN met k, if met = true ∧ (k = 4 ∨ k = 5) then fallen (faA (filesN met k fs o) (i + 1) at_ k keep) else faA (filesN met k fs o) (i + 1) at_ k keep) := by
  rw [opA_act (fs := fs) rfl rfl rfl h hi o ho]
  cases met with
  | false =>
    have hne := of_decide_eq_false hm.symm
    have hk := kind_off (fs := fs) (k := k) (keep := keep) hne
    unfold actC
    rw [done_put ha _ _ (by rw [hk]; decide), hk]
    simp [errN, filesN]
  | true =>
    have he := of_decide_eq_true hm.symm
    have hk := kind_on (fs := fs) (k := k) (keep := keep) he
    unfold actC
    rw [hk]
    by_cases k124 : k = 1 ∨ k = 2 ∨ k = 4
    · rw [done_not ha _ _ (by rw [hk]; exact k124)]
      have hf : filesN true k fs o = fs := by unfold filesN; rw [if_pos ⟨rfl, k124⟩]
      rw [hf]
      rcases k124 with rfl | rfl | rfl <;> simp [errN]
    · rw [done_put ha _ _ (by rw [hk]; exact k124)]
      have hf : filesN true k fs o = put fs o.name (newF fs o) := by unfold filesN; rw [if_neg (fun h => k124 h.2)]
      rw [hf]
      unfold errN
      by_cases k3 : k = 1 ∨ k = 3
      · rw [if_pos k3, if_pos rfl, if_pos k3, if_neg (by omega)]
      · rw [if_neg k3, if_pos rfl, if_neg k3]
        by_cases k2 : k = 2
        · exact absurd (.inr (.inl k2)) k124
        · rw [if_neg k2, if_neg k2]
          by_cases k45 : k = 4 ∨ k = 5
          · rw [if_pos k45, if_pos k45, if_pos ⟨rfl, k45⟩]
          · rw [if_neg k45, if_neg k45, if_neg (fun h => k45 h.2)]
/-! behind the power's going -/
theorem zip_pair {α β : Type} {r : α → α → Prop} : ∀ (l : List α) (R : List β), l.Pairwise r → (l.zip R).Pairwise (fun p q => r p.1 q.1)
  | [], _, _ => by simp
  | _ :: _, [], _ => by simp
  | a :: l, b :: R, h => by
    obtain ⟨h1, h2⟩ := List.pairwise_cons.1 h
    rw [List.zip_cons_cons]
    refine List.pairwise_cons.2 ⟨fun q hq => ?_, zip_pair l R h2⟩
    exact h1 _ (List.of_mem_zip hq).1
theorem pick_names {l : Fs} (h : Up l) (R : List ByteArray) : (pick l R).Pairwise (fun p q => bytesBefore (key p.1) (key q.1) = true) := by
  unfold pick
  refine List.Pairwise.filter _ ?_
  have h2 : (l.map Prod.fst).Pairwise (fun a b => bytesBefore (key a) (key b) = true) := by rw [List.pairwise_map]; exact h
  exact zip_pair _ R h2
theorem pick_full {l : Fs} {R : List ByteArray} {q : ByteArray × ByteArray} (h : q ∈ pick l R) : q.2 ≠ ⟨#[]⟩ := by
  unfold pick at h
  have := (List.mem_filter.1 h).2
  simpa using this
theorem put_last {fs : Fs} {n : ByteArray} {f : F} (h : ∀ p ∈ fs, bytesBefore (key p.1) (key n) = true) : put fs n f = fs ++ [(n, f)] := by
  unfold put
  have hf : fs.filter (fun p => !decide (p.1 = n)) = fs := by
    rw [List.filter_eq_self]
    intro p hp
    have := h p hp
    by_cases e : p.1 = n
    · rw [e, before_irrefl] at this; cases this
    · simp [e]
  rw [hf]
  clear hf
  induction fs with
  | nil => rfl
  | cons y r ih =>
    unfold ins
    have hy := h y (by simp)
    have hn : bytesBefore (key n) (key y.1) = false := by
      cases hb : bytesBefore (key n) (key y.1) with
      | false => rfl
      | true =>
        have := lt_trans hy hb
        rw [before_irrefl] at this; cases this
    show (if bytesBefore (key n) (key y.1) = true then _ else y :: ins (n, f) r) = _
    rw [hn, if_neg (by decide), ih (fun p hp => h p (by simp [hp]))]
    rfl
theorem laid_eq : ∀ (l : List (ByteArray × ByteArray)) (fs : Fs), l.Pairwise (fun p q => bytesBefore (key p.1) (key q.1) = true) → (∀ p ∈ fs, ∀ q ∈ l, bytesBefore (key p.1) (key q.1) = true) → l.foldl (fun fs p => put fs p.1 ⟨p.2, p.2⟩) fs = fs ++ l.map fun p => (p.1, ⟨p.2, p.2⟩)
  | [], fs, _, _ => by simp
  | p :: l, fs, h, h2 => by
    obtain ⟨h3, h4⟩ := List.pairwise_cons.1 h
    rw [List.foldl_cons, put_last (fun q hq => h2 q hq p (by simp)), laid_eq l _ h4 (fun q hq r hr => by
      rcases List.mem_append.1 hq with hq | hq
      · exact h2 q hq r (by simp [hr])
      · simp only [List.mem_singleton] at hq; subst hq; exact h3 r hr)]
    simp
theorem files_laid {l : List (ByteArray × ByteArray)} (h : l.Pairwise (fun p q => bytesBefore (key p.1) (key q.1) = true)) (hne : ∀ q ∈ l, q.2 ≠ ⟨#[]⟩) (s : St) : files { s with files := laid l } = l := by
  unfold files laid
  dsimp only
  rw [laid_eq l [] h (fun p hp => by cases hp), List.nil_append]
  unfold pick
  rw [List.map_map, List.map_map]
  have e : (l.map (Prod.fst ∘ fun p : ByteArray × ByteArray => (p.1, (⟨p.2, p.2⟩ : F)))).zip (l.map ((fun p : ByteArray × F => p.2.now) ∘ fun p : ByteArray × ByteArray => (p.1, (⟨p.2, p.2⟩ : F)))) = l := by
    rw [List.zip_map']
    show l.map (fun p => (p.1, p.2)) = l
    simp
  rw [e, List.filter_eq_self]
  intro q hq
  simp [hne q hq]
theorem files_fallen {s : St} (h : Up s.files) (hd : s.down = false) : files (fallen s) = after s s.keep := by
  have e : fallen s = { { s with down := true } with files := laid (after s s.keep) } := rfl
  rw [e]
  unfold after
  rw [if_neg (by rw [hd]; decide)]
  exact files_laid (pick_names h _) (fun q hq => pick_full hq) _
theorem after_down {s : St} (hd : s.down = true) (keep : List Bool) : after s keep = files s := by unfold after; rw [if_pos hd]
theorem after_same {s t : St} (hf : s.files = t.files) (h1 : s.down = false) (h2 : t.down = false) (keep : List Bool) : after s keep = after t keep := by
  unfold after
  rw [if_neg (by rw [h1]; decide), if_neg (by rw [h2]; decide), hf]
theorem files_same {s t : St} (hf : s.files = t.files) : files s = files t := by unfold files; rw [hf]
theorem lay_fa (at_ k : Int) (keep : List Bool) (h1 : 1 ≤ at_) (h2 : 1 ≤ k ∧ k ≤ 5) : layC (newSt 1048576) at_ k keep = faA [] 0 at_ k keep := by
  unfold layC
  rw [if_neg (by simp [newSt]), if_pos ⟨h1, h2⟩]
  unfold faA aSt leftAt newSt
  rw [if_pos (by show ((0 : Nat) : Int) < at_; omega), show max (1048576 : Int) 0 = 1048576 by decide]
  simp
end Dk
end Go.Proofs.Ytiiblpgiafbaoaa
