/-
  What a store's files read as, whatever act failed and whatever stayed: the plain law. No program in sight.
-/
import Derived.Test.YtbfbajfdlkgloaaGreatDoorG35
namespace Go.Proofs.YtbfbajfdlkgloaaGreatDoor
open Go Go.RowKit
namespace Fl
/-- The three files, each there or not. -/
def mk3 (oi om on : Option Dk.F) : Dk.Fs := oi.toList.map (fun f => (nItems, f)) ++ (om.toList.map (fun f => (nMarks, f)) ++ on.toList.map (fun f => (nNodes, f)))
def fd (o : Option Dk.F) : Dk.F := o.getD Dk.F.none
theorem get3_items (oi om on : Option Dk.F) : Dk.get (mk3 oi om on) nItems = fd oi := by cases oi <;> cases om <;> cases on <;> rfl
theorem get3_marks (oi om on : Option Dk.F) : Dk.get (mk3 oi om on) nMarks = fd om := by cases oi <;> cases om <;> cases on <;> rfl
theorem get3_nodes (oi om on : Option Dk.F) : Dk.get (mk3 oi om on) nNodes = fd on := by cases oi <;> cases om <;> cases on <;> rfl
theorem put3_items (oi om on : Option Dk.F) (f : Dk.F) : Dk.put (mk3 oi om on) nItems f = mk3 (some f) om on := by cases oi <;> cases om <;> cases on <;> rfl
theorem put3_marks (oi om on : Option Dk.F) (f : Dk.F) : Dk.put (mk3 oi om on) nMarks f = mk3 oi (some f) on := by cases oi <;> cases om <;> cases on <;> rfl
theorem put3_nodes (oi om on : Option Dk.F) (f : Dk.F) : Dk.put (mk3 oi om on) nNodes f = mk3 oi om (some f) := by cases oi <;> cases om <;> cases on <;> rfl
theorem mk3_d3 (fi fm fn : Dk.F) : mk3 (some fi) (some fm) (some fn) = [(nItems, fi), (nMarks, fm), (nNodes, fn)] := rfl
theorem three_mk3 (oi om on : Option Dk.F) : Three (mk3 oi om on) := by
  intro a b c
  rw [put3_items, put3_nodes, put3_marks]; rfl
/-- The files' list, the empty ones left out. -/
def full1 (n : ByteArray) (x : ByteArray) : List (ByteArray × ByteArray) := if x = ⟨#[]⟩ then [] else [(n, x)]
def list3 (xi xm xn : ByteArray) : List (ByteArray × ByteArray) := full1 nItems xi ++ (full1 nMarks xm ++ full1 nNodes xn)
/-- What may stay of a file: a text no longer than the longer, each byte that of what is or of what was. -/
structure Left1 (f : Dk.F) (r : ByteArray) : Prop where
  size : r.size = f.now.size ∨ r.size = f.was.size
  each : ∀ i, i < r.size → byt r i = byt f.now i ∨ byt r i = byt f.was i
  sec : ∀ s, (∀ i, i < r.size → i / 64 = s → byt r i = byt f.now i) ∨ (∀ i, i < r.size → i / 64 = s → byt r i = byt f.was i)
theorem left_after (keep : List Bool) (f : Dk.F) (c : Nat) : Left1 f (Dk.afterF keep f c).1 := by
  have hs := Dk.afterF_size_eq keep f c
  have hb := fun i h => Dk.afterF_byt keep f c i h
  refine ⟨?_, fun i hi => ?_, fun s => ?_⟩
  · rw [hs]; unfold Dk.stayLen; split
    · exact .inl rfl
    · exact .inr rfl
  · rw [hb i (by rw [← hs]; exact hi)]; split
    · exact .inl rfl
    · exact .inr rfl
  · by_cases h : Dk.sel keep f (Dk.endLen f) (Dk.firstQ keep f c).2 s = true
    · left
      intro i hi e
      rw [hb i (by rw [← hs]; exact hi), e, if_pos h]
    · right
      intro i hi e
      rw [hb i (by rw [← hs]; exact hi), e, if_neg h]
theorem left_now (f : Dk.F) : Left1 f f.now := ⟨.inl rfl, fun _ _ => .inl rfl, fun _ => .inl fun _ _ _ => rfl⟩
theorem left_none {r : ByteArray} (h : Left1 Dk.F.none r) : r = ⟨#[]⟩ := by
  have h0 : r.size = 0 := by
    rcases h.size with e | e
    · exact e
    · exact e
  apply Rec.bytes_inj
  rw [show bytesOf (⟨#[]⟩ : ByteArray) = [] from rfl]
  exact List.length_eq_zero_iff.1 (by rw [Rec.bytes_length]; exact h0)
theorem pick_cons (p : ByteArray × Dk.F) (l : Dk.Fs) (r : ByteArray) (R : List ByteArray) : Dk.pick (p :: l) (r :: R) = full1 p.1 r ++ Dk.pick l R := by
  unfold Dk.pick full1
  show List.filter _ ((p.1, r) :: List.zip (l.map Prod.fst) R) = _
  by_cases h : r = ⟨#[]⟩
  · rw [List.filter_cons_of_neg (by simp [h]), if_pos h]; rfl
  · rw [List.filter_cons_of_pos (by simp [h]), if_neg h]; rfl
theorem pick_nil (R : List ByteArray) : Dk.pick [] R = [] := by unfold Dk.pick; simp
theorem full1_nil (n : ByteArray) : full1 n ⟨#[]⟩ = [] := by unfold full1; simp
/-- What is there behind the power's going, or is told: of each of the three what may stay. -/
theorem after3 (d : Dk.St) (keep : List Bool) (oi om on : Option Dk.F) (h : d.files = mk3 oi om on) :
    ∃ xi xm xn, Dk.after d keep = list3 xi xm xn ∧ Left1 (fd oi) xi ∧ Left1 (fd om) xm ∧ Left1 (fd on) xn := by
  have hnow : Dk.files d = list3 (fd oi).now (fd om).now (fd on).now := by
    unfold Dk.files list3
    rw [h]
    have e : Dk.F.none.now = ⟨#[]⟩ := rfl
    cases oi <;> cases om <;> cases on <;> simp [mk3, fd, pick_cons, pick_nil, full1_nil, e]
  unfold Dk.after
  split
  · exact ⟨_, _, _, hnow, left_now _, left_now _, left_now _⟩
  · rw [h]
    have e0 : Left1 Dk.F.none ⟨#[]⟩ := left_now Dk.F.none
    unfold list3
    cases oi with
    | none =>
      cases om with
      | none =>
        cases on with
        | none => exact ⟨⟨#[]⟩, ⟨#[]⟩, ⟨#[]⟩, by simp [mk3, pick_nil, full1_nil], e0, e0, e0⟩
        | some fn => exact ⟨⟨#[]⟩, ⟨#[]⟩, _, by simp [mk3, Dk.afterL, pick_cons, pick_nil, full1_nil]; rfl, e0, e0, left_after _ _ _⟩
      | some fm =>
        cases on with
        | none => exact ⟨⟨#[]⟩, _, ⟨#[]⟩, by simp [mk3, Dk.afterL, pick_cons, pick_nil, full1_nil]; rfl, e0, left_after _ _ _, e0⟩
        | some fn => exact ⟨⟨#[]⟩, _, _, by simp [mk3, Dk.afterL, pick_cons, pick_nil, full1_nil]; rfl, e0, left_after _ _ _, left_after _ _ _⟩
    | some fi =>
      cases om with
      | none =>
        cases on with
        | none => exact ⟨_, ⟨#[]⟩, ⟨#[]⟩, by simp [mk3, Dk.afterL, pick_cons, pick_nil, full1_nil]; rfl, left_after _ _ _, e0, e0⟩
        | some fn => exact ⟨_, ⟨#[]⟩, _, by simp [mk3, Dk.afterL, pick_cons, pick_nil, full1_nil]; rfl, left_after _ _ _, e0, left_after _ _ _⟩
      | some fm =>
        cases on with
        | none => exact ⟨_, _, ⟨#[]⟩, by simp [mk3, Dk.afterL, pick_cons, pick_nil, full1_nil]; rfl, left_after _ _ _, left_after _ _ _, e0⟩
        | some fn => exact ⟨_, _, _, by simp [mk3, Dk.afterL, pick_cons, pick_nil, full1_nil]; rfl, left_after _ _ _, left_after _ _ _, left_after _ _ _⟩
/-! beginnings -/
def Beg (P x : ByteArray) : Prop := ∃ t, x = P ++ t
def Beg2 (P : ByteArray) (f : Dk.F) : Prop := Beg P f.now ∧ Beg P f.was
theorem beg_self (P : ByteArray) : Beg P P := ⟨⟨#[]⟩, (apnil P).symm⟩
theorem beg_size {P x : ByteArray} (h : Beg P x) : P.size ≤ x.size := by obtain ⟨t, rfl⟩ := h; rw [ByteArray.size_append]; omega
theorem beg_byt {P x : ByteArray} (h : Beg P x) {i : Nat} (hi : i < P.size) : byt x i = byt P i := by obtain ⟨t, rfl⟩ := h; rw [byt_append, if_pos hi]
theorem beg_of {P x : ByteArray} (hs : P.size ≤ x.size) (h : ∀ i, i < P.size → byt x i = byt P i) : Beg P x := by
  refine ⟨x.extract P.size x.size, byt_ext (by rw [ByteArray.size_append, ByteArray.size_extract]; omega) fun i hi => ?_⟩
  rw [byt_append]
  split
  · rename_i hp; exact h i hp
  · rename_i hp
    rw [byt_extract, if_pos (by omega), show P.size + (i - P.size) = i by omega]
theorem beg_cut {P t x : ByteArray} (h : Beg (P ++ t) x) : Beg P x := by obtain ⟨u, rfl⟩ := h; exact ⟨t ++ u, apass _ _ _⟩
theorem left_beg {P r : ByteArray} {f : Dk.F} (h : Beg2 P f) (hl : Left1 f r) : Beg P r := by
  refine beg_of ?_ fun i hi => ?_
  · have h1 := beg_size h.1
    have h2 := beg_size h.2
    rcases hl.size with e | e <;> omega
  · have h1 := beg_size h.1
    have h2 := beg_size h.2
    have hr : i < r.size := by rcases hl.size with e | e <;> omega
    rcases hl.each i hr with e | e
    · rw [e]; exact beg_byt h.1 hi
    · rw [e]; exact beg_byt h.2 hi
/-! the markers' tail -/
def z64 : ByteArray := Dk.zeros 64
def TailM (K t : ByteArray) : Prop := t = ⟨#[]⟩ ∨ t = z64 ∨ t = K
theorem tail_size {K t : ByteArray} (hK : K.size = 64) (h : TailM K t) : t.size = 0 ∨ t.size = 64 := by
  rcases h with rfl | rfl | rfl
  · exact .inl rfl
  · exact .inr (Dk.zeros_size 64)
  · exact .inr hK
theorem left_tail {M K r : ByteArray} {f : Dk.F} {n : Nat} (hM : M.size = 64 * n) (hK : K.size = 64) {t1 t2 : ByteArray} (e1 : f.now = M ++ t1) (e2 : f.was = M ++ t2) (h1 : TailM K t1) (h2 : TailM K t2) (hl : Left1 f r) :
    ∃ t, r = M ++ t ∧ TailM K t ∧ (t = K → t = z64 ∨ t1 = K ∨ t2 = K) := by
  have hb : Beg2 M f := ⟨⟨t1, e1⟩, ⟨t2, e2⟩⟩
  obtain ⟨t, rfl⟩ := left_beg hb hl
  have s1 := tail_size hK h1
  have s2 := tail_size hK h2
  have hts : t.size = 0 ∨ t.size = 64 := by
    have hs := hl.size
    rw [e1, e2, ByteArray.size_append, ByteArray.size_append, ByteArray.size_append] at hs
    omega
  refine ⟨t, rfl, ?_⟩
  have hnil : ∀ u : ByteArray, u.size = 0 → u = ⟨#[]⟩ := fun u hu => byt_ext hu (fun i hi => by omega)
  rcases hts with h0 | h64
  · refine ⟨.inl (hnil t h0), fun e => ?_⟩
    rw [e, hK] at h0; omega
  · have key : ∀ (g : ByteArray) (u : ByteArray), g = M ++ u → TailM K u → (∀ i, i < (M ++ t).size → i / 64 = n → byt (M ++ t) i = byt g i) → t = z64 ∨ (t = K ∧ u = K) := by
      intro g u hg hu hi
      have hbt : ∀ i, i < 64 → byt t i = byt u i := by
        intro i h
        have h3 := hi (M.size + i) (by rw [ByteArray.size_append]; omega) (by rw [hM]; omega)
        rw [hg, byt_append, byt_append, if_neg (by omega), if_neg (by omega), show M.size + i - M.size = i by omega] at h3
        exact h3
      rcases hu with rfl | rfl | rfl
      · left
        refine byt_ext (by rw [h64]; exact (Dk.zeros_size 64).symm) fun i hi2 => ?_
        rw [hbt i (by omega), byt_ge (by show 0 ≤ i; omega)]
        exact (Dk.byt_zeros 64 i).symm
      · left
        exact byt_ext (by rw [h64]; exact (Dk.zeros_size 64).symm) fun i hi2 => hbt i (by omega)
      · right
        exact ⟨byt_ext (by rw [h64, hK]) fun i hi2 => hbt i (by omega), rfl⟩
    rcases hl.sec n with h | h
    · rcases key _ _ e1 h1 h with q | ⟨q, q2⟩
      · exact ⟨.inr (.inl q), fun _ => .inl q⟩
      · exact ⟨.inr (.inr q), fun _ => .inr (.inl q2)⟩
    · rcases key _ _ e2 h2 h with q | ⟨q, q2⟩
      · exact ⟨.inr (.inl q), fun _ => .inl q⟩
      · exact ⟨.inr (.inr q), fun _ => .inr (.inr q2)⟩
/-! what holds of the three files, whatever went -/
def kOf (k : Nat) (L : List It) (x : It) : ByteArray := Rec.markB (mkOf k x L.length (aF L).size (cE L 0 0))
theorem kOf_size {k : Nat} (hk1 : 1 ≤ k) (hk : k ≤ 32) (L : List It) (x : It) : (kOf k L x).size = 64 := Rec.mark_size _ (by show (1 : Int) ≤ (k : Int); omega) (by show (k : Int) ≤ 32; omega)
theorem zero_z64 : isZero z64 = true := by
  unfold isZero z64 Dk.zeros bytesOf
  simp
theorem kOf_notZero {k : Nat} (hk1 : 1 ≤ k) (hk : k ≤ 32) (L : List It) (x : It) : kOf k L x ≠ z64 := by
  intro e
  have h := mark_notZero (mkOf k x L.length (aF L).size (cE L 0 0)) (by show (1 : Int) ≤ (k : Int); omega) (by show (k : Int) ≤ 32; omega)
  rw [show Rec.markB (mkOf k x L.length (aF L).size (cE L 0 0)) = z64 from e, zero_z64] at h
  cases h
/-- The files of L, behind which x may be under way (where 'may'). -/
structure Inv (may : Prop) (k : Nat) (L : List It) (x : It) (fi fm fn : Dk.F) : Prop where
  items : Beg2 (aF L) fi
  nodes : Beg2 (nF 0 L) fn
  marks : ∃ t1 t2, fm.now = mL k L ++ t1 ∧ fm.was = mL k L ++ t2 ∧ TailM (kOf k L x) t1 ∧ TailM (kOf k L x) t2
  more : fm.now = mL k (L ++ [x]) ∨ fm.was = mL k (L ++ [x]) → may ∧ Beg2 (aF (L ++ [x])) fi ∧ Beg2 (nF 0 (L ++ [x])) fn
theorem app_inj {P a b : ByteArray} (h : P ++ a = P ++ b) : a = b := by
  have h2 := congrArg bytesOf h
  rw [Rec.bytes_append, Rec.bytes_append] at h2
  exact Rec.bytes_inj (List.append_cancel_left h2)
/-- What may stay of such files is such. -/
theorem inv_left {may : Prop} {k : Nat} (hk1 : 1 ≤ k) (hk : k ≤ 32) {L : List It} {x : It} {fi fm fn : Dk.F} (h : Inv may k L x fi fm fn) {xi xm xn : ByteArray} (hi : Left1 fi xi) (hm : Left1 fm xm) (hn : Left1 fn xn) :
    Inv may k L x ⟨xi, xi⟩ ⟨xm, xm⟩ ⟨xn, xn⟩ := by
  obtain ⟨t1, t2, e1, e2, h1, h2⟩ := h.marks
  obtain ⟨t, et, ht, hK⟩ := left_tail (mL_size hk1 hk L) (kOf_size hk1 hk L x) e1 e2 h1 h2 hm
  have bi := left_beg h.items hi
  have bn := left_beg h.nodes hn
  refine ⟨⟨bi, bi⟩, ⟨bn, bn⟩, ⟨t, t, et, et, ht, ht⟩, fun q => ?_⟩
  have q : xm = mL k (L ++ [x]) := q.elim id id
  rw [et, mL_snoc] at q
  have qt : t = kOf k L x := app_inj q
  have hw : t1 = kOf k L x ∨ t2 = kOf k L x := by
    rcases hK qt with q2 | q2
    · exact absurd (qt.symm.trans q2) (kOf_notZero hk1 hk L x)
    · exact q2
  have hmo := h.more (by
    rcases hw with q2 | q2
    · left; rw [e1, q2, mL_snoc]; rfl
    · right; rw [e2, q2, mL_snoc]; rfl)
  have ci := left_beg hmo.2.1 hi
  have cn := left_beg hmo.2.2 hn
  exact ⟨hmo.1, ⟨ci, ci⟩, ⟨cn, cn⟩⟩
/-! acts under a fate -/
def fo (x : ByteArray) : Option Dk.F := if x = ⟨#[]⟩ then none else some ⟨x, x⟩
theorem fd_fo (x : ByteArray) : fd (fo x) = ⟨x, x⟩ := by
  unfold fo
  split
  · rename_i h; rw [h]; rfl
  · rfl
theorem laid3 (xi xm xn : ByteArray) : Dk.laid (list3 xi xm xn) = mk3 (fo xi) (fo xm) (fo xn) := by
  unfold list3 full1 fo
  by_cases h1 : xi = ⟨#[]⟩ <;> by_cases h2 : xm = ⟨#[]⟩ <;> by_cases h3 : xn = ⟨#[]⟩ <;> simp only [h1, h2, h3, if_true, if_false] <;> rfl
/-- A word about the three files that what may stay of them keeps. -/
def Keeps (P : Dk.F → Dk.F → Dk.F → Prop) : Prop := ∀ fi fm fn xi xm xn, P fi fm fn → Left1 fi xi → Left1 fm xm → Left1 fn xn → P ⟨xi, xi⟩ ⟨xm, xm⟩ ⟨xn, xn⟩
/-- The disk's files are the three, and the word holds of them. -/
def On (P : Dk.F → Dk.F → Dk.F → Prop) (fs : Dk.Fs) : Prop := ∃ oi om on, fs = mk3 oi om on ∧ P (fd oi) (fd om) (fd on)
theorem on_after {P : Dk.F → Dk.F → Dk.F → Prop} (hP : Keeps P) {d : Dk.St} (h : On P d.files) (keep : List Bool) : ∃ xi xm xn, Dk.after d keep = list3 xi xm xn ∧ P ⟨xi, xi⟩ ⟨xm, xm⟩ ⟨xn, xn⟩ := by
  obtain ⟨oi, om, on, hf, hp⟩ := h
  obtain ⟨xi, xm, xn, e, h1, h2, h3⟩ := after3 d keep oi om on hf
  exact ⟨xi, xm, xn, e, hP _ _ _ _ _ _ hp h1 h2 h3⟩
theorem on_fallen {P : Dk.F → Dk.F → Dk.F → Prop} (hP : Keeps P) {d : Dk.St} (h : On P d.files) : On P (Dk.fallen d).files := by
  obtain ⟨xi, xm, xn, e, hp⟩ := on_after hP h d.keep
  refine ⟨fo xi, fo xm, fo xn, ?_, by rw [fd_fo, fd_fo, fd_fo]; exact hp⟩
  show Dk.laid (Dk.after d d.keep) = _
  rw [e, laid3]
/-- A fate that lies is of one of the five kinds. -/
def Fated (d : Dk.St) : Prop := 0 ≤ d.left ∧ (d.left = 0 ∨ (1 ≤ d.kind ∧ d.kind ≤ 5))
/-- What an act answers, where the word holds of the files whether it is done or not. -/
structure Acted (P : Dk.F → Dk.F → Dk.F → Prop) (d : Dk.St) (fs : Dk.Fs) (r : Int × Dk.St) : Prop where
  good : r.1 = 0 → d.left ≠ 1 ∧ r.2 = { d with files := fs, acts := d.acts + 1, left := if 0 < d.left then d.left - 1 else d.left }
  bad : r.1 ≠ 0 → d.left = 1 ∧ On P r.2.files ∧ r.2.left = 0 ∧ r.2.room = d.room ∧ r.2.acts = d.acts + 1 ∧ r.2.keep = d.keep
theorem act_on {P : Dk.F → Dk.F → Dk.F → Prop} (hP : Keeps P) {d : Dk.St} (hF : Fated d) (n : ByteArray) (f : Dk.F) (h0 : On P d.files) (h1 : On P (Dk.put d.files n f)) : Acted P d (Dk.put d.files n f) (Dk.actC d n f) := by
  have hdone : On P (Dk.doneF d n f).files := by
    unfold Dk.doneF
    split
    · exact h0
    · exact h1
  have hl : ∀ e : Dk.St, (Dk.fallen e).left = e.left := fun _ => rfl
  have hdl : (Dk.doneF d n f).left = if 0 < d.left then d.left - 1 else d.left := by unfold Dk.doneF; split <;> rfl
  have hdr : (Dk.doneF d n f).room = d.room ∧ (Dk.doneF d n f).acts = d.acts + 1 ∧ (Dk.doneF d n f).keep = d.keep := by unfold Dk.doneF; split <;> exact ⟨rfl, rfl, rfl⟩
  by_cases h1l : d.left = 1
  · have hk : Dk.kindNow d = d.kind := by unfold Dk.kindNow; rw [if_pos h1l]
    have hb : (1 : Int) ≤ d.kind ∧ d.kind ≤ 5 := by rcases hF.2 with e | e; omega; exact e
    have hl0 : (Dk.doneF d n f).left = 0 := by rw [hdl, h1l]; rfl
    have hbad : On P (Dk.actC d n f).2.files ∧ (Dk.actC d n f).2.left = 0 ∧ (Dk.actC d n f).2.room = d.room ∧ (Dk.actC d n f).2.acts = d.acts + 1 ∧ (Dk.actC d n f).2.keep = d.keep ∧ (Dk.actC d n f).1 ≠ 0 := by
      unfold Dk.actC
      rw [hk]
      split
      · exact ⟨hdone, hl0, hdr.1, hdr.2.1, hdr.2.2, by show (171 : Int) ≠ 0; decide⟩
      · split
        · exact ⟨hdone, hl0, hdr.1, hdr.2.1, hdr.2.2, by show (172 : Int) ≠ 0; decide⟩
        · rw [if_pos (by omega)]
          exact ⟨on_fallen hP hdone, hl0, hdr.1, hdr.2.1, hdr.2.2, by show (170 : Int) ≠ 0; decide⟩
    exact ⟨fun e => absurd e hbad.2.2.2.2.2, fun _ => ⟨h1l, hbad.1, hbad.2.1, hbad.2.2.1, hbad.2.2.2.1, hbad.2.2.2.2.1⟩⟩
  · have hk : Dk.kindNow d = 0 := by unfold Dk.kindNow; rw [if_neg h1l]
    have e : Dk.actC d n f = (0, { d with files := Dk.put d.files n f, acts := d.acts + 1, left := if 0 < d.left then d.left - 1 else d.left }) := by
      unfold Dk.actC Dk.doneF Dk.struck
      rw [hk]
      simp
    rw [e]
    exact ⟨fun _ => ⟨h1l, rfl⟩, fun h => absurd rfl h⟩
/-! settle under a fate -/
theorem fated_struck {d : Dk.St} (h : Fated d) : Fated { d with left := if 0 < d.left then d.left - 1 else d.left } := by
  have h0 := h.1
  refine ⟨by show 0 ≤ (if 0 < d.left then d.left - 1 else d.left); split <;> omega, ?_⟩
  rcases h.2 with e | e
  · left; show (if 0 < d.left then d.left - 1 else d.left) = 0; rw [if_neg (by omega)]; exact e
  · exact .inr e
/-- The disk goes on as it was but for its files, its acts and what is left of its fate. -/
structure Same (d d' : Dk.St) : Prop where
  down : d'.down = d.down
  room : d'.room = d.room
  kind : d'.kind = d.kind
  keep : d'.keep = d.keep
  left : d'.left ≤ d.left
  acts : d'.acts ≤ d.acts + 6
  fated : Fated d'
/-- What a run of acts answers: done, or refused. -/
structure Ran (P : Dk.F → Dk.F → Dk.F → Prop) (d : Dk.St) (fs : Dk.Fs) (j : Nat) (r : Int × Dk.St) : Prop where
  good : r.1 = 0 → r.2.files = fs ∧ r.2.down = d.down ∧ r.2.room = d.room ∧ r.2.keep = d.keep ∧ r.2.acts ≤ d.acts + j ∧ Fated r.2 ∧ (d.left = 0 → r.2.left = 0)
  bad : r.1 ≠ 0 → On P r.2.files ∧ r.2.left = 0 ∧ r.2.room = d.room ∧ r.2.acts ≤ d.acts + j ∧ r.2.keep = d.keep ∧ d.left ≠ 0
theorem Acted.ran {P : Dk.F → Dk.F → Dk.F → Prop} {d : Dk.St} (hF : Fated d) {fs : Dk.Fs} {r : Int × Dk.St} (h : Acted P d fs r) : Ran P d fs 1 r := by
  refine ⟨fun e => ?_, fun e => ?_⟩
  · obtain ⟨h1, h2⟩ := h.good e
    rw [h2]
    have := fated_struck hF
    refine ⟨rfl, rfl, rfl, rfl, Nat.le_refl _, ⟨this.1, this.2⟩, fun e0 => ?_⟩
    show (if 0 < d.left then d.left - 1 else d.left) = 0
    rw [if_neg (by omega)]; exact e0
  · obtain ⟨h1, h2, h3, h4, h5, h6⟩ := h.bad e
    exact ⟨h2, h3, h4, by omega, h6, by omega⟩
/-- One run behind another. -/
theorem ran_then {P : Dk.F → Dk.F → Dk.F → Prop} {d : Dk.St} {fs fs' : Dk.Fs} {j j' : Nat} {r : Int × Dk.St} (h : Ran P d fs j r) {g : Dk.St → Int × Dk.St}
    (hg : r.1 = 0 → Ran P r.2 fs' j' (g r.2)) : Ran P d fs' (j + j') (if r.1 ≠ 0 then r else g r.2) := by
  by_cases h0 : r.1 = 0
  · rw [if_neg (by simpa using h0)]
    obtain ⟨g1, g2, g3, g4, g5, g6, g7⟩ := h.good h0
    have h' := hg h0
    refine ⟨fun e => ?_, fun e => ?_⟩
    · obtain ⟨k1, k2, k3, k4, k5, k6, k7⟩ := h'.good e
      exact ⟨k1, k2.trans g2, k3.trans g3, k4.trans g4, by omega, k6, fun z => k7 (g7 z)⟩
    · obtain ⟨k1, k2, k3, k4, k5, k6⟩ := h'.bad e
      exact ⟨k1, k2, k3.trans g3, by omega, k5.trans g4, fun z => k6 (g7 z)⟩
  · rw [if_pos h0]
    refine ⟨fun e => absurd e h0, fun e => ?_⟩
    obtain ⟨k1, k2, k3, k4, k5, k6⟩ := h.bad e
    exact ⟨k1, k2, k3, by omega, k5, k6⟩
theorem ran_none {P : Dk.F → Dk.F → Dk.F → Prop} {d : Dk.St} (hF : Fated d) (j : Nat) : Ran P d d.files j (0, d) :=
  ⟨fun _ => ⟨rfl, rfl, rfl, rfl, Nat.le_add_right _ _, hF, id⟩, fun h => absurd rfl h⟩
theorem sync_ran {P : Dk.F → Dk.F → Dk.F → Prop} (hP : Keeps P) {d : Dk.St} (hF : Fated d) (hup : d.down = false) (n : ByteArray) (f : Dk.F) (hf : f = ⟨(Dk.get d.files n).now, (Dk.get d.files n).now⟩) (h0 : On P d.files) (h1 : On P (Dk.put d.files n f)) :
    Ran P d (Dk.put d.files n f) 1 (Dk.syncA d n) := by
  unfold Dk.syncA
  rw [if_neg (by rw [hup]; decide), ← hf]
  exact (act_on hP hF n f h0 h1).ran hF
theorem cut_ran {P : Dk.F → Dk.F → Dk.F → Prop} (hP : Keeps P) {d : Dk.St} (hF : Fated d) (hup : d.down = false) (n : ByteArray) (X T : ByteArray) (k : Nat) (hk : k = X.size) (hn : (Dk.get d.files n).now = X ++ T) (h0 : On P d.files) (h1 : On P (Dk.put d.files n ⟨X, (Dk.get d.files n).was⟩))
    (fs : Dk.Fs) (hfs : fs = if T.size = 0 then d.files else Dk.put d.files n ⟨X, (Dk.get d.files n).was⟩) : Ran P d fs 1 (cutIf d n k) := by
  have hsz : Dk.size d n = ((X ++ T).size : Int) := by unfold Dk.size; rw [if_neg (by rw [hup]; decide), hn]
  have hex : (X ++ T).extract 0 k = X := by
    have := ext_mid ⟨#[]⟩ X T (i := 0) (j := k) rfl (by omega)
    rwa [nilap] at this
  unfold cutIf
  rw [hsz, ByteArray.size_append]
  by_cases hT : T.size = 0
  · rw [if_neg (by omega)]
    rw [if_pos hT] at hfs
    rw [hfs]
    exact ran_none hF 1
  · rw [if_pos (by omega)]
    rw [if_neg hT] at hfs
    unfold Dk.cutA
    rw [if_neg (by rw [hup]; decide), hn, if_neg (by rw [ByteArray.size_append]; omega), Int.toNat_natCast, hex, hfs]
    exact (act_on hP hF n _ h0 h1).ran hF
section
variable {P : Dk.F → Dk.F → Dk.F → Prop} {A N M ta tn tm : ByteArray} {oi om on : Option Dk.F} {d : Dk.St}
theorem empty_of {t : ByteArray} (h : t.size = 0) : t = ⟨#[]⟩ := byt_ext h (fun i hi => by omega)
theorem cut3_items (hP : Keeps P) (hF : Fated d) (hup : d.down = false) (hf : d.files = mk3 oi om on) (hA : (fd oi).now = A ++ ta) (k : Nat) (hk : k = A.size) (hp : P (fd oi) (fd om) (fd on)) (hc : P ⟨A, (fd oi).was⟩ (fd om) (fd on)) :
    ∃ o, Ran P d (mk3 o om on) 1 (cutIf d nItems k) ∧ (fd o).now = A ∧ P (fd o) (fd om) (fd on) := by
  have hg : Dk.get d.files nItems = fd oi := by rw [hf, get3_items]
  have h := fun fs hfs => cut_ran hP hF hup nItems A ta k hk (by rw [hg]; exact hA) ⟨oi, om, on, hf, hp⟩ ⟨some ⟨A, (fd oi).was⟩, om, on, by rw [hg, hf, put3_items], hc⟩ fs hfs
  by_cases ht : ta.size = 0
  · exact ⟨oi, h _ (by rw [if_pos ht, hf]), by rw [hA, empty_of ht, apnil], hp⟩
  · exact ⟨some ⟨A, (fd oi).was⟩, h _ (by rw [if_neg ht, hg, hf, put3_items]), rfl, hc⟩
theorem cut3_nodes (hP : Keeps P) (hF : Fated d) (hup : d.down = false) (hf : d.files = mk3 oi om on) (hN : (fd on).now = N ++ tn) (k : Nat) (hk : k = N.size) (hp : P (fd oi) (fd om) (fd on)) (hc : P (fd oi) (fd om) ⟨N, (fd on).was⟩) :
    ∃ o, Ran P d (mk3 oi om o) 1 (cutIf d nNodes k) ∧ (fd o).now = N ∧ P (fd oi) (fd om) (fd o) := by
  have hg : Dk.get d.files nNodes = fd on := by rw [hf, get3_nodes]
  have h := fun fs hfs => cut_ran hP hF hup nNodes N tn k hk (by rw [hg]; exact hN) ⟨oi, om, on, hf, hp⟩ ⟨oi, om, some ⟨N, (fd on).was⟩, by rw [hg, hf, put3_nodes], hc⟩ fs hfs
  by_cases ht : tn.size = 0
  · exact ⟨on, h _ (by rw [if_pos ht, hf]), by rw [hN, empty_of ht, apnil], hp⟩
  · exact ⟨some ⟨N, (fd on).was⟩, h _ (by rw [if_neg ht, hg, hf, put3_nodes]), rfl, hc⟩
theorem cut3_marks (hP : Keeps P) (hF : Fated d) (hup : d.down = false) (hf : d.files = mk3 oi om on) (hM : (fd om).now = M ++ tm) (k : Nat) (hk : k = M.size) (hp : P (fd oi) (fd om) (fd on)) (hc : P (fd oi) ⟨M, (fd om).was⟩ (fd on)) :
    ∃ o, Ran P d (mk3 oi o on) 1 (cutIf d nMarks k) ∧ (fd o).now = M ∧ P (fd oi) (fd o) (fd on) := by
  have hg : Dk.get d.files nMarks = fd om := by rw [hf, get3_marks]
  have h := fun fs hfs => cut_ran hP hF hup nMarks M tm k hk (by rw [hg]; exact hM) ⟨oi, om, on, hf, hp⟩ ⟨oi, some ⟨M, (fd om).was⟩, on, by rw [hg, hf, put3_marks], hc⟩ fs hfs
  by_cases ht : tm.size = 0
  · exact ⟨om, h _ (by rw [if_pos ht, hf]), by rw [hM, empty_of ht, apnil], hp⟩
  · exact ⟨some ⟨M, (fd om).was⟩, h _ (by rw [if_neg ht, hg, hf, put3_marks]), rfl, hc⟩
theorem sync3_items (hP : Keeps P) (hF : Fated d) (hup : d.down = false) (hf : d.files = mk3 oi om on) (hA : (fd oi).now = A) (hp : P (fd oi) (fd om) (fd on)) (hc : P ⟨A, A⟩ (fd om) (fd on)) : Ran P d (mk3 (some ⟨A, A⟩) om on) 1 (Dk.syncA d nItems) := by
  have hg : Dk.get d.files nItems = fd oi := by rw [hf, get3_items]
  have h := sync_ran hP hF hup nItems ⟨A, A⟩ (by rw [hg, hA]) ⟨oi, om, on, hf, hp⟩ ⟨some ⟨A, A⟩, om, on, by rw [hf, put3_items], hc⟩
  rwa [hf, put3_items] at h
theorem sync3_nodes (hP : Keeps P) (hF : Fated d) (hup : d.down = false) (hf : d.files = mk3 oi om on) (hN : (fd on).now = N) (hp : P (fd oi) (fd om) (fd on)) (hc : P (fd oi) (fd om) ⟨N, N⟩) : Ran P d (mk3 oi om (some ⟨N, N⟩)) 1 (Dk.syncA d nNodes) := by
  have hg : Dk.get d.files nNodes = fd on := by rw [hf, get3_nodes]
  have h := sync_ran hP hF hup nNodes ⟨N, N⟩ (by rw [hg, hN]) ⟨oi, om, on, hf, hp⟩ ⟨oi, om, some ⟨N, N⟩, by rw [hf, put3_nodes], hc⟩
  rwa [hf, put3_nodes] at h
theorem sync3_marks (hP : Keeps P) (hF : Fated d) (hup : d.down = false) (hf : d.files = mk3 oi om on) (hM : (fd om).now = M) (hp : P (fd oi) (fd om) (fd on)) (hc : P (fd oi) ⟨M, M⟩ (fd on)) : Ran P d (mk3 oi (some ⟨M, M⟩) on) 1 (Dk.syncA d nMarks) := by
  have hg : Dk.get d.files nMarks = fd om := by rw [hf, get3_marks]
  have h := sync_ran hP hF hup nMarks ⟨M, M⟩ (by rw [hg, hM]) ⟨oi, om, on, hf, hp⟩ ⟨oi, some ⟨M, M⟩, on, by rw [hf, put3_marks], hc⟩
  rwa [hf, put3_marks] at h
theorem flip_if {r : Int × Dk.St} {X : Int × Dk.St} : (if r.1 = 0 then X else r) = if r.1 ≠ 0 then r else X := by
  by_cases h : r.1 = 0
  · rw [if_pos h, if_neg (by simpa using h)]
  · rw [if_neg h, if_pos h]
/-- settle, whatever fate lies: done, and the files are just these; or refused, and the word holds. -/
theorem settle_ran (hP : Keeps P) (hF : Fated d) (hup : d.down = false) (hf : d.files = mk3 oi om on) (hA : (fd oi).now = A ++ ta) (hN : (fd on).now = N ++ tn) (hM : (fd om).now = M ++ tm) (e n : Nat) (he : e = A.size) (hNs : N.size = 40 * nodes n) (hMs : M.size = 64 * n) (hp : P (fd oi) (fd om) (fd on))
    (cI : ∀ fi fm fn, P fi fm fn → P ⟨A, fi.was⟩ fm fn) (cN : ∀ fi fm fn, P fi fm fn → P fi fm ⟨N, fn.was⟩) (cM : ∀ fi fm fn, P fi fm fn → P fi ⟨M, fm.was⟩ fn)
    (sI : ∀ fi fm fn, P fi fm fn → P ⟨A, A⟩ fm fn) (sN : ∀ fi fm fn, P fi fm fn → P fi fm ⟨N, N⟩) (sM : ∀ fi fm fn, P fi fm fn → P fi ⟨M, M⟩ fn) :
    Ran P d [(nItems, ⟨A, A⟩), (nMarks, ⟨M, M⟩), (nNodes, ⟨N, N⟩)] 6 (settleA d e n) := by
  unfold settleA
  obtain ⟨o1, r1, g1, p1⟩ := cut3_items hP hF hup hf hA e he hp (cI _ _ _ hp)
  refine ran_then (j' := 5) (g := fun x1 => if (cutIf x1 nNodes (40 * nodes n)).1 ≠ 0 then cutIf x1 nNodes (40 * nodes n) else if (cutIf (cutIf x1 nNodes (40 * nodes n)).2 nMarks (64 * n)).1 ≠ 0 then cutIf (cutIf x1 nNodes (40 * nodes n)).2 nMarks (64 * n) else doAll (cutIf (cutIf x1 nNodes (40 * nodes n)).2 nMarks (64 * n)).2 [.sync nItems, .sync nNodes, .sync nMarks]) r1 (fun z1 => ?_)
  obtain ⟨f1, d1, _, _, _, F1, _⟩ := r1.good z1
  obtain ⟨o2, r2, g2, p2⟩ := cut3_nodes hP F1 (d1.trans hup) f1 hN (40 * nodes n) hNs.symm p1 (cN _ _ _ p1)
  refine ran_then (j' := 4) (g := fun x2 => if (cutIf x2 nMarks (64 * n)).1 ≠ 0 then cutIf x2 nMarks (64 * n) else doAll (cutIf x2 nMarks (64 * n)).2 [.sync nItems, .sync nNodes, .sync nMarks]) r2 (fun z2 => ?_)
  obtain ⟨f2, d2, _, _, _, F2, _⟩ := r2.good z2
  obtain ⟨o3, r3, g3, p3⟩ := cut3_marks hP F2 (d2.trans (d1.trans hup)) f2 hM (64 * n) hMs.symm p2 (cM _ _ _ p2)
  refine ran_then (j' := 3) (g := fun x3 => doAll x3 [.sync nItems, .sync nNodes, .sync nMarks]) r3 (fun z3 => ?_)
  obtain ⟨f3, d3, _, _, _, F3, _⟩ := r3.good z3
  have u3 := d3.trans (d2.trans (d1.trans hup))
  have s1 := sync3_items hP F3 u3 f3 g1 p3 (sI _ _ _ p3)
  rw [doAll, flip_if]
  refine ran_then (j' := 2) (g := fun x => doAll x [.sync nNodes, .sync nMarks]) s1 (fun z4 => ?_)
  obtain ⟨f4, d4, _, _, _, F4, _⟩ := s1.good z4
  have p4 : P (fd (some ⟨A, A⟩)) (fd o3) (fd o2) := sI _ _ _ p3
  have s2 := sync3_nodes hP F4 (d4.trans u3) f4 g2 p4 (sN _ _ _ p4)
  rw [doAll, flip_if]
  refine ran_then (j' := 1) (g := fun x => doAll x [.sync nMarks]) s2 (fun z5 => ?_)
  obtain ⟨f5, d5, _, _, _, F5, _⟩ := s2.good z5
  have p5 : P (fd (some ⟨A, A⟩)) (fd o3) (fd (some ⟨N, N⟩)) := sN _ _ _ p4
  have s3 := sync3_marks hP F5 (d5.trans (d4.trans u3)) f5 g3 p5 (sM _ _ _ p5)
  rw [doAll, flip_if]
  refine ran_then (j' := 0) (g := fun x => (0, x)) s3 (fun z6 => ?_)
  obtain ⟨f6, _, _, _, _, F6, _⟩ := s3.good z6
  have h := ran_none (P := P) F6 0
  rw [f6] at h
  exact h
end
/-- None of the six texts is long. -/
def Small (fi fm fn : Dk.F) : Prop := (fi.now.size ≤ 100000 ∧ fi.was.size ≤ 100000) ∧ (fm.now.size ≤ 100000 ∧ fm.was.size ≤ 100000) ∧ (fn.now.size ≤ 100000 ∧ fn.was.size ≤ 100000)
theorem left_small {f : Dk.F} {x : ByteArray} (h : f.now.size ≤ 100000 ∧ f.was.size ≤ 100000) (hl : Left1 f x) : x.size ≤ 100000 ∧ x.size ≤ 100000 := by
  rcases hl.size with e | e <;> omega
theorem small_keeps : Keeps Small := fun _ _ _ _ _ _ hp h1 h2 h3 => ⟨left_small hp.1 h1, left_small hp.2.1 h2, left_small hp.2.2 h3⟩
theorem keeps_and {P Q : Dk.F → Dk.F → Dk.F → Prop} (hP : Keeps P) (hQ : Keeps Q) : Keeps (fun a b c => P a b c ∧ Q a b c) :=
  fun _ _ _ _ _ _ hp h1 h2 h3 => ⟨hP _ _ _ _ _ _ hp.1 h1 h2 h3, hQ _ _ _ _ _ _ hp.2 h1 h2 h3⟩
theorem settle_small {P : Dk.F → Dk.F → Dk.F → Prop} {A N M ta tn tm : ByteArray} {oi om on : Option Dk.F} {d : Dk.St} (hP : Keeps P) (hF : Fated d) (hup : d.down = false) (hf : d.files = mk3 oi om on) (hA : (fd oi).now = A ++ ta) (hN : (fd on).now = N ++ tn) (hM : (fd om).now = M ++ tm) (e n : Nat) (he : e = A.size) (hNs : N.size = 40 * nodes n) (hMs : M.size = 64 * n) (hp : P (fd oi) (fd om) (fd on)) (hs : Small (fd oi) (fd om) (fd on))
    (cI : ∀ fi fm fn, P fi fm fn → P ⟨A, fi.was⟩ fm fn) (cN : ∀ fi fm fn, P fi fm fn → P fi fm ⟨N, fn.was⟩) (cM : ∀ fi fm fn, P fi fm fn → P fi ⟨M, fm.was⟩ fn)
    (sI : ∀ fi fm fn, P fi fm fn → P ⟨A, A⟩ fm fn) (sN : ∀ fi fm fn, P fi fm fn → P fi fm ⟨N, N⟩) (sM : ∀ fi fm fn, P fi fm fn → P fi ⟨M, M⟩ fn) :
    Ran (fun a b c => P a b c ∧ Small a b c) d [(nItems, ⟨A, A⟩), (nMarks, ⟨M, M⟩), (nNodes, ⟨N, N⟩)] 6 (settleA d e n) := by
  have zA : A.size ≤ 100000 := by have := hs.1.1; rw [hA, ByteArray.size_append] at this; omega
  have zN : N.size ≤ 100000 := by have := hs.2.2.1; rw [hN, ByteArray.size_append] at this; omega
  have zM : M.size ≤ 100000 := by have := hs.2.1.1; rw [hM, ByteArray.size_append] at this; omega
  exact settle_ran (keeps_and hP small_keeps) hF hup hf hA hN hM e n he hNs hMs ⟨hp, hs⟩
    (fun _ _ _ h => ⟨cI _ _ _ h.1, ⟨zA, h.2.1.2⟩, h.2.2⟩) (fun _ _ _ h => ⟨cN _ _ _ h.1, h.2.1, h.2.2.1, ⟨zN, h.2.2.2.2⟩⟩) (fun _ _ _ h => ⟨cM _ _ _ h.1, h.2.1, ⟨zM, h.2.2.1.2⟩, h.2.2.2⟩)
    (fun _ _ _ h => ⟨sI _ _ _ h.1, ⟨zA, zA⟩, h.2.2⟩) (fun _ _ _ h => ⟨sN _ _ _ h.1, h.2.1, h.2.2.1, ⟨zN, zN⟩⟩) (fun _ _ _ h => ⟨sM _ _ _ h.1, h.2.1, ⟨zM, zM⟩, h.2.2.2⟩)
/-! Open of such files -/
theorem markers_zero {k : Nat} (hk1 : 1 ≤ k) (hk : k ≤ 32) : ∀ (R acc : List Rec.Mk), (∀ m ∈ acc, m.k = (k : Int)) → mOk k acc.length ((acc.getLast?.map (·.items)).getD 0) R →
    markersF (k : Int) (mB acc ++ (mB R ++ z64)) (R.length + 1) acc = some (acc ++ R)
  | [], acc, hacc, _ => by
    have hs := mB_size hk1 hk acc hacc
    have hz : z64.size = 64 := Dk.zeros_size 64
    rw [show mB [] ++ z64 = z64 from nilap _, List.length_nil, Nat.zero_add, List.append_nil]
    unfold markersF
    have e : (mB acc ++ z64).extract (64 * acc.length) (64 * acc.length + 64) = z64 := by
      have := ext_mid (mB acc) z64 ⟨#[]⟩ (i := 64 * acc.length) (j := 64 * acc.length + 64) hs.symm (by rw [hz])
      rwa [apnil] at this
    rw [e, zero_z64, if_pos ⟨rfl, rfl⟩]
  | m :: R, acc, hacc, h => by
    obtain ⟨⟨h1, h2, h3, h4, h5, h6⟩, hr⟩ := h
    have hmk : 1 ≤ m.k ∧ m.k ≤ 32 := by omega
    have hs := mB_size hk1 hk acc hacc
    have e1 : (mB acc ++ (mB (m :: R) ++ z64)).extract (64 * acc.length) (64 * acc.length + 64) = Rec.markB m := by
      show (mB acc ++ (Rec.markB m ++ mB R ++ z64)).extract _ _ = _
      rw [apass]
      exact ext_mid _ _ _ hs.symm (by rw [Rec.mark_size m hmk.1 hmk.2])
    rw [List.length_cons]
    conv => lhs; unfold markersF
    rw [e1, if_neg (by rw [mark_notZero m hmk.1 hmk.2]; intro h; exact absurd h.2 (by decide)), Rec.readMark_back m h1 hmk.1 hmk.2]
    dsimp only
    rw [if_neg (by omega)]
    have e2 : mB acc ++ (mB (m :: R) ++ z64) = mB (acc ++ [m]) ++ (mB R ++ z64) := by
      rw [mB_append]
      show mB acc ++ (Rec.markB m ++ mB R ++ z64) = mB acc ++ (Rec.markB m ++ ⟨#[]⟩) ++ _
      rw [apnil, apass, apass]
    rw [e2, markers_zero hk1 hk R (acc ++ [m]) (by
      intro x hx
      rcases List.mem_append.1 hx with hx | hx
      · exact hacc x hx
      · rw [List.mem_singleton.1 hx]; exact h4) (by
      rw [List.length_append, List.getLast?_append]
      exact hr), List.append_assoc]
    rfl
theorem short_tails {k : Nat} (hk : k ≤ 32) {L : List It} (hL : okL k 0 L) (ta tn : ByteArray) : tooShort (aF L ++ ta) (nF 0 L ++ tn) (ms k L 0 0 0) = false := by
  have hN := nL_size hk hL
  rcases List.eq_nil_or_concat L with rfl | ⟨M, y, rfl⟩
  · rfl
  · rw [List.concat_eq_append] at hN ⊢
    unfold tooShort
    rw [ms_append, List.getLast?_append]
    show decide (_ ∨ _) = false
    apply decide_eq_false
    intro h
    rcases h with h | h
    · have h : (aF (M ++ [y]) ++ ta).size < 0 + (aF M).size + (Rec.payB y.1).size := h
      rw [ByteArray.size_append, aF_snoc, ByteArray.size_append] at h
      omega
    · have h : (nF 0 (M ++ [y]) ++ tn).size < 40 * nodes (0 + M.length + 1) := h
      rw [ByteArray.size_append, hN, List.length_append, List.length_singleton, Nat.zero_add] at h
      omega
/-- Open of files with tails, the markers' nothing or zeros. -/
theorem open_tails {d : Dk.St} (hup : d.down = false) {k : Nat} (hk1 : 1 ≤ k) (hk : k ≤ 32) {L : List It} {ta tm tn : ByteArray} (hL : okL k 0 L) (hn : L.length ≤ 65536) (hA : (aF L).size < 18446744073709551616)
    (h1 : (Dk.get d.files nItems).now = aF L ++ ta) (h2 : (Dk.get d.files nMarks).now = mL k L ++ tm) (h3 : (Dk.get d.files nNodes).now = nF 0 L ++ tn) (ht : tm = ⟨#[]⟩ ∨ tm = z64) :
    openA d (k : Int) = if (settleA d (aF L).size L.length).1 ≠ 0 then ((settleA d (aF L).size L.length).1, none, (settleA d (aF L).size L.length).2) else (0, some (stOf k L), (settleA d (aF L).size L.length).2) := by
  rcases ht with rfl | rfl
  · exact open_good hk1 hk (ta := ta) (tm := ⟨#[]⟩) (tn := tn) ⟨hup, h1, h3, h2, by decide⟩ hL hn hA
  · have hM := mL_size hk1 hk L
    have hz : z64.size = 64 := Dk.zeros_size 64
    have hmk : (mL k L ++ z64).size / 64 = (ms k L 0 0 0).length + 1 := by rw [ByteArray.size_append, ms_len]; omega
    have hmarks := markers_zero hk1 hk (ms k L 0 0 0) [] (by intro m hm; cases hm) (ms_ok hk L 0 0 0 hL (by omega) (by omega))
    rw [List.nil_append, show mB [] ++ (mB (ms k L 0 0 0) ++ z64) = mL k L ++ z64 from nilap _] at hmarks
    have hlook := look_good hk L 0 0 0 ⟨#[]⟩ ⟨#[]⟩ ta tn rfl (by rw [nodes_zero]; rfl) hL
    rw [nilap, nilap] at hlook
    have hlast : ((ms k L 0 0 0).map (·.items)).getLastD 0 = (aF L).size := by rw [ms_items, endsF_last, Nat.zero_add]
    unfold openA
    rw [if_neg (by omega), if_neg (by rw [hup]; decide), h2, hmk, hmarks]
    dsimp only
    rw [h1, h3, if_neg (by rw [short_tails hk hL]; decide), Int.toNat_natCast, hlook]
    dsimp only
    rw [hlast, ms_len, ms_items]
    rfl
theorem inv_mono {may may' : Prop} (hm : may → may') {k : Nat} {L : List It} {x : It} {fi fm fn : Dk.F} (h : Inv may k L x fi fm fn) : Inv may' k L x fi fm fn :=
  ⟨h.items, h.nodes, h.marks, fun q => ⟨hm (h.more q).1, (h.more q).2⟩⟩
theorem on_mono {P Q : Dk.F → Dk.F → Dk.F → Prop} (h : ∀ a b c, P a b c → Q a b c) {fs : Dk.Fs} (ho : On P fs) : On Q fs := by
  obtain ⟨oi, om, on, hf, hp⟩ := ho
  exact ⟨oi, om, on, hf, h _ _ _ hp⟩
theorem mL_ne {k : Nat} (hk1 : 1 ≤ k) (hk : k ≤ 32) (L : List It) (x : It) : mL k L ≠ mL k (L ++ [x]) := by
  intro e
  have h := congrArg ByteArray.size e
  rw [mL_size hk1 hk, mL_size hk1 hk, List.length_append, List.length_singleton] at h
  omega
/-- Open, whatever fate lies: the files of L, or of L and x, and just these; or refused, and all is as it may be. -/
structure Opens (may : Prop) (k : Nat) (L : List It) (x : It) (d : Dk.St) (r : Int × Option St × Dk.St) : Prop where
  good : r.1 = 0 → ∃ L', (L' = L ∨ may ∧ L' = L ++ [x]) ∧ r.2.1 = some (stOf k L') ∧ r.2.2.files = [(nItems, ⟨aF L', aF L'⟩), (nMarks, ⟨mL k L', mL k L'⟩), (nNodes, ⟨nF 0 L', nF 0 L'⟩)] ∧ r.2.2.down = false ∧ r.2.2.room = d.room ∧ r.2.2.keep = d.keep ∧ r.2.2.acts ≤ d.acts + 6 ∧ Fated r.2.2 ∧ (d.left = 0 → r.2.2.left = 0)
  bad : r.1 ≠ 0 → r.2.1 = none ∧ On (fun a b c => Inv may k L x a b c ∧ Small a b c) r.2.2.files ∧ r.2.2.left = 0 ∧ r.2.2.room = d.room ∧ r.2.2.acts ≤ d.acts + 6 ∧ r.2.2.keep = d.keep ∧ d.left ≠ 0
theorem opens_of {may : Prop} {k : Nat} {L L' : List It} {x : It} {d : Dk.St} {P : Dk.F → Dk.F → Dk.F → Prop} (hup : d.down = false) (hL' : L' = L ∨ may ∧ L' = L ++ [x]) (hPQ : ∀ a b c, P a b c → Inv may k L x a b c ∧ Small a b c) {r : Int × Dk.St} (hr : Ran P d [(nItems, ⟨aF L', aF L'⟩), (nMarks, ⟨mL k L', mL k L'⟩), (nNodes, ⟨nF 0 L', nF 0 L'⟩)] 6 r) :
    Opens may k L x d (if r.1 ≠ 0 then (r.1, none, r.2) else (0, some (stOf k L'), r.2)) := by
  by_cases h0 : r.1 = 0
  · rw [if_neg (by simpa using h0)]
    obtain ⟨g1, g2, g3, g4, g5, g6, g7⟩ := hr.good h0
    exact ⟨fun _ => ⟨L', hL', rfl, g1, g2.trans hup, g3, g4, g5, g6, g7⟩, fun e => absurd rfl e⟩
  · rw [if_pos h0]
    obtain ⟨k1, k2, k3, k4, k5, k6⟩ := hr.bad h0
    exact ⟨fun e => absurd e h0, fun _ => ⟨rfl, on_mono hPQ k1, k2, k3, k4, k5, k6⟩⟩
theorem open_inv {may : Prop} {k : Nat} (hk1 : 1 ≤ k) (hk : k ≤ 32) {L : List It} {x : It} {d : Dk.St} (hF : Fated d) (hup : d.down = false) (hok : okL k 0 (L ++ [x])) (hn : L.length < 65536) (hA : (aF (L ++ [x])).size < 18446744073709551616)
    {oi om on : Option Dk.F} (hf : d.files = mk3 oi om on) (h : Inv may k L x (fd oi) (fd om) (fd on)) (hs : Small (fd oi) (fd om) (fd on)) (hw : (fd om).was = mL k (L ++ [x]) → (fd om).now = mL k (L ++ [x])) : Opens may k L x d (openA d (k : Int)) := by
  have hokL := ((okL_append L [x] 0).1 hok).1
  have hAL : (aF L).size < 18446744073709551616 := by rw [aF_snoc, ByteArray.size_append] at hA; omega
  have gi : Dk.get d.files nItems = fd oi := by rw [hf, get3_items]
  have gm : Dk.get d.files nMarks = fd om := by rw [hf, get3_marks]
  have gn : Dk.get d.files nNodes = fd on := by rw [hf, get3_nodes]
  by_cases hnow : (fd om).now = mL k (L ++ [x])
  · obtain ⟨hmay, bi, bn⟩ := h.more (.inl hnow)
    obtain ⟨ta, hta⟩ := bi.1
    obtain ⟨tn, htn⟩ := bn.1
    have hP : Keeps (fun fi fm fn => Inv may k L x fi fm fn ∧ Beg2 (aF (L ++ [x])) fi ∧ Beg2 (nF 0 (L ++ [x])) fn) := by
      intro fi fm fn xi xm xn hp h1 h2 h3
      have c1 := left_beg hp.2.1 h1
      have c2 := left_beg hp.2.2 h3
      exact ⟨inv_left hk1 hk hp.1 h1 h2 h3, ⟨c1, c1⟩, ⟨c2, c2⟩⟩
    have bA : Beg (aF L) (aF (L ++ [x])) := ⟨_, aF_snoc L x⟩
    have bN : Beg (nF 0 L) (nF 0 (L ++ [x])) := ⟨_, nF_snoc L x⟩
    have eM : mL k (L ++ [x]) = mL k L ++ kOf k L x := mL_snoc k L x
    have hrun := settle_small hP hF hup hf hta htn (hnow.trans (apnil _).symm) (aF (L ++ [x])).size (L ++ [x]).length rfl (nL_size hk hok) (mL_size hk1 hk _) ⟨h, bi, bn⟩ hs
      (fun fi fm fn hp => ⟨⟨⟨bA, hp.1.items.2⟩, hp.1.nodes, hp.1.marks, fun _ => ⟨hmay, ⟨beg_self _, hp.2.1.2⟩, hp.2.2⟩⟩, ⟨beg_self _, hp.2.1.2⟩, hp.2.2⟩)
      (fun fi fm fn hp => ⟨⟨hp.1.items, ⟨bN, hp.1.nodes.2⟩, hp.1.marks, fun _ => ⟨hmay, hp.2.1, ⟨beg_self _, hp.2.2.2⟩⟩⟩, hp.2.1, ⟨beg_self _, hp.2.2.2⟩⟩)
      (fun fi fm fn hp => ⟨⟨hp.1.items, hp.1.nodes, by obtain ⟨t1, t2, e1, e2, q1, q2⟩ := hp.1.marks; exact ⟨_, t2, eM, e2, .inr (.inr rfl), q2⟩, fun _ => ⟨hmay, hp.2.1, hp.2.2⟩⟩, hp.2.1, hp.2.2⟩)
      (fun fi fm fn hp => ⟨⟨⟨bA, bA⟩, hp.1.nodes, hp.1.marks, fun _ => ⟨hmay, ⟨beg_self _, beg_self _⟩, hp.2.2⟩⟩, ⟨beg_self _, beg_self _⟩, hp.2.2⟩)
      (fun fi fm fn hp => ⟨⟨hp.1.items, ⟨bN, bN⟩, hp.1.marks, fun _ => ⟨hmay, hp.2.1, ⟨beg_self _, beg_self _⟩⟩⟩, hp.2.1, ⟨beg_self _, beg_self _⟩⟩)
      (fun fi fm fn hp => ⟨⟨hp.1.items, hp.1.nodes, ⟨_, _, eM, eM, .inr (.inr rfl), .inr (.inr rfl)⟩, fun _ => ⟨hmay, hp.2.1, hp.2.2⟩⟩, hp.2.1, hp.2.2⟩)
    rw [open_tails hup hk1 hk hok (by rw [List.length_append, List.length_singleton]; omega) hA (by rw [gi]; exact hta) (by rw [gm]; exact hnow.trans (apnil _).symm) (by rw [gn]; exact htn) (.inl rfl)]
    exact opens_of hup (.inr ⟨hmay, rfl⟩) (fun _ _ _ hp => ⟨hp.1.1, hp.2⟩) hrun
  · have hF0 : Inv False k L x (fd oi) (fd om) (fd on) := ⟨h.items, h.nodes, h.marks, fun q => absurd (q.elim id hw) hnow⟩
    obtain ⟨ta, hta⟩ := h.items.1
    obtain ⟨tn, htn⟩ := h.nodes.1
    obtain ⟨t1, t2, e1, e2, q1, q2⟩ := h.marks
    have ht1 : t1 = ⟨#[]⟩ ∨ t1 = z64 := by
      rcases q1 with e | e | e
      · exact .inl e
      · exact .inr e
      · exact absurd (by rw [e1, e, mL_snoc]; rfl) hnow
    have hP : Keeps (Inv False k L x) := fun fi fm fn xi xm xn hp h1 h2 h3 => inv_left hk1 hk hp h1 h2 h3
    have hne := mL_ne hk1 hk L x
    have hrun := settle_small hP hF hup hf hta htn e1 (aF L).size L.length rfl (nL_size hk hokL) (mL_size hk1 hk _) hF0 hs
      (fun fi fm fn hp => ⟨⟨beg_self _, hp.items.2⟩, hp.nodes, hp.marks, fun q => (hp.more q).1.elim⟩)
      (fun fi fm fn hp => ⟨hp.items, ⟨beg_self _, hp.nodes.2⟩, hp.marks, fun q => (hp.more q).1.elim⟩)
      (fun fi fm fn hp => ⟨hp.items, hp.nodes, by obtain ⟨u1, u2, a1, a2, b1, b2⟩ := hp.marks; exact ⟨⟨#[]⟩, u2, (apnil _).symm, a2, .inl rfl, b2⟩, fun q => q.elim (fun q => absurd q hne) (fun q => (hp.more (.inr q)).1.elim)⟩)
      (fun fi fm fn hp => ⟨⟨beg_self _, beg_self _⟩, hp.nodes, hp.marks, fun q => (hp.more q).1.elim⟩)
      (fun fi fm fn hp => ⟨hp.items, ⟨beg_self _, beg_self _⟩, hp.marks, fun q => (hp.more q).1.elim⟩)
      (fun fi fm fn hp => ⟨hp.items, hp.nodes, ⟨⟨#[]⟩, ⟨#[]⟩, (apnil _).symm, (apnil _).symm, .inl rfl, .inl rfl⟩, fun q => absurd (q.elim id id) hne⟩)
    rw [open_tails hup hk1 hk hokL (by omega) hAL (by rw [gi]; exact hta) (by rw [gm]; exact e1) (by rw [gn]; exact htn) ht1]
    exact opens_of hup (.inl rfl) (fun _ _ _ hp => ⟨inv_mono False.elim hp.1, hp.2⟩) hrun
#print axioms open_inv
end Fl
end Go.Proofs.YtbfbajfdlkgloaaGreatDoor
