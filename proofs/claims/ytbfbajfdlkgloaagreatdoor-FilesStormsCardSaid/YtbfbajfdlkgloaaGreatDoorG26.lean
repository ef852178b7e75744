/-
  A REGION IN WHICH SOME OPERATIONS (a list of them) TURN MEMORY, each in its turn; all others make new memory at most. What each leaves is said of the world ('say'), and is not asked for behind the next.
-/
import Derived.Test.YtbfbajfdlkgloaaGreatDoorG01
import Derived.Test.YtbfbajfdlkgloaaGreatDoorG23
import Derived.Test.YtbfbajfdlkgloaaGreatDoorG25
import Derived.OneCell

namespace Go.Proofs.YtbfbajfdlkgloaaGreatDoor
open Go Go.RowKit
def setE (S : List Nat) (i : Nat) (w w' : World) : Prop := if S.contains i = true then True else Below w.heap.size w w'
theorem set_stays {ops : Array Oper} {uses : Nat → List Nat} {fin : List Nat} {L : List Sp} {S : List Nat} (hlen : L.length ≤ ops.size) (hc : (S.all fun s => oneChk ops uses fin L s) = true) :
    ∀ i j v w w', stillUsed ops uses fin i j = true → spR L j v w → setE S i w w' → spR L j v w' := by
  intro i j v w w' hu hr he
  unfold setE at he
  split at he
  · rename_i hi
    have hm : i ∈ S := by simpa using hi
    have ho := List.all_eq_true.1 hc i hm
    refine Sp.isIs_any ?_ hr
    by_cases hj : j < ops.size
    · have := List.all_eq_true.1 ho j (List.mem_range.2 hj)
      rw [hu] at this; simpa using this
    · simp only [List.getD, List.getElem?_eq_none (show L.length ≤ j by omega)]; rfl
  · exact Sp.stays hr he
/-- What is asked for ahead of an operation; kept by all that may come ahead of it. -/
theorem set_pre {ops : Array Oper} {S : List Nat} {a : Nat} {Pr : World → Prop} (hk : ∀ w w', Pr w → Below w.heap.size w w' → Pr w') (hc : (S.all fun s => s == a || !preKept ops s a) = true) :
    ∀ i k w w', preKept ops i k = true → onePre a Pr k w → setE S i w w' → onePre a Pr k w' := by
  intro i k w w' hp hw he
  unfold onePre at *
  split
  · rename_i hka
    rw [if_pos hka] at hw
    unfold setE at he
    split at he
    · rename_i hi
      have hm : i ∈ S := by simpa using hi
      have ho := List.all_eq_true.1 hc i hm
      rw [hka] at hp
      rw [hp] at ho
      simp only [Bool.not_true, Bool.or_false, beq_iff_eq] at ho
      unfold preKept at hp
      simp [ho] at hp
    · exact hk _ _ hw he
  · trivial
theorem set_else {S : List Nat} {i : Nat} {w w' : World} (h : S.contains i = false) (hb : Below w.heap.size w w') : setE S i w w' := by unfold setE; rw [if_neg (by rw [h]; decide)]; exact hb
theorem set_at {S : List Nat} {i : Nat} {w w' : World} (h : S.contains i = true) : setE S i w w' := by unfold setE; rw [if_pos h]; trivial
theorem set_refl {S : List Nat} : ∀ i w, setE S i w w := by
  intro i w
  unfold setE
  split
  · trivial
  · exact Below.refl _ _
end Go.Proofs.YtbfbajfdlkgloaaGreatDoor

/-
  A region in which some operations turn memory, each leaving F of the worlds, through which some slots' facts stay.
-/
namespace Go.Proofs.YtbfbajfdlkgloaaGreatDoor
open Go Go.RowKit
/-! ### a region in which some operations turn memory, each by F; one slot's block stays through F -/
def setFE (S : List Nat) (F : World → World → Prop) (i : Nat) (w w' : World) : Prop := if S.contains i = true then F w w' else Below w.heap.size w w'
theorem setF_stays {ops : Array Oper} {uses : Nat → List Nat} {fin : List Nat} {L : List Sp} {S : List Nat} {F : World → World → Prop} (x : Nat) (hlen : L.length ≤ ops.size) (hc : (S.all fun s => oneChk1 ops uses fin L s x) = true)
    (hx : ∀ v w w', spR L x v w → F w w' → spR L x v w') : ∀ i j v w w', stillUsed ops uses fin i j = true → spR L j v w → setFE S F i w w' → spR L j v w' := by
  intro i j v w w' hu hr he
  unfold setFE at he
  split at he
  · rename_i hi
    have hm : i ∈ S := by simpa using hi
    have ho := List.all_eq_true.1 hc i hm
    by_cases hjx : j = x
    · subst hjx; exact hx v w w' hr he
    refine Sp.isIs_any ?_ hr
    by_cases hj : j < ops.size
    · have := List.all_eq_true.1 ho j (List.mem_range.2 hj)
      rw [hu] at this; simpa [hjx] using this
    · simp only [List.getD, List.getElem?_eq_none (show L.length ≤ j by omega)]; rfl
  · exact Sp.stays hr he
theorem setF_pre {ops : Array Oper} {S : List Nat} {F : World → World → Prop} {a : Nat} {Pr : World → Prop} (hk : ∀ w w', Pr w → Below w.heap.size w w' → Pr w') (hc : (S.all fun s => s == a || !preKept ops s a) = true) :
    ∀ i k w w', preKept ops i k = true → onePre a Pr k w → setFE S F i w w' → onePre a Pr k w' := by
  intro i k w w' hp hw he
  refine set_pre hk hc i k w w' hp hw ?_
  unfold setE
  unfold setFE at he
  split
  · trivial
  · rename_i hi
    rw [if_neg hi] at he; exact he
theorem setF_else {S : List Nat} {F : World → World → Prop} {i : Nat} {w w' : World} (h : S.contains i = false) (hb : Below w.heap.size w w') : setFE S F i w w' := by unfold setFE; rw [if_neg (by rw [h]; decide)]; exact hb
theorem setF_at {S : List Nat} {F : World → World → Prop} {i : Nat} {w w' : World} (h : S.contains i = true) (hF : F w w') : setFE S F i w w' := by unfold setFE; rw [if_pos h]; exact hF
theorem setF_refl {S : List Nat} {F : World → World → Prop} (hF : ∀ w, F w w) : ∀ i w, setFE S F i w w := by
  intro i w
  unfold setFE
  split
  · exact hF w
  · exact Below.refl _ _
def oneChkL (ops : Array Oper) (uses : Nat → List Nat) (fin : List Nat) (L : List Sp) (s : Nat) (xs : List Nat) : Bool := (List.range ops.size).all fun j => !stillUsed ops uses fin s j || (L.getD j (.is undef)).isIs || xs.contains j
theorem setF_staysL {ops : Array Oper} {uses : Nat → List Nat} {fin : List Nat} {L : List Sp} {S : List Nat} {F : World → World → Prop} (xs : List Nat) (hlen : L.length ≤ ops.size) (hc : (S.all fun s => oneChkL ops uses fin L s xs) = true)
    (hx : ∀ x ∈ xs, ∀ v w w', spR L x v w → F w w' → spR L x v w') : ∀ i j v w w', stillUsed ops uses fin i j = true → spR L j v w → setFE S F i w w' → spR L j v w' := by
  intro i j v w w' hu hr he
  unfold setFE at he
  split at he
  · rename_i hi
    have hm : i ∈ S := by simpa using hi
    have ho := List.all_eq_true.1 hc i hm
    by_cases hjx : j ∈ xs
    · exact hx j hjx v w w' hr he
    refine Sp.isIs_any ?_ hr
    by_cases hj : j < ops.size
    · have := List.all_eq_true.1 ho j (List.mem_range.2 hj)
      rw [hu] at this; simpa [hjx] using this
    · simp only [List.getD, List.getElem?_eq_none (show L.length ≤ j by omega)]; rfl
  · exact Sp.stays hr he
end Go.Proofs.YtbfbajfdlkgloaaGreatDoor

/-
  What stands behind the acts of Add: a lame store, a store with one item more; what an act makes longer.
-/
namespace Go.Proofs.YtbfbajfdlkgloaaGreatDoor
open Go Go.RowKit Go.Maps
/-- What an Add leaves: the store and its disk, in their places; nothing else has turned. -/
def Fl.Added (T : Fl.Blk) (D : Dk.Blk) (w w' : World) (s' : Fl.St) (d' : Dk.St) : Prop :=
  ∃ (T' : Fl.Blk) (D' : Dk.Blk), T'.g = T.g ∧ D'.g = D.g ∧ D'.kv = D.kv ∧ (T'.ev.ownBlock = T.ev.ownBlock ∨ ∀ b, T'.ev.ownBlock = some b → w.heap.size ≤ b) ∧ (D'.mb = D.mb ∨ w.heap.size ≤ D'.mb) ∧ StoreAt w' T' D'.g s' ∧ DiskAt w' D' d' ∧ Fl.Away T' D' ∧ Moved (fun k => k = T.g ∨ T.ev.ownBlock = some k ∨ Dk.own D k) w w'
/-! ### a region of which some operations want a fact of the world ahead of them -/
def listPre (As : List Nat) (Pr : World → Prop) (k : Nat) (w : World) : Prop := if As.contains k = true then Pr w else True
theorem list_pre {ops : Array Oper} {S As : List Nat} {F : World → World → Prop} {Pr : World → Prop} (hk : ∀ w w', Pr w → Below w.heap.size w w' → Pr w') (hc : (S.all fun s => As.all fun a => s == a || !preKept ops s a) = true) :
    ∀ i k w w', preKept ops i k = true → listPre As Pr k w → setFE S F i w w' → listPre As Pr k w' := by
  intro i k w w' hp hw he
  unfold listPre at *
  split
  · rename_i hka
    rw [if_pos hka] at hw
    unfold setFE at he
    split at he
    · rename_i hi
      have h1 := List.all_eq_true.1 hc i (by simpa using hi)
      have h2 := List.all_eq_true.1 h1 k (by simpa using hka)
      rw [hp] at h2
      simp only [Bool.not_true, Bool.or_false, beq_iff_eq] at h2
      unfold preKept at hp
      simp [h2] at hp
    · exact hk _ _ hw he
  · trivial
theorem list_pre_at {As : List Nat} {Pr : World → Prop} {w : World} {i : Nat} (h : listPre As Pr i w) (hi : As.contains i = true) : Pr w := by unfold listPre at h; rw [if_pos hi] at h; exact h
theorem list_start {As : List Nat} {i : Nat} {Pr : World → Prop} {w : World} (h : Pr w) : listPre As Pr i w := by unfold listPre; split <;> first | exact h | trivial
/-! ### what an act makes longer -/
theorem Dk.actC_grow {d : Dk.St} {n : ByteArray} {f : Dk.F} (h : (Dk.actC d n f).1 = 0) : (Dk.actC d n f).2.acts = d.acts + 1 ∧ (Dk.actC d n f).2.files.length ≤ d.files.length + 1 ∧ (Dk.actC d n f).2.keep = d.keep := by
  unfold Dk.actC at h ⊢
  split at h
  · simp at h
  · rename_i h1
    split at h
    · simp at h
    · rename_i h2
      split at h
      · simp at h
      · rename_i h3
        rw [if_neg h1, if_neg h2, if_neg h3]
        dsimp only
        unfold Dk.doneF
        split
        · exact ⟨rfl, Nat.le_succ _, rfl⟩
        · exact ⟨rfl, Dk.len_put _ _ _, rfl⟩
theorem Fl.doV_grow {d : Dk.St} {a : Fl.ActV} (h : (Fl.doV d a).1 = 0) : (Fl.doV d a).2.acts = d.acts + 1 ∧ (Fl.doV d a).2.files.length ≤ d.files.length + 1 ∧ (Fl.doV d a).2.keep = d.keep := by
  cases a with
  | write n off x =>
    change (Dk.writeA d n off x).1 = 0 at h
    show (Dk.writeA d n off x).2.acts = _ ∧ (Dk.writeA d n off x).2.files.length ≤ _ ∧ (Dk.writeA d n off x).2.keep = _
    unfold Dk.writeA at h ⊢
    split at h
    · simp at h
    · rename_i h1
      split at h
      · simp at h
      · rename_i h2
        split at h
        · simp at h
        · rename_i h3
          rw [if_neg h1, if_neg h2, if_neg h3]
          exact Dk.actC_grow h
  | sync n =>
    change (Dk.syncA d n).1 = 0 at h
    show (Dk.syncA d n).2.acts = _ ∧ (Dk.syncA d n).2.files.length ≤ _ ∧ (Dk.syncA d n).2.keep = _
    unfold Dk.syncA at h ⊢
    split at h
    · simp at h
    · rename_i h1
      rw [if_neg h1]
      exact Dk.actC_grow h
theorem Fl.doAll_cons {d : Dk.St} {a : Fl.ActV} {l : List Fl.ActV} {r : Int} {d2 : Dk.St} (h : Fl.doV d a = (r, d2)) : Fl.doAll d (a :: l) = if r = 0 then Fl.doAll d2 l else (r, d2) := by
  show (if (Fl.doV d a).1 = 0 then Fl.doAll (Fl.doV d a).2 l else Fl.doV d a) = _
  rw [h]
/-- An answer 0 keeps the disk's blocks. -/
theorem Dk.actC_same {d : Dk.St} {n : ByteArray} {f : Dk.F} (h : (Dk.actC d n f).1 = 0) : ¬ (Dk.kindNow d = 4 ∨ Dk.kindNow d = 5) := by
  intro hk
  unfold Dk.actC at h
  rw [if_neg (by omega), if_neg (by omega), if_pos hk] at h
  simp at h
theorem Fl.doV_same {d : Dk.St} {a : Fl.ActV} (h : (Fl.doV d a).1 = 0) : ¬ (Dk.kindNow d = 4 ∨ Dk.kindNow d = 5) := by
  cases a with
  | write n off x =>
    change (Dk.writeA d n off x).1 = 0 at h
    unfold Dk.writeA at h
    split at h
    · simp at h
    · split at h
      · simp at h
      · split at h
        · simp at h
        · exact Dk.actC_same h
  | sync n =>
    change (Dk.syncA d n).1 = 0 at h
    unfold Dk.syncA at h
    split at h
    · simp at h
    · exact Dk.actC_same h
theorem Turns.stays {D : Dk.Blk} {s s' : Dk.St} {w w' : World} (h : Turns D s w w' s') (hk : ¬ (Dk.kindNow s = 4 ∨ Dk.kindNow s = 5)) : DiskAt w' D s' ∧ Moved (Dk.own D) w w' := by
  obtain ⟨D', h1, h2, h3, h4, h5, h6⟩ := h
  rw [h4 hk] at h5
  exact ⟨h5, h6⟩
/-! ### the store's cells -/
theorem StoreAt.setLame {w : World} {T : Fl.Blk} {dg : Nat} {s : Fl.St} (h : StoreAt w T dg s) (b : Bool) : StoreAt (w.setCell ⟨T.g, 4, none⟩ (.bool b)) T dg { s with lame := b } := by
  refine ⟨⟨h.ok.strength, h.ok.many, h.ok.ends, h.ok.rise, h.ok.chain⟩, ?_, ?_, h.apart⟩
  · rw [heap_setCell_same _ _ _ _ _ _ h.cells]; rfl
  · exact ownsRow_setCell_other h.row h.apart _
theorem StoreAt.frozen {w : World} {T : Fl.Blk} {dg : Nat} {s : Fl.St} (h : StoreAt w T dg s) (i : Nat) : w.frozen? ⟨T.g, i, none⟩ = false := frozen_blk h.cells i
theorem DiskAt.other {w w' : World} {D : Dk.Blk} {d : Dk.St} {T : Fl.Blk} (h : DiskAt w D d) (hap : Fl.Away T D) (hm : Moved (fun k => k = T.g ∨ T.ev.ownBlock = some k) w w') : DiskAt w' D d := by
  refine h.stay hm ⟨?_, ?_, ?_⟩
  · rintro (e | e)
    · exact hap.g.1 e.symm
    · exact (hap.ev _ e).1 rfl
  · rintro (e | e)
    · exact hap.g.2 e.symm
    · exact (hap.ev _ e).2 rfl
  · intro k hk
    rintro (e | e)
    · exact (hap.keep k hk).1 e
    · exact (hap.keep k hk).2 e
theorem DiskAt.kvlt {w : World} {D : Dk.Blk} {d : Dk.St} (h : DiskAt w D d) {k : Nat} (hk : Dk.slBlk D.kv = some k) : k < w.heap.size := h.keep.blk_lt hk
/-- An act has erred: the store is lame. -/
theorem Fl.added_lame {T : Fl.Blk} {D : Dk.Blk} {s : Fl.St} {di d2 : Dk.St} {w WA u w1 : World} (h : StoreAt w T D.g s) (hap : Fl.Away T D) (hb : Below w.heap.size w WA) (hm : Moved (Dk.own D) WA u) (ht : Turns D di u w1 d2) :
    Fl.Added T D w (w1.setCell ⟨T.g, 4, none⟩ (.bool true)) { s with lame := true } d2 := by
  obtain ⟨D', e1, e2, e3, e4, e5, e6⟩ := ht
  have hle : w.heap.size ≤ u.heap.size := Nat.le_trans hb.size hm.size
  have hS : StoreAt w1 T D.g s := (((h.past hb).stay hm hap.away hap.evs).stay e6 hap.away hap.evs)
  have hlt := h.lt
  have hap' : Fl.Away T D' := by
    refine ⟨?_, ?_, by rw [e2]; exact hap.keep⟩
    · rw [e1]
      refine ⟨hap.g.1, ?_⟩
      rcases e3 with e | e
      · rw [e]; exact hap.g.2
      · omega
    · intro b hb2
      rw [e1]
      refine ⟨(hap.ev b hb2).1, ?_⟩
      rcases e3 with e | e
      · rw [e]; exact (hap.ev b hb2).2
      · have := (h.row.lt b hb2).2; omega
  have hset : Moved (fun k => k = T.g ∨ T.ev.ownBlock = some k) w1 (w1.setCell ⟨T.g, 4, none⟩ (.bool true)) := Moved.setCell (S := fun k => k = T.g ∨ T.ev.ownBlock = some k) (Moved.refl _ _) (a := ⟨T.g, 4, none⟩) (.inl rfl) _
  refine ⟨T, D', rfl, e1, e2, .inl rfl, e3.imp id (Nat.le_trans hle), by rw [e1]; exact hS.setLame true, e5.other hap' hset, hap', ?_⟩
  have h1 : Moved (fun k => k = T.g ∨ T.ev.ownBlock = some k ∨ Dk.own D k) w WA := Moved.of_below hb
  exact ((h1.then (hm.mono fun _ h => .inr (.inr h))).then (e6.mono fun _ h => .inr (.inr h))).then (hset.mono fun _ h => h.imp id .inl)
/-! ### one end more -/
def Row8 (T : Fl.Blk) (s : Fl.St) (E : Nat) (WQ u : World) (v : Value) : Prop := u.ownsRow 0 3 1 v (s.ends.length + 1) ((s.ends ++ [E]).map Fl.endV) ∧ (v.ownBlock = T.ev.ownBlock ∨ ∀ b, v.ownBlock = some b → WQ.heap.size ≤ b)
theorem Row8.past {T : Fl.Blk} {s : Fl.St} {E : Nat} {WQ u u' : World} {v : Value} (h : Row8 T s E WQ u v) (hb : Below u.heap.size u u') : Row8 T s E WQ u' v := ⟨own_below h.1 hb, h.2⟩
theorem Row8.ne {T : Fl.Blk} {s : Fl.St} {E : Nat} {WQ u : World} {v : Value} (h : Row8 T s E WQ u v) (ha : T.ev.ownBlock ≠ some T.g) (hlt : T.g < WQ.heap.size) : v.ownBlock ≠ some T.g := by
  rcases h.2 with e | e
  · rw [e]; exact ha
  · intro e2
    have := e _ e2
    omega
theorem Row8.set {T : Fl.Blk} {s : Fl.St} {E : Nat} {WQ u : World} {v : Value} (h : Row8 T s E WQ u v) (ha : T.ev.ownBlock ≠ some T.g) (hlt : T.g < WQ.heap.size) (i : Nat) (x : Value) : Row8 T s E WQ (u.setCell ⟨T.g, i, none⟩ x) v :=
  ⟨ownsRow_setCell_other h.1 (h.ne ha hlt) _, h.2⟩
def Say8 (T : Fl.Blk) (dg : Nat) (s : Fl.St) (E : Nat) (WQ : World) (v : Value) (u : World) : Prop := Row8 T s E WQ u v ∧ u.heap[T.g]? = some (.cells (Fl.cells T dg s) 93 (0, 0))
def Say12 (T : Fl.Blk) (dg : Nat) (s : Fl.St) (E : Nat) (WQ : World) (u : World) : Prop := ∃ v, Row8 T s E WQ u v ∧ u.heap[T.g]? = some (.cells (Fl.cells ⟨T.g, v⟩ dg s) 93 (0, 0))
def Say15 (T : Fl.Blk) (dg : Nat) (s : Fl.St) (E C : Nat) (WQ : World) (u : World) : Prop := ∃ v, Row8 T s E WQ u v ∧ u.heap[T.g]? = some (.cells (Fl.cells ⟨T.g, v⟩ dg { s with chain := C }) 93 (0, 0))
theorem Say8.past {T : Fl.Blk} {dg : Nat} {s : Fl.St} {E : Nat} {WQ u u' : World} {v : Value} (h : Say8 T dg s E WQ v u) (hb : Below u.heap.size u u') : Say8 T dg s E WQ v u' := ⟨h.1.past hb, blk_stable _ _ h.2 hb⟩
theorem Say12.past {T : Fl.Blk} {dg : Nat} {s : Fl.St} {E : Nat} {WQ u u' : World} (h : Say12 T dg s E WQ u) (hb : Below u.heap.size u u') : Say12 T dg s E WQ u' := by
  obtain ⟨v, h1, h2⟩ := h
  exact ⟨v, h1.past hb, blk_stable _ _ h2 hb⟩
theorem Say15.past {T : Fl.Blk} {dg : Nat} {s : Fl.St} {E C : Nat} {WQ u u' : World} (h : Say15 T dg s E C WQ u) (hb : Below u.heap.size u u') : Say15 T dg s E C WQ u' := by
  obtain ⟨v, h1, h2⟩ := h
  exact ⟨v, h1.past hb, blk_stable _ _ h2 hb⟩
theorem Say12.of {T : Fl.Blk} {dg : Nat} {s : Fl.St} {E : Nat} {WQ u : World} {v : Value} (h : Say8 T dg s E WQ v u) (ha : T.ev.ownBlock ≠ some T.g) (hlt : T.g < WQ.heap.size) : Say12 T dg s E WQ (u.setCell ⟨T.g, 2, none⟩ v) :=
  ⟨v, h.1.set ha hlt 2 v, by rw [heap_setCell_same _ _ _ _ _ _ h.2]; rfl⟩
theorem Say15.of {T : Fl.Blk} {dg : Nat} {s : Fl.St} {E C : Nat} {WQ u : World} (h : Say12 T dg s E WQ u) (ha : T.ev.ownBlock ≠ some T.g) (hlt : T.g < WQ.heap.size) : Say15 T dg s E C WQ (u.setCell ⟨T.g, 3, none⟩ (.int .u32 (C : Int))) := by
  obtain ⟨v, h1, h2⟩ := h
  exact ⟨v, h1.set ha hlt 3 _, by rw [heap_setCell_same _ _ _ _ _ _ h2]; rfl⟩
theorem info_intF : (Tryz.prog.info? 3).map (fun i => (i.zero, i.size, i.bytes)) = some (some (.int .i64 0), 1, 8) := by kernel_rfl
theorem row_slice {w : World} {base e size n : Nat} {v : Value} {xs : List Value} (h : w.ownsRow base e size v n xs) : ∃ a l c, v = .slice a l c := by
  obtain ⟨_, ⟨h2, _⟩ | ⟨g, cap, cur, h2, _⟩⟩ := h
  · exact ⟨_, _, _, h2⟩
  · exact ⟨_, _, _, h2⟩
/-- append of one end, told apart. -/
theorem wp_append_end {o : Oper} {a : Act} {w : World} {K : Act → World → Prop} {Q : Exit → Act → World → Prop} (p x : Operand)
    (ho : o.op = .call { callee := .builtin .append, args := #[p, x], argTypes := #[90, 90] })
    {T : Fl.Blk} {dg : Nat} {s : Fl.St} {WQ : World} (hw : StoreAt w T dg s) (hWQ : WQ.heap.size ≤ w.heap.size) (hs : a.eval p = T.ev) (B E : Nat)
    (hx : a.eval x = .slice (some ⟨B, 0, none⟩) 1 1) (hB : w.heap[B]? = some (.cells #[.int .i64 (E : Int)] 3 (0, 0)))
    (h : ∀ v' w', Say8 T dg s E WQ v' w' → Moved (fun k => k = T.g ∨ T.ev.ownBlock = some k) w w' → K (a.put o.dst v') w') : o.wp Tryz.prog a w K Q := by
  have hm := hw.ok.many
  refine wp_append_apart p x 90 ho 0 3 _ 1 8 Tryz.underlying90 info_intF rfl (by decide) T.ev s.ends.length (s.ends.map Fl.endV) hs hw.row ⟨B, 0, none⟩ 1 1 [.int .i64 (E : Int)] hx rfl ?_ (by intro u hu; rw [List.mem_singleton.1 hu]; rfl) (by unfold maxLen; omega) (by omega) (Nat.zero_le _) ?_
  · intro j u hj
    cases j with
    | zero =>
      injection hj with hj
      subst hj
      exact (cell_blk hB 0).trans rfl
    | succ j => simp at hj
  · intro v' w' hown hor
    have hown2 : w'.ownsRow 0 3 1 v' (s.ends.length + 1) ((s.ends ++ [E]).map Fl.endV) := by
      rw [List.map_append]; exact hown
    rcases hor with ⟨e, hg⟩ | ⟨e, hb⟩
    · have hm2 : Moved (fun k => T.ev.ownBlock = some k) w w' := Moved.of_grown hg fun j hj => hj
      refine h v' w' ⟨⟨hown2, .inl e⟩, ?_⟩ (hm2.mono fun _ h => .inr h)
      exact (hm2.block T.g hw.lt hw.apart).trans hw.cells
    · refine h v' w' ⟨⟨hown2, .inr fun k hk => Nat.le_trans hWQ (e k hk)⟩, blk_stable _ _ hw.cells hb⟩ (Moved.of_below hb)
/-- All acts were done: one item more. -/
theorem Fl.added_more {T : Fl.Blk} {D : Dk.Blk} {s : Fl.St} {d d2 : Dk.St} {E C : Nat} {w WA WQ u : World} (h : StoreAt w T D.g s) (hd : DiskAt w D d) (hap : Fl.Away T D) (hb : Below w.heap.size w WA) (hm : Moved (Dk.own D) WA WQ) (hd2 : DiskAt WQ D d2)
    (hu : Moved (fun k => k = T.g ∨ T.ev.ownBlock = some k) WQ u) (h15 : Say15 T D.g s E C WQ u) (hn : s.ends.length < 65536) (hE : E ≤ 268435456) (hfin : s.fin ≤ E) (hC : C < 4294967296) :
    Fl.Added T D w u { s with ends := s.ends ++ [E], chain := C } d2 := by
  obtain ⟨v, ⟨h1, h2⟩, h3⟩ := h15
  have hle : w.heap.size ≤ WQ.heap.size := Nat.le_trans hb.size hm.size
  have hlt := h.lt
  have hok : Fl.Ok { s with ends := s.ends ++ [E], chain := C } := by
    refine ⟨h.ok.strength, ?_, ?_, ?_, hC⟩
    · show (s.ends ++ [E]).length ≤ _; rw [List.length_append, List.length_singleton]; omega
    · intro n hn
      rcases List.mem_append.1 hn with hn | hn
      · exact h.ok.ends n hn
      · rw [List.mem_singleton.1 hn]; exact hE
    · show (s.ends ++ [E]).Pairwise (· ≤ ·)
      rw [List.pairwise_append]
      refine ⟨h.ok.rise, List.pairwise_singleton _ _, fun a ha b hb => ?_⟩
      rw [List.mem_singleton.1 hb]
      refine Nat.le_trans ?_ hfin
      obtain ⟨i, hi, rfl⟩ := List.mem_iff_getElem.1 ha
      rw [Fl.fin_eq, List.getD_eq_getElem?_getD, List.getElem?_eq_getElem (show s.ends.length - 1 < s.ends.length by omega)]
      show s.ends[i] ≤ s.ends[s.ends.length - 1]
      rcases Nat.lt_or_ge i (s.ends.length - 1) with hlt | hge
      · exact List.pairwise_iff_getElem.1 h.ok.rise i (s.ends.length - 1) hi (by omega) hlt
      · have : i = s.ends.length - 1 := by omega
        subst this; exact Nat.le_refl _
  have hne : v.ownBlock ≠ some T.g := by
    rcases h2 with e | e
    · rw [e]; exact h.apart
    · intro e2; have := e _ e2; omega
  have hS : StoreAt u ⟨T.g, v⟩ D.g { s with ends := s.ends ++ [E], chain := C } := by
    refine ⟨hok, h3, ?_, hne⟩
    show u.ownsRow 0 _ 1 v (s.ends ++ [E]).length _
    rw [List.length_append, List.length_singleton]
    exact h1
  have hap' : Fl.Away ⟨T.g, v⟩ D := by
    refine ⟨hap.g, ?_, ?_⟩
    · intro b hvb
      rcases h2 with e | e
      · exact hap.ev b (e ▸ hvb)
      · have h4 := e b hvb
        have h5 := hd2.glt
        have h6 := hd2.map.lt
        exact ⟨by omega, by omega⟩
    · intro b hkb
      refine ⟨(hap.keep b hkb).1, ?_⟩
      rcases h2 with e | e
      · show v.ownBlock ≠ _; rw [e]; exact (hap.keep b hkb).2
      · intro e2
        have h4 := e b e2
        have h5 := hd2.kvlt hkb
        omega
  refine ⟨⟨T.g, v⟩, D, rfl, rfl, rfl, h2.imp id (fun e b hb => Nat.le_trans hle (e b hb)), .inl rfl, hS, hd2.other hap hu, hap', ?_⟩
  have h1 : Moved (fun k => k = T.g ∨ T.ev.ownBlock = some k ∨ Dk.own D k) w WA := Moved.of_below hb
  exact (h1.then (hm.mono fun _ h => .inr (.inr h))).then (hu.mono fun _ h => h.imp id .inl)
/-! ### act behind act -/
def LoopAt (D : Dk.Blk) (d : Dk.St) (A : List Fl.ActV) (WA : World) (i : Nat) (di : Dk.St) (u : World) : Prop :=
  DiskAt u D di ∧ Moved (Dk.own D) WA u ∧ Fl.doAll d A = Fl.doAll di (A.drop i) ∧ di.acts ≤ d.acts + i ∧ di.files.length ≤ d.files.length + i ∧ di.keep = d.keep
theorem LoopAt.start {D : Dk.Blk} {d : Dk.St} {WA : World} (A : List Fl.ActV) (h : DiskAt WA D d) : LoopAt D d A WA 0 d WA := ⟨h, Moved.refl _ _, rfl, Nat.le_refl _, Nat.le_refl _, rfl⟩
theorem LoopAt.next {D : Dk.Blk} {d di d2 : Dk.St} {A : List Fl.ActV} {WA u u' : World} {i : Nat} {a : Fl.ActV} (h : LoopAt D d A WA i di u) (ha : A.drop i = a :: A.drop (i + 1)) (hr : Fl.doV di a = (0, d2)) (ht : Turns D di u u' d2) : LoopAt D d A WA (i + 1) d2 u' := by
  obtain ⟨h1, h2, h3, h4, h5, h6⟩ := h
  have hz : (Fl.doV di a).1 = 0 := by rw [hr]
  obtain ⟨g1, g2, g3⟩ := Fl.doV_grow hz
  rw [hr] at g1 g2 g3
  obtain ⟨t1, t2⟩ := ht.stays (Fl.doV_same hz)
  refine ⟨t1, h2.then t2, ?_, by dsimp only at g1; omega, by dsimp only at g2; omega, by rw [← h6]; exact g3⟩
  rw [h3, ha, Fl.doAll_cons hr, if_pos rfl]
theorem LoopAt.err {D : Dk.Blk} {d di d2 : Dk.St} {A : List Fl.ActV} {WA u : World} {i : Nat} {a : Fl.ActV} {r : Int} (h : LoopAt D d A WA i di u) (ha : A.drop i = a :: A.drop (i + 1)) (hr : Fl.doV di a = (r, d2)) (h0 : r ≠ 0) : Fl.doAll d A = (r, d2) := by
  rw [h.2.2.1, ha, Fl.doAll_cons hr, if_neg h0]
theorem LoopAt.fin {D : Dk.Blk} {d di : Dk.St} {A : List Fl.ActV} {WA u : World} {i : Nat} (h : LoopAt D d A WA i di u) (ha : A.drop i = []) : Fl.doAll d A = (0, di) := by
  rw [h.2.2.1, ha]; rfl
theorem Fl.add_err {s : Fl.St} {d d2 : Dk.St} {item : ByteArray} {made : List ByteArray} {r : Int} (hck : Fl.checkA s item made = 0) (h : Fl.doAll d (Fl.actsOf s item made) = (r, d2)) (h0 : r ≠ 0) : Fl.addA s d item made = (r, { s with lame := true }, d2) := by
  unfold Fl.addA
  rw [if_neg (by rw [hck]; exact fun h => h rfl), h, if_pos h0]
theorem Fl.add_ok {s : Fl.St} {d d2 : Dk.St} {item : ByteArray} {made : List ByteArray} (hck : Fl.checkA s item made = 0) (h : Fl.doAll d (Fl.actsOf s item made) = (0, d2)) : Fl.addA s d item made = (0, { s with ends := s.ends ++ [Fl.fin' s item], chain := Fl.chain' s item made }, d2) := by
  unfold Fl.addA
  rw [if_neg (by rw [hck]; exact fun h => h rfl), h, if_neg (fun h => h rfl)]
end Go.Proofs.YtbfbajfdlkgloaaGreatDoor
