/-
  The program's disk: act in whatever state: with a fate that lies, and with the power's going.
-/
import Derived.Test.YtbfbajfdlkgloaaGreatDoorG05
import Derived.Test.YtbfbajfdlkgloaaGreatDoorG09

namespace Go.Proofs.YtbfbajfdlkgloaaGreatDoor
open Go Go.RowKit Go.Maps
namespace Dk
/-- The kind of the fate that the next act meets. -/
def kindNow (s : St) : Int := if s.left = 1 then s.kind else 0
def struck (s : St) : St := { s with acts := s.acts + 1, left := if 0 < s.left then s.left - 1 else s.left }
def doneF (s : St) (n : ByteArray) (f : F) : St :=
  if kindNow s = 1 ∨ kindNow s = 2 ∨ kindNow s = 4 then struck s else { struck s with files := put s.files n f }
/-- Files of which all bytes are synced. -/
def laid (l : List (ByteArray × ByteArray)) : Fs := l.foldl (fun fs p => put fs p.1 ⟨p.2, p.2⟩) []
def fallen (s : St) : St := { s with files := laid (after s s.keep), down := true }
def actC (s : St) (n : ByteArray) (f : F) : Int × St :=
  if kindNow s = 1 ∨ kindNow s = 3 then (171, doneF s n f) else if kindNow s = 2 then (172, doneF s n f)
  else if kindNow s = 4 ∨ kindNow s = 5 then (170, fallen (doneF s n f)) else (0, doneF s n f)
theorem struck_ok {s : St} (h : Ok s) (ha : s.acts < 4611686018427387904) : Ok (struck s) := by
  refine ⟨h.room, by show s.acts + 1 ≤ _; omega, ?_, h.names, h.many, h.sizes, h.up⟩
  have := h.left
  show 0 ≤ (if 0 < s.left then s.left - 1 else s.left) ∧ (if 0 < s.left then s.left - 1 else s.left) ≤ _
  split <;> omega
theorem doneF_ok {s : St} (h : Ok s) {n : ByteArray} {f : F} (hn : n.size ≤ 140737488351232) (ha : s.acts < 4611686018427387904) (hm : s.files.length < 1099511627776) (hf : f.now.size ≤ 268435456 ∧ f.was.size ≤ 268435456) : Ok (doneF s n f) := by
  unfold doneF
  split
  · exact struck_ok h ha
  · have h1 := struck_ok h ha
    have h2 := did_ok h hn ha hm hf
    exact ⟨h1.room, h1.acts, h1.left, h2.names, h2.many, h2.sizes, h2.up⟩
theorem laid_snoc (l : List (ByteArray × ByteArray)) (p : ByteArray × ByteArray) : laid (l ++ [p]) = put (laid l) p.1 ⟨p.2, p.2⟩ := by
  unfold laid; rw [List.foldl_append]; rfl
theorem laid_len : ∀ l : List (ByteArray × ByteArray), ∀ fs : Fs, (l.foldl (fun fs p => put fs p.1 ⟨p.2, p.2⟩) fs).length ≤ fs.length + l.length
  | [], fs => Nat.le_refl _
  | p :: l, fs => by
    have h1 := laid_len l (put fs p.1 ⟨p.2, p.2⟩)
    have h2 := len_put fs p.1 ⟨p.2, p.2⟩
    rw [List.foldl_cons, List.length_cons]
    omega
theorem laid_mem : ∀ (l : List (ByteArray × ByteArray)) (fs : Fs) (q : ByteArray × F), q ∈ l.foldl (fun fs p => put fs p.1 ⟨p.2, p.2⟩) fs → q ∈ fs ∨ ∃ p ∈ l, q = (p.1, ⟨p.2, p.2⟩)
  | [], fs, q, h => .inl h
  | p :: l, fs, q, h => by
    rcases laid_mem l _ q h with h | ⟨r, hr, e⟩
    · rcases mem_put h with e | h
      · exact .inr ⟨p, by simp, e⟩
      · exact .inl h
    · exact .inr ⟨r, by simp [hr], e⟩
theorem laid_up : ∀ (l : List (ByteArray × ByteArray)) (fs : Fs), Up fs → Up (l.foldl (fun fs p => put fs p.1 ⟨p.2, p.2⟩) fs)
  | [], _, h => h
  | p :: l, fs, h => laid_up l _ (up_put h _ _)
theorem pick_mem {l : Fs} {R : List ByteArray} {q : ByteArray × ByteArray} (h : q ∈ pick l R) : (∃ p ∈ l, p.1 = q.1) ∧ q.2 ∈ R := by
  unfold pick at h
  have h1 := (List.mem_filter.1 h).1
  have h2 := List.of_mem_zip h1
  refine ⟨?_, h2.2⟩
  obtain ⟨p, hp, e⟩ := List.mem_map.1 h2.1
  exact ⟨p, hp, e⟩
theorem afterF_size (keep : List Bool) (f : F) (c : Nat) (h : f.now.size ≤ 268435456 ∧ f.was.size ≤ 268435456) : (afterF keep f c).1.size ≤ 268435456 := by
  have h1 := stayLen_le keep f c
  have h2 : endLen f ≤ 268435456 := by unfold endLen; omega
  show ((secs keep f (endLen f) (firstQ keep f c).2 ((endLen f + 63) / 64)).1.extract 0 (stayLen keep f c)).size ≤ _
  rw [ByteArray.size_extract]; omega
theorem afterL_size (keep : List Bool) : ∀ (l : Fs) (c : Nat), (∀ p ∈ l, p.2.now.size ≤ 268435456 ∧ p.2.was.size ≤ 268435456) → ∀ x ∈ afterL keep l c, x.size ≤ 268435456
  | [], _, _, x, hx => by cases hx
  | p :: l, c, h, x, hx => by
    unfold afterL at hx
    rcases List.mem_cons.1 hx with rfl | hx
    · exact afterF_size keep p.2 c (h p (by simp))
    · exact afterL_size keep l _ (fun q hq => h q (by simp [hq])) x hx
theorem after_ok {s : St} (h : Ok s) (keep : List Bool) : (after s keep).length ≤ s.files.length ∧ ∀ q ∈ after s keep, q.1.size ≤ 140737488351232 ∧ q.2.size ≤ 268435456 := by
  unfold after files
  split
  · refine ⟨pick_le _ _, fun q hq => ?_⟩
    obtain ⟨⟨p, hp, e⟩, hr⟩ := pick_mem hq
    obtain ⟨p2, hp2, e2⟩ := List.mem_map.1 hr
    exact ⟨e ▸ h.names p hp, e2 ▸ (h.sizes p2 hp2).1⟩
  · refine ⟨pick_le _ _, fun q hq => ?_⟩
    obtain ⟨⟨p, hp, e⟩, hr⟩ := pick_mem hq
    exact ⟨e ▸ h.names p hp, afterL_size keep _ _ h.sizes _ hr⟩
theorem fallen_ok {s : St} (h : Ok s) : Ok (fallen s) := by
  obtain ⟨h1, h2⟩ := after_ok h s.keep
  have hl := laid_len (after s s.keep) []
  refine ⟨h.room, h.acts, h.left, ?_, ?_, ?_, laid_up _ _ List.Pairwise.nil⟩
  · intro p hp
    rcases laid_mem _ _ _ hp with h | ⟨q, hq, rfl⟩
    · cases h
    · exact (h2 q hq).1
  · have := h.many
    show (laid (after s s.keep)).length ≤ _
    unfold laid; simp only [List.length_nil] at hl; omega
  · intro p hp
    rcases laid_mem _ _ _ hp with h | ⟨q, hq, rfl⟩
    · cases h
    · exact ⟨(h2 q hq).2, (h2 q hq).2⟩
end Dk
/-- The disk behind a call: its struct and its list of choices lie where they lay; its map is the one that was, or a new one (where a fate was met). -/
def Turns (D : Dk.Blk) (s : Dk.St) (w w' : World) (s' : Dk.St) : Prop :=
  ∃ D' : Dk.Blk, D'.g = D.g ∧ D'.kv = D.kv ∧ (D'.mb = D.mb ∨ w.heap.size ≤ D'.mb) ∧ (¬ (Dk.kindNow s = 4 ∨ Dk.kindNow s = 5) → D' = D) ∧ DiskAt w' D' s' ∧ Moved (Dk.own D) w w'
theorem DiskAt.poke {w : World} {D : Dk.Blk} {s s' : Dk.St} (h : DiskAt w D s) (i : Nat) (v : Value) (hc : (Dk.cells D s).setIfInBounds i v = Dk.cells D s') (hf : s'.files = s.files) (hk : s'.keep = s.keep) (ok : Dk.Ok s') : DiskAt (w.setCell ⟨D.g, i, none⟩ v) D s' := by
  have hm : Moved (fun k => k = D.g) w (w.setCell ⟨D.g, i, none⟩ v) := Moved.setCell (S := fun k => k = D.g) (Moved.refl _ _) (a := ⟨D.g, i, none⟩) rfl _
  refine ⟨ok, ?_, ?_, ?_, h.apart⟩
  · rw [heap_setCell_same _ _ _ _ _ _ h.cells, hc]
  · rw [hf]
    obtain ⟨es, clock, hb, F, hs, hD⟩ := h.map
    exact ⟨es, clock, (hm.block D.mb h.map.lt (fun e => h.ne e.symm)).trans hb, F, hs, hD⟩
  · rw [hk]
    exact h.keep.stay hm.size fun k hk hlt => hm.block k hlt (fun e => h.apart.1 (by rw [hk, e]))
/-- A new map in the disk's struct. -/
theorem DiskAt.remap {w : World} {D : Dk.Blk} {s : Dk.St} (h : DiskAt w D s) : DiskAt ((w.alloc (.map #[] 0)).setCell ⟨D.g, 1, none⟩ (.map (some w.heap.size))) ⟨D.g, w.heap.size, D.kv⟩ { s with files := [] } := by
  have hb : Below w.heap.size w (w.alloc (.map #[] 0)) := (Below.refl _ _).alloc (Nat.le_refl _) _
  have hg := h.glt
  have hcell : (w.alloc (.map #[] 0)).heap[D.g]? = _ := (hb.block D.g hg).trans h.cells
  have hm : Moved (fun k => k = D.g) (w.alloc (.map #[] 0)) ((w.alloc (.map #[] 0)).setCell ⟨D.g, 1, none⟩ (.map (some w.heap.size))) := Moved.setCell (S := fun k => k = D.g) (Moved.refl _ _) (a := ⟨D.g, 1, none⟩) rfl _
  refine ⟨⟨h.ok.room, h.ok.acts, h.ok.left, (by intro p hp; cases hp), Nat.zero_le _, (by intro p hp; cases hp), List.Pairwise.nil⟩, ?_, ?_, ?_, ?_, ?_⟩
  · show ((w.alloc (.map #[] 0)).setCell ⟨D.g, 1, none⟩ (.map (some w.heap.size))).heap[D.g]? = _
    rw [heap_setCell_same _ _ _ _ _ _ hcell]
    simp [Dk.cells]
  · obtain ⟨es, clock, hb2, F, hs, hD⟩ := World.ownsMap_made w Tryz.prog 9 Dk.R
    exact ⟨es, clock, (hm.block w.heap.size (by simp) (fun e => by have e : w.heap.size = D.g := e; omega)).trans hb2, F, hs, hD⟩
  · exact (h.keep.below hb).stay hm.size fun k hk hlt => hm.block k hlt (fun e => h.apart.1 (by rw [hk, e]))
  · exact h.apart.1
  · show Dk.slBlk D.kv ≠ some w.heap.size
    intro e
    have := h.keep.blk_lt e
    omega
theorem Turns.same {D : Dk.Blk} {s s' : Dk.St} {w w' : World} (h : DiskAt w' D s') (hm : Moved (Dk.own D) w w') : Turns D s w w' s' := ⟨D, rfl, rfl, .inl rfl, fun _ => rfl, h, hm⟩
end Go.Proofs.YtbfbajfdlkgloaaGreatDoor
