/-
  Storms: what holds between the two fates: the plain law, third part. No program in sight.
-/
import Derived.Test.YtbfbajfdlkgloaaGreatDoorCFilesStormQ
import Derived.Test.YtbfbajfdlkgloaaGreatDoorCDiskLay
namespace Go.Proofs.YtbfbajfdlkgloaaGreatDoor
open Go Go.RowKit
namespace Fl
/-- A disk whose files are those of m items, behind which one more may be under way. -/
structure Ready (may : Prop) (k m : Nat) (l : List ByteArray) (b : Dk.St) : Prop where
  on : On (InvS may k (its k 0 (l.take m)) (itAt k l m)) b.files
  was : ∀ oi om on, b.files = mk3 oi om on → (fd om).was = mL k (its k 0 (l.take m) ++ [itAt k l m]) → (fd om).now = mL k (its k 0 (l.take m) ++ [itAt k l m])
  room : b.room = 1048576
  acts : b.acts ≤ 2000
  keep : b.keep.length ≤ 140737488351232
theorem wait_was {k : Nat} {L : List It} {x : It} {fs : Dk.Fs} (h : On (Wait k L x) fs) (oi om on : Option Dk.F) (hf : fs = mk3 oi om on) (hw : (fd om).was = mL k (L ++ [x])) : (fd om).now = mL k (L ++ [x]) := by
  obtain ⟨oi', om', on', hf', hp⟩ := h
  have e : fd om' = fd om := by
    have h1 := get3_marks oi' om' on'
    rw [← hf', hf, get3_marks] at h1
    exact h1.symm
  rw [← e] at hw ⊢
  exact hp.2 hw
theorem its_sizes {k : Nat} (hk1 : 1 ≤ k) (hk : k ≤ 32) {l : List ByteArray} (hl : l.length ≤ 12) (hs : ∀ x ∈ l, x.size ≤ 500) (m : Nat) : (aF (its k 0 (l.take m))).size ≤ 100000 ∧ (mL k (its k 0 (l.take m))).size ≤ 100000 ∧ (nF 0 (its k 0 (l.take m))).size ≤ 100000 := by
  have h1 := its_size k (l.take m) 0 (fun y hy => hs y (List.mem_of_mem_take hy))
  have hlt : (l.take m).length ≤ 12 := by rw [List.length_take]; omega
  have hok := its_ok k (l.take m) 0 (by omega) (fun y hy => by have := hs y (List.mem_of_mem_take hy); omega)
  have h2 := mL_size hk1 hk (its k 0 (l.take m))
  have h3 := nL_size hk hok
  have h4 := nodes_le (its k 0 (l.take m)).length
  rw [its_len] at h2 h3 h4
  exact ⟨by omega, by omega, by omega⟩
theorem on_good {may : Prop} {k m : Nat} (hk1 : 1 ≤ k) (hk : k ≤ 32) {l : List ByteArray} (hl : l.length ≤ 12) (hs : ∀ x ∈ l, x.size ≤ 500) {fs : Dk.Fs} (hf : fs = good3 k (its k 0 (l.take m))) : On (InvS may k (its k 0 (l.take m)) (itAt k l m)) fs := by
  obtain ⟨h1, h2, h3⟩ := its_sizes hk1 hk hl hs m
  exact ⟨some _, some _, some _, hf, inv_good hk1 hk _ _, ⟨h1, h1⟩, ⟨h2, h2⟩, h3, h3⟩
theorem ready_good {k m : Nat} (hk1 : 1 ≤ k) (hk : k ≤ 32) {l : List ByteArray} (hl : l.length ≤ 12) (hs : ∀ x ∈ l, x.size ≤ 500) {may : Prop} {b : Dk.St} (hf : b.files = good3 k (its k 0 (l.take m))) (hr : b.room = 1048576) (ha : b.acts ≤ 2000) (hk2 : b.keep.length ≤ 140737488351232) : Ready may k m l b := by
  refine ⟨on_good hk1 hk hl hs hf, fun oi om on he hw => ?_, hr, ha, hk2⟩
  have hg : fd om = ⟨mL k (its k 0 (l.take m)), mL k (its k 0 (l.take m))⟩ := by
    have h4 := get3_marks oi om on
    rw [← he, hf] at h4
    rw [← h4]; rfl
  rw [hg] at hw
  exact absurd hw (mL_ne hk1 hk _ _)
theorem ready_met {k : Nat} (hk1 : 1 ≤ k) (hk : k ≤ 32) {l : List ByteArray} (hl : l.length ≤ 12) (hs : ∀ x ∈ l, x.size ≤ 500) {i f : Nat} {d : Dk.St} {r : Nat × Int × St × Dk.St} (hif : i + f = l.length) (h : Mets k l i d f r) (hr : d.room = 1048576) (ha : d.acts ≤ 1000) (hk2 : d.keep.length ≤ 140737488351232) :
    Ready (r.1 < l.length) k r.1 l r.2.2.2 ∧ r.1 ≤ l.length := by
  by_cases h0 : r.2.1 = 0
  · obtain ⟨g1, g2, g3, g4, g5, g6, g7, g8, g9⟩ := h.good h0
    rw [g1]
    refine ⟨ready_good hk1 hk hl hs (by rw [List.take_length]; exact g3) (g5.trans hr) (by omega) (by rw [g6]; exact hk2), Nat.le_refl _⟩
  · obtain ⟨g1, g2, g3, g4, g5, g6, g7, g8, g9⟩ := h.bad h0
    refine ⟨⟨on_mono (fun a b c hp => ⟨inv_mono (fun _ => g2) hp.1.1, hp.1.2⟩) g4, wait_was g4, g6.trans hr, by omega, by rw [g8]; exact hk2⟩, by omega⟩
/-- What a disk is opened of. -/
theorem ready_open {may : Prop} {k m : Nat} (hk1 : 1 ≤ k) (hk : k ≤ 32) {l : List ByteArray} {d d' : Dk.St} (h : Ready may k m l d) (hf : d'.files = d.files) (keep : List Bool) :
    ∃ b, Dk.openC 1048576 (Dk.after d' keep) = (0, some b) ∧ Ready may k m l b ∧ b.down = false := by
  have hon := h.on
  rw [← hf] at hon
  obtain ⟨b, hb, hon2, hwas, hup, hleft, hroom, hacts, hkeep⟩ := stays_open (invS_keeps hk1 hk _ _) (fun _ _ _ hp => hp.2) hon keep
  exact ⟨b, hb, ⟨hon2, fun oi om on he hw => by rw [← hwas oi om on he]; exact hw, hroom, by omega, by rw [hkeep]; exact Nat.zero_le _⟩, hup⟩
theorem ready_small {may : Prop} {k m : Nat} (hk1 : 1 ≤ k) (hk : k ≤ 32) {l : List ByteArray} {d : Dk.St} (h : On (InvS may k (its k 0 (l.take m)) (itAt k l m)) d.files) (keep : List Bool) : (Dk.after d keep).length ≤ 3 ∧ ∀ p ∈ Dk.after d keep, p.1.size ≤ 140737488351232 ∧ p.2.size ≤ 140737488351232 :=
  after_small (invS_keeps hk1 hk _ _) (fun _ _ _ hp => hp.2) h keep
theorem lay_is {d : Dk.St} (hup : d.down = false) {a c : Int} (ha : 1 ≤ a) (hc : 1 ≤ c ∧ c ≤ 5) (keep : List Bool) : Dk.layC d a c keep = { d with fat := a, kind := c, keep := keep, left := a } := by
  unfold Dk.layC
  rw [if_neg (by rw [hup]; decide), if_pos ⟨ha, hc⟩]
theorem ready_lay {may : Prop} {k m : Nat} {l : List ByteArray} {d : Dk.St} (h : Ready may k m l d) (hup : d.down = false) {a c : Int} (ha : 1 ≤ a) (hc : 1 ≤ c ∧ c ≤ 5) (keep : List Bool) (hkl : keep.length ≤ 140737488351232) :
    Ready may k m l (Dk.layC d a c keep) ∧ Fated (Dk.layC d a c keep) ∧ (Dk.layC d a c keep).down = false := by
  rw [lay_is hup ha hc]
  exact ⟨⟨h.on, h.was, h.room, h.acts, hkl⟩, ⟨(by show 0 ≤ a; omega), .inr hc⟩, hup⟩
/-- Open under a second fate. -/
theorem ready_fate {may : Prop} {k m : Nat} (hk1 : 1 ≤ k) (hk : k ≤ 32) {l : List ByteArray} (hl : l.length ≤ 12) (hs : ∀ x ∈ l, x.size ≤ 500) (hm : m ≤ l.length) (hmay : may → m < l.length) {b : Dk.St} (h : Ready may k m l b) (hF : Fated b) (hup : b.down = false) :
    ((openA b (k : Int)).1 = 0 → ∃ m1, (m1 = m ∨ may ∧ m1 = m + 1) ∧ m1 ≤ l.length ∧ openA b (k : Int) = (0, some (stOf k (its k 0 (l.take m1))), (openA b (k : Int)).2.2) ∧ (openA b (k : Int)).2.2.files = good3 k (its k 0 (l.take m1)) ∧ (openA b (k : Int)).2.2.down = false ∧ On (InvS False k (its k 0 (l.take m1)) (itAt k l m1)) (openA b (k : Int)).2.2.files ∧ (openA b (k : Int)).2.2.acts ≤ 2006 ∧ (openA b (k : Int)).2.2.keep.length ≤ 140737488351232)
    ∧ ((openA b (k : Int)).1 ≠ 0 → openA b (k : Int) = ((openA b (k : Int)).1, none, (openA b (k : Int)).2.2) ∧ On (InvS may k (its k 0 (l.take m)) (itAt k l m)) (openA b (k : Int)).2.2.files) := by
  obtain ⟨oi, om, on, hf, hi, hsm⟩ := h.on
  obtain ⟨h1, h2, h3⟩ := next_ok (k := k) hl hs hm
  have ho := open_inv hk1 hk hF hup h1 (by omega) (by omega) hf hi hsm (h.was _ _ _ hf)
  refine ⟨fun h0 => ?_, fun h0 => ?_⟩
  · obtain ⟨L', hL', g1, g2, g3, g4, g5, g6, g7, g8⟩ := ho.good h0
    have hres : ∀ m', L' = its k 0 (l.take m') → openA b (k : Int) = (0, some (stOf k (its k 0 (l.take m'))), (openA b (k : Int)).2.2) := by
      intro m' e
      rw [← e, ← g1, ← h0]
    have hrd : ∀ m', L' = its k 0 (l.take m') → (openA b (k : Int)).2.2.files = good3 k (its k 0 (l.take m')) ∧ On (InvS False k (its k 0 (l.take m')) (itAt k l m')) (openA b (k : Int)).2.2.files ∧ (openA b (k : Int)).2.2.acts ≤ 2006 ∧ (openA b (k : Int)).2.2.keep.length ≤ 140737488351232 := by
      intro m' e
      have e2 : (openA b (k : Int)).2.2.files = good3 k (its k 0 (l.take m')) := by rw [g2, e]; rfl
      have ha := h.acts
      exact ⟨e2, on_good hk1 hk hl hs e2, by omega, by rw [g5]; exact h.keep⟩
    rcases hL' with e | ⟨hm', e⟩
    · obtain ⟨q1, q2⟩ := hrd m e
      exact ⟨m, .inl rfl, hm, hres m e, q1, g3, q2⟩
    · have hlt := hmay hm'
      have e2 : L' = its k 0 (l.take (m + 1)) := by rw [e, take_snoc hlt]
      obtain ⟨q1, q2⟩ := hrd (m + 1) e2
      exact ⟨m + 1, .inr ⟨hm', rfl⟩, hlt, hres _ e2, q1, g3, q2⟩
  · obtain ⟨g1, g2, g3, g4, g5, g6, g7⟩ := ho.bad h0
    exact ⟨Prod.ext rfl (Prod.ext g1 rfl), g2⟩
#print axioms ready_fate
end Fl
end Go.Proofs.YtbfbajfdlkgloaaGreatDoor
