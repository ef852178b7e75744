/-
  The program's disk: New; used (the sum over the map, in whatever order).
-/
import Derived.Test.YtiiblpgiafbaoaaDiskTell
namespace Go.Proofs.Ytiiblpgiafbaoaa
open Go Go.RowKit Go.Maps
theorem Dk.newOk (r : Int) (h0 : 0 ≤ r) (hr : r ≤ 9223372036854775807) : Dk.Ok ⟨r, [], 0, 0, 0, [], 0, false⟩ :=
  ⟨⟨h0, hr⟩, Nat.zero_le _, ⟨Int.le_refl _, by show (0 : Int) ≤ _; decide⟩, (by intro p hp; cases hp), Nat.zero_le _, (by intro p hp; cases hp), List.Pairwise.nil⟩
theorem new_at (r : Int) (w : World) (h0 : 0 ≤ r) (hr : r ≤ 9223372036854775807) :
    DiskAt ((w.alloc (.map #[] 0)).alloc (.cells #[.int .i64 r, .map (some w.heap.size), .int .i64 0, .int .i64 0, .int .i64 0, .slice none 0 0, .int .i64 0, .bool false] 79)) ⟨w.heap.size + 1, w.heap.size, .slice none 0 0⟩ ⟨r, [], 0, 0, 0, [], 0, false⟩ := by
  refine ⟨Dk.newOk r h0 hr, ?_, ?_, SlV.nil _, (by simp [Dk.slBlk]), (by simp [Dk.slBlk])⟩
  · have := alloc_at (w.alloc (.map #[] 0)) (.cells #[.int .i64 r, .map (some w.heap.size), .int .i64 0, .int .i64 0, .int .i64 0, .slice none 0 0, .int .i64 0, .bool false] 79)
    simpa [Dk.cells] using this
  · exact (World.ownsMap_made w _ _ _).alloc _
set_option maxHeartbeats 1600000 in
set_option maxRecDepth 100000 in
theorem diskNew_any (room : Int) (w : World) (hr : (Lit.int .i64 room).wf = true) :
    Calls Try.prog 12 #[.int .i64 room] w fun e w' => ∃ D : Dk.Blk, e = .returned (.pointer (some ⟨D.g, 0, none⟩)) ∧ DiskAt w' D (Dk.newSt room) ∧ w.heap.size ≤ D.g ∧ w.heap.size ≤ D.mb ∧ D.kv = .slice none 0 0 ∧ Below w.heap.size w w' := by
  have hmm := @run_makeMap Try.prog
  have hrb : -9223372036854775808 ≤ room ∧ room ≤ 9223372036854775807 := by
    have h : IntKind.i64.min ≤ room ∧ room ≤ IntKind.i64.max := by simpa [Lit.wf] using hr
    exact h
  go_enter Try.func12, Try.ntmps12
  go_wp2_with fail
  · have h := (by assumption : room < 0)
    go_ret
    refine ⟨⟨w.heap.size + 1, w.heap.size, .slice none 0 0⟩, rfl, ?_, by show w.heap.size ≤ w.heap.size + 1; omega, Nat.le_refl _, rfl, ?_⟩
    · have e : Dk.newSt room = ⟨0, [], 0, 0, 0, [], 0, false⟩ := by unfold Dk.newSt; congr 1; omega
      rw [e]; exact new_at 0 w (Int.le_refl _) (by decide)
    · exact ((Below.refl _ _).alloc (Nat.le_refl _) _).alloc (by simp) _
  · have h := (by assumption : 0 ≤ room)
    go_ret
    refine ⟨⟨w.heap.size + 1, w.heap.size, .slice none 0 0⟩, rfl, ?_, by show w.heap.size ≤ w.heap.size + 1; omega, Nat.le_refl _, rfl, ?_⟩
    · have e : Dk.newSt room = ⟨room, [], 0, 0, 0, [], 0, false⟩ := by unfold Dk.newSt; congr 1; omega
      rw [e]; exact new_at room w h hrb.2
    · exact ((Below.refl _ _).alloc (Nat.le_refl _) _).alloc (by simp) _
/-! ### used -/
namespace Dk
theorem before_irrefl : ∀ a : List UInt8, bytesBefore a a = false
  | [] => rfl
  | x :: r => by
    unfold bytesBefore
    simp [before_irrefl r]
theorem up_unique {l : Fs} (h : Up l) : l.Pairwise (fun p q => p.1 ≠ q.1) :=
  List.Pairwise.imp (fun {p q} hb e => by rw [e, before_irrefl] at hb; cases hb) h
/-- The sizes of the files that have been met. -/
def met (left : Lit → Bool) (l : Fs) : Nat := (l.map fun p => if left (.string (key p.1)) = true then 0 else p.2.now.size).sum
theorem met_cons (left : Lit → Bool) (q : ByteArray × F) (l : Fs) : met left (q :: l) = (if left (.string (key q.1)) = true then 0 else q.2.now.size) + met left l := rfl
theorem met_start {left : Lit → Bool} : ∀ {l : Fs}, (∀ p ∈ l, left (.string (key p.1)) = true) → met left l = 0
  | [], _ => rfl
  | q :: l, h => by rw [met_cons, if_pos (h q (by simp)), met_start fun p hp => h p (by simp [hp])]
theorem met_end {left : Lit → Bool} (h : ∀ kl, left kl = false) : ∀ l : Fs, met left l = used l
  | [] => rfl
  | q :: l => by
    rw [met_cons, h, if_neg (by decide), met_end h l]; rfl
theorem met_same {left left' : Lit → Bool} : ∀ {l : Fs}, (∀ p ∈ l, left (.string (key p.1)) = left' (.string (key p.1))) → met left l = met left' l
  | [], _ => rfl
  | q :: l, h => by rw [met_cons, met_cons, h q (by simp), met_same fun p hp => h p (by simp [hp])]
theorem met_step {left : Lit → Bool} : ∀ {l : Fs} {p : ByteArray × F}, l.Pairwise (fun p q => p.1 ≠ q.1) → p ∈ l → left (.string (key p.1)) = true →
    met (fun z => left z && !z.sameKey (.string (key p.1))) l = met left l + p.2.now.size
  | [], p, _, hp, _ => by cases hp
  | q :: l, p, hu, hp, hl => by
    obtain ⟨h1, h2⟩ := List.pairwise_cons.1 hu
    have same : ∀ r : ByteArray × F, Lit.sameKey (.string (key r.1)) (.string (key p.1)) = decide (r.1 = p.1) := fun r => key_beq r.1 p.1
    rw [met_cons, met_cons]
    rcases List.mem_cons.1 hp with rfl | hp
    · have hrest : met (fun z => left z && !z.sameKey (.string (key p.1))) l = met left l := met_same fun r hr => by
        show (left _ && !Lit.sameKey _ _) = _
        rw [same, decide_eq_false (fun e => h1 r hr e.symm)]; simp
      rw [hrest]
      have e : (left (.string (key p.1)) && !Lit.sameKey (.string (key p.1)) (.string (key p.1))) = false := by rw [same, decide_eq_true rfl]; simp
      rw [if_neg (by show ¬ (left _ && !Lit.sameKey _ _) = true; rw [e]; decide), if_pos hl]
      omega
    · have ih := met_step h2 hp hl
      have hqp : q.1 ≠ p.1 := h1 p hp
      have e : (left (.string (key q.1)) && !Lit.sameKey (.string (key q.1)) (.string (key p.1))) = left (.string (key q.1)) := by rw [same, decide_eq_false hqp]; simp
      rw [ih]
      show (if (left _ && !Lit.sameKey _ _) = true then _ else _) + _ = _
      rw [e]; omega
theorem at_mem {l : Fs} {x : ByteArray} {y : DataW Unit} (h : ∀ zd, (dat l).atKey (.string (key x)) zd = y) : ∃ p ∈ l, p.1 = x ∧ y = datF p.2 := by
  have h1 := h .nil
  have h2 := h (.lit (.bool false))
  unfold dat DataW.atKey at h1 h2
  dsimp only at h1 h2
  rw [List.find?_map] at h1 h2
  have e : ((fun p : Lit × DataW Unit => p.1.sameKey (.string (key x))) ∘ litF) = fun p => decide (p.1 = x) := by
    funext p
    show (key p.1 == key x) = _
    rw [key_beq]
  rw [e] at h1 h2
  cases hf : l.find? (fun p => decide (p.1 = x)) with
  | none =>
    rw [hf] at h1 h2
    simp only [Option.map_none] at h1 h2
    rw [← h1] at h2
    cases h2
  | some p =>
    rw [hf] at h1
    exact ⟨p, List.mem_of_find?_eq_some hf, by have := List.find?_some hf; simpa using this, h1.symm⟩
end Dk
end Go.Proofs.Ytiiblpgiafbaoaa
