/-
  Add under a fate; what stays is opened again: the plain law, second part. No program in sight.
-/
import Derived.Test.YtbfbajfdlkgloaaGreatDoorCFilesStormP
import Derived.Test.YtbfbajfdlkgloaaGreatDoorG22
import Derived.Test.YtbfbajfdlkgloaaGreatDoorCDiskOpen
namespace Go.Proofs.YtbfbajfdlkgloaaGreatDoor
open Go Go.RowKit
namespace Fl
theorem write_ran {P : Dk.F → Dk.F → Dk.F → Prop} (hP : Keeps P) {d : Dk.St} (hF : Fated d) (hup : d.down = false) (n x X W : ByteArray) (off : Nat) (hg : Dk.get d.files n = ⟨X, W⟩) (ho : off = X.size) (hx : off + x.size ≤ 268435456) (hu : (Dk.used d.files : Int) + x.size ≤ d.room) (hr : d.room ≤ 9223372036854775807)
    (h0 : On P d.files) (h1 : On P (Dk.put d.files n ⟨X ++ x, W⟩)) : Ran P d (Dk.put d.files n ⟨X ++ x, W⟩) 1 (Dk.writeA d n off x) := by
  have hover : Dk.over (Dk.get d.files n).now off x = X ++ x := by
    rw [hg]
    unfold Dk.over
    dsimp only
    have h1 : X.extract 0 off = X := by
      apply Rec.bytes_inj
      rw [Rec.bytes_extract, List.drop_zero, List.take_of_length_le (by rw [Rec.bytes_length]; omega)]
    have h2 : X.extract (min (off + x.size) X.size) X.size = ⟨#[]⟩ := by
      apply Rec.bytes_inj
      rw [Rec.bytes_extract, List.drop_of_length_le (by simp [Rec.bytes_length]; omega)]
      rfl
    rw [h1, h2, apnil]
  have hnow : (Dk.get d.files n).now.size = X.size := by rw [hg]
  have hfull : Dk.full d n (off : Int) x = false := by
    unfold Dk.full
    rw [hnow, IntWalk.wrap64_in _ (by omega)]
    rw [show decide (d.room < (Dk.used d.files : Int) - (X.size : Int) + off + x.size) = false from decide_eq_false (by omega)]
    simp
  unfold Dk.writeA
  rw [if_neg (by rw [hup]; decide), if_neg (by omega), hfull, if_neg (by decide), Int.toNat_natCast, hover, show (Dk.get d.files n).was = W by rw [hg]]
  exact (act_on hP hF n _ h0 h1).ran hF
/-- What holds behind an Add that was refused. -/
def Wait (k : Nat) (L : List It) (x : It) (fi fm fn : Dk.F) : Prop := (Inv True k L x fi fm fn ∧ Small fi fm fn) ∧ (fm.was = mL k (L ++ [x]) → fm.now = mL k (L ++ [x]))
theorem wait_keeps {k : Nat} (hk1 : 1 ≤ k) (hk : k ≤ 32) (L : List It) (x : It) : Keeps (Wait k L x) :=
  fun _ _ _ _ _ _ hp h1 h2 h3 => ⟨⟨inv_left hk1 hk hp.1.1 h1 h2 h3, small_keeps _ _ _ _ _ _ hp.1.2 h1 h2 h3⟩, id⟩
/-- The three files of a list, all synced. -/
def good3 (k : Nat) (L : List It) : Dk.Fs := [(nItems, ⟨aF L, aF L⟩), (nMarks, ⟨mL k L, mL k L⟩), (nNodes, ⟨nF 0 L, nF 0 L⟩)]
theorem six_ran {k : Nat} (hk1 : 1 ≤ k) (hk : k ≤ 32) {L : List It} {x : It} {d : Dk.St} (hF : Fated d) (hup : d.down = false) (hfs : d.files = good3 k L)
    (hA : (aF (L ++ [x])).size ≤ 100000) (hM : (mL k (L ++ [x])).size ≤ 100000) (hN : (nF 0 (L ++ [x])).size ≤ 100000)
    (hu : (((aF (L ++ [x])).size + (mL k (L ++ [x])).size + (nF 0 (L ++ [x])).size : Nat) : Int) ≤ d.room) (hr : d.room ≤ 9223372036854775807) :
    Ran (Wait k L x) d (good3 k (L ++ [x])) 6 (doAll d [.write nItems (aF L).size (Rec.payB x.1), .write nNodes (nF 0 L).size (catAll (rF L.length x)), .sync nItems, .sync nNodes, .write nMarks (mL k L).size (kOf k L x), .sync nMarks]) := by
  have hP := wait_keeps hk1 hk L x
  have eA : aF (L ++ [x]) = aF L ++ Rec.payB x.1 := aF_snoc L x
  have eN : nF 0 (L ++ [x]) = nF 0 L ++ catAll (rF L.length x) := nF_snoc L x
  have eM : mL k (L ++ [x]) = mL k L ++ kOf k L x := mL_snoc k L x
  have hne := mL_ne hk1 hk L x
  have bA : Beg (aF L) (aF (L ++ [x])) := ⟨_, eA⟩
  have bN : Beg (nF 0 L) (nF 0 (L ++ [x])) := ⟨_, eN⟩
  have sA : (aF (L ++ [x])).size = (aF L).size + (Rec.payB x.1).size := by rw [eA, ByteArray.size_append]
  have sN : (nF 0 (L ++ [x])).size = (nF 0 L).size + (catAll (rF L.length x)).size := by rw [eN, ByteArray.size_append]
  have sM : (mL k (L ++ [x])).size = (mL k L).size + (kOf k L x).size := by rw [eM, ByteArray.size_append]
  have m0 : ∃ t1 t2, mL k L = mL k L ++ t1 ∧ mL k L = mL k L ++ t2 ∧ TailM (kOf k L x) t1 ∧ TailM (kOf k L x) t2 := ⟨⟨#[]⟩, ⟨#[]⟩, (apnil _).symm, (apnil _).symm, .inl rfl, .inl rfl⟩
  -- the words of the seven states
  have w : ∀ a1 a2 b1 b2, (Beg2 (aF L) ⟨a1, a2⟩ ∧ a1.size ≤ 100000 ∧ a2.size ≤ 100000) → (Beg2 (nF 0 L) ⟨b1, b2⟩ ∧ b1.size ≤ 100000 ∧ b2.size ≤ 100000) → Wait k L x ⟨a1, a2⟩ ⟨mL k L, mL k L⟩ ⟨b1, b2⟩ := fun a1 a2 b1 b2 h1 h2 => ⟨⟨⟨h1.1, h2.1, m0, fun q => absurd (q.elim id id) hne⟩, ⟨h1.2, ⟨by show (mL k L).size ≤ _; omega, by show (mL k L).size ≤ _; omega⟩, h2.2⟩⟩, fun q => absurd q hne⟩
  have p0 := w (aF L) (aF L) (nF 0 L) (nF 0 L) ⟨⟨beg_self _, beg_self _⟩, by omega, by omega⟩ ⟨⟨beg_self _, beg_self _⟩, by omega, by omega⟩
  have p1 := w (aF (L ++ [x])) (aF L) (nF 0 L) (nF 0 L) ⟨⟨bA, beg_self _⟩, by omega, by omega⟩ ⟨⟨beg_self _, beg_self _⟩, by omega, by omega⟩
  have p2 := w (aF (L ++ [x])) (aF L) (nF 0 (L ++ [x])) (nF 0 L) ⟨⟨bA, beg_self _⟩, by omega, by omega⟩ ⟨⟨bN, beg_self _⟩, by omega, by omega⟩
  have p3 := w (aF (L ++ [x])) (aF (L ++ [x])) (nF 0 (L ++ [x])) (nF 0 L) ⟨⟨bA, bA⟩, by omega, by omega⟩ ⟨⟨bN, beg_self _⟩, by omega, by omega⟩
  have p4 := w (aF (L ++ [x])) (aF (L ++ [x])) (nF 0 (L ++ [x])) (nF 0 (L ++ [x])) ⟨⟨bA, bA⟩, by omega, by omega⟩ ⟨⟨bN, bN⟩, by omega, by omega⟩
  have p5 : Wait k L x ⟨aF (L ++ [x]), aF (L ++ [x])⟩ ⟨mL k (L ++ [x]), mL k L⟩ ⟨nF 0 (L ++ [x]), nF 0 (L ++ [x])⟩ :=
    ⟨⟨⟨⟨bA, bA⟩, ⟨bN, bN⟩, ⟨_, ⟨#[]⟩, eM, (apnil _).symm, .inr (.inr rfl), .inl rfl⟩, fun _ => ⟨trivial, ⟨beg_self _, beg_self _⟩, ⟨beg_self _, beg_self _⟩⟩⟩, ⟨⟨hA, hA⟩, ⟨hM, (by show (mL k L).size ≤ _; omega)⟩, ⟨hN, hN⟩⟩⟩, fun _ => rfl⟩
  have p6 : Wait k L x ⟨aF (L ++ [x]), aF (L ++ [x])⟩ ⟨mL k (L ++ [x]), mL k (L ++ [x])⟩ ⟨nF 0 (L ++ [x]), nF 0 (L ++ [x])⟩ :=
    ⟨⟨⟨⟨bA, bA⟩, ⟨bN, bN⟩, ⟨_, _, eM, eM, .inr (.inr rfl), .inr (.inr rfl)⟩, fun _ => ⟨trivial, ⟨beg_self _, beg_self _⟩, ⟨beg_self _, beg_self _⟩⟩⟩, ⟨⟨hA, hA⟩, ⟨hM, hM⟩, ⟨hN, hN⟩⟩⟩, fun _ => rfl⟩
  have on : ∀ {fi fm fn}, Wait k L x fi fm fn → On (Wait k L x) [(nItems, fi), (nMarks, fm), (nNodes, fn)] := fun {fi fm fn} h => ⟨some fi, some fm, some fn, rfl, h⟩
  -- the acts
  have r1 : Ran (Wait k L x) d [(nItems, ⟨aF (L ++ [x]), aF L⟩), (nMarks, ⟨mL k L, mL k L⟩), (nNodes, ⟨nF 0 L, nF 0 L⟩)] 1 (doV d (.write nItems (aF L).size (Rec.payB x.1))) := by
    have h := write_ran hP hF hup nItems (Rec.payB x.1) (aF L) (aF L) (aF L).size (by rw [hfs]; rfl) rfl (by omega) (by rw [hfs]; show ((Dk.used [(nItems, _), (nMarks, _), (nNodes, _)] : Nat) : Int) + _ ≤ d.room; rw [used3]; dsimp only; omega) hr (by rw [hfs]; exact on p0) (by rw [hfs, ← eA]; exact on p1)
    rw [hfs, ← eA] at h
    exact h
  rw [doAll, flip_if]
  refine ran_then (j' := 5) (g := fun y => doAll y [.write nNodes (nF 0 L).size (catAll (rF L.length x)), .sync nItems, .sync nNodes, .write nMarks (mL k L).size (kOf k L x), .sync nMarks]) r1 (fun z1 => ?_)
  obtain ⟨f1, d1, m1, _, _, F1, _⟩ := r1.good z1
  obtain ⟨e1, he1⟩ : ∃ e, e = (doV d (.write nItems (aF L).size (Rec.payB x.1))).2 := ⟨_, rfl⟩
  rw [← he1] at f1 d1 m1 F1 ⊢
  have r2 : Ran (Wait k L x) e1 [(nItems, ⟨aF (L ++ [x]), aF L⟩), (nMarks, ⟨mL k L, mL k L⟩), (nNodes, ⟨nF 0 (L ++ [x]), nF 0 L⟩)] 1 (doV e1 (.write nNodes (nF 0 L).size (catAll (rF L.length x)))) := by
    have h := write_ran hP F1 (d1.trans hup) nNodes (catAll (rF L.length x)) (nF 0 L) (nF 0 L) (nF 0 L).size (by rw [f1]; rfl) rfl (by omega) (by rw [f1, m1, used3]; dsimp only; omega) (by rw [m1]; exact hr) (by rw [f1]; exact on p1) (by rw [f1, ← eN]; exact on p2)
    rw [f1, ← eN] at h
    exact h
  rw [doAll, flip_if]
  refine ran_then (j' := 4) (g := fun y => doAll y [.sync nItems, .sync nNodes, .write nMarks (mL k L).size (kOf k L x), .sync nMarks]) r2 (fun z2 => ?_)
  obtain ⟨f2, d2, m2, _, _, F2, _⟩ := r2.good z2
  obtain ⟨e2, he2⟩ : ∃ e, e = (doV e1 (.write nNodes (nF 0 L).size (catAll (rF L.length x)))).2 := ⟨_, rfl⟩
  rw [← he2] at f2 d2 m2 F2 ⊢
  have r3 : Ran (Wait k L x) e2 [(nItems, ⟨aF (L ++ [x]), aF (L ++ [x])⟩), (nMarks, ⟨mL k L, mL k L⟩), (nNodes, ⟨nF 0 (L ++ [x]), nF 0 L⟩)] 1 (doV e2 (.sync nItems)) :=
    sync3_items (oi := some ⟨aF (L ++ [x]), aF L⟩) (om := some ⟨mL k L, mL k L⟩) (on := some ⟨nF 0 (L ++ [x]), nF 0 L⟩) hP F2 (d2.trans (d1.trans hup)) f2 rfl p2 p3
  rw [doAll, flip_if]
  refine ran_then (j' := 3) (g := fun y => doAll y [.sync nNodes, .write nMarks (mL k L).size (kOf k L x), .sync nMarks]) r3 (fun z3 => ?_)
  obtain ⟨f3, d3', m3, _, _, F3, _⟩ := r3.good z3
  obtain ⟨e3, he3⟩ : ∃ e, e = (doV e2 (.sync nItems)).2 := ⟨_, rfl⟩
  rw [← he3] at f3 d3' m3 F3 ⊢
  have r4 : Ran (Wait k L x) e3 [(nItems, ⟨aF (L ++ [x]), aF (L ++ [x])⟩), (nMarks, ⟨mL k L, mL k L⟩), (nNodes, ⟨nF 0 (L ++ [x]), nF 0 (L ++ [x])⟩)] 1 (doV e3 (.sync nNodes)) :=
    sync3_nodes (oi := some ⟨aF (L ++ [x]), aF (L ++ [x])⟩) (om := some ⟨mL k L, mL k L⟩) (on := some ⟨nF 0 (L ++ [x]), nF 0 L⟩) hP F3 (d3'.trans (d2.trans (d1.trans hup))) f3 rfl p3 p4
  rw [doAll, flip_if]
  refine ran_then (j' := 2) (g := fun y => doAll y [.write nMarks (mL k L).size (kOf k L x), .sync nMarks]) r4 (fun z4 => ?_)
  obtain ⟨f4, d4, m4, _, _, F4, _⟩ := r4.good z4
  obtain ⟨e4, he4⟩ : ∃ e, e = (doV e3 (.sync nNodes)).2 := ⟨_, rfl⟩
  rw [← he4] at f4 d4 m4 F4 ⊢
  have m4' : e4.room = d.room := m4.trans (m3.trans (m2.trans m1))
  have u4 := d4.trans (d3'.trans (d2.trans (d1.trans hup)))
  have r5 : Ran (Wait k L x) e4 [(nItems, ⟨aF (L ++ [x]), aF (L ++ [x])⟩), (nMarks, ⟨mL k (L ++ [x]), mL k L⟩), (nNodes, ⟨nF 0 (L ++ [x]), nF 0 (L ++ [x])⟩)] 1 (doV e4 (.write nMarks (mL k L).size (kOf k L x))) := by
    have h := write_ran hP F4 u4 nMarks (kOf k L x) (mL k L) (mL k L) (mL k L).size (by rw [f4]; rfl) rfl (by omega) (by rw [f4, m4', used3]; dsimp only; omega) (by rw [m4']; exact hr) (by rw [f4]; exact on p4) (by rw [f4, ← eM]; exact on p5)
    rw [f4, ← eM] at h
    exact h
  rw [doAll, flip_if]
  refine ran_then (j' := 1) (g := fun y => doAll y [.sync nMarks]) r5 (fun z5 => ?_)
  obtain ⟨f5, d5, m5, _, _, F5, _⟩ := r5.good z5
  obtain ⟨e5, he5⟩ : ∃ e, e = (doV e4 (.write nMarks (mL k L).size (kOf k L x))).2 := ⟨_, rfl⟩
  rw [← he5] at f5 d5 m5 F5 ⊢
  have r6 : Ran (Wait k L x) e5 (good3 k (L ++ [x])) 1 (doV e5 (.sync nMarks)) :=
    sync3_marks (oi := some ⟨aF (L ++ [x]), aF (L ++ [x])⟩) (om := some ⟨mL k (L ++ [x]), mL k L⟩) (on := some ⟨nF 0 (L ++ [x]), nF 0 (L ++ [x])⟩) hP F5 (d5.trans u4) f5 rfl p5 p6
  rw [doAll, flip_if]
  refine ran_then (j' := 0) (g := fun y => (0, y)) r6 (fun z6 => ?_)
  obtain ⟨f6, _, _, _, _, F6, _⟩ := r6.good z6
  have h := ran_none (P := Wait k L x) F6 0
  rw [f6] at h
  exact h
/-- Add, whatever fate lies. -/
structure Adds (k : Nat) (L : List It) (x : It) (d : Dk.St) (r : Int × St × Dk.St) : Prop where
  good : r.1 = 0 → r.2.1 = stOf k (L ++ [x]) ∧ r.2.2.files = good3 k (L ++ [x]) ∧ r.2.2.down = d.down ∧ r.2.2.room = d.room ∧ r.2.2.keep = d.keep ∧ r.2.2.acts ≤ d.acts + 6 ∧ Fated r.2.2 ∧ (d.left = 0 → r.2.2.left = 0)
  bad : r.1 ≠ 0 → r.2.1 = { stOf k L with lame := true } ∧ On (Wait k L x) r.2.2.files ∧ r.2.2.left = 0 ∧ r.2.2.room = d.room ∧ r.2.2.acts ≤ d.acts + 6 ∧ r.2.2.keep = d.keep ∧ d.left ≠ 0
theorem add_run {k : Nat} (hk1 : 1 ≤ k) (hk : k ≤ 32) {L : List It} {x : It} {d : Dk.St} (hF : Fated d) (hup : d.down = false) (hfs : d.files = good3 k L) (hL : okL k 0 (L ++ [x])) (hn : L.length < 65536)
    (hA : (aF (L ++ [x])).size ≤ 100000) (hn2 : L.length ≤ 1000) (hu : (((aF (L ++ [x])).size + 64 * (L.length + 1) + 40 * nodes (L.length + 1) : Nat) : Int) ≤ d.room) (hr : d.room ≤ 9223372036854775807) :
    Adds k L x d (addA (stOf k L) d x.1 x.2) := by
  obtain ⟨hL1, ⟨hx1, hx2, hx3⟩, _⟩ := (okL_append L [x] 0).1 hL
  rw [Nat.zero_add] at hx2
  have hlen : (stOf k L).ends.length = L.length := endsF_len L 0
  have hps := Rec.payB_size x.1 hx1
  have hsA : (aF (L ++ [x])).size = (aF L).size + (Rec.payB x.1).size := by rw [aF_snoc, ByteArray.size_append]
  have hck : checkA (stOf k L) x.1 x.2 = 0 := by
    unfold checkA
    rw [if_neg (by show ¬ false = true; decide), if_neg (by omega), hlen, if_neg (by omega), if_neg (by omega), if_neg (by
      rw [Bool.not_eq_false, List.all_eq_true]
      intro d hd
      exact decide_eq_true (hx3 d hd)), fin_stOf, if_neg (by omega)]
  have hN := nL_size hk hL1
  have hM := mL_size hk1 hk L
  have hN' := nL_size hk hL
  have hM' := mL_size hk1 hk (L ++ [x])
  rw [List.length_append, List.length_singleton] at hN' hM'
  have hnle := nodes_le (L.length + 1)
  have hacts : actsOf (stOf k L) x.1 x.2 = [.write nItems (aF L).size (Rec.payB x.1), .write nNodes (nF 0 L).size (catAll (rF L.length x)), .sync nItems, .sync nNodes, .write nMarks (mL k L).size (kOf k L x), .sync nMarks] := by
    unfold actsOf markOfAdd fin' chain'
    rw [fin_stOf, hlen, hN, hM]
    rfl
  have h6 := six_ran hk1 hk hF hup hfs hA (by omega) (by omega) (by omega) hr
  rw [← hacts] at h6
  unfold addA
  rw [if_neg (by rw [hck]; decide)]
  by_cases h0 : (doAll d (actsOf (stOf k L) x.1 x.2)).1 = 0
  · rw [if_neg (by simpa using h0)]
    obtain ⟨g1, g2, g3, g4, g5, g6, g7⟩ := h6.good h0
    refine ⟨fun _ => ⟨?_, g1, g2, g3, g4, g5, g6, g7⟩, fun e => absurd rfl e⟩
    rw [stOf_snoc]
    unfold fin' chain'
    rw [fin_stOf, hlen]
    rfl
  · rw [if_pos h0]
    obtain ⟨k1, k2, k3, k4, k5, k6⟩ := h6.bad h0
    exact ⟨fun e => absurd e h0, fun _ => ⟨rfl, k1, k2, k3, k4, k5, k6⟩⟩
/-! disk.Open of what stayed -/
theorem open_step (fs : Dk.Fs) (s : Int) (n x : ByteArray) (hn : Dk.has fs n = false) (hx : x.size ≤ 100000) (hs : 0 ≤ s ∧ s ≤ 1000000) : Dk.openStep (some (fs, s)) (n, x) = some (Dk.put fs n ⟨x, x⟩, s + x.size) := by
  show (if _ then none else some (_, wrap64 _)) = _
  rw [if_neg (by
    intro h
    rcases h with h | h
    · rw [show Dk.has (fs, s).1 (n, x).1 = Dk.has fs n from rfl, hn] at h; cases h
    · exact absurd h (by show ¬ 268435456 < x.size; omega)), IntWalk.wrap64_in _ (by show _ ≤ s + (x.size : Int) ∧ s + (x.size : Int) ≤ _; omega)]
theorem open_full (fs : Dk.Fs) (s : Int) (n x : ByteArray) (hn : Dk.has fs n = false) (hx : x.size ≤ 100000) (hs : 0 ≤ s ∧ s ≤ 1000000) : (full1 n x).foldl Dk.openStep (some (fs, s)) = some (if x = ⟨#[]⟩ then fs else Dk.put fs n ⟨x, x⟩, s + x.size) := by
  unfold full1
  by_cases h : x = ⟨#[]⟩
  · rw [if_pos h, if_pos h, h]
    show some (fs, s) = some (fs, s + (0 : Nat))
    simp
  · rw [if_neg h, if_neg h, List.foldl_cons, open_step fs s n x hn hx hs]; rfl
theorem open_list3 (xi xm xn : ByteArray) (hi : xi.size ≤ 100000) (hm : xm.size ≤ 100000) (hn : xn.size ≤ 100000) :
    Dk.openC 1048576 (list3 xi xm xn) = (0, some { Dk.newSt 1048576 with files := mk3 (fo xi) (fo xm) (fo xn) }) := by
  have e1 : (if xi = ⟨#[]⟩ then ([] : Dk.Fs) else Dk.put [] nItems ⟨xi, xi⟩) = mk3 (fo xi) none none := by unfold fo; split <;> rfl
  have e2 : (if xm = ⟨#[]⟩ then mk3 (fo xi) none none else Dk.put (mk3 (fo xi) none none) nMarks ⟨xm, xm⟩) = mk3 (fo xi) (fo xm) none := by
    rw [put3_marks]; unfold fo; split <;> rfl
  have e3 : (if xn = ⟨#[]⟩ then mk3 (fo xi) (fo xm) none else Dk.put (mk3 (fo xi) (fo xm) none) nNodes ⟨xn, xn⟩) = mk3 (fo xi) (fo xm) (fo xn) := by
    rw [put3_nodes]
    by_cases h : xn = ⟨#[]⟩
    · rw [if_pos h]; unfold fo; rw [if_pos h]
    · rw [if_neg h]; conv => rhs; unfold fo
      rw [if_neg h]; rfl
  have h1 : Dk.has [] nItems = false := rfl
  have h2 : ∀ oi, Dk.has (mk3 oi none none) nMarks = false := by intro oi; cases oi <;> rfl
  have h3 : ∀ oi om, Dk.has (mk3 oi om none) nNodes = false := by intro oi om; cases oi <;> cases om <;> rfl
  have hS : Dk.openS (list3 xi xm xn) = some (mk3 (fo xi) (fo xm) (fo xn), 0 + (xi.size : Int) + xm.size + xn.size) := by
    unfold Dk.openS list3
    rw [List.foldl_append, open_full [] 0 nItems xi h1 hi (by omega), e1, List.foldl_append, open_full _ _ nMarks xm (h2 _) hm (by omega), e2, open_full _ _ nNodes xn (h3 _ _) hn (by omega), e3]
  unfold Dk.openC
  rw [hS]
  dsimp only
  rw [if_neg (by show ¬ max (1048576 : Int) 0 < _; omega)]
theorem on_fresh {P : Dk.F → Dk.F → Dk.F → Prop} {xi xm xn : ByteArray} (h : P ⟨xi, xi⟩ ⟨xm, xm⟩ ⟨xn, xn⟩) : On P (mk3 (fo xi) (fo xm) (fo xn)) := ⟨_, _, _, rfl, by rw [fd_fo, fd_fo, fd_fo]; exact h⟩
/-- What a disk is opened of: the files that stayed. -/
theorem stays_open {P : Dk.F → Dk.F → Dk.F → Prop} (hP : Keeps P) (hS : ∀ a b c, P a b c → Small a b c) {d : Dk.St} (h : On P d.files) (keep : List Bool) :
    ∃ b, Dk.openC 1048576 (Dk.after d keep) = (0, some b) ∧ On P b.files ∧ (∀ oi om on, b.files = mk3 oi om on → (fd om).was = (fd om).now) ∧ b.down = false ∧ b.left = 0 ∧ b.room = 1048576 ∧ b.acts = 0 ∧ b.keep = [] := by
  obtain ⟨xi, xm, xn, e, hp⟩ := on_after hP h keep
  have hs := hS _ _ _ hp
  refine ⟨_, by rw [e]; exact open_list3 xi xm xn hs.1.1 hs.2.1.1 hs.2.2.1, on_fresh hp, fun oi om on hf => ?_, rfl, rfl, rfl, rfl, rfl⟩
  have hg : Dk.get (mk3 (fo xi) (fo xm) (fo xn)) nMarks = fd om := by
    rw [show mk3 (fo xi) (fo xm) (fo xn) = mk3 oi om on from hf, get3_marks]
  rw [get3_marks, fd_fo] at hg
  rw [← hg]
theorem files_after (d : Dk.St) : Dk.files d = Dk.after { d with down := true } [] := by
  unfold Dk.after
  rw [if_pos rfl]; rfl
/-! met -/
def metA (k : Nat) (l : List ByteArray) : Nat → Nat → St → Dk.St → Nat × Int × St × Dk.St
  | 0, i, s, d => (i, 0, s, d)
  | f + 1, i, s, d => if (addA s d (l.getD i ⟨#[]⟩) (digs i k)).1 ≠ 0 then (i, addA s d (l.getD i ⟨#[]⟩) (digs i k)) else metA k l f (i + 1) (addA s d (l.getD i ⟨#[]⟩) (digs i k)).2.1 (addA s d (l.getD i ⟨#[]⟩) (digs i k)).2.2
/-- The item i of a list, with its nodes. -/
def itAt (k : Nat) (l : List ByteArray) (i : Nat) : It := (l.getD i ⟨#[]⟩, digs i k)
structure Mets (k : Nat) (l : List ByteArray) (i : Nat) (d : Dk.St) (f : Nat) (r : Nat × Int × St × Dk.St) : Prop where
  good : r.2.1 = 0 → r.1 = l.length ∧ r.2.2.1 = stOf k (its k 0 l) ∧ r.2.2.2.files = good3 k (its k 0 l) ∧ r.2.2.2.down = false ∧ r.2.2.2.room = d.room ∧ r.2.2.2.keep = d.keep ∧ r.2.2.2.acts ≤ d.acts + 6 * f ∧ Fated r.2.2.2 ∧ (d.left = 0 → r.2.2.2.left = 0)
  bad : r.2.1 ≠ 0 → i ≤ r.1 ∧ r.1 < l.length ∧ r.2.2.1 = { stOf k (its k 0 (l.take r.1)) with lame := true } ∧ On (Wait k (its k 0 (l.take r.1)) (itAt k l r.1)) r.2.2.2.files ∧ r.2.2.2.left = 0 ∧ r.2.2.2.room = d.room ∧ r.2.2.2.acts ≤ d.acts + 6 * f ∧ r.2.2.2.keep = d.keep ∧ d.left ≠ 0
theorem take_snoc {k : Nat} {l : List ByteArray} {i : Nat} (hi : i < l.length) : its k 0 (l.take (i + 1)) = its k 0 (l.take i) ++ [itAt k l i] := by
  rw [List.take_add_one, List.getElem?_eq_getElem hi]
  show its k 0 (l.take i ++ [l[i]]) = _
  rw [its_snoc, List.length_take, Nat.min_eq_left (Nat.le_of_lt hi)]
  unfold itAt
  rw [List.getD_eq_getElem?_getD, List.getElem?_eq_getElem hi]
  rfl
theorem add_at {k : Nat} (hk1 : 1 ≤ k) (hk : k ≤ 32) {l : List ByteArray} (hl : l.length ≤ 13) (hs : ∀ x ∈ l, x.size ≤ 500) {i : Nat} (hi : i < l.length) {d : Dk.St} (hF : Fated d) (hup : d.down = false) (hfs : d.files = good3 k (its k 0 (l.take i))) (hroom : d.room = 1048576) :
    Adds k (its k 0 (l.take i)) (itAt k l i) d (addA (stOf k (its k 0 (l.take i))) d (l.getD i ⟨#[]⟩) (digs i k)) := by
  have e := take_snoc (k := k) hi
  have hsz : ∀ y ∈ l.take (i + 1), y.size ≤ 500 := fun y hy => hs y (List.mem_of_mem_take hy)
  have hlen1 : (l.take (i + 1)).length = i + 1 := by rw [List.length_take]; omega
  have hA := its_size k (l.take (i + 1)) 0 hsz
  have hok := its_ok k (l.take (i + 1)) 0 (by omega) (fun y hy => by have := hsz y hy; omega)
  rw [hlen1] at hA
  rw [e] at hA hok
  have hL : (its k 0 (l.take i)).length = i := by rw [its_len, List.length_take]; omega
  have hn := nodes_twelve (i + 1) (by omega)
  exact add_run hk1 hk hF hup hfs hok (by omega) (by omega) (by omega) (by rw [hL, hroom]; omega) (by rw [hroom]; decide)
theorem met_run {k : Nat} (hk1 : 1 ≤ k) (hk : k ≤ 32) {l : List ByteArray} (hl : l.length ≤ 13) (hs : ∀ x ∈ l, x.size ≤ 500) : ∀ (f i : Nat) (d : Dk.St), i + f = l.length → Fated d → d.down = false → d.files = good3 k (its k 0 (l.take i)) → d.room = 1048576 →
    Mets k l i d f (metA k l f i (stOf k (its k 0 (l.take i))) d)
  | 0, i, d, hif, hF, hup, hfs, hroom => by
    have hi : i = l.length := by omega
    subst hi
    rw [List.take_length] at hfs ⊢
    exact ⟨fun _ => ⟨rfl, rfl, hfs, hup, rfl, rfl, Nat.le_refl _, hF, id⟩, fun h => absurd rfl h⟩
  | f + 1, i, d, hif, hF, hup, hfs, hroom => by
    have hi : i < l.length := by omega
    have h := add_at hk1 hk hl hs hi hF hup hfs hroom
    unfold metA
    by_cases h0 : (addA (stOf k (its k 0 (l.take i))) d (l.getD i ⟨#[]⟩) (digs i k)).1 = 0
    · rw [if_neg (by simpa using h0)]
      obtain ⟨g1, g2, g3, g4, g5, g6, g7, g8⟩ := h.good h0
      rw [g1, ← take_snoc hi]
      rw [← take_snoc hi] at g2
      have ih := met_run hk1 hk hl hs f (i + 1) _ (by omega) g7 (g3.trans hup) g2 (g4.trans hroom)
      refine ⟨fun e => ?_, fun e => ?_⟩
      · obtain ⟨k1, k2, k3, k4, k5, k6, k7, k8, k9⟩ := ih.good e
        exact ⟨k1, k2, k3, k4, k5.trans g4, k6.trans g5, by omega, k8, fun z => k9 (g8 z)⟩
      · obtain ⟨k1, k2, k3, k4, k5, k6, k7, k8, k9⟩ := ih.bad e
        exact ⟨by omega, k2, k3, k4, k5, k6.trans g4, by omega, k8.trans g5, fun z => k9 (g8 z)⟩
    · rw [if_pos h0]
      obtain ⟨k1, k2, k3, k4, k5, k6, k7⟩ := h.bad h0
      exact ⟨fun e => absurd e h0, fun _ => ⟨Nat.le_refl _, hi, k1, k2, k3, k4, Nat.le_trans k5 (by omega), k6, k7⟩⟩
/-! settled -/
def InvS (may : Prop) (k : Nat) (L : List It) (x : It) (fi fm fn : Dk.F) : Prop := Inv may k L x fi fm fn ∧ Small fi fm fn
theorem invS_keeps {may : Prop} {k : Nat} (hk1 : 1 ≤ k) (hk : k ≤ 32) (L : List It) (x : It) : Keeps (InvS may k L x) :=
  keeps_and (fun _ _ _ _ _ _ hp h1 h2 h3 => inv_left hk1 hk hp h1 h2 h3) small_keeps
theorem inv_good {may : Prop} {k : Nat} (hk1 : 1 ≤ k) (hk : k ≤ 32) (L : List It) (x : It) : Inv may k L x ⟨aF L, aF L⟩ ⟨mL k L, mL k L⟩ ⟨nF 0 L, nF 0 L⟩ :=
  ⟨⟨beg_self _, beg_self _⟩, ⟨beg_self _, beg_self _⟩, ⟨⟨#[]⟩, ⟨#[]⟩, (apnil _).symm, (apnil _).symm, .inl rfl, .inl rfl⟩, fun q => absurd (q.elim id id) (mL_ne hk1 hk L x)⟩
theorem next_ok {k : Nat} {l : List ByteArray} (hl : l.length ≤ 12) (hs : ∀ x ∈ l, x.size ≤ 500) {n : Nat} (hn : n ≤ l.length) :
    okL k 0 (its k 0 (l.take n) ++ [itAt k l n]) ∧ (aF (its k 0 (l.take n) ++ [itAt k l n])).size ≤ 7000 ∧ (its k 0 (l.take n)).length = n := by
  have hx : (l.getD n ⟨#[]⟩).size ≤ 500 := by
    rw [List.getD_eq_getElem?_getD]
    by_cases h : n < l.length
    · rw [List.getElem?_eq_getElem h]; exact hs _ (List.getElem_mem h)
    · rw [List.getElem?_eq_none (by omega)]; show (0 : Nat) ≤ 500; decide
  have hlt : (l.take n).length = n := by rw [List.length_take]; omega
  have e : its k 0 (l.take n) ++ [itAt k l n] = its k 0 (l.take n ++ [l.getD n ⟨#[]⟩]) := by rw [its_snoc, hlt]; rfl
  have hsz : ∀ y ∈ l.take n ++ [l.getD n ⟨#[]⟩], y.size ≤ 500 := by
    intro y hy
    rcases List.mem_append.1 hy with h | h
    · exact hs y (List.mem_of_mem_take h)
    · rw [List.mem_singleton.1 h]; exact hx
  have hlen : (l.take n ++ [l.getD n ⟨#[]⟩]).length = n + 1 := by rw [List.length_append, hlt]; rfl
  have hA := its_size k (l.take n ++ [l.getD n ⟨#[]⟩]) 0 hsz
  rw [hlen] at hA
  rw [e]
  exact ⟨its_ok k _ 0 (by omega) (fun y hy => by have := hsz y hy; omega), by omega, by rw [its_len, hlt]⟩
/-- Open of such files where no fate lies: a store of n items, or of one more. -/
theorem open_calm {may : Prop} {k : Nat} (hk1 : 1 ≤ k) (hk : k ≤ 32) {l : List ByteArray} (hl : l.length ≤ 12) (hs : ∀ x ∈ l, x.size ≤ 500) {n : Nat} (hn : n ≤ l.length) (hmay : may → n < l.length) {b : Dk.St} (hup : b.down = false) (hleft : b.left = 0)
    (h : On (InvS may k (its k 0 (l.take n)) (itAt k l n)) b.files) (hw : ∀ oi om on, b.files = mk3 oi om on → (fd om).was = mL k (its k 0 (l.take n) ++ [itAt k l n]) → (fd om).now = mL k (its k 0 (l.take n) ++ [itAt k l n])) :
    ∃ m d', (m = n ∨ may ∧ m = n + 1) ∧ m ≤ l.length ∧ openA b (k : Int) = (0, some (stOf k (its k 0 (l.take m))), d') ∧ d'.files = good3 k (its k 0 (l.take m)) ∧ d'.down = false ∧ d'.left = 0 ∧ d'.room = b.room ∧ d'.acts ≤ b.acts + 6 ∧ d'.keep = b.keep := by
  obtain ⟨oi, om, on, hf, hi, hsm⟩ := h
  obtain ⟨h1, h2, h3⟩ := next_ok (k := k) hl hs hn
  have hF : Fated b := ⟨by omega, .inl hleft⟩
  have ho := open_inv hk1 hk hF hup h1 (by omega) (by omega) hf hi hsm (hw _ _ _ hf)
  have h0 : (openA b (k : Int)).1 = 0 := by
    by_cases h : (openA b (k : Int)).1 = 0
    · exact h
    · exact absurd hleft (ho.bad h).2.2.2.2.2.2
  obtain ⟨L', hL', g1, g2, g3, g4, g5, g6, g7, g8⟩ := ho.good h0
  have hres : ∀ m, L' = its k 0 (l.take m) → openA b (k : Int) = (0, some (stOf k (its k 0 (l.take m))), (openA b (k : Int)).2.2) := by
    intro m e
    rw [← e, ← g1, ← h0]
  rcases hL' with e | ⟨hm, e⟩
  · exact ⟨n, _, .inl rfl, hn, hres n e, by rw [g2, e]; rfl, g3, g8 hleft, g4, g6, g5⟩
  · have hlt := hmay hm
    have e2 : L' = its k 0 (l.take (n + 1)) := by rw [e, take_snoc hlt]
    exact ⟨n + 1, _, .inr ⟨hm, rfl⟩, hlt, hres _ e2, by rw [g2, e2]; rfl, g3, g8 hleft, g4, g6, g5⟩
theorem on_len {P : Dk.F → Dk.F → Dk.F → Prop} {fs : Dk.Fs} (h : On P fs) : fs.length ≤ 3 := by
  obtain ⟨oi, om, on, e, _⟩ := h
  rw [e]
  unfold mk3
  rw [List.length_append, List.length_append]
  cases oi <;> cases om <;> cases on <;> simp
/-- What settled finds. -/
theorem settled_run {may : Prop} {k : Nat} (hk1 : 1 ≤ k) (hk : k ≤ 32) {l : List ByteArray} (hl : l.length ≤ 12) (hs : ∀ x ∈ l, x.size ≤ 500) {n : Nat} (hn : n ≤ l.length) (hmay : may → n < l.length) {d : Dk.St} (h : On (InvS may k (its k 0 (l.take n)) (itAt k l n)) d.files) (keep : List Bool) :
    ∃ b m d1 d2, Dk.openC 1048576 (Dk.after d keep) = (0, some b) ∧ (m = n ∨ may ∧ m = n + 1) ∧ m ≤ l.length ∧ openA b (k : Int) = (0, some (stOf k (its k 0 (l.take m))), d1) ∧ d1.files = good3 k (its k 0 (l.take m)) ∧ d1.down = false ∧
      metA k l (l.length - m) m (stOf k (its k 0 (l.take m))) d1 = (l.length, 0, stOf k (its k 0 l), d2) ∧ d2.files = good3 k (its k 0 l) ∧ d2.down = false ∧
      (b.acts = 0 ∧ b.keep = [] ∧ b.files.length ≤ 3) ∧ Fated d1 ∧ d1.room = 1048576 ∧ d1.acts ≤ 6 ∧ d1.keep = [] := by
  obtain ⟨b, hb, hon, hwas, hup, hleft, hroom, hacts, hkeep⟩ := stays_open (invS_keeps hk1 hk _ _) (fun _ _ _ hp => hp.2) h keep
  obtain ⟨m, d1, hm, hml, ho, hf1, hu1, hl1, hr1, ha1, hk1'⟩ := open_calm hk1 hk hl hs hn hmay hup hleft hon (fun oi om on hf e => by rw [← hwas oi om on hf]; exact e)
  have hF1 : Fated d1 := ⟨by omega, .inl hl1⟩
  have hmet := met_run hk1 hk (by omega) hs (l.length - m) m d1 (by omega) hF1 hu1 hf1 (hr1.trans hroom)
  have h0 : (metA k l (l.length - m) m (stOf k (its k 0 (l.take m))) d1).2.1 = 0 := by
    by_cases h : (metA k l (l.length - m) m (stOf k (its k 0 (l.take m))) d1).2.1 = 0
    · exact h
    · exact absurd hl1 (hmet.bad h).2.2.2.2.2.2.2.2
  obtain ⟨k1, k2, k3, k4, _⟩ := hmet.good h0
  exact ⟨b, m, d1, _, hb, hm, hml, ho, hf1, hu1, Prod.ext k1 (Prod.ext h0 (Prod.ext k2 rfl)), k3, k4, ⟨hacts, hkeep, on_len hon⟩, hF1, hr1.trans hroom, by omega, hk1'.trans hkeep⟩
theorem after_small {P : Dk.F → Dk.F → Dk.F → Prop} (hP : Keeps P) (hS : ∀ a b c, P a b c → Small a b c) {d : Dk.St} (h : On P d.files) (keep : List Bool) : (Dk.after d keep).length ≤ 3 ∧ ∀ p ∈ Dk.after d keep, p.1.size ≤ 140737488351232 ∧ p.2.size ≤ 140737488351232 := by
  obtain ⟨xi, xm, xn, e, hp⟩ := on_after hP h keep
  have hs := hS _ _ _ hp
  have hf : ∀ (n x : ByteArray), (full1 n x).length ≤ 1 ∧ ∀ p ∈ full1 n x, p = (n, x) := by
    intro n x
    unfold full1
    split
    · exact ⟨by simp, fun p hp => by cases hp⟩
    · exact ⟨by simp, fun p hp => List.mem_singleton.1 hp⟩
  rw [e]
  unfold list3
  refine ⟨?_, fun p hp => ?_⟩
  · rw [List.length_append, List.length_append]
    have h1 := (hf nItems xi).1
    have h2 := (hf nMarks xm).1
    have h3 := (hf nNodes xn).1
    omega
  · rcases List.mem_append.1 hp with q | q
    · rw [(hf _ _).2 p q]
      have : xi.size ≤ 100000 := hs.1.1
      exact ⟨by show nItems.size ≤ _; decide, by show xi.size ≤ _; omega⟩
    · rcases List.mem_append.1 q with q | q
      · rw [(hf _ _).2 p q]
        have : xm.size ≤ 100000 := hs.2.1.1
        exact ⟨by show nMarks.size ≤ _; decide, by show xm.size ≤ _; omega⟩
      · rw [(hf _ _).2 p q]
        have : xn.size ≤ 100000 := hs.2.2.1
        exact ⟨by show nNodes.size ≤ _; decide, by show xn.size ≤ _; omega⟩
#print axioms settled_run
end Fl
end Go.Proofs.YtbfbajfdlkgloaaGreatDoor
