/-
  Four rows of pairs of texts, told apart: named over, cell by cell, and grown. No program in sight.
-/
import Derived.Test.YtbfbajfdlkgloaaGreatDoorG23
import Derived.Test.YtbfbajfdlkgloaaGreatDoorG02
import Derived.Test.YtbfbajfdlkgloaaGreatDoorG07
import Derived.Test.YtbfbajfdlkgloaaGreatDoorG26
import Derived.Deep.Upon
import Derived.Deep.MidRow
import Derived.Test.YtbfbajfdlkgloaaGreatDoorG27
import Derived.Test.YtbfbajfdlkgloaaGreatDoorG29

namespace Go.Proofs.YtbfbajfdlkgloaaGreatDoor
open Go Go.RowKit
def nmK (k : Nat) : ByteArray := ⟨#[UInt8.ofNat k]⟩
def RowN (w : World) (base T : Nat) (v : Value) (n k m : Nat) : Prop := ∃ xs, w.ownsRow base T 2 v n xs ∧ ∀ q, q < m → xs[q * 2]? = some (.string (nmK k))
theorem RowN.mono {w : World} {base T n k m m' : Nat} {v : Value} (h : RowN w base T v n k m) (hm : m' ≤ m) : RowN w base T v n k m' := by
  obtain ⟨xs, h1, h2⟩ := h
  exact ⟨xs, h1, fun q hq => h2 q (by omega)⟩
theorem RowN.past {w w' : World} {base T n k m : Nat} {v : Value} (h : RowN w base T v n k m) (hb : Below w.heap.size w w') : RowN w' base T v n k m := by
  obtain ⟨xs, h1, h2⟩ := h
  exact ⟨xs, own_below h1 hb, h2⟩
theorem row_moved {S : Nat → Prop} {w w' : World} {base e size n : Nat} {v : Value} {xs : List Value} (h : w.ownsRow base e size v n xs) (hm : Moved S w w') (hn : ∀ b, v.ownBlock = some b → ¬ S b) : w'.ownsRow base e size v n xs := by
  obtain ⟨h1, h2⟩ := h
  refine ⟨h1, ?_⟩
  rcases h2 with h2 | ⟨g, cap, cur, rfl, hg, hh, r⟩
  · exact .inl h2
  · exact .inr ⟨g, cap, cur, rfl, hg, (hm.block g (Array.getElem?_eq_some_iff.1 hh).1 (hn g rfl)).trans hh, r⟩
theorem RowN.moved {S : Nat → Prop} {w w' : World} {base T n k m : Nat} {v : Value} (h : RowN w base T v n k m) (hm : Moved S w w') (hn : ∀ b, v.ownBlock = some b → ¬ S b) : RowN w' base T v n k m := by
  obtain ⟨xs, h1, h2⟩ := h
  exact ⟨xs, row_moved h1 hm hn, h2⟩
theorem own_setCell {w : World} {base T g n cap j size : Nat} {xs : List Value} {u : Value} (h : w.ownsRow base T size (.slice (some ⟨g, 0, none⟩) n cap) n xs) :
    (w.setCell ⟨g, j, none⟩ u).ownsRow base T size (.slice (some ⟨g, 0, none⟩) n cap) n (xs.set j u) := by
  obtain ⟨hl, ⟨h1, _⟩ | ⟨g', cap', cur, e, hg, hh, hc, hm, hs, hx⟩⟩ := h
  · cases h1
  · injection e with e1 e2 e3
    injection e1 with e1
    injection e1 with e1 e4
    subst e1; subst e3
    refine ⟨by rw [List.length_set]; exact hl, .inr ⟨g, cap, cur.setIfInBounds j u, rfl, hg, ?_, hc, hm, by simpa using hs, ?_⟩⟩
    · rw [World.setCell]
      show (w.heap.modify g _)[g]? = _
      rw [Array.getElem?_modify, if_pos rfl, hh]
      rfl
    · rw [Array.toList_setIfInBounds, List.take_set, hx]
theorem own_blk {w : World} {base T g n cap size : Nat} {xs : List Value} (h : w.ownsRow base T size (.slice (some ⟨g, 0, none⟩) n cap) n xs) : ∃ cur, w.heap[g]? = some (.cells cur T (0, 0)) ∧ n ≤ cap ∧ cur.size = cap * size ∧ cur.toList.take (n * size) = xs ∧ base ≤ g := by
  obtain ⟨hl, ⟨h1, _⟩ | ⟨g', cap', cur, e, hg, hh, hc, hm, hs, hx⟩⟩ := h
  · cases h1
  · injection e with e1 e2 e3
    injection e1 with e1
    injection e1 with e1 e4
    subst e1; subst e3
    exact ⟨cur, hh, hc, hs, hx, hg⟩
theorem own_cell {w : World} {base T g n cap j : Nat} {xs : List Value} {u : Value} (h : w.ownsRow base T 2 (.slice (some ⟨g, 0, none⟩) n cap) n xs) (hj : xs[j]? = some u) : w.cell? ⟨g, j, none⟩ = some u := by
  obtain ⟨cur, hh, hc, hs, hx, _⟩ := own_blk h
  rw [cell_blk hh]
  rw [← hx] at hj
  have hlt := (List.getElem?_eq_some_iff.1 hj).1
  rw [List.length_take] at hlt
  rw [List.getElem?_take_of_lt (by omega)] at hj
  simpa using hj
theorem own_there {w : World} {base T g n cap j : Nat} {xs : List Value} (h : w.ownsRow base T 2 (.slice (some ⟨g, 0, none⟩) n cap) n xs) (hj : j < n) : w.there g (j * 2) 2 := by
  obtain ⟨cur, hh, hc, hs, hx, _⟩ := own_blk h
  intro i hi
  refine ⟨?_, ?_⟩
  · rw [cell_blk hh, Array.getElem?_eq_getElem (by omega)]; rfl
  · simp [World.frozen?, hh]
theorem row_name {w : World} {base T g n cap k j : Nat} {tx : Value} (h : RowN w base T (.slice (some ⟨g, 0, none⟩) n cap) n k j) (hj : j < n) :
    RowN (w.setCells g (j * 2) [.string (nmK k), tx]) base T (.slice (some ⟨g, 0, none⟩) n cap) n k (j + 1) := by
  obtain ⟨xs, h1, h2⟩ := h
  have hl := h1.1
  refine ⟨(xs.set (j * 2) (.string (nmK k))).set (j * 2 + 1) tx, ?_, fun q hq => ?_⟩
  · have e : w.setCells g (j * 2) [.string (nmK k), tx] = (w.setCell ⟨g, j * 2, none⟩ (.string (nmK k))).setCell ⟨g, j * 2 + 1, none⟩ tx := by simp [World.setCells]
    rw [e]
    exact own_setCell (own_setCell h1)
  · rw [List.getElem?_set_ne (by omega)]
    by_cases hqj : q = j
    · subst hqj
      rw [List.getElem?_set_self (by omega)]
    · rw [List.getElem?_set_ne (by omega)]
      exact h2 q (by omega)
/-! ### four of them -/
def quad {α : Type} (a b c d : α) : Nat → α
  | 0 => a
  | 1 => b
  | 2 => c
  | _ => d
def quin (a b c d e : Nat) : Nat → Nat
  | 0 => a
  | 1 => b
  | 2 => c
  | 3 => d
  | _ => e
def UpB (B : Nat → Nat) : Prop := ∀ k, k < 4 → B k ≤ B (k + 1)
theorem UpB.le {B : Nat → Nat} (h : UpB B) {a : Nat} : ∀ b, a ≤ b → b ≤ 4 → B a ≤ B b
  | 0, h1, _ => by rw [Nat.le_zero.1 h1]; exact Nat.le_refl _
  | b + 1, h1, h2 => by
    rcases Nat.lt_or_ge a (b + 1) with h3 | h3
    · exact Nat.le_trans (UpB.le h b (by omega) (by omega)) (h b (by omega))
    · rw [show a = b + 1 by omega]; exact Nat.le_refl _
def Rows (w : World) (B : Nat → Nat) (T : Nat) (V : Nat → Value) (n m : Nat → Nat) : Prop := ∀ k, k < 4 → RowN w (B k) T (V k) (n k) k (m k)
def ApartB (B : Nat → Nat) (V : Nat → Value) : Prop := ∀ k, k < 4 → ∀ b, (V k).ownBlock = some b → b < B (k + 1)
theorem Rows.mono {w : World} {B : Nat → Nat} {T : Nat} {V : Nat → Value} {n m m' : Nat → Nat} (h : Rows w B T V n m) (hm : ∀ k, k < 4 → m' k ≤ m k) : Rows w B T V n m' := fun k hk => (h k hk).mono (hm k hk)
theorem Rows.past {w w' : World} {B : Nat → Nat} {T : Nat} {V : Nat → Value} {n m : Nat → Nat} (h : Rows w B T V n m) (hb : Below w.heap.size w w') : Rows w' B T V n m := fun k hk => (h k hk).past hb
theorem RowN.blk {w : World} {base T n k m b : Nat} {v : Value} (h : RowN w base T v n k m) (hb : v.ownBlock = some b) : base ≤ b ∧ b < w.heap.size := by
  obtain ⟨xs, h1, _⟩ := h
  exact h1.lt b hb
theorem rows_name {w : World} {B : Nat → Nat} {T : Nat} {V : Nat → Value} {n m : Nat → Nat} (h : Rows w B T V n m) (hap : ApartB B V) (hup : UpB B) {i g cap j : Nat} (hi : i < 4)
    (hv : V i = .slice (some ⟨g, 0, none⟩) (n i) cap) (hj : m i = j) (hjn : j < n i) (tx : Value) : Rows (w.setCells g (j * 2) [.string (nmK i), tx]) B T V n (fun k => if k = i then j + 1 else m k) := by
  intro k hk
  by_cases hki : k = i
  · subst hki
    have h1 := h k hk
    rw [hv, hj] at h1
    rw [hv]
    simp only [if_pos]
    exact row_name h1 hjn
  · have hbi := h i hi
    rw [hv] at hbi
    have hgi := (hbi.blk (b := g) rfl).1
    have hgi2 := hap i hi g (by rw [hv]; rfl)
    have hmv : Moved (fun q => q = g) w (w.setCells g (j * 2) [.string (nmK i), tx]) := by
      have hb := below_setCells (B := 0) (w0 := w) (Nat.zero_le g) [.string (nmK i), tx] (j * 2) w (Below.refl _ _)
      exact ⟨hb.os, hb.tape, hb.output, hb.size, fun q hq hn => World.heap_setCells_other w g (j * 2) _ hq hn⟩
    simp only [if_neg hki]
    refine (h k hk).moved hmv fun b hb e => ?_
    subst e
    have h1 := ((h k hk).blk hb).1
    have h2 := hap k hk b hb
    rcases Nat.lt_or_ge k i with h3 | h3
    · have := hup.le (a := k + 1) i (by omega) (by omega); omega
    · have := hup.le (a := i + 1) k (by omega) (by omega); omega
def upd {α : Type} (f : Nat → α) (i : Nat) (v : α) : Nat → α := fun k => if k = i then v else f k
structure Grown (w : World) (B : Nat → Nat) (S T : Nat) (V G : Nat → Value) (n m : Nat → Nat) : Prop where
  rows : Rows w B T G m m
  old : ∀ k, k < 4 → ∀ q, q < n k → ∀ b, (V k).ownBlock = some b → b < w.heap.size ∧ w.cell? ⟨b, q * 2, none⟩ = some (.string (nmK k))
  at_ : ∀ k, k < 4 → ∀ b, (G k).ownBlock = some b → b < B (k + 1) ∨ S ≤ b
  apart : ∀ k, k < 4 → ∀ l, l < 4 → k ≠ l → ∀ b, (G k).ownBlock = some b → (G l).ownBlock ≠ some b
  len : ∀ k, k < 4 → n k ≤ m k
theorem Grown.moved {w w' : World} {B : Nat → Nat} {S T : Nat} {V G : Nat → Value} {n m : Nat → Nat} {P : Nat → Prop} (h : Grown w B S T V G n m) (hup : UpB B) (hV : ApartB B V) (hVb : ∀ k, k < 4 → ∀ b, (V k).ownBlock = some b → B k ≤ b) (hm : Moved P w w')
    (hP : ∀ k, ((B 0 ≤ k ∧ k < B 4) ∨ S ≤ k) → ¬ P k) : Grown w' B S T V G n m := by
  refine ⟨fun k hk => (h.rows k hk).moved hm fun b hb => hP b ?_, fun k hk q hq b hb => ?_, h.at_, h.apart, h.len⟩
  · have h1 := ((h.rows k hk).blk hb).1
    have h2 := hup.le (a := 0) k (by omega) (by omega)
    rcases h.at_ k hk b hb with h3 | h3
    · have h4 := hup.le (a := k + 1) 4 (by omega) (by omega)
      exact .inl (by omega)
    · exact .inr h3
  · obtain ⟨h1, h2⟩ := h.old k hk q hq b hb
    have h3 := hVb k hk b hb
    have h4 := hV k hk b hb
    have h5 := hup.le (a := 0) k (by omega) (by omega)
    have h6 := hup.le (a := k + 1) 4 (by omega) (by omega)
    refine ⟨Nat.lt_of_lt_of_le h1 hm.size, ?_⟩
    have hh := hm.block b h1 (hP b (.inl (by omega)))
    rw [← h2]
    unfold World.cell?
    simp only [hh]
theorem Grown.past {w w' : World} {B : Nat → Nat} {S T : Nat} {V G : Nat → Value} {n m : Nat → Nat} (h : Grown w B S T V G n m) (hup : UpB B) (hV : ApartB B V) (hVb : ∀ k, k < 4 → ∀ b, (V k).ownBlock = some b → B k ≤ b) (hb : Below w.heap.size w w') : Grown w' B S T V G n m :=
  h.moved hup hV hVb (Moved.of_below (S := fun _ => False) hb) fun _ _ => id
theorem Grown.congr {w : World} {B : Nat → Nat} {S T : Nat} {V G : Nat → Value} {n m m' : Nat → Nat} (h : Grown w B S T V G n m) (hm : ∀ k, k < 4 → m k = m' k) : Grown w B S T V G n m' :=
  ⟨fun k hk => by rw [← hm k hk]; exact h.rows k hk, h.old, h.at_, h.apart, fun k hk => by rw [← hm k hk]; exact h.len k hk⟩
theorem quad_cell {w : World} {ba T : Nat} {V : Nat → Value} (h : w.heap[ba]? = some (.cells #[V 0, V 1, V 2, V 3] T (0, 0))) {i : Nat} (hi : i < 4) : w.cell? ⟨ba, i, none⟩ = some (V i) := by
  rw [cell_blk h]
  have : i = 0 ∨ i = 1 ∨ i = 2 ∨ i = 3 := by omega
  rcases this with rfl | rfl | rfl | rfl <;> rfl
theorem quad_upd {w : World} {bg T : Nat} {G : Nat → Value} (h : w.heap[bg]? = some (.cells #[G 0, G 1, G 2, G 3] T (0, 0))) {i : Nat} (hi : i < 4) (v : Value) :
    (w.setCell ⟨bg, i, none⟩ v).heap[bg]? = some (.cells #[upd G i v 0, upd G i v 1, upd G i v 2, upd G i v 3] T (0, 0)) := by
  rw [World.setCell]
  show (w.heap.modify bg _)[bg]? = _
  rw [Array.getElem?_modify, if_pos rfl, h]
  have : i = 0 ∨ i = 1 ∨ i = 2 ∨ i = 3 := by omega
  rcases this with rfl | rfl | rfl | rfl <;> simp [upd]
theorem grown_start {w : World} {B : Nat → Nat} {S T : Nat} {V : Nat → Value} {n : Nat → Nat} (h : Rows w B T V n n) (hap : ApartB B V) (hup : UpB B) (hf : ∀ k, k < 4 → ∃ ad cap, V k = .slice ad (n k) cap) : Grown w B S T V V n n := by
  refine ⟨h, fun k hk q hq b hb => ?_, fun k hk b hb => .inl (hap k hk b hb), fun k hk l hl hkl b hb e => ?_, fun _ _ => Nat.le_refl _⟩
  · have h0 := h k hk
    have hlt := (h0.blk hb).2
    obtain ⟨xs, h1, h2⟩ := h0
    refine ⟨hlt, ?_⟩
    rcases h1.2 with ⟨e, e2⟩ | ⟨g, cap, cur, e, r⟩
    · rw [e] at hb; cases hb
    · rw [e] at h1 hb
      injection hb with hb
      subst hb
      exact own_cell h1 (h2 q hq)
  · have h1 := ((h k hk).blk hb).1
    have h2 := hap k hk b hb
    have h3 := ((h l hl).blk e).1
    have h4 := hap l hl b e
    rcases Nat.lt_or_ge k l with h5 | h5
    · have := hup.le (a := k + 1) l (by omega) (by omega); omega
    · have := hup.le (a := l + 1) k (by omega) (by omega); omega
theorem grown_step {w w' : World} {B : Nat → Nat} {S T : Nat} {V G : Nat → Value} {n m : Nat → Nat} (h : Grown w B S T V G n m) (hup : UpB B) (hV : ApartB B V) (hVb : ∀ k, k < 4 → ∀ b, (V k).ownBlock = some b → B k ≤ b)
    (hS : S ≤ w.heap.size) (hBS : B 4 ≤ S) {i : Nat} (hi : i < 4) {v' : Value} {xs : List Value} {tx : Value} (hx : w.ownsRow (B i) T 2 (G i) (m i) xs) (hxn : ∀ q, q < m i → xs[q * 2]? = some (.string (nmK i)))
    (hown : w'.ownsRow (B i) T 2 v' (m i + 1) (xs ++ [.string (nmK i), tx]))
    (hgr : (v'.ownBlock = (G i).ownBlock ∧ w.grownBy w' (G i).ownBlock) ∨ ((∀ k, v'.ownBlock = some k → w.heap.size ≤ k) ∧ Below w.heap.size w w')) :
    Grown w' B S T V (upd G i v') n (upd m i (m i + 1)) ∧ Moved (fun k => (B 0 ≤ k ∧ k < B 4) ∨ S ≤ k) w w' := by
  have hxl : xs.length = m i * 2 := hx.1
  have hnew : ∀ q, q < m i + 1 → (xs ++ [Value.string (nmK i), tx])[q * 2]? = some (.string (nmK i)) := by
    intro q hq
    by_cases hqm : q = m i
    · subst hqm
      rw [List.getElem?_append_right (by omega), show m i * 2 - xs.length = 0 by omega]
      rfl
    · rw [List.getElem?_append_left (by omega)]
      exact hxn q (by omega)
  have hrowi : RowN w' (B i) T v' (m i + 1) i (m i + 1) := ⟨_, hown, hnew⟩
  have hself : upd G i v' i = v' := by unfold upd; rw [if_pos rfl]
  have hselfm : upd m i (m i + 1) i = m i + 1 := by unfold upd; rw [if_pos rfl]
  have hoth : ∀ k, k ≠ i → upd G i v' k = G k ∧ upd m i (m i + 1) k = m k := fun k hk => by unfold upd; rw [if_neg hk, if_neg hk]; exact ⟨rfl, rfl⟩
  have hlen : ∀ k, k < 4 → n k ≤ upd m i (m i + 1) k := by
    intro k hk
    by_cases hki : k = i
    · subst hki; rw [hselfm]; have := h.len k hk; omega
    · rw [(hoth k hki).2]; exact h.len k hk
  have hzone : ∀ k, k < 4 → ∀ b, (G k).ownBlock = some b → (B 0 ≤ b ∧ b < B 4) ∨ S ≤ b := by
    intro k hk b hb
    have h1 := ((h.rows k hk).blk hb).1
    have h2 := hup.le (a := 0) k (by omega) (by omega)
    rcases h.at_ k hk b hb with h3 | h3
    · have h4 := hup.le (a := k + 1) 4 (by omega) (by omega)
      exact .inl (by omega)
    · exact .inr h3
  rcases hgr with ⟨he, hg⟩ | ⟨hf, hg⟩
  · have hmv : Moved (fun k => (G i).ownBlock = some k) w w' := Moved.of_grown hg fun k e => e
    refine ⟨⟨fun k hk => ?_, fun k hk q hq b hb => ?_, fun k hk b hb => ?_, fun k hk l hl hkl b hb e => ?_, hlen⟩, hmv.mono fun k e => hzone i hi k e⟩
    · by_cases hki : k = i
      · subst hki; rw [hself, hselfm]; exact hrowi
      · rw [(hoth k hki).1, (hoth k hki).2]
        exact (h.rows k hk).moved hmv fun b hb e => h.apart k hk i hi hki b hb e
    · obtain ⟨h1, h2⟩ := h.old k hk q hq b hb
      refine ⟨Nat.lt_of_lt_of_le h1 hg.size, ?_⟩
      by_cases hbi : (G i).ownBlock = some b
      · -- the row itself
        have hki : k = i := by
          by_cases hki : k = i
          · exact hki
          · exfalso
            have h3 := hVb k hk b hb
            have h4 := hV k hk b hb
            have h5 := ((h.rows i hi).blk hbi).1
            have h6 := hup.le (a := k + 1) 4 (by omega) (by omega)
            rcases h.at_ i hi b hbi with h7 | h7
            · rcases Nat.lt_or_ge k i with h8 | h8
              · have := hup.le (a := k + 1) i (by omega) (by omega); omega
              · have := hup.le (a := i + 1) k (by omega) (by omega); omega
            · omega
        subst hki
        have hql : q < m k + 1 := by have := h.len k hk; omega
        rcases hown.2 with ⟨e, e2⟩ | ⟨g, cap, cur, e, r⟩
        · omega
        · rw [e] at hown he
          have e4 : some g = some b := he.trans hbi
          injection e4 with e4
          subst e4
          exact own_cell hown (hnew q hql)
      · have hh := hmv.block b h1 hbi
        rw [← h2]
        unfold World.cell?
        simp only [hh]
    · by_cases hki : k = i
      · subst hki; rw [hself] at hb; exact h.at_ k hk b (he ▸ hb)
      · rw [(hoth k hki).1] at hb; exact h.at_ k hk b hb
    · by_cases hki : k = i
      · subst hki
        rw [hself] at hb
        rw [(hoth l (Ne.symm hkl)).1] at e
        exact h.apart k hk l hl hkl b (he ▸ hb) e
      · rw [(hoth k hki).1] at hb
        by_cases hli : l = i
        · subst hli
          rw [hself] at e
          exact h.apart k hk l hl hkl b hb (he ▸ e)
        · rw [(hoth l hli).1] at e
          exact h.apart k hk l hl hkl b hb e
  · have hpast := h.past hup hV hVb hg
    refine ⟨⟨fun k hk => ?_, hpast.old, fun k hk b hb => ?_, fun k hk l hl hkl b hb e => ?_, hlen⟩, Moved.of_below hg⟩
    · by_cases hki : k = i
      · subst hki; rw [hself, hselfm]; exact hrowi
      · rw [(hoth k hki).1, (hoth k hki).2]
        exact hpast.rows k hk
    · by_cases hki : k = i
      · subst hki; rw [hself] at hb; exact .inr (Nat.le_trans hS (hf b hb))
      · rw [(hoth k hki).1] at hb; exact h.at_ k hk b hb
    · by_cases hki : k = i
      · subst hki
        rw [hself] at hb
        rw [(hoth l (Ne.symm hkl)).1] at e
        have h1 := hf b hb
        have h2 := ((h.rows l hl).blk e).2
        omega
      · rw [(hoth k hki).1] at hb
        by_cases hli : l = i
        · subst hli
          rw [hself] at e
          have h1 := hf b e
          have h2 := ((h.rows k hk).blk hb).2
          omega
        · rw [(hoth l hli).1] at e
          exact h.apart k hk l hl hkl b hb e
end Go.Proofs.YtbfbajfdlkgloaaGreatDoor

/-
  What look holds: markers that may be, the records of nodes one by one, in plain Lean; the row of ends beside its store.
-/
namespace Go.Proofs.YtbfbajfdlkgloaaGreatDoor
open Go Go.RowKit Go.Maps
namespace Fl
theorem madeF_snoc (N : ByteArray) : ∀ (j p : Nat), madeF N p (j + 1) = madeF N p j ++ [N.extract (40 * (p + j)) (40 * (p + j) + 40)]
  | 0, p => rfl
  | j + 1, p => by
    show N.extract (40 * p) (40 * p + 40) :: madeF N (p + 1) (j + 1) = N.extract (40 * p) (40 * p + 40) :: madeF N (p + 1) j ++ _
    rw [madeF_snoc N j (p + 1), List.cons_append, show p + 1 + j = p + (j + 1) by omega]
theorem madeF_len (N : ByteArray) : ∀ (j p : Nat), (madeF N p j).length = j
  | 0, _ => rfl
  | j + 1, p => by show (madeF N (p + 1) j).length + 1 = _; rw [madeF_len N j]
theorem madeF_sizes (N : ByteArray) : ∀ (j p : Nat), Rec.sizes (madeF N p j) ≤ 40 * j
  | 0, _ => Nat.le_refl _
  | j + 1, p => by
    have h := madeF_sizes N j (p + 1)
    show (N.extract (40 * p) (40 * p + 40)).size + Rec.sizes (madeF N (p + 1) j) ≤ _
    rw [ByteArray.size_extract]; omega
theorem madeOk_zero (k : Nat) (N : ByteArray) (p : Nat) : madeOk k N p 0 = true := rfl
theorem madeOk_snoc (k : Nat) (N : ByteArray) (p j : Nat) : madeOk k N p (j + 1) = (madeOk k N p j && Rec.nodeOk k (p + j) (N.extract (40 * (p + j)) (40 * (p + j) + 40))) := by
  unfold madeOk
  rw [List.range_succ, List.all_append]
  simp
theorem madeOk_bad {k : Nat} {N : ByteArray} {p j f : Nat} (hj : j < f) (h : Rec.nodeOk k (p + j) (N.extract (40 * (p + j)) (40 * (p + j) + 40)) = false) : madeOk k N p f = false := by
  unfold madeOk
  rw [List.all_eq_false]
  exact ⟨j, List.mem_range.2 hj, by rw [h]; decide⟩
theorem nodes_le_of : ∀ {a b : Nat}, a ≤ b → nodes a ≤ nodes b
  | a, 0, h => by have : a = 0 := by omega
                  subst this; exact Nat.le_refl _
  | a, b + 1, h => by
    rcases Nat.lt_or_ge b a with h2 | h2
    · have : a = b + 1 := by omega
      subst this; exact Nat.le_refl _
    · exact Nat.le_trans (nodes_le_of h2) (nodes_mono b)
/-- What more a list of read markers keeps. -/
theorem markers_nodes (k : Int) (M : ByteArray) : ∀ (f : Nat) (acc ms : List Rec.Mk), markersF k M f acc = some ms →
    (ms.length ≤ 65536 ∨ ms.length ≤ acc.length) ∧ (∀ i m, ms[i]? = some m → acc[i]? = some m ∨ m.nodes = 40 * nodes (i + 1))
  | 0, acc, ms, h => by
    injection h with h
    subst h
    exact ⟨.inr (Nat.le_refl _), fun i m hm => .inl hm⟩
  | f + 1, acc, ms, h => by
    unfold markersF at h
    split at h
    · injection h with h
      subst h
      exact ⟨.inr (Nat.le_refl _), fun i m hm => .inl hm⟩
    · split at h
      · cases h
      · rename_i m hm
        split at h
        · cases h
        · rename_i hc
          obtain ⟨h1, h2⟩ := markers_nodes k M f (acc ++ [m]) ms h
          refine ⟨?_, fun i x hx => ?_⟩
          · rcases h1 with h1 | h1
            · exact .inl h1
            · rw [List.length_append, List.length_singleton] at h1
              exact .inl (by omega)
          · rcases h2 i x hx with h3 | h3
            · rcases Nat.lt_or_ge i acc.length with hi | hi
              · rw [List.getElem?_append_left hi] at h3
                exact .inl h3
              · rw [List.getElem?_append_right hi] at h3
                have h4 : i - acc.length = 0 := by
                  rcases Nat.eq_zero_or_pos (i - acc.length) with h | h
                  · exact h
                  · rw [List.getElem?_eq_none (by rw [List.length_singleton]; omega)] at h3; cases h3
                rw [h4] at h3
                injection h3 with h3
                have h5 : i = acc.length := by omega
                right
                rw [← h3, h5]
                omega
            · exact .inr h3
/-- Markers that may be, of files long enough. -/
structure MarksOk (A N : ByteArray) (ms : List Rec.Mk) : Prop where
  many : ms.length ≤ 65536
  ok : ∀ m ∈ ms, m.ok
  rise : (ms.map (·.items)).Pairwise (· < ·)
  items : ∀ m ∈ ms, m.items ≤ A.size
  nodesAt : ∀ (i : Nat) (m : Rec.Mk), ms[i]? = some m → m.nodes = 40 * Fl.nodes (i + 1)
  long : 40 * nodes ms.length ≤ N.size
theorem marksOk_of {k : Int} {M A N : ByteArray} {f : Nat} {ms : List Rec.Mk} (h : markersF k M f [] = some ms) (hs : tooShort A N ms = false) : MarksOk A N ms := by
  obtain ⟨h1, h2, h3⟩ := markers_keep k M f [] ms h List.Pairwise.nil
  obtain ⟨h4, h5⟩ := markers_nodes k M f [] ms h
  have hn : ∀ (i : Nat) (m : Rec.Mk), ms[i]? = some m → m.nodes = 40 * Fl.nodes (i + 1) := fun i m hm => (h5 i m hm).resolve_left (by simp)
  refine ⟨h4.elim id (fun h => Nat.le_trans h (Nat.zero_le _)), fun m hm => (h3 m hm).resolve_left (by simp), h1, ?_, hn, ?_⟩
  · intro m hm
    rcases List.eq_nil_or_concat ms with rfl | ⟨L, y, rfl⟩
    · cases hm
    · rw [List.concat_eq_append] at hm hs h1
      unfold tooShort at hs
      rw [List.getLast?_append] at hs
      have hs2 : decide (A.size < y.items ∨ N.size < y.nodes) = false := hs
      have hs3 := of_decide_eq_false hs2
      rw [List.map_append, List.pairwise_append] at h1
      rcases List.mem_append.1 hm with hm | hm
      · have := h1.2.2 m.items (List.mem_map_of_mem hm) y.items (by simp)
        omega
      · rw [List.mem_singleton.1 hm]; omega
  · rcases List.eq_nil_or_concat ms with rfl | ⟨L, y, rfl⟩
    · exact Nat.zero_le _
    · rw [List.concat_eq_append] at hs hn ⊢
      unfold tooShort at hs
      rw [List.getLast?_append] at hs
      have hs2 : decide (A.size < y.items ∨ N.size < y.nodes) = false := hs
      have hs3 := of_decide_eq_false hs2
      have h6 := hn L.length y (by simp)
      rw [List.length_append, List.length_singleton]
      omega
theorem MarksOk.endLe {A N : ByteArray} {ms : List Rec.Mk} (h : MarksOk A N ms) {i : Nat} {m : Rec.Mk} (hm : ms[i]? = some m) : ((ms.take i).map (·.items)).getLastD 0 ≤ m.items := by
  cases i with
  | zero => exact Nat.zero_le _
  | succ i =>
    have hlt := (List.getElem?_eq_some_iff.1 hm).1
    rw [List.take_add_one, List.getElem?_eq_getElem (show i < ms.length by omega), List.map_append, List.getLastD_eq_getLast?, List.getLast?_append]
    show ms[i].items ≤ m.items
    have h1 := List.pairwise_iff_getElem.1 h.rise i (i + 1) (by rw [List.length_map]; omega) (by rw [List.length_map]; exact hlt) (by omega)
    rw [List.getElem_map, List.getElem_map] at h1
    rw [List.getElem?_eq_getElem hlt] at hm
    injection hm with hm
    rw [← hm]
    exact Nat.le_of_lt h1
/-- One step of what is held against the files. -/
theorem look_step {k : Nat} {A N : ByteArray} {ms : List Rec.Mk} {i e c : Nat} {m : Rec.Mk} (hm : ms[i]? = some m) : lookF k A N (ms.drop i) i e c =
    if payOk (A.extract e m.items) = false ∨ madeOk k N (nodes i) (nodes (i + 1) - nodes i) = false ∨ Rec.chainB c (A.extract e m.items) (madeF N (nodes i) (nodes (i + 1) - nodes i)) ≠ m.chain then none
    else lookF k A N (ms.drop (i + 1)) (i + 1) m.items m.chain := by
  have hlt := (List.getElem?_eq_some_iff.1 hm).1
  rw [List.drop_eq_getElem_cons hlt]
  rw [List.getElem?_eq_getElem hlt] at hm
  injection hm with hm
  rw [hm]
  rfl
end Fl
theorem Fl.ok_more {s : Fl.St} {E : Nat} (h : Fl.Ok s) (hn : s.ends.length < 65536) (hE : E ≤ 268435456) (hfin : s.fin ≤ E) : Fl.Ok { s with ends := s.ends ++ [E] } := by
  refine ⟨h.strength, ?_, ?_, ?_, h.chain⟩
  · show (s.ends ++ [E]).length ≤ _; rw [List.length_append, List.length_singleton]; omega
  · intro n hn
    rcases List.mem_append.1 hn with hn | hn
    · exact h.ends n hn
    · rw [List.mem_singleton.1 hn]; exact hE
  · show (s.ends ++ [E]).Pairwise (· ≤ ·)
    rw [List.pairwise_append]
    refine ⟨h.rise, List.pairwise_singleton _ _, fun a ha b hb => ?_⟩
    rw [List.mem_singleton.1 hb]
    refine Nat.le_trans ?_ hfin
    obtain ⟨i, hi, rfl⟩ := List.mem_iff_getElem.1 ha
    rw [Fl.fin_eq, List.getD_eq_getElem?_getD, List.getElem?_eq_getElem (show s.ends.length - 1 < s.ends.length by omega)]
    show s.ends[i] ≤ s.ends[s.ends.length - 1]
    rcases Nat.lt_or_ge i (s.ends.length - 1) with hlt | hge
    · exact List.pairwise_iff_getElem.1 h.rise i (s.ends.length - 1) hi (by omega) hlt
    · have : i = s.ends.length - 1 := by omega
      subst this; exact Nat.le_refl _
theorem StoreAt.setChain {w : World} {T : Fl.Blk} {dg : Nat} {s : Fl.St} (h : StoreAt w T dg s) {c : Nat} (hc : c < 4294967296) : StoreAt (w.setCell ⟨T.g, 3, none⟩ (.int .u32 (c : Int))) T dg { s with chain := c } := by
  refine ⟨⟨h.ok.strength, h.ok.many, h.ok.ends, h.ok.rise, hc⟩, ?_, ?_, h.apart⟩
  · rw [heap_setCell_same _ _ _ _ _ _ h.cells]; rfl
  · exact ownsRow_setCell_other h.row h.apart _
theorem Say12.store {T : Fl.Blk} {dg : Nat} {s : Fl.St} {E : Nat} {WQ u : World} (h : Say12 T dg s E WQ u) (ok : Fl.Ok { s with ends := s.ends ++ [E] }) (ha : T.ev.ownBlock ≠ some T.g) (hlt : T.g < WQ.heap.size) :
    ∃ v, StoreAt u ⟨T.g, v⟩ dg { s with ends := s.ends ++ [E] } ∧ (v.ownBlock = T.ev.ownBlock ∨ ∀ b, v.ownBlock = some b → WQ.heap.size ≤ b) := by
  obtain ⟨v, h1, h2⟩ := h
  refine ⟨v, ⟨ok, h2, ?_, h1.ne ha hlt⟩, h1.2⟩
  show u.ownsRow 0 _ 1 v (s.ends ++ [E]).length _
  rw [List.length_append, List.length_singleton]
  exact h1.1
theorem diskSize_val (D : Dk.Blk) (s : Dk.St) (n : ByteArray) (x : Int) (w : World) (h : DiskAt w D s) (hn : n.size ≤ 140737488351232) (hx : Dk.size s n = x) :
    Calls Tryz.prog 24 #[.pointer (some ⟨D.g, 0, none⟩), .string n] w fun e w' => e = .returned (.int .i64 x) ∧ w' = w := by
  rw [← hx]; exact diskSize_any D s n w h hn
/-- A row's element of five cells. -/
theorem mark_cells {w : World} {am : Option Addr} {n zm i : Nat} {ms : List Rec.Mk} {m : Rec.Mk} (h : w.ownsRow 0 113 5 (.slice am n zm) n (flatM ms)) (hm : ms[i]? = some m) (hi : i < n) :
    ∃ b, am = some ⟨b, 0, none⟩ ∧ b < w.heap.size ∧ n ≤ zm ∧ w.cell? ⟨b, i * 5, none⟩ = some (.int .i64 m.k) ∧ w.cell? ⟨b, i * 5 + 1, none⟩ = some (.int .u64 (m.size : Int)) ∧ w.cell? ⟨b, i * 5 + 2, none⟩ = some (.int .u64 (m.items : Int)) ∧ w.cell? ⟨b, i * 5 + 3, none⟩ = some (.int .u64 (m.nodes : Int)) ∧ w.cell? ⟨b, i * 5 + 4, none⟩ = some (.int .u32 (m.chain : Int)) := by
  obtain ⟨h1, ⟨h2, h3⟩ | ⟨g, cap, cur, h2, h3, h4, h5, h6, h7, h8⟩⟩ := h
  · exact absurd h3 (by omega)
  · injection h2 with e1 e2 e3
    have go : ∀ j, j < 5 → w.cell? ⟨g, i * 5 + j, none⟩ = m.cells[j]? := by
      intro j hj
      rw [← flatM_get ms i m hm j hj, ← h8, List.getElem?_take_of_lt (by omega), cell_blk h4]
      simp
    exact ⟨g, e1, heap_lt h4, by omega, go 0 (by decide), go 1 (by decide), go 2 (by decide), go 3 (by decide), go 4 (by decide)⟩
theorem sizeItems_val (D : Dk.Blk) (s : Dk.St) (x : Int) (w : World) (h : DiskAt w D s) (hx : Dk.size s Fl.nItems = x) :
    Calls Tryz.prog 24 #[.pointer (some ⟨D.g, 0, none⟩), .string ⟨#[105, 116, 101, 109, 115]⟩] w fun e w' => e = .returned (.int .i64 x) ∧ w' = w :=
  diskSize_val D s ⟨#[105, 116, 101, 109, 115]⟩ x w h (by decide) hx
theorem sizeNodes_val (D : Dk.Blk) (s : Dk.St) (x : Int) (w : World) (h : DiskAt w D s) (hx : Dk.size s Fl.nNodes = x) :
    Calls Tryz.prog 24 #[.pointer (some ⟨D.g, 0, none⟩), .string ⟨#[110, 111, 100, 101, 115]⟩] w fun e w' => e = .returned (.int .i64 x) ∧ w' = w :=
  diskSize_val D s ⟨#[110, 111, 100, 101, 115]⟩ x w h (by decide) hx
theorem sizeMarks_val (D : Dk.Blk) (s : Dk.St) (x : Int) (w : World) (h : DiskAt w D s) (hx : Dk.size s Fl.nMarks = x) :
    Calls Tryz.prog 24 #[.pointer (some ⟨D.g, 0, none⟩), .string ⟨#[109, 97, 114, 107, 115]⟩] w fun e w' => e = .returned (.int .i64 x) ∧ w' = w :=
  diskSize_val D s ⟨#[109, 97, 114, 107, 115]⟩ x w h (by decide) hx
end Go.Proofs.YtbfbajfdlkgloaaGreatDoor
