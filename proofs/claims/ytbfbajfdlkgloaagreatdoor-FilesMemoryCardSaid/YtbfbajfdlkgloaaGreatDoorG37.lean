/-
  Four rows of pairs of texts, told apart: named over, cell by cell, and grown. No program in sight.
-/
import Derived.Test.YtbfbajfdlkgloaaGreatDoorG28
import Derived.Test.YtbfbajfdlkgloaaGreatDoorG03
import Derived.Test.YtbfbajfdlkgloaaGreatDoorG08
import Derived.Test.YtbfbajfdlkgloaaGreatDoorG32
import Derived.Deep.Upon
import Derived.Deep.MidRow

namespace Go.Proofs.YtbfbajfdlkgloaaGreatDoor
open Go Go.RowKit
def nmK (k : Nat) : ByteArray := ⟨#[UInt8.ofNat k]⟩
def RowN (w : World) (base T : Nat) (v : Value) (n k m : Nat) : Prop := ∃ xs, w.ownsRow base T 2 v n xs ∧ ∀ q, q < m → xs[q * 2]? = some (.string (nmK k))
theorem RowN.mono {w : World} {base T n k m m' : Nat} {v : Value} (h : RowN w base T v n k m) (hm : m' ≤ m) : RowN w base T v n k m' := by
  obtain ⟨xs, h1, h2⟩ := h
  exact ⟨xs, h1, fun q hq => h2 q (by omega)⟩
theorem RowN.past {w w' : World} {base T n k m : Nat} {v : Value} (h : RowN w base T v n k m) (hb : Below w.heap.size w w') : RowN w' base T v n k m := by
  obtain ⟨xs, h1, h2⟩ := h
  exact ⟨xs, own_below h1 hb, h2⟩
theorem row_moved {S : Nat → Prop} {w w' : World} {base e size n : Nat} {v : Value} {xs : List Value} (h : w.ownsRow base e size v n xs) (hm : Moved S w w') (hn : ∀ b, v.ownBlock = some b → ¬ S b) : w'.ownsRow base e size v n xs := by
  obtain ⟨h1, h2⟩ := h
  refine ⟨h1, ?_⟩
  rcases h2 with h2 | ⟨g, cap, cur, rfl, hg, hh, r⟩
  · exact .inl h2
  · exact .inr ⟨g, cap, cur, rfl, hg, (hm.block g (Array.getElem?_eq_some_iff.1 hh).1 (hn g rfl)).trans hh, r⟩
theorem RowN.moved {S : Nat → Prop} {w w' : World} {base T n k m : Nat} {v : Value} (h : RowN w base T v n k m) (hm : Moved S w w') (hn : ∀ b, v.ownBlock = some b → ¬ S b) : RowN w' base T v n k m := by
  obtain ⟨xs, h1, h2⟩ := h
  exact ⟨xs, row_moved h1 hm hn, h2⟩
theorem own_setCell {w : World} {base T g n cap j size : Nat} {xs : List Value} {u : Value} (h : w.ownsRow base T size (.slice (some ⟨g, 0, none⟩) n cap) n xs) :
    (w.setCell ⟨g, j, none⟩ u).ownsRow base T size (.slice (some ⟨g, 0, none⟩) n cap) n (xs.set j u) := by
  obtain ⟨hl, ⟨h1, _⟩ | ⟨g', cap', cur, e, hg, hh, hc, hm, hs, hx⟩⟩ := h
  · cases h1
  · injection e with e1 e2 e3
    injection e1 with e1
    injection e1 with e1 e4
    subst e1; subst e3
    refine ⟨by rw [List.length_set]; exact hl, .inr ⟨g, cap, cur.setIfInBounds j u, rfl, hg, ?_, hc, hm, by simpa using hs, ?_⟩⟩
    · rw [World.setCell]
      show (w.heap.modify g _)[g]? = _
      rw [Array.getElem?_modify, if_pos rfl, hh]
      rfl
    · rw [Array.toList_setIfInBounds, List.take_set, hx]
theorem own_blk {w : World} {base T g n cap size : Nat} {xs : List Value} (h : w.ownsRow base T size (.slice (some ⟨g, 0, none⟩) n cap) n xs) : ∃ cur, w.heap[g]? = some (.cells cur T (0, 0)) ∧ n ≤ cap ∧ cur.size = cap * size ∧ cur.toList.take (n * size) = xs ∧ base ≤ g := by
  obtain ⟨hl, ⟨h1, _⟩ | ⟨g', cap', cur, e, hg, hh, hc, hm, hs, hx⟩⟩ := h
  · cases h1
  · injection e with e1 e2 e3
    injection e1 with e1
    injection e1 with e1 e4
    subst e1; subst e3
    exact ⟨cur, hh, hc, hs, hx, hg⟩
theorem own_cell {w : World} {base T g n cap j : Nat} {xs : List Value} {u : Value} (h : w.ownsRow base T 2 (.slice (some ⟨g, 0, none⟩) n cap) n xs) (hj : xs[j]? = some u) : w.cell? ⟨g, j, none⟩ = some u := by
  obtain ⟨cur, hh, hc, hs, hx, _⟩ := own_blk h
  rw [cell_blk hh]
  rw [← hx] at hj
  have hlt := (List.getElem?_eq_some_iff.1 hj).1
  rw [List.length_take] at hlt
  rw [List.getElem?_take_of_lt (by omega)] at hj
  simpa using hj
theorem own_there {w : World} {base T g n cap j : Nat} {xs : List Value} (h : w.ownsRow base T 2 (.slice (some ⟨g, 0, none⟩) n cap) n xs) (hj : j < n) : w.there g (j * 2) 2 := by
  obtain ⟨cur, hh, hc, hs, hx, _⟩ := own_blk h
  intro i hi
  refine ⟨?_, ?_⟩
  · rw [cell_blk hh, Array.getElem?_eq_getElem (by omega)]; rfl
  · simp [World.frozen?, hh]
theorem row_name {w : World} {base T g n cap k j : Nat} {tx : Value} (h : RowN w base T (.slice (some ⟨g, 0, none⟩) n cap) n k j) (hj : j < n) :
    RowN (w.setCells g (j * 2) [.string (nmK k), tx]) base T (.slice (some ⟨g, 0, none⟩) n cap) n k (j + 1) := by
  obtain ⟨xs, h1, h2⟩ := h
  have hl := h1.1
  refine ⟨(xs.set (j * 2) (.string (nmK k))).set (j * 2 + 1) tx, ?_, fun q hq => ?_⟩
  · have e : w.setCells g (j * 2) [.string (nmK k), tx] = (w.setCell ⟨g, j * 2, none⟩ (.string (nmK k))).setCell ⟨g, j * 2 + 1, none⟩ tx := by simp [World.setCells]
    rw [e]
    exact own_setCell (own_setCell h1)
  · rw [List.getElem?_set_ne (by omega)]
    by_cases hqj : q = j
    · subst hqj
      rw [List.getElem?_set_self (by omega)]
    · rw [List.getElem?_set_ne (by omega)]
      exact h2 q (by omega)
/-! ### four of them -/
def quad {α : Type} (a b c d : α) : Nat → α
  | 0 => a
  | 1 => b
  | 2 => c
  | _ => d
def quin (a b c d e : Nat) : Nat → Nat
  | 0 => a
  | 1 => b
  | 2 => c
  | 3 => d
  | _ => e
def UpB (B : Nat → Nat) : Prop := ∀ k, k < 4 → B k ≤ B (k + 1)
theorem UpB.le {B : Nat → Nat} (h : UpB B) {a : Nat} : ∀ b, a ≤ b → b ≤ 4 → B a ≤ B b
  | 0, h1, _ => by rw [Nat.le_zero.1 h1]; exact Nat.le_refl _
  | b + 1, h1, h2 => by
    rcases Nat.lt_or_ge a (b + 1) with h3 | h3
    · exact Nat.le_trans (UpB.le h b (by omega) (by omega)) (h b (by omega))
    · rw [show a = b + 1 by omega]; exact Nat.le_refl _
def Rows (w : World) (B : Nat → Nat) (T : Nat) (V : Nat → Value) (n m : Nat → Nat) : Prop := ∀ k, k < 4 → RowN w (B k) T (V k) (n k) k (m k)
def ApartB (B : Nat → Nat) (V : Nat → Value) : Prop := ∀ k, k < 4 → ∀ b, (V k).ownBlock = some b → b < B (k + 1)
theorem Rows.mono {w : World} {B : Nat → Nat} {T : Nat} {V : Nat → Value} {n m m' : Nat → Nat} (h : Rows w B T V n m) (hm : ∀ k, k < 4 → m' k ≤ m k) : Rows w B T V n m' := fun k hk => (h k hk).mono (hm k hk)
theorem Rows.past {w w' : World} {B : Nat → Nat} {T : Nat} {V : Nat → Value} {n m : Nat → Nat} (h : Rows w B T V n m) (hb : Below w.heap.size w w') : Rows w' B T V n m := fun k hk => (h k hk).past hb
theorem RowN.blk {w : World} {base T n k m b : Nat} {v : Value} (h : RowN w base T v n k m) (hb : v.ownBlock = some b) : base ≤ b ∧ b < w.heap.size := by
  obtain ⟨xs, h1, _⟩ := h
  exact h1.lt b hb
theorem rows_name {w : World} {B : Nat → Nat} {T : Nat} {V : Nat → Value} {n m : Nat → Nat} (h : Rows w B T V n m) (hap : ApartB B V) (hup : UpB B) {i g cap j : Nat} (hi : i < 4)
    (hv : V i = .slice (some ⟨g, 0, none⟩) (n i) cap) (hj : m i = j) (hjn : j < n i) (tx : Value) : Rows (w.setCells g (j * 2) [.string (nmK i), tx]) B T V n (fun k => if k = i then j + 1 else m k) := by
  intro k hk
  by_cases hki : k = i
  · subst hki
    have h1 := h k hk
    rw [hv, hj] at h1
    rw [hv]
    simp only [if_pos]
    exact row_name h1 hjn
  · have hbi := h i hi
    rw [hv] at hbi
    have hgi := (hbi.blk (b := g) rfl).1
    have hgi2 := hap i hi g (by rw [hv]; rfl)
    have hmv : Moved (fun q => q = g) w (w.setCells g (j * 2) [.string (nmK i), tx]) := by
      have hb := below_setCells (B := 0) (w0 := w) (Nat.zero_le g) [.string (nmK i), tx] (j * 2) w (Below.refl _ _)
      exact ⟨hb.os, hb.tape, hb.output, hb.size, fun q hq hn => World.heap_setCells_other w g (j * 2) _ hq hn⟩
    simp only [if_neg hki]
    refine (h k hk).moved hmv fun b hb e => ?_
    subst e
    have h1 := ((h k hk).blk hb).1
    have h2 := hap k hk b hb
    rcases Nat.lt_or_ge k i with h3 | h3
    · have := hup.le (a := k + 1) i (by omega) (by omega); omega
    · have := hup.le (a := i + 1) k (by omega) (by omega); omega
def upd {α : Type} (f : Nat → α) (i : Nat) (v : α) : Nat → α := fun k => if k = i then v else f k
structure Grown (w : World) (B : Nat → Nat) (S T : Nat) (V G : Nat → Value) (n m : Nat → Nat) : Prop where
  rows : Rows w B T G m m
  old : ∀ k, k < 4 → ∀ q, q < n k → ∀ b, (V k).ownBlock = some b → b < w.heap.size ∧ w.cell? ⟨b, q * 2, none⟩ = some (.string (nmK k))
  at_ : ∀ k, k < 4 → ∀ b, (G k).ownBlock = some b → b < B (k + 1) ∨ S ≤ b
  apart : ∀ k, k < 4 → ∀ l, l < 4 → k ≠ l → ∀ b, (G k).ownBlock = some b → (G l).ownBlock ≠ some b
  len : ∀ k, k < 4 → n k ≤ m k
theorem Grown.moved {w w' : World} {B : Nat → Nat} {S T : Nat} {V G : Nat → Value} {n m : Nat → Nat} {P : Nat → Prop} (h : Grown w B S T V G n m) (hup : UpB B) (hV : ApartB B V) (hVb : ∀ k, k < 4 → ∀ b, (V k).ownBlock = some b → B k ≤ b) (hm : Moved P w w')
    (hP : ∀ k, ((B 0 ≤ k ∧ k < B 4) ∨ S ≤ k) → ¬ P k) : Grown w' B S T V G n m := by
  refine ⟨fun k hk => (h.rows k hk).moved hm fun b hb => hP b ?_, fun k hk q hq b hb => ?_, h.at_, h.apart, h.len⟩
  · have h1 := ((h.rows k hk).blk hb).1
    have h2 := hup.le (a := 0) k (by omega) (by omega)
    rcases h.at_ k hk b hb with h3 | h3
    · have h4 := hup.le (a := k + 1) 4 (by omega) (by omega)
      exact .inl (by omega)
    · exact .inr h3
  · obtain ⟨h1, h2⟩ := h.old k hk q hq b hb
    have h3 := hVb k hk b hb
    have h4 := hV k hk b hb
    have h5 := hup.le (a := 0) k (by omega) (by omega)
    have h6 := hup.le (a := k + 1) 4 (by omega) (by omega)
    refine ⟨Nat.lt_of_lt_of_le h1 hm.size, ?_⟩
    have hh := hm.block b h1 (hP b (.inl (by omega)))
    rw [← h2]
    unfold World.cell?
    simp only [hh]
theorem Grown.past {w w' : World} {B : Nat → Nat} {S T : Nat} {V G : Nat → Value} {n m : Nat → Nat} (h : Grown w B S T V G n m) (hup : UpB B) (hV : ApartB B V) (hVb : ∀ k, k < 4 → ∀ b, (V k).ownBlock = some b → B k ≤ b) (hb : Below w.heap.size w w') : Grown w' B S T V G n m :=
  h.moved hup hV hVb (Moved.of_below (S := fun _ => False) hb) fun _ _ => id
theorem Grown.congr {w : World} {B : Nat → Nat} {S T : Nat} {V G : Nat → Value} {n m m' : Nat → Nat} (h : Grown w B S T V G n m) (hm : ∀ k, k < 4 → m k = m' k) : Grown w B S T V G n m' :=
  ⟨fun k hk => by rw [← hm k hk]; exact h.rows k hk, h.old, h.at_, h.apart, fun k hk => by rw [← hm k hk]; exact h.len k hk⟩
theorem quad_cell {w : World} {ba T : Nat} {V : Nat → Value} (h : w.heap[ba]? = some (.cells #[V 0, V 1, V 2, V 3] T (0, 0))) {i : Nat} (hi : i < 4) : w.cell? ⟨ba, i, none⟩ = some (V i) := by
  rw [cell_blk h]
  have : i = 0 ∨ i = 1 ∨ i = 2 ∨ i = 3 := by omega
  rcases this with rfl | rfl | rfl | rfl <;> rfl
theorem quad_upd {w : World} {bg T : Nat} {G : Nat → Value} (h : w.heap[bg]? = some (.cells #[G 0, G 1, G 2, G 3] T (0, 0))) {i : Nat} (hi : i < 4) (v : Value) :
    (w.setCell ⟨bg, i, none⟩ v).heap[bg]? = some (.cells #[upd G i v 0, upd G i v 1, upd G i v 2, upd G i v 3] T (0, 0)) := by
  rw [World.setCell]
  show (w.heap.modify bg _)[bg]? = _
  rw [Array.getElem?_modify, if_pos rfl, h]
  have : i = 0 ∨ i = 1 ∨ i = 2 ∨ i = 3 := by omega
  rcases this with rfl | rfl | rfl | rfl <;> simp [upd]
theorem grown_start {w : World} {B : Nat → Nat} {S T : Nat} {V : Nat → Value} {n : Nat → Nat} (h : Rows w B T V n n) (hap : ApartB B V) (hup : UpB B) (hf : ∀ k, k < 4 → ∃ ad cap, V k = .slice ad (n k) cap) : Grown w B S T V V n n := by
  refine ⟨h, fun k hk q hq b hb => ?_, fun k hk b hb => .inl (hap k hk b hb), fun k hk l hl hkl b hb e => ?_, fun _ _ => Nat.le_refl _⟩
  · have h0 := h k hk
    have hlt := (h0.blk hb).2
    obtain ⟨xs, h1, h2⟩ := h0
    refine ⟨hlt, ?_⟩
    rcases h1.2 with ⟨e, e2⟩ | ⟨g, cap, cur, e, r⟩
    · rw [e] at hb; cases hb
    · rw [e] at h1 hb
      injection hb with hb
      subst hb
      exact own_cell h1 (h2 q hq)
  · have h1 := ((h k hk).blk hb).1
    have h2 := hap k hk b hb
    have h3 := ((h l hl).blk e).1
    have h4 := hap l hl b e
    rcases Nat.lt_or_ge k l with h5 | h5
    · have := hup.le (a := k + 1) l (by omega) (by omega); omega
    · have := hup.le (a := l + 1) k (by omega) (by omega); omega
theorem grown_step {w w' : World} {B : Nat → Nat} {S T : Nat} {V G : Nat → Value} {n m : Nat → Nat} (h : Grown w B S T V G n m) (hup : UpB B) (hV : ApartB B V) (hVb : ∀ k, k < 4 → ∀ b, (V k).ownBlock = some b → B k ≤ b)
    (hS : S ≤ w.heap.size) (hBS : B 4 ≤ S) {i : Nat} (hi : i < 4) {v' : Value} {xs : List Value} {tx : Value} (hx : w.ownsRow (B i) T 2 (G i) (m i) xs) (hxn : ∀ q, q < m i → xs[q * 2]? = some (.string (nmK i)))
    (hown : w'.ownsRow (B i) T 2 v' (m i + 1) (xs ++ [.string (nmK i), tx]))
    (hgr : (v'.ownBlock = (G i).ownBlock ∧ w.grownBy w' (G i).ownBlock) ∨ ((∀ k, v'.ownBlock = some k → w.heap.size ≤ k) ∧ Below w.heap.size w w')) :
    Grown w' B S T V (upd G i v') n (upd m i (m i + 1)) ∧ Moved (fun k => (B 0 ≤ k ∧ k < B 4) ∨ S ≤ k) w w' := by
  have hxl : xs.length = m i * 2 := hx.1
  have hnew : ∀ q, q < m i + 1 → (xs ++ [Value.string (nmK i), tx])[q * 2]? = some (.string (nmK i)) := by
    intro q hq
    by_cases hqm : q = m i
    · subst hqm
      rw [List.getElem?_append_right (by omega), show m i * 2 - xs.length = 0 by omega]
      rfl
    · rw [List.getElem?_append_left (by omega)]
      exact hxn q (by omega)
  have hrowi : RowN w' (B i) T v' (m i + 1) i (m i + 1) := ⟨_, hown, hnew⟩
  have hself : upd G i v' i = v' := by unfold upd; rw [if_pos rfl]
  have hselfm : upd m i (m i + 1) i = m i + 1 := by unfold upd; rw [if_pos rfl]
  have hoth : ∀ k, k ≠ i → upd G i v' k = G k ∧ upd m i (m i + 1) k = m k := fun k hk => by unfold upd; rw [if_neg hk, if_neg hk]; exact ⟨rfl, rfl⟩
  have hlen : ∀ k, k < 4 → n k ≤ upd m i (m i + 1) k := by
    intro k hk
    by_cases hki : k = i
    · subst hki; rw [hselfm]; have := h.len k hk; omega
    · rw [(hoth k hki).2]; exact h.len k hk
  have hzone : ∀ k, k < 4 → ∀ b, (G k).ownBlock = some b → (B 0 ≤ b ∧ b < B 4) ∨ S ≤ b := by
    intro k hk b hb
    have h1 := ((h.rows k hk).blk hb).1
    have h2 := hup.le (a := 0) k (by omega) (by omega)
    rcases h.at_ k hk b hb with h3 | h3
    · have h4 := hup.le (a := k + 1) 4 (by omega) (by omega)
      exact .inl (by omega)
    · exact .inr h3
  rcases hgr with ⟨he, hg⟩ | ⟨hf, hg⟩
  · have hmv : Moved (fun k => (G i).ownBlock = some k) w w' := Moved.of_grown hg fun k e => e
    refine ⟨⟨fun k hk => ?_, fun k hk q hq b hb => ?_, fun k hk b hb => ?_, fun k hk l hl hkl b hb e => ?_, hlen⟩, hmv.mono fun k e => hzone i hi k e⟩
    · by_cases hki : k = i
      · subst hki; rw [hself, hselfm]; exact hrowi
      · rw [(hoth k hki).1, (hoth k hki).2]
        exact (h.rows k hk).moved hmv fun b hb e => h.apart k hk i hi hki b hb e
    · obtain ⟨h1, h2⟩ := h.old k hk q hq b hb
      refine ⟨Nat.lt_of_lt_of_le h1 hg.size, ?_⟩
      by_cases hbi : (G i).ownBlock = some b
      · -- the row itself
        have hki : k = i := by
          by_cases hki : k = i
          · exact hki
          · exfalso
            have h3 := hVb k hk b hb
            have h4 := hV k hk b hb
            have h5 := ((h.rows i hi).blk hbi).1
            have h6 := hup.le (a := k + 1) 4 (by omega) (by omega)
            rcases h.at_ i hi b hbi with h7 | h7
            · rcases Nat.lt_or_ge k i with h8 | h8
              · have := hup.le (a := k + 1) i (by omega) (by omega); omega
              · have := hup.le (a := i + 1) k (by omega) (by omega); omega
            · omega
        subst hki
        have hql : q < m k + 1 := by have := h.len k hk; omega
        rcases hown.2 with ⟨e, e2⟩ | ⟨g, cap, cur, e, r⟩
        · omega
        · rw [e] at hown he
          have e4 : some g = some b := he.trans hbi
          injection e4 with e4
          subst e4
          exact own_cell hown (hnew q hql)
      · have hh := hmv.block b h1 hbi
        rw [← h2]
        unfold World.cell?
        simp only [hh]
    · by_cases hki : k = i
      · subst hki; rw [hself] at hb; exact h.at_ k hk b (he ▸ hb)
      · rw [(hoth k hki).1] at hb; exact h.at_ k hk b hb
    · by_cases hki : k = i
      · subst hki
        rw [hself] at hb
        rw [(hoth l (Ne.symm hkl)).1] at e
        exact h.apart k hk l hl hkl b (he ▸ hb) e
      · rw [(hoth k hki).1] at hb
        by_cases hli : l = i
        · subst hli
          rw [hself] at e
          exact h.apart k hk l hl hkl b hb (he ▸ e)
        · rw [(hoth l hli).1] at e
          exact h.apart k hk l hl hkl b hb e
  · have hpast := h.past hup hV hVb hg
    refine ⟨⟨fun k hk => ?_, hpast.old, fun k hk b hb => ?_, fun k hk l hl hkl b hb e => ?_, hlen⟩, Moved.of_below hg⟩
    · by_cases hki : k = i
      · subst hki; rw [hself, hselfm]; exact hrowi
      · rw [(hoth k hki).1, (hoth k hki).2]
        exact hpast.rows k hk
    · by_cases hki : k = i
      · subst hki; rw [hself] at hb; exact .inr (Nat.le_trans hS (hf b hb))
      · rw [(hoth k hki).1] at hb; exact h.at_ k hk b hb
    · by_cases hki : k = i
      · subst hki
        rw [hself] at hb
        rw [(hoth l (Ne.symm hkl)).1] at e
        have h1 := hf b hb
        have h2 := ((h.rows l hl).blk e).2
        omega
      · rw [(hoth k hki).1] at hb
        by_cases hli : l = i
        · subst hli
          rw [hself] at e
          have h1 := hf b e
          have h2 := ((h.rows k hk).blk hb).2
          omega
        · rw [(hoth l hli).1] at e
          exact h.apart k hk l hl hkl b hb e
end Go.Proofs.YtbfbajfdlkgloaaGreatDoor
