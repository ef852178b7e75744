/-
  What look holds: markers that may be, the records of nodes one by one, in plain Lean; the row of ends beside its store.
-/
import Derived.Test.YtbfbajfdlkgloaaGreatDoorG34
import Derived.Test.YtbfbajfdlkgloaaGreatDoorG36
import Derived.Test.YtbfbajfdlkgloaaGreatDoorG37

namespace Go.Proofs.YtbfbajfdlkgloaaGreatDoor
open Go Go.RowKit Go.Maps
namespace Fl
theorem madeF_snoc (N : ByteArray) : ∀ (j p : Nat), madeF N p (j + 1) = madeF N p j ++ [N.extract (40 * (p + j)) (40 * (p + j) + 40)]
  | 0, p => rfl
  | j + 1, p => by
    show N.extract (40 * p) (40 * p + 40) :: madeF N (p + 1) (j + 1) = N.extract (40 * p) (40 * p + 40) :: madeF N (p + 1) j ++ _
    rw [madeF_snoc N j (p + 1), List.cons_append, show p + 1 + j = p + (j + 1) by omega]
theorem madeF_len (N : ByteArray) : ∀ (j p : Nat), (madeF N p j).length = j
  | 0, _ => rfl
  | j + 1, p => by show (madeF N (p + 1) j).length + 1 = _; rw [madeF_len N j]
theorem madeF_sizes (N : ByteArray) : ∀ (j p : Nat), Rec.sizes (madeF N p j) ≤ 40 * j
  | 0, _ => Nat.le_refl _
  | j + 1, p => by
    have h := madeF_sizes N j (p + 1)
    show (N.extract (40 * p) (40 * p + 40)).size + Rec.sizes (madeF N (p + 1) j) ≤ _
    rw [ByteArray.size_extract]; omega
theorem madeOk_zero (k : Nat) (N : ByteArray) (p : Nat) : madeOk k N p 0 = true := rfl
theorem madeOk_snoc (k : Nat) (N : ByteArray) (p j : Nat) : madeOk k N p (j + 1) = (madeOk k N p j && Rec.nodeOk k (p + j) (N.extract (40 * (p + j)) (40 * (p + j) + 40))) := by
  unfold madeOk
  rw [List.range_succ, List.all_append]
  simp
theorem madeOk_bad {k : Nat} {N : ByteArray} {p j f : Nat} (hj : j < f) (h : Rec.nodeOk k (p + j) (N.extract (40 * (p + j)) (40 * (p + j) + 40)) = false) : madeOk k N p f = false := by
  unfold madeOk
  rw [List.all_eq_false]
  exact ⟨j, List.mem_range.2 hj, by rw [h]; decide⟩
theorem nodes_le_of : ∀ {a b : Nat}, a ≤ b → nodes a ≤ nodes b
  | a, 0, h => by have : a = 0 := by omega
                  subst this; exact Nat.le_refl _
  | a, b + 1, h => by
    rcases Nat.lt_or_ge b a with h2 | h2
    · have : a = b + 1 := by omega
      subst this; exact Nat.le_refl _
    · exact Nat.le_trans (nodes_le_of h2) (nodes_mono b)
/-- What more a list of read markers keeps. -/
theorem markers_nodes (k : Int) (M : ByteArray) : ∀ (f : Nat) (acc ms : List Rec.Mk), markersF k M f acc = some ms →
    (ms.length ≤ 65536 ∨ ms.length ≤ acc.length) ∧ (∀ i m, ms[i]? = some m → acc[i]? = some m ∨ m.nodes = 40 * nodes (i + 1))
  | 0, acc, ms, h => by
    injection h with h
    subst h
    exact ⟨.inr (Nat.le_refl _), fun i m hm => .inl hm⟩
  | f + 1, acc, ms, h => by
    unfold markersF at h
    split at h
    · injection h with h
      subst h
      exact ⟨.inr (Nat.le_refl _), fun i m hm => .inl hm⟩
    · split at h
      · cases h
      · rename_i m hm
        split at h
        · cases h
        · rename_i hc
          obtain ⟨h1, h2⟩ := markers_nodes k M f (acc ++ [m]) ms h
          refine ⟨?_, fun i x hx => ?_⟩
          · rcases h1 with h1 | h1
            · exact .inl h1
            · rw [List.length_append, List.length_singleton] at h1
              exact .inl (by omega)
          · rcases h2 i x hx with h3 | h3
            · rcases Nat.lt_or_ge i acc.length with hi | hi
              · rw [List.getElem?_append_left hi] at h3
                exact .inl h3
              · rw [List.getElem?_append_right hi] at h3
                have h4 : i - acc.length = 0 := by
                  rcases Nat.eq_zero_or_pos (i - acc.length) with h | h
                  · exact h
                  · rw [List.getElem?_eq_none (by rw [List.length_singleton]; omega)] at h3; cases h3
                rw [h4] at h3
                injection h3 with h3
                have h5 : i = acc.length := by omega
                right
                rw [← h3, h5]
                omega
            · exact .inr h3
/-- Markers that may be, of files long enough. -/
structure MarksOk (A N : ByteArray) (ms : List Rec.Mk) : Prop where
  many : ms.length ≤ 65536
  ok : ∀ m ∈ ms, m.ok
  rise : (ms.map (·.items)).Pairwise (· < ·)
  items : ∀ m ∈ ms, m.items ≤ A.size
  nodesAt : ∀ (i : Nat) (m : Rec.Mk), ms[i]? = some m → m.nodes = 40 * Fl.nodes (i + 1)
  long : 40 * nodes ms.length ≤ N.size
theorem marksOk_of {k : Int} {M A N : ByteArray} {f : Nat} {ms : List Rec.Mk} (h : markersF k M f [] = some ms) (hs : tooShort A N ms = false) : MarksOk A N ms := by
  obtain ⟨h1, h2, h3⟩ := markers_keep k M f [] ms h List.Pairwise.nil
  obtain ⟨h4, h5⟩ := markers_nodes k M f [] ms h
  have hn : ∀ (i : Nat) (m : Rec.Mk), ms[i]? = some m → m.nodes = 40 * Fl.nodes (i + 1) := fun i m hm => (h5 i m hm).resolve_left (by simp)
  refine ⟨h4.elim id (fun h => Nat.le_trans h (Nat.zero_le _)), fun m hm => (h3 m hm).resolve_left (by simp), h1, ?_, hn, ?_⟩
  · intro m hm
    rcases List.eq_nil_or_concat ms with rfl | ⟨L, y, rfl⟩
    · cases hm
    · rw [List.concat_eq_append] at hm hs h1
      unfold tooShort at hs
      rw [List.getLast?_append] at hs
      have hs2 : decide (A.size < y.items ∨ N.size < y.nodes) = false := hs
      have hs3 := of_decide_eq_false hs2
      rw [List.map_append, List.pairwise_append] at h1
      rcases List.mem_append.1 hm with hm | hm
      · have := h1.2.2 m.items (List.mem_map_of_mem hm) y.items (by simp)
        omega
      · rw [List.mem_singleton.1 hm]; omega
  · rcases List.eq_nil_or_concat ms with rfl | ⟨L, y, rfl⟩
    · exact Nat.zero_le _
    · rw [List.concat_eq_append] at hs hn ⊢
      unfold tooShort at hs
      rw [List.getLast?_append] at hs
      have hs2 : decide (A.size < y.items ∨ N.size < y.nodes) = false := hs
      have hs3 := of_decide_eq_false hs2
      have h6 := hn L.length y (by simp)
      rw [List.length_append, List.length_singleton]
      omega
theorem MarksOk.endLe {A N : ByteArray} {ms : List Rec.Mk} (h : MarksOk A N ms) {i : Nat} {m : Rec.Mk} (hm : ms[i]? = some m) : ((ms.take i).map (·.items)).getLastD 0 ≤ m.items := by
  cases i with
  | zero => exact Nat.zero_le _
  | succ i =>
    have hlt := (List.getElem?_eq_some_iff.1 hm).1
    rw [List.take_add_one, List.getElem?_eq_getElem (show i < ms.length by omega), List.map_append, List.getLastD_eq_getLast?, List.getLast?_append]
    show ms[i].items ≤ m.items
    have h1 := List.pairwise_iff_getElem.1 h.rise i (i + 1) (by rw [List.length_map]; omega) (by rw [List.length_map]; exact hlt) (by omega)
    rw [List.getElem_map, List.getElem_map] at h1
    rw [List.getElem?_eq_getElem hlt] at hm
    injection hm with hm
    rw [← hm]
    exact Nat.le_of_lt h1
/-- One step of what is held against the files. -/
theorem look_step {k : Nat} {A N : ByteArray} {ms : List Rec.Mk} {i e c : Nat} {m : Rec.Mk} (hm : ms[i]? = some m) : lookF k A N (ms.drop i) i e c =
    if payOk (A.extract e m.items) = false ∨ madeOk k N (nodes i) (nodes (i + 1) - nodes i) = false ∨ Rec.chainB c (A.extract e m.items) (madeF N (nodes i) (nodes (i + 1) - nodes i)) ≠ m.chain then none
    else lookF k A N (ms.drop (i + 1)) (i + 1) m.items m.chain := by
  have hlt := (List.getElem?_eq_some_iff.1 hm).1
  rw [List.drop_eq_getElem_cons hlt]
  rw [List.getElem?_eq_getElem hlt] at hm
  injection hm with hm
  rw [hm]
  rfl
end Fl
theorem Fl.ok_more {s : Fl.St} {E : Nat} (h : Fl.Ok s) (hn : s.ends.length < 65536) (hE : E ≤ 268435456) (hfin : s.fin ≤ E) : Fl.Ok { s with ends := s.ends ++ [E] } := by
  refine ⟨h.strength, ?_, ?_, ?_, h.chain⟩
  · show (s.ends ++ [E]).length ≤ _; rw [List.length_append, List.length_singleton]; omega
  · intro n hn
    rcases List.mem_append.1 hn with hn | hn
    · exact h.ends n hn
    · rw [List.mem_singleton.1 hn]; exact hE
  · show (s.ends ++ [E]).Pairwise (· ≤ ·)
    rw [List.pairwise_append]
    refine ⟨h.rise, List.pairwise_singleton _ _, fun a ha b hb => ?_⟩
    rw [List.mem_singleton.1 hb]
    refine Nat.le_trans ?_ hfin
    obtain ⟨i, hi, rfl⟩ := List.mem_iff_getElem.1 ha
    rw [Fl.fin_eq, List.getD_eq_getElem?_getD, List.getElem?_eq_getElem (show s.ends.length - 1 < s.ends.length by omega)]
    show s.ends[i] ≤ s.ends[s.ends.length - 1]
    rcases Nat.lt_or_ge i (s.ends.length - 1) with hlt | hge
    · exact List.pairwise_iff_getElem.1 h.rise i (s.ends.length - 1) hi (by omega) hlt
    · have : i = s.ends.length - 1 := by omega
      subst this; exact Nat.le_refl _
theorem StoreAt.setChain {w : World} {T : Fl.Blk} {dg : Nat} {s : Fl.St} (h : StoreAt w T dg s) {c : Nat} (hc : c < 4294967296) : StoreAt (w.setCell ⟨T.g, 3, none⟩ (.int .u32 (c : Int))) T dg { s with chain := c } := by
  refine ⟨⟨h.ok.strength, h.ok.many, h.ok.ends, h.ok.rise, hc⟩, ?_, ?_, h.apart⟩
  · rw [heap_setCell_same _ _ _ _ _ _ h.cells]; rfl
  · exact ownsRow_setCell_other h.row h.apart _
theorem Say12.store {T : Fl.Blk} {dg : Nat} {s : Fl.St} {E : Nat} {WQ u : World} (h : Say12 T dg s E WQ u) (ok : Fl.Ok { s with ends := s.ends ++ [E] }) (ha : T.ev.ownBlock ≠ some T.g) (hlt : T.g < WQ.heap.size) :
    ∃ v, StoreAt u ⟨T.g, v⟩ dg { s with ends := s.ends ++ [E] } ∧ (v.ownBlock = T.ev.ownBlock ∨ ∀ b, v.ownBlock = some b → WQ.heap.size ≤ b) := by
  obtain ⟨v, h1, h2⟩ := h
  refine ⟨v, ⟨ok, h2, ?_, h1.ne ha hlt⟩, h1.2⟩
  show u.ownsRow 0 _ 1 v (s.ends ++ [E]).length _
  rw [List.length_append, List.length_singleton]
  exact h1.1
theorem diskSize_val (D : Dk.Blk) (s : Dk.St) (n : ByteArray) (x : Int) (w : World) (h : DiskAt w D s) (hn : n.size ≤ 140737488351232) (hx : Dk.size s n = x) :
    Calls Tryz.prog 24 #[.pointer (some ⟨D.g, 0, none⟩), .string n] w fun e w' => e = .returned (.int .i64 x) ∧ w' = w := by
  rw [← hx]; exact diskSize_any D s n w h hn
/-- A row's element of five cells. -/
theorem mark_cells {w : World} {am : Option Addr} {n zm i : Nat} {ms : List Rec.Mk} {m : Rec.Mk} (h : w.ownsRow 0 113 5 (.slice am n zm) n (flatM ms)) (hm : ms[i]? = some m) (hi : i < n) :
    ∃ b, am = some ⟨b, 0, none⟩ ∧ b < w.heap.size ∧ n ≤ zm ∧ w.cell? ⟨b, i * 5, none⟩ = some (.int .i64 m.k) ∧ w.cell? ⟨b, i * 5 + 1, none⟩ = some (.int .u64 (m.size : Int)) ∧ w.cell? ⟨b, i * 5 + 2, none⟩ = some (.int .u64 (m.items : Int)) ∧ w.cell? ⟨b, i * 5 + 3, none⟩ = some (.int .u64 (m.nodes : Int)) ∧ w.cell? ⟨b, i * 5 + 4, none⟩ = some (.int .u32 (m.chain : Int)) := by
  obtain ⟨h1, ⟨h2, h3⟩ | ⟨g, cap, cur, h2, h3, h4, h5, h6, h7, h8⟩⟩ := h
  · exact absurd h3 (by omega)
  · injection h2 with e1 e2 e3
    have go : ∀ j, j < 5 → w.cell? ⟨g, i * 5 + j, none⟩ = m.cells[j]? := by
      intro j hj
      rw [← flatM_get ms i m hm j hj, ← h8, List.getElem?_take_of_lt (by omega), cell_blk h4]
      simp
    exact ⟨g, e1, heap_lt h4, by omega, go 0 (by decide), go 1 (by decide), go 2 (by decide), go 3 (by decide), go 4 (by decide)⟩
theorem sizeItems_val (D : Dk.Blk) (s : Dk.St) (x : Int) (w : World) (h : DiskAt w D s) (hx : Dk.size s Fl.nItems = x) :
    Calls Tryz.prog 24 #[.pointer (some ⟨D.g, 0, none⟩), .string ⟨#[105, 116, 101, 109, 115]⟩] w fun e w' => e = .returned (.int .i64 x) ∧ w' = w :=
  diskSize_val D s ⟨#[105, 116, 101, 109, 115]⟩ x w h (by decide) hx
theorem sizeNodes_val (D : Dk.Blk) (s : Dk.St) (x : Int) (w : World) (h : DiskAt w D s) (hx : Dk.size s Fl.nNodes = x) :
    Calls Tryz.prog 24 #[.pointer (some ⟨D.g, 0, none⟩), .string ⟨#[110, 111, 100, 101, 115]⟩] w fun e w' => e = .returned (.int .i64 x) ∧ w' = w :=
  diskSize_val D s ⟨#[110, 111, 100, 101, 115]⟩ x w h (by decide) hx
theorem sizeMarks_val (D : Dk.Blk) (s : Dk.St) (x : Int) (w : World) (h : DiskAt w D s) (hx : Dk.size s Fl.nMarks = x) :
    Calls Tryz.prog 24 #[.pointer (some ⟨D.g, 0, none⟩), .string ⟨#[109, 97, 114, 107, 115]⟩] w fun e w' => e = .returned (.int .i64 x) ∧ w' = w :=
  diskSize_val D s ⟨#[109, 97, 114, 107, 115]⟩ x w h (by decide) hx
end Go.Proofs.YtbfbajfdlkgloaaGreatDoor
