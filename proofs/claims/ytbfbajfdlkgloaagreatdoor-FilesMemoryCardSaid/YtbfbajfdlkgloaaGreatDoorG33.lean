/-
  The markers as plain data once more: rows of markers; strings.Trim of zero bytes; what a read list of markers keeps.
-/
import Derived.Test.YtbfbajfdlkgloaaGreatDoorG32
import Derived.Test.YtbfbajfdlkgloaaGreatDoorG30
import Derived.Test.YtbfbajfdlkgloaaGreatDoorG27
import Derived.Lib.SlTrimSet

namespace Go.Proofs.YtbfbajfdlkgloaaGreatDoor
open Go Go.RowKit Go.Maps
def flatM (l : List Rec.Mk) : List Value := l.flatMap fun m => m.cells.toList
theorem flatM_snoc (l : List Rec.Mk) (m : Rec.Mk) : flatM (l ++ [m]) = flatM l ++ m.cells.toList := by simp [flatM]
theorem flatM_len (l : List Rec.Mk) : (flatM l).length = 5 * l.length := by
  induction l with
  | nil => rfl
  | cons m l ih => show (m.cells.toList ++ flatM l).length = _; rw [List.length_append, ih, List.length_cons]; show 5 + _ = _; omega
theorem flatM_get : ∀ (l : List Rec.Mk) (i : Nat) (m : Rec.Mk), l[i]? = some m → ∀ j, j < 5 → (flatM l)[i * 5 + j]? = m.cells[j]?
  | [], i, m, h, _, _ => by simp at h
  | x :: l, 0, m, h, j, hj => by
    rw [List.getElem?_cons_zero] at h
    injection h with h
    subst h
    show (x.cells.toList ++ flatM l)[0 * 5 + j]? = _
    rw [List.getElem?_append_left (by show 0 * 5 + j < 5; omega), Nat.zero_mul, Nat.zero_add]
    simp
  | x :: l, i + 1, m, h, j, hj => by
    rw [List.getElem?_cons_succ] at h
    have := flatM_get l i m h j hj
    show (x.cells.toList ++ flatM l)[(i + 1) * 5 + j]? = _
    rw [List.getElem?_append_right (by show 5 ≤ _; omega), ← this]
    congr 1
    show (i + 1) * 5 + j - 5 = _
    omega
theorem info_mark : (Tryz.prog.info? 113).map (fun i => (i.zero, i.size, i.bytes)) = some (some (.agg #[.int .i64 0, .int .u64 0, .int .u64 0, .int .u64 0, .int .u32 0]), 5, 40) := by kernel_rfl
theorem wpList_append_mark {ops : Array Oper} {rest : List Oper} {o : Oper} {a : Act} {w : World} {Q : Exit → Act → World → Prop} (hgd : o.guard = none) (s x : Operand)
    (ho : o.op = .call { callee := .builtin .append, args := #[s, x], argTypes := #[99, 99] })
    (base : Nat) (v : Value) (n : Nat) (xs : List Value) (hs : a.eval s = v) (hown : w.ownsRow base 113 5 v n xs) (B : Nat) (m : Rec.Mk)
    (hx : a.eval x = .slice (some ⟨B, 0, none⟩) 1 1) (hB : w.heap[B]? = some (.cells m.cells 113 (0, 0))) (hn : n < 1099511627776) (hbase : base ≤ w.heap.size)
    (h : ∀ v' w', w'.ownsRow base 113 5 v' (n + 1) (xs ++ m.cells.toList) → w.grownBy w' v.ownBlock → wpList Tryz.prog ops Q rest (a.put o.dst v') w') : wpList Tryz.prog ops Q (o :: rest) a w := by
  refine wpList_plain hgd fun _ hK => ?_
  obtain ⟨i, hi, hz0, hz1, hz2⟩ := info_parts info_mark
  refine wp_append_own (w := w) s x 99 ho base 113 i _ 5 40 Tryz.underlying99 hi hz0 hz1 hz2 rfl (by decide) v n xs hs hown ⟨B, 0, none⟩ 1 1 m.cells.toList hx rfl ?_ ?_ (by unfold maxLen; omega) (by omega) hbase (fun v' w' h2 h3 _ => hK _ _ (h v' w' h2 h3))
  · intro j u hj
    rw [Addr.add_lit]
    show w.cell? ⟨B, 0 + j, none⟩ = _
    rw [Nat.zero_add, cell_blk hB]
    simpa using hj
  · intro u hu
    have : m.cells.toList = [.int .i64 m.k, .int .u64 m.size, .int .u64 m.items, .int .u64 m.nodes, .int .u32 m.chain] := rfl
    rw [this] at hu
    simp only [List.mem_cons, List.mem_nil_iff, or_false] at hu
    rcases hu with rfl | rfl | rfl | rfl | rfl <;> rfl
theorem dropW_nil (p : UInt8 → Bool) : ∀ l : List UInt8, l.dropWhile p = [] ↔ ∀ x ∈ l, p x = true
  | [] => by simp
  | x :: l => by
    rw [List.dropWhile_cons]
    split
    · rename_i h; rw [dropW_nil p l]; simp [h]
    · rename_i h; simp [h]
theorem trim_nil (l : List UInt8) : Lib.trimB l 0 = [] ↔ l.all (· == 0) = true := by
  unfold Lib.trimB Lib.trimLeftB Lib.trimRightB
  constructor
  · intro h
    rw [dropW_nil] at h
    have h2 : (l.reverse.dropWhile (· == 0)) = [] := by
      cases hc : l.reverse.dropWhile (· == 0) with
      | nil => rfl
      | cons x r =>
        have h3 := h x (by rw [hc]; simp)
        have h4 := List.head_dropWhile_not (p := (· == (0 : UInt8))) (l := l.reverse) (by rw [hc]; simp)
        simp only [hc, List.head_cons] at h4
        rw [h3] at h4; cases h4
    rw [dropW_nil] at h2
    rw [List.all_eq_true]
    exact fun x hx => h2 x (by simpa using hx)
  · intro h
    rw [List.all_eq_true] at h
    have h2 : (l.reverse.dropWhile (· == 0)) = [] := by
      rw [dropW_nil]
      exact fun x hx => h x (by simpa using hx)
    rw [h2]; rfl
theorem trim_val (s : ByteArray) (w : World) (hs : s.size ≤ 140737488351232) :
    Calls Tryz.prog 96 #[.string s, .string ⟨#[0]⟩] w fun e w' => ∃ x : ByteArray, e = .returned (.string x) ∧ (x.toList = [] ↔ Fl.isZero s = true) ∧ Below w.heap.size w w' := by
  refine (Tryz.strings_Trim_one s 0 (by decide) w (by omega)).mono ?_
  rintro e w' ⟨rfl, hw⟩
  refine ⟨_, rfl, ?_, ?_⟩
  · unfold Fl.isZero bytesOf
    rw [← trim_nil]
    constructor
    · intro h
      have h2 := (Go.Lib.bytes_beq_iff (⟨(Lib.trimB s.data.toList 0).toArray⟩ : ByteArray) ⟨#[]⟩).1 (by rw [h]; decide +kernel)
      injection h2 with h2
      have := congrArg Array.toList h2
      simpa using this
    · intro h
      rw [h]
      decide +kernel
  · rcases hw with rfl | rfl
    · exact Below.refl _ _
    · exact (Below.refl _ _).drew
namespace Fl
/-- What a list of read markers keeps: rising ends. -/
theorem markers_keep (k : Int) (M : ByteArray) : ∀ (f : Nat) (acc ms : List Rec.Mk), markersF k M f acc = some ms → (acc.map (·.items)).Pairwise (· < ·) → (ms.map (·.items)).Pairwise (· < ·) ∧ ms.length ≤ acc.length + f ∧ (∀ m ∈ ms, m ∈ acc ∨ m.ok)
  | 0, acc, ms, h, hp => by
    injection h with h
    subst h
    exact ⟨hp, Nat.le_refl _, fun m hm => .inl hm⟩
  | f + 1, acc, ms, h, hp => by
    unfold markersF at h
    split at h
    · injection h with h
      subst h
      exact ⟨hp, by omega, fun m hm => .inl hm⟩
    · split at h
      · cases h
      · rename_i m hm
        split at h
        · cases h
        · rename_i hc
          obtain ⟨h1, h2, h3⟩ := markers_keep k M f (acc ++ [m]) ms h (by
            rw [List.map_append, List.pairwise_append]
            refine ⟨hp, List.pairwise_singleton _ _, fun a ha b hb => ?_⟩
            rw [List.mem_singleton.1 hb]
            have hm2 : (acc.getLast?.map (·.items)).getD 0 < m.items := by omega
            refine Nat.lt_of_le_of_lt ?_ hm2
            rcases List.eq_nil_or_concat acc with rfl | ⟨N, y, rfl⟩
            · cases ha
            · rw [List.concat_eq_append] at hp ha ⊢
              rw [List.map_append, List.pairwise_append] at hp
              rw [List.getLast?_append]
              show a ≤ y.items
              rw [List.map_append] at ha
              rcases List.mem_append.1 ha with ha | ha
              · exact Nat.le_of_lt (hp.2.2 a ha y.items (by simp))
              · have : a = y.items := by simpa using ha
                omega)
          refine ⟨h1, by rw [List.length_append, List.length_singleton] at h2; omega, fun x hx => ?_⟩
          rcases h3 x hx with hx | hx
          · rcases List.mem_append.1 hx with hx | hx
            · exact .inl hx
            · rw [List.mem_singleton.1 hx]
              right
              unfold Rec.readMarkB at hm
              split at hm
              · split at hm
                · injection hm with hm
                  rw [← hm]; exact Rec.markOf_ok _
                · cases hm
              · cases hm
          · exact .inr hx
end Fl
end Go.Proofs.YtbfbajfdlkgloaaGreatDoor
