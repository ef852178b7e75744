/-
  The program's disk: told: the files of which a function makes a text with bytes, by the names, rising.
-/
import Derived.Test.YtiiblpgiafbaoaaDiskActs
import Derived.Test.YtiiblpgiafbaoaaDiskIter
namespace Go.Proofs.Ytiiblpgiafbaoaa
open Go Go.RowKit Go.Maps
namespace Dk
theorem le_of_before : ∀ a b : List UInt8, bytesBefore a b = true → a ≤ b
  | [], b, _ => List.nil_le b
  | x :: r, [], h => by cases h
  | x :: r, y :: s, h => by
    unfold bytesBefore at h
    rw [Bool.or_eq_true, Bool.and_eq_true, beq_iff_eq] at h
    rcases h with h | ⟨rfl, h⟩
    · exact List.le_of_lt (List.Lex.rel (by simpa using h))
    · exact List.cons_le_cons_iff.2 (.inr ⟨rfl, le_of_before r s h⟩)
theorem keys_sorted {l : Fs} (h : Up l) : (l.map fun p => key p.1).Pairwise (fun a b => leB a b = true) := by
  rw [List.pairwise_map]
  exact List.Pairwise.imp (fun {p q} hb => decide_eq_true (le_of_before _ _ hb)) h
theorem strKeys_dat (l : Fs) : strKeys (dat l) = l.map fun p => key p.1 := by
  show (l.map litF).map (fun p => strOf p.1) = _
  rw [List.map_map]
  rfl
theorem sorted_keys {l : Fs} (h : Up l) {ss : List (List UInt8)} (hp : ss.Perm (strKeys (dat l))) : ss.mergeSort (fun x y => decide (x ≤ y)) = l.map fun p => key p.1 := by
  have e : ss.mergeSort leB = (strKeys (dat l)).mergeSort leB := mergeSort_of_perm hp
  show ss.mergeSort leB = _
  rw [e, strKeys_dat]
  exact List.mergeSort_of_pairwise (keys_sorted h)
theorem enc_key (l : Fs) : (l.map fun p => key p.1).map encStr = l.map fun p => Value.string p.1 := by
  rw [List.map_map]
  apply List.map_congr_left
  intro p _
  show Value.string ⟨p.1.data.toList.toArray⟩ = _
  simp
end Dk
/-! ### lists of files, two cells each -/
def flatF (l : List (ByteArray × ByteArray)) : List Value := l.flatMap fun p => [.string p.1, .string p.2]
theorem flatF_len (l : List (ByteArray × ByteArray)) : (flatF l).length = l.length * 2 := by
  unfold flatF
  induction l with
  | nil => rfl
  | cons p l ih => rw [List.flatMap_cons, List.length_append, ih]; simp; omega
theorem flatF_snoc (l : List (ByteArray × ByteArray)) (p : ByteArray × ByteArray) : flatF (l ++ [p]) = flatF l ++ [.string p.1, .string p.2] := by
  unfold flatF; rw [List.flatMap_append]; rfl
theorem info_file : (Try.prog.info? 42).map (fun i => (i.zero, i.size, i.bytes)) = some (some (.agg #[.string ByteArray.empty, .string ByteArray.empty]), 2, 32) := by kernel_rfl
theorem own_moved {w w' : World} {S : Nat → Prop} {base e size : Nat} {v : Value} {n : Nat} {xs : List Value} (h : w.ownsRow base e size v n xs) (hm : Moved S w w') (hs : ∀ k, base ≤ k → k < w.heap.size → ¬ S k) : w'.ownsRow base e size v n xs := by
  obtain ⟨h1, h2⟩ := h
  refine ⟨h1, ?_⟩
  rcases h2 with h2 | ⟨g, cap, cur, hv, hg, hh, r⟩
  · exact .inl h2
  · exact .inr ⟨g, cap, cur, hv, hg, (hm.block g (heap_lt hh) (hs g hg (heap_lt hh))).trans hh, r⟩
theorem own_base {w : World} {base base' e size : Nat} {v : Value} {n : Nat} {xs : List Value} (h : w.ownsRow base e size v n xs) (hb : base' ≤ base) : w.ownsRow base' e size v n xs := by
  obtain ⟨h1, h2⟩ := h
  refine ⟨h1, ?_⟩
  rcases h2 with h2 | ⟨g, cap, cur, hv, hg, r⟩
  · exact .inl h2
  · exact .inr ⟨g, cap, cur, hv, Nat.le_trans hb hg, r⟩
theorem wpList_append_file {ops : Array Oper} {rest : List Oper} {o : Oper} {a : Act} {w : World} {Q : Exit → Act → World → Prop} (hgd : o.guard = none) (s x : Operand)
    (ho : o.op = .call { callee := .builtin .append, args := #[s, x], argTypes := #[40, 40] })
    (base : Nat) (v : Value) (n : Nat) (xs : List Value) (hs : a.eval s = v) (hown : w.ownsRow base 42 2 v n xs) (B : Nat) (p q : ByteArray)
    (hx : a.eval x = .slice (some ⟨B, 0, none⟩) 1 1) (hB : w.heap[B]? = some (.cells #[.string p, .string q] 42)) (hn : n < 1099511627776) (hbase : base ≤ w.heap.size)
    (h : ∀ v' w', w'.ownsRow base 42 2 v' (n + 1) (xs ++ [.string p, .string q]) → w.grownBy w' v.ownBlock → wpList Try.prog ops Q rest (a.put o.dst v') w') : wpList Try.prog ops Q (o :: rest) a w := by
  obtain ⟨i, hi, hz0, hz1, hz2⟩ := info_parts info_file
  refine wpList_append_own (w := w) hgd s x 40 ho base 42 i _ 2 32 Try.underlying40 hi hz0 hz1 hz2 rfl (by decide) v n xs hs hown ⟨B, 0, none⟩ 1 1 [.string p, .string q] hx rfl ?_ ?_ (by unfold maxLen; omega) (by omega) hbase (fun v' w' h2 h3 _ => h v' w' h2 h3)
  · intro j u hj
    rw [Addr.add_lit, cell_blk hB]
    rcases j with _|_|j
    · simpa using hj
    · simpa using hj
    · simp at hj
  · intro u hu
    simp only [List.mem_cons, List.mem_nil_iff, or_false] at hu
    rcases hu with rfl | rfl <;> rfl
end Go.Proofs.Ytiiblpgiafbaoaa
