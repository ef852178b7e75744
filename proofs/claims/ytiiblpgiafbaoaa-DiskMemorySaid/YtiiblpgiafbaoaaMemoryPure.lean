/-
  massiflaw17.DiskMemory, in plain Lean: the disk that the law makes. No program in sight.
-/
import Derived.Test.YtiiblpgiafbaoaaFatesPure
import Derived.Test.YtiiblpgiafbaoaaDiskOpen
namespace Go.Proofs.Ytiiblpgiafbaoaa
open Go Go.RowKit Go.Maps
namespace Dk
def mNm (i : Nat) : ByteArray := ⟨#[UInt8.ofNat (97 + i)]⟩
def mTx (d : ByteArray) : ByteArray := short d 200 ++ ⟨#[46]⟩
def memE (l : List (ByteArray × ByteArray)) (i : Nat) : ByteArray × ByteArray := (mNm i, mTx (l.getD i (⟨#[]⟩, ⟨#[]⟩)).2)
/-- The first n of the law's list. -/
def memL (l : List (ByteArray × ByteArray)) (n : Nat) : List (ByteArray × ByteArray) := (List.range n).map (memE l)
theorem memL_succ (l : List (ByteArray × ByteArray)) (n : Nat) : memL l (n + 1) = memL l n ++ [memE l n] := by
  unfold memL; rw [List.range_succ, List.map_append]; rfl
theorem memL_len (l : List (ByteArray × ByteArray)) (n : Nat) : (memL l n).length = n := by unfold memL; simp
theorem mTx_size (d : ByteArray) : 1 ≤ (mTx d).size ∧ (mTx d).size ≤ 201 := by
  unfold mTx
  rw [ByteArray.size_append]
  have := short_size d 200
  have h1 : (⟨#[46]⟩ : ByteArray).size = 1 := rfl
  omega
theorem mNm_before {i j : Nat} (h : i < j) (hj : j < 12) : bytesBefore (key (mNm i)) (key (mNm j)) = true := by
  show bytesBefore [UInt8.ofNat (97 + i)] [UInt8.ofNat (97 + j)] = true
  have h2 : ∀ j < 12, ∀ i < j, bytesBefore [UInt8.ofNat (97 + i)] [UInt8.ofNat (97 + j)] = true := by decide +kernel
  exact h2 j hj i h
theorem memL_up (l : List (ByteArray × ByteArray)) {n : Nat} (hn : n ≤ 12) : (memL l n).Pairwise (fun p q => bytesBefore (key p.1) (key q.1) = true) := by
  unfold memL
  rw [List.pairwise_map]
  refine List.Pairwise.imp_of_mem ?_ (List.pairwise_lt_range (n := n))
  intro a b ha hb h
  exact mNm_before h (by have := List.mem_range.1 hb; omega)
def memFs (l : List (ByteArray × ByteArray)) (n : Nat) : Fs := (memL l n).map fun p => (p.1, ⟨p.2, p.2⟩)
theorem memFs_succ (l : List (ByteArray × ByteArray)) (n : Nat) : memFs l (n + 1) = memFs l n ++ [(mNm n, ⟨mTx (l.getD n (⟨#[]⟩, ⟨#[]⟩)).2, mTx (l.getD n (⟨#[]⟩, ⟨#[]⟩)).2⟩)] := by
  unfold memFs; rw [memL_succ, List.map_append]; rfl
theorem mem_has (l : List (ByteArray × ByteArray)) {n : Nat} (hn : n < 12) : has (memFs l n) (mNm n) = false := by
  unfold has
  rw [List.any_eq_false]
  intro p hp
  obtain ⟨q, hq, rfl⟩ := List.mem_map.1 hp
  unfold memL at hq
  obtain ⟨i, hi, rfl⟩ := List.mem_map.1 hq
  have hb := mNm_before (List.mem_range.1 hi) hn
  intro e
  have e : mNm i = mNm n := of_decide_eq_true e
  rw [e, before_irrefl] at hb
  cases hb
theorem mem_openS (l : List (ByteArray × ByteArray)) : ∀ n : Nat, n ≤ 12 → ∃ sum : Int, 0 ≤ sum ∧ sum ≤ 201 * n ∧ openS (memL l n) = some (memFs l n, sum)
  | 0, _ => ⟨0, by omega, by omega, rfl⟩
  | n + 1, h => by
    obtain ⟨sum, h1, h2, h3⟩ := mem_openS l n (by omega)
    have hz := mTx_size (l.getD n (⟨#[]⟩, ⟨#[]⟩)).2
    refine ⟨sum + (mTx (l.getD n (⟨#[]⟩, ⟨#[]⟩)).2).size, by omega, by omega, ?_⟩
    rw [memL_succ, openS_snoc, h3]
    unfold openStep memE
    simp only [Option.bind_some]
    rw [mem_has l (by omega), if_neg (by simp only [Bool.false_eq_true, false_or]; omega), IntWalk.wrap64_in _ (by omega), memFs_succ, put_last]
    intro p hp
    unfold memFs at hp
    obtain ⟨q, hq, rfl⟩ := List.mem_map.1 hp
    unfold memL at hq
    obtain ⟨i, hi, rfl⟩ := List.mem_map.1 hq
    exact mNm_before (List.mem_range.1 hi) (by omega)
def memSt (l : List (ByteArray × ByteArray)) (n : Nat) : St := { newSt 1048576 with files := memFs l n }
theorem mem_open (l : List (ByteArray × ByteArray)) {n : Nat} (hn : n ≤ 12) : openC 1048576 (memL l n) = (0, some (memSt l n)) := by
  obtain ⟨sum, h1, h2, h3⟩ := mem_openS l n hn
  unfold openC
  rw [h3]
  dsimp only
  rw [if_neg (by omega)]
  rfl
/-- Behind the write. -/
def memW (l : List (ByteArray × ByteArray)) (n : Nat) : St := (writeC (memSt l n) (mNm 0) 0 ⟨#[63]⟩).2
theorem mem_get (l : List (ByteArray × ByteArray)) (n : Nat) : get (memFs l (n + 1)) (mNm 0) = ⟨mTx (l.getD 0 (⟨#[]⟩, ⟨#[]⟩)).2, mTx (l.getD 0 (⟨#[]⟩, ⟨#[]⟩)).2⟩ := by
  unfold memFs memL
  rw [List.range_succ_eq_map]
  rfl
theorem mem_write (l : List (ByteArray × ByteArray)) (n : Nat) : writeC (memSt l n) (mNm 0) 0 ⟨#[63]⟩ = (0, memW l n) ∧ memW l n = did (memSt l n) (mNm 0) ⟨over (get (memFs l n) (mNm 0)).now 0 ⟨#[63]⟩, (get (memFs l n) (mNm 0)).was⟩ := by
  have hx : (⟨#[63]⟩ : ByteArray).size = 1 := rfl
  have hf : (memSt l n).files = memFs l n := rfl
  have hd : ¬ (memSt l n).down = true := by simp [memSt, newSt]
  have hr : (memSt l n).room = 1048576 := by show max (1048576 : Int) 0 = _; decide
  have hfull : full (memSt l n) (mNm 0) 0 ⟨#[63]⟩ = false := by
    unfold full
    rw [hf, hx, hr]
    cases n with
    | zero =>
      show (decide _ && decide ((1048576 : Int) < wrap64 (((0 : Nat) : Int) - ((0 : Nat) : Int) + 0 + ((1 : Nat) : Int)))) = false
      rw [IntWalk.wrap64_in _ (by omega)]
      rfl
    | succ n =>
      rw [mem_get]
      have := (mTx_size (l.getD 0 (⟨#[]⟩, ⟨#[]⟩)).2).1
      rw [decide_eq_false (by dsimp only; omega)]
      rfl
  have e : writeC (memSt l n) (mNm 0) 0 ⟨#[63]⟩ = (0, did (memSt l n) (mNm 0) ⟨over (get (memFs l n) (mNm 0)).now 0 ⟨#[63]⟩, (get (memFs l n) (mNm 0)).was⟩) := by
    unfold writeC
    rw [hfull, if_neg hd, hx, hf, if_neg (by omega), if_neg (by decide)]
    rfl
  refine ⟨?_, ?_⟩
  · unfold memW; rw [e]
  · unfold memW; rw [e]
theorem mem_files (l : List (ByteArray × ByteArray)) {n : Nat} (hn : n ≤ 12) : (memW l n).files.length = max n 1 ∧ ∀ p ∈ (memW l n).files, p.2.now ≠ ⟨#[]⟩ := by
  rw [(mem_write l n).2]
  show (put (memFs l n) (mNm 0) _).length = _ ∧ ∀ p ∈ put (memFs l n) (mNm 0) _, _
  have hne : ∀ x : ByteArray, over x 0 ⟨#[63]⟩ ≠ ⟨#[]⟩ := by
    intro x e
    have : (over x 0 ⟨#[63]⟩).size = 0 := by rw [e]; rfl
    unfold over at this
    rw [ByteArray.size_append, ByteArray.size_append] at this
    have hx : (⟨#[63]⟩ : ByteArray).size = 1 := rfl
    omega
  refine ⟨?_, ?_⟩
  · cases n with
    | zero => rfl
    | succ n =>
      have e : memFs l (n + 1) = (mNm 0, ⟨mTx (l.getD 0 (⟨#[]⟩, ⟨#[]⟩)).2, mTx (l.getD 0 (⟨#[]⟩, ⟨#[]⟩)).2⟩) :: ((List.range n).map Nat.succ).map fun i => (mNm i, ⟨mTx (l.getD i (⟨#[]⟩, ⟨#[]⟩)).2, mTx (l.getD i (⟨#[]⟩, ⟨#[]⟩)).2⟩) := by
        unfold memFs memL
        rw [List.range_succ_eq_map, List.map_cons, List.map_cons, List.map_map]
        rfl
      have hrest : (((List.range n).map Nat.succ).map fun i => ((mNm i, ⟨mTx (l.getD i (⟨#[]⟩, ⟨#[]⟩)).2, mTx (l.getD i (⟨#[]⟩, ⟨#[]⟩)).2⟩) : ByteArray × F)).filter (fun p => !decide (p.1 = mNm 0)) = ((List.range n).map Nat.succ).map fun i => (mNm i, ⟨mTx (l.getD i (⟨#[]⟩, ⟨#[]⟩)).2, mTx (l.getD i (⟨#[]⟩, ⟨#[]⟩)).2⟩) := by
        rw [List.filter_eq_self]
        intro p hp
        obtain ⟨i, hi, rfl⟩ := List.mem_map.1 hp
        obtain ⟨j, hj, rfl⟩ := List.mem_map.1 hi
        have hb := mNm_before (Nat.zero_lt_succ j) (by have := List.mem_range.1 hj; omega)
        have hq : ¬ mNm (Nat.succ j) = mNm 0 := by
          intro e
          rw [e, before_irrefl] at hb
          cases hb
        show (!decide (mNm (Nat.succ j) = mNm 0)) = true
        rw [decide_eq_false hq]; rfl
      unfold put
      rw [len_ins, e, List.filter_cons_of_neg (by simp), hrest]
      simp
  · intro p hp
    rcases mem_put hp with rfl | hp
    · exact hne _
    · unfold memFs at hp
      obtain ⟨q, hq, rfl⟩ := List.mem_map.1 hp
      unfold memL at hq
      obtain ⟨i, _, rfl⟩ := List.mem_map.1 hq
      intro e
      have e : mTx (l.getD i (⟨#[]⟩, ⟨#[]⟩)).2 = ⟨#[]⟩ := e
      have h1 := (mTx_size (l.getD i (⟨#[]⟩, ⟨#[]⟩)).2).1
      rw [e] at h1
      exact absurd h1 (by decide)
theorem pick_all {l : Fs} (h : ∀ p ∈ l, p.2.now ≠ ⟨#[]⟩) : (pick l (l.map fun p => p.2.now)).length = l.length := by
  unfold pick
  have e : (l.map Prod.fst).zip (l.map fun p => p.2.now) = l.map fun p => (p.1, p.2.now) := List.zip_map'
  rw [e, List.filter_eq_self.2, List.length_map]
  intro q hq
  obtain ⟨p, hp, rfl⟩ := List.mem_map.1 hq
  simp [h p hp]
/-- Behind Lay. -/
def memY (l : List (ByteArray × ByteArray)) (n : Nat) (keep : List Bool) : St := { memW l n with fat := 1, kind := 4, keep := keep, left := 1 }
theorem memW_flat (l : List (ByteArray × ByteArray)) (n : Nat) : (memW l n).down = false ∧ (memW l n).left = 0 ∧ (memW l n).acts = 1 := by rw [(mem_write l n).2]; exact ⟨rfl, rfl, rfl⟩
theorem mem_lay (l : List (ByteArray × ByteArray)) (n : Nat) (keep : List Bool) : layC (memW l n) 1 4 keep = memY l n keep := by
  unfold layC
  rw [if_neg (by rw [(memW_flat l n).1]; decide), if_pos (by decide)]
  rfl
theorem mem_len (l : List (ByteArray × ByteArray)) {n : Nat} (hn : n ≤ 12) (keep : List Bool) : (files (memY l n keep)).length = max n 1 := by
  unfold files
  have h := mem_files l hn
  show (pick (memW l n).files _).length = _
  exact (pick_all h.2).trans h.1
theorem mem_sync (l : List (ByteArray × ByteArray)) (n : Nat) (keep : List Bool) : syncA (memY l n keep) (mNm 0) = (170, fallen (struck (memY l n keep))) := by
  unfold syncA
  rw [if_neg (by show ¬ (memW l n).down = true; rw [(memW_flat l n).1]; decide)]
  unfold actC doneF
  have hk : kindNow (memY l n keep) = 4 := rfl
  rw [hk]
  rfl
theorem mem_end (l : List (ByteArray × ByteArray)) (n : Nat) (keep : List Bool) (h : Up (memW l n).files) : files (fallen (struck (memY l n keep))) = after (memY l n keep) keep := by
  rw [files_fallen (s := struck (memY l n keep)) h (memW_flat l n).1]
  exact after_same rfl (memW_flat l n).1 (memW_flat l n).1 _
end Dk
end Go.Proofs.Ytiiblpgiafbaoaa
