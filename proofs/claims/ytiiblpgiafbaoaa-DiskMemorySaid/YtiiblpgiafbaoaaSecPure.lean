/-
  What stays of a file, byte by byte; one file, edits. No program in sight.
-/
import Derived.Test.YtiiblpgiafbaoaaLawSmall
import Derived.Test.YtiiblpgiafbaoaaByt
namespace Go.Proofs.Ytiiblpgiafbaoaa
open Go Go.RowKit Go.Maps
namespace Dk
theorem byt_zeros (n i : Nat) : byt (zeros n) i = 0 := by
  unfold zeros
  rw [byt_of_list, List.getD_eq_getElem?_getD, List.getElem?_replicate]
  split <;> rfl
theorem byt_sector (x : ByteArray) (k e i : Nat) (h : i < min ((k + 1) * 64) e - k * 64) : byt (sector x k e) i = byt x (k * 64 + i) := by
  unfold sector
  rw [byt_append]
  split
  · rename_i hp
    unfold part at hp ⊢
    rw [ByteArray.size_extract] at hp
    rw [byt_extract, if_pos (by omega)]
  · rename_i hp
    rw [byt_zeros]
    unfold part at hp
    rw [ByteArray.size_extract] at hp
    rw [byt_ge (by omega)]
/-- Is sector s of what stays the file's own (true), or the synced one? -/
def sel (keep : List Bool) (f : F) (e c s : Nat) : Bool := (nextQ keep (sector f.now s e) (sector f.was s e) (secs keep f e c s).2).1
theorem secs_byt (keep : List Bool) (f : F) (e c : Nat) : ∀ K, (K = 0 ∨ (K - 1) * 64 < e) → ∀ i, i < K * 64 → i < e → byt (secs keep f e c K).1 i = if sel keep f e c (i / 64) = true then byt f.now i else byt f.was i
  | 0, _, i, h, _ => by omega
  | K + 1, h, i, hi, he => by
    have hk : K * 64 < e := by rcases h with h | h; cases h; simpa using h
    rw [secs_succ]
    show byt ((secs keep f e c K).1 ++ _) i = _
    have hsz := secs_size keep f e c K (by omega)
    rw [byt_append, hsz]
    by_cases h1 : i < K * 64
    · rw [if_pos (by omega)]
      exact secs_byt keep f e c K (by omega) i h1 he
    · rw [if_neg (by omega)]
      have hq : i / 64 = K := by omega
      rw [hq]
      unfold sel
      have hm : min (K * 64) e = K * 64 := by omega
      rw [hm]
      split
      · rw [byt_sector _ _ _ _ (by omega)]
        congr 1; omega
      · rw [byt_sector _ _ _ _ (by omega)]
        congr 1; omega
def nsec (f : F) : Nat := (endLen f + 63) / 64
theorem nsec_ok (f : F) : nsec f = 0 ∨ (nsec f - 1) * 64 < endLen f := by unfold nsec; omega
theorem afterF_size_eq (keep : List Bool) (f : F) (c : Nat) : (afterF keep f c).1.size = stayLen keep f c := by
  have h1 := stayLen_le keep f c
  have h2 := secs_size keep f (endLen f) (firstQ keep f c).2 (nsec f) (nsec_ok f)
  show ((secs keep f (endLen f) (firstQ keep f c).2 (nsec f)).1.extract 0 (stayLen keep f c)).size = _
  rw [ByteArray.size_extract, h2]
  unfold nsec; omega
theorem afterF_byt (keep : List Bool) (f : F) (c i : Nat) (hi : i < stayLen keep f c) : byt (afterF keep f c).1 i = if sel keep f (endLen f) (firstQ keep f c).2 (i / 64) = true then byt f.now i else byt f.was i := by
  have h1 := stayLen_le keep f c
  show byt ((secs keep f (endLen f) (firstQ keep f c).2 (nsec f)).1.extract 0 (stayLen keep f c)) i = _
  rw [byt_extract, if_pos (by omega), Nat.zero_add]
  exact secs_byt keep f _ _ (nsec f) (nsec_ok f) i (by unfold nsec; omega) (by omega)
/-- Where a sector is not chosen and unlike, or chosen: what it reads. -/
theorem sel_true {keep : List Bool} {f : F} {e c s : Nat} (h : ∀ n, (choose keep n).1 = true) : sel keep f e c s = true ∨ sector f.now s e = sector f.was s e := by
  unfold sel nextQ
  split
  · rename_i h; exact .inr h
  · exact .inl (h _)
theorem sel_false {keep : List Bool} {f : F} {e c s : Nat} (h : ∀ n, (choose keep n).1 = false) : sel keep f e c s = false := by
  unfold sel nextQ
  split
  · rfl
  · exact h _
theorem sector_same {x y : ByteArray} {e s i : Nat} (h : sector x s e = sector y s e) (hi : i / 64 = s) (he : i < e) : byt x i = byt y i := by
  have h1 := byt_sector x s e (i - s * 64) (by omega)
  have h2 := byt_sector y s e (i - s * 64) (by omega)
  rw [h, h2] at h1
  rw [show s * 64 + (i - s * 64) = i by omega] at h1
  exact h1.symm
theorem after_true (f : F) (keep : List Bool) (h : ∀ n, (choose keep n).1 = true) : (afterF keep f 0).1 = f.now := by
  have hl : stayLen keep f 0 = f.now.size := by
    unfold stayLen firstQ
    split
    · rfl
    · rw [if_pos (h 0)]
  refine byt_ext (by rw [afterF_size_eq, hl]) fun i hi => ?_
  rw [afterF_size_eq] at hi
  rw [afterF_byt _ _ _ _ hi]
  split
  · rfl
  · rename_i hs
    rcases sel_true (keep := keep) (f := f) (e := endLen f) (c := (firstQ keep f 0).2) (s := i / 64) h with h1 | h1
    · exact absurd h1 hs
    · exact (sector_same h1 rfl (by have := stayLen_le keep f 0; omega)).symm
theorem after_false (f : F) (keep : List Bool) (h : ∀ n, (choose keep n).1 = false) : (afterF keep f 0).1 = f.was := by
  have hl : stayLen keep f 0 = f.was.size := by
    unfold stayLen firstQ
    split
    · rename_i h2
      rw [if_pos rfl]; exact h2.symm
    · rw [h 0, if_neg (by decide)]
  refine byt_ext (by rw [afterF_size_eq, hl]) fun i hi => ?_
  rw [afterF_size_eq] at hi
  rw [afterF_byt _ _ _ _ hi, sel_false h, if_neg (by decide)]
theorem after_synced (x : ByteArray) (keep : List Bool) : (afterF keep ⟨x, x⟩ 0).1 = x := by
  have hl : stayLen keep ⟨x, x⟩ 0 = x.size := by unfold stayLen; split <;> rfl
  refine byt_ext (by rw [afterF_size_eq, hl]) fun i hi => ?_
  rw [afterF_size_eq] at hi
  rw [afterF_byt _ _ _ _ hi]
  split <;> rfl
theorem stay_len (f : F) (keep : List Bool) : (afterF keep f 0).1.size = f.now.size ∨ (afterF keep f 0).1.size = f.was.size := by
  rw [afterF_size_eq]
  unfold stayLen
  split
  · exact .inl rfl
  · exact .inr rfl
/-- Sector by sector the one or the other. -/
theorem stay_sector (f : F) (keep : List Bool) (s : Nat) : (∀ i, s * 64 ≤ i → i < s * 64 + 64 → i < (afterF keep f 0).1.size → byt (afterF keep f 0).1 i = byt f.now i) ∨ (∀ i, s * 64 ≤ i → i < s * 64 + 64 → i < (afterF keep f 0).1.size → byt (afterF keep f 0).1 i = byt f.was i) := by
  cases hs : sel keep f (endLen f) (firstQ keep f 0).2 s with
  | true =>
    refine .inl fun i h1 h2 h3 => ?_
    rw [afterF_size_eq] at h3
    rw [afterF_byt _ _ _ _ h3, show i / 64 = s by omega, hs, if_pos rfl]
  | false =>
    refine .inr fun i h1 h2 h3 => ?_
    rw [afterF_size_eq] at h3
    rw [afterF_byt _ _ _ _ h3, show i / 64 = s by omega, hs, if_neg (by decide)]
theorem choose_t (n : Nat) : (choose [true] n).1 = true := by unfold choose; rw [if_neg (by simp)]; simp [Nat.mod_one]
theorem choose_ff (n : Nat) : (choose [false, false] n).1 = false := by
  unfold choose; rw [if_neg (by simp)]
  show List.getD [false, false] (n % 2) false = false
  have : n % 2 = 0 ∨ n % 2 = 1 := by omega
  rcases this with h | h <;> rw [h] <;> rfl
theorem choose_nil (n : Nat) : (choose [] n).1 = false := rfl
/-! one file -/
def fN : ByteArray := ⟨#[102]⟩
def oneSt (now was : ByteArray) (a : Nat) : St := ⟨1048576, [(fN, ⟨now, was⟩)], a, 0, 0, [], 0, false⟩
def tf (x : ByteArray) : List (ByteArray × ByteArray) := if x = ⟨#[]⟩ then [] else [(fN, x)]
theorem one_get (now was : ByteArray) (a : Nat) : get (oneSt now was a).files fN = ⟨now, was⟩ := rfl
theorem pick_one (x : ByteArray) (f : F) : pick [(fN, f)] [x] = tf x := by
  unfold pick tf
  by_cases h : x = ⟨#[]⟩
  · simp [h]
  · simp [h]
theorem one_files (now was : ByteArray) (a : Nat) : files (oneSt now was a) = tf now := pick_one now _
theorem one_after (now was : ByteArray) (a : Nat) (keep : List Bool) : after (oneSt now was a) keep = tf (afterF keep ⟨now, was⟩ 0).1 := by
  unfold after
  rw [if_neg (by simp [oneSt])]
  exact pick_one _ _
theorem one_cut (now was : ByteArray) (a k : Nat) (hk : k ≤ now.size) : cutC (oneSt now was a) fN k = (0, oneSt (now.extract 0 k) was (a + 1)) := by
  unfold cutC
  rw [one_get, if_neg (by simp [oneSt]), if_neg (by dsimp only; omega)]
  rfl
theorem one_write (now was x : ByteArray) (a k : Nat) (hk : k ≤ now.size) (hn : now.size ≤ 1000000) (hx : x.size ≤ 400) : writeC (oneSt now was a) fN k x = (0, oneSt (over now k x) was (a + 1)) := by
  have hf : full (oneSt now was a) fN k x = false := by
    unfold full
    rw [one_get]
    have hu : (used (oneSt now was a).files : Int) = now.size := by simp [used, oneSt]
    rw [hu]
    have hr : (oneSt now was a).room = 1048576 := rfl
    rw [hr, IntWalk.wrap64_in _ (by dsimp only; omega)]
    rw [Bool.and_eq_false_iff]
    right
    exact decide_eq_false (by dsimp only; omega)
  unfold writeC
  rw [hf, one_get, if_neg (by simp [oneSt]), if_neg (by dsimp only; omega), if_neg (by decide)]
  rfl
theorem one_sync (now was : ByteArray) (a : Nat) : syncC (oneSt now was a) fN = (0, oneSt now now (a + 1)) := by
  unfold syncC
  rw [one_get, if_neg (by simp [oneSt])]
  rfl
theorem one_size (now was : ByteArray) (a : Nat) : size (oneSt now was a) fN = now.size := by
  unfold size
  rw [one_get, if_neg (by simp [oneSt])]
end Dk
end Go.Proofs.Ytiiblpgiafbaoaa
