/-
  massiflaw17.DiskPlain, in plain Lean: a disk with the files "a", "b", "" is three texts. No program in sight.
-/
import Derived.Test.YtiiblpgiafbaoaaLawAlive
namespace Go.Proofs.Ytiiblpgiafbaoaa
open Go Go.RowKit Go.Maps
namespace Dk
def nm (w : Nat) : ByteArray := if w = 0 then ⟨#[97]⟩ else if w = 1 then ⟨#[98]⟩ else ⟨#[]⟩
structure Tri where
  a : Option F
  b : Option F
  c : Option F
def one (n : ByteArray) : Option F → Fs
  | none => []
  | some f => [(n, f)]
def tri (e : Tri) : Fs := one ⟨#[]⟩ e.c ++ (one ⟨#[97]⟩ e.a ++ one ⟨#[98]⟩ e.b)
def Tri.at (e : Tri) (w : Nat) : F := (if w = 0 then e.a else if w = 1 then e.b else e.c).getD F.none
def Tri.set (e : Tri) (w : Nat) (f : F) : Tri := if w = 0 then ⟨some f, e.b, e.c⟩ else if w = 1 then ⟨e.a, some f, e.c⟩ else ⟨e.a, e.b, some f⟩
def Tri.txt (e : Tri) (w : Nat) : ByteArray := (e.at w).now
def Tri.sum (e : Tri) : Nat := (e.txt 0).size + (e.txt 1).size + (e.txt 2).size
def plainSt (room : Int) (e : Tri) (a : Nat) : St := ⟨room, tri e, a, 0, 0, [], 0, false⟩
theorem tri_get (e : Tri) (w : Nat) (hw : w < 3) : get (tri e) (nm w) = e.at w := by
  obtain ⟨a, b, c⟩ := e
  obtain rfl | rfl | rfl : w = 0 ∨ w = 1 ∨ w = 2 := by omega
  all_goals (rcases a with _ | a <;> rcases b with _ | b <;> rcases c with _ | c <;> rfl)
theorem tri_put (e : Tri) (w : Nat) (hw : w < 3) (f : F) : put (tri e) (nm w) f = tri (e.set w f) := by
  obtain ⟨a, b, c⟩ := e
  obtain rfl | rfl | rfl : w = 0 ∨ w = 1 ∨ w = 2 := by omega
  all_goals (rcases a with _ | a <;> rcases b with _ | b <;> rcases c with _ | c <;> rfl)
theorem tri_used (e : Tri) : used (tri e) = e.sum := by
  have h0 : (⟨#[]⟩ : ByteArray).size = 0 := rfl
  obtain ⟨a, b, c⟩ := e
  rcases a with _ | a <;> rcases b with _ | b <;> rcases c with _ | c <;> simp [used, tri, one, Tri.sum, Tri.txt, Tri.at, F.none, h0, Nat.add_comm, Nat.add_left_comm]
theorem tri_len (e : Tri) : (tri e).length ≤ 3 := by
  obtain ⟨a, b, c⟩ := e
  rcases a with _ | a <;> rcases b with _ | b <;> rcases c with _ | c <;> simp [tri, one]
theorem nm_size (w : Nat) : (nm w).size ≤ 140737488351232 := by
  unfold nm
  split
  · decide
  · split <;> decide
theorem Tri.set_at (e : Tri) (w : Nat) (hw : w < 3) (f : F) (k : Nat) (hk : k < 3) : (e.set w f).at k = if k = w then f else e.at k := by
  obtain ⟨a, b, c⟩ := e
  obtain rfl | rfl | rfl : w = 0 ∨ w = 1 ∨ w = 2 := by omega
  all_goals (obtain rfl | rfl | rfl : k = 0 ∨ k = 1 ∨ k = 2 := by omega)
  all_goals rfl
theorem Tri.set_sum (e : Tri) (w : Nat) (hw : w < 3) (f : F) : (e.set w f).sum + (e.txt w).size = e.sum + f.now.size := by
  obtain rfl | rfl | rfl : w = 0 ∨ w = 1 ∨ w = 2 := by omega
  all_goals
    simp only [Tri.sum, Tri.txt]
    rw [Tri.set_at e _ (by decide) f 0 (by decide), Tri.set_at e _ (by decide) f 1 (by decide), Tri.set_at e _ (by decide) f 2 (by decide)]
    simp
    omega
theorem Tri.le_sum (e : Tri) (w : Nat) (hw : w < 3) : (e.txt w).size ≤ e.sum := by
  obtain rfl | rfl | rfl : w = 0 ∨ w = 1 ∨ w = 2 := by omega
  all_goals (unfold Tri.sum; omega)
/-- What a call does to the three texts and to the number of acts. -/
def plainC (room : Int) (e : Tri) (a w : Nat) (off : Nat) (k : Int) (data : ByteArray) : Tri × Nat :=
  if k = 1 then
    if (e.txt w).size < (over (e.txt w) off data).size ∧ room < (e.sum : Int) - (e.txt w).size + (over (e.txt w) off data).size then (e, a)
    else (e.set w ⟨over (e.txt w) off data, (e.at w).was⟩, a + 1)
  else if k = 2 then (e.set w ⟨(e.txt w).extract 0 off, (e.at w).was⟩, a + 1)
  else (e.set w ⟨e.txt w, e.txt w⟩, a + 1)
theorem over_size_eq {x d : ByteArray} {off : Nat} (ho : off ≤ x.size) : (over x off d).size = max x.size (off + d.size) := by
  unfold over
  rw [ByteArray.size_append, ByteArray.size_append, ByteArray.size_extract, ByteArray.size_extract]
  omega
theorem plain_sum {room : Int} {e : Tri} {a w off : Nat} {k : Int} {data : ByteArray} (hw : w < 3) (ho : off ≤ (e.txt w).size) (hs : (e.sum : Int) ≤ room) : ((plainC room e a w off k data).1.sum : Int) ≤ room := by
  unfold plainC
  split
  · split
    · exact hs
    · rename_i h
      have h1 := Tri.set_sum e w hw ⟨over (e.txt w) off data, (e.at w).was⟩
      have h2 := over_size_eq (d := data) ho
      dsimp only at h1 ⊢
      rw [h2] at h1 h
      omega
  · split
    · have h1 := Tri.set_sum e w hw ⟨(e.txt w).extract 0 off, (e.at w).was⟩
      have h2 : ((e.txt w).extract 0 off).size = off := by rw [ByteArray.size_extract]; omega
      dsimp only at h1 ⊢
      rw [h2] at h1
      omega
    · have h1 := Tri.set_sum e w hw ⟨e.txt w, e.txt w⟩
      dsimp only at h1 ⊢
      omega
theorem plain_acts {room : Int} {e : Tri} {a w off : Nat} {k : Int} {data : ByteArray} : (plainC room e a w off k data).2 ≤ a + 1 := by
  unfold plainC
  split
  · split
    · exact Nat.le_succ _
    · exact Nat.le_refl _
  · split <;> exact Nat.le_refl _
theorem plain_full {room : Int} {e : Tri} {a w off : Nat} {data : ByteArray} (hw : w < 3) (ho : off ≤ (e.txt w).size) (hd : data.size ≤ 300) (hs : (e.sum : Int) ≤ room) (hr : room ≤ 4000) :
    full (plainSt room e a) (nm w) off data = decide ((e.txt w).size < (over (e.txt w) off data).size ∧ room < (e.sum : Int) - (e.txt w).size + (over (e.txt w) off data).size) := by
  have hl := e.le_sum w hw
  unfold full plainSt
  dsimp only
  rw [tri_get e w hw, tri_used, over_size_eq ho, IntWalk.wrap64_in _ (by show _ ∧ _; unfold Tri.txt at *; omega)]
  show (decide (((e.txt w).size : Int) < off + data.size) && decide (room < (e.sum : Int) - (e.txt w).size + off + data.size)) = _
  rw [Bool.eq_iff_iff, Bool.and_eq_true, decide_eq_true_iff, decide_eq_true_iff, decide_eq_true_iff]
  omega
theorem plain_writeC {room : Int} {e : Tri} {a w off : Nat} {data : ByteArray} (hw : w < 3) (ho : off ≤ (e.txt w).size) (hd : data.size ≤ 300) (hs : (e.sum : Int) ≤ room) (hr : room ≤ 4000) :
    writeC (plainSt room e a) (nm w) off data = if (e.txt w).size < (over (e.txt w) off data).size ∧ room < (e.sum : Int) - (e.txt w).size + (over (e.txt w) off data).size then (172, plainSt room e a)
      else (0, plainSt room (e.set w ⟨over (e.txt w) off data, (e.at w).was⟩) (a + 1)) := by
  have hl := e.le_sum w hw
  have hf := plain_full (a := a) hw ho hd hs hr
  have hg : (get (plainSt room e a).files (nm w)) = e.at w := tri_get e w hw
  have ht : (e.at w).now = e.txt w := rfl
  unfold writeC
  rw [hg, hf, ht]
  rw [if_neg (show ¬ (plainSt room e a).down = true from by simp [plainSt]), if_neg (by omega)]
  have hdid : did (plainSt room e a) (nm w) ⟨over (e.txt w) off data, (e.at w).was⟩ = plainSt room (e.set w ⟨over (e.txt w) off data, (e.at w).was⟩) (a + 1) := by
    unfold did plainSt
    dsimp only
    rw [tri_put e w hw]
  simp only [Int.toNat_natCast, decide_eq_true_iff]
  rw [hdid]
theorem plain_write_off {room : Int} {e : Tri} {a w : Nat} {off : Int} {data : ByteArray} (hw : w < 3) (ho : off < 0 ∨ ((e.txt w).size : Int) < off) : writeC (plainSt room e a) (nm w) off data = (173, plainSt room e a) := by
  have hg : (get (plainSt room e a).files (nm w)) = e.at w := tri_get e w hw
  unfold writeC
  rw [hg, if_neg (show ¬ (plainSt room e a).down = true from by simp [plainSt]), if_pos (ho.elim .inl (fun h => .inr (.inl h)))]
theorem plain_cut {room : Int} {e : Tri} {a w off : Nat} (hw : w < 3) (ho : off ≤ (e.txt w).size) :
    cutC (plainSt room e a) (nm w) off = (0, plainSt room (e.set w ⟨(e.txt w).extract 0 off, (e.at w).was⟩) (a + 1)) := by
  have hg : (get (plainSt room e a).files (nm w)) = e.at w := tri_get e w hw
  have ht : (e.at w).now = e.txt w := rfl
  unfold cutC
  rw [hg, ht, if_neg (show ¬ (plainSt room e a).down = true from by simp [plainSt]), if_neg (by omega)]
  have hdid : did (plainSt room e a) (nm w) ⟨(e.txt w).extract 0 off, (e.at w).was⟩ = plainSt room (e.set w ⟨(e.txt w).extract 0 off, (e.at w).was⟩) (a + 1) := by
    unfold did plainSt
    dsimp only
    rw [tri_put e w hw]
  simp only [Int.toNat_natCast]
  rw [hdid]
theorem plain_cut_off {room : Int} {e : Tri} {a w : Nat} {off : Int} (hw : w < 3) (ho : ((e.txt w).size : Int) < off) : cutC (plainSt room e a) (nm w) off = (173, plainSt room e a) := by
  have hg : (get (plainSt room e a).files (nm w)) = e.at w := tri_get e w hw
  unfold cutC
  rw [hg, if_neg (show ¬ (plainSt room e a).down = true from by simp [plainSt]), if_pos (.inr ho)]
theorem plain_sync {room : Int} {e : Tri} {a w : Nat} (hw : w < 3) : syncC (plainSt room e a) (nm w) = (0, plainSt room (e.set w ⟨e.txt w, e.txt w⟩) (a + 1)) := by
  have hg : (get (plainSt room e a).files (nm w)) = e.at w := tri_get e w hw
  have ht : (e.at w).now = e.txt w := rfl
  unfold syncC
  rw [hg, ht, if_neg (show ¬ (plainSt room e a).down = true from by simp [plainSt])]
  have hdid : did (plainSt room e a) (nm w) ⟨e.txt w, e.txt w⟩ = plainSt room (e.set w ⟨e.txt w, e.txt w⟩) (a + 1) := by
    unfold did plainSt
    dsimp only
    rw [tri_put e w hw]
  rw [hdid]
theorem plain_read {room : Int} {e : Tri} {a w : Nat} (hw : w < 3) : read (plainSt room e a) (nm w) 0 ((e.txt w).size : Int) = (e.txt w, 0) := by
  have hg : (get (plainSt room e a).files (nm w)) = e.at w := tri_get e w hw
  have ht : (e.at w).now = e.txt w := rfl
  unfold read
  rw [hg, ht, if_neg (show ¬ (plainSt room e a).down = true from by simp [plainSt]), if_neg (by omega)]
  have : (0 + ((e.txt w).size : Int)).toNat = (e.txt w).size := by omega
  rw [this]
  simp
theorem plain_read_off {room : Int} {e : Tri} {a w : Nat} (hw : w < 3) : read (plainSt room e a) (nm w) 1 ((e.txt w).size : Int) = (⟨#[]⟩, 173) := by
  have hg : (get (plainSt room e a).files (nm w)) = e.at w := tri_get e w hw
  have ht : (e.at w).now = e.txt w := rfl
  unfold read
  rw [hg, ht, if_neg (show ¬ (plainSt room e a).down = true from by simp [plainSt]), if_pos (by omega)]
theorem plain_size {room : Int} {e : Tri} {a w : Nat} (hw : w < 3) : size (plainSt room e a) (nm w) = ((e.txt w).size : Int) := by
  have hg : (get (plainSt room e a).files (nm w)) = e.at w := tri_get e w hw
  unfold size
  rw [hg, if_neg (show ¬ (plainSt room e a).down = true from by simp [plainSt])]
  rfl
/-- The files that the law lists: of the first j of "", "a", "b". -/
def tl (n x : ByteArray) : List (ByteArray × ByteArray) := if x = ⟨#[]⟩ then [] else [(n, x)]
def plainL (e : Tri) (j : Nat) : List (ByteArray × ByteArray) := (List.range j).flatMap fun i => tl (nm ((i + 2) % 3)) (e.txt ((i + 2) % 3))
theorem plainL_succ (e : Tri) (j : Nat) : plainL e (j + 1) = plainL e j ++ tl (nm ((j + 2) % 3)) (e.txt ((j + 2) % 3)) := by
  unfold plainL
  rw [List.range_succ, List.flatMap_append]; simp
theorem plain_files (room : Int) (e : Tri) (a : Nat) : files (plainSt room e a) = plainL e 3 := by
  have hz : pick [] [] = [] := rfl
  have hp : ∀ (n r : ByteArray) (f : F) (l : Fs) (R : List ByteArray), pick ((n, f) :: l) (r :: R) = tl n r ++ pick l R := by
    intro n r f l R
    unfold pick tl
    simp only [List.map_cons, List.zip_cons_cons, List.filter_cons]
    by_cases h : r = ⟨#[]⟩
    · simp [h]
    · simp [h]
  have hn : ∀ n : ByteArray, tl n ⟨#[]⟩ = [] := fun n => by unfold tl; rw [if_pos rfl]
  have hL : plainL e 3 = tl ⟨#[]⟩ (e.txt 2) ++ (tl ⟨#[97]⟩ (e.txt 0) ++ tl ⟨#[98]⟩ (e.txt 1)) := by
    rw [plainL_succ, plainL_succ, plainL_succ]
    show ([] ++ tl ⟨#[]⟩ (e.txt 2)) ++ tl ⟨#[97]⟩ (e.txt 0) ++ tl ⟨#[98]⟩ (e.txt 1) = _
    simp
  rw [hL]
  unfold files plainSt tri
  dsimp only
  obtain ⟨xa, xb, xc⟩ := e
  rcases xa with _ | xa <;> rcases xb with _ | xb <;> rcases xc with _ | xc <;> simp [one, hp, hz, Tri.txt, Tri.at, F.none, hn]
theorem plainL_len (e : Tri) (j : Nat) : (plainL e j).length ≤ j := by
  induction j with
  | zero => simp [plainL]
  | succ j ih =>
    rw [plainL_succ, List.length_append]
    have : (tl (nm ((j + 2) % 3)) (e.txt ((j + 2) % 3))).length ≤ 1 := by unfold tl; split <;> simp
    omega
theorem over_long {x d : ByteArray} {off : Nat} (h : ¬ (x.extract 0 off ++ d).size < x.size) (ho : off ≤ x.size) : over x off d = x.extract 0 off ++ d := by
  rw [ByteArray.size_append, ByteArray.size_extract] at h
  unfold over
  rw [show min (off + d.size) x.size = x.size by omega]
  simp
theorem over_short {x d : ByteArray} {off : Nat} (h : (x.extract 0 off ++ d).size < x.size) (ho : off ≤ x.size) : over x off d = x.extract 0 off ++ d ++ x.extract (x.extract 0 off ++ d).size x.size := by
  have h2 := h
  rw [ByteArray.size_append, ByteArray.size_extract] at h2
  unfold over
  rw [ByteArray.size_append, ByteArray.size_extract, show min (off + d.size) x.size = min off x.size - 0 + d.size by omega]
end Dk
end Go.Proofs.Ytiiblpgiafbaoaa
