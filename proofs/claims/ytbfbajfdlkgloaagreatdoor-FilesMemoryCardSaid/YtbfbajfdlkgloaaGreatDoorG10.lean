/-
  The program's disk: After: what stays of all files.
-/
import Derived.Test.YtbfbajfdlkgloaaGreatDoorG09
import Derived.Laws.EntriesVeiled

namespace Go.Proofs.YtbfbajfdlkgloaaGreatDoor
open Go Go.RowKit Go.Maps
namespace Dk
/-- What stays of each file, and how many choices have been taken behind j of them. -/
def afterL (keep : List Bool) : Fs → Nat → List ByteArray
  | [], _ => []
  | p :: l, c => (afterF keep p.2 c).1 :: afterL keep l (afterF keep p.2 c).2
def afterN (keep : List Bool) : Fs → Nat → Nat → Nat
  | _, c, 0 => c
  | [], c, _ + 1 => c
  | p :: l, c, j + 1 => afterN keep l (afterF keep p.2 c).2 j
def after (s : St) (keep : List Bool) : List (ByteArray × ByteArray) := if s.down = true then files s else pick s.files (afterL keep s.files 0)
theorem afterL_len (keep : List Bool) : ∀ (l : Fs) (c : Nat), (afterL keep l c).length = l.length
  | [], _ => rfl
  | p :: l, c => by unfold afterL; simp [afterL_len keep l]
theorem afterL_get (keep : List Bool) : ∀ (l : Fs) (c j : Nat) (p : ByteArray × F) (r : ByteArray), l[j]? = some p → (afterL keep l c)[j]? = some r → r = (afterF keep p.2 (afterN keep l c j)).1
  | [], _, j, p, r, hp, _ => by simp at hp
  | q :: l, c, 0, p, r, hp, hr => by
    simp [afterL] at hp hr
    rw [← hr, ← hp]; rfl
  | q :: l, c, j + 1, p, r, hp, hr => by
    simp [afterL] at hp hr
    exact afterL_get keep l _ j p r hp hr
theorem afterN_succ (keep : List Bool) : ∀ (l : Fs) (c j : Nat) (p : ByteArray × F), l[j]? = some p → afterN keep l c (j + 1) = (afterF keep p.2 (afterN keep l c j)).2
  | [], _, j, p, hp => by simp at hp
  | q :: l, c, 0, p, hp => by
    simp at hp
    rw [← hp]
    show afterN keep l _ 0 = _
    cases l <;> rfl
  | q :: l, c, j + 1, p, hp => by
    simp at hp
    exact afterN_succ keep l _ j p hp
theorem afterF_le (keep : List Bool) (f : F) (c : Nat) (h : f.now.size ≤ 268435456 ∧ f.was.size ≤ 268435456) : (afterF keep f c).2 ≤ c + 4194306 := by
  have h1 := secs_le keep f (endLen f) (firstQ keep f c).2 ((endLen f + 63) / 64)
  have h2 := firstQ_le keep f c
  have h3 : endLen f ≤ 268435456 := by unfold endLen; omega
  show (secs keep f (endLen f) (firstQ keep f c).2 ((endLen f + 63) / 64)).2 ≤ _
  omega
theorem afterN_le (keep : List Bool) : ∀ (l : Fs) (c j : Nat), (∀ p ∈ l, p.2.now.size ≤ 268435456 ∧ p.2.was.size ≤ 268435456) → afterN keep l c j ≤ c + j * 4194306
  | _, c, 0, _ => by simp [afterN]
  | [], c, _ + 1, _ => by simp [afterN]
  | p :: l, c, j + 1, h => by
    have h1 := afterF_le keep p.2 c (h p (by simp))
    have h2 := afterN_le keep l (afterF keep p.2 c).2 j (fun q hq => h q (by simp [hq]))
    show afterN keep l _ j ≤ _
    omega
end Dk
set_option maxHeartbeats 1600000 in
set_option maxRecDepth 100000 in
theorem diskAfter_any (D : Dk.Blk) (s : Dk.St) (kv : Value) (keep : List Bool) (w : World) (h : DiskAt w D s) (hkv : SlV w kv (keep.map Value.bool)) (hkl : keep.length ≤ 140737488351232) :
    Calls Tryz.prog 22 #[.pointer (some ⟨D.g, 0, none⟩), kv] w fun e w' => ∃ v, e = .returned v ∧ w'.ownsRow w.heap.size 51 2 v (Dk.after s keep).length (flatF (Dk.after s keep)) ∧ Below w.heap.size w w' := by
  obtain ⟨L, hL⟩ : ∃ l, l = Dk.after s keep := ⟨_, rfl⟩
  obtain ⟨dn, hd⟩ : ∃ d, d = s.down := ⟨_, rfl⟩
  have c7 := h.c7
  rw [← hd] at c7
  have HLL := hide (show L = if dn = true then Dk.files s else Dk.pick s.files (Dk.afterL keep s.files 0) by rw [hL, hd]; rfl)
  rw [← hL]
  clear hL hd
  obtain ⟨W1, hW1⟩ : ∃ V, V = w.alloc (.cells #[kv] 71) := ⟨_, rfl⟩
  have hb1 : Below w.heap.size w W1 := by rw [hW1]; exact (Below.refl _ _).alloc (Nat.le_refl _) _
  have HS1 := hide (show W1.heap.size = w.heap.size + 1 by rw [hW1]; simp)
  have H3 := hide (show W1.heap[w.heap.size]? = some (.cells #[kv] 71 (0, 0)) by rw [hW1]; exact alloc_at _ _)
  have HD := hide (h.past hb1)
  have HG := hide (show D.g < w.heap.size ∧ D.mb < w.heap.size from ⟨h.glt, h.map.lt⟩)
  have HKV := hide hkv
  have HDK := hide h.keep
  have HB1 := hide hb1
  have d7 : W1.cell? ⟨D.g, 7, none⟩ = some (.bool dn) := (hb1.cell (p := ⟨D.g, 7, none⟩) HG.out.1).trans c7
  obtain ⟨len, a, cap, hll, rfl, _, _⟩ := hkv.form
  clear h hkv hb1 c7 hll
  go_enter Tryz.func22, Tryz.ntmps22
  go_upto_region 1 with (fail)
  rw [← hW1]
  clear hW1
  cases dn with
  | true =>
    have e := HLL.out
    rw [if_pos rfl] at e
    have HE := hide e
    clear e HLL
    go_wp2_with fail
    refine (diskFiles_any D s _ HD.out).mono ?_
    rintro e w2 ⟨v, rfl, hown, hb2⟩
    have H2 := hide (And.intro (own_base hown HB1.out.size) (HB1.out.trans (hb2.mono HB1.out.size)))
    clear hown hb2
    go_wp2_with fail
    go_ret
    rw [HE.out]
    exact ⟨v, rfl, H2.out.1, H2.out.2⟩
  | false =>
    have e := HLL.out
    rw [if_neg (by decide)] at e
    have HE := hide e
    clear e HLL
    go_wp2_with fail
    obtain ⟨b3, hb3⟩ : ∃ b, b = w.heap.size := ⟨_, rfl⟩
    obtain ⟨b5, hb5⟩ : ∃ b, b = W1.heap.size := ⟨_, rfl⟩
    obtain ⟨W2, hW2⟩ : ∃ V, V = (W1.alloc (.cells #[.int .i64 0] 3)).alloc (.cells #[.func (.func 50) #[] #[.pointer (some ⟨b3, 0, none⟩), .pointer (some ⟨b5, 0, none⟩)]] 23) := ⟨_, rfl⟩
    rw [← hb5, ← hb3, ← hW2]
    have hb12 : Below W1.heap.size W1 W2 := by rw [hW2]; exact ((Below.refl _ _).alloc (Nat.le_refl _) _).alloc (by simp) _
    have hs2 : W2.heap.size = b5 + 2 := by rw [hW2, hb5]; simp
    have h5 : W2.heap[b5]? = some (.cells #[.int .i64 ((0 : Nat) : Int)] 3 (0, 0)) := by
      rw [hW2, hb5]; exact (Below.heap_alloc (W1.alloc _) _ W1.heap.size (by simp)).trans (alloc_at _ _)
    have h6 : W2.heap[b5 + 1]? = some (.cells #[.func (.func 50) #[] #[.pointer (some ⟨b3, 0, none⟩), .pointer (some ⟨b5, 0, none⟩)]] 23 (0, 0)) := by
      rw [hW2]
      have := alloc_at (W1.alloc (.cells #[.int .i64 0] 3)) (.cells #[.func (.func 50) #[] #[.pointer (some ⟨b3, 0, none⟩), .pointer (some ⟨b5, 0, none⟩)]] 23)
      simpa [hb5] using this
    have hbw : Below w.heap.size w W2 := HB1.out.trans (hb12.mono HB1.out.size)
    have hch : ChAt W2 b3 b5 (b5 + 1) (.slice a len cap) keep 0 := ⟨by rw [hb3]; exact (hb12.block _ (heap_lt H3.out)).trans H3.out, h5, h6, HKV.out.below hbw⟩
    have hok : ChOk b3 b5 (b5 + 1) (.slice a len cap) keep := by
      refine ⟨by rw [hb3, hb5, HS1.out]; omega, by omega, ?_, hkl⟩
      intro e
      have h1 := HKV.out.blk_lt e
      rw [hb5, HS1.out] at h1
      omega
    have HD2 := hide (HD.out.past hb12)
    have HCH := hide (And.intro hch hok)
    have H2 := hide (And.intro hbw (And.intro hs2 (show w.heap.size + 1 = b5 by rw [hb5, HS1.out])))
    clear hch hok hbw hs2 h5 h6 hb12 hW2 hb3 hb5
    refine (diskTold_any (I := fun j u => ChAt u b3 b5 (b5 + 1) (.slice a len cap) keep (Dk.afterN keep s.files 0 j)) (S := fun k => k = b5) D s 51 #[.pointer (some ⟨b5 + 1, 0, none⟩)] (Dk.afterL keep s.files 0) W2 HD2.out (Dk.afterL_len _ _ _) enters_after ?_ ?_ ?_ ?_ ?_).mono ?_
    · refine ⟨fun e => ?_, fun e => ?_, fun k hk e => ?_⟩
      · have := HG.out.1; have := H2.out.2.2; omega
      · have := HG.out.2; have := H2.out.2.2; omega
      · have h1 := HDK.out.blk_lt hk; have := H2.out.2.2; omega
    · intro k hk
      have := H2.out.2.1
      omega
    · have e : Dk.afterN keep s.files 0 0 = 0 := by cases s.files <;> rfl
      rw [e]; exact HCH.out.1
    · exact fun j u u' h hb => ChAt.keepB HCH.out.1 (Nat.le_refl _) h hb
    · intro j p r u hp hr hI
      have hpm := List.mem_of_getElem? hp
      have e1 := Dk.afterL_get keep s.files 0 j p r hp hr
      have e2 := Dk.afterN_succ keep s.files 0 j p hp
      rw [e1, e2]
      refine afterFn_any p.2 b3 b5 (b5 + 1) _ keep _ u hI HCH.out.2 ?_ (HD2.out.ok.sizes p hpm)
      have h1 := Dk.afterN_le keep s.files 0 j HD2.out.ok.sizes
      have h2 := HD2.out.ok.many
      have h3 : j < s.files.length := (List.getElem?_eq_some_iff.1 hp).1
      omega
    · rintro e w3 ⟨v, rfl, hown, _, hm⟩
      have H4 := hide (And.intro (own_base hown H2.out.1.size) (H2.out.1.trans (hm.below (B := w.heap.size) H2.out.1.size (fun k hk => by have := H2.out.2.2; omega))))
      clear hown hm
      go_wp2_with fail
      go_ret
      rw [HE.out]
      exact ⟨v, rfl, H4.out.1, H4.out.2⟩
end Go.Proofs.YtbfbajfdlkgloaaGreatDoor
