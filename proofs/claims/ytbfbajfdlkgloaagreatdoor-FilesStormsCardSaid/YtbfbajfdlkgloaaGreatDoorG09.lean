/-
  The program's disk: After: what stays of all files.
-/
import Derived.Test.YtbfbajfdlkgloaaGreatDoorG08
import Derived.Laws.EntriesVeiled
import Derived.Laws.StructEq
import Derived.Deep.MidRow
import Derived.Test.YtbfbajfdlkgloaaGreatDoorG00

namespace Go.Proofs.YtbfbajfdlkgloaaGreatDoor
open Go Go.RowKit Go.Maps
namespace Dk
/-- What stays of each file, and how many choices have been taken behind j of them. -/
def afterL (keep : List Bool) : Fs → Nat → List ByteArray
  | [], _ => []
  | p :: l, c => (afterF keep p.2 c).1 :: afterL keep l (afterF keep p.2 c).2
def afterN (keep : List Bool) : Fs → Nat → Nat → Nat
  | _, c, 0 => c
  | [], c, _ + 1 => c
  | p :: l, c, j + 1 => afterN keep l (afterF keep p.2 c).2 j
def after (s : St) (keep : List Bool) : List (ByteArray × ByteArray) := if s.down = true then files s else pick s.files (afterL keep s.files 0)
theorem afterL_len (keep : List Bool) : ∀ (l : Fs) (c : Nat), (afterL keep l c).length = l.length
  | [], _ => rfl
  | p :: l, c => by unfold afterL; simp [afterL_len keep l]
theorem afterL_get (keep : List Bool) : ∀ (l : Fs) (c j : Nat) (p : ByteArray × F) (r : ByteArray), l[j]? = some p → (afterL keep l c)[j]? = some r → r = (afterF keep p.2 (afterN keep l c j)).1
  | [], _, j, p, r, hp, _ => by simp at hp
  | q :: l, c, 0, p, r, hp, hr => by
    simp [afterL] at hp hr
    rw [← hr, ← hp]; rfl
  | q :: l, c, j + 1, p, r, hp, hr => by
    simp [afterL] at hp hr
    exact afterL_get keep l _ j p r hp hr
theorem afterN_succ (keep : List Bool) : ∀ (l : Fs) (c j : Nat) (p : ByteArray × F), l[j]? = some p → afterN keep l c (j + 1) = (afterF keep p.2 (afterN keep l c j)).2
  | [], _, j, p, hp => by simp at hp
  | q :: l, c, 0, p, hp => by
    simp at hp
    rw [← hp]
    show afterN keep l _ 0 = _
    cases l <;> rfl
  | q :: l, c, j + 1, p, hp => by
    simp at hp
    exact afterN_succ keep l _ j p hp
theorem afterF_le (keep : List Bool) (f : F) (c : Nat) (h : f.now.size ≤ 268435456 ∧ f.was.size ≤ 268435456) : (afterF keep f c).2 ≤ c + 4194306 := by
  have h1 := secs_le keep f (endLen f) (firstQ keep f c).2 ((endLen f + 63) / 64)
  have h2 := firstQ_le keep f c
  have h3 : endLen f ≤ 268435456 := by unfold endLen; omega
  show (secs keep f (endLen f) (firstQ keep f c).2 ((endLen f + 63) / 64)).2 ≤ _
  omega
theorem afterN_le (keep : List Bool) : ∀ (l : Fs) (c j : Nat), (∀ p ∈ l, p.2.now.size ≤ 268435456 ∧ p.2.was.size ≤ 268435456) → afterN keep l c j ≤ c + j * 4194306
  | _, c, 0, _ => by simp [afterN]
  | [], c, _ + 1, _ => by simp [afterN]
  | p :: l, c, j + 1, h => by
    have h1 := afterF_le keep p.2 c (h p (by simp))
    have h2 := afterN_le keep l (afterF keep p.2 c).2 j (fun q hq => h q (by simp [hq]))
    show afterN keep l _ j ≤ _
    omega
end Dk
set_option maxHeartbeats 1600000 in
set_option maxRecDepth 100000 in
theorem diskAfter_any (D : Dk.Blk) (s : Dk.St) (kv : Value) (keep : List Bool) (w : World) (h : DiskAt w D s) (hkv : SlV w kv (keep.map Value.bool)) (hkl : keep.length ≤ 140737488351232) :
    Calls Tryz.prog 22 #[.pointer (some ⟨D.g, 0, none⟩), kv] w fun e w' => ∃ v, e = .returned v ∧ w'.ownsRow w.heap.size 51 2 v (Dk.after s keep).length (flatF (Dk.after s keep)) ∧ Below w.heap.size w w' := by
  obtain ⟨L, hL⟩ : ∃ l, l = Dk.after s keep := ⟨_, rfl⟩
  obtain ⟨dn, hd⟩ : ∃ d, d = s.down := ⟨_, rfl⟩
  have c7 := h.c7
  rw [← hd] at c7
  have HLL := hide (show L = if dn = true then Dk.files s else Dk.pick s.files (Dk.afterL keep s.files 0) by rw [hL, hd]; rfl)
  rw [← hL]
  clear hL hd
  obtain ⟨W1, hW1⟩ : ∃ V, V = w.alloc (.cells #[kv] 71) := ⟨_, rfl⟩
  have hb1 : Below w.heap.size w W1 := by rw [hW1]; exact (Below.refl _ _).alloc (Nat.le_refl _) _
  have HS1 := hide (show W1.heap.size = w.heap.size + 1 by rw [hW1]; simp)
  have H3 := hide (show W1.heap[w.heap.size]? = some (.cells #[kv] 71 (0, 0)) by rw [hW1]; exact alloc_at _ _)
  have HD := hide (h.past hb1)
  have HG := hide (show D.g < w.heap.size ∧ D.mb < w.heap.size from ⟨h.glt, h.map.lt⟩)
  have HKV := hide hkv
  have HDK := hide h.keep
  have HB1 := hide hb1
  have d7 : W1.cell? ⟨D.g, 7, none⟩ = some (.bool dn) := (hb1.cell (p := ⟨D.g, 7, none⟩) HG.out.1).trans c7
  obtain ⟨len, a, cap, hll, rfl, _, _⟩ := hkv.form
  clear h hkv hb1 c7 hll
  go_enter Tryz.func22, Tryz.ntmps22
  go_upto_region 1 with (fail)
  rw [← hW1]
  clear hW1
  cases dn with
  | true =>
    have e := HLL.out
    rw [if_pos rfl] at e
    have HE := hide e
    clear e HLL
    go_wp2_with fail
    refine (diskFiles_any D s _ HD.out).mono ?_
    rintro e w2 ⟨v, rfl, hown, hb2⟩
    have H2 := hide (And.intro (own_base hown HB1.out.size) (HB1.out.trans (hb2.mono HB1.out.size)))
    clear hown hb2
    go_wp2_with fail
    go_ret
    rw [HE.out]
    exact ⟨v, rfl, H2.out.1, H2.out.2⟩
  | false =>
    have e := HLL.out
    rw [if_neg (by decide)] at e
    have HE := hide e
    clear e HLL
    go_wp2_with fail
    obtain ⟨b3, hb3⟩ : ∃ b, b = w.heap.size := ⟨_, rfl⟩
    obtain ⟨b5, hb5⟩ : ∃ b, b = W1.heap.size := ⟨_, rfl⟩
    obtain ⟨W2, hW2⟩ : ∃ V, V = (W1.alloc (.cells #[.int .i64 0] 3)).alloc (.cells #[.func (.func 50) #[] #[.pointer (some ⟨b3, 0, none⟩), .pointer (some ⟨b5, 0, none⟩)]] 23) := ⟨_, rfl⟩
    rw [← hb5, ← hb3, ← hW2]
    have hb12 : Below W1.heap.size W1 W2 := by rw [hW2]; exact ((Below.refl _ _).alloc (Nat.le_refl _) _).alloc (by simp) _
    have hs2 : W2.heap.size = b5 + 2 := by rw [hW2, hb5]; simp
    have h5 : W2.heap[b5]? = some (.cells #[.int .i64 ((0 : Nat) : Int)] 3 (0, 0)) := by
      rw [hW2, hb5]; exact (Below.heap_alloc (W1.alloc _) _ W1.heap.size (by simp)).trans (alloc_at _ _)
    have h6 : W2.heap[b5 + 1]? = some (.cells #[.func (.func 50) #[] #[.pointer (some ⟨b3, 0, none⟩), .pointer (some ⟨b5, 0, none⟩)]] 23 (0, 0)) := by
      rw [hW2]
      have := alloc_at (W1.alloc (.cells #[.int .i64 0] 3)) (.cells #[.func (.func 50) #[] #[.pointer (some ⟨b3, 0, none⟩), .pointer (some ⟨b5, 0, none⟩)]] 23)
      simpa [hb5] using this
    have hbw : Below w.heap.size w W2 := HB1.out.trans (hb12.mono HB1.out.size)
    have hch : ChAt W2 b3 b5 (b5 + 1) (.slice a len cap) keep 0 := ⟨by rw [hb3]; exact (hb12.block _ (heap_lt H3.out)).trans H3.out, h5, h6, HKV.out.below hbw⟩
    have hok : ChOk b3 b5 (b5 + 1) (.slice a len cap) keep := by
      refine ⟨by rw [hb3, hb5, HS1.out]; omega, by omega, ?_, hkl⟩
      intro e
      have h1 := HKV.out.blk_lt e
      rw [hb5, HS1.out] at h1
      omega
    have HD2 := hide (HD.out.past hb12)
    have HCH := hide (And.intro hch hok)
    have H2 := hide (And.intro hbw (And.intro hs2 (show w.heap.size + 1 = b5 by rw [hb5, HS1.out])))
    clear hch hok hbw hs2 h5 h6 hb12 hW2 hb3 hb5
    refine (diskTold_any (I := fun j u => ChAt u b3 b5 (b5 + 1) (.slice a len cap) keep (Dk.afterN keep s.files 0 j)) (S := fun k => k = b5) D s 51 #[.pointer (some ⟨b5 + 1, 0, none⟩)] (Dk.afterL keep s.files 0) W2 HD2.out (Dk.afterL_len _ _ _) enters_after ?_ ?_ ?_ ?_ ?_).mono ?_
    · refine ⟨fun e => ?_, fun e => ?_, fun k hk e => ?_⟩
      · have := HG.out.1; have := H2.out.2.2; omega
      · have := HG.out.2; have := H2.out.2.2; omega
      · have h1 := HDK.out.blk_lt hk; have := H2.out.2.2; omega
    · intro k hk
      have := H2.out.2.1
      omega
    · have e : Dk.afterN keep s.files 0 0 = 0 := by cases s.files <;> rfl
      rw [e]; exact HCH.out.1
    · exact fun j u u' h hb => ChAt.keepB HCH.out.1 (Nat.le_refl _) h hb
    · intro j p r u hp hr hI
      have hpm := List.mem_of_getElem? hp
      have e1 := Dk.afterL_get keep s.files 0 j p r hp hr
      have e2 := Dk.afterN_succ keep s.files 0 j p hp
      rw [e1, e2]
      refine afterFn_any p.2 b3 b5 (b5 + 1) _ keep _ u hI HCH.out.2 ?_ (HD2.out.ok.sizes p hpm)
      have h1 := Dk.afterN_le keep s.files 0 j HD2.out.ok.sizes
      have h2 := HD2.out.ok.many
      have h3 : j < s.files.length := (List.getElem?_eq_some_iff.1 hp).1
      omega
    · rintro e w3 ⟨v, rfl, hown, _, hm⟩
      have H4 := hide (And.intro (own_base hown H2.out.1.size) (H2.out.1.trans (hm.below (B := w.heap.size) H2.out.1.size (fun k hk => by have := H2.out.2.2; omega))))
      clear hown hm
      go_wp2_with fail
      go_ret
      rw [HE.out]
      exact ⟨v, rfl, H4.out.1, H4.out.2⟩
end Go.Proofs.YtbfbajfdlkgloaaGreatDoor

/-
  massiflaw17's small functions: same, bent, short.
-/
namespace Go.Proofs.YtbfbajfdlkgloaaGreatDoor
open Go Go.RowKit Go.Maps
/-- A slice value over cells that read as a list of files. -/
def SlF (w : World) (v : Value) (l : List (ByteArray × ByteArray)) : Prop :=
  (l = [] ∧ ∃ a cap, v = .slice a 0 cap ∧ (a = none → cap = 0)) ∨ ∃ b off cap, v = .slice (some ⟨b, off, none⟩) l.length cap ∧ l.length ≤ cap ∧ b < w.heap.size ∧ ∀ j (h : j < l.length), w.cell? ⟨b, off + j * 2, none⟩ = some (.string l[j].1) ∧ w.cell? ⟨b, off + (j * 2 + 1), none⟩ = some (.string l[j].2)
theorem SlF.form {w : World} {v : Value} {l : List (ByteArray × ByteArray)} (h : SlF w v l) : ∃ len a cap, len = l.length ∧ v = .slice a len cap ∧ len ≤ cap ∧ ∀ j (p : ByteArray × ByteArray), l[j]? = some p → ∃ b off, a = some ⟨b, off, none⟩ ∧ b < w.heap.size ∧ w.cell? ⟨b, off + j * 2, none⟩ = some (.string p.1) ∧ w.cell? ⟨b, off + (j * 2 + 1), none⟩ = some (.string p.2) := by
  rcases h with ⟨rfl, a, cap, rfl, _⟩ | ⟨b, off, cap, rfl, hc, hb, hx⟩
  · exact ⟨0, a, cap, rfl, rfl, Nat.zero_le _, fun j p hp => by simp at hp⟩
  · refine ⟨_, _, cap, rfl, rfl, hc, fun j p hp => ⟨b, off, rfl, hb, ?_⟩⟩
    obtain ⟨hj, rfl⟩ := List.getElem?_eq_some_iff.1 hp
    exact hx j hj
theorem SlF.below {w w' : World} {v : Value} {l : List (ByteArray × ByteArray)} (h : SlF w v l) (hb : Below w.heap.size w w') : SlF w' v l := by
  rcases h with h | ⟨b, off, cap, hv, hc, hlt, hx⟩
  · exact .inl h
  · exact .inr ⟨b, off, cap, hv, hc, Nat.lt_of_lt_of_le hlt hb.size, fun j hj => ⟨(hb.cell (p := ⟨b, off + j * 2, none⟩) hlt).trans (hx j hj).1, (hb.cell (p := ⟨b, off + (j * 2 + 1), none⟩) hlt).trans (hx j hj).2⟩⟩
theorem flatF_get (l : List (ByteArray × ByteArray)) : ∀ (j : Nat) (h : j < l.length), (flatF l)[j * 2]? = some (.string l[j].1) ∧ (flatF l)[j * 2 + 1]? = some (.string l[j].2) := by
  induction l with
  | nil => intro j h; cases h
  | cons p l ih =>
    intro j h
    have e : flatF (p :: l) = .string p.1 :: .string p.2 :: flatF l := by unfold flatF; rw [List.flatMap_cons]; rfl
    rw [e]
    cases j with
    | zero => exact ⟨rfl, rfl⟩
    | succ j =>
      have := ih j (by simpa using h)
      exact ⟨by rw [show (j + 1) * 2 = j * 2 + 1 + 1 by omega]; simpa using this.1, by rw [show (j + 1) * 2 + 1 = j * 2 + 1 + 1 + 1 by omega]; simpa using this.2⟩
theorem slf_of_owns {w : World} {base e : Nat} {v : Value} {l : List (ByteArray × ByteArray)} (h : w.ownsRow base e 2 v l.length (flatF l)) : SlF w v l := by
  obtain ⟨hl, h2⟩ := h
  rcases h2 with ⟨rfl, hn⟩ | ⟨g, cap, cur, rfl, hg, hh, hn, hm, hc, hx⟩
  · exact .inl ⟨List.eq_nil_of_length_eq_zero hn, none, 0, rfl, fun _ => rfl⟩
  · refine .inr ⟨g, 0, cap, rfl, hn, heap_lt hh, fun j hj => ?_⟩
    have hf := flatF_get l j hj
    rw [← hx] at hf
    rw [List.getElem?_take_of_lt (by omega), List.getElem?_take_of_lt (by omega)] at hf
    refine ⟨?_, ?_⟩
    · rw [cell_blk hh, Nat.zero_add]; simpa using hf.1
    · rw [cell_blk hh, Nat.zero_add]; simpa using hf.2
theorem slf_new (w : World) (l : List (ByteArray × ByteArray)) (n : Nat) (hn : n = l.length) (cs : Array Value) (hcs : cs = (flatF l).toArray) (T : Nat) : SlF (w.alloc (.cells cs T)) (.slice (some ⟨w.heap.size, 0, none⟩) n n) l := by
  subst hn
  refine .inr ⟨w.heap.size, 0, _, rfl, Nat.le_refl _, by simp, fun j hj => ?_⟩
  have hf := flatF_get l j hj
  rw [cell_blk (alloc_at _ _), cell_blk (alloc_at _ _), Nat.zero_add, hcs]
  exact ⟨by simpa using hf.1, by simpa using hf.2⟩
theorem range_pair {w : World} {b o : Nat} {x y : Value} (h1 : w.cell? ⟨b, o, none⟩ = some x) (h2 : w.cell? ⟨b, o + 1, none⟩ = some y) : w.rangeAt b o [x, y] := by
  intro j v hv
  rcases j with _|_|j
  · simp at hv; rw [← hv]; simpa using h1
  · simp at hv; rw [← hv]; simpa using h2
  · simp at hv
theorem range_below {w w' : World} {b o : Nat} {cs : List Value} (h : w.rangeAt b o cs) (hb : b < w.heap.size) (hw : Below w.heap.size w w') : w'.rangeAt b o cs := by
  intro j v hv
  rw [hw.cell (p := ⟨b, o + j, none⟩) hb]
  exact h j v hv
theorem bl_inj {a b : ByteArray} (h : a.toList = b.toList) : a = b := (Go.Lib.bytes_beq_iff a b).1 (by rw [h]; simp)
theorem nq_false {nq : Bool} {p1 q1 p2 q2 : ByteArray} (h : nq = decide (¬ (p1, q1) = (p2, q2))) (e1 : p1.toList = p2.toList) (e2 : q1.toList = q2.toList) : nq = false := by
  rw [h, bl_inj e1, bl_inj e2]; simp
theorem nq_true {nq : Bool} {p1 q1 p2 q2 : ByteArray} (h : nq = decide (¬ (p1, q1) = (p2, q2))) (e : ¬ (p1.toList = p2.toList ∧ q1.toList = q2.toList)) : nq = true := by
  rw [h]
  refine decide_eq_true (fun he => e ?_)
  injection he with h1 h2
  exact ⟨by rw [h1], by rw [h2]⟩
def sameL (b1 o1 b2 o2 n1 cap1 cap2 j : Nat) (p1 q1 p2 q2 : ByteArray) (nq : Bool) : List Sp :=
  [.is (.slice (some ⟨b1, o1, none⟩) n1 cap1), .is (.int .i64 (j : Int)), .is (.pointer (some ⟨b1, o1 + j * 2, none⟩)), .is (.agg #[.string p1, .string q1]), .is (.slice (some ⟨b2, o2, none⟩) n1 cap2), .is (.int .i64 (j : Int)), .is (.pointer (some ⟨b2, o2 + j * 2, none⟩)), .is (.agg #[.string p2, .string q2]), .is (.bool nq)]
def sameU : List (List Nat) := [[], [], [0, 1], [2], [], [], [4, 5], [6], [3, 7]]
set_option maxHeartbeats 1600000 in
set_option maxRecDepth 100000 in
theorem same_any (v1 v2 : Value) (l1 l2 : List (ByteArray × ByteArray)) (w : World) (h1 : SlF w v1 l1) (h2 : SlF w v2 l2) (hl : l1.length ≤ 1099511627776) (hl2 : l2.length ≤ 1099511627776) :
    Calls Tryz.prog 21 #[v1, v2] w fun e w' => e = .returned (.bool (decide (l1 = l2))) ∧ Below w.heap.size w w' := by
  obtain ⟨n1, a1, cap1, e1, rfl, hc1, HC1⟩ := h1.form
  obtain ⟨n2, a2, cap2, e2, rfl, hc2, HC2⟩ := h2.form
  have H1 := hide HC1
  have H2 := hide HC2
  have HN := hide (And.intro e1 e2)
  have hn1 : n1 ≤ 1099511627776 := by omega
  have hn2 : n2 ≤ 1099511627776 := by omega
  obtain ⟨g, hg⟩ : ∃ g : Bool, g = decide (l1 = l2) := ⟨_, rfl⟩
  rw [← hg]
  have HG := hide hg
  clear h1 h2 HC1 HC2 e1 e2 hg hl hl2
  go_enter Tryz.func21, Tryz.ntmps21
  by_cases hne : n1 = n2
  · subst hne
    have hi : ((n1 : Int) == (n1 : Int)) = true := by simp
    go_wp2_with fail
    go_loopg [5] n1 (fun q v5 wr => ∃ j : Nat, j ≤ n1 ∧ q = n1 - j ∧ v5 = .int .i64 j ∧ Hid (l1.take j = l2.take j ∧ Below w.heap.size w wr))
    case atStart => exact ⟨0, by omega, rfl, rfl, by simp, Below.refl _ _⟩
    case round =>
      obtain ⟨j, hj, rfl, rfl, HR⟩ := hrel
      by_cases hjn : j < n1
      · obtain ⟨⟨p1, q1⟩, hp⟩ : ∃ p, l1[j]? = some p := ⟨_, List.getElem?_eq_getElem (by rw [← HN.out.1]; exact hjn)⟩
        obtain ⟨⟨p2, q2⟩, hp2⟩ : ∃ p, l2[j]? = some p := ⟨_, List.getElem?_eq_getElem (by rw [← HN.out.2]; exact hjn)⟩
        obtain ⟨b1, o1, rfl, hb1, hx1, hy1⟩ := H1.out j _ hp
        obtain ⟨b2, o2, rfl, hb2, hx2, hy2⟩ := H2.out j _ hp2
        dsimp only at hx1 hy1 hx2 hy2
        have c1 : wr.cell? ⟨b1, o1 + j * 2, none⟩ = some (.string p1) := by rw [HR.out.2.cell (p := ⟨b1, o1 + j * 2, none⟩) hb1]; exact hx1
        have d1 : wr.cell? ⟨b1, o1 + (j * 2 + 1), none⟩ = some (.string q1) := by rw [HR.out.2.cell (p := ⟨b1, o1 + (j * 2 + 1), none⟩) hb1]; exact hy1
        have c2 : wr.cell? ⟨b2, o2 + j * 2, none⟩ = some (.string p2) := by rw [HR.out.2.cell (p := ⟨b2, o2 + j * 2, none⟩) hb2]; exact hx2
        have d2 : wr.cell? ⟨b2, o2 + (j * 2 + 1), none⟩ = some (.string q2) := by rw [HR.out.2.cell (p := ⟨b2, o2 + (j * 2 + 1), none⟩) hb2]; exact hy2
        have HP := hide (And.intro hp hp2)
        have HB12 := hide (And.intro hb1 hb2)
        clear hx1 hy1 hx2 hy2 hp hp2 hb1 hb2
        have R1 := hide (show b1 < wr.heap.size ∧ wr.rangeAt b1 (o1 + j * 2) [.string p1, .string q1] from ⟨Nat.lt_of_lt_of_le HB12.out.1 HR.out.2.size, range_pair c1 (by rw [Nat.add_assoc]; exact d1)⟩)
        have R2 := hide (show b2 < wr.heap.size ∧ wr.rangeAt b2 (o2 + j * 2) [.string p2, .string q2] from ⟨Nat.lt_of_lt_of_le HB12.out.2 HR.out.2.size, range_pair c2 (by rw [Nat.add_assoc]; exact d2)⟩)
        clear c1 d1 c2 d2
        obtain ⟨nq, hnq⟩ : ∃ b : Bool, b = decide (¬ (p1, q1) = (p2, q2)) := ⟨_, rfl⟩
        have HNQ := hide hnq
        clear hnq
        go_upto_region 6 with (fail)
        go_cut [25] from 17 to 26 (fun v25 wx => Hid (v25 = .bool nq ∧ Below wr.heap.size wr wx))
        case first =>
          
          refine wp_region_local (by kernel_rfl) (by kernel_rfl) (useList sameU) [8] (by kernel_rfl) (spR (sameL b1 o1 b2 o2 n1 cap1 cap2 j p1 q1 p2 q2 nq)) (fun _ _ => True) (Below wr.heap.size wr) (fun _ w w' => Below w.heap.size w w') spR_stays (fun _ _ _ _ _ h _ => h) (fun _ _ => Below.refl _ _) (dsts_lt (N := 26) (by kernel_rfl)) ((Below.refl _ _).drew) (fun _ _ => trivial) (all_ops ?_) ?_
          · refine And.intro ?_ ?_
            · refine lstep_run fun fr wf left => ?_
              have o0 := (left.old 0 (by kernel_rfl)).trans rfl
              refine ⟨wanted_none rfl, fun K hK => ?_⟩
              have hB := hide left.base
              clear left
              go_simp
              exact hK _ _ rfl hB.out (Below.refl _ _)
            refine And.intro ?_ ?_
            · refine lstep_run fun fr wf left => ?_
              have o5 := (left.old 5 (by kernel_rfl)).trans rfl
              refine ⟨wanted_none rfl, fun K hK => ?_⟩
              have hB := hide left.base
              clear left
              go_simp
              exact hK _ _ rfl hB.out (Below.refl _ _)
            refine And.intro ?_ ?_
            · refine lstep_run fun fr wf left => ?_
              obtain ⟨x0, e0, r0⟩ := left.slot 26 rfl 0 17 _ rfl rfl (by decide) rfl
              have s0 := Eq.symm (show x0 = .slice (some ⟨b1, o1, none⟩) n1 cap1 from r0)
              subst s0
              obtain ⟨x1, e1, r1⟩ := left.slot 26 rfl 1 18 _ rfl rfl (by decide) rfl
              have s1 := Eq.symm (show x1 = .int .i64 (j : Int) from r1)
              subst s1
              refine ⟨wanted_none rfl, fun K hK => ?_⟩
              have hB := hide left.base
              clear left
              go_simp
              exact hK _ _ rfl hB.out (Below.refl _ _)
            refine And.intro ?_ ?_
            · refine lstep_run fun fr wf left => ?_
              obtain ⟨x2, e2, r2⟩ := left.slot 26 rfl 2 19 _ rfl rfl (by decide) rfl
              have s2 := Eq.symm (show x2 = .pointer (some ⟨b1, o1 + j * 2, none⟩) from r2)
              subst s2
              refine ⟨wanted_none rfl, fun K hK => ?_⟩
              have hB := hide left.base
              have hr := range_below R1.out.2 R1.out.1 hB.out
              clear left
              refine wp_load_mid 51 (.tmp 19) rfl b1 (o1 + j * 2) (eval_tmp e2) [.string p1, .string q1] _ hr Tryz.underlying51 rfl (by kernel_rfl) ?_
              exact hK _ _ rfl hB.out (Below.refl _ _)
            refine And.intro ?_ ?_
            · refine lstep_run fun fr wf left => ?_
              have o1 := (left.old 1 (by kernel_rfl)).trans rfl
              refine ⟨wanted_none rfl, fun K hK => ?_⟩
              have hB := hide left.base
              clear left
              go_simp
              exact hK _ _ rfl hB.out (Below.refl _ _)
            refine And.intro ?_ ?_
            · refine lstep_run fun fr wf left => ?_
              have o5 := (left.old 5 (by kernel_rfl)).trans rfl
              refine ⟨wanted_none rfl, fun K hK => ?_⟩
              have hB := hide left.base
              clear left
              go_simp
              exact hK _ _ rfl hB.out (Below.refl _ _)
            refine And.intro ?_ ?_
            · refine lstep_run fun fr wf left => ?_
              obtain ⟨x4, e4, r4⟩ := left.slot 26 rfl 4 21 _ rfl rfl (by decide) rfl
              have s4 := Eq.symm (show x4 = .slice (some ⟨b2, o2, none⟩) n1 cap2 from r4)
              subst s4
              obtain ⟨x5, e5, r5⟩ := left.slot 26 rfl 5 22 _ rfl rfl (by decide) rfl
              have s5 := Eq.symm (show x5 = .int .i64 (j : Int) from r5)
              subst s5
              refine ⟨wanted_none rfl, fun K hK => ?_⟩
              have hB := hide left.base
              clear left
              go_simp
              exact hK _ _ rfl hB.out (Below.refl _ _)
            refine And.intro ?_ ?_
            · refine lstep_run fun fr wf left => ?_
              obtain ⟨x6, e6, r6⟩ := left.slot 26 rfl 6 23 _ rfl rfl (by decide) rfl
              have s6 := Eq.symm (show x6 = .pointer (some ⟨b2, o2 + j * 2, none⟩) from r6)
              subst s6
              refine ⟨wanted_none rfl, fun K hK => ?_⟩
              have hB := hide left.base
              have hr := range_below R2.out.2 R2.out.1 hB.out
              clear left
              refine wp_load_mid 51 (.tmp 23) rfl b2 (o2 + j * 2) (eval_tmp e6) [.string p2, .string q2] _ hr Tryz.underlying51 rfl (by kernel_rfl) ?_
              exact hK _ _ rfl hB.out (Below.refl _ _)
            refine And.intro ?_ ?_
            · refine lstep_run fun fr wf left => ?_
              obtain ⟨x3, e3, r3⟩ := left.slot 26 rfl 3 20 _ rfl rfl (by decide) rfl
              have s3 := Eq.symm (show x3 = .agg #[.string p1, .string q1] from r3)
              subst s3
              obtain ⟨x7, e7, r7⟩ := left.slot 26 rfl 7 24 _ rfl rfl (by decide) rfl
              have s7 := Eq.symm (show x7 = .agg #[.string p2, .string q2] from r7)
              subst s7
              refine ⟨wanted_none rfl, fun K hK => ?_⟩
              have hB := hide left.base
              clear left
              by_cases e1 : p1.toList = p2.toList
              · by_cases e2 : q1.toList = q2.toList
                · have hn := nq_false HNQ.out e1 e2
                  go_simp
                  exact hK _ _ (congrArg Value.bool hn.symm) hB.out (Below.refl _ _)
                · have hn := nq_true HNQ.out (fun h => e2 h.2)
                  go_simp
                  exact hK _ _ (congrArg Value.bool hn.symm) hB.out (Below.refl _ _)
              · have hn := nq_true HNQ.out (fun h => e1 h.1)
                go_simp
                exact hK _ _ (congrArg Value.bool hn.symm) hB.out (Below.refl _ _)
            exact trivial
          · intro fr wf hB hs hd hall hkeep
            have h25 : fr.tmps.getD 25 undef = .bool nq := hall 8 _ rfl (by simp)
            have hfr := act_ext (frame_set hs hkeep [17, 18, 19, 20, 21, 22, 23, 24, 25] (by kernel_rfl)) hd
            obtain ⟨q17, hq17⟩ : ∃ q, q = fr.tmps.getD 17 undef := ⟨_, rfl⟩
            obtain ⟨q18, hq18⟩ : ∃ q, q = fr.tmps.getD 18 undef := ⟨_, rfl⟩
            obtain ⟨q19, hq19⟩ : ∃ q, q = fr.tmps.getD 19 undef := ⟨_, rfl⟩
            obtain ⟨q20, hq20⟩ : ∃ q, q = fr.tmps.getD 20 undef := ⟨_, rfl⟩
            obtain ⟨q21, hq21⟩ : ∃ q, q = fr.tmps.getD 21 undef := ⟨_, rfl⟩
            obtain ⟨q22, hq22⟩ : ∃ q, q = fr.tmps.getD 22 undef := ⟨_, rfl⟩
            obtain ⟨q23, hq23⟩ : ∃ q, q = fr.tmps.getD 23 undef := ⟨_, rfl⟩
            obtain ⟨q24, hq24⟩ : ∃ q, q = fr.tmps.getD 24 undef := ⟨_, rfl⟩
            obtain ⟨q25, hq25⟩ : ∃ q, q = fr.tmps.getD 25 undef := ⟨_, rfl⟩
            rw [← hq25] at h25
            simp only [List.foldl, ← hq17, ← hq18, ← hq19, ← hq20, ← hq21, ← hq22, ← hq23, ← hq24, ← hq25] at hfr
            simp only [List.setIfInBounds_toArray, List.set_cons_zero, List.set_cons_succ] at hfr
            clear hall hkeep hs hd hq17 hq18 hq19 hq20 hq21 hq22 hq23 hq24 hq25
            subst hfr
            subst h25
            have HBF := hide hB
            clear hB
            go_wp2_with fail
            go_meet
            case rel => exact ⟨rfl, HBF.out⟩
        obtain ⟨rfl, hb⟩ := hcut.out
        have HB6 := hide hb
        clear hb hcut
        cases nq with
        | true =>
          have hne := of_decide_eq_true HNQ.out.symm
          have hf : g = false := by
            rw [HG.out]
            exact decide_eq_false (fun e => hne (by have h1 := HP.out.1; rw [e, HP.out.2] at h1; exact (Option.some.inj h1).symm))
          subst hf
          go_wp2_with fail
          go_ret
          exact ⟨rfl, HR.out.2.trans (HB6.out.mono HR.out.2.size)⟩
        | false =>
          have he := of_decide_eq_false HNQ.out.symm
          rw [Classical.not_not] at he
          have HT := hide (show l1.take (j + 1) = l2.take (j + 1) from by
            obtain ⟨k1, e1⟩ := List.getElem?_eq_some_iff.1 HP.out.1
            obtain ⟨k2, e2⟩ := List.getElem?_eq_some_iff.1 HP.out.2
            rw [List.take_succ_eq_append_getElem k1, List.take_succ_eq_append_getElem k2, HR.out.1, e1, e2, he])
          clear he
          go_wp2_with fail
          go_roundg (n1 - (j + 1))
          case measure => omega
          case rel => exact ⟨j + 1, by omega, rfl, by go_num, HT.out, HR.out.2.trans (HB6.out.mono HR.out.2.size)⟩
      · have hj' : j = n1 := by omega
        have HJ := hide hj'
        clear hj'
        go_wp2_with fail
        go_ret
        have ht := HR.out.1
        rw [HJ.out, List.take_of_length_le (by rw [HN.out.1]; exact Nat.le_refl _), List.take_of_length_le (by rw [HN.out.2]; exact Nat.le_refl _)] at ht
        exact ⟨by rw [HG.out, decide_eq_true ht]; rfl, HR.out.2⟩
  · have hf : g = false := by
      rw [HG.out]
      exact decide_eq_false (fun e => hne (by rw [HN.out.1, HN.out.2, e]))
    have hi : ((n1 : Int) == (n2 : Int)) = false := by rw [beq_eq_false_iff_ne]; omega
    subst hf
    go_wp2_with fail
    go_ret
    exact ⟨rfl, Below.refl _ _⟩
namespace Dk
/-- bent: a number from 0 to m, out of any. -/
def bent (n m : Int) : Int := if m < 0 then 0 else (n % 18446744073709551616) % (m + 1)
def short (s : ByteArray) (n : Nat) : ByteArray := s.extract 0 n
theorem short_size (s : ByteArray) (n : Nat) : (short s n).size ≤ n := by unfold short; rw [ByteArray.size_extract]; omega
theorem bent_range {n m : Int} (h : 0 ≤ m) : 0 ≤ bent n m ∧ bent n m ≤ m := by
  unfold bent
  rw [if_neg (by omega)]
  have h1 := Int.emod_nonneg (n % 18446744073709551616) (show m + 1 ≠ 0 by omega)
  have h2 := Int.emod_lt_of_pos (n % 18446744073709551616) (show 0 < m + 1 by omega)
  omega
end Dk
end Go.Proofs.YtbfbajfdlkgloaaGreatDoor

/-
  The bytes of a text one by one; behind the end: 0. No program in sight.
-/
namespace Go.Proofs.YtbfbajfdlkgloaaGreatDoor
def byt (x : ByteArray) (i : Nat) : UInt8 := (bytesOf x).getD i 0
theorem bytes_len (x : ByteArray) : (bytesOf x).length = x.size := by unfold bytesOf; rw [Array.length_toList]; rfl
theorem byt_ge {x : ByteArray} {i : Nat} (h : x.size ≤ i) : byt x i = 0 := by
  unfold byt
  rw [List.getD_eq_getElem?_getD, List.getElem?_eq_none (by rw [bytes_len]; exact h)]; rfl
theorem byt_lt {x : ByteArray} {i : Nat} (h : i < x.size) : byt x i = x[i] := by
  unfold byt
  rw [List.getD_eq_getElem?_getD, List.getElem?_eq_getElem (by rw [bytes_len]; exact h)]
  rfl
theorem byt_append (a b : ByteArray) (i : Nat) : byt (a ++ b) i = if i < a.size then byt a i else byt b (i - a.size) := by
  unfold byt
  have e : bytesOf (a ++ b) = bytesOf a ++ bytesOf b := by unfold bytesOf; rw [ByteArray.data_append, Array.toList_append]
  rw [e, List.getD_eq_getElem?_getD, List.getElem?_append, bytes_len]
  split <;> rw [List.getD_eq_getElem?_getD]
theorem byt_extract (x : ByteArray) (a b i : Nat) : byt (x.extract a b) i = if a + i < b then byt x (a + i) else 0 := by
  by_cases hs : i < (x.extract a b).size
  · have hs2 := hs
    rw [ByteArray.size_extract] at hs2
    rw [if_pos (by omega), byt_lt hs, byt_lt (show a + i < x.size by omega)]
    simp [ByteArray.getElem_extract]
  · rw [byt_ge (by omega)]
    rw [ByteArray.size_extract] at hs
    split
    · rw [byt_ge (by omega)]
    · rfl
theorem byt_ext {a b : ByteArray} (hs : a.size = b.size) (h : ∀ i, i < a.size → byt a i = byt b i) : a = b := by
  have e : bytesOf a = bytesOf b := by
    apply List.ext_getElem?
    intro i
    by_cases hi : i < a.size
    · have h1 := h i hi
      unfold byt at h1
      rw [List.getD_eq_getElem?_getD, List.getD_eq_getElem?_getD, List.getElem?_eq_getElem (by rw [bytes_len]; exact hi), List.getElem?_eq_getElem (by rw [bytes_len, ← hs]; exact hi)] at h1
      rw [List.getElem?_eq_getElem (by rw [bytes_len]; exact hi), List.getElem?_eq_getElem (by rw [bytes_len, ← hs]; exact hi)]
      simpa using h1
    · rw [List.getElem?_eq_none (by rw [bytes_len]; omega), List.getElem?_eq_none (by rw [bytes_len]; omega)]
  obtain ⟨⟨a⟩⟩ := a
  obtain ⟨⟨b⟩⟩ := b
  have e : a = b := e
  rw [e]
theorem byt_of_list (l : List UInt8) (i : Nat) : byt ⟨l.toArray⟩ i = l.getD i 0 := rfl
end Go.Proofs.YtbfbajfdlkgloaaGreatDoor
