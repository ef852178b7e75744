/-
  One byte of a good disk's files is another one: no store is opened from it. No program in sight.
-/
import Derived.Test.YtbfbajfdlkgloaaGreatDoorG28
import Derived.Test.YtbfbajfdlkgloaaGreatDoorG25
namespace Go.Proofs.YtbfbajfdlkgloaaGreatDoor
open Go Go.RowKit
namespace Fl
def setB (s : ByteArray) (n : Nat) (c : UInt8) : ByteArray := ⟨((bytesOf s).set n c).toArray⟩
theorem bytes_setB (s : ByteArray) (n : Nat) (c : UInt8) : bytesOf (setB s n c) = (bytesOf s).set n c := by unfold setB bytesOf; simp
theorem setB_size (s : ByteArray) (n : Nat) (c : UInt8) : (setB s n c).size = s.size := by rw [← Rec.bytes_length, bytes_setB, List.length_set, Rec.bytes_length]
theorem setB_mid (A B C : ByteArray) (n : Nat) (c : UInt8) (h1 : A.size ≤ n) (h2 : n < A.size + B.size) : setB (A ++ (B ++ C)) n c = A ++ (setB B (n - A.size) c ++ C) := by
  apply Rec.bytes_inj
  have ha : (bytesOf A).length = A.size := Rec.bytes_length A
  have hb : (bytesOf B).length = B.size := Rec.bytes_length B
  rw [bytes_setB, Rec.bytes_append, Rec.bytes_append, Rec.bytes_append, Rec.bytes_append, bytes_setB, List.set_append_right _ _ (by omega), List.set_append_left _ _ (by omega), ha]
theorem byte_mid (A B C : ByteArray) (n : Nat) (h1 : A.size ≤ n) (h2 : n < A.size + B.size) : (bytesOf (A ++ (B ++ C)))[n]? = (bytesOf B)[n - A.size]? := by
  have ha : (bytesOf A).length = A.size := Rec.bytes_length A
  have hb : (bytesOf B).length = B.size := Rec.bytes_length B
  rw [Rec.bytes_append, Rec.bytes_append, List.getElem?_append_right (by omega), List.getElem?_append_left (by omega), ha]
theorem whole_turn {s : ByteArray} {n : Nat} {c : UInt8} (hs : Rec.wholeB s = true) (h4 : 4 ≤ s.size) (hn : n < s.size) (hc : (bytesOf s)[n]? ≠ some c) : Rec.wholeB (setB s n c) = false := by
  have hl : n < (bytesOf s).length := by rw [Rec.bytes_length]; exact hn
  refine Rec.turned_whole s _ n c hs h4 hl (fun e => hc ?_) (bytes_setB _ _ _)
  rw [List.getElem?_eq_getElem hl, e]
theorem pay_whole {b : ByteArray} (h : payOk b = true) : Rec.wholeB b = true := by
  unfold payOk Rec.readPayB at h
  by_cases h1 : b.size < 4
  · rw [if_pos h1] at h; cases h
  · rw [if_neg h1] at h
    by_cases h2 : 1048576 < Rec.small (bytesOf (b.extract 0 4)) ∨ b.size < Rec.small (bytesOf (b.extract 0 4)) + 8
    · rw [if_pos h2] at h; cases h
    · rw [if_neg h2] at h
      by_cases h3 : Rec.wholeB (b.extract 0 (Rec.small (bytesOf (b.extract 0 4)) + 8)) = true
      · rw [if_pos h3] at h
        have h4 : Rec.small (bytesOf (b.extract 0 4)) + 8 = b.size := by simpa using h
        rw [h4] at h3
        rw [show b.extract 0 b.size = b from Rec.bytes_inj (by rw [Rec.bytes_extract, List.drop_zero, List.take_of_length_le (by rw [Rec.bytes_length]; omega)])] at h3
        exact h3
      · rw [if_neg h3] at h; cases h
theorem recsB_append : ∀ (l m : List ByteArray) (p : Nat), recsB p (l ++ m) = recsB p l ++ recsB (p + l.length) m
  | [], m, p => rfl
  | d :: l, m, p => by
    show Rec.nodeB p d :: recsB (p + 1) (l ++ m) = Rec.nodeB p d :: (recsB (p + 1) l ++ recsB (p + (l.length + 1)) m)
    rw [recsB_append l m, show p + 1 + l.length = p + (l.length + 1) by omega]
theorem aF_at : ∀ (L : List It) (n : Nat), n < (aF L).size → ∃ L1 x L2, L = L1 ++ x :: L2 ∧ (aF L1).size ≤ n ∧ n < (aF L1).size + (Rec.payB x.1).size
  | [], n, h => absurd h (Nat.not_lt_zero _)
  | x :: r, n, h => by
    have e : (aF (x :: r)).size = (Rec.payB x.1).size + (aF r).size := ByteArray.size_append ..
    by_cases hn : n < (Rec.payB x.1).size
    · exact ⟨[], x, r, rfl, Nat.zero_le _, by show n < 0 + _; omega⟩
    · obtain ⟨L1, y, L2, rfl, h1, h2⟩ := aF_at r (n - (Rec.payB x.1).size) (by omega)
      have e2 : (aF (x :: L1)).size = (Rec.payB x.1).size + (aF L1).size := ByteArray.size_append ..
      exact ⟨x :: L1, y, L2, rfl, by omega, by omega⟩
theorem nF_at : ∀ (L : List It) (i n : Nat), n < (nF i L).size → ∃ L1 x L2, L = L1 ++ x :: L2 ∧ (nF i L1).size ≤ n ∧ n < (nF i L1).size + (catAll (rF (i + L1.length) x)).size
  | [], i, n, h => absurd h (Nat.not_lt_zero _)
  | x :: r, i, n, h => by
    have e : (nF i (x :: r)).size = (catAll (rF i x)).size + (nF (i + 1) r).size := ByteArray.size_append ..
    by_cases hn : n < (catAll (rF i x)).size
    · exact ⟨[], x, r, rfl, Nat.zero_le _, by show n < 0 + _; rw [Nat.zero_add]; exact hn⟩
    · obtain ⟨L1, y, L2, rfl, h1, h2⟩ := nF_at r (i + 1) (n - (catAll (rF i x)).size) (by omega)
      have e2 : (nF i (x :: L1)).size = (catAll (rF i x)).size + (nF (i + 1) L1).size := ByteArray.size_append ..
      refine ⟨x :: L1, y, L2, rfl, by omega, ?_⟩
      rw [List.length_cons, show i + (L1.length + 1) = i + 1 + L1.length by omega]
      omega
theorem recs_at : ∀ (l : List ByteArray) (p n : Nat), n < (catAll (recsB p l)).size → ∃ l1 d l2, l = l1 ++ d :: l2 ∧ (catAll (recsB p l1)).size ≤ n ∧ n < (catAll (recsB p l1)).size + (Rec.nodeB (p + l1.length) d).size
  | [], p, n, h => absurd h (Nat.not_lt_zero _)
  | x :: r, p, n, h => by
    have e : ∀ r, (catAll (recsB p (x :: r))).size = (Rec.nodeB p x).size + (catAll (recsB (p + 1) r)).size := by
      intro r
      show (catAll (Rec.nodeB p x :: recsB (p + 1) r)).size = _
      rw [catAll_cons, ByteArray.size_append]
    have e1 := e r
    by_cases hn : n < (Rec.nodeB p x).size
    · exact ⟨[], x, r, rfl, Nat.zero_le _, by show n < 0 + _; rw [Nat.zero_add]; exact hn⟩
    · obtain ⟨l1, y, l2, rfl, h1, h2⟩ := recs_at r (p + 1) (n - (Rec.nodeB p x).size) (by omega)
      have e2 := e l1
      refine ⟨x :: l1, y, l2, rfl, by omega, ?_⟩
      rw [List.length_cons, show p + (l1.length + 1) = p + 1 + l1.length by omega]
      omega
theorem mB_at : ∀ (l : List Rec.Mk) (n : Nat), n < (mB l).size → ∃ l1 m l2, l = l1 ++ m :: l2 ∧ (mB l1).size ≤ n ∧ n < (mB l1).size + (Rec.markB m).size
  | [], n, h => absurd h (Nat.not_lt_zero _)
  | x :: r, n, h => by
    have e : (mB (x :: r)).size = (Rec.markB x).size + (mB r).size := ByteArray.size_append ..
    by_cases hn : n < (Rec.markB x).size
    · exact ⟨[], x, r, rfl, Nat.zero_le _, by show n < 0 + _; omega⟩
    · obtain ⟨L1, y, L2, rfl, h1, h2⟩ := mB_at r (n - (Rec.markB x).size) (by omega)
      have e2 : (mB (x :: L1)).size = (Rec.markB x).size + (mB L1).size := ByteArray.size_append ..
      exact ⟨x :: L1, y, L2, rfl, by omega, by omega⟩
/-- What is looked at first, is good: the rest is looked at. -/
theorem look_part {k : Nat} (hk : k ≤ 32) (R : List Rec.Mk) : ∀ (L : List It) (i e c : Nat) (A1 N1 ta tn : ByteArray), A1.size = e → N1.size = 40 * nodes i → okL k i L →
    lookF k (A1 ++ (aF L ++ ta)) (N1 ++ (nF i L ++ tn)) (ms k L i e c ++ R) i e c = lookF k (A1 ++ (aF L ++ ta)) (N1 ++ (nF i L ++ tn)) R (i + L.length) (e + (aF L).size) (cE L i c)
  | [], i, e, c, A1, N1, ta, tn, _, _, _ => rfl
  | x :: r, i, e, c, A1, N1, ta, tn, hA, hN, h => by
    obtain ⟨⟨hx1, hx2, hx3⟩, hr⟩ := h
    have eA : A1 ++ (aF (x :: r) ++ ta) = A1 ++ (Rec.payB x.1 ++ (aF r ++ ta)) := by show A1 ++ (Rec.payB x.1 ++ aF r ++ ta) = _; rw [apass]
    have eN : N1 ++ (nF i (x :: r) ++ tn) = N1 ++ (catAll (rF i x) ++ (nF (i + 1) r ++ tn)) := by show N1 ++ (catAll (rF i x) ++ nF (i + 1) r ++ tn) = _; rw [apass]
    rw [eA, eN]
    conv => lhs; unfold ms
    rw [List.cons_append]
    conv => lhs; unfold lookF
    have e1 : (A1 ++ (Rec.payB x.1 ++ (aF r ++ ta))).extract e (e + (Rec.payB x.1).size) = Rec.payB x.1 := ext_mid _ _ _ hA.symm rfl
    have e2 : madeOk k (N1 ++ (catAll (rF i x) ++ (nF (i + 1) r ++ tn))) (nodes i) (nodes (i + 1) - nodes i) = true := by
      rw [← hx2]; exact madeOk_good hk x.2 (nodes i) N1 _ hN hx3
    have e3 : madeF (N1 ++ (catAll (rF i x) ++ (nF (i + 1) r ++ tn))) (nodes i) (nodes (i + 1) - nodes i) = rF i x := by
      rw [← hx2]; exact (made_good hk x.2 (nodes i) N1 _ hN hx3).1
    have hm : (mkOf k x i e c).items = e + (Rec.payB x.1).size := rfl
    rw [if_neg (by
      rw [hm, e1, e2, e3]
      intro h
      rcases h with h | h | h
      · rw [pay_ok hx1] at h; cases h
      · cases h
      · exact h rfl)]
    rw [hm, ← apass A1, ← apass N1]
    have := nodes_mono i
    have ih := look_part hk R r (i + 1) (e + (Rec.payB x.1).size) (cN i c x) (A1 ++ Rec.payB x.1) (N1 ++ catAll (rF i x)) ta tn (by rw [ByteArray.size_append, hA]) (by rw [ByteArray.size_append, hN, rF_size hk hx3, hx2]; omega) hr
    have hsz : (aF (x :: r)).size = (Rec.payB x.1).size + (aF r).size := ByteArray.size_append ..
    rw [hsz, List.length_cons, show i + (r.length + 1) = i + 1 + r.length by omega, show e + ((Rec.payB x.1).size + (aF r).size) = e + (Rec.payB x.1).size + (aF r).size by omega]
    exact ih
theorem look_items {k : Nat} (hk : k ≤ 32) {L : List It} (hL : okL k 0 L) {n : Nat} {c : UInt8} (hn : n < (aF L).size) (hc : (bytesOf (aF L))[n]? ≠ some c) :
    lookF k (setB (aF L) n c) (nF 0 L) (ms k L 0 0 0) 0 0 0 = none := by
  obtain ⟨L1, x, L2, rfl, h1, h2⟩ := aF_at L n hn
  have hok := (okL_append L1 (x :: L2) 0).1 hL
  obtain ⟨⟨hx1, _, _⟩, _⟩ := hok.2
  have e : aF (L1 ++ x :: L2) = aF L1 ++ (Rec.payB x.1 ++ aF L2) := by rw [aF_append]; rfl
  rw [e] at hc ⊢
  rw [byte_mid _ _ _ _ h1 h2] at hc
  rw [setB_mid _ _ _ _ _ h1 h2, nF_append, ms_append]
  have hp := look_part hk (ms k (x :: L2) (0 + L1.length) (0 + (aF L1).size) (cE L1 0 0)) L1 0 0 0 ⟨#[]⟩ ⟨#[]⟩ (setB (Rec.payB x.1) (n - (aF L1).size) c ++ aF L2) (nF (0 + L1.length) (x :: L2)) rfl (by rw [nodes_zero]; rfl) hok.1
  rw [nilap, nilap] at hp
  rw [hp]
  refine if_pos (.inl ?_)
  have hm : (mkOf k x (0 + L1.length) (0 + (aF L1).size) (cE L1 0 0)).items = 0 + (aF L1).size + (Rec.payB x.1).size := rfl
  rw [hm, ext_mid _ (setB (Rec.payB x.1) (n - (aF L1).size) c) _ (Nat.zero_add _) (by rw [setB_size])]
  rw [Bool.eq_false_iff]
  intro hbad
  have hw := whole_turn (s := Rec.payB x.1) (by rw [Rec.payB_seal hx1]; exact Rec.whole_seal _) (by have := payB_pos x hx1; omega) (by omega) hc
  rw [pay_whole hbad] at hw
  cases hw
theorem look_nodes {k : Nat} (hk : k ≤ 32) {L : List It} (hL : okL k 0 L) {n : Nat} {c : UInt8} (hn : n < (nF 0 L).size) (hc : (bytesOf (nF 0 L))[n]? ≠ some c) :
    lookF k (aF L) (setB (nF 0 L) n c) (ms k L 0 0 0) 0 0 0 = none := by
  obtain ⟨L1, x, L2, rfl, h1, h2⟩ := nF_at L 0 n hn
  have hok := (okL_append L1 (x :: L2) 0).1 hL
  obtain ⟨⟨_, hx2, hx3⟩, _⟩ := hok.2
  have e : nF 0 (L1 ++ x :: L2) = nF 0 L1 ++ (catAll (rF (0 + L1.length) x) ++ nF (0 + L1.length + 1) L2) := by rw [nF_append]; rfl
  rw [e] at hc ⊢
  rw [byte_mid _ _ _ _ h1 h2] at hc
  rw [setB_mid _ _ _ _ _ h1 h2, aF_append, ms_append]
  have hp := look_part hk (ms k (x :: L2) (0 + L1.length) (0 + (aF L1).size) (cE L1 0 0)) L1 0 0 0 ⟨#[]⟩ ⟨#[]⟩ (aF (x :: L2)) (setB (catAll (rF (0 + L1.length) x)) (n - (nF 0 L1).size) c ++ nF (0 + L1.length + 1) L2) rfl (by rw [nodes_zero]; rfl) hok.1
  rw [nilap, nilap] at hp
  rw [hp]
  refine if_pos (.inr (.inl ?_))
  have hN1 := nF_size hk L1 0 hok.1
  rw [nodes_zero] at hN1
  obtain ⟨i, hi⟩ : ∃ i, i = 0 + L1.length := ⟨_, rfl⟩
  rw [← hi] at hc h2 hx2 hN1 ⊢
  obtain ⟨q, hq⟩ : ∃ q, q = n - (nF 0 L1).size := ⟨_, rfl⟩
  rw [← hq] at hc ⊢
  obtain ⟨l1, d, l2, hl, g1, g2⟩ := recs_at x.2 (nodes i) q (by have h : (catAll (rF i x)).size = (catAll (recsB (nodes i) x.2)).size := rfl; omega)
  have hd : d.size = k := hx3 d (by rw [hl]; simp)
  have hl1 : ∀ y ∈ l1, y.size ≤ 32 := fun y hy => by rw [hx3 y (by rw [hl]; simp [hy])]; exact hk
  have er : catAll (rF i x) = catAll (recsB (nodes i) l1) ++ (Rec.nodeB (nodes i + l1.length) d ++ catAll (recsB (nodes i + l1.length + 1) l2)) := by
    show catAll (recsB (nodes i) x.2) = _
    rw [hl, recsB_append, catAll_append]
    show _ ++ catAll (Rec.nodeB _ d :: recsB _ l2) = _
    rw [catAll_cons]
  rw [er] at hc ⊢
  rw [byte_mid _ _ _ _ g1 g2] at hc
  rw [setB_mid _ _ _ _ _ g1 g2]
  have hns : (Rec.nodeB (nodes i + l1.length) d).size = 40 := nodeB_size (by omega)
  have hrs := recs_size (nodes i) l1 hl1
  have hw := whole_turn (s := Rec.nodeB (nodes i + l1.length) d) (by unfold Rec.nodeB; rw [if_neg (by omega)]; exact Rec.whole_seal _) (by omega) (by omega) hc
  obtain ⟨t, ht⟩ : ∃ t, t = setB (Rec.nodeB (nodes i + l1.length) d) (q - (catAll (recsB (nodes i) l1)).size) c := ⟨_, rfl⟩
  rw [← ht] at hw ⊢
  have hts : t.size = 40 := by rw [ht, setB_size]; exact hns
  have hj : l1.length < nodes (i + 1) - nodes i := by rw [← hx2, hl]; simp
  have eN : nF 0 L1 ++ (catAll (recsB (nodes i) l1) ++ (t ++ catAll (recsB (nodes i + l1.length + 1) l2)) ++ nF (i + 1) L2) = (nF 0 L1 ++ catAll (recsB (nodes i) l1)) ++ (t ++ (catAll (recsB (nodes i + l1.length + 1) l2) ++ nF (i + 1) L2)) := by
    simp only [apass]
  rw [eN, Bool.eq_false_iff]
  intro hbad
  unfold madeOk at hbad
  have hb := List.all_eq_true.1 hbad l1.length (List.mem_range.2 hj)
  rw [ext_mid _ t _ (by rw [ByteArray.size_append, hrs]; omega) (by rw [hts])] at hb
  unfold Rec.nodeOk at hb
  rw [hw] at hb
  simp at hb
theorem mOk_left {k : Nat} (R : List Rec.Mk) : ∀ (l : List Rec.Mk) (i e : Nat), mOk k i e (l ++ R) → mOk k i e l
  | [], _, _, _ => trivial
  | m :: l, i, e, h => ⟨h.1, mOk_left R l _ _ h.2⟩
theorem markers_bad {k : Nat} (hk1 : 1 ≤ k) (hk : k ≤ 32) (t T : ByteArray) (ht : t.size = 64) (hz : isZero t = false) (hr : Rec.readMarkB t = none) (f : Nat) : ∀ (R acc : List Rec.Mk), (∀ m ∈ acc, m.k = (k : Int)) → mOk k acc.length ((acc.getLast?.map (·.items)).getD 0) R →
    markersF (k : Int) (mB acc ++ (mB R ++ (t ++ T))) (R.length + (f + 1)) acc = none
  | [], acc, hacc, _ => by
    have hs := mB_size hk1 hk acc hacc
    rw [show mB [] ++ (t ++ T) = t ++ T from nilap _, List.length_nil, Nat.zero_add]
    unfold markersF
    rw [ext_mid (mB acc) t T hs.symm (by rw [ht]), hz, hr]
    rw [if_neg (by simp)]
  | m :: R, acc, hacc, h => by
    obtain ⟨⟨h1, h2, h3, h4, h5, h6⟩, hr'⟩ := h
    have hmk : 1 ≤ m.k ∧ m.k ≤ 32 := by omega
    have hs := mB_size hk1 hk acc hacc
    have e1 : (mB acc ++ (mB (m :: R) ++ (t ++ T))).extract (64 * acc.length) (64 * acc.length + 64) = Rec.markB m := by
      show (mB acc ++ (Rec.markB m ++ mB R ++ (t ++ T))).extract _ _ = _
      rw [apass]
      exact ext_mid _ _ _ hs.symm (by rw [Rec.mark_size m hmk.1 hmk.2])
    rw [List.length_cons, show R.length + 1 + (f + 1) = (R.length + (f + 1)) + 1 by omega]
    conv => lhs; unfold markersF
    rw [e1, if_neg (by rw [mark_notZero m hmk.1 hmk.2]; intro h; exact absurd h.2 (by decide)), Rec.readMark_back m h1 hmk.1 hmk.2]
    dsimp only
    rw [if_neg (by omega)]
    have e2 : mB acc ++ (mB (m :: R) ++ (t ++ T)) = mB (acc ++ [m]) ++ (mB R ++ (t ++ T)) := by
      rw [mB_append]
      show mB acc ++ (Rec.markB m ++ mB R ++ (t ++ T)) = mB acc ++ (Rec.markB m ++ ⟨#[]⟩) ++ _
      rw [apnil, apass, apass]
    rw [e2]
    exact markers_bad hk1 hk t T ht hz hr f R (acc ++ [m]) (by
      intro x hx
      rcases List.mem_append.1 hx with hx | hx
      · exact hacc x hx
      · rw [List.mem_singleton.1 hx]; exact h4) (by
      rw [List.length_append, List.getLast?_append]
      exact hr')
theorem markers_turned {k : Nat} (hk1 : 1 ≤ k) (hk : k ≤ 32) {L : List It} (hL : okL k 0 L) (hn : L.length ≤ 65536) (hA : (aF L).size < 18446744073709551616) {n : Nat} {c : UInt8} (hlt : n < (mL k L).size) (hc : (bytesOf (mL k L))[n]? ≠ some c) :
    markersF (k : Int) (setB (mL k L) n c) ((setB (mL k L) n c).size / 64) [] = none := by
  have hok := ms_ok hk L 0 0 0 hL (by omega) (by omega)
  have hks := ms_k k L 0 0 0
  have hsz := mB_size hk1 hk _ hks
  rw [setB_size]
  unfold mL at hlt hc ⊢
  rw [hsz, show 64 * (ms k L 0 0 0).length / 64 = (ms k L 0 0 0).length by omega]
  obtain ⟨l1, m, l2, e, h1, h2⟩ := mB_at _ n hlt
  rw [e] at hok hks hc ⊢
  have e2 : mB (l1 ++ m :: l2) = mB l1 ++ (Rec.markB m ++ mB l2) := by rw [mB_append]; rfl
  rw [e2] at hc ⊢
  rw [byte_mid _ _ _ _ h1 h2] at hc
  rw [setB_mid _ _ _ _ _ h1 h2, List.length_append, List.length_cons]
  have hmk : m.k = (k : Int) := hks m (by simp)
  have hm64 : (Rec.markB m).size = 64 := Rec.mark_size m (by omega) (by omega)
  have hw := whole_turn (s := Rec.markB m) (by unfold Rec.markB; rw [if_neg (by omega)]; exact Rec.whole_seal _) (by omega) (by omega) hc
  have hr : Rec.readMarkB (setB (Rec.markB m) (n - (mB l1).size) c) = none := by
    have hv := Rec.readMark_err (.inr hw)
    unfold Rec.readMarkV at hv
    cases hq : Rec.readMarkB (setB (Rec.markB m) (n - (mB l1).size) c) with
    | none => rfl
    | some y => rw [hq] at hv; simp at hv
  have hz : isZero (setB (Rec.markB m) (n - (mB l1).size) c) = false := by
    obtain ⟨l, hl⟩ := mark_head m (by omega) (by omega)
    unfold isZero
    rw [bytes_setB, hl]
    rcases n - (mB l1).size with _ | j
    · simp
    · simp
  have := markers_bad hk1 hk _ (mB l2) (by rw [setB_size]; exact hm64) hz hr l2.length l1 [] (by intro m hm; cases hm) (mOk_left _ _ _ _ hok)
  rw [show mB [] ++ _ = _ from nilap _] at this
  exact this
/-- Which byte of which of the three is another one. -/
def Turned (k : Nat) (L : List It) (A M N : ByteArray) : Prop := ∃ (n : Nat) (c : UInt8),
  (n < (aF L).size ∧ (bytesOf (aF L))[n]? ≠ some c ∧ A = setB (aF L) n c ∧ M = mL k L ∧ N = nF 0 L) ∨
  (n < (mL k L).size ∧ (bytesOf (mL k L))[n]? ≠ some c ∧ A = aF L ∧ M = setB (mL k L) n c ∧ N = nF 0 L) ∨
  (n < (nF 0 L).size ∧ (bytesOf (nF 0 L))[n]? ≠ some c ∧ A = aF L ∧ M = mL k L ∧ N = setB (nF 0 L) n c)
theorem short_good {k : Nat} (hk1 : 1 ≤ k) (hk : k ≤ 32) {L : List It} (hL : okL k 0 L) {A N : ByteArray} (hA : A.size = (aF L).size) (hN : N.size = (nF 0 L).size) : tooShort A N (ms k L 0 0 0) = false := by
  have hN2 := nL_size hk hL
  rcases List.eq_nil_or_concat L with rfl | ⟨M, y, rfl⟩
  · rfl
  · rw [List.concat_eq_append] at hA hN hN2 ⊢
    unfold tooShort
    rw [ms_append, List.getLast?_append]
    show decide (_ ∨ _) = false
    apply decide_eq_false
    intro h
    rcases h with h | h
    · have h : A.size < 0 + (aF M).size + (Rec.payB y.1).size := h
      rw [hA, aF_snoc, ByteArray.size_append] at h
      omega
    · have h : N.size < 40 * nodes (0 + M.length + 1) := h
      rw [hN, hN2, List.length_append, List.length_singleton, Nat.zero_add] at h
      omega
theorem open_turned {d : Dk.St} (hd : d.down = false) {k : Nat} (hk1 : 1 ≤ k) (hk : k ≤ 32) {L : List It} (hL : okL k 0 L) (hn : L.length ≤ 65536) (hA : (aF L).size < 18446744073709551616) {A M N : ByteArray}
    (h : Turned k L A M N) (h1 : (Dk.get d.files nItems).now = A) (h2 : (Dk.get d.files nMarks).now = M) (h3 : (Dk.get d.files nNodes).now = N) : openA d (k : Int) = (190, none, d) := by
  have hmarks := markers_good hk1 hk ⟨#[]⟩ (ms k L 0 0 0) [] (by intro m hm; cases hm) (ms_ok hk L 0 0 0 hL (by omega) (by omega))
  rw [List.nil_append, apnil, show mB [] ++ mB (ms k L 0 0 0) = mL k L from nilap _] at hmarks
  have hM := mL_size hk1 hk L
  have hmk : (mL k L).size / 64 = (ms k L 0 0 0).length := by rw [ms_len]; omega
  unfold openA
  rw [if_neg (by omega), if_neg (by rw [hd]; decide), h1, h2, h3]
  obtain ⟨n, c, h | h | h⟩ := h
  · obtain ⟨g1, g2, rfl, rfl, rfl⟩ := h
    rw [hmk, hmarks]
    dsimp only
    rw [if_neg (by rw [short_good hk1 hk hL (setB_size _ _ _) rfl]; decide), Int.toNat_natCast, look_items hk hL g1 g2]
  · obtain ⟨g1, g2, rfl, rfl, rfl⟩ := h
    rw [markers_turned hk1 hk hL hn hA g1 g2]
  · obtain ⟨g1, g2, rfl, rfl, rfl⟩ := h
    rw [hmk, hmarks]
    dsimp only
    rw [if_neg (by rw [short_good hk1 hk hL rfl (setB_size _ _ _)]; decide), Int.toNat_natCast, look_nodes hk hL g1 g2]
#print axioms open_turned
end Fl
end Go.Proofs.YtbfbajfdlkgloaaGreatDoor
