/-
  What a store's three files hold of a list of items with their nodes, and what the store tells of them, in plain Lean. No program in sight.
-/
import Derived.Test.YtbfbajfdlkgloaaGreatDoorG20

namespace Go.Proofs.YtbfbajfdlkgloaaGreatDoor
open Go Go.RowKit
namespace Fl
abbrev It := ByteArray × List ByteArray
def okL (k : Nat) : Nat → List It → Prop
  | _, [] => True
  | i, x :: r => (x.1.size ≤ 1048576 ∧ x.2.length = nodes (i + 1) - nodes i ∧ ∀ d ∈ x.2, d.size = k) ∧ okL k (i + 1) r
def aF : List It → ByteArray
  | [] => ⟨#[]⟩
  | x :: r => Rec.payB x.1 ++ aF r
def rF (i : Nat) (x : It) : List ByteArray := recsB (nodes i) x.2
def nF : Nat → List It → ByteArray
  | _, [] => ⟨#[]⟩
  | i, x :: r => catAll (rF i x) ++ nF (i + 1) r
def mB : List Rec.Mk → ByteArray
  | [] => ⟨#[]⟩
  | m :: r => Rec.markB m ++ mB r
def cN (i c : Nat) (x : It) : Nat := Rec.chainB c (Rec.payB x.1) (rF i x)
def mkOf (k : Nat) (x : It) (i e c : Nat) : Rec.Mk := ⟨(k : Int), i + 1, e + (Rec.payB x.1).size, 40 * nodes (i + 1), cN i c x⟩
def ms (k : Nat) : List It → Nat → Nat → Nat → List Rec.Mk
  | [], _, _, _ => []
  | x :: r, i, e, c => mkOf k x i e c :: ms k r (i + 1) (e + (Rec.payB x.1).size) (cN i c x)
def cE : List It → Nat → Nat → Nat
  | [], _, c => c
  | x :: r, i, c => cE r (i + 1) (cN i c x)
def endsF : List It → Nat → List Nat
  | [], _ => []
  | x :: r, e => (e + (Rec.payB x.1).size) :: endsF r (e + (Rec.payB x.1).size)
def stOf (k : Nat) (L : List It) : St := ⟨k, endsF L 0, cE L 0 0, false⟩
/-! bytes -/
theorem apnil (a : ByteArray) : a ++ (⟨#[]⟩ : ByteArray) = a := Rec.bytes_inj (by rw [Rec.bytes_append]; show _ ++ [] = _; simp)
theorem nilap (a : ByteArray) : (⟨#[]⟩ : ByteArray) ++ a = a := Rec.bytes_inj (by rw [Rec.bytes_append]; show [] ++ _ = _; simp)
theorem apass (a b c : ByteArray) : a ++ b ++ c = a ++ (b ++ c) := Rec.bytes_inj (by simp [Rec.bytes_append])
theorem ext_mid (X Y Z : ByteArray) {i j : Nat} (hi : i = X.size) (hj : j = i + Y.size) : (X ++ (Y ++ Z)).extract i j = Y := by
  apply Rec.bytes_inj
  rw [Rec.bytes_extract, Rec.bytes_append, Rec.bytes_append]
  have h1 : (bytesOf X).length = i := by rw [Rec.bytes_length, hi]
  have h2 : (bytesOf Y).length = j - i := by rw [Rec.bytes_length]; omega
  rw [List.take_append, List.drop_append, List.length_take, h1, List.take_of_length_le (by omega), List.drop_of_length_le (by omega), List.nil_append,
    List.take_append, List.drop_append, h2, List.take_of_length_le (by omega), Nat.min_eq_right (by omega)]
  simp [h2]
theorem catAll_cons (x : ByteArray) (l : List ByteArray) : catAll (x :: l) = x ++ catAll l := by
  have h : ∀ (l : List ByteArray) (s : ByteArray), Rec.catB s l = s ++ catAll l := by
    intro l
    induction l with
    | nil => intro s; exact (apnil s).symm
    | cons y l ih =>
      intro s
      show Rec.catB (s ++ y) l = s ++ Rec.catB (⟨#[]⟩ ++ y) l
      rw [ih, ih, nilap, apass]
  show Rec.catB (⟨#[]⟩ ++ x) l = _
  rw [h, nilap]
theorem catAll_append (l m : List ByteArray) : catAll (l ++ m) = catAll l ++ catAll m := by
  induction l with
  | nil => exact (nilap _).symm
  | cons x l ih => rw [List.cons_append, catAll_cons, catAll_cons, ih, apass]
theorem nodeB_size {d : ByteArray} {p : Nat} (h : d.size ≤ 32) : (Rec.nodeB p d).size = 40 := by
  unfold Rec.nodeB
  rw [if_neg (by omega), Rec.sealB_size, ByteArray.size_append, ByteArray.size_append, Rec.zeroB_size, Rec.numB_size]
  omega
theorem recs_size (p : Nat) (l : List ByteArray) (h : ∀ d ∈ l, d.size ≤ 32) : (catAll (recsB p l)).size = 40 * l.length := by
  induction l generalizing p with
  | nil => rfl
  | cons d l ih =>
    unfold recsB
    rw [catAll_cons, ByteArray.size_append, nodeB_size (h d (by simp)), ih _ (fun x hx => h x (by simp [hx])), List.length_cons]
    omega
theorem rF_len (i : Nat) (x : It) : (rF i x).length = x.2.length := recsB_len _ _
theorem rF_size {k i : Nat} {x : It} (hk : k ≤ 32) (h : ∀ d ∈ x.2, d.size = k) : (catAll (rF i x)).size = 40 * x.2.length :=
  recs_size _ _ fun d hd => by rw [h d hd]; exact hk
theorem nodes_zero : nodes 0 = 0 := by decide
theorem nF_size {k : Nat} (hk : k ≤ 32) : ∀ (L : List It) (i : Nat), okL k i L → (nF i L).size + 40 * nodes i = 40 * nodes (i + L.length)
  | [], i, _ => Nat.zero_add _
  | x :: r, i, h => by
    have h2 := nF_size hk r (i + 1) h.2
    unfold nF
    rw [ByteArray.size_append, rF_size hk h.1.2.2, h.1.2.1]
    have := nodes_mono i
    rw [List.length_cons, show i + (r.length + 1) = i + 1 + r.length by omega]
    omega
/-! how lists end -/
theorem okL_append {k : Nat} : ∀ (L M : List It) (i : Nat), okL k i (L ++ M) ↔ okL k i L ∧ okL k (i + L.length) M
  | [], M, i => by simp [okL]
  | x :: r, M, i => by
    show (_ ∧ okL k (i + 1) (r ++ M)) ↔ (_ ∧ okL k (i + 1) r) ∧ okL k (i + (r.length + 1)) M
    rw [okL_append r M (i + 1), show i + (r.length + 1) = i + 1 + r.length by omega]
    exact and_assoc.symm
theorem aF_append : ∀ (L M : List It), aF (L ++ M) = aF L ++ aF M
  | [], M => (nilap _).symm
  | x :: r, M => by show Rec.payB x.1 ++ aF (r ++ M) = Rec.payB x.1 ++ aF r ++ aF M; rw [aF_append r M, apass]
theorem nF_append : ∀ (L M : List It) (i : Nat), nF i (L ++ M) = nF i L ++ nF (i + L.length) M
  | [], M, i => (nilap _).symm
  | x :: r, M, i => by
    show catAll (rF i x) ++ nF (i + 1) (r ++ M) = catAll (rF i x) ++ nF (i + 1) r ++ nF (i + (r.length + 1)) M
    rw [nF_append r M (i + 1), apass, show i + (r.length + 1) = i + 1 + r.length by omega]
theorem cE_append : ∀ (L M : List It) (i c : Nat), cE (L ++ M) i c = cE M (i + L.length) (cE L i c)
  | [], M, i, c => rfl
  | x :: r, M, i, c => by
    show cE (r ++ M) (i + 1) _ = cE M (i + (r.length + 1)) _
    rw [cE_append r M (i + 1), show i + (r.length + 1) = i + 1 + r.length by omega]
    rfl
theorem endsF_append : ∀ (L M : List It) (e : Nat), endsF (L ++ M) e = endsF L e ++ endsF M (e + (aF L).size)
  | [], M, e => by show endsF M e = [] ++ endsF M (e + 0); simp
  | x :: r, M, e => by
    show _ :: endsF (r ++ M) _ = _ :: (endsF r _ ++ endsF M (e + (Rec.payB x.1 ++ aF r).size))
    rw [endsF_append r M, ByteArray.size_append, Nat.add_assoc]
theorem ms_append (k : Nat) : ∀ (L M : List It) (i e c : Nat), ms k (L ++ M) i e c = ms k L i e c ++ ms k M (i + L.length) (e + (aF L).size) (cE L i c)
  | [], M, i, e, c => by show ms k M i e c = [] ++ ms k M (i + 0) (e + 0) c; simp
  | x :: r, M, i, e, c => by
    show _ :: ms k (r ++ M) _ _ _ = _ :: (ms k r _ _ _ ++ ms k M (i + (r.length + 1)) (e + (Rec.payB x.1 ++ aF r).size) _)
    rw [ms_append k r M, ByteArray.size_append, show i + (r.length + 1) = i + 1 + r.length by omega, Nat.add_assoc e]
    rfl
theorem mB_append : ∀ (l m : List Rec.Mk), mB (l ++ m) = mB l ++ mB m
  | [], m => (nilap _).symm
  | x :: r, m => by show Rec.markB x ++ mB (r ++ m) = Rec.markB x ++ mB r ++ mB m; rw [mB_append r m, apass]
theorem ms_len (k : Nat) : ∀ (L : List It) (i e c : Nat), (ms k L i e c).length = L.length
  | [], _, _, _ => rfl
  | x :: r, i, e, c => by show (ms k r _ _ _).length + 1 = _; rw [ms_len k r]; rfl
theorem endsF_len : ∀ (L : List It) (e : Nat), (endsF L e).length = L.length
  | [], _ => rfl
  | x :: r, e => by show (endsF r _).length + 1 = _; rw [endsF_len r]; rfl
theorem ms_items (k : Nat) : ∀ (L : List It) (i e c : Nat), (ms k L i e c).map (·.items) = endsF L e
  | [], _, _, _ => rfl
  | x :: r, i, e, c => by show _ :: (ms k r _ _ _).map (·.items) = _; rw [ms_items k r]; rfl
theorem aF_size : ∀ (L : List It), (aF L).size = (L.map fun x => (Rec.payB x.1).size).sum
  | [] => rfl
  | x :: r => by show (Rec.payB x.1 ++ aF r).size = _; rw [ByteArray.size_append, aF_size r]; rfl
theorem endsF_last : ∀ (L : List It) (e : Nat), (endsF L e).getLastD e = e + (aF L).size
  | [], e => rfl
  | x :: r, e => by
    show (_ :: endsF r (e + (Rec.payB x.1).size)).getLastD e = e + (Rec.payB x.1 ++ aF r).size
    have h := endsF_last r (e + (Rec.payB x.1).size)
    rw [ByteArray.size_append, ← Nat.add_assoc, ← h]
    cases endsF r (e + (Rec.payB x.1).size) with
    | nil => rfl
    | cons y l => rw [List.getLastD_cons, List.getLastD_cons]
theorem fin_stOf (k : Nat) (L : List It) : (stOf k L).fin = (aF L).size := by
  have h := endsF_last L 0
  rw [Nat.zero_add] at h
  exact h
theorem ends_get (L1 L2 : List It) (x : It) (d : Nat) : (endsF (L1 ++ x :: L2) 0).getD L1.length d = (aF L1).size + (Rec.payB x.1).size := by
  rw [endsF_append, List.getD_eq_getElem?_getD, List.getElem?_append_right (by rw [endsF_len]; exact Nat.le_refl _), endsF_len, Nat.sub_self]
  show ((0 + (aF L1).size + (Rec.payB x.1).size)) = _
  rw [Nat.zero_add]
theorem begins_get (k : Nat) (L1 L2 : List It) (x : It) : begins (stOf k (L1 ++ x :: L2)) L1.length = (aF L1).size := by
  unfold begins
  rcases List.eq_nil_or_concat L1 with rfl | ⟨M, y, rfl⟩
  · rfl
  · rw [List.concat_eq_append]
    rw [if_neg (by simp), List.length_append, List.length_singleton, Nat.add_sub_cancel]
    show (endsF (M ++ [y] ++ x :: L2) 0).getD M.length 0 = _
    rw [List.append_assoc, List.singleton_append, ends_get, aF_append, ByteArray.size_append]
    show _ = _ + (Rec.payB y.1 ++ ⟨#[]⟩).size
    rw [apnil]
theorem cN_lt (i c : Nat) (x : It) : cN i c x < 4294967296 := Rec.sumB_lt _
theorem cE_lt : ∀ (L : List It) (i c : Nat), c < 4294967296 → cE L i c < 4294967296
  | [], _, _, h => h
  | x :: r, i, c, _ => cE_lt r _ _ (cN_lt i c x)
/-! ### what is read back -/
theorem pay_ok {b : ByteArray} (h : b.size ≤ 1048576) : payOk (Rec.payB b) = true := by
  have := Rec.readPay_back b ⟨#[]⟩ h
  rw [apnil] at this
  unfold payOk
  rw [this]
  show (b.size + 8 == (Rec.payB b).size) = true
  rw [Rec.payB_size b h]; simp
theorem node_take {d : ByteArray} {p : Nat} (h : d.size ≤ 32) : (Rec.nodeB p d).extract 0 d.size = d := by
  rw [Rec.node_body rfl h]
  unfold Rec.sealB
  apply Rec.bytes_inj
  rw [Rec.bytes_extract, Rec.bytes_append, Rec.bytes_append, Rec.bytes_append]
  rw [List.drop_zero, List.append_assoc, List.append_assoc, Rec.take_left (Rec.bytes_length d).symm]
theorem node_ok {d : ByteArray} {p : Nat} (h : d.size ≤ 32) : Rec.nodeOk d.size p (Rec.nodeB p d) = true := by
  refine (Rec.node_eq (Rec.nodeB p d) d.size p h (nodeB_size h)).1 ?_
  rw [node_take h]
theorem made_good {k : Nat} (hk : k ≤ 32) : ∀ (l : List ByteArray) (p : Nat) (P T : ByteArray), P.size = 40 * p → (∀ d ∈ l, d.size = k) →
    madeF (P ++ (catAll (recsB p l) ++ T)) p l.length = recsB p l ∧ ∀ j d, l[j]? = some d → (P ++ (catAll (recsB p l) ++ T)).extract (40 * (p + j)) (40 * (p + j) + 40) = Rec.nodeB (p + j) d
  | [], p, P, T, _, _ => ⟨rfl, fun j d h => by simp at h⟩
  | x :: l, p, P, T, hP, h => by
    have hx : x.size ≤ 32 := by rw [h x (by simp)]; exact hk
    have e : P ++ (catAll (recsB p (x :: l)) ++ T) = (P ++ Rec.nodeB p x) ++ (catAll (recsB (p + 1) l) ++ T) := by
      show P ++ (catAll (Rec.nodeB p x :: recsB (p + 1) l) ++ T) = _
      rw [catAll_cons, apass, apass]
    have hP2 : (P ++ Rec.nodeB p x).size = 40 * (p + 1) := by rw [ByteArray.size_append, nodeB_size hx]; omega
    obtain ⟨h1, h2⟩ := made_good hk l (p + 1) (P ++ Rec.nodeB p x) T hP2 (fun d hd => h d (by simp [hd]))
    have h0 : (P ++ (catAll (recsB p (x :: l)) ++ T)).extract (40 * p) (40 * p + 40) = Rec.nodeB p x := by
      show (P ++ (catAll (Rec.nodeB p x :: recsB (p + 1) l) ++ T)).extract _ _ = _
      rw [catAll_cons, apass]
      exact ext_mid P _ _ hP.symm (by rw [nodeB_size hx])
    refine ⟨?_, ?_⟩
    · show (P ++ (catAll (recsB p (x :: l)) ++ T)).extract (40 * p) (40 * p + 40) :: madeF (P ++ (catAll (recsB p (x :: l)) ++ T)) (p + 1) l.length = Rec.nodeB p x :: recsB (p + 1) l
      rw [h0, e, h1]
    · intro j d hj
      cases j with
      | zero =>
        rw [List.getElem?_cons_zero] at hj
        injection hj with hj
        subst hj
        exact h0
      | succ j =>
        rw [List.getElem?_cons_succ] at hj
        have := h2 j d hj
        rw [e, show p + (j + 1) = p + 1 + j by omega]
        exact this
theorem madeOk_good {k : Nat} (hk : k ≤ 32) (l : List ByteArray) (p : Nat) (P T : ByteArray) (hP : P.size = 40 * p) (h : ∀ d ∈ l, d.size = k) :
    madeOk k (P ++ (catAll (recsB p l) ++ T)) p l.length = true := by
  unfold madeOk
  rw [List.all_eq_true]
  intro j hj
  have hj := List.mem_range.1 hj
  rw [(made_good hk l p P T hP h).2 j l[j] (List.getElem?_eq_getElem hj)]
  have hs := h l[j] (List.getElem_mem hj)
  have := node_ok (p := p + j) (d := l[j]) (by omega)
  rw [hs] at this
  exact this
theorem look_good {k : Nat} (hk : k ≤ 32) : ∀ (L : List It) (i e c : Nat) (A1 N1 ta tn : ByteArray), A1.size = e → N1.size = 40 * nodes i → okL k i L →
    lookF k (A1 ++ (aF L ++ ta)) (N1 ++ (nF i L ++ tn)) (ms k L i e c) i e c = some (cE L i c)
  | [], i, e, c, A1, N1, ta, tn, _, _, _ => rfl
  | x :: r, i, e, c, A1, N1, ta, tn, hA, hN, h => by
    obtain ⟨⟨hx1, hx2, hx3⟩, hr⟩ := h
    have eA : A1 ++ (aF (x :: r) ++ ta) = A1 ++ (Rec.payB x.1 ++ (aF r ++ ta)) := by show A1 ++ (Rec.payB x.1 ++ aF r ++ ta) = _; rw [apass]
    have eN : N1 ++ (nF i (x :: r) ++ tn) = N1 ++ (catAll (rF i x) ++ (nF (i + 1) r ++ tn)) := by show N1 ++ (catAll (rF i x) ++ nF (i + 1) r ++ tn) = _; rw [apass]
    rw [eA, eN]
    show (if _ then none else _) = _
    have e1 : (A1 ++ (Rec.payB x.1 ++ (aF r ++ ta))).extract e (e + (Rec.payB x.1).size) = Rec.payB x.1 := ext_mid _ _ _ hA.symm rfl
    have e2 : madeOk k (N1 ++ (catAll (rF i x) ++ (nF (i + 1) r ++ tn))) (nodes i) (nodes (i + 1) - nodes i) = true := by
      rw [← hx2]; exact madeOk_good hk x.2 (nodes i) N1 _ hN hx3
    have e3 : madeF (N1 ++ (catAll (rF i x) ++ (nF (i + 1) r ++ tn))) (nodes i) (nodes (i + 1) - nodes i) = rF i x := by
      rw [← hx2]; exact (made_good hk x.2 (nodes i) N1 _ hN hx3).1
    have hm : (mkOf k x i e c).items = e + (Rec.payB x.1).size := rfl
    rw [if_neg (by
      rw [hm, e1, e2, e3]
      intro h
      rcases h with h | h | h
      · rw [pay_ok hx1] at h; cases h
      · cases h
      · exact h rfl)]
    rw [hm, ← apass A1, ← apass N1]
    have := nodes_mono i
    exact look_good hk r (i + 1) (e + (Rec.payB x.1).size) (cN i c x) (A1 ++ Rec.payB x.1) (N1 ++ catAll (rF i x)) ta tn (by rw [ByteArray.size_append, hA]) (by rw [ByteArray.size_append, hN, rF_size hk hx3, hx2]; omega) hr
/-! markers -/
theorem mark_head (m : Rec.Mk) (h1 : 1 ≤ m.k) (h2 : m.k ≤ 32) : ∃ l, bytesOf (Rec.markB m) = 109 :: 115 :: l := by
  obtain ⟨C, _, h⟩ := Rec.mark_bytes m h1 h2
  rw [h]
  exact ⟨_, rfl⟩
theorem mark_notZero (m : Rec.Mk) (h1 : 1 ≤ m.k) (h2 : m.k ≤ 32) : isZero (Rec.markB m) = false := by
  obtain ⟨l, h⟩ := mark_head m h1 h2
  unfold isZero
  rw [h]; rfl
/-- Markers that follow one another. -/
def mOk (k : Nat) : Nat → Nat → List Rec.Mk → Prop
  | _, _, [] => True
  | i, e, m :: r => (m.ok ∧ i < 65536 ∧ m.size = i + 1 ∧ m.k = (k : Int) ∧ e < m.items ∧ m.nodes = 40 * nodes (i + 1)) ∧ mOk k (i + 1) m.items r
theorem mB_size {k : Nat} (hk1 : 1 ≤ k) (hk : k ≤ 32) : ∀ (l : List Rec.Mk), (∀ m ∈ l, m.k = (k : Int)) → (mB l).size = 64 * l.length
  | [], _ => rfl
  | m :: l, h => by
    have hm := h m (by simp)
    show (Rec.markB m ++ mB l).size = _
    rw [ByteArray.size_append, Rec.mark_size m (by omega) (by omega), mB_size hk1 hk l (fun x hx => h x (by simp [hx])), List.length_cons]
    omega
theorem markers_good {k : Nat} (hk1 : 1 ≤ k) (hk : k ≤ 32) (T : ByteArray) : ∀ (R acc : List Rec.Mk), (∀ m ∈ acc, m.k = (k : Int)) → mOk k acc.length ((acc.getLast?.map (·.items)).getD 0) R →
    markersF (k : Int) (mB acc ++ (mB R ++ T)) R.length acc = some (acc ++ R)
  | [], acc, _, _ => by simp [markersF]
  | m :: R, acc, hacc, h => by
    obtain ⟨⟨h1, h2, h3, h4, h5, h6⟩, hr⟩ := h
    have hmk : 1 ≤ m.k ∧ m.k ≤ 32 := by omega
    have hs := mB_size hk1 hk acc hacc
    have e1 : (mB acc ++ (mB (m :: R) ++ T)).extract (64 * acc.length) (64 * acc.length + 64) = Rec.markB m := by
      show (mB acc ++ (Rec.markB m ++ mB R ++ T)).extract _ _ = _
      rw [apass]
      exact ext_mid _ _ _ hs.symm (by rw [Rec.mark_size m hmk.1 hmk.2])
    show (if _ then _ else _) = _
    rw [e1, if_neg (by rw [mark_notZero m hmk.1 hmk.2]; intro h; exact absurd h.2 (by decide)), Rec.readMark_back m h1 hmk.1 hmk.2]
    dsimp only
    rw [if_neg (by omega)]
    have e2 : mB acc ++ (mB (m :: R) ++ T) = mB (acc ++ [m]) ++ (mB R ++ T) := by
      rw [mB_append]
      show mB acc ++ (Rec.markB m ++ mB R ++ T) = mB acc ++ (Rec.markB m ++ ⟨#[]⟩) ++ _
      rw [apnil, apass, apass]
    rw [e2, markers_good hk1 hk T R (acc ++ [m]) (by
      intro x hx
      rcases List.mem_append.1 hx with hx | hx
      · exact hacc x hx
      · rw [List.mem_singleton.1 hx]; exact h4) (by
      rw [List.length_append, List.getLast?_append]
      exact hr), List.append_assoc]
    rfl
theorem ms_k (k : Nat) : ∀ (L : List It) (i e c : Nat), ∀ m ∈ ms k L i e c, m.k = (k : Int)
  | [], _, _, _, m, h => by cases h
  | x :: r, i, e, c, m, h => by
    rcases List.mem_cons.1 h with rfl | h
    · rfl
    · exact ms_k k r _ _ _ m h
theorem payB_pos (x : It) (h : x.1.size ≤ 1048576) : 8 ≤ (Rec.payB x.1).size := by rw [Rec.payB_size x.1 h]; omega
theorem ms_ok {k : Nat} (hk : k ≤ 32) : ∀ (L : List It) (i e c : Nat), okL k i L → i + L.length ≤ 65536 → e + (aF L).size < 18446744073709551616 → mOk k i e (ms k L i e c)
  | [], _, _, _, _, _, _ => trivial
  | x :: r, i, e, c, h, hl, he => by
    have hp := payB_pos x h.1.1
    rw [List.length_cons] at hl
    have he2 : e + ((Rec.payB x.1).size + (aF r).size) < 18446744073709551616 := by
      have : (aF (x :: r)).size = (Rec.payB x.1).size + (aF r).size := ByteArray.size_append ..
      omega
    have hn := nodes_le (i + 1)
    refine ⟨⟨⟨Rec.wf_i64 (by show (-9223372036854775808 : Int) ≤ (k : Int); omega) (by show (k : Int) ≤ _; omega), ?_, ?_, ?_, cN_lt i c x⟩, by omega, rfl, rfl, ?_, rfl⟩, ?_⟩
    · show i + 1 < _; omega
    · show e + (Rec.payB x.1).size < _; omega
    · show 40 * nodes (i + 1) < _; omega
    · show e < e + (Rec.payB x.1).size; omega
    · exact ms_ok hk r (i + 1) (e + (Rec.payB x.1).size) _ h.2 (by omega) (by omega)
end Fl
end Go.Proofs.YtbfbajfdlkgloaaGreatDoor
