/-
  What the law's own functions say, as plain data: strengths, lists, digests made of nothing; the lists of items that come of them. No program in sight.
-/
import Derived.Test.YtbfbajfdlkgloaaGreatDoorG27
import Derived.Test.YtbfbajfdlkgloaaGreatDoorG02
import Derived.Test.YtbfbajfdlkgloaaGreatDoorG00

namespace Go.Proofs.YtbfbajfdlkgloaaGreatDoor
open Go Go.RowKit
namespace Fl
def strN (k : Int) : Nat := 1 + (k % 32).toNat
theorem strN_le (k : Int) : 1 ≤ strN k ∧ strN k ≤ 32 := by unfold strN; omega
def cut500 (s : ByteArray) : ByteArray := if 500 < s.size then s.extract 0 500 else s
theorem cut500_size (s : ByteArray) : (cut500 s).size ≤ 500 := by
  unfold cut500
  split
  · rw [ByteArray.size_extract]; omega
  · omega
def listL (l : List ByteArray) : List ByteArray := (l.take 12).map cut500
theorem listL_len (l : List ByteArray) : (listL l).length ≤ 12 := by unfold listL; rw [List.length_map, List.length_take]; omega
theorem listL_size {l : List ByteArray} {x : ByteArray} (h : x ∈ listL l) : x.size ≤ 500 := by
  unfold listL at h
  obtain ⟨y, _, rfl⟩ := List.mem_map.1 h
  exact cut500_size y
/-- The ones at a number's end. -/
def trailF : Nat → Nat → Nat
  | 0, _ => 0
  | f + 1, n => if n % 2 = 1 then 1 + trailF f (n / 2) else 0
def trail (n : Nat) : Nat := trailF 64 n
theorem trailF_le : ∀ f n, trailF f n ≤ f
  | 0, _ => Nat.le_refl _
  | f + 1, n => by unfold trailF; split <;> have := trailF_le f (n / 2) <;> omega
theorem ones_key (m j : Nat) : onesTo m (j + 1) = m % 2 + onesTo (m / 2) j := by
  unfold onesTo
  rw [List.range_succ_eq_map, List.map_cons, List.sum_cons, List.map_map]
  congr 1
  · simp
  · congr 1
    apply List.map_congr_left
    intro a _
    show m / 2 ^ (a + 1) % 2 = m / 2 / 2 ^ a % 2
    rw [Nat.pow_succ, Nat.mul_comm, Nat.div_div_eq_div_mul]
theorem trail_ones : ∀ (f n : Nat), n + 1 < 2 ^ f → onesTo (n + 1) f + trailF f n = onesTo n f + 1
  | 0, n, h => by omega
  | f + 1, n, h => by
    rw [ones_key, ones_key]
    unfold trailF
    rcases Nat.mod_two_eq_zero_or_one n with h2 | h2
    · rw [if_neg (by omega), show (n + 1) / 2 = n / 2 by omega]; omega
    · have h3 : n / 2 + 1 < 2 ^ f := by rw [Nat.pow_succ] at h; omega
      have := trail_ones f (n / 2) h3
      rw [if_pos h2, show (n + 1) / 2 = n / 2 + 1 by omega]; omega
theorem trail_nodes (n : Nat) (h : n < 18446744073709551615) : nodes (n + 1) - nodes n = 1 + trail n := by
  have h1 := trail_ones 64 n (by show n + 1 < 18446744073709551616; omega)
  have h2 : ones (n + 1) + trail n = ones n + 1 := h1
  have h3 := (ones_le (n + 1)).1
  have h4 := (ones_le n).1
  unfold nodes
  omega
def digOne (size k i : Nat) : ByteArray := ⟨((List.range k).map fun j => UInt8.ofNat (size + (7 * i + j))).toArray⟩
def digs (size k : Nat) : List ByteArray := (List.range (1 + trail size)).map (digOne size k)
theorem digOne_size (size k i : Nat) : (digOne size k i).size = k := by
  show ((List.range k).map _).toArray.size = k
  simp
theorem digs_len (size k : Nat) : (digs size k).length = 1 + trail size := by unfold digs; simp
theorem digs_size {size k : Nat} {d : ByteArray} (h : d ∈ digs size k) : d.size = k := by
  unfold digs at h
  obtain ⟨i, _, rfl⟩ := List.mem_map.1 h
  exact digOne_size size k i
/-- The items of a list with the digests that are made of nothing. -/
def its (k : Nat) : Nat → List ByteArray → List It
  | _, [] => []
  | i, x :: r => (x, digs i k) :: its k (i + 1) r
theorem its_len (k : Nat) : ∀ (l : List ByteArray) (i : Nat), (its k i l).length = l.length
  | [], _ => rfl
  | x :: r, i => by show (its k (i + 1) r).length + 1 = _; rw [its_len k r]; rfl
theorem its_append (k : Nat) : ∀ (l m : List ByteArray) (i : Nat), its k i (l ++ m) = its k i l ++ its k (i + l.length) m
  | [], m, i => rfl
  | x :: r, m, i => by
    show _ :: its k (i + 1) (r ++ m) = _ :: (its k (i + 1) r ++ its k (i + (r.length + 1)) m)
    rw [its_append k r m, show i + (r.length + 1) = i + 1 + r.length by omega]
theorem its_ok (k : Nat) : ∀ (l : List ByteArray) (i : Nat), i + l.length < 18446744073709551615 → (∀ x ∈ l, x.size ≤ 1048576) → okL k i (its k i l)
  | [], _, _, _ => trivial
  | x :: r, i, h, hx => by
    rw [List.length_cons] at h
    refine ⟨⟨hx x (by simp), ?_, fun d hd => digs_size hd⟩, its_ok k r (i + 1) (by omega) (fun y hy => hx y (by simp [hy]))⟩
    rw [digs_len, trail_nodes i (by omega)]
theorem its_size : ∀ (k : Nat) (l : List ByteArray) (i : Nat), (∀ x ∈ l, x.size ≤ 500) → (aF (its k i l)).size ≤ 508 * l.length
  | _, [], _, _ => Nat.le_refl _
  | k, x :: r, i, h => by
    have h1 := h x (by simp)
    have h2 := its_size k r (i + 1) (fun y hy => h y (by simp [hy]))
    show (Rec.payB x ++ aF (its k (i + 1) r)).size ≤ _
    rw [ByteArray.size_append, Rec.payB_size x (by omega), List.length_cons]
    omega
theorem its_get (k : Nat) (l : List ByteArray) (i : Nat) (x : ByteArray) (h : l[i]? = some x) : ∃ L1 L2, its k 0 l = L1 ++ (x, digs i k) :: L2 ∧ L1.length = i := by
  have hlt := (List.getElem?_eq_some_iff.1 h).1
  refine ⟨its k 0 (l.take i), its k (i + 1) (l.drop (i + 1)), ?_, by rw [its_len, List.length_take]; omega⟩
  have h1 : l = l.take i ++ x :: l.drop (i + 1) := by
    rw [List.getElem?_eq_getElem hlt] at h
    injection h with h
    rw [← h, ← List.drop_eq_getElem_cons hlt, List.take_append_drop]
  conv => lhs; rw [h1]
  rw [its_append, Nat.zero_add, List.length_take, Nat.min_eq_left (by omega)]
  rfl
theorem its_snoc (k : Nat) (l : List ByteArray) (x : ByteArray) : its k 0 (l ++ [x]) = its k 0 l ++ [(x, digs l.length k)] := by
  rw [its_append, Nat.zero_add]; rfl
theorem nodes_twelve (n : Nat) (h : n ≤ 13) : nodes n ≤ 26 := by have := nodes_le n; omega
/-- What a store tells of a list made so. -/
structure Has (d : Dk.St) (k : Nat) (l : List ByteArray) : Prop where
  up : d.down = false
  items : ∃ ta, (Dk.get d.files nItems).now = aF (its k 0 l) ++ ta
  nodes : ∃ tn, (Dk.get d.files nNodes).now = nF 0 (its k 0 l) ++ tn
theorem Has.item {d : Dk.St} {k : Nat} {l : List ByteArray} (h : Has d k l) {i : Nat} {x : ByteArray} (hi : l[i]? = some x) (hx : x.size ≤ 1048576) : itemA (stOf k (its k 0 l)) d i = (x, 0) := by
  obtain ⟨L1, L2, e, rfl⟩ := its_get k l i x hi
  obtain ⟨ta, ht⟩ := h.items
  rw [e] at ht ⊢
  exact item_good L1 L2 (x, digs L1.length k) d ta h.up ht hx
theorem Has.itemOut {d : Dk.St} {k : Nat} {l : List ByteArray} (i : Nat) (h : l.length ≤ i) : itemA (stOf k (its k 0 l)) d i = (⟨#[]⟩, 31) := item_out k _ d i (by rw [its_len]; exact h)
theorem Has.node {d : Dk.St} {k : Nat} (hk : k ≤ 32) {l : List ByteArray} (h : Has d k l) (hl : l.length ≤ 65536) (hs : ∀ x ∈ l, x.size ≤ 1048576) {i j : Nat} {y : ByteArray} (hi : i < l.length) (hj : (digs i k)[j]? = some y) : nodeA (stOf k (its k 0 l)) d (Fl.nodes i + j) = (y, 0) := by
  obtain ⟨x, hx⟩ : ∃ x, l[i]? = some x := ⟨_, List.getElem?_eq_getElem hi⟩
  obtain ⟨L1, L2, e, rfl⟩ := its_get k l i x hx
  obtain ⟨tn, ht⟩ := h.nodes
  have hok := its_ok k l 0 (by omega) hs
  rw [e] at ht hok ⊢
  exact node_good hk L1 L2 (x, digs L1.length k) d tn h.up ht hok j y hj
theorem Has.nodeOut {d : Dk.St} {k : Nat} {l : List ByteArray} (p : Nat) (h : Fl.nodes l.length ≤ p) : nodeA (stOf k (its k 0 l)) d p = (⟨#[]⟩, 31) := node_out k _ d p (by rw [its_len]; exact h)
theorem made_step {b : Dk.St} (hb : calm b) (hroom : 10000 ≤ b.room ∧ b.room ≤ 9223372036854775807) {k : Nat} (hk1 : 1 ≤ k) (hk : k ≤ 32) {l : List ByteArray} (hl : l.length ≤ 13) (hs : ∀ x ∈ l, x.size ≤ 500) {i : Nat} {x : ByteArray} (hi : l[i]? = some x) (acts : Nat) :
    addA (stOf k (its k 0 (l.take i))) (dOf b k (its k 0 (l.take i)) acts) x (digs i k) = (0, stOf k (its k 0 (l.take (i + 1))), dOf b k (its k 0 (l.take (i + 1))) (acts + 6)) := by
  have hlt := (List.getElem?_eq_some_iff.1 hi).1
  have hlen : (l.take i).length = i := by rw [List.length_take]; omega
  have e : its k 0 (l.take (i + 1)) = its k 0 (l.take i) ++ [(x, digs i k)] := by
    rw [List.take_add_one, hi]
    show its k 0 (l.take i ++ [x]) = _
    rw [its_snoc, hlen]
  have hsz : ∀ y ∈ l.take (i + 1), y.size ≤ 500 := fun y hy => hs y (List.mem_of_mem_take hy)
  have hlen1 : (l.take (i + 1)).length = i + 1 := by rw [List.length_take]; omega
  have hA := its_size k (l.take (i + 1)) 0 hsz
  have hok := its_ok k (l.take (i + 1)) 0 (by omega) (fun y hy => by have := hsz y hy; omega)
  rw [hlen1] at hA
  rw [e] at hA hok ⊢
  have hL : (its k 0 (l.take i)).length = i := by rw [its_len, hlen]
  have hn := nodes_twelve (i + 1) (by omega)
  have h := add_good hb hk1 hk (its k 0 (l.take i)) (x, digs i k) acts hok (by omega) (by omega) (by rw [hL]; omega) hroom.2
  exact h
/-- Another strength is refused where there are items. -/
theorem open_other {b : Dk.St} (hb : calm b) {k k2 : Nat} (hk1 : 1 ≤ k) (hk : k ≤ 32) (hk3 : 1 ≤ k2) (hk4 : k2 ≤ 32) (hne : k2 ≠ k) (x : It) (r : List It) (acts : Nat) (hL : okL k 0 (x :: r)) (hlen : (x :: r).length ≤ 65536) (hA : (aF (x :: r)).size < 18446744073709551616) :
    openA (dOf b k (x :: r) acts) (k2 : Int) = (190, none, dOf b k (x :: r) acts) := by
  have hM := mL_size hk1 hk (x :: r)
  have hmk : (Dk.get (dOf b k (x :: r) acts).files nMarks).now = mL k (x :: r) := rfl
  have hsz : (mL k (x :: r)).size / 64 = r.length + 1 := by rw [hM, List.length_cons]; omega
  obtain ⟨h1, h2, h3, h4, h5, h6⟩ := (ms_ok hk (x :: r) 0 0 0 hL (by omega) (by omega)).1
  have hex : (mL k (x :: r)).extract (64 * ([] : List Rec.Mk).length) (64 * ([] : List Rec.Mk).length + 64) = Rec.markB (mkOf k x 0 0 0) := by
    have h := ext_mid ⟨#[]⟩ (Rec.markB (mkOf k x 0 0 0)) (mB (ms k r 1 (0 + (Rec.payB x.1).size) (cN 0 0 x))) (i := 0) (j := 64) rfl (by rw [Rec.mark_size _ (by show (1 : Int) ≤ (k : Int); omega) (by show (k : Int) ≤ 32; omega)])
    rw [nilap] at h
    exact h
  have hno : markersF (k2 : Int) (mL k (x :: r)) (r.length + 1) [] = none := by
    show (if _ then _ else _) = _
    rw [hex, if_neg (by rw [mark_notZero _ (by show (1 : Int) ≤ (k : Int); omega) (by show (k : Int) ≤ 32; omega)]; intro h; exact absurd h.2 (by decide)), Rec.readMark_back _ h1 (by show (1 : Int) ≤ (k : Int); omega) (by show (k : Int) ≤ 32; omega)]
    dsimp only
    rw [if_pos (.inr (.inr (.inl (by show (k : Int) ≠ (k2 : Int); omega))))]
  unfold openA
  rw [if_neg (by omega), if_neg (by show ¬ b.down = true; rw [hb.1]; decide), hmk, hsz, hno]
end Fl
end Go.Proofs.YtbfbajfdlkgloaaGreatDoor

/-
  append onto a row of the call's own, told apart: in its own block, or in a new one (and then nothing that was has turned). No program in sight.
-/
namespace Go.Proofs.YtbfbajfdlkgloaaGreatDoor
open Go Go.RowKit
section
variable {P : Program} (w : World)
theorem run_append_apart (base : Nat) (t ty e : TypeId) (i : TypeInfo) (z : Value) (size bytes : Nat) (ht : P.underlying t = some (.slice e)) (hi : P.info? e = some i) (hz : i.zero = some z)
    (hsize : i.size = size) (hby : i.bytes = bytes) (hzs : z.cells.size = size) (hsz : 0 < size) (v : Value) (n : Nat) (xs : List Value) (hown : w.ownsRow base e size v n xs)
    (a : Addr) (m c : Nat) (news : List Value) (hl : news.length = m * size) (hnews : ∀ j u, news[j]? = some u → w.cell? (a.add j) = some u) (h1 : ∀ u ∈ news, u.oneCell' = true)
    (h63 : n + m ≤ maxLen) (hbytes : (n + m) * bytes ≤ 140737488355328) (hbase : base ≤ w.heap.size) :
    ∃ v' w', (Builtin.append_ #[t, t] ty #[v, .slice (some a) m c]).run P w = .ok v' w' ∧ w'.ownsRow base e size v' (n + m) (xs ++ news) ∧
      ((v'.ownBlock = v.ownBlock ∧ w.grownBy w' v.ownBlock) ∨ ((∀ k, v'.ownBlock = some k → w.heap.size ≤ k) ∧ Below w.heap.size w w')) := by
  obtain ⟨v', w', hr, h2, h3, h4⟩ := run_append_own (P := P) w base t ty e i z size bytes ht hi hz hsize hby hzs hsz v n xs hown a m c news hl hnews h1 h63 hbytes hbase
  refine ⟨v', w', hr, h2, ?_⟩
  have hm63 : n + m ≤ 9223372036854775807 := by simp only [maxLen] at h63; omega
  subst hsize
  subst hby
  rcases hown.2 with ⟨rfl, rfl⟩ | ⟨g, cap, cur, rfl, hbg, hg, hnc, hcm, hcs, htake⟩
  · by_cases hm : m = 0
    · have hv := h4.2 ⟨rfl, hm⟩
      subst hv
      exact .inl ⟨rfl, h3⟩
    · rw [run_append_nil (P := P) w t ty e i z ht hi hz a m c news hl hnews (by omega) (by omega) (by have hb := hbytes; simp only [Nat.zero_add] at hb; omega)] at hr
      injection hr with e1 e2
      subst e1; subst e2
      exact .inr ⟨fun k hk => by injection hk with hk; exact Nat.le_of_eq hk, ((Below.refl _ _).drew).alloc (by simp) _⟩
  · by_cases hroom : n + m ≤ cap
    · have hfit : n * i.size + news.length ≤ cur.size := by rw [hl, hcs, ← Nat.add_mul]; exact Nat.mul_le_mul_right _ hroom
      rw [run_append_room (P := P) w t ty e i ht hi g n cap cur hg a m c news hl hnews h1 hroom hfit] at hr
      injection hr with e1 e2
      subst e1
      exact .inl ⟨rfl, h3⟩
    · have holds : ∀ j u, xs[j]? = some u → w.cell? ((⟨g, 0, none⟩ : Addr).add j) = some u := hown.cells (g := g) rfl
      rw [run_append_grow (P := P) w t ty e i z ht hi hz ⟨g, 0, none⟩ n cap xs hown.1 holds a m c news hl hnews (by omega) (by omega) (growslice_fits (by omega) hbytes)] at hr
      injection hr with e1 e2
      subst e1; subst e2
      exact .inr ⟨fun k hk => by injection hk with hk; exact Nat.le_of_eq hk, ((Below.refl _ _).drew).alloc (by simp) _⟩
end
theorem wp_append_apart {P : Program} {w : World} {o : Oper} {a : Act} {K : Act → World → Prop} {Q : Exit → Act → World → Prop} (s x : Operand) (t : TypeId)
    (ho : o.op = .call { callee := .builtin .append, args := #[s, x], argTypes := #[t, t] })
    (base : Nat) (e : TypeId) (z : Value) (size bytes : Nat) (ht : P.underlying t = some (.slice e)) (hi : (P.info? e).map (fun i => (i.zero, i.size, i.bytes)) = some (some z, size, bytes)) (hzs : z.cells.size = size) (hsz : 0 < size)
    (v : Value) (n : Nat) (xs : List Value) (hs : a.eval s = v) (hown : w.ownsRow base e size v n xs)
    (ad : Addr) (m c : Nat) (news : List Value) (hx : a.eval x = .slice (some ad) m c) (hl : news.length = m * size) (hnews : ∀ j u, news[j]? = some u → w.cell? (ad.add j) = some u) (h1 : ∀ u ∈ news, u.oneCell' = true)
    (h63 : n + m ≤ maxLen) (hbytes : (n + m) * bytes ≤ 140737488355328) (hbase : base ≤ w.heap.size)
    (h : ∀ v' w', w'.ownsRow base e size v' (n + m) (xs ++ news) → ((v'.ownBlock = v.ownBlock ∧ w.grownBy w' v.ownBlock) ∨ ((∀ k, v'.ownBlock = some k → w.heap.size ≤ k) ∧ Below w.heap.size w w')) → K (a.put o.dst v') w') : o.wp P a w K Q := by
  obtain ⟨i, hi, hz0, hz1, hz2⟩ := info_parts hi
  obtain ⟨v', w', hr, h2, h3⟩ := run_append_apart (P := P) w base t o.type e i z size bytes ht hi hz0 hz1 hz2 hzs hsz v n xs hown ad m c news hl hnews h1 h63 hbytes hbase
  unfold Oper.wp execOp
  simp only [ho, resolve, invoke, builtin, Sem.run_bind, Sem.run_pure, Result.andThen_ok, List.map_toArray, List.map_cons, List.map_nil, hs, hx, hr]
  exact h v' w' h2 h3
/-- append onto a row of the call's own, the source another (nil too), told apart. -/
theorem wp_append_row {P : Program} {w : World} {o : Oper} {a : Act} {K : Act → World → Prop} {Q : Exit → Act → World → Prop} (s x : Operand) (t : TypeId)
    (ho : o.op = .call { callee := .builtin .append, args := #[s, x], argTypes := #[t, t] })
    (base : Nat) (e : TypeId) (z : Value) (size bytes : Nat) (ht : P.underlying t = some (.slice e)) (hi : (P.info? e).map (fun i => (i.zero, i.size, i.bytes)) = some (some z, size, bytes)) (hzs : z.cells.size = size) (hsz : 0 < size)
    (v : Value) (n : Nat) (xs : List Value) (hs : a.eval s = v) (hown : w.ownsRow base e size v n xs)
    (base2 : Nat) (y : Value) (m : Nat) (news : List Value) (hx : a.eval x = y) (hy : w.ownsRow base2 e size y m news) (h1 : ∀ u ∈ news, u.oneCell' = true)
    (h63 : n + m ≤ maxLen) (hbytes : (n + m) * bytes ≤ 140737488355328) (hbase : base ≤ w.heap.size)
    (h : ∀ v' w', w'.ownsRow base e size v' (n + m) (xs ++ news) → ((v'.ownBlock = v.ownBlock ∧ w.grownBy w' v.ownBlock) ∨ ((∀ k, v'.ownBlock = some k → w.heap.size ≤ k) ∧ Below w.heap.size w w')) → K (a.put o.dst v') w') : o.wp P a w K Q := by
  have hy0 := hy
  obtain ⟨hlen, ⟨rfl, rfl⟩ | ⟨g, cap, cur, rfl, hg, hb, hc, hm, hsz2, hxs⟩⟩ := hy
  · obtain rfl : news = [] := List.eq_nil_of_length_eq_zero (by simpa using hlen)
    obtain ⟨i, hi, hz0, hz1, hz2⟩ := info_parts hi
    have hrun := run_append_owned_none (P := P) (w := w) base t o.type e i size ht hi v n xs hown
    unfold Oper.wp
    simp [execOp, ho, resolve, invoke, builtin, hs, hx, hrun, Result.andThen]
    exact h v w (by simpa using hown) (.inl ⟨rfl, rfl, rfl, rfl, Nat.le_refl _, fun _ _ _ => rfl⟩)
  · exact wp_append_apart s x t ho base e z size bytes ht hi hzs hsz v n xs hs hown ⟨g, 0, none⟩ m cap news hx hlen (hy0.cells rfl) h1 h63 hbytes hbase h
theorem wpList_append_row {P : Program} {w : World} {ops : Array Oper} {rest : List Oper} {o : Oper} {a : Act} {Q : Exit → Act → World → Prop} (hgd : o.guard = none) (s x : Operand) (t : TypeId)
    (ho : o.op = .call { callee := .builtin .append, args := #[s, x], argTypes := #[t, t] })
    (base : Nat) (e : TypeId) (z : Value) (size bytes : Nat) (ht : P.underlying t = some (.slice e)) (hi : (P.info? e).map (fun i => (i.zero, i.size, i.bytes)) = some (some z, size, bytes)) (hzs : z.cells.size = size) (hsz : 0 < size)
    (v : Value) (n : Nat) (xs : List Value) (hs : a.eval s = v) (hown : w.ownsRow base e size v n xs)
    (base2 : Nat) (y : Value) (m : Nat) (news : List Value) (hx : a.eval x = y) (hy : w.ownsRow base2 e size y m news) (h1 : ∀ u ∈ news, u.oneCell' = true)
    (h63 : n + m ≤ maxLen) (hbytes : (n + m) * bytes ≤ 140737488355328) (hbase : base ≤ w.heap.size)
    (h : ∀ v' w', w'.ownsRow base e size v' (n + m) (xs ++ news) → ((v'.ownBlock = v.ownBlock ∧ w.grownBy w' v.ownBlock) ∨ ((∀ k, v'.ownBlock = some k → w.heap.size ≤ k) ∧ Below w.heap.size w w')) → wpList P ops Q rest (a.put o.dst v') w') : wpList P ops Q (o :: rest) a w :=
  wpList_plain hgd fun _ hK => wp_append_row s x t ho base e z size bytes ht hi hzs hsz v n xs hs hown base2 y m news hx hy h1 h63 hbytes hbase fun v' w' h2 h3 => hK _ _ (h v' w' h2 h3)
/-! one operation turns memory, but keeps every block made behind G -/
def KeptFrom (G : Nat) (w w' : World) : Prop := ∀ k, G ≤ k → k < w.heap.size → w'.heap[k]? = w.heap[k]?
theorem KeptFrom.refl (G : Nat) (w : World) : KeptFrom G w w := fun _ _ _ => rfl
theorem KeptFrom.blk {G B : Nat} {w w' : World} {b} (h : KeptFrom G w w') (hG : G ≤ B) (hb : w.heap[B]? = some b) : w'.heap[B]? = some b := by
  rw [h B hG (Array.getElem?_eq_some_iff.1 hb).1]; exact hb
def oneChk1 (ops : Array Oper) (uses : Nat → List Nat) (fin : List Nat) (L : List Sp) (s x : Nat) : Bool := (List.range ops.size).all fun j => !stillUsed ops uses fin s j || (L.getD j (.is undef)).isIs || j == x
theorem one_stays1 {ops : Array Oper} {uses : Nat → List Nat} {fin : List Nat} {L : List Sp} {s : Nat} {F : World → World → Prop} (x : Nat) (hlen : L.length ≤ ops.size) (hc : oneChk1 ops uses fin L s x = true)
    (hx : ∀ v w w', spR L x v w → F w w' → spR L x v w') :
    ∀ i j v w w', stillUsed ops uses fin i j = true → spR L j v w → oneE s F i w w' → spR L j v w' := by
  intro i j v w w' hu hr he
  unfold oneE at he
  split at he
  · rename_i hi
    subst hi
    by_cases hjx : j = x
    · subst hjx; exact hx v w w' hr he
    refine Sp.isIs_any ?_ hr
    by_cases hj : j < ops.size
    · have := List.all_eq_true.1 hc j (List.mem_range.2 hj)
      rw [hu] at this; simpa [hjx] using this
    · simp only [List.getD, List.getElem?_eq_none (show L.length ≤ j by omega)]; rfl
  · exact Sp.stays hr he
theorem slv_blk {w : World} {B T : Nat} {cs : List Value} (hb : w.heap[B]? = some (.cells cs.toArray T (0, 0))) (n : Nat) (hn : n = cs.length) : SlV w (.slice (some ⟨B, 0, none⟩) n n) cs := by
  subst hn
  refine .inr ⟨B, 0, _, rfl, Nat.le_refl _, ?_, fun j h => ?_⟩
  · exact (Array.getElem?_eq_some_iff.1 hb).1
  rw [cell_blk hb]
  simp [h]
theorem one_atF {s i : Nat} {F : World → World → Prop} {w w' : World} (h : i = s) (hF : F w w') : oneE s F i w w' := by unfold oneE; rw [if_pos h]; exact hF
end Go.Proofs.YtbfbajfdlkgloaaGreatDoor
