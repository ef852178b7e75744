/-
  append onto a row of the call's own, told apart: in its own block, or in a new one (and then nothing that was has turned). No program in sight.
-/
import Derived.Test.YtiiblpgiafbaoaaRegion
import Derived.Test.YtiiblpgiafbaoaaBase
namespace Go.Proofs.Ytiiblpgiafbaoaa
open Go Go.RowKit
section
variable {P : Program} (w : World)
theorem run_append_apart (base : Nat) (t ty e : TypeId) (i : TypeInfo) (z : Value) (size bytes : Nat) (ht : P.underlying t = some (.slice e)) (hi : P.info? e = some i) (hz : i.zero = some z)
    (hsize : i.size = size) (hby : i.bytes = bytes) (hzs : z.cells.size = size) (hsz : 0 < size) (v : Value) (n : Nat) (xs : List Value) (hown : w.ownsRow base e size v n xs)
    (a : Addr) (m c : Nat) (news : List Value) (hl : news.length = m * size) (hnews : ∀ j u, news[j]? = some u → w.cell? (a.add j) = some u) (h1 : ∀ u ∈ news, u.oneCell' = true)
    (h63 : n + m ≤ maxLen) (hbytes : (n + m) * bytes ≤ 140737488355328) (hbase : base ≤ w.heap.size) :
    ∃ v' w', (Builtin.append_ #[t, t] ty #[v, .slice (some a) m c]).run P w = .ok v' w' ∧ w'.ownsRow base e size v' (n + m) (xs ++ news) ∧
      ((v'.ownBlock = v.ownBlock ∧ w.grownBy w' v.ownBlock) ∨ ((∀ k, v'.ownBlock = some k → w.heap.size ≤ k) ∧ Below w.heap.size w w')) := by
  obtain ⟨v', w', hr, h2, h3, h4⟩ := run_append_own (P := P) w base t ty e i z size bytes ht hi hz hsize hby hzs hsz v n xs hown a m c news hl hnews h1 h63 hbytes hbase
  refine ⟨v', w', hr, h2, ?_⟩
  have hm63 : n + m ≤ 9223372036854775807 := by simp only [maxLen] at h63; omega
  subst hsize
  subst hby
  rcases hown.2 with ⟨rfl, rfl⟩ | ⟨g, cap, cur, rfl, hbg, hg, hnc, hcm, hcs, htake⟩
  · by_cases hm : m = 0
    · have hv := h4.2 ⟨rfl, hm⟩
      subst hv
      exact .inl ⟨rfl, h3⟩
    · rw [run_append_nil (P := P) w t ty e i z ht hi hz a m c news hl hnews (by omega) (by omega) (by have hb := hbytes; simp only [Nat.zero_add] at hb; omega)] at hr
      injection hr with e1 e2
      subst e1; subst e2
      exact .inr ⟨fun k hk => by injection hk with hk; exact Nat.le_of_eq hk, ((Below.refl _ _).drew).alloc (by simp) _⟩
  · by_cases hroom : n + m ≤ cap
    · have hfit : n * i.size + news.length ≤ cur.size := by rw [hl, hcs, ← Nat.add_mul]; exact Nat.mul_le_mul_right _ hroom
      rw [run_append_room (P := P) w t ty e i ht hi g n cap cur hg a m c news hl hnews h1 hroom hfit] at hr
      injection hr with e1 e2
      subst e1
      exact .inl ⟨rfl, h3⟩
    · have holds : ∀ j u, xs[j]? = some u → w.cell? ((⟨g, 0, none⟩ : Addr).add j) = some u := hown.cells (g := g) rfl
      rw [run_append_grow (P := P) w t ty e i z ht hi hz ⟨g, 0, none⟩ n cap xs hown.1 holds a m c news hl hnews (by omega) (by omega) (growslice_fits (by omega) hbytes)] at hr
      injection hr with e1 e2
      subst e1; subst e2
      exact .inr ⟨fun k hk => by injection hk with hk; exact Nat.le_of_eq hk, ((Below.refl _ _).drew).alloc (by simp) _⟩
end
theorem wp_append_apart {P : Program} {w : World} {o : Oper} {a : Act} {K : Act → World → Prop} {Q : Exit → Act → World → Prop} (s x : Operand) (t : TypeId)
    (ho : o.op = .call { callee := .builtin .append, args := #[s, x], argTypes := #[t, t] })
    (base : Nat) (e : TypeId) (z : Value) (size bytes : Nat) (ht : P.underlying t = some (.slice e)) (hi : (P.info? e).map (fun i => (i.zero, i.size, i.bytes)) = some (some z, size, bytes)) (hzs : z.cells.size = size) (hsz : 0 < size)
    (v : Value) (n : Nat) (xs : List Value) (hs : a.eval s = v) (hown : w.ownsRow base e size v n xs)
    (ad : Addr) (m c : Nat) (news : List Value) (hx : a.eval x = .slice (some ad) m c) (hl : news.length = m * size) (hnews : ∀ j u, news[j]? = some u → w.cell? (ad.add j) = some u) (h1 : ∀ u ∈ news, u.oneCell' = true)
    (h63 : n + m ≤ maxLen) (hbytes : (n + m) * bytes ≤ 140737488355328) (hbase : base ≤ w.heap.size)
    (h : ∀ v' w', w'.ownsRow base e size v' (n + m) (xs ++ news) → ((v'.ownBlock = v.ownBlock ∧ w.grownBy w' v.ownBlock) ∨ ((∀ k, v'.ownBlock = some k → w.heap.size ≤ k) ∧ Below w.heap.size w w')) → K (a.put o.dst v') w') : o.wp P a w K Q := by
  obtain ⟨i, hi, hz0, hz1, hz2⟩ := info_parts hi
  obtain ⟨v', w', hr, h2, h3⟩ := run_append_apart (P := P) w base t o.type e i z size bytes ht hi hz0 hz1 hz2 hzs hsz v n xs hown ad m c news hl hnews h1 h63 hbytes hbase
  unfold Oper.wp execOp
  simp only [ho, resolve, invoke, builtin, Sem.run_bind, Sem.run_pure, Result.andThen_ok, List.map_toArray, List.map_cons, List.map_nil, hs, hx, hr]
  exact h v' w' h2 h3
/-- append onto a row of the call's own, the source another (nil too), told apart. -/
theorem wp_append_row {P : Program} {w : World} {o : Oper} {a : Act} {K : Act → World → Prop} {Q : Exit → Act → World → Prop} (s x : Operand) (t : TypeId)
    (ho : o.op = .call { callee := .builtin .append, args := #[s, x], argTypes := #[t, t] })
    (base : Nat) (e : TypeId) (z : Value) (size bytes : Nat) (ht : P.underlying t = some (.slice e)) (hi : (P.info? e).map (fun i => (i.zero, i.size, i.bytes)) = some (some z, size, bytes)) (hzs : z.cells.size = size) (hsz : 0 < size)
    (v : Value) (n : Nat) (xs : List Value) (hs : a.eval s = v) (hown : w.ownsRow base e size v n xs)
    (base2 : Nat) (y : Value) (m : Nat) (news : List Value) (hx : a.eval x = y) (hy : w.ownsRow base2 e size y m news) (h1 : ∀ u ∈ news, u.oneCell' = true)
    (h63 : n + m ≤ maxLen) (hbytes : (n + m) * bytes ≤ 140737488355328) (hbase : base ≤ w.heap.size)
    (h : ∀ v' w', w'.ownsRow base e size v' (n + m) (xs ++ news) → ((v'.ownBlock = v.ownBlock ∧ w.grownBy w' v.ownBlock) ∨ ((∀ k, v'.ownBlock = some k → w.heap.size ≤ k) ∧ Below w.heap.size w w')) → K (a.put o.dst v') w') : o.wp P a w K Q := by
  have hy0 := hy
  obtain ⟨hlen, ⟨rfl, rfl⟩ | ⟨g, cap, cur, rfl, hg, hb, hc, hm, hsz2, hxs⟩⟩ := hy
  · obtain rfl : news = [] := List.eq_nil_of_length_eq_zero (by simpa using hlen)
    obtain ⟨i, hi, hz0, hz1, hz2⟩ := info_parts hi
    have hrun := run_append_owned_none (P := P) (w := w) base t o.type e i size ht hi v n xs hown
    unfold Oper.wp
    simp [execOp, ho, resolve, invoke, builtin, hs, hx, hrun, Result.andThen]
    exact h v w (by simpa using hown) (.inl ⟨rfl, rfl, rfl, rfl, Nat.le_refl _, fun _ _ _ => rfl⟩)
  · exact wp_append_apart s x t ho base e z size bytes ht hi hzs hsz v n xs hs hown ⟨g, 0, none⟩ m cap news hx hlen (hy0.cells rfl) h1 h63 hbytes hbase h
theorem wpList_append_row {P : Program} {w : World} {ops : Array Oper} {rest : List Oper} {o : Oper} {a : Act} {Q : Exit → Act → World → Prop} (hgd : o.guard = none) (s x : Operand) (t : TypeId)
    (ho : o.op = .call { callee := .builtin .append, args := #[s, x], argTypes := #[t, t] })
    (base : Nat) (e : TypeId) (z : Value) (size bytes : Nat) (ht : P.underlying t = some (.slice e)) (hi : (P.info? e).map (fun i => (i.zero, i.size, i.bytes)) = some (some z, size, bytes)) (hzs : z.cells.size = size) (hsz : 0 < size)
    (v : Value) (n : Nat) (xs : List Value) (hs : a.eval s = v) (hown : w.ownsRow base e size v n xs)
    (base2 : Nat) (y : Value) (m : Nat) (news : List Value) (hx : a.eval x = y) (hy : w.ownsRow base2 e size y m news) (h1 : ∀ u ∈ news, u.oneCell' = true)
    (h63 : n + m ≤ maxLen) (hbytes : (n + m) * bytes ≤ 140737488355328) (hbase : base ≤ w.heap.size)
    (h : ∀ v' w', w'.ownsRow base e size v' (n + m) (xs ++ news) → ((v'.ownBlock = v.ownBlock ∧ w.grownBy w' v.ownBlock) ∨ ((∀ k, v'.ownBlock = some k → w.heap.size ≤ k) ∧ Below w.heap.size w w')) → wpList P ops Q rest (a.put o.dst v') w') : wpList P ops Q (o :: rest) a w :=
  wpList_plain hgd fun _ hK => wp_append_row s x t ho base e z size bytes ht hi hzs hsz v n xs hs hown base2 y m news hx hy h1 h63 hbytes hbase fun v' w' h2 h3 => hK _ _ (h v' w' h2 h3)
/-! one operation turns memory, but keeps every block made behind G -/
def KeptFrom (G : Nat) (w w' : World) : Prop := ∀ k, G ≤ k → k < w.heap.size → w'.heap[k]? = w.heap[k]?
theorem KeptFrom.refl (G : Nat) (w : World) : KeptFrom G w w := fun _ _ _ => rfl
theorem KeptFrom.blk {G B : Nat} {w w' : World} {b} (h : KeptFrom G w w') (hG : G ≤ B) (hb : w.heap[B]? = some b) : w'.heap[B]? = some b := by
  rw [h B hG (Array.getElem?_eq_some_iff.1 hb).1]; exact hb
def oneChk1 (ops : Array Oper) (uses : Nat → List Nat) (fin : List Nat) (L : List Sp) (s x : Nat) : Bool := (List.range ops.size).all fun j => !stillUsed ops uses fin s j || (L.getD j (.is undef)).isIs || j == x
theorem one_stays1 {ops : Array Oper} {uses : Nat → List Nat} {fin : List Nat} {L : List Sp} {s : Nat} {F : World → World → Prop} (x : Nat) (hlen : L.length ≤ ops.size) (hc : oneChk1 ops uses fin L s x = true)
    (hx : ∀ v w w', spR L x v w → F w w' → spR L x v w') :
    ∀ i j v w w', stillUsed ops uses fin i j = true → spR L j v w → oneE s F i w w' → spR L j v w' := by
  intro i j v w w' hu hr he
  unfold oneE at he
  split at he
  · rename_i hi
    subst hi
    by_cases hjx : j = x
    · subst hjx; exact hx v w w' hr he
    refine Sp.isIs_any ?_ hr
    by_cases hj : j < ops.size
    · have := List.all_eq_true.1 hc j (List.mem_range.2 hj)
      rw [hu] at this; simpa [hjx] using this
    · simp only [List.getD, List.getElem?_eq_none (show L.length ≤ j by omega)]; rfl
  · exact Sp.stays hr he
theorem slv_blk {w : World} {B T : Nat} {cs : List Value} (hb : w.heap[B]? = some (.cells cs.toArray T (0, 0))) (n : Nat) (hn : n = cs.length) : SlV w (.slice (some ⟨B, 0, none⟩) n n) cs := by
  subst hn
  refine .inr ⟨B, 0, _, rfl, Nat.le_refl _, ?_, fun j h => ?_⟩
  · exact (Array.getElem?_eq_some_iff.1 hb).1
  rw [cell_blk hb]
  simp [h]
theorem one_atF {s i : Nat} {F : World → World → Prop} {w w' : World} (h : i = s) (hF : F w w') : oneE s F i w w' := by unfold oneE; rw [if_pos h]; exact hF
end Go.Proofs.Ytiiblpgiafbaoaa
