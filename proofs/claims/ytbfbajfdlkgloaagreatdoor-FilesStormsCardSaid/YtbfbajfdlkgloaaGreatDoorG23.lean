/-
  append onto a row of the call's own, told apart: in its own block, or in a new one (and then nothing that was has turned). No program in sight.
-/
import Derived.Test.YtbfbajfdlkgloaaGreatDoorG01
import Derived.Test.YtbfbajfdlkgloaaGreatDoorG00
import Derived.Test.YtbfbajfdlkgloaaGreatDoorG20

namespace Go.Proofs.YtbfbajfdlkgloaaGreatDoor
open Go Go.RowKit
section
variable {P : Program} (w : World)
theorem run_append_apart (base : Nat) (t ty e : TypeId) (i : TypeInfo) (z : Value) (size bytes : Nat) (ht : P.underlying t = some (.slice e)) (hi : P.info? e = some i) (hz : i.zero = some z)
    (hsize : i.size = size) (hby : i.bytes = bytes) (hzs : z.cells.size = size) (hsz : 0 < size) (v : Value) (n : Nat) (xs : List Value) (hown : w.ownsRow base e size v n xs)
    (a : Addr) (m c : Nat) (news : List Value) (hl : news.length = m * size) (hnews : ∀ j u, news[j]? = some u → w.cell? (a.add j) = some u) (h1 : ∀ u ∈ news, u.oneCell' = true)
    (h63 : n + m ≤ maxLen) (hbytes : (n + m) * bytes ≤ 140737488355328) (hbase : base ≤ w.heap.size) :
    ∃ v' w', (Builtin.append_ #[t, t] ty #[v, .slice (some a) m c]).run P w = .ok v' w' ∧ w'.ownsRow base e size v' (n + m) (xs ++ news) ∧
      ((v'.ownBlock = v.ownBlock ∧ w.grownBy w' v.ownBlock) ∨ ((∀ k, v'.ownBlock = some k → w.heap.size ≤ k) ∧ Below w.heap.size w w')) := by
  obtain ⟨v', w', hr, h2, h3, h4⟩ := run_append_own (P := P) w base t ty e i z size bytes ht hi hz hsize hby hzs hsz v n xs hown a m c news hl hnews h1 h63 hbytes hbase
  refine ⟨v', w', hr, h2, ?_⟩
  have hm63 : n + m ≤ 9223372036854775807 := by simp only [maxLen] at h63; omega
  subst hsize
  subst hby
  rcases hown.2 with ⟨rfl, rfl⟩ | ⟨g, cap, cur, rfl, hbg, hg, hnc, hcm, hcs, htake⟩
  · by_cases hm : m = 0
    · have hv := h4.2 ⟨rfl, hm⟩
      subst hv
      exact .inl ⟨rfl, h3⟩
    · rw [run_append_nil (P := P) w t ty e i z ht hi hz a m c news hl hnews (by omega) (by omega) (by have hb := hbytes; simp only [Nat.zero_add] at hb; omega)] at hr
      injection hr with e1 e2
      subst e1; subst e2
      exact .inr ⟨fun k hk => by injection hk with hk; exact Nat.le_of_eq hk, ((Below.refl _ _).drew).alloc (by simp) _⟩
  · by_cases hroom : n + m ≤ cap
    · have hfit : n * i.size + news.length ≤ cur.size := by rw [hl, hcs, ← Nat.add_mul]; exact Nat.mul_le_mul_right _ hroom
      rw [run_append_room (P := P) w t ty e i ht hi g n cap cur hg a m c news hl hnews h1 hroom hfit] at hr
      injection hr with e1 e2
      subst e1
      exact .inl ⟨rfl, h3⟩
    · have holds : ∀ j u, xs[j]? = some u → w.cell? ((⟨g, 0, none⟩ : Addr).add j) = some u := hown.cells (g := g) rfl
      rw [run_append_grow (P := P) w t ty e i z ht hi hz ⟨g, 0, none⟩ n cap xs hown.1 holds a m c news hl hnews (by omega) (by omega) (growslice_fits (by omega) hbytes)] at hr
      injection hr with e1 e2
      subst e1; subst e2
      exact .inr ⟨fun k hk => by injection hk with hk; exact Nat.le_of_eq hk, ((Below.refl _ _).drew).alloc (by simp) _⟩
end
theorem wp_append_apart {P : Program} {w : World} {o : Oper} {a : Act} {K : Act → World → Prop} {Q : Exit → Act → World → Prop} (s x : Operand) (t : TypeId)
    (ho : o.op = .call { callee := .builtin .append, args := #[s, x], argTypes := #[t, t] })
    (base : Nat) (e : TypeId) (z : Value) (size bytes : Nat) (ht : P.underlying t = some (.slice e)) (hi : (P.info? e).map (fun i => (i.zero, i.size, i.bytes)) = some (some z, size, bytes)) (hzs : z.cells.size = size) (hsz : 0 < size)
    (v : Value) (n : Nat) (xs : List Value) (hs : a.eval s = v) (hown : w.ownsRow base e size v n xs)
    (ad : Addr) (m c : Nat) (news : List Value) (hx : a.eval x = .slice (some ad) m c) (hl : news.length = m * size) (hnews : ∀ j u, news[j]? = some u → w.cell? (ad.add j) = some u) (h1 : ∀ u ∈ news, u.oneCell' = true)
    (h63 : n + m ≤ maxLen) (hbytes : (n + m) * bytes ≤ 140737488355328) (hbase : base ≤ w.heap.size)
    (h : ∀ v' w', w'.ownsRow base e size v' (n + m) (xs ++ news) → ((v'.ownBlock = v.ownBlock ∧ w.grownBy w' v.ownBlock) ∨ ((∀ k, v'.ownBlock = some k → w.heap.size ≤ k) ∧ Below w.heap.size w w')) → K (a.put o.dst v') w') : o.wp P a w K Q := by
  obtain ⟨i, hi, hz0, hz1, hz2⟩ := info_parts hi
  obtain ⟨v', w', hr, h2, h3⟩ := run_append_apart (P := P) w base t o.type e i z size bytes ht hi hz0 hz1 hz2 hzs hsz v n xs hown ad m c news hl hnews h1 h63 hbytes hbase
  unfold Oper.wp execOp
  simp only [ho, resolve, invoke, builtin, Sem.run_bind, Sem.run_pure, Result.andThen_ok, List.map_toArray, List.map_cons, List.map_nil, hs, hx, hr]
  exact h v' w' h2 h3
/-- append onto a row of the call's own, the source another (nil too), told apart. -/
theorem wp_append_row {P : Program} {w : World} {o : Oper} {a : Act} {K : Act → World → Prop} {Q : Exit → Act → World → Prop} (s x : Operand) (t : TypeId)
    (ho : o.op = .call { callee := .builtin .append, args := #[s, x], argTypes := #[t, t] })
    (base : Nat) (e : TypeId) (z : Value) (size bytes : Nat) (ht : P.underlying t = some (.slice e)) (hi : (P.info? e).map (fun i => (i.zero, i.size, i.bytes)) = some (some z, size, bytes)) (hzs : z.cells.size = size) (hsz : 0 < size)
    (v : Value) (n : Nat) (xs : List Value) (hs : a.eval s = v) (hown : w.ownsRow base e size v n xs)
    (base2 : Nat) (y : Value) (m : Nat) (news : List Value) (hx : a.eval x = y) (hy : w.ownsRow base2 e size y m news) (h1 : ∀ u ∈ news, u.oneCell' = true)
    (h63 : n + m ≤ maxLen) (hbytes : (n + m) * bytes ≤ 140737488355328) (hbase : base ≤ w.heap.size)
    (h : ∀ v' w', w'.ownsRow base e size v' (n + m) (xs ++ news) → ((v'.ownBlock = v.ownBlock ∧ w.grownBy w' v.ownBlock) ∨ ((∀ k, v'.ownBlock = some k → w.heap.size ≤ k) ∧ Below w.heap.size w w')) → K (a.put o.dst v') w') : o.wp P a w K Q := by
  have hy0 := hy
  obtain ⟨hlen, ⟨rfl, rfl⟩ | ⟨g, cap, cur, rfl, hg, hb, hc, hm, hsz2, hxs⟩⟩ := hy
  · obtain rfl : news = [] := List.eq_nil_of_length_eq_zero (by simpa using hlen)
    obtain ⟨i, hi, hz0, hz1, hz2⟩ := info_parts hi
    have hrun := run_append_owned_none (P := P) (w := w) base t o.type e i size ht hi v n xs hown
    unfold Oper.wp
    simp [execOp, ho, resolve, invoke, builtin, hs, hx, hrun, Result.andThen]
    exact h v w (by simpa using hown) (.inl ⟨rfl, rfl, rfl, rfl, Nat.le_refl _, fun _ _ _ => rfl⟩)
  · exact wp_append_apart s x t ho base e z size bytes ht hi hzs hsz v n xs hs hown ⟨g, 0, none⟩ m cap news hx hlen (hy0.cells rfl) h1 h63 hbytes hbase h
theorem wpList_append_row {P : Program} {w : World} {ops : Array Oper} {rest : List Oper} {o : Oper} {a : Act} {Q : Exit → Act → World → Prop} (hgd : o.guard = none) (s x : Operand) (t : TypeId)
    (ho : o.op = .call { callee := .builtin .append, args := #[s, x], argTypes := #[t, t] })
    (base : Nat) (e : TypeId) (z : Value) (size bytes : Nat) (ht : P.underlying t = some (.slice e)) (hi : (P.info? e).map (fun i => (i.zero, i.size, i.bytes)) = some (some z, size, bytes)) (hzs : z.cells.size = size) (hsz : 0 < size)
    (v : Value) (n : Nat) (xs : List Value) (hs : a.eval s = v) (hown : w.ownsRow base e size v n xs)
    (base2 : Nat) (y : Value) (m : Nat) (news : List Value) (hx : a.eval x = y) (hy : w.ownsRow base2 e size y m news) (h1 : ∀ u ∈ news, u.oneCell' = true)
    (h63 : n + m ≤ maxLen) (hbytes : (n + m) * bytes ≤ 140737488355328) (hbase : base ≤ w.heap.size)
    (h : ∀ v' w', w'.ownsRow base e size v' (n + m) (xs ++ news) → ((v'.ownBlock = v.ownBlock ∧ w.grownBy w' v.ownBlock) ∨ ((∀ k, v'.ownBlock = some k → w.heap.size ≤ k) ∧ Below w.heap.size w w')) → wpList P ops Q rest (a.put o.dst v') w') : wpList P ops Q (o :: rest) a w :=
  wpList_plain hgd fun _ hK => wp_append_row s x t ho base e z size bytes ht hi hzs hsz v n xs hs hown base2 y m news hx hy h1 h63 hbytes hbase fun v' w' h2 h3 => hK _ _ (h v' w' h2 h3)
/-! one operation turns memory, but keeps every block made behind G -/
def KeptFrom (G : Nat) (w w' : World) : Prop := ∀ k, G ≤ k → k < w.heap.size → w'.heap[k]? = w.heap[k]?
theorem KeptFrom.refl (G : Nat) (w : World) : KeptFrom G w w := fun _ _ _ => rfl
theorem KeptFrom.blk {G B : Nat} {w w' : World} {b} (h : KeptFrom G w w') (hG : G ≤ B) (hb : w.heap[B]? = some b) : w'.heap[B]? = some b := by
  rw [h B hG (Array.getElem?_eq_some_iff.1 hb).1]; exact hb
def oneChk1 (ops : Array Oper) (uses : Nat → List Nat) (fin : List Nat) (L : List Sp) (s x : Nat) : Bool := (List.range ops.size).all fun j => !stillUsed ops uses fin s j || (L.getD j (.is undef)).isIs || j == x
theorem one_stays1 {ops : Array Oper} {uses : Nat → List Nat} {fin : List Nat} {L : List Sp} {s : Nat} {F : World → World → Prop} (x : Nat) (hlen : L.length ≤ ops.size) (hc : oneChk1 ops uses fin L s x = true)
    (hx : ∀ v w w', spR L x v w → F w w' → spR L x v w') :
    ∀ i j v w w', stillUsed ops uses fin i j = true → spR L j v w → oneE s F i w w' → spR L j v w' := by
  intro i j v w w' hu hr he
  unfold oneE at he
  split at he
  · rename_i hi
    subst hi
    by_cases hjx : j = x
    · subst hjx; exact hx v w w' hr he
    refine Sp.isIs_any ?_ hr
    by_cases hj : j < ops.size
    · have := List.all_eq_true.1 hc j (List.mem_range.2 hj)
      rw [hu] at this; simpa [hjx] using this
    · simp only [List.getD, List.getElem?_eq_none (show L.length ≤ j by omega)]; rfl
  · exact Sp.stays hr he
theorem slv_blk {w : World} {B T : Nat} {cs : List Value} (hb : w.heap[B]? = some (.cells cs.toArray T (0, 0))) (n : Nat) (hn : n = cs.length) : SlV w (.slice (some ⟨B, 0, none⟩) n n) cs := by
  subst hn
  refine .inr ⟨B, 0, _, rfl, Nat.le_refl _, ?_, fun j h => ?_⟩
  · exact (Array.getElem?_eq_some_iff.1 hb).1
  rw [cell_blk hb]
  simp [h]
theorem one_atF {s i : Nat} {F : World → World → Prop} {w w' : World} (h : i = s) (hF : F w w') : oneE s F i w w' := by unfold oneE; rw [if_pos h]; exact hF
end Go.Proofs.YtbfbajfdlkgloaaGreatDoor

/-
  The program's store in memory: its five cells, the row of its ends; beside its disk.
-/
namespace Go.Proofs.YtbfbajfdlkgloaaGreatDoor
open Go Go.RowKit Go.Maps
namespace Fl
structure Blk where
  g : Nat
  ev : Value
def cells (T : Blk) (dg : Nat) (s : St) : Array Value := #[.pointer (some ⟨dg, 0, none⟩), .int .i64 (s.k : Int), T.ev, .int .u32 (s.chain : Int), .bool s.lame]
def endV (n : Nat) : Value := .int .i64 (n : Int)
structure Ok (s : St) : Prop where
  strength : 1 ≤ s.k ∧ s.k ≤ 32
  many : s.ends.length ≤ 65536
  ends : ∀ n ∈ s.ends, n ≤ 268435456
  rise : s.ends.Pairwise (· ≤ ·)
  chain : s.chain < 4294967296
theorem Ok.fin {s : St} (h : Ok s) : s.fin ≤ 268435456 := by
  unfold St.fin
  rw [List.getLastD_eq_getLast?]
  cases hl : s.ends.getLast? with
  | none => exact Nat.zero_le _
  | some n => exact h.ends n (List.mem_of_getLast? hl)
theorem Ok.endAt {s : St} (h : Ok s) (i : Nat) : s.ends.getD i 0 ≤ 268435456 := by
  rw [List.getD_eq_getElem?_getD]
  cases hl : s.ends[i]? with
  | none => exact Nat.zero_le _
  | some n => exact h.ends n (List.mem_of_getElem? hl)
theorem Ok.begins {s : St} (h : Ok s) {i : Nat} (hi : i < s.ends.length) : begins s i ≤ s.ends.getD i 0 := by
  unfold Fl.begins
  split
  · exact Nat.zero_le _
  · rename_i h0
    have := List.pairwise_iff_getElem.1 h.rise (i - 1) i (by omega) hi (by omega)
    rw [List.getD_eq_getElem?_getD, List.getD_eq_getElem?_getD, List.getElem?_eq_getElem hi, List.getElem?_eq_getElem (show i - 1 < s.ends.length by omega)]
    exact this
end Fl
structure StoreAt (w : World) (T : Fl.Blk) (dg : Nat) (s : Fl.St) : Prop where
  ok : Fl.Ok s
  cells : w.heap[T.g]? = some (.cells (Fl.cells T dg s) 93 (0, 0))
  row : w.ownsRow 0 3 1 T.ev s.ends.length (s.ends.map Fl.endV)
  apart : T.ev.ownBlock ≠ some T.g
theorem StoreAt.cell {w : World} {T : Fl.Blk} {dg : Nat} {s : Fl.St} (h : StoreAt w T dg s) (i : Nat) : w.cell? ⟨T.g, i, none⟩ = (Fl.cells T dg s)[i]? := cell_blk h.cells i
theorem StoreAt.c0 {w : World} {T : Fl.Blk} {dg : Nat} {s : Fl.St} (h : StoreAt w T dg s) : w.cell? ⟨T.g, 0, none⟩ = some (.pointer (some ⟨dg, 0, none⟩)) := h.cell 0
theorem StoreAt.c1 {w : World} {T : Fl.Blk} {dg : Nat} {s : Fl.St} (h : StoreAt w T dg s) : w.cell? ⟨T.g, 1, none⟩ = some (.int .i64 (s.k : Int)) := h.cell 1
theorem StoreAt.c2 {w : World} {T : Fl.Blk} {dg : Nat} {s : Fl.St} (h : StoreAt w T dg s) : w.cell? ⟨T.g, 2, none⟩ = some T.ev := h.cell 2
theorem StoreAt.c3 {w : World} {T : Fl.Blk} {dg : Nat} {s : Fl.St} (h : StoreAt w T dg s) : w.cell? ⟨T.g, 3, none⟩ = some (.int .u32 (s.chain : Int)) := h.cell 3
theorem StoreAt.c4 {w : World} {T : Fl.Blk} {dg : Nat} {s : Fl.St} (h : StoreAt w T dg s) : w.cell? ⟨T.g, 4, none⟩ = some (.bool s.lame) := h.cell 4
theorem StoreAt.lt {w : World} {T : Fl.Blk} {dg : Nat} {s : Fl.St} (h : StoreAt w T dg s) : T.g < w.heap.size := heap_lt h.cells
theorem StoreAt.stay {w w' : World} {T : Fl.Blk} {dg : Nat} {s : Fl.St} {S : Nat → Prop} (h : StoreAt w T dg s) (hm : Moved S w w') (hg : ¬ S T.g) (he : ∀ b, T.ev.ownBlock = some b → ¬ S b) : StoreAt w' T dg s := by
  refine ⟨h.ok, (hm.block T.g h.lt hg).trans h.cells, ?_, h.apart⟩
  obtain ⟨h1, h2⟩ := h.row
  refine ⟨h1, ?_⟩
  rcases h2 with h2 | ⟨g, cap, cur, e, hg, hh, r⟩
  · exact .inl h2
  · exact .inr ⟨g, cap, cur, e, hg, (hm.block g (heap_lt hh) (he g (by rw [e]; rfl))).trans hh, r⟩
theorem StoreAt.past {w w' : World} {T : Fl.Blk} {dg : Nat} {s : Fl.St} (h : StoreAt w T dg s) (hb : Below w.heap.size w w') : StoreAt w' T dg s :=
  h.stay (S := fun _ => False) (Moved.of_below hb) id (fun _ _ => id)
/-- The ends' value, and its cells. -/
theorem StoreAt.form {w : World} {T : Fl.Blk} {dg : Nat} {s : Fl.St} (h : StoreAt w T dg s) : ∃ ad cap, T.ev = .slice ad s.ends.length cap ∧ s.ends.length ≤ cap ∧ ∀ i, i < s.ends.length → ∃ b, ad = some ⟨b, 0, none⟩ ∧ w.cell? ⟨b, i, none⟩ = some (.int .i64 ((s.ends.getD i 0 : Nat) : Int)) := by
  have hs := slv_of_owns h.row
  obtain ⟨h1, ⟨e, h0⟩ | ⟨g, cap, cur, e, hg, hh, hc, hm, hz, hx⟩⟩ := h.row
  · exact ⟨none, 0, by rw [e, h0], by omega, fun i hi => by omega⟩
  · refine ⟨_, cap, e, hc, fun i hi => ⟨g, rfl, ?_⟩⟩
    rw [cell_blk hh]
    have : (cur.toList.take (s.ends.length * 1))[i]? = some (.int .i64 ((s.ends.getD i 0 : Nat) : Int)) := by
      rw [hx, List.getElem?_map, List.getD_eq_getElem?_getD, List.getElem?_eq_getElem hi]; rfl
    rw [List.getElem?_take_of_lt (by omega)] at this
    simpa using this
theorem diskRead_val (D : Dk.Blk) (s : Dk.St) (n : ByteArray) (off len : Int) (x : ByteArray) (r : Int) (w : World) (h : DiskAt w D s) (hn : n.size ≤ 140737488351232) (ho : (Lit.int .i64 off).wf = true) (hl : (Lit.int .i64 len).wf = true) (hr : Dk.read s n off len = (x, r)) :
    Calls Tryz.prog 95 #[.pointer (some ⟨D.g, 0, none⟩), .string n, .int .i64 off, .int .i64 len] w fun e w' => e = .returned (.tuple #[.string x, .int .i64 r]) ∧ w' = w := by
  have h := diskRead_any D s n off len w h hn ho hl
  rw [hr] at h; exact h
end Go.Proofs.YtbfbajfdlkgloaaGreatDoor

/-
  The program's store: what only tells: end, Size, Lame, bytes, Item, Node, check.
-/
namespace Go.Proofs.YtbfbajfdlkgloaaGreatDoor
open Go Go.RowKit Go.Maps
theorem Fl.fin_eq (s : Fl.St) : s.fin = s.ends.getD (s.ends.length - 1) 0 := by
  unfold Fl.St.fin
  rw [List.getLastD_eq_getLast?, List.getLast?_eq_getElem?, List.getD_eq_getElem?_getD]
set_option maxRecDepth 100000 in
theorem storeEnd_val (T : Fl.Blk) (dg : Nat) (s : Fl.St) (r : Nat) (w : World) (h : StoreAt w T dg s) (hr : r = s.fin) :
    Calls Tryz.prog 61 #[.pointer (some ⟨T.g, 0, none⟩)] w fun e w' => e = .returned (.int .i64 (r : Int)) ∧ w' = w := by
  obtain ⟨ad, cap, hv, hc, hx⟩ := h.form
  obtain ⟨n, hn⟩ : ∃ n, n = s.ends.length := ⟨_, rfl⟩
  have c2 := h.c2
  rw [hv, ← hn] at c2
  rw [← hn] at hc
  have hm := h.ok.many
  rw [← hn] at hm
  by_cases h0 : n = 0
  · subst h0
    have hr0 : r = 0 := by rw [hr, Fl.fin_eq, List.eq_nil_of_length_eq_zero hn.symm]; rfl
    subst hr0
    clear h hv hx hn hr
    go_enter Tryz.func61, Tryz.ntmps61
    go_wp2_with fail
    go_ret
    exact ⟨rfl, rfl⟩
  · obtain ⟨b, rfl, hb⟩ := hx (n - 1) (by omega)
    rw [hn, ← Fl.fin_eq, ← hr, ← hn] at hb
    obtain ⟨m, rfl⟩ : ∃ m, n = m + 1 := ⟨n - 1, by omega⟩
    rw [Nat.add_sub_cancel] at hb
    clear h hv hx hn hr h0
    go_enter Tryz.func61, Tryz.ntmps61
    go_wp2_with fail
    go_ret
    exact ⟨rfl, rfl⟩
set_option maxRecDepth 100000 in
theorem storeSize_val (T : Fl.Blk) (dg : Nat) (s : Fl.St) (r : Nat) (w : World) (h : StoreAt w T dg s) (hr : r = s.ends.length) :
    Calls Tryz.prog 27 #[.pointer (some ⟨T.g, 0, none⟩)] w fun e w' => e = .returned (.int .u64 (r : Int)) ∧ w' = w := by
  obtain ⟨ad, cap, hv, hc, hx⟩ := h.form
  have c2 := h.c2
  rw [hv, ← hr] at c2
  have hm := h.ok.many
  rw [← hr] at hm
  clear h hv hx hr hc
  go_enter Tryz.func27, Tryz.ntmps27
  go_wp2_with fail
  go_ret
  exact ⟨rfl, rfl⟩
set_option maxRecDepth 100000 in
theorem storeLame_val (T : Fl.Blk) (dg : Nat) (s : Fl.St) (r : Bool) (w : World) (h : StoreAt w T dg s) (hr : r = s.lame) :
    Calls Tryz.prog 18 #[.pointer (some ⟨T.g, 0, none⟩)] w fun e w' => e = .returned (.bool r) ∧ w' = w := by
  have c4 := h.c4
  rw [← hr] at c4
  clear h hr
  go_enter Tryz.func18, Tryz.ntmps18
  go_wp2_with fail
  go_ret
  exact ⟨rfl, rfl⟩
set_option maxRecDepth 100000 in
theorem storeBytes_val (T : Fl.Blk) (D : Dk.Blk) (s : Fl.St) (d : Dk.St) (name : ByteArray) (off n : Int) (x : ByteArray) (r : Int) (w : World) (h : StoreAt w T D.g s) (hd : DiskAt w D d) (hn : name.size ≤ 140737488351232) (ho : (Lit.int .i64 off).wf = true) (hl : (Lit.int .i64 n).wf = true) (hr : Fl.bytesA d name off n = (x, r)) :
    Calls Tryz.prog 74 #[.pointer (some ⟨T.g, 0, none⟩), .string name, .int .i64 off, .int .i64 n] w fun e w' => e = .returned (.tuple #[.string x, .int .i64 r]) ∧ w' = w := by
  have c0 := h.c0
  obtain ⟨y, q, hy⟩ : ∃ y q, Dk.read d name off n = (y, q) := ⟨_, _, rfl⟩
  have hr2 : (if q = 0 ∨ q = 170 then (y, q) else (⟨#[]⟩, 190)) = (x, r) := by rw [← hr]; unfold Fl.bytesA; rw [hy]
  have HY := hide hy
  have HD := hide hd
  clear h hr hy hd
  go_enter Tryz.func74, Tryz.ntmps74
  go_wp2_with fail
  refine (diskRead_val D d name off n y q _ HD.out hn ho hl HY.out).mono ?_
  rintro e w1 ⟨rfl, he⟩
  subst he
  by_cases h0 : q = 0
  · subst h0
    rw [if_pos (.inl rfl)] at hr2
    injection hr2 with e1 e2
    subst e1; subst e2
    go_wp2_with fail
    go_ret2
    exact ⟨rfl, rfl⟩
  · by_cases h1 : q = 170
    · subst h1
      rw [if_pos (.inr rfl)] at hr2
      injection hr2 with e1 e2
      subst e1; subst e2
      go_wp2_with fail
      go_ret2
      exact ⟨rfl, rfl⟩
    · rw [if_neg (by omega)] at hr2
      injection hr2 with e1 e2
      subst e1; subst e2
      go_wp2_with fail
      go_ret2
      exact ⟨rfl, rfl⟩
end Go.Proofs.YtbfbajfdlkgloaaGreatDoor

/-
  The program's store: Item, Node.
-/
namespace Go.Proofs.YtbfbajfdlkgloaaGreatDoor
open Go Go.RowKit Go.Maps
theorem Fl.read_size {d : Dk.St} (ok : Dk.Ok d) (name : ByteArray) (off n : Int) : (Dk.read d name off n).1.size ≤ 268435456 := by
  have h := (Dk.get_sizes ok name).1
  unfold Dk.read
  split
  · exact Nat.zero_le _
  · split
    · exact Nat.zero_le _
    · show ((Dk.get d.files name).now.extract _ _).size ≤ _
      rw [ByteArray.size_extract]; omega
theorem Fl.bytesA_size {d : Dk.St} (ok : Dk.Ok d) (name : ByteArray) (off n : Int) : (Fl.bytesA d name off n).1.size ≤ 268435456 := by
  unfold Fl.bytesA
  split
  · exact Fl.read_size ok name off n
  · exact Nat.zero_le _
set_option maxHeartbeats 1600000 in
set_option maxRecDepth 100000 in
theorem storeItem_val (T : Fl.Blk) (D : Dk.Blk) (s : Fl.St) (d : Dk.St) (i : Nat) (x : ByteArray) (r : Int) (w : World) (h : StoreAt w T D.g s) (hd : DiskAt w D d) (hi : i < 18446744073709551616) (hr : Fl.itemA s d i = (x, r)) :
    Calls Tryz.prog 32 #[.pointer (some ⟨T.g, 0, none⟩), .int .u64 (i : Int)] w fun e w' => e = .returned (.tuple #[.string x, .int .i64 r]) ∧ Below w.heap.size w w' := by
  obtain ⟨ad, cap, hv, hc, hx⟩ := h.form
  obtain ⟨n, hn⟩ : ∃ n, n = s.ends.length := ⟨_, rfl⟩
  have c2 := h.c2
  rw [hv, ← hn] at c2
  rw [← hn] at hc hx
  have hm := h.ok.many
  rw [← hn] at hm
  have HT := hide h
  have HD := hide hd
  have HN := hide hn
  unfold Fl.itemA at hr
  rw [← hn] at hr
  by_cases hle : n ≤ i
  · rw [if_pos hle] at hr
    injection hr with e1 e2
    subst e1; subst e2
    clear h hd hn hv hx
    go_enter Tryz.func32, Tryz.ntmps32
    go_wp2_with fail
    refine (storeSize_val T D.g s n _ HT.out HN.out).mono ?_
    rintro e w1 ⟨rfl, he⟩
    subst he
    go_wp2_with fail
    go_ret2
    exact ⟨rfl, Below.refl _ _⟩
  · rw [if_neg hle] at hr
    have hlt : i < n := by omega
    obtain ⟨b, rfl, hb⟩ := hx i hlt
    have hbe := h.ok.begins (i := i) (by rw [← hn]; exact hlt)
    have hend := h.ok.endAt i
    obtain ⟨en, hen⟩ : ∃ e, e = s.ends.getD i 0 := ⟨_, rfl⟩
    obtain ⟨fr, hfr⟩ : ∃ e, e = Fl.begins s i := ⟨_, rfl⟩
    rw [← hen] at hb hbe hend hr
    rw [← hfr] at hbe hr
    have hb2 : 0 < i → w.cell? ⟨b, i - 1, none⟩ = some (.int .i64 (fr : Int)) := by
      intro h0
      obtain ⟨b2, e2, h2⟩ := hx (i - 1) (by omega)
      injection e2 with e2; injection e2 with e2
      subst e2
      rw [h2, hfr]; unfold Fl.begins
      rw [if_neg (by omega)]
    have h00 : i = 0 → fr = 0 := by
      intro h0
      rw [hfr]; unfold Fl.begins; rw [if_pos h0]
    obtain ⟨y, q, hy⟩ : ∃ y q, Fl.bytesA d Fl.nItems (fr : Int) ((en : Int) - fr) = (y, q) := ⟨_, _, rfl⟩
    have hys : y.size ≤ 268435456 := by
      have := Fl.bytesA_size hd.ok Fl.nItems (fr : Int) ((en : Int) - fr)
      rw [hy] at this; exact this
    rw [hy] at hr
    dsimp only at hr
    have HY := hide hy
    have hoff : (Lit.int .i64 (fr : Int)).wf = true := Rec.wf_i64 (by omega) (by omega)
    have hlen : (Lit.int .i64 ((en : Int) - fr)).wf = true := Rec.wf_i64 (by omega) (by omega)
    clear h hd hn hv hx hy hen hfr
    go_enter Tryz.func32, Tryz.ntmps32
    go_wp2_with fail
    refine (storeSize_val T D.g s n _ HT.out HN.out).mono ?_
    rintro e w1 ⟨rfl, he⟩
    subst he
    have hil : (i : Int) < n := by omega
    have HRR := hide hr
    clear hr
    rcases Nat.eq_zero_or_pos i with h0 | h0
    · have h1 := h00 h0
      subst h0; subst h1
      clear h00 hb2
      go_wp2_with fail
      refine (storeBytes_val T D s d Fl.nItems _ _ y q _ HT.out HD.out (by decide) hoff hlen HY.out).mono ?_
      rintro e w1 ⟨rfl, he⟩
      subst he
      have hr := HRR.out
      by_cases hq : q = 0
      · subst hq
        rw [if_neg (fun h => h rfl)] at hr
        unfold Fl.payOf at hr
        cases hp : Rec.readPayB y with
        | none =>
          rw [hp] at hr
          injection hr with e1 e2
          subst e1; subst e2
          have HP := hide (show Rec.payV (Rec.readPayB y) = .tuple #[.string ⟨#[]⟩, .int .i64 0, .int .i64 180] by rw [hp]; rfl)
          clear hp HRR
          go_wp2_with fail
          refine (readPay_val y _ _ (by omega) HP.out).mono ?_
          rintro e w2 ⟨rfl, hb2⟩
          go_wp2_with fail
          go_ret2
          exact ⟨rfl, hb2⟩
        | some pr =>
          obtain ⟨it, k⟩ := pr
          rw [hp] at hr
          have hks := (Rec.readPay_laid hp).1
          dsimp only at hr
          have HP := hide (show Rec.payV (Rec.readPayB y) = .tuple #[.string it, .int .i64 (k : Int), .int .i64 0] by rw [hp]; rfl)
          clear hp HRR
          by_cases hk : k = y.size
          · rw [if_pos hk] at hr
            injection hr with e1 e2
            subst e1; subst e2
            have hkz : ((k : Int) != y.size) = false := by simp [hk]
            clear hk
            go_wp2_with fail
            refine (readPay_val y _ _ (by omega) HP.out).mono ?_
            rintro e w2 ⟨rfl, hb2⟩
            go_wp2_with fail
            go_ret2
            exact ⟨rfl, hb2⟩
          · rw [if_neg hk] at hr
            injection hr with e1 e2
            subst e1; subst e2
            have hkz : ((k : Int) != y.size) = true := by simp; omega
            go_wp2_with fail
            refine (readPay_val y _ _ (by omega) HP.out).mono ?_
            rintro e w2 ⟨rfl, hb2⟩
            go_wp2_with fail
            go_ret2
            exact ⟨rfl, hb2⟩
      · rw [if_pos hq] at hr
        injection hr with e1 e2
        subst e1; subst e2
        clear HRR
        go_wp2_with fail
        go_ret2
        exact ⟨rfl, Below.refl _ _⟩
    · obtain ⟨m, rfl⟩ : ∃ m, i = m + 1 := ⟨i - 1, by omega⟩
      have hb3 := hb2 h0
      rw [Nat.add_sub_cancel] at hb3
      clear h00 hb2 h0
      go_wp2_with fail
      refine (storeBytes_val T D s d Fl.nItems _ _ y q _ HT.out HD.out (by decide) hoff hlen HY.out).mono ?_
      rintro e w1 ⟨rfl, he⟩
      subst he
      have hr := HRR.out
      by_cases hq : q = 0
      · subst hq
        rw [if_neg (fun h => h rfl)] at hr
        unfold Fl.payOf at hr
        cases hp : Rec.readPayB y with
        | none =>
          rw [hp] at hr
          injection hr with e1 e2
          subst e1; subst e2
          have HP := hide (show Rec.payV (Rec.readPayB y) = .tuple #[.string ⟨#[]⟩, .int .i64 0, .int .i64 180] by rw [hp]; rfl)
          clear hp HRR
          go_wp2_with fail
          refine (readPay_val y _ _ (by omega) HP.out).mono ?_
          rintro e w2 ⟨rfl, hb2⟩
          go_wp2_with fail
          go_ret2
          exact ⟨rfl, hb2⟩
        | some pr =>
          obtain ⟨it, k⟩ := pr
          rw [hp] at hr
          have hks := (Rec.readPay_laid hp).1
          dsimp only at hr
          have HP := hide (show Rec.payV (Rec.readPayB y) = .tuple #[.string it, .int .i64 (k : Int), .int .i64 0] by rw [hp]; rfl)
          clear hp HRR
          by_cases hk : k = y.size
          · rw [if_pos hk] at hr
            injection hr with e1 e2
            subst e1; subst e2
            have hkz : ((k : Int) != y.size) = false := by simp [hk]
            clear hk
            go_wp2_with fail
            refine (readPay_val y _ _ (by omega) HP.out).mono ?_
            rintro e w2 ⟨rfl, hb2⟩
            go_wp2_with fail
            go_ret2
            exact ⟨rfl, hb2⟩
          · rw [if_neg hk] at hr
            injection hr with e1 e2
            subst e1; subst e2
            have hkz : ((k : Int) != y.size) = true := by simp; omega
            go_wp2_with fail
            refine (readPay_val y _ _ (by omega) HP.out).mono ?_
            rintro e w2 ⟨rfl, hb2⟩
            go_wp2_with fail
            go_ret2
            exact ⟨rfl, hb2⟩
      · rw [if_pos hq] at hr
        injection hr with e1 e2
        subst e1; subst e2
        clear HRR
        go_wp2_with fail
        go_ret2
        exact ⟨rfl, Below.refl _ _⟩
set_option maxHeartbeats 1600000 in
set_option maxRecDepth 100000 in
theorem storeNode_val (T : Fl.Blk) (D : Dk.Blk) (s : Fl.St) (d : Dk.St) (p : Nat) (x : ByteArray) (r : Int) (w : World) (h : StoreAt w T D.g s) (hd : DiskAt w D d) (hp : p < 18446744073709551616) (hr : Fl.nodeA s d p = (x, r)) :
    Calls Tryz.prog 34 #[.pointer (some ⟨T.g, 0, none⟩), .int .u64 (p : Int)] w fun e w' => e = .returned (.tuple #[.string x, .int .i64 r]) ∧ Below w.heap.size w w' := by
  obtain ⟨ad, cap, hv, hc, hx⟩ := h.form
  obtain ⟨n, hn⟩ : ∃ n, n = s.ends.length := ⟨_, rfl⟩
  have c2 := h.c2
  have c1 := h.c1
  rw [hv, ← hn] at c2
  rw [← hn] at hc
  have hm := h.ok.many
  have hk := h.ok.strength
  rw [← hn] at hm
  obtain ⟨k, hkk⟩ : ∃ k, k = s.k := ⟨_, rfl⟩
  rw [← hkk] at c1 hk
  obtain ⟨Q, hQ⟩ : ∃ q, q = Fl.nodes n := ⟨_, rfl⟩
  have hQn : Q ≤ 2 * n := by rw [hQ]; exact nodes_le n
  have HT := hide h
  have HD := hide hd
  have HQ := hide hQ
  unfold Fl.nodeA at hr
  rw [← hn, ← hQ, ← hkk] at hr
  clear hv hx hn hQ
  by_cases hle : Q ≤ p
  · rw [if_pos hle] at hr
    injection hr with e1 e2
    subst e1; subst e2
    clear h hd hkk
    go_enter Tryz.func34, Tryz.ntmps34
    go_wp2_with fail
    refine (nodes_val n Q _ (by omega) HQ.out).mono ?_
    rintro e w1 ⟨rfl, he⟩
    subst he
    go_wp2_with fail
    go_ret2
    exact ⟨rfl, Below.refl _ _⟩
  · rw [if_neg hle] at hr
    obtain ⟨y, q, hy⟩ : ∃ y q, Fl.bytesA d Fl.nNodes (40 * p : Nat) 40 = (y, q) := ⟨_, _, rfl⟩
    have hys : y.size ≤ 268435456 := by
      have := Fl.bytesA_size hd.ok Fl.nNodes (40 * p : Nat) 40
      rw [hy] at this; exact this
    rw [hy] at hr
    dsimp only at hr
    have HY := hide hy
    have HRR := hide hr
    have hoff : (Lit.int .i64 ((40 * p : Nat) : Int)).wf = true := Rec.wf_i64 (by omega) (by omega)
    have hkw : (Lit.int .i64 (k : Int)).wf = true := Rec.wf_i64 (by omega) (by omega)
    have hkr : ¬ ((k : Int) < 1 ∨ 32 < (k : Int)) := by omega
    clear h hd hkk hy hr
    go_enter Tryz.func34, Tryz.ntmps34
    go_wp2_with fail
    refine (nodes_val n Q _ (by omega) HQ.out).mono ?_
    rintro e w1 ⟨rfl, he⟩
    subst he
    have hpl : (p : Int) < Q := by omega
    go_wp2_with fail
    refine (storeBytes_val T D s d Fl.nNodes ((40 * p : Nat) : Int) 40 y q _ HT.out HD.out (by decide) hoff (by decide) HY.out).mono ?_
    rintro e w1 ⟨rfl, he⟩
    subst he
    have hr := HRR.out
    by_cases hq : q = 0
    · subst hq
      rw [if_neg (fun h => h rfl)] at hr
      unfold Fl.nodeOf at hr
      by_cases hok : Rec.nodeOk k p y = true
      · rw [if_pos hok] at hr
        injection hr with e1 e2
        subst e2
        have HP := hide (show Rec.readNodeV (k : Int) p y = .tuple #[.string x, .int .i64 0] by
          unfold Rec.readNodeV
          rw [if_neg hkr, Int.toNat_natCast, if_pos hok, e1])
        clear hok HRR e1
        go_wp2_with fail
        refine (readNode_val (k : Int) p y _ _ hkw hp (by omega) HP.out).mono ?_
        rintro e w2 ⟨rfl, hb2⟩
        go_wp2_with fail
        go_ret2
        exact ⟨rfl, hb2⟩
      · rw [if_neg hok] at hr
        injection hr with e1 e2
        subst e1; subst e2
        have HP := hide (show Rec.readNodeV (k : Int) p y = .tuple #[.string ⟨#[]⟩, .int .i64 180] by
          unfold Rec.readNodeV
          rw [if_neg hkr, Int.toNat_natCast, if_neg hok])
        clear hok HRR
        go_wp2_with fail
        refine (readNode_val (k : Int) p y _ _ hkw hp (by omega) HP.out).mono ?_
        rintro e w2 ⟨rfl, hb2⟩
        go_wp2_with fail
        go_ret2
        exact ⟨rfl, hb2⟩
    · rw [if_pos hq] at hr
      injection hr with e1 e2
      subst e1; subst e2
      clear HRR
      go_wp2_with fail
      go_ret2
      exact ⟨rfl, Below.refl _ _⟩
end Go.Proofs.YtbfbajfdlkgloaaGreatDoor
