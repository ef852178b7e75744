/-
  massiflaw17.DiskMemory answers true: the walk.
-/
import Derived.Test.YtiiblpgiafbaoaaMemoryPure
import Derived.Test.YtiiblpgiafbaoaaLawOpsW
import Derived.Test.YtiiblpgiafbaoaaEditW
import Derived.Test.YtiiblpgiafbaoaaRowsApart
import Derived.Test.YtiiblpgiafbaoaaDiskLay
import Derived.Test.YtiiblpgiafbaoaaRowsFour
import Derived.Deep.CutBlock
import Derived.Deep.Upon
namespace Go.Proofs.Ytiiblpgiafbaoaa
open Go Go.RowKit Go.Maps
-- DEFS mema
def memaL (u5 : Value) (tx : ByteArray) (xs : List Value) (b off len1 cap1 i B1 : Nat) (wr : World) : List Sp :=
  [.is (u5), .is (.int .i64 (i : Int)), .is (.int .i64 (97 + (i : Int))), .is (.int .u8 (97 + (i : Int))), .rel (fun v u => ∃ B, v = .slice (some ⟨B, 0, none⟩) 1 1 ∧ wr.heap.size ≤ B ∧ u.heap[B]? = some (.cells #[.int .u8 (97 + (i : Int))] 5 (0, 0))) (fun _ _ _ h hb => by obtain ⟨B, h1, h2, h3⟩ := h; exact ⟨B, h1, h2, blk_stable _ _ h3 hb⟩), .is (.string (Dk.mNm i)), .is (.slice (some ⟨b, off, none⟩) len1 cap1), .is (.int .i64 (i : Int)), .is (.pointer (some ⟨b, off + i * 2, none⟩)), .is (.pointer (some ⟨b, off + i * 2 + 1, none⟩)), .is (.string tx), .is (.string (Dk.short tx 200)), .is (.string (Dk.short tx 200 ++ ⟨#[46]⟩)), .is (.agg #[.string (Dk.mNm i), .string (Dk.short tx 200 ++ ⟨#[46]⟩)]), .rel (fun v u => ∃ B, v = .slice (some ⟨B, 0, none⟩) 1 1 ∧ u.heap[B]? = some (.cells #[.string (Dk.mNm i), .string (Dk.short tx 200 ++ ⟨#[46]⟩)] 42 (0, 0))) (fun _ _ _ h hb => by obtain ⟨B, h1, h2⟩ := h; exact ⟨B, h1, blk_stable _ _ h2 hb⟩), .rel (fun v u => u.ownsRow B1 42 2 v (i + 1) (xs ++ [.string (Dk.mNm i), .string (Dk.short tx 200 ++ ⟨#[46]⟩)])) (fun _ _ _ h hb => own_below h hb), .rel (fun v u => u.ownsRow B1 42 2 v (i + 1) (xs ++ [.string (Dk.mNm i), .string (Dk.short tx 200 ++ ⟨#[46]⟩)])) (fun _ _ _ h hb => own_below h hb)]
def memaU : List (List Nat) := [[], [], [1], [2], [3], [4], [], [], [6, 7], [8], [9], [10], [11], [5, 12], [13], [0, 14], [15]]
-- END mema
-- DEFS mem3a
def mem3aL (g5 gw c5 cw NN nn i : Nat) (p q : ByteArray) : List Sp :=
  [.is (.int .i64 (i : Int)), .is (.int .i64 (nn : Int)), .is (.bool true), .is (.bool true), .is (.slice (some ⟨g5, 0, none⟩) NN c5), .is (.int .i64 (i : Int)), .is (.pointer (some ⟨g5, i * 2, none⟩)), .is (.agg #[.string p, .string q]), .is (.slice (some ⟨gw, 0, none⟩) nn cw), .is (.int .i64 (i : Int)), .is (.pointer (some ⟨gw, i * 2, none⟩)), .is (.agg #[.string p, .string q]), .is (.bool false), .is (.bool false), .is (.bool false), .is (.int .i64 (i : Int)), .is (.int .i64 (nn : Int)), .is (.bool false), .is (.bool false), .is (undef), .is (undef), .is (undef), .is (undef), .is (undef), .is (undef), .is (.bool false), .is (.bool false)]
def mem3aU : List (List Nat) := [[], [], [0, 1], [2], [3], [3], [3, 4, 5], [3, 6], [3], [3], [3, 8, 9], [3, 10], [3, 7, 11], [3, 12], [13], [14], [14], [14, 15, 16], [14, 17], [18], [18], [18], [18], [18], [18], [14, 18, 24], [14, 25]]
-- END mem3a
-- DEFS mem3b
def mem3bL (vw : Value) (g5 c5 NN nn i : Nat) : List Sp :=
  [.is (.int .i64 (i : Int)), .is (.int .i64 (nn : Int)), .is (.bool false), .is (.bool false), .is (undef), .is (undef), .is (undef), .is (undef), .is (undef), .is (undef), .is (undef), .is (undef), .is (undef), .is (.bool false), .is (.bool false), .is (.int .i64 (i : Int)), .is (.int .i64 (nn : Int)), .is (.bool true), .is (.bool true), .is (.slice (some ⟨g5, 0, none⟩) NN c5), .is (.int .i64 (i : Int)), .is (.pointer (some ⟨g5, i * 2, none⟩)), .is (.agg #[.string ⟨#[114, 111, 111, 109]⟩, .string ⟨#[]⟩]), .is (.agg #[.string ⟨#[114, 111, 111, 109]⟩, .string ⟨#[]⟩]), .is (.bool false), .is (.bool false), .is (.bool false)]
def mem3bU : List (List Nat) := [[], [], [0, 1], [2], [3], [3], [3], [3], [3], [3], [3], [3], [3], [3, 12], [13], [14], [14], [14, 15, 16], [14, 17], [18], [18], [18, 19, 20], [18, 21], [18], [18, 22, 23], [14, 18, 24], [14, 25]]
-- END mem3b
-- DEFS mem4
def mem4L (gm gn capm capn M i : Nat) (bb : Bool) : List Sp :=
  [.is (.slice (some ⟨gm, 0, none⟩) M capm), .is (.int .i64 (i : Int)), .is (.pointer (some ⟨gm, i, none⟩)), .is (.bool bb), .is (.slice (some ⟨gn, 0, none⟩) M capn), .is (.int .i64 (i : Int)), .is (.pointer (some ⟨gn, i, none⟩)), .is (.bool bb), .is (.bool false)]
def mem4U : List (List Nat) := [[], [], [0, 1], [2], [], [], [4, 5], [6], [3, 7]]
-- END mem4
-- DEFS mem5
def mem5L (V : Nat → Value) (BB nf mf : Nat → Nat) (ba gi cap N i j : Nat) : List Sp :=
  [.is (.slice (some ⟨ba, 0, none⟩) 4 4), .is (.int .i64 (i : Int)), .is (.pointer (some ⟨ba, i, none⟩)), .is (.slice (some ⟨gi, 0, none⟩) N cap), .is (.int .i64 (j : Int)), .is (.int .i64 (i : Int)), .is (.int .u8 (i : Int)), .rel (fun v u => ∃ B, v = .slice (some ⟨B, 0, none⟩) 1 1 ∧ u.heap[B]? = some (.cells #[.int .u8 (i : Int)] 5 (0, 0))) (fun _ _ _ h hb => by obtain ⟨B, h1, h3⟩ := h; exact ⟨B, h1, blk_stable _ _ h3 hb⟩), .is (.string (nmK i)), .is (.agg #[.string (nmK i), .string ⟨#[]⟩]), .is (.pointer (some ⟨gi, j * 2, none⟩)), .say (fun u => Rows u BB 42 V nf mf) (fun _ _ h hb => h.past hb)]
def mem5U : List (List Nat) := [[], [], [0, 1], [2], [], [], [5], [6], [7], [8], [3, 4], [9, 10]]
-- END mem5
-- DEFS mem6
def mem6L (wr : World) (V G : Nat → Value) (gv : Value) (BB nf mf : Nat → Nat) (bg i : Nat) (hst : ∀ (G : Nat → Value) (m : Nat → Nat) (u u' : World), Grown u BB (bg + 1) 42 V G nf m → Below u.heap.size u u' → Grown u' BB (bg + 1) 42 V G nf m) : List Sp :=
  [.is (.slice (some ⟨bg, 0, none⟩) 4 4), .is (.int .i64 (i : Int)), .is (.slice (some ⟨bg, 0, none⟩) 4 4), .is (.int .i64 (i : Int)), .is (.pointer (some ⟨bg, i, none⟩)), .both (gv) (fun u => Grown u BB (bg + 1) 42 V G nf mf ∧ u.heap[bg]? = some (.cells #[G 0, G 1, G 2, G 3] 40 (0, 0))) (fun _ _ h hb => ⟨hst _ _ _ _ h.1 hb, blk_stable _ _ h.2 hb⟩), .is (.int .i64 (i : Int)), .is (.int .u8 (i : Int)), .rel (fun v u => ∃ B, v = .slice (some ⟨B, 0, none⟩) 1 1 ∧ wr.heap.size ≤ B ∧ u.heap[B]? = some (.cells #[.int .u8 (i : Int)] 5 (0, 0))) (fun _ _ _ h hb => by obtain ⟨B, h1, h2, h3⟩ := h; exact ⟨B, h1, h2, blk_stable _ _ h3 hb⟩), .is (.string (nmK i)), .is (.agg #[.string (nmK i), .string ⟨#[]⟩]), .rel (fun v u => ∃ B, v = .slice (some ⟨B, 0, none⟩) 1 1 ∧ u.heap[B]? = some (.cells #[.string (nmK i), .string ⟨#[]⟩] 42 (0, 0))) (fun _ _ _ h hb => by obtain ⟨B, h1, h2⟩ := h; exact ⟨B, h1, blk_stable _ _ h2 hb⟩), .rel (fun v u => (∃ ad cap, v = .slice ad (mf i + 1) cap) ∧ Grown u BB (bg + 1) 42 V (upd G i v) nf (upd mf i (mf i + 1)) ∧ u.heap[bg]? = some (.cells #[G 0, G 1, G 2, G 3] 40 (0, 0))) (fun _ _ _ h hb => ⟨h.1, hst _ _ _ _ h.2.1 hb, blk_stable _ _ h.2.2 hb⟩), .is (.pointer (some ⟨bg, i, none⟩)), .say (fun u => ∃ v, Grown u BB (bg + 1) 42 V (upd G i v) nf (upd mf i (mf i + 1)) ∧ u.heap[bg]? = some (.cells #[upd G i v 0, upd G i v 1, upd G i v 2, upd G i v 3] 40 (0, 0))) (fun _ _ h hb => by obtain ⟨v, h1, h2⟩ := h; exact ⟨v, hst _ _ _ _ h1 hb, blk_stable _ _ h2 hb⟩)]
def mem6U : List (List Nat) := [[], [], [], [], [2, 3], [4], [], [6], [7], [8], [9], [10], [5, 11], [0, 1], [12, 13]]
-- END mem6
-- DEFS mem7a
def mem7aL (bg ba gg gw N n capg capv i j : Nat) : List Sp :=
  [.is (.slice (some ⟨bg, 0, none⟩) 4 4), .is (.int .i64 (i : Int)), .is (.pointer (some ⟨bg, i, none⟩)), .is (.slice (some ⟨gg, 0, none⟩) N capg), .is (.int .i64 (j : Int)), .is (.pointer (some ⟨gg, j * 2, none⟩)), .is (.pointer (some ⟨gg, j * 2, none⟩)), .is (.string (nmK i)), .is (.int .i64 (i : Int)), .is (.int .u8 (i : Int)), .rel (fun v u => ∃ B, v = .slice (some ⟨B, 0, none⟩) 1 1 ∧ u.heap[B]? = some (.cells #[.int .u8 (i : Int)] 5 (0, 0))) (fun _ _ _ h hb => by obtain ⟨B, h1, h3⟩ := h; exact ⟨B, h1, blk_stable _ _ h3 hb⟩), .is (.string (nmK i)), .is (.bool false), .is (.bool false), .is (.int .i64 (j : Int)), .is (.slice (some ⟨ba, 0, none⟩) 4 4), .is (.int .i64 (i : Int)), .is (.pointer (some ⟨ba, i, none⟩)), .is (.slice (some ⟨gw, 0, none⟩) n capv), .is (.int .i64 (n : Int)), .is (.bool true), .is (.bool true), .is (.slice (some ⟨ba, 0, none⟩) 4 4), .is (.int .i64 (i : Int)), .is (.pointer (some ⟨ba, i, none⟩)), .is (.slice (some ⟨gw, 0, none⟩) n capv), .is (.int .i64 (j : Int)), .is (.pointer (some ⟨gw, j * 2, none⟩)), .is (.pointer (some ⟨gw, j * 2, none⟩)), .is (.string (nmK i)), .is (.int .i64 (i : Int)), .is (.int .u8 (i : Int)), .rel (fun v u => ∃ B, v = .slice (some ⟨B, 0, none⟩) 1 1 ∧ u.heap[B]? = some (.cells #[.int .u8 (i : Int)] 5 (0, 0))) (fun _ _ _ h hb => by obtain ⟨B, h1, h3⟩ := h; exact ⟨B, h1, blk_stable _ _ h3 hb⟩), .is (.string (nmK i)), .is (.bool false), .is (.bool false), .is (.bool false)]
def mem7aU : List (List Nat) := [[], [], [0, 1], [2], [], [3, 4], [5], [6], [], [8], [9], [10], [7, 11], [12], [13], [13], [13], [13, 15, 16], [13, 17], [13, 18], [13, 14, 19], [13, 20], [21], [21], [21, 22, 23], [21, 24], [21], [21, 25, 26], [21, 27], [21, 28], [21], [21, 30], [21, 31], [21, 32], [21, 29, 33], [13, 21, 34], [13, 35]]
-- END mem7a
-- DEFS mem7b
def mem7bL (ad : Option Addr) (bg ba gg N n capg capv i j : Nat) : List Sp :=
  [.is (.slice (some ⟨bg, 0, none⟩) 4 4), .is (.int .i64 (i : Int)), .is (.pointer (some ⟨bg, i, none⟩)), .is (.slice (some ⟨gg, 0, none⟩) N capg), .is (.int .i64 (j : Int)), .is (.pointer (some ⟨gg, j * 2, none⟩)), .is (.pointer (some ⟨gg, j * 2, none⟩)), .is (.string (nmK i)), .is (.int .i64 (i : Int)), .is (.int .u8 (i : Int)), .rel (fun v u => ∃ B, v = .slice (some ⟨B, 0, none⟩) 1 1 ∧ u.heap[B]? = some (.cells #[.int .u8 (i : Int)] 5 (0, 0))) (fun _ _ _ h hb => by obtain ⟨B, h1, h3⟩ := h; exact ⟨B, h1, blk_stable _ _ h3 hb⟩), .is (.string (nmK i)), .is (.bool false), .is (.bool false), .is (.int .i64 (j : Int)), .is (.slice (some ⟨ba, 0, none⟩) 4 4), .is (.int .i64 (i : Int)), .is (.pointer (some ⟨ba, i, none⟩)), .is (.slice ad n capv), .is (.int .i64 (n : Int)), .is (.bool false), .is (.bool false), .is (undef), .is (undef), .is (undef), .is (undef), .is (undef), .is (undef), .is (undef), .is (undef), .is (undef), .is (undef), .is (undef), .is (undef), .is (undef), .is (.bool false), .is (.bool false)]
def mem7bU : List (List Nat) := [[], [], [0, 1], [2], [], [3, 4], [5], [6], [], [8], [9], [10], [7, 11], [12], [13], [13], [13], [13, 15, 16], [13, 17], [13, 18], [13, 14, 19], [13, 20], [21], [21], [21], [21], [21], [21], [21], [21], [21], [21], [21], [21], [21], [13, 21, 34], [13, 35]]
-- END mem7b
-- DEFS mem3c
-- END mem3c
theorem wp_append_file1 {o : Oper} {a : Act} {w : World} {K : Act → World → Prop} {Q : Exit → Act → World → Prop} (s x : Operand)
    (ho : o.op = .call { callee := .builtin .append, args := #[s, x], argTypes := #[40, 40] })
    (base : Nat) (v : Value) (n : Nat) (xs : List Value) (hs : a.eval s = v) (hown : w.ownsRow base 42 2 v n xs) (B : Nat) (p q : ByteArray)
    (hx : a.eval x = .slice (some ⟨B, 0, none⟩) 1 1) (hB : w.heap[B]? = some (.cells #[.string p, .string q] 42 (0, 0))) (hn : n < 1099511627776) (hbase : base ≤ w.heap.size)
    (h : ∀ v' w', w'.ownsRow base 42 2 v' (n + 1) (xs ++ [.string p, .string q]) → ((v'.ownBlock = v.ownBlock ∧ w.grownBy w' v.ownBlock) ∨ ((∀ k, v'.ownBlock = some k → w.heap.size ≤ k) ∧ Below w.heap.size w w')) → K (a.put o.dst v') w') : o.wp Try.prog a w K Q := by
  refine wp_append_apart s x 40 ho base 42 _ 2 32 Try.underlying40 info_file rfl (by decide) v n xs hs hown ⟨B, 0, none⟩ 1 1 [.string p, .string q] hx rfl ?_ ?_ (by unfold maxLen; omega) (by omega) hbase h
  · intro j u hj
    rw [Addr.add_lit, cell_blk hB]
    rcases j with _|_|j
    · simpa using hj
    · simpa using hj
    · simp at hj
  · intro u hu
    simp only [List.mem_cons, List.mem_nil_iff, or_false] at hu
    rcases hu with rfl | rfl <;> rfl
theorem wpList_append_file1 {w : World} {ops : Array Oper} {rest : List Oper} {o : Oper} {a : Act} {Q : Exit → Act → World → Prop} (hgd : o.guard = none) (s x : Operand)
    (ho : o.op = .call { callee := .builtin .append, args := #[s, x], argTypes := #[40, 40] })
    (base : Nat) (v : Value) (n : Nat) (xs : List Value) (hs : a.eval s = v) (hown : w.ownsRow base 42 2 v n xs) (B : Nat) (p q : ByteArray)
    (hx : a.eval x = .slice (some ⟨B, 0, none⟩) 1 1) (hB : w.heap[B]? = some (.cells #[.string p, .string q] 42 (0, 0))) (hn : n < 1099511627776) (hbase : base ≤ w.heap.size)
    (h : ∀ v' w', w'.ownsRow base 42 2 v' (n + 1) (xs ++ [.string p, .string q]) → ((v'.ownBlock = v.ownBlock ∧ w.grownBy w' v.ownBlock) ∨ ((∀ k, v'.ownBlock = some k → w.heap.size ≤ k) ∧ Below w.heap.size w w')) → wpList Try.prog ops Q rest (a.put o.dst v') w') : wpList Try.prog ops Q (o :: rest) a w :=
  wpList_plain hgd fun _ hK => wp_append_file1 s x ho base v n xs hs hown B p q hx hB hn hbase fun v' w' h2 h3 => hK _ _ (h v' w' h2 h3)
theorem flatF_one (l : List (ByteArray × ByteArray)) : ∀ u ∈ flatF l, u.oneCell' = true := by
  intro u hu
  unfold flatF at hu
  obtain ⟨p, _, hp⟩ := List.mem_flatMap.1 hu
  simp only [List.mem_cons, List.mem_nil_iff, or_false] at hp
  rcases hp with rfl | rfl <;> rfl
theorem own_form {w : World} {base e size n : Nat} {v : Value} {xs : List Value} (h : w.ownsRow base e size v n xs) : ∃ ad cap, v = .slice ad n cap := by
  obtain ⟨_, ⟨rfl, rfl⟩ | ⟨g, cap, cur, rfl, _⟩⟩ := h
  · exact ⟨_, _, rfl⟩
  · exact ⟨_, _, rfl⟩
theorem room_step {w1 wr w7 : World} {B1 B2 B3 n m T : Nat} {v5 v7 vw : Value} {xs ys : List Value} (o : Obj) (hown : wr.ownsRow B1 T 2 v5 n xs) (hap : ∀ b, v5.ownBlock = some b → b < B2 ∨ B3 ≤ b)
    (hws : wr.ownsRow B2 T 2 vw m ys) (hwl : ∀ b, vw.ownBlock = some b → b < B3) (hb : Below B1 w1 wr) (hB1 : B1 ≤ w1.heap.size) (h3 : B3 ≤ wr.heap.size)
    (hgr : (v7.ownBlock = v5.ownBlock ∧ (wr.alloc o).grownBy w7 v5.ownBlock) ∨ ((∀ k, v7.ownBlock = some k → (wr.alloc o).heap.size ≤ k) ∧ Below (wr.alloc o).heap.size (wr.alloc o) w7)) :
    w7.ownsRow B2 T 2 vw m ys ∧ (∀ b, v7.ownBlock = some b → b < B2 ∨ B3 ≤ b) ∧ Below B1 w1 w7 ∧ B3 ≤ w7.heap.size := by
  have hsz : wr.heap.size ≤ (wr.alloc o).heap.size := (Below.alloc (Below.refl 0 wr) (Nat.zero_le _) o).size
  have hb2 : Below B1 w1 (wr.alloc o) := hb.alloc (Nat.le_trans hB1 hb.size) o
  rcases hgr with ⟨e, hg⟩ | ⟨hk, hg⟩
  · refine ⟨(hws.alloc o).kept hg ?_, fun b h => hap b (e ▸ h), ⟨hg.os.trans hb2.os, hg.tape.trans hb2.tape, hg.output.trans hb2.output, Nat.le_trans hb2.size hg.size, fun k hk => ?_⟩, Nat.le_trans h3 (Nat.le_trans hsz hg.size)⟩
    · cases hv : vw.ownBlock with
      | none => exact .inl rfl
      | some b =>
        refine .inr fun e2 => ?_
        have h1 := hap b e2.symm
        have h2 := hwl b hv
        have h4 := (hws.lt b hv).1
        omega
    · rw [hg.block k (Nat.lt_of_lt_of_le hk (Nat.le_trans hB1 hb2.size)) (fun e2 => by have := (hown.lt k e2.symm).1; omega)]
      exact hb2.block k hk
  · exact ⟨own_below (hws.alloc o) hg, fun b h => .inr (Nat.le_trans h3 (Nat.le_trans hsz (hk b h))), hb2.trans (hg.mono (Nat.le_trans hB1 hb2.size)), Nat.le_trans h3 (Nat.le_trans hsz hg.size)⟩
theorem slf_head {w : World} {b off cap N m : Nat} {l r : List (ByteArray × ByteArray)} (h : SlF w (.slice (some ⟨b, off, none⟩) N cap) (l ++ r)) (hm : m = l.length) : SlF w (.slice (some ⟨b, off, none⟩) m cap) l := by
  subst hm
  rcases h with ⟨he, _⟩ | ⟨b', off', cap', hv, hc, hb, hx⟩
  · obtain ⟨rfl, _⟩ := List.append_eq_nil_iff.1 he
    exact .inl ⟨rfl, _, _, rfl, fun e => by cases e⟩
  · injection hv with h1 h2 h3
    injection h1 with h1
    injection h1 with h4 h5
    subst h3; subst h4; subst h5
    rw [List.length_append] at hc
    refine .inr ⟨b, off, cap, rfl, by omega, hb, fun j hj => ?_⟩
    have := hx j (by rw [List.length_append]; omega)
    rw [List.getElem_append_left hj] at this
    exact this
theorem own_pos {w : World} {base e size n : Nat} {v : Value} {xs : List Value} (h : w.ownsRow base e size v n xs) (hn : 0 < n) : ∃ g cap cur, v = .slice (some ⟨g, 0, none⟩) n cap ∧ base ≤ g ∧ w.heap[g]? = some (.cells cur e (0, 0)) ∧ n ≤ cap ∧ cap ≤ maxLen ∧ cur.size = cap * size ∧ cur.toList.take (n * size) = xs := by
  obtain ⟨_, ⟨rfl, h0⟩ | h⟩ := h
  · omega
  · exact h
/-- The law's list with its room. -/
def memR (fl : List (ByteArray × ByteArray)) (n k : Nat) : List (ByteArray × ByteArray) := Dk.memL fl n ++ List.replicate k (⟨#[114, 111, 111, 109]⟩, ⟨#[]⟩)
theorem row_get {cur : Array Value} {N i : Nat} {l : List (ByteArray × ByteArray)} {pq : ByteArray × ByteArray} (hx : cur.toList.take (N * 2) = flatF l) (h : l[i]? = some pq) : cur[i * 2]? = some (.string pq.1) ∧ cur[i * 2 + 1]? = some (.string pq.2) := by
  obtain ⟨hi, rfl⟩ := List.getElem?_eq_some_iff.1 h
  have hlen := congrArg List.length hx
  rw [List.length_take, flatF_len] at hlen
  have hf := flatF_get l i hi
  rw [← hx, List.getElem?_take_of_lt (by omega), List.getElem?_take_of_lt (by omega)] at hf
  simpa using hf
theorem memR_left {fl : List (ByteArray × ByteArray)} {n k i : Nat} {pq : ByteArray × ByteArray} (h : (Dk.memL fl n)[i]? = some pq) : (memR fl n k)[i]? = some pq := by
  unfold memR
  rw [List.getElem?_append_left (List.getElem?_eq_some_iff.1 h).1]; exact h
theorem memR_right {fl : List (ByteArray × ByteArray)} {n k i : Nat} (h : n ≤ i) (hi : i < n + k) : (memR fl n k)[i]? = some (⟨#[114, 111, 111, 109]⟩, ⟨#[]⟩) := by
  unfold memR
  rw [List.getElem?_append_right (by rw [Dk.memL_len]; exact h), Dk.memL_len, List.getElem?_replicate, if_pos (by omega)]
theorem flat_at {l : List (ByteArray × ByteArray)} {i : Nat} {pq : ByteArray × ByteArray} (h : l[i]? = some pq) : (flatF l)[i * 2]? = some (.string pq.1) ∧ (flatF l)[i * 2 + 1]? = some (.string pq.2) := by
  obtain ⟨hi, rfl⟩ := List.getElem?_eq_some_iff.1 h
  exact flatF_get l i hi
theorem arr_get {w : World} {g e j : Nat} {xs : List Value} {v : Value} (h : Arr w g e xs) (hj : xs[j]? = some v) : w.cell? ⟨g, j, none⟩ = some v := by
  obtain ⟨hl, rfl⟩ := List.getElem?_eq_some_iff.1 hj
  exact h.at j hl
theorem moved_setCells (w : World) (g o : Nat) (vs : List Value) : Moved (fun k => k = g) w (w.setCells g o vs) := by
  have hb := below_setCells (B := 0) (w0 := w) (Nat.zero_le g) vs o w (Below.refl _ _)
  exact ⟨hb.os, hb.tape, hb.output, hb.size, fun j hj hn => World.heap_setCells_other w g o vs hj hn⟩
theorem tdg {xs : List Value} {o q : Nat} {a b : Value} (h : o + 2 ≤ xs.length) (hq : o + 2 ≤ q) : (xs.take o ++ [a, b] ++ xs.drop (o + 2))[q]? = xs[q]? := by
  rw [List.getElem?_append_right (by simp; omega), List.getElem?_drop]
  congr 1
  simp; omega
theorem memL_small (l : List (ByteArray × ByteArray)) (n : Nat) : ∀ p ∈ Dk.memL l n, p.1.size ≤ 140737488351232 ∧ p.2.size ≤ 140737488351232 := by
  intro p hp
  unfold Dk.memL at hp
  obtain ⟨i, _, rfl⟩ := List.mem_map.1 hp
  exact ⟨by show (1 : Nat) ≤ _; decide, Nat.le_trans (Dk.mTx_size _).2 (by decide)⟩
theorem slf_own {w : World} {base e n : Nat} {v : Value} {l : List (ByteArray × ByteArray)} (h : w.ownsRow base e 2 v n (flatF l)) (hn : n = l.length) : SlF w v l := by
  subst hn; exact slf_of_owns h
theorem Arr.moved {S : Nat → Prop} {w w' : World} {g e : Nat} {xs : List Value} (h : Arr w g e xs) (hm : Moved S w w') (hn : ¬ S g) : Arr w' g e xs := by
  obtain ⟨C, lo, hi, h1, h2⟩ := h
  exact ⟨C, lo, hi, (hm.block g (heap_lt h1) hn).trans h1, h2⟩
structure MemK (ba : Nat) (V : Nat → Value) (D : Dk.Blk) (s : Dk.St) (w1 : World) (B1 B7 LS b4 : Nat) (vs : Value) (st : List (ByteArray × ByteArray)) (u : World) : Prop where
  all : u.heap[ba]? = some (.cells #[V 0, V 1, V 2, V 3] 40 (0, 0))
  disk : DiskAt u D s
  stays : u.ownsRow B7 42 2 vs LS (flatF st)
  below : Below B1 w1 u
  size : b4 ≤ u.heap.size
theorem MemK.moved {ba : Nat} {V : Nat → Value} {D : Dk.Blk} {s : Dk.St} {w1 : World} {B1 B7 LS b4 b0 : Nat} {vs : Value} {st : List (ByteArray × ByteArray)} {u u' : World} {P : Nat → Prop} (h : MemK ba V D s w1 B1 B7 LS b4 vs st u) (hm : Moved P u u')
    (hz : D.g < b0 ∧ D.mb < b0 ∧ (∀ k, Dk.slBlk D.kv = some k → k < b0) ∧ (∀ b, vs.ownBlock = some b → b < b0) ∧ b4 ≤ ba ∧ B1 ≤ b0 ∧ b0 ≤ b4 ∧ B1 = w1.heap.size) (hP : ∀ k, P k → (b0 ≤ k ∧ k < b4) ∨ ba < k) : MemK ba V D s w1 B1 B7 LS b4 vs st u' := by
  obtain ⟨z1, z2, z3, z4, z5, z6, z7, z8⟩ := hz
  have hb := h.below.size
  have hn : ∀ k, k < b0 → ¬ P k := fun k hk h => by have := hP k h; omega
  refine ⟨(hm.block ba (heap_lt h.all) fun h => by have := hP ba h; omega).trans h.all, h.disk.stay hm ⟨hn _ z1, hn _ z2, fun k hk => hn k (z3 k hk)⟩, row_moved h.stays hm fun b hb => hn b (z4 b hb), h.below.trans (hm.below (by omega) fun k hk => ?_), Nat.le_trans h.size hm.size⟩
  have := hP k hk
  omega
theorem bools_one (l : List Bool) : ∀ u ∈ l.map Value.bool, u.oneCell' = true := by
  intro u hu
  obtain ⟨_, _, rfl⟩ := List.mem_map.1 hu
  rfl
def moreL (keep : List Bool) : List Value := (keep ++ [true, false, true, false, true]).map Value.bool
theorem moreL_len (keep : List Bool) : (moreL keep).length = keep.length + 5 := by unfold moreL; simp
theorem mem_after_len (l : List (ByteArray × ByteArray)) {n : Nat} (hn : n ≤ 12) (keep : List Bool) : (Dk.after (Dk.memY l n keep) keep).length ≤ 12 := by
  have hp : ∀ R, (Dk.pick (Dk.memW l n).files R).length ≤ 12 := by
    intro R
    have h1 := (Dk.mem_files l hn).1
    unfold Dk.pick
    refine Nat.le_trans (List.length_filter_le _ _) ?_
    rw [List.length_zip, List.length_map, h1]
    omega
  unfold Dk.after
  split
  · exact hp _
  · exact hp _
set_option maxHeartbeats 32000000 in
set_option maxRecDepth 100000 in
theorem memory_any (v1 v2 : Value) (fl : List (ByteArray × ByteArray)) (keep : List Bool) (w : World) (h1 : SlF w v1 fl) (hl1 : fl.length * 32 ≤ 140737488351232) (hm1 : ∀ q ∈ fl, q.1.size ≤ 140737488351232 ∧ q.2.size ≤ 140737488351232) (h2 : SlV w v2 (keep.map Value.bool)) (hl2 : keep.length ≤ 140737488351232) :
    Calls Try.prog 9 #[v1, v2] w fun e w' => e = .returned (.bool true) ∧ Below w.heap.size w w' := by
  obtain ⟨len1, a1, cap1, e1, rfl, hc1, HC1⟩ := h1.form
  have H1 := hide HC1
  have HN := hide e1
  have HM1 := hide hm1
  have H2 := hide h2
  have HKL := hide hl2
  have hn1 : len1 ≤ 140737488351232 := by omega
  obtain ⟨len2, a2, cap2, e2, rfl, e3, e4⟩ := h2.form
  have HLK := hide (show len2 = keep.length by rw [e2, List.length_map])
  clear h1 HC1 e1 hl1 hm1 h2 e2 e3 e4
  go_enter Try.func9, Try.ntmps9
  go_wp2_with fail
  refine (alive_any _).mono ?_
  rintro e w1 ⟨rfl, hb1⟩
  have HB1 := hide hb1
  obtain ⟨B1, hB1⟩ : ∃ b, b = w1.heap.size := ⟨_, rfl⟩
  have HBQ := hide (show B1 = w1.heap.size ∧ w.heap.size ≤ B1 from ⟨hB1, by rw [hB1]; exact hb1.size⟩)
  clear hb1 hB1
  obtain ⟨nn, hnn⟩ : ∃ n, n = min len1 12 := ⟨_, rfl⟩
  have hnn12 : nn ≤ 12 ∧ nn ≤ len1 ∧ (nn = len1 ∨ nn = 12) := by omega
  have HNN := hide hnn12
  clear hnn
  go_upto_block 0 with (fail)
  go_cut [5, 6] from 31 to 56 (fun v5 v6 wx => Hid (wx.ownsRow B1 42 2 v5 nn (flatF (Dk.memL fl nn)) ∧ Below B1 w1 wx))
  case first =>
    go_wp2_with fail
    go_loopg [5, 6] 12 (fun g v5 v6 wr => ∃ i : Nat, i ≤ nn ∧ g = 12 - i ∧ v6 = .int .i64 i ∧ Hid (wr.ownsRow B1 42 2 v5 i (flatF (Dk.memL fl i)) ∧ Below B1 w1 wr))
    case atStart => exact ⟨0, Nat.zero_le _, rfl, rfl, World.ownsRow_nil _ _ _ _, Below.refl _ _⟩
    case round =>
      obtain ⟨i, hi, rfl, rfl, HR⟩ := hrel
      by_cases hlt : i < nn
      · have hi12 : (i : Int) < 12 := by omega
        have hil : (i : Int) < len1 := by omega
        obtain ⟨q, hq⟩ : ∃ q, fl[i]? = some q := ⟨_, List.getElem?_eq_getElem (by rw [← HN.out]; omega)⟩
        obtain ⟨b, off, rfl, hbw, hx1, hx2⟩ := H1.out i q hq
        have hqs := (HM1.out q (List.mem_of_getElem? hq)).2
        have HME := hide (show Dk.memE fl i = (Dk.mNm i, Dk.short q.2 200 ++ ⟨#[46]⟩) from by
          unfold Dk.memE Dk.mTx
          rw [List.getD_eq_getElem?_getD, hq]; rfl)
        obtain ⟨nm, tx⟩ := q
        dsimp only at hqs hx2 HME
        have HCE := hide (show b < w.heap.size ∧ w.cell? ⟨b, off + (i * 2 + 1), none⟩ = some (.string tx) from ⟨hbw, hx2⟩)
        have HBW := hide (show Below w.heap.size w wr from HB1.out.trans (HR.out.2.mono HBQ.out.2))
        have HSZ := hide (show B1 ≤ wr.heap.size by rw [HBQ.out.1]; exact HR.out.2.size)
        have HTX := hide hqs
        obtain ⟨xs, hxs⟩ : ∃ l, l = flatF (Dk.memL fl i) := ⟨_, rfl⟩
        have HXS := hide hxs
        have HOW := hide (show wr.ownsRow B1 42 2 u5 i xs by rw [hxs]; exact HR.out.1)
        have hi12' : i < 12 := by omega
        clear hxs hq hbw hx1 hx2 hqs
        go_upto_region 7 with (fail)
-- REGION mema
        
        refine wp_region_local (by kernel_rfl) (by kernel_rfl) (useList memaU) [16] (by kernel_rfl) (spR (memaL u5 tx xs b off len1 cap1 i B1 wr)) (onePre 15 (fun u => Below wr.heap.size wr u)) (Moved (fun k => B1 ≤ k) wr) (oneE 15 (KeptFrom wr.heap.size)) (one_stays1 4 (by simp [memaL]) (by kernel_rfl) (fun v u u' h hf => by obtain ⟨B, h1, h2, h3⟩ := h; exact ⟨B, h1, h2, KeptFrom.blk hf h2 h3⟩)) (one_pre (fun _ _ h hb => h.trans (hb.mono h.size))) (one_refl (fun _ => KeptFrom.refl _ _)) (dsts_lt (N := 316) (by kernel_rfl)) ((Moved.refl _ _).drew) (fun _ _ => one_start ((Below.refl _ _).drew)) (all_ops ?_) ?_
        · refine And.intro ?_ ?_
          · -- 0: slot 41 := Op.move (Operand.tmp 5)
            refine lstep_run fun fr wf left => ?_
            have o5 := (left.old 5 (by kernel_rfl)).trans rfl
            refine ⟨wanted_none rfl, fun K hK => ?_⟩
            have hB := hide left.base
            clear left
            go_simp
            exact hK _ _ rfl hB.out (one_refl (fun _ => KeptFrom.refl _ _) _ _)
          refine And.intro ?_ ?_
          · -- 1: slot 42 := Op.move (Operand.tmp 6)
            refine lstep_run fun fr wf left => ?_
            have o6 := (left.old 6 (by kernel_rfl)).trans rfl
            refine ⟨wanted_none rfl, fun K hK => ?_⟩
            have hB := hide left.base
            clear left
            go_simp
            exact hK _ _ rfl hB.out (one_refl (fun _ => KeptFrom.refl _ _) _ _)
          refine And.intro ?_ ?_
          · -- 2: slot 43 := Op.binOp BinOp.add 3 (Operand.const (Value.int IntKind.i64 97)) (Operand.tmp 42) 3
            refine lstep_run fun fr wf left => ?_
            obtain ⟨x1, e1, r1⟩ := left.slot 316 rfl 1 42 _ rfl rfl (by decide) rfl
            have s1 := Eq.symm (show x1 = .int .i64 (i : Int) from r1)
            subst s1
            refine ⟨wanted_none rfl, fun K hK => ?_⟩
            have hB := hide left.base
            clear left
            go_simp
            exact hK _ _ (congrArg (Value.int .i64) (IntWalk.i64_in _ (by omega))) hB.out (one_refl (fun _ => KeptFrom.refl _ _) _ _)
          refine And.intro ?_ ?_
          · -- 3: slot 44 := Op.convert 3 5 (Operand.tmp 43)
            refine lstep_run fun fr wf left => ?_
            obtain ⟨x2, e2, r2⟩ := left.slot 316 rfl 2 43 _ rfl rfl (by decide) rfl
            have s2 := Eq.symm (show x2 = .int .i64 (97 + (i : Int)) from r2)
            subst s2
            refine ⟨wanted_none rfl, fun K hK => ?_⟩
            have hB := hide left.base
            clear left
            go_simp
            exact hK _ _ (congrArg (Value.int .u8) (by rw [IntKind.wrap_u8]; omega)) hB.out (one_refl (fun _ => KeptFrom.refl _ _) _ _)
          refine And.intro ?_ ?_
          · -- 4: slot 45 := Op.buildSlice 56 1 #[(0, Operand.tmp 44)]
            refine lstep_run fun fr wf left => ?_
            obtain ⟨x3, e3, r3⟩ := left.slot 316 rfl 3 44 _ rfl rfl (by decide) rfl
            have s3 := Eq.symm (show x3 = .int .u8 (97 + (i : Int)) from r3)
            subst s3
            refine ⟨wanted_none rfl, fun K hK => ?_⟩
            have hB := hide left.base
            clear left
            go_simp
            exact hK _ _ ⟨_, rfl, hB.out.size, alloc_at _ _⟩ (hB.out.alloc _) (one_else (by decide) ((Below.refl _ _).alloc (Nat.le_refl _) _))
          refine And.intro ?_ ?_
          · -- 5: slot 46 := Op.convert 56 9 (Operand.tmp 45)
            refine lstep_run fun fr wf left => ?_
            obtain ⟨x4, e4, r4⟩ := left.slot 316 rfl 4 45 _ rfl rfl (by decide) rfl
            replace r4 : (fun v u => ∃ B, v = .slice (some ⟨B, 0, none⟩) 1 1 ∧ wr.heap.size ≤ B ∧ u.heap[B]? = some (.cells #[.int .u8 (97 + (i : Int))] 5 (0, 0))) x4 wf := r4
            refine ⟨wanted_none rfl, fun K hK => ?_⟩
            have hB := hide left.base
            clear left
            obtain ⟨BB, hx4, hGB, hbb4⟩ := r4
            subst hx4
            have hcv := run_bytes_string (P := Try.prog) (w := wf) 56 9 5 Try.underlying56 Try.underlying5 Try.underlying9 (bs := [UInt8.ofNat (97 + i)]) (by
              have e : [Value.int .u8 (97 + (i : Int))] = [UInt8.ofNat (97 + i)].map byteV := by
                show _ = [Value.int .u8 (((UInt8.ofNat (97 + i)).toNat : Nat) : Int)]
                rw [UInt8.toNat_ofNat_of_lt' (by show 97 + i < 256; omega)]; rfl
              rw [← e]; exact slv_blk hbb4 1 rfl)
            go_simp
            exact hK _ _ (congrArg Value.string (by simp [Dk.mNm])) hB.out (one_refl (fun _ => KeptFrom.refl _ _) _ _)
          refine And.intro ?_ ?_
          · -- 6: slot 47 := Op.move (Operand.tmp 0)
            refine lstep_run fun fr wf left => ?_
            have o0 := (left.old 0 (by kernel_rfl)).trans rfl
            refine ⟨wanted_none rfl, fun K hK => ?_⟩
            have hB := hide left.base
            clear left
            go_simp
            exact hK _ _ rfl hB.out (one_refl (fun _ => KeptFrom.refl _ _) _ _)
          refine And.intro ?_ ?_
          · -- 7: slot 48 := Op.move (Operand.tmp 6)
            refine lstep_run fun fr wf left => ?_
            have o6 := (left.old 6 (by kernel_rfl)).trans rfl
            refine ⟨wanted_none rfl, fun K hK => ?_⟩
            have hB := hide left.base
            clear left
            go_simp
            exact hK _ _ rfl hB.out (one_refl (fun _ => KeptFrom.refl _ _) _ _)
          refine And.intro ?_ ?_
          · -- 8: slot 49 := Op.indexAddr 40 (Operand.tmp 47) (Operand.tmp 48)
            refine lstep_run fun fr wf left => ?_
            obtain ⟨x6, e6, r6⟩ := left.slot 316 rfl 6 47 _ rfl rfl (by decide) rfl
            have s6 := Eq.symm (show x6 = .slice (some ⟨b, off, none⟩) len1 cap1 from r6)
            subst s6
            obtain ⟨x7, e7, r7⟩ := left.slot 316 rfl 7 48 _ rfl rfl (by decide) rfl
            have s7 := Eq.symm (show x7 = .int .i64 (i : Int) from r7)
            subst s7
            refine ⟨wanted_none rfl, fun K hK => ?_⟩
            have hB := hide left.base
            clear left
            go_simp
            exact hK _ _ rfl hB.out (one_refl (fun _ => KeptFrom.refl _ _) _ _)
          refine And.intro ?_ ?_
          · -- 9: slot 50 := Op.fieldAddr 42 (Operand.tmp 49) 1
            refine lstep_run fun fr wf left => ?_
            obtain ⟨x8, e8, r8⟩ := left.slot 316 rfl 8 49 _ rfl rfl (by decide) rfl
            have s8 := Eq.symm (show x8 = .pointer (some ⟨b, off + i * 2, none⟩) from r8)
            subst s8
            refine ⟨wanted_none rfl, fun K hK => ?_⟩
            have hB := hide left.base
            clear left
            go_simp
            exact hK _ _ rfl hB.out (one_refl (fun _ => KeptFrom.refl _ _) _ _)
          refine And.intro ?_ ?_
          · -- 10: slot 51 := Op.load 9 (Operand.tmp 50)
            refine lstep_run fun fr wf left => ?_
            obtain ⟨x9, e9, r9⟩ := left.slot 316 rfl 9 50 _ rfl rfl (by decide) rfl
            have s9 := Eq.symm (show x9 = .pointer (some ⟨b, off + i * 2 + 1, none⟩) from r9)
            subst s9
            refine ⟨wanted_none rfl, fun K hK => ?_⟩
            have hB := hide left.base
            have hc := (hB.out.cell (a := ⟨b, off + i * 2 + 1, none⟩) (Nat.lt_of_lt_of_le HCE.out.1 HBW.out.size) (fun e => by have e : B1 ≤ b := e; have := HCE.out.1; have := HBQ.out.2; omega)).trans ((HBW.out.cell (p := ⟨b, off + i * 2 + 1, none⟩) HCE.out.1).trans HCE.out.2)
            clear left
            go_simp
            exact hK _ _ rfl hB.out (one_refl (fun _ => KeptFrom.refl _ _) _ _)
          refine And.intro ?_ ?_
          · -- 11: slot 52 := Op.call { callee := Callee.value (Operand.func 13), args := #[Operand.tmp 51, Operand.cons
            refine lstep_run fun fr wf left => ?_
            obtain ⟨x10, e10, r10⟩ := left.slot 316 rfl 10 51 _ rfl rfl (by decide) rfl
            have s10 := Eq.symm (show x10 = .string tx from r10)
            subst s10
            refine ⟨wanted_none rfl, fun K hK => ?_⟩
            have hB := hide left.base
            clear left
            go_simp
            refine (short_any tx 200 _ HTX.out (by decide)).mono ?_
            rintro e w' ⟨rfl, rfl⟩
            exact hK _ _ rfl hB.out (one_refl (fun _ => KeptFrom.refl _ _) _ _)
          refine And.intro ?_ ?_
          · -- 12: slot 53 := Op.binOp BinOp.add 9 (Operand.tmp 52) (Operand.const (Value.string { data := #[46] })) 9
            refine lstep_run fun fr wf left => ?_
            obtain ⟨x11, e11, r11⟩ := left.slot 316 rfl 11 52 _ rfl rfl (by decide) rfl
            have s11 := Eq.symm (show x11 = .string (Dk.short tx 200) from r11)
            subst s11
            refine ⟨wanted_none rfl, fun K hK => ?_⟩
            have hB := hide left.base
            have hsum : ¬ (9223372036854775807 < (Dk.short tx 200).size + 1) := by have := Dk.short_size tx 200; omega
            have hsm1 : (⟨#[46]⟩ : ByteArray).size = 1 := rfl
            clear left
            go_simp
            exact hK _ _ rfl hB.out (one_refl (fun _ => KeptFrom.refl _ _) _ _)
          refine And.intro ?_ ?_
          · -- 13: slot 54 := Op.build 42 #[(0, Operand.tmp 46), (1, Operand.tmp 53)]
            refine lstep_run fun fr wf left => ?_
            obtain ⟨x5, e5, r5⟩ := left.slot 316 rfl 5 46 _ rfl rfl (by decide) rfl
            have s5 := Eq.symm (show x5 = .string (Dk.mNm i) from r5)
            subst s5
            obtain ⟨x12, e12, r12⟩ := left.slot 316 rfl 12 53 _ rfl rfl (by decide) rfl
            have s12 := Eq.symm (show x12 = .string (Dk.short tx 200 ++ ⟨#[46]⟩) from r12)
            subst s12
            refine ⟨wanted_none rfl, fun K hK => ?_⟩
            have hB := hide left.base
            clear left
            go_simp
            exact hK _ _ rfl hB.out (one_refl (fun _ => KeptFrom.refl _ _) _ _)
          refine And.intro ?_ ?_
          · -- 14: slot 55 := Op.buildSlice 40 1 #[(0, Operand.tmp 54)]
            refine lstep_run fun fr wf left => ?_
            obtain ⟨x13, e13, r13⟩ := left.slot 316 rfl 13 54 _ rfl rfl (by decide) rfl
            have s13 := Eq.symm (show x13 = .agg #[.string (Dk.mNm i), .string (Dk.short tx 200 ++ ⟨#[46]⟩)] from r13)
            subst s13
            refine ⟨wanted_none rfl, fun K hK => ?_⟩
            have hB := hide left.base
            clear left
            go_simp
            exact hK _ _ ⟨_, rfl, alloc_at _ _⟩ (hB.out.alloc _) (one_else (by decide) ((Below.refl _ _).alloc (Nat.le_refl _) _))
          refine And.intro ?_ ?_
          · -- 15: slot 56 := Op.call { callee := Callee.builtin Builtin.append, args := #[Operand.tmp 41, Operand.tmp 5
            refine lstep_run fun fr wf left => ?_
            obtain ⟨x0, e0, r0⟩ := left.slot 316 rfl 0 41 _ rfl rfl (by decide) rfl
            have s0 := Eq.symm (show x0 = u5 from r0)
            subst s0
            obtain ⟨x14, e14, r14⟩ := left.slot 316 rfl 14 55 _ rfl rfl (by decide) rfl
            replace r14 : (fun v u => ∃ B, v = .slice (some ⟨B, 0, none⟩) 1 1 ∧ u.heap[B]? = some (.cells #[.string (Dk.mNm i), .string (Dk.short tx 200 ++ ⟨#[46]⟩)] 42 (0, 0))) x14 wf := r14
            refine ⟨wanted_none rfl, fun K hK => ?_⟩
            have hB := hide left.base; have hP := hide (one_pre_at left.pre rfl)
            clear left
            obtain ⟨BB, hx14, hbb⟩ := r14
            subst hx14
            refine wp_append_file1 (.tmp 41) (.tmp 55) rfl B1 u5 i xs (eval_tmp e0) (own_below HOW.out hP.out) BB _ _ (eval_tmp e14) hbb (by omega) (Nat.le_trans HSZ.out hP.out.size) ?_
            intro v' w' hown hgr
            have hmv : Moved (fun k => B1 ≤ k) wf w' := by
              rcases hgr with ⟨_, hg⟩ | ⟨_, hg⟩
              · exact Moved.of_grown hg (fun k hk => ((own_below HOW.out hP.out).lt k hk).1)
              · exact Moved.of_below hg
            have hkf : KeptFrom wr.heap.size wf w' := by
              intro k hk hkw
              rcases hgr with ⟨_, hg⟩ | ⟨_, hg⟩
              · exact hg.block k hkw fun e => by have := ((HOW.out).lt k e.symm).2; omega
              · exact hg.block k hkw
            exact hK _ _ hown (hB.out.then hmv) (one_atF rfl hkf)
          refine And.intro ?_ ?_
          · -- 16: slot 5 := Op.assign (Operand.tmp 56)
            refine lstep_run fun fr wf left => ?_
            obtain ⟨x15, e15, r15⟩ := left.slot 316 rfl 15 56 _ rfl rfl (by decide) rfl
            replace r15 : (fun v u => u.ownsRow B1 42 2 v (i + 1) (xs ++ [.string (Dk.mNm i), .string (Dk.short tx 200 ++ ⟨#[46]⟩)])) x15 wf := r15
            refine ⟨wanted_none rfl, fun K hK => ?_⟩
            have hB := hide left.base
            clear left
            go_simp
            exact hK _ _ r15 hB.out (one_refl (fun _ => KeptFrom.refl _ _) _ _)
          exact trivial
        · intro fr wf hB hs hd hall hkeep
          have h5 : wf.ownsRow B1 42 2 (fr.tmps.getD 5 undef) (i + 1) (xs ++ [.string (Dk.mNm i), .string (Dk.short tx 200 ++ ⟨#[46]⟩)]) := hall 16 _ rfl (by simp)
          have hfr := act_ext (frame_setL hs hkeep [41, 42, 43, 44, 45, 46, 47, 48, 49, 50, 51, 52, 53, 54, 55, 56, 5] (by kernel_rfl)) hd
          clear hall hkeep hs hd
          dsimp only [List.foldl, List.set_cons_zero, List.set_cons_succ] at hfr
          generalize fr.tmps.getD 41 undef = q41 at hfr
          generalize fr.tmps.getD 42 undef = q42 at hfr
          generalize fr.tmps.getD 43 undef = q43 at hfr
          generalize fr.tmps.getD 44 undef = q44 at hfr
          generalize fr.tmps.getD 45 undef = q45 at hfr
          generalize fr.tmps.getD 46 undef = q46 at hfr
          generalize fr.tmps.getD 47 undef = q47 at hfr
          generalize fr.tmps.getD 48 undef = q48 at hfr
          generalize fr.tmps.getD 49 undef = q49 at hfr
          generalize fr.tmps.getD 50 undef = q50 at hfr
          generalize fr.tmps.getD 51 undef = q51 at hfr
          generalize fr.tmps.getD 52 undef = q52 at hfr
          generalize fr.tmps.getD 53 undef = q53 at hfr
          generalize fr.tmps.getD 54 undef = q54 at hfr
          generalize fr.tmps.getD 55 undef = q55 at hfr
          generalize fr.tmps.getD 56 undef = q56 at hfr
          generalize fr.tmps.getD 5 undef = q5 at hfr h5
          subst hfr
          have HCU := hide (And.intro hB h5)
          clear hB h5
          go_wp2_with fail
          go_roundg (12 - (i + 1))
          case measure => omega
          case rel =>
            have hmv := HCU.out.1.below (B := B1) HSZ.out (fun k h => h)
            refine ⟨i + 1, by omega, rfl, by go_num, ?_, HR.out.2.trans hmv⟩
            rw [Dk.memL_succ, HME.out, flatF_snoc, ← HXS.out]
            exact HCU.out.2
        -- END REGION mema
      · have hie : i = nn := by omega
        subst hie
        by_cases hl : i < len1
        · have hii : ¬ (i : Int) < 12 := by have := HNN.out; omega
          have hil : (i : Int) < len1 := by omega
          clear hlt
          go_wp2_with fail
          go_meet
          case rel => exact HR.out
        · have hil : ¬ (i : Int) < len1 := by omega
          clear hlt
          go_wp2_with fail
          go_meet
          case rel => exact HR.out
  case rest =>
    obtain ⟨ad5, cap5, hv5⟩ := own_form hcut.out.1
    subst hv5
    have HW := hide hcut.out
    clear hcut
    obtain ⟨B2, hB2⟩ : ∃ b, b = wc.heap.size := ⟨_, rfl⟩
    have HB2 := hide hB2
    clear hB2
    go_upto_block 2 with (at_builtin; refine wpList_append_row rfl _ _ 40 rfl B2 42 _ 2 32 Try.underlying40 info_file rfl (by decide) _ 0 [] rfl (World.ownsRow_made _ #[] 0 (Nat.le_of_eq HB2.out) (by decide) rfl) B1 _ nn (flatF (Dk.memL fl nn)) rfl (own_below HW.out.1 (Below.alloc (Below.refl _ _) (Nat.le_refl _) _)) (flatF_one _) (by unfold maxLen; have := HNN.out; omega) (by have := HNN.out; omega) (by rw [HB2.out]; simp) ?_; intro vw ww hown hgr)
    have HWS := hide (show ww.ownsRow B2 42 2 vw nn (flatF (Dk.memL fl nn)) by simpa using hown)
    have hbw : Below B2 wc ww := by
      rw [HB2.out]
      rcases hgr with ⟨_, hg⟩ | ⟨_, hg⟩
      · exact ((Below.refl _ _).alloc (Nat.le_refl _) _).grown hg (by simp) (fun k hk => by cases hk; exact Nat.le_refl _)
      · exact ((Below.refl _ _).alloc (Nat.le_refl _) _).trans (hg.mono (by simp))
    have HBW2 := hide hbw
    have HW2 := hide (show ww.ownsRow B1 42 2 (.slice ad5 nn cap5) nn (flatF (memR fl nn 0)) by
      have e : memR fl nn 0 = Dk.memL fl nn := by unfold memR; simp
      rw [e]
      exact own_below HW.out.1 (by rw [← HB2.out]; exact hbw))
    obtain ⟨B3, hB3⟩ : ∃ b, b = ww.heap.size := ⟨_, rfl⟩
    have HB3 := hide hB3
    have HWL := hide (show ∀ b, vw.ownBlock = some b → b < B3 from fun b h => by rw [hB3]; exact (hown.lt b h).2)
    clear hown hgr hbw hB3
    have HAP := hide (show ∀ b, (Value.slice ad5 nn cap5).ownBlock = some b → b < B2 ∨ B3 ≤ b from fun b h => .inl (by rw [HB2.out]; exact (HW.out.1.lt b h).2))
    have HBB := hide (show Below B1 w1 ww from HW.out.2.trans (HBW2.out.mono (by rw [HB2.out, HBQ.out.1]; exact HW.out.2.size)))
    go_cut [5, 9] from 62 to 69 (fun v5 v9 wx => Hid (wx.ownsRow B1 42 2 v5 (nn + 20) (flatF (memR fl nn 20)) ∧ (∀ b, v5.ownBlock = some b → b < B2 ∨ B3 ≤ b) ∧ wx.ownsRow B2 42 2 vw nn (flatF (Dk.memL fl nn)) ∧ Below B1 w1 wx ∧ B3 ≤ wx.heap.size))
    case first =>
      go_wp2_with fail
      go_loopg [5, 9] 20 (fun g v5 v9 wr => ∃ k : Nat, k ≤ 20 ∧ g = 20 - k ∧ v9 = .int .i64 k ∧ Hid (wr.ownsRow B1 42 2 v5 (nn + k) (flatF (memR fl nn k)) ∧ (∀ b, v5.ownBlock = some b → b < B2 ∨ B3 ≤ b) ∧ wr.ownsRow B2 42 2 vw nn (flatF (Dk.memL fl nn)) ∧ Below B1 w1 wr ∧ B3 ≤ wr.heap.size))
      case atStart => exact ⟨0, Nat.zero_le _, rfl, rfl, HW2.out, HAP.out, HWS.out, HBB.out, Nat.le_of_eq HB3.out⟩
      case round =>
        obtain ⟨k, hk, rfl, rfl, HR⟩ := hrel
        by_cases hlt : k < 20
        · go_wp2_with (at_builtin; refine wpList_append_file1 rfl _ _ rfl B1 u5 (nn + k) (flatF (memR fl nn k)) rfl (own_below HR.out.1 (Below.alloc (Below.refl _ _) (Nat.le_refl _) _)) wr.heap.size ⟨#[114, 111, 111, 109]⟩ ⟨#[]⟩ rfl (alloc_at _ _) (by have := HNN.out; omega) (Nat.le_trans (by rw [HBQ.out.1]; exact HR.out.2.2.2.1.size) (Below.alloc (Below.refl 0 wr) (Nat.zero_le _) _).size) ?_; intro v7 w7 hown hgr)
          have HS := hide (And.intro hown (room_step _ HR.out.1 HR.out.2.1 HR.out.2.2.1 HWL.out HR.out.2.2.2.1 (Nat.le_of_eq HBQ.out.1) HR.out.2.2.2.2 hgr))
          clear hown hgr
          go_wp2_with fail
          go_roundg (20 - (k + 1))
          case measure => omega
          case rel =>
            refine ⟨k + 1, by omega, rfl, by go_num, ?_, HS.out.2.2.1, HS.out.2.1, HS.out.2.2.2⟩
            have e : flatF (memR fl nn (k + 1)) = flatF (memR fl nn k) ++ [.string ⟨#[114, 111, 111, 109]⟩, .string ⟨#[]⟩] := by
              unfold memR
              rw [List.replicate_succ', ← List.append_assoc, flatF_snoc]
            rw [e]; exact HS.out.1
        · obtain rfl : k = 20 := by omega
          clear hlt
          go_wp2_with fail
          go_meet
          case rel => exact HR.out
    case rest =>
      obtain ⟨g5, c5, cur, hv5, hg5, hh5, hn5, hm5, hs5, hx5⟩ := own_pos hcut.out.1 (Nat.succ_pos _)
      subst hv5
      have HX := hide (And.intro hcut.out (And.intro hg5 (And.intro hh5 (And.intro hm5 (And.intro hs5 hx5)))))
      have hn5' : nn ≤ c5 := by omega
      have HSF := hide (show SlF wc (.slice (some ⟨g5, 0, none⟩) nn c5) (Dk.memL fl nn) from slf_head (r := List.replicate 20 (⟨#[114, 111, 111, 109]⟩, ⟨#[]⟩)) (slf_of_owns (l := memR fl nn 20) (by
        have e : (memR fl nn 20).length = nn + 20 := by unfold memR; rw [List.length_append, Dk.memL_len, List.length_replicate]
        rw [e]; exact hcut.out.1)) (Dk.memL_len fl nn).symm)
      clear hcut hg5 hh5 hm5 hs5 hx5
      go_wp2_with fail
      refine (open_val 1048576 _ (Dk.memL fl nn) (Dk.memSt fl nn) _ (by decide) HSF.out (by rw [Dk.memL_len]; have := HNN.out; omega) (memL_small fl nn) (Dk.mem_open fl HNN.out.1)).mono ?_
      rintro e w4 ⟨D, rfl, hD, hDg, hDm, hkv, hb4⟩
      have HD4 := hide (And.intro hD (And.intro hDg (And.intro hDm (And.intro hkv hb4))))
      obtain ⟨dg, hdg⟩ : ∃ d, d = D.g := ⟨_, rfl⟩
      have HDG := hide hdg
      rw [← hdg]
      clear hD hDg hDm hkv hb4 hdg
      go_wp2_with fail
      rw [HDG.out]
      refine (write_val D (Dk.memSt fl nn) (Dk.memW fl nn) ⟨#[97]⟩ 0 ⟨#[63]⟩ 0 _ HD4.out.1 (by decide) (by decide) (by decide) rfl (by first | (show (0 : Nat) < _; decide) | (show (0 : Int) < _; decide)) ?_ (Dk.mem_write fl nn).1).mono ?_
      · show (Dk.memFs fl nn).length < _
        unfold Dk.memFs
        rw [List.length_map, Dk.memL_len]
        have := HNN.out; omega
      rintro e w5 ⟨rfl, hD, hmv⟩
      have hDaw : ∀ k, Dk.own D k → wc.heap.size ≤ k := by
        intro k hk
        have h1 := HD4.out.2.1; have h2 := HD4.out.2.2.1
        rcases hk with rfl | rfl | h
        · exact h1
        · exact h2
      have HA := hide hDaw
      have hb5 : Below wc.heap.size wc w5 := HD4.out.2.2.2.2.trans (hmv.below HD4.out.2.2.2.2.size hDaw)
      have H5 := hide (show DiskAt w5 D (Dk.memW fl nn) ∧ w5.heap[g5]? = some (.cells cur 42 (0, 0)) ∧ w5.ownsRow B2 42 2 vw nn (flatF (Dk.memL fl nn)) ∧ Below B1 w1 w5 ∧ wc.heap.size ≤ w5.heap.size from
        ⟨hD, (hb5.block g5 (heap_lt HX.out.2.2.1)).trans HX.out.2.2.1, own_below HX.out.1.2.2.1 hb5, HX.out.1.2.2.2.1.trans (hb5.mono (by rw [HBQ.out.1]; exact HX.out.1.2.2.2.1.size)), hb5.size⟩)
      clear hD hmv hDaw hb5
      go_upto_block 4 with (fail)
      obtain ⟨NN, hNN⟩ : ∃ k, k = nn + 20 := ⟨_, rfl⟩
      rw [← hNN]
      have HNN2 := hide hNN
      have hNN20 : 20 ≤ NN ∧ nn ≤ NN ∧ NN ≤ 32 := by omega
      have HAL := hide (show (flatF (memR fl nn 20)).length = NN * 2 by
        unfold memR; rw [flatF_len, List.length_append, Dk.memL_len, List.length_replicate, ← hNN])
      have HAR := hide (show Arr w5 g5 42 (flatF (memR fl nn 20)) from ⟨cur, 0, 0, H5.out.2.1, .inr rfl, by rw [HAL.out, HX.out.2.2.2.2.1]; omega, by rw [HAL.out, hNN]; exact HX.out.2.2.2.2.2⟩)
      clear hNN
      go_cut [12] from 85 to 121 (fun v12 wx => Hid (DiskAt wx D (Dk.memW fl nn) ∧ Below B1 w1 wx ∧ wc.heap.size ≤ wx.heap.size))
      case first =>
        go_wp2_with fail
        go_loopg [12] NN (fun g v12 wr => ∃ i : Nat, i ≤ NN ∧ g = NN - i ∧ v12 = .int .i64 i ∧ Hid ((∃ cu, Arr wr g5 42 cu ∧ cu.length = NN * 2 ∧ ∀ q, i * 2 ≤ q → cu[q]? = (flatF (memR fl nn 20))[q]?) ∧ DiskAt wr D (Dk.memW fl nn) ∧ wr.ownsRow B2 42 2 vw nn (flatF (Dk.memL fl nn)) ∧ Below B1 w1 wr ∧ wc.heap.size ≤ wr.heap.size))
        case atStart => exact ⟨0, Nat.zero_le _, rfl, rfl, ⟨flatF (memR fl nn 20), HAR.out, HAL.out, fun _ _ => rfl⟩, H5.out.1, H5.out.2.2⟩
        case round =>
          obtain ⟨i, hi, rfl, rfl, HR⟩ := hrel
          by_cases hlt : i < NN
          · have hil : (i : Int) < NN := by omega
            go_upto_region 21 with (fail)
            go_cut [117] from 91 to 117 (fun v117 wx => Hid (v117 = .bool false ∧ Below wr.heap.size wr wx))
            case first =>
              obtain ⟨cu, hcu, hcs, hcq⟩ := HR.out.1
              by_cases hin : i < nn
              · have hin' : (i : Int) < nn := by omega
                obtain ⟨pq, hpq⟩ : ∃ pq, (Dk.memL fl nn)[i]? = some pq := ⟨_, List.getElem?_eq_getElem (by rw [Dk.memL_len]; exact hin)⟩
                obtain ⟨gw, cw, cuw, hvw, hgw, hhw, hnw, hmw, hsw, hxw⟩ := own_pos HR.out.2.2.1 (by omega)
                subst hvw
                have h1 := flat_at (memR_left (k := 20) hpq)
                have h2 := row_get hxw hpq
                have R1 := hide (show g5 < wr.heap.size ∧ wr.rangeAt g5 (i * 2) [.string pq.1, .string pq.2] from ⟨hcu.lt, range_pair (arr_get hcu ((hcq _ (Nat.le_refl _)).trans h1.1)) (arr_get hcu ((hcq _ (by omega)).trans h1.2))⟩)
                have R2 := hide (show gw < wr.heap.size ∧ wr.rangeAt gw (i * 2) [.string pq.1, .string pq.2] from ⟨heap_lt hhw, range_pair (by rw [cell_blk hhw]; exact h2.1) (by rw [cell_blk hhw]; exact h2.2)⟩)
                clear hcu hcs hcq h1 h2 hpq hgw hhw hnw hmw hsw hxw
                obtain ⟨p, q⟩ := pq
                dsimp only at R1 R2
-- REGION mem3a
                
                refine wp_region_local (by kernel_rfl) (by kernel_rfl) (useList mem3aU) [26] (by kernel_rfl) (spR (mem3aL g5 gw c5 cw NN nn i p q)) (fun _ _ => True) (Below wr.heap.size wr) (fun _ w w' => Below w.heap.size w w') spR_stays (fun _ _ _ _ _ h _ => h) (fun _ _ => Below.refl _ _) (dsts_lt (N := 316) (by kernel_rfl)) ((Below.refl _ _).drew) (fun _ _ => trivial) (all_ops ?_) ?_
                · refine And.intro ?_ ?_
                  · -- 0: slot 91 := Op.move (Operand.tmp 12)
                    refine lstep_run fun fr wf left => ?_
                    have o12 := (left.old 12 (by kernel_rfl)).trans rfl
                    refine ⟨wanted_none rfl, fun K hK => ?_⟩
                    have hB := hide left.base
                    clear left
                    go_simp
                    exact hK _ _ rfl hB.out (Below.refl _ _)
                  refine And.intro ?_ ?_
                  · -- 1: slot 92 := Op.move (Operand.tmp 7)
                    refine lstep_run fun fr wf left => ?_
                    have o7 := (left.old 7 (by kernel_rfl)).trans rfl
                    refine ⟨wanted_none rfl, fun K hK => ?_⟩
                    have hB := hide left.base
                    clear left
                    go_simp
                    exact hK _ _ rfl hB.out (Below.refl _ _)
                  refine And.intro ?_ ?_
                  · -- 2: slot 93 := Op.binOp BinOp.lss 3 (Operand.tmp 91) (Operand.tmp 92) 3
                    refine lstep_run fun fr wf left => ?_
                    obtain ⟨x0, e0, r0⟩ := left.slot 316 rfl 0 91 _ rfl rfl (by decide) rfl
                    have s0 := Eq.symm (show x0 = .int .i64 (i : Int) from r0)
                    subst s0
                    obtain ⟨x1, e1, r1⟩ := left.slot 316 rfl 1 92 _ rfl rfl (by decide) rfl
                    have s1 := Eq.symm (show x1 = .int .i64 (nn : Int) from r1)
                    subst s1
                    refine ⟨wanted_none rfl, fun K hK => ?_⟩
                    have hB := hide left.base
                    clear left
                    go_simp
                    exact hK _ _ rfl hB.out (Below.refl _ _)
                  refine And.intro ?_ ?_
                  · -- 3: slot 94 := Op.move (Operand.tmp 93)
                    refine lstep_run fun fr wf left => ?_
                    obtain ⟨x2, e2, r2⟩ := left.slot 316 rfl 2 93 _ rfl rfl (by decide) rfl
                    have s2 := Eq.symm (show x2 = .bool true from r2)
                    subst s2
                    refine ⟨wanted_none rfl, fun K hK => ?_⟩
                    have hB := hide left.base
                    clear left
                    go_simp
                    exact hK _ _ rfl hB.out (Below.refl _ _)
                  refine And.intro ?_ ?_
                  · -- 4: slot 95 := Op.move (Operand.tmp 5)
                    refine lstep_run fun fr wf left => ?_
                    obtain ⟨x3, e3, r3⟩ := left.slot 316 rfl 3 94 _ rfl rfl (by decide) rfl
                    have s3 := Eq.symm (show x3 = .bool true from r3)
                    subst s3
                    have o5 := (left.old 5 (by kernel_rfl)).trans rfl
                    refine ⟨wanted_yes rfl rfl e3, fun K hK => ?_⟩
                    have hB := hide left.base
                    clear left
                    go_simp
                    exact hK _ _ rfl hB.out (Below.refl _ _)
                  refine And.intro ?_ ?_
                  · -- 5: slot 96 := Op.move (Operand.tmp 12)
                    refine lstep_run fun fr wf left => ?_
                    obtain ⟨x3, e3, r3⟩ := left.slot 316 rfl 3 94 _ rfl rfl (by decide) rfl
                    have s3 := Eq.symm (show x3 = .bool true from r3)
                    subst s3
                    have o12 := (left.old 12 (by kernel_rfl)).trans rfl
                    refine ⟨wanted_yes rfl rfl e3, fun K hK => ?_⟩
                    have hB := hide left.base
                    clear left
                    go_simp
                    exact hK _ _ rfl hB.out (Below.refl _ _)
                  refine And.intro ?_ ?_
                  · -- 6: slot 97 := Op.indexAddr 40 (Operand.tmp 95) (Operand.tmp 96)
                    refine lstep_run fun fr wf left => ?_
                    obtain ⟨x3, e3, r3⟩ := left.slot 316 rfl 3 94 _ rfl rfl (by decide) rfl
                    have s3 := Eq.symm (show x3 = .bool true from r3)
                    subst s3
                    obtain ⟨x4, e4, r4⟩ := left.slot 316 rfl 4 95 _ rfl rfl (by decide) rfl
                    have s4 := Eq.symm (show x4 = .slice (some ⟨g5, 0, none⟩) NN c5 from r4)
                    subst s4
                    obtain ⟨x5, e5, r5⟩ := left.slot 316 rfl 5 96 _ rfl rfl (by decide) rfl
                    have s5 := Eq.symm (show x5 = .int .i64 (i : Int) from r5)
                    subst s5
                    refine ⟨wanted_yes rfl rfl e3, fun K hK => ?_⟩
                    have hB := hide left.base
                    clear left
                    go_simp
                    exact hK _ _ rfl hB.out (Below.refl _ _)
                  refine And.intro ?_ ?_
                  · -- 7: slot 98 := Op.load 42 (Operand.tmp 97)
                    refine lstep_run fun fr wf left => ?_
                    obtain ⟨x3, e3, r3⟩ := left.slot 316 rfl 3 94 _ rfl rfl (by decide) rfl
                    have s3 := Eq.symm (show x3 = .bool true from r3)
                    subst s3
                    obtain ⟨x6, e6, r6⟩ := left.slot 316 rfl 6 97 _ rfl rfl (by decide) rfl
                    have s6 := Eq.symm (show x6 = .pointer (some ⟨g5, i * 2, none⟩) from r6)
                    subst s6
                    refine ⟨wanted_yes rfl rfl e3, fun K hK => ?_⟩
                    have hB := hide left.base
                    have hr := range_below R1.out.2 R1.out.1 hB.out
                    clear left
                    refine wp_load_mid 42 (.tmp 97) rfl g5 (i * 2) (eval_tmp e6) [.string p, .string q] _ hr Try.underlying42 rfl (by kernel_rfl) ?_
                    exact hK _ _ rfl hB.out (Below.refl _ _)
                  refine And.intro ?_ ?_
                  · -- 8: slot 99 := Op.move (Operand.tmp 8)
                    refine lstep_run fun fr wf left => ?_
                    obtain ⟨x3, e3, r3⟩ := left.slot 316 rfl 3 94 _ rfl rfl (by decide) rfl
                    have s3 := Eq.symm (show x3 = .bool true from r3)
                    subst s3
                    have o8 := (left.old 8 (by kernel_rfl)).trans rfl
                    refine ⟨wanted_yes rfl rfl e3, fun K hK => ?_⟩
                    have hB := hide left.base
                    clear left
                    go_simp
                    exact hK _ _ rfl hB.out (Below.refl _ _)
                  refine And.intro ?_ ?_
                  · -- 9: slot 100 := Op.move (Operand.tmp 12)
                    refine lstep_run fun fr wf left => ?_
                    obtain ⟨x3, e3, r3⟩ := left.slot 316 rfl 3 94 _ rfl rfl (by decide) rfl
                    have s3 := Eq.symm (show x3 = .bool true from r3)
                    subst s3
                    have o12 := (left.old 12 (by kernel_rfl)).trans rfl
                    refine ⟨wanted_yes rfl rfl e3, fun K hK => ?_⟩
                    have hB := hide left.base
                    clear left
                    go_simp
                    exact hK _ _ rfl hB.out (Below.refl _ _)
                  refine And.intro ?_ ?_
                  · -- 10: slot 101 := Op.indexAddr 40 (Operand.tmp 99) (Operand.tmp 100)
                    refine lstep_run fun fr wf left => ?_
                    obtain ⟨x3, e3, r3⟩ := left.slot 316 rfl 3 94 _ rfl rfl (by decide) rfl
                    have s3 := Eq.symm (show x3 = .bool true from r3)
                    subst s3
                    obtain ⟨x8, e8, r8⟩ := left.slot 316 rfl 8 99 _ rfl rfl (by decide) rfl
                    have s8 := Eq.symm (show x8 = .slice (some ⟨gw, 0, none⟩) nn cw from r8)
                    subst s8
                    obtain ⟨x9, e9, r9⟩ := left.slot 316 rfl 9 100 _ rfl rfl (by decide) rfl
                    have s9 := Eq.symm (show x9 = .int .i64 (i : Int) from r9)
                    subst s9
                    refine ⟨wanted_yes rfl rfl e3, fun K hK => ?_⟩
                    have hB := hide left.base
                    clear left
                    go_simp
                    exact hK _ _ rfl hB.out (Below.refl _ _)
                  refine And.intro ?_ ?_
                  · -- 11: slot 102 := Op.load 42 (Operand.tmp 101)
                    refine lstep_run fun fr wf left => ?_
                    obtain ⟨x3, e3, r3⟩ := left.slot 316 rfl 3 94 _ rfl rfl (by decide) rfl
                    have s3 := Eq.symm (show x3 = .bool true from r3)
                    subst s3
                    obtain ⟨x10, e10, r10⟩ := left.slot 316 rfl 10 101 _ rfl rfl (by decide) rfl
                    have s10 := Eq.symm (show x10 = .pointer (some ⟨gw, i * 2, none⟩) from r10)
                    subst s10
                    refine ⟨wanted_yes rfl rfl e3, fun K hK => ?_⟩
                    have hB := hide left.base
                    have hr := range_below R2.out.2 R2.out.1 hB.out
                    clear left
                    refine wp_load_mid 42 (.tmp 101) rfl gw (i * 2) (eval_tmp e10) [.string p, .string q] _ hr Try.underlying42 rfl (by kernel_rfl) ?_
                    exact hK _ _ rfl hB.out (Below.refl _ _)
                  refine And.intro ?_ ?_
                  · -- 12: slot 103 := Op.binOp BinOp.neq 42 (Operand.tmp 98) (Operand.tmp 102) 42
                    refine lstep_run fun fr wf left => ?_
                    obtain ⟨x3, e3, r3⟩ := left.slot 316 rfl 3 94 _ rfl rfl (by decide) rfl
                    have s3 := Eq.symm (show x3 = .bool true from r3)
                    subst s3
                    obtain ⟨x7, e7, r7⟩ := left.slot 316 rfl 7 98 _ rfl rfl (by decide) rfl
                    have s7 := Eq.symm (show x7 = .agg #[.string p, .string q] from r7)
                    subst s7
                    obtain ⟨x11, e11, r11⟩ := left.slot 316 rfl 11 102 _ rfl rfl (by decide) rfl
                    have s11 := Eq.symm (show x11 = .agg #[.string p, .string q] from r11)
                    subst s11
                    refine ⟨wanted_yes rfl rfl e3, fun K hK => ?_⟩
                    have hB := hide left.base
                    clear left
                    go_simp
                    exact hK _ _ rfl hB.out (Below.refl _ _)
                  refine And.intro ?_ ?_
                  · -- 13: slot 104 := Op.pick (Operand.tmp 94) (Operand.tmp 103) (Operand.const (Value.bool false))
                    refine lstep_run fun fr wf left => ?_
                    obtain ⟨x3, e3, r3⟩ := left.slot 316 rfl 3 94 _ rfl rfl (by decide) rfl
                    have s3 := Eq.symm (show x3 = .bool true from r3)
                    subst s3
                    obtain ⟨x12, e12, r12⟩ := left.slot 316 rfl 12 103 _ rfl rfl (by decide) rfl
                    have s12 := Eq.symm (show x12 = .bool false from r12)
                    subst s12
                    refine ⟨wanted_none rfl, fun K hK => ?_⟩
                    have hB := hide left.base
                    clear left
                    go_simp
                    exact hK _ _ rfl hB.out (Below.refl _ _)
                  refine And.intro ?_ ?_
                  · -- 14: slot 105 := Op.move (Operand.tmp 104)
                    refine lstep_run fun fr wf left => ?_
                    obtain ⟨x13, e13, r13⟩ := left.slot 316 rfl 13 104 _ rfl rfl (by decide) rfl
                    have s13 := Eq.symm (show x13 = .bool false from r13)
                    subst s13
                    refine ⟨wanted_none rfl, fun K hK => ?_⟩
                    have hB := hide left.base
                    clear left
                    go_simp
                    exact hK _ _ rfl hB.out (Below.refl _ _)
                  refine And.intro ?_ ?_
                  · -- 15: slot 106 := Op.move (Operand.tmp 12)
                    refine lstep_run fun fr wf left => ?_
                    obtain ⟨x14, e14, r14⟩ := left.slot 316 rfl 14 105 _ rfl rfl (by decide) rfl
                    have s14 := Eq.symm (show x14 = .bool false from r14)
                    subst s14
                    have o12 := (left.old 12 (by kernel_rfl)).trans rfl
                    refine ⟨wanted_yes rfl rfl e14, fun K hK => ?_⟩
                    have hB := hide left.base
                    clear left
                    go_simp
                    exact hK _ _ rfl hB.out (Below.refl _ _)
                  refine And.intro ?_ ?_
                  · -- 16: slot 107 := Op.move (Operand.tmp 7)
                    refine lstep_run fun fr wf left => ?_
                    obtain ⟨x14, e14, r14⟩ := left.slot 316 rfl 14 105 _ rfl rfl (by decide) rfl
                    have s14 := Eq.symm (show x14 = .bool false from r14)
                    subst s14
                    have o7 := (left.old 7 (by kernel_rfl)).trans rfl
                    refine ⟨wanted_yes rfl rfl e14, fun K hK => ?_⟩
                    have hB := hide left.base
                    clear left
                    go_simp
                    exact hK _ _ rfl hB.out (Below.refl _ _)
                  refine And.intro ?_ ?_
                  · -- 17: slot 108 := Op.binOp BinOp.geq 3 (Operand.tmp 106) (Operand.tmp 107) 3
                    refine lstep_run fun fr wf left => ?_
                    obtain ⟨x14, e14, r14⟩ := left.slot 316 rfl 14 105 _ rfl rfl (by decide) rfl
                    have s14 := Eq.symm (show x14 = .bool false from r14)
                    subst s14
                    obtain ⟨x15, e15, r15⟩ := left.slot 316 rfl 15 106 _ rfl rfl (by decide) rfl
                    have s15 := Eq.symm (show x15 = .int .i64 (i : Int) from r15)
                    subst s15
                    obtain ⟨x16, e16, r16⟩ := left.slot 316 rfl 16 107 _ rfl rfl (by decide) rfl
                    have s16 := Eq.symm (show x16 = .int .i64 (nn : Int) from r16)
                    subst s16
                    refine ⟨wanted_yes rfl rfl e14, fun K hK => ?_⟩
                    have hB := hide left.base
                    clear left
                    go_simp
                    exact hK _ _ (congrArg Value.bool (decide_eq_false (by omega))) hB.out (Below.refl _ _)
                  refine And.intro ?_ ?_
                  · -- 18: slot 109 := Op.move (Operand.tmp 108)
                    refine lstep_run fun fr wf left => ?_
                    obtain ⟨x14, e14, r14⟩ := left.slot 316 rfl 14 105 _ rfl rfl (by decide) rfl
                    have s14 := Eq.symm (show x14 = .bool false from r14)
                    subst s14
                    obtain ⟨x17, e17, r17⟩ := left.slot 316 rfl 17 108 _ rfl rfl (by decide) rfl
                    have s17 := Eq.symm (show x17 = .bool false from r17)
                    subst s17
                    refine ⟨wanted_yes rfl rfl e14, fun K hK => ?_⟩
                    have hB := hide left.base
                    clear left
                    go_simp
                    exact hK _ _ rfl hB.out (Below.refl _ _)
                  refine And.intro ?_ ?_
                  · -- 19: slot 110 := Op.move (Operand.tmp 5)
                    refine lstep_skip fun fr wf left => ?_
                    obtain ⟨x18, e18, r18⟩ := left.slot 316 rfl 18 109 _ rfl rfl (by decide) rfl
                    have s18 := Eq.symm (show x18 = .bool false from r18)
                    subst s18
                    exact ⟨wanted_no rfl rfl e18 (by decide), rfl⟩
                  refine And.intro ?_ ?_
                  · -- 20: slot 111 := Op.move (Operand.tmp 12)
                    refine lstep_skip fun fr wf left => ?_
                    obtain ⟨x18, e18, r18⟩ := left.slot 316 rfl 18 109 _ rfl rfl (by decide) rfl
                    have s18 := Eq.symm (show x18 = .bool false from r18)
                    subst s18
                    exact ⟨wanted_no rfl rfl e18 (by decide), rfl⟩
                  refine And.intro ?_ ?_
                  · -- 21: slot 112 := Op.indexAddr 40 (Operand.tmp 110) (Operand.tmp 111)
                    refine lstep_skip fun fr wf left => ?_
                    obtain ⟨x18, e18, r18⟩ := left.slot 316 rfl 18 109 _ rfl rfl (by decide) rfl
                    have s18 := Eq.symm (show x18 = .bool false from r18)
                    subst s18
                    exact ⟨wanted_no rfl rfl e18 (by decide), rfl⟩
                  refine And.intro ?_ ?_
                  · -- 22: slot 113 := Op.load 42 (Operand.tmp 112)
                    refine lstep_skip fun fr wf left => ?_
                    obtain ⟨x18, e18, r18⟩ := left.slot 316 rfl 18 109 _ rfl rfl (by decide) rfl
                    have s18 := Eq.symm (show x18 = .bool false from r18)
                    subst s18
                    exact ⟨wanted_no rfl rfl e18 (by decide), rfl⟩
                  refine And.intro ?_ ?_
                  · -- 23: slot 114 := Op.build 42 #[(0, Operand.const (Value.string { data := #[114, 111, 111, 109] }))]
                    refine lstep_skip fun fr wf left => ?_
                    obtain ⟨x18, e18, r18⟩ := left.slot 316 rfl 18 109 _ rfl rfl (by decide) rfl
                    have s18 := Eq.symm (show x18 = .bool false from r18)
                    subst s18
                    exact ⟨wanted_no rfl rfl e18 (by decide), rfl⟩
                  refine And.intro ?_ ?_
                  · -- 24: slot 115 := Op.binOp BinOp.neq 42 (Operand.tmp 113) (Operand.tmp 114) 42
                    refine lstep_skip fun fr wf left => ?_
                    obtain ⟨x18, e18, r18⟩ := left.slot 316 rfl 18 109 _ rfl rfl (by decide) rfl
                    have s18 := Eq.symm (show x18 = .bool false from r18)
                    subst s18
                    exact ⟨wanted_no rfl rfl e18 (by decide), rfl⟩
                  refine And.intro ?_ ?_
                  · -- 25: slot 116 := Op.pick (Operand.tmp 109) (Operand.tmp 115) (Operand.const (Value.bool false))
                    refine lstep_run fun fr wf left => ?_
                    obtain ⟨x14, e14, r14⟩ := left.slot 316 rfl 14 105 _ rfl rfl (by decide) rfl
                    have s14 := Eq.symm (show x14 = .bool false from r14)
                    subst s14
                    obtain ⟨x18, e18, r18⟩ := left.slot 316 rfl 18 109 _ rfl rfl (by decide) rfl
                    have s18 := Eq.symm (show x18 = .bool false from r18)
                    subst s18
                    obtain ⟨x24, e24, r24⟩ := left.slot 316 rfl 24 115 _ rfl rfl (by decide) rfl
                    have s24 := Eq.symm (show x24 = undef from r24)
                    subst s24
                    refine ⟨wanted_yes rfl rfl e14, fun K hK => ?_⟩
                    have hB := hide left.base
                    clear left
                    go_simp
                    exact hK _ _ rfl hB.out (Below.refl _ _)
                  refine And.intro ?_ ?_
                  · -- 26: slot 117 := Op.pick (Operand.tmp 105) (Operand.const (Value.bool true)) (Operand.tmp 116)
                    refine lstep_run fun fr wf left => ?_
                    obtain ⟨x14, e14, r14⟩ := left.slot 316 rfl 14 105 _ rfl rfl (by decide) rfl
                    have s14 := Eq.symm (show x14 = .bool false from r14)
                    subst s14
                    obtain ⟨x25, e25, r25⟩ := left.slot 316 rfl 25 116 _ rfl rfl (by decide) rfl
                    have s25 := Eq.symm (show x25 = .bool false from r25)
                    subst s25
                    refine ⟨wanted_none rfl, fun K hK => ?_⟩
                    have hB := hide left.base
                    clear left
                    go_simp
                    exact hK _ _ rfl hB.out (Below.refl _ _)
                  exact trivial
                · intro fr wf hB hs hd hall hkeep
                  have h117 : fr.tmps.getD 117 undef = .bool false := hall 26 _ rfl (by simp)
                  have hfr := act_ext (frame_setL hs hkeep [91, 92, 93, 94, 95, 96, 97, 98, 99, 100, 101, 102, 103, 104, 105, 106, 107, 108, 109, 110, 111, 112, 113, 114, 115, 116, 117] (by kernel_rfl)) hd
                  clear hall hkeep hs hd
                  dsimp only [List.foldl, List.set_cons_zero, List.set_cons_succ] at hfr
                  generalize fr.tmps.getD 91 undef = q91 at hfr
                  generalize fr.tmps.getD 92 undef = q92 at hfr
                  generalize fr.tmps.getD 93 undef = q93 at hfr
                  generalize fr.tmps.getD 94 undef = q94 at hfr
                  generalize fr.tmps.getD 95 undef = q95 at hfr
                  generalize fr.tmps.getD 96 undef = q96 at hfr
                  generalize fr.tmps.getD 97 undef = q97 at hfr
                  generalize fr.tmps.getD 98 undef = q98 at hfr
                  generalize fr.tmps.getD 99 undef = q99 at hfr
                  generalize fr.tmps.getD 100 undef = q100 at hfr
                  generalize fr.tmps.getD 101 undef = q101 at hfr
                  generalize fr.tmps.getD 102 undef = q102 at hfr
                  generalize fr.tmps.getD 103 undef = q103 at hfr
                  generalize fr.tmps.getD 104 undef = q104 at hfr
                  generalize fr.tmps.getD 105 undef = q105 at hfr
                  generalize fr.tmps.getD 106 undef = q106 at hfr
                  generalize fr.tmps.getD 107 undef = q107 at hfr
                  generalize fr.tmps.getD 108 undef = q108 at hfr
                  generalize fr.tmps.getD 109 undef = q109 at hfr
                  generalize fr.tmps.getD 110 undef = q110 at hfr
                  generalize fr.tmps.getD 111 undef = q111 at hfr
                  generalize fr.tmps.getD 112 undef = q112 at hfr
                  generalize fr.tmps.getD 113 undef = q113 at hfr
                  generalize fr.tmps.getD 114 undef = q114 at hfr
                  generalize fr.tmps.getD 115 undef = q115 at hfr
                  generalize fr.tmps.getD 116 undef = q116 at hfr
                  generalize fr.tmps.getD 117 undef = q117 at hfr h117
                  subst hfr
                  subst h117
                  have HBF := hide hB
                  clear hB
                  go_wp2_with fail
                  go_meet
                  case rel => exact ⟨rfl, HBF.out⟩
                -- END REGION mem3a
              · have hin' : (nn : Int) ≤ i := by omega
                have hin'' : ¬ (i : Int) < nn := by omega
                have h1 := flat_at (memR_right (fl := fl) (n := nn) (k := 20) (i := i) (by omega) (by rw [← HNN2.out]; exact hlt))
                have R1 := hide (show g5 < wr.heap.size ∧ wr.rangeAt g5 (i * 2) [.string ⟨#[114, 111, 111, 109]⟩, .string ⟨#[]⟩] from ⟨hcu.lt, range_pair (arr_get hcu ((hcq _ (Nat.le_refl _)).trans h1.1)) (arr_get hcu ((hcq _ (by omega)).trans h1.2))⟩)
                clear hcu hcs hcq h1
-- REGION mem3b
                
                refine wp_region_local (by kernel_rfl) (by kernel_rfl) (useList mem3bU) [26] (by kernel_rfl) (spR (mem3bL vw g5 c5 NN nn i)) (fun _ _ => True) (Below wr.heap.size wr) (fun _ w w' => Below w.heap.size w w') spR_stays (fun _ _ _ _ _ h _ => h) (fun _ _ => Below.refl _ _) (dsts_lt (N := 316) (by kernel_rfl)) ((Below.refl _ _).drew) (fun _ _ => trivial) (all_ops ?_) ?_
                · refine And.intro ?_ ?_
                  · -- 0: slot 91 := Op.move (Operand.tmp 12)
                    refine lstep_run fun fr wf left => ?_
                    have o12 := (left.old 12 (by kernel_rfl)).trans rfl
                    refine ⟨wanted_none rfl, fun K hK => ?_⟩
                    have hB := hide left.base
                    clear left
                    go_simp
                    exact hK _ _ rfl hB.out (Below.refl _ _)
                  refine And.intro ?_ ?_
                  · -- 1: slot 92 := Op.move (Operand.tmp 7)
                    refine lstep_run fun fr wf left => ?_
                    have o7 := (left.old 7 (by kernel_rfl)).trans rfl
                    refine ⟨wanted_none rfl, fun K hK => ?_⟩
                    have hB := hide left.base
                    clear left
                    go_simp
                    exact hK _ _ rfl hB.out (Below.refl _ _)
                  refine And.intro ?_ ?_
                  · -- 2: slot 93 := Op.binOp BinOp.lss 3 (Operand.tmp 91) (Operand.tmp 92) 3
                    refine lstep_run fun fr wf left => ?_
                    obtain ⟨x0, e0, r0⟩ := left.slot 316 rfl 0 91 _ rfl rfl (by decide) rfl
                    have s0 := Eq.symm (show x0 = .int .i64 (i : Int) from r0)
                    subst s0
                    obtain ⟨x1, e1, r1⟩ := left.slot 316 rfl 1 92 _ rfl rfl (by decide) rfl
                    have s1 := Eq.symm (show x1 = .int .i64 (nn : Int) from r1)
                    subst s1
                    refine ⟨wanted_none rfl, fun K hK => ?_⟩
                    have hB := hide left.base
                    clear left
                    go_simp
                    exact hK _ _ rfl hB.out (Below.refl _ _)
                  refine And.intro ?_ ?_
                  · -- 3: slot 94 := Op.move (Operand.tmp 93)
                    refine lstep_run fun fr wf left => ?_
                    obtain ⟨x2, e2, r2⟩ := left.slot 316 rfl 2 93 _ rfl rfl (by decide) rfl
                    have s2 := Eq.symm (show x2 = .bool false from r2)
                    subst s2
                    refine ⟨wanted_none rfl, fun K hK => ?_⟩
                    have hB := hide left.base
                    clear left
                    go_simp
                    exact hK _ _ rfl hB.out (Below.refl _ _)
                  refine And.intro ?_ ?_
                  · -- 4: slot 95 := Op.move (Operand.tmp 5)
                    refine lstep_skip fun fr wf left => ?_
                    obtain ⟨x3, e3, r3⟩ := left.slot 316 rfl 3 94 _ rfl rfl (by decide) rfl
                    have s3 := Eq.symm (show x3 = .bool false from r3)
                    subst s3
                    exact ⟨wanted_no rfl rfl e3 (by decide), rfl⟩
                  refine And.intro ?_ ?_
                  · -- 5: slot 96 := Op.move (Operand.tmp 12)
                    refine lstep_skip fun fr wf left => ?_
                    obtain ⟨x3, e3, r3⟩ := left.slot 316 rfl 3 94 _ rfl rfl (by decide) rfl
                    have s3 := Eq.symm (show x3 = .bool false from r3)
                    subst s3
                    exact ⟨wanted_no rfl rfl e3 (by decide), rfl⟩
                  refine And.intro ?_ ?_
                  · -- 6: slot 97 := Op.indexAddr 40 (Operand.tmp 95) (Operand.tmp 96)
                    refine lstep_skip fun fr wf left => ?_
                    obtain ⟨x3, e3, r3⟩ := left.slot 316 rfl 3 94 _ rfl rfl (by decide) rfl
                    have s3 := Eq.symm (show x3 = .bool false from r3)
                    subst s3
                    exact ⟨wanted_no rfl rfl e3 (by decide), rfl⟩
                  refine And.intro ?_ ?_
                  · -- 7: slot 98 := Op.load 42 (Operand.tmp 97)
                    refine lstep_skip fun fr wf left => ?_
                    obtain ⟨x3, e3, r3⟩ := left.slot 316 rfl 3 94 _ rfl rfl (by decide) rfl
                    have s3 := Eq.symm (show x3 = .bool false from r3)
                    subst s3
                    exact ⟨wanted_no rfl rfl e3 (by decide), rfl⟩
                  refine And.intro ?_ ?_
                  · -- 8: slot 99 := Op.move (Operand.tmp 8)
                    refine lstep_skip fun fr wf left => ?_
                    obtain ⟨x3, e3, r3⟩ := left.slot 316 rfl 3 94 _ rfl rfl (by decide) rfl
                    have s3 := Eq.symm (show x3 = .bool false from r3)
                    subst s3
                    exact ⟨wanted_no rfl rfl e3 (by decide), rfl⟩
                  refine And.intro ?_ ?_
                  · -- 9: slot 100 := Op.move (Operand.tmp 12)
                    refine lstep_skip fun fr wf left => ?_
                    obtain ⟨x3, e3, r3⟩ := left.slot 316 rfl 3 94 _ rfl rfl (by decide) rfl
                    have s3 := Eq.symm (show x3 = .bool false from r3)
                    subst s3
                    exact ⟨wanted_no rfl rfl e3 (by decide), rfl⟩
                  refine And.intro ?_ ?_
                  · -- 10: slot 101 := Op.indexAddr 40 (Operand.tmp 99) (Operand.tmp 100)
                    refine lstep_skip fun fr wf left => ?_
                    obtain ⟨x3, e3, r3⟩ := left.slot 316 rfl 3 94 _ rfl rfl (by decide) rfl
                    have s3 := Eq.symm (show x3 = .bool false from r3)
                    subst s3
                    exact ⟨wanted_no rfl rfl e3 (by decide), rfl⟩
                  refine And.intro ?_ ?_
                  · -- 11: slot 102 := Op.load 42 (Operand.tmp 101)
                    refine lstep_skip fun fr wf left => ?_
                    obtain ⟨x3, e3, r3⟩ := left.slot 316 rfl 3 94 _ rfl rfl (by decide) rfl
                    have s3 := Eq.symm (show x3 = .bool false from r3)
                    subst s3
                    exact ⟨wanted_no rfl rfl e3 (by decide), rfl⟩
                  refine And.intro ?_ ?_
                  · -- 12: slot 103 := Op.binOp BinOp.neq 42 (Operand.tmp 98) (Operand.tmp 102) 42
                    refine lstep_skip fun fr wf left => ?_
                    obtain ⟨x3, e3, r3⟩ := left.slot 316 rfl 3 94 _ rfl rfl (by decide) rfl
                    have s3 := Eq.symm (show x3 = .bool false from r3)
                    subst s3
                    exact ⟨wanted_no rfl rfl e3 (by decide), rfl⟩
                  refine And.intro ?_ ?_
                  · -- 13: slot 104 := Op.pick (Operand.tmp 94) (Operand.tmp 103) (Operand.const (Value.bool false))
                    refine lstep_run fun fr wf left => ?_
                    obtain ⟨x3, e3, r3⟩ := left.slot 316 rfl 3 94 _ rfl rfl (by decide) rfl
                    have s3 := Eq.symm (show x3 = .bool false from r3)
                    subst s3
                    obtain ⟨x12, e12, r12⟩ := left.slot 316 rfl 12 103 _ rfl rfl (by decide) rfl
                    have s12 := Eq.symm (show x12 = undef from r12)
                    subst s12
                    refine ⟨wanted_none rfl, fun K hK => ?_⟩
                    have hB := hide left.base
                    clear left
                    go_simp
                    exact hK _ _ rfl hB.out (Below.refl _ _)
                  refine And.intro ?_ ?_
                  · -- 14: slot 105 := Op.move (Operand.tmp 104)
                    refine lstep_run fun fr wf left => ?_
                    obtain ⟨x13, e13, r13⟩ := left.slot 316 rfl 13 104 _ rfl rfl (by decide) rfl
                    have s13 := Eq.symm (show x13 = .bool false from r13)
                    subst s13
                    refine ⟨wanted_none rfl, fun K hK => ?_⟩
                    have hB := hide left.base
                    clear left
                    go_simp
                    exact hK _ _ rfl hB.out (Below.refl _ _)
                  refine And.intro ?_ ?_
                  · -- 15: slot 106 := Op.move (Operand.tmp 12)
                    refine lstep_run fun fr wf left => ?_
                    obtain ⟨x14, e14, r14⟩ := left.slot 316 rfl 14 105 _ rfl rfl (by decide) rfl
                    have s14 := Eq.symm (show x14 = .bool false from r14)
                    subst s14
                    have o12 := (left.old 12 (by kernel_rfl)).trans rfl
                    refine ⟨wanted_yes rfl rfl e14, fun K hK => ?_⟩
                    have hB := hide left.base
                    clear left
                    go_simp
                    exact hK _ _ rfl hB.out (Below.refl _ _)
                  refine And.intro ?_ ?_
                  · -- 16: slot 107 := Op.move (Operand.tmp 7)
                    refine lstep_run fun fr wf left => ?_
                    obtain ⟨x14, e14, r14⟩ := left.slot 316 rfl 14 105 _ rfl rfl (by decide) rfl
                    have s14 := Eq.symm (show x14 = .bool false from r14)
                    subst s14
                    have o7 := (left.old 7 (by kernel_rfl)).trans rfl
                    refine ⟨wanted_yes rfl rfl e14, fun K hK => ?_⟩
                    have hB := hide left.base
                    clear left
                    go_simp
                    exact hK _ _ rfl hB.out (Below.refl _ _)
                  refine And.intro ?_ ?_
                  · -- 17: slot 108 := Op.binOp BinOp.geq 3 (Operand.tmp 106) (Operand.tmp 107) 3
                    refine lstep_run fun fr wf left => ?_
                    obtain ⟨x14, e14, r14⟩ := left.slot 316 rfl 14 105 _ rfl rfl (by decide) rfl
                    have s14 := Eq.symm (show x14 = .bool false from r14)
                    subst s14
                    obtain ⟨x15, e15, r15⟩ := left.slot 316 rfl 15 106 _ rfl rfl (by decide) rfl
                    have s15 := Eq.symm (show x15 = .int .i64 (i : Int) from r15)
                    subst s15
                    obtain ⟨x16, e16, r16⟩ := left.slot 316 rfl 16 107 _ rfl rfl (by decide) rfl
                    have s16 := Eq.symm (show x16 = .int .i64 (nn : Int) from r16)
                    subst s16
                    refine ⟨wanted_yes rfl rfl e14, fun K hK => ?_⟩
                    have hB := hide left.base
                    clear left
                    go_simp
                    exact hK _ _ rfl hB.out (Below.refl _ _)
                  refine And.intro ?_ ?_
                  · -- 18: slot 109 := Op.move (Operand.tmp 108)
                    refine lstep_run fun fr wf left => ?_
                    obtain ⟨x14, e14, r14⟩ := left.slot 316 rfl 14 105 _ rfl rfl (by decide) rfl
                    have s14 := Eq.symm (show x14 = .bool false from r14)
                    subst s14
                    obtain ⟨x17, e17, r17⟩ := left.slot 316 rfl 17 108 _ rfl rfl (by decide) rfl
                    have s17 := Eq.symm (show x17 = .bool true from r17)
                    subst s17
                    refine ⟨wanted_yes rfl rfl e14, fun K hK => ?_⟩
                    have hB := hide left.base
                    clear left
                    go_simp
                    exact hK _ _ rfl hB.out (Below.refl _ _)
                  refine And.intro ?_ ?_
                  · -- 19: slot 110 := Op.move (Operand.tmp 5)
                    refine lstep_run fun fr wf left => ?_
                    obtain ⟨x18, e18, r18⟩ := left.slot 316 rfl 18 109 _ rfl rfl (by decide) rfl
                    have s18 := Eq.symm (show x18 = .bool true from r18)
                    subst s18
                    have o5 := (left.old 5 (by kernel_rfl)).trans rfl
                    refine ⟨wanted_yes rfl rfl e18, fun K hK => ?_⟩
                    have hB := hide left.base
                    clear left
                    go_simp
                    exact hK _ _ rfl hB.out (Below.refl _ _)
                  refine And.intro ?_ ?_
                  · -- 20: slot 111 := Op.move (Operand.tmp 12)
                    refine lstep_run fun fr wf left => ?_
                    obtain ⟨x18, e18, r18⟩ := left.slot 316 rfl 18 109 _ rfl rfl (by decide) rfl
                    have s18 := Eq.symm (show x18 = .bool true from r18)
                    subst s18
                    have o12 := (left.old 12 (by kernel_rfl)).trans rfl
                    refine ⟨wanted_yes rfl rfl e18, fun K hK => ?_⟩
                    have hB := hide left.base
                    clear left
                    go_simp
                    exact hK _ _ rfl hB.out (Below.refl _ _)
                  refine And.intro ?_ ?_
                  · -- 21: slot 112 := Op.indexAddr 40 (Operand.tmp 110) (Operand.tmp 111)
                    refine lstep_run fun fr wf left => ?_
                    obtain ⟨x18, e18, r18⟩ := left.slot 316 rfl 18 109 _ rfl rfl (by decide) rfl
                    have s18 := Eq.symm (show x18 = .bool true from r18)
                    subst s18
                    obtain ⟨x19, e19, r19⟩ := left.slot 316 rfl 19 110 _ rfl rfl (by decide) rfl
                    have s19 := Eq.symm (show x19 = .slice (some ⟨g5, 0, none⟩) NN c5 from r19)
                    subst s19
                    obtain ⟨x20, e20, r20⟩ := left.slot 316 rfl 20 111 _ rfl rfl (by decide) rfl
                    have s20 := Eq.symm (show x20 = .int .i64 (i : Int) from r20)
                    subst s20
                    refine ⟨wanted_yes rfl rfl e18, fun K hK => ?_⟩
                    have hB := hide left.base
                    clear left
                    go_simp
                    exact hK _ _ rfl hB.out (Below.refl _ _)
                  refine And.intro ?_ ?_
                  · -- 22: slot 113 := Op.load 42 (Operand.tmp 112)
                    refine lstep_run fun fr wf left => ?_
                    obtain ⟨x18, e18, r18⟩ := left.slot 316 rfl 18 109 _ rfl rfl (by decide) rfl
                    have s18 := Eq.symm (show x18 = .bool true from r18)
                    subst s18
                    obtain ⟨x21, e21, r21⟩ := left.slot 316 rfl 21 112 _ rfl rfl (by decide) rfl
                    have s21 := Eq.symm (show x21 = .pointer (some ⟨g5, i * 2, none⟩) from r21)
                    subst s21
                    refine ⟨wanted_yes rfl rfl e18, fun K hK => ?_⟩
                    have hB := hide left.base
                    have hr := range_below R1.out.2 R1.out.1 hB.out
                    clear left
                    refine wp_load_mid 42 (.tmp 112) rfl g5 (i * 2) (eval_tmp e21) [.string ⟨#[114, 111, 111, 109]⟩, .string ⟨#[]⟩] _ hr Try.underlying42 rfl (by kernel_rfl) ?_
                    exact hK _ _ rfl hB.out (Below.refl _ _)
                  refine And.intro ?_ ?_
                  · -- 23: slot 114 := Op.build 42 #[(0, Operand.const (Value.string { data := #[114, 111, 111, 109] }))]
                    refine lstep_run fun fr wf left => ?_
                    obtain ⟨x18, e18, r18⟩ := left.slot 316 rfl 18 109 _ rfl rfl (by decide) rfl
                    have s18 := Eq.symm (show x18 = .bool true from r18)
                    subst s18
                    refine ⟨wanted_yes rfl rfl e18, fun K hK => ?_⟩
                    have hB := hide left.base
                    clear left
                    go_simp
                    exact hK _ _ rfl hB.out (Below.refl _ _)
                  refine And.intro ?_ ?_
                  · -- 24: slot 115 := Op.binOp BinOp.neq 42 (Operand.tmp 113) (Operand.tmp 114) 42
                    refine lstep_run fun fr wf left => ?_
                    obtain ⟨x18, e18, r18⟩ := left.slot 316 rfl 18 109 _ rfl rfl (by decide) rfl
                    have s18 := Eq.symm (show x18 = .bool true from r18)
                    subst s18
                    obtain ⟨x22, e22, r22⟩ := left.slot 316 rfl 22 113 _ rfl rfl (by decide) rfl
                    have s22 := Eq.symm (show x22 = .agg #[.string ⟨#[114, 111, 111, 109]⟩, .string ⟨#[]⟩] from r22)
                    subst s22
                    obtain ⟨x23, e23, r23⟩ := left.slot 316 rfl 23 114 _ rfl rfl (by decide) rfl
                    have s23 := Eq.symm (show x23 = .agg #[.string ⟨#[114, 111, 111, 109]⟩, .string ⟨#[]⟩] from r23)
                    subst s23
                    refine ⟨wanted_yes rfl rfl e18, fun K hK => ?_⟩
                    have hB := hide left.base
                    clear left
                    go_simp
                    exact hK _ _ rfl hB.out (Below.refl _ _)
                  refine And.intro ?_ ?_
                  · -- 25: slot 116 := Op.pick (Operand.tmp 109) (Operand.tmp 115) (Operand.const (Value.bool false))
                    refine lstep_run fun fr wf left => ?_
                    obtain ⟨x14, e14, r14⟩ := left.slot 316 rfl 14 105 _ rfl rfl (by decide) rfl
                    have s14 := Eq.symm (show x14 = .bool false from r14)
                    subst s14
                    obtain ⟨x18, e18, r18⟩ := left.slot 316 rfl 18 109 _ rfl rfl (by decide) rfl
                    have s18 := Eq.symm (show x18 = .bool true from r18)
                    subst s18
                    obtain ⟨x24, e24, r24⟩ := left.slot 316 rfl 24 115 _ rfl rfl (by decide) rfl
                    have s24 := Eq.symm (show x24 = .bool false from r24)
                    subst s24
                    refine ⟨wanted_yes rfl rfl e14, fun K hK => ?_⟩
                    have hB := hide left.base
                    clear left
                    go_simp
                    exact hK _ _ rfl hB.out (Below.refl _ _)
                  refine And.intro ?_ ?_
                  · -- 26: slot 117 := Op.pick (Operand.tmp 105) (Operand.const (Value.bool true)) (Operand.tmp 116)
                    refine lstep_run fun fr wf left => ?_
                    obtain ⟨x14, e14, r14⟩ := left.slot 316 rfl 14 105 _ rfl rfl (by decide) rfl
                    have s14 := Eq.symm (show x14 = .bool false from r14)
                    subst s14
                    obtain ⟨x25, e25, r25⟩ := left.slot 316 rfl 25 116 _ rfl rfl (by decide) rfl
                    have s25 := Eq.symm (show x25 = .bool false from r25)
                    subst s25
                    refine ⟨wanted_none rfl, fun K hK => ?_⟩
                    have hB := hide left.base
                    clear left
                    go_simp
                    exact hK _ _ rfl hB.out (Below.refl _ _)
                  exact trivial
                · intro fr wf hB hs hd hall hkeep
                  have h117 : fr.tmps.getD 117 undef = .bool false := hall 26 _ rfl (by simp)
                  have hfr := act_ext (frame_setL hs hkeep [91, 92, 93, 94, 95, 96, 97, 98, 99, 100, 101, 102, 103, 104, 105, 106, 107, 108, 109, 110, 111, 112, 113, 114, 115, 116, 117] (by kernel_rfl)) hd
                  clear hall hkeep hs hd
                  dsimp only [List.foldl, List.set_cons_zero, List.set_cons_succ] at hfr
                  generalize fr.tmps.getD 91 undef = q91 at hfr
                  generalize fr.tmps.getD 92 undef = q92 at hfr
                  generalize fr.tmps.getD 93 undef = q93 at hfr
                  generalize fr.tmps.getD 94 undef = q94 at hfr
                  generalize fr.tmps.getD 95 undef = q95 at hfr
                  generalize fr.tmps.getD 96 undef = q96 at hfr
                  generalize fr.tmps.getD 97 undef = q97 at hfr
                  generalize fr.tmps.getD 98 undef = q98 at hfr
                  generalize fr.tmps.getD 99 undef = q99 at hfr
                  generalize fr.tmps.getD 100 undef = q100 at hfr
                  generalize fr.tmps.getD 101 undef = q101 at hfr
                  generalize fr.tmps.getD 102 undef = q102 at hfr
                  generalize fr.tmps.getD 103 undef = q103 at hfr
                  generalize fr.tmps.getD 104 undef = q104 at hfr
                  generalize fr.tmps.getD 105 undef = q105 at hfr
                  generalize fr.tmps.getD 106 undef = q106 at hfr
                  generalize fr.tmps.getD 107 undef = q107 at hfr
                  generalize fr.tmps.getD 108 undef = q108 at hfr
                  generalize fr.tmps.getD 109 undef = q109 at hfr
                  generalize fr.tmps.getD 110 undef = q110 at hfr
                  generalize fr.tmps.getD 111 undef = q111 at hfr
                  generalize fr.tmps.getD 112 undef = q112 at hfr
                  generalize fr.tmps.getD 113 undef = q113 at hfr
                  generalize fr.tmps.getD 114 undef = q114 at hfr
                  generalize fr.tmps.getD 115 undef = q115 at hfr
                  generalize fr.tmps.getD 116 undef = q116 at hfr
                  generalize fr.tmps.getD 117 undef = q117 at hfr h117
                  subst hfr
                  subst h117
                  have HBF := hide hB
                  clear hB
                  go_wp2_with fail
                  go_meet
                  case rel => exact ⟨rfl, HBF.out⟩
                -- END REGION mem3b
            case rest =>
              obtain ⟨h117, hb7⟩ := hcut.out
              subst h117
              obtain ⟨cu, hcu, hcs, hcq⟩ := HR.out.1
              have hcuc := hcu.past hb7
              have H7 := hide (show DiskAt wc D (Dk.memW fl nn) ∧ wc.ownsRow B2 42 2 vw nn (flatF (Dk.memL fl nn)) ∧ Below B1 w1 wc from ⟨HR.out.2.1.past hb7, own_below HR.out.2.2.1 hb7, HR.out.2.2.2.1.trans (hb7.mono (by rw [HBQ.out.1]; exact HR.out.2.2.2.1.size))⟩)
              have H7b := hide (Nat.le_trans HR.out.2.2.2.2 hb7.size)
              have HCU := hide (And.intro hcuc (And.intro hcs hcq))
              clear hcut hb7 hcu hcs hcq hcuc
              have hov : i * 2 + 2 ≤ cu.length := by have := HCU.out.2.1; omega
              have hovH := hide hov
              have HZ := hide (show wc.heap.size ≤ wc.heap.size from Nat.le_refl _)
              go_upto_region 23 with (fail)
              go_step
              go_step
              go_step
              go_step
              go_step
              go_step
              go_step
              go_step
              go_step
              go_step
              go_step
              go_step
              go_step
              have hth : wc.there g5 (i * 2) 2 := fun j hj => ⟨by rw [HCU.out.1.cell _ (Nat.lt_of_lt_of_le (Nat.add_lt_add_left hj _) hovH.out)]; rfl, HCU.out.1.frozen _ (Nat.lt_of_lt_of_le (Nat.add_lt_add_left hj _) hovH.out)⟩
              have hHTH := hide hth
              clear hth
              refine wpList_store_mid rfl 42 (.tmp 121) (.tmp 120) rfl g5 (i * 2) #[.string ⟨#[111, 118, 101, 114]⟩, .string ⟨#[111, 118, 101, 114]⟩] ?hx rfl hHTH.out (by kernel_rfl) (by simp [Value.oneCell']) ?_
              case hx => rfl
              have hA8 := HCU.out.1.setCells [.string ⟨#[111, 118, 101, 114]⟩, .string ⟨#[111, 118, 101, 114]⟩] (i * 2) hovH.out
              have hM8 := moved_setCells wc g5 (i * 2) [.string ⟨#[111, 118, 101, 114]⟩, .string ⟨#[111, 118, 101, 114]⟩]
              obtain ⟨w8, hw8⟩ : ∃ u, u = wc.setCells g5 (i * 2) [.string ⟨#[111, 118, 101, 114]⟩, .string ⟨#[111, 118, 101, 114]⟩] := ⟨_, rfl⟩
              rw [← hw8] at hA8 hM8
              have H8 := hide (And.intro hA8 hM8)
              show wpList _ _ _ _ _ (wc.setCells g5 (i * 2) [.string ⟨#[111, 118, 101, 114]⟩, .string ⟨#[111, 118, 101, 114]⟩])
              rw [← hw8]
              clear hw8 hA8 hM8
              go_wp2_with fail
              go_roundg (NN - (i + 1))
              case measure => omega
              case rel =>
                have hgv : ∀ b, vw.ownBlock = some b → ¬ b = g5 := by
                  intro b hb e
                  subst e
                  have h1 := HX.out.1.2.1 b rfl
                  have h2 := HWL.out b hb
                  have h3 := (HWS.out.lt b hb).1
                  omega
                have hlg := heap_lt HX.out.2.2.1
                refine ⟨i + 1, by omega, rfl, by go_num, ⟨_, H8.out.1, ?_, ?_⟩, H7.out.1.stay H8.out.2 ⟨?_, ?_, ?_⟩, row_moved H7.out.2.1 H8.out.2 hgv, H7.out.2.2.trans (H8.out.2.below (Nat.le_trans (by rw [HBQ.out.1]; exact Nat.le_refl _) H7.out.2.2.size) (fun k e => by subst e; exact HX.out.2.1)), Nat.le_trans H7b.out H8.out.2.size⟩
                · have := HCU.out.2.1
                  simp; omega
                · intro q hq
                  rw [← HCU.out.2.2 q (by omega)]
                  exact tdg (by omega) (by omega)
                · intro e
                  have := HA.out D.g (.inl rfl)
                  omega
                · intro e
                  have := HA.out D.mb (.inr rfl)
                  omega
                · intro k hk
                  rw [HD4.out.2.2.2.1] at hk
                  cases hk
          · obtain rfl : i = NN := by omega
            clear hlt
            go_wp2_with fail
            go_meet
            case rel => exact ⟨HR.out.2.1, HR.out.2.2.2⟩
      case rest =>
        obtain ⟨hdA, hbA, hsA⟩ := hcut.out
        have HK := hide (And.intro hdA hbA)
        clear hcut hdA hbA hsA
        obtain ⟨B4, hB4⟩ : ∃ b, b = wc.heap.size := ⟨_, rfl⟩
        have HB4 := hide hB4
        clear hB4
        have HBW4 := hide (show Below w.heap.size w wc from HB1.out.trans (HK.out.2.mono HBQ.out.2))
        go_upto_region 24 with (fail)
        iterate 7 go_step
        refine wpList_append_slv rfl (.tmp 122) (.tmp 123) 28 rfl B4 4 (.bool false) 1 Try.underlying28 info_bool rfl _ 0 [] rfl (World.ownsRow_made _ #[] 0 (Nat.le_of_eq HB4.out) (by decide) rfl) _ (keep.map Value.bool) rfl (H2.out.below (HBW4.out.alloc (HBW4.out.size) _)) (bools_one keep) (by rw [List.length_map]; have := HKL.out; unfold maxLen; omega) (by rw [List.length_map]; have := HKL.out; omega) (by rw [HB4.out]; simp) ?_
        intro va wa hown hgr
        have hba : Below B4 wc wa := by
          rw [HB4.out]
          exact ((Below.refl _ _).alloc (Nat.le_refl _) _).grown hgr (by simp) (fun k hk => by cases hk; exact Nat.le_refl _)
        obtain ⟨len2', hl2'⟩ : ∃ k, k = 0 + (keep.map Value.bool).length := ⟨_, rfl⟩
        rw [← hl2'] at hown
        have HLL := hide (show len2' = len2 by rw [hl2', HLK.out, List.length_map]; omega)
        have HMA := hide (And.intro hown hba)
        clear hown hgr hba hl2'
        iterate 3 go_step
        refine wpList_append_slv rfl (.tmp 124) (.tmp 125) 28 rfl B4 4 (.bool false) 1 Try.underlying28 info_bool rfl va len2' ([] ++ keep.map Value.bool) rfl (own_below HMA.out.1 ((Below.refl _ _).alloc (Nat.le_refl _) _)) _ [.bool true, .bool false, .bool true, .bool false, .bool true] rfl (slv_new wa [.bool true, .bool false, .bool true, .bool false, .bool true] 4 5 rfl) (bools_one [true, false, true, false, true]) (by show len2' + 5 ≤ _; rw [HLL.out, HLK.out]; have := HKL.out; unfold maxLen; omega) (by show (len2' + 5) * 1 ≤ _; rw [HLL.out, HLK.out]; have := HKL.out; omega) (by have h1 := HMA.out.2.size; have h2 := HB4.out; simp; omega) ?_
        intro vb wb hown0 hgr
        have hbb : Below B4 wc wb := by
          have h1 := HMA.out.2.size
          have h2 := HB4.out
          refine (HMA.out.2.alloc (by omega) _).grown hgr ?_ ?_
          · simp; omega
          · intro k hk
            exact (HMA.out.1.lt k hk).1
        obtain ⟨M, hM⟩ : ∃ k, k = len2' + 5 := ⟨_, rfl⟩
        have hM2 : M = keep.length + 5 := by rw [hM, HLL.out, HLK.out]
        have hMl : len2 ≤ M := by rw [hM, HLL.out]; omega
        have hown : wb.ownsRow B4 4 1 vb M (moreL keep) := by
          rw [hM]
          unfold moreL
          rw [List.map_append]
          exact hown0
        have hMp : 5 ≤ M ∧ M ≤ 140737488351237 := by have := HKL.out; omega
        obtain ⟨gm, capm, rfl, hgm, hcm, hcm2, hArr⟩ := arr_of_owns hown (by omega)
        have HM := hide (And.intro hM2 (And.intro hgm (And.intro hcm2 (And.intro hArr hbb))))
        have hlc : len2 ≤ capm := Nat.le_trans hMl hcm
        clear hown0 hown hgr hbb hM hM2 hgm hcm2 hArr hMl
        obtain ⟨B5, hB5⟩ : ∃ b, b = wb.heap.size := ⟨_, rfl⟩
        have HB5 := hide hB5
        have HBG := hide (show gm < B5 by rw [hB5]; exact HM.out.2.2.2.1.lt)
        clear hB5
        go_upto_region 25 with (fail)
        iterate 7 go_step
        refine wpList_append_slv rfl (.tmp 127) (.tmp 128) 28 rfl B5 4 (.bool false) 1 Try.underlying28 info_bool rfl _ 0 [] rfl (World.ownsRow_made _ #[] 0 (Nat.le_of_eq HB5.out) (by decide) rfl) _ (moreL keep) rfl ((HM.out.2.2.2.1.past ((Below.refl _ _).alloc (Nat.le_refl _) _)).slv (by rw [moreL_len]; exact HM.out.1) hcm) (bools_one _) (by rw [moreL_len]; have := HKL.out; unfold maxLen; omega) (by rw [moreL_len]; have := HKL.out; omega) (by rw [HB5.out]; simp) ?_
        intro vn wn hown hgr
        have hbn : Below B5 wb wn := by
          rw [HB5.out]
          exact ((Below.refl _ _).alloc (Nat.le_refl _) _).grown hgr (by simp) (fun k hk => by cases hk; exact Nat.le_refl _)
        have hM' : 0 + (moreL keep).length = M := by rw [moreL_len, HM.out.1]; omega
        rw [hM'] at hown
        obtain ⟨gn, capn, rfl, hgn, hcn, _, hArn⟩ := arr_of_owns hown (by omega)
        have HN2 := hide (And.intro hgn (And.intro hArn hbn))
        clear hown hgr hM' hgn hArn hbn
        have H8 := hide (show DiskAt wn D (Dk.memW fl nn) ∧ Arr wn gm 4 (moreL keep) ∧ Below B1 w1 wn ∧ Below w.heap.size w wn from by
          have h4 := HB4.out
          have h5 := HB5.out
          have h6 := HM.out.2.2.2.2
          have h7 := HN2.out.2.2
          rw [h4] at h6
          rw [h5] at h7
          have h8 := h6.trans (h7.mono h6.size)
          exact ⟨HK.out.1.past h8, HM.out.2.2.2.1.past h7, HK.out.2.trans (h8.mono (by rw [HBQ.out.1]; exact HK.out.2.size)), HBW4.out.trans (h8.mono HBW4.out.size)⟩)
        have HDB := hide (show D.g < B4 ∧ D.mb < B4 by rw [HB4.out]; exact ⟨HK.out.1.glt, HK.out.1.map.lt⟩)
        go_wp2_with fail
        refine (diskLay_any D (Dk.memW fl nn) 1 4 _ keep _ H8.out.1 (by decide) (show SlV wn (.slice (some ⟨gm, 0, none⟩) len2 capm) (keep.map Value.bool) from by
          have h := H8.out.2.1.slv_sub (off := 0) (n := len2) (cap := capm) (by rw [moreL_len, HLK.out]; omega) hlc
          have e : ((moreL keep).drop 0).take len2 = keep.map Value.bool := by
            unfold moreL
            rw [List.drop_zero, List.map_append, List.take_left' (by rw [List.length_map]; exact HLK.out.symm)]
          rw [e] at h
          exact h) HKL.out (fun e => by
            rw [Dk.slBlk_some] at e
            split at e
            · cases e
            · injection e with e
              have h1 := HDB.out.1
              have h2 := HM.out.2.1
              have e : gm = D.g := e
              omega)).mono ?_
        rintro e w6 ⟨rfl, D', hg', hm', hkv', hD', hmv'⟩
        rw [Dk.mem_lay] at hD'
        have HDK := hide (show D'.g < B4 ∧ D'.mb < B4 ∧ ∀ k, Dk.slBlk D'.kv = some k → wn.heap.size ≤ k from by
          rw [hg', hm']
          refine ⟨HDB.out.1, HDB.out.2, fun k hk => ?_⟩
          rcases hkv' with h | h
          · rw [h, HD4.out.2.2.2.1] at hk
            cases hk
          · exact h k hk)
        have HDL := hide (show B1 ≤ D'.g ∧ B1 ≤ D'.mb from by
          rw [hg', hm']
          have h3 := HA.out D.g (.inl rfl)
          have h3' := HA.out D.mb (.inr rfl)
          have h4 := HX.out.1.2.2.2.1.size
          have h5 := HBQ.out.1
          omega)
        have HDN := hide (show gm < B5 ∧ B4 ≤ gm ∧ B5 ≤ gn ∧ gn < wn.heap.size ∧ B5 ≤ wn.heap.size from
          ⟨HBG.out, HM.out.2.1, HN2.out.1, HN2.out.2.1.lt, by rw [HB5.out]; have := HN2.out.2.2.size; exact this⟩)
        have H9 := hide (show DiskAt w6 D' (Dk.memY fl nn keep) ∧ Arr w6 gm 4 (moreL keep) ∧ Arr w6 gn 4 (moreL keep) ∧ Below B1 w1 w6 ∧ wn.heap.size ≤ w6.heap.size from by
          have h1 := HDN.out
          have h2 := HDB.out
          refine ⟨hD', H8.out.2.1.moved hmv' (by omega), HN2.out.2.1.moved hmv' (by omega), H8.out.2.2.1.trans (hmv'.below (by rw [HBQ.out.1]; exact H8.out.2.2.1.size) ?_), hmv'.size⟩
          intro k e
          subst e
          have h3 := HA.out D.g (.inl rfl)
          have h4 := HX.out.1.2.2.2.1.size
          have h5 := HBQ.out.1
          omega)
        rw [← hg']
        clear hg' hm' hkv' hD' hmv'
        obtain ⟨B7, hB7⟩ : ∃ b, b = w6.heap.size := ⟨_, rfl⟩
        have HB7 := hide hB7
        clear hB7
        have HSA := hide (show ∀ o, SlV (w6.alloc o) (.slice (some ⟨gm, 0, none⟩) len2 capm) (keep.map Value.bool) from by
          intro o
          have h := (H9.out.2.1.past ((Below.refl w6.heap.size w6).alloc (Nat.le_refl _) o)).slv_sub (off := 0) (n := len2) (cap := capm) (by rw [moreL_len, HLK.out]; omega) hlc
          have e : ((moreL keep).drop 0).take len2 = keep.map Value.bool := by
            unfold moreL
            rw [List.drop_zero, List.map_append, List.take_left' (by rw [List.length_map]; exact HLK.out.symm)]
          rw [e] at h
          exact h)
        go_wp2_with fail
        refine (diskAfter_any D' (Dk.memY fl nn keep) _ keep _ (H9.out.1.past ((Below.refl _ _).alloc (Nat.le_refl _) _)) (HSA.out _) HKL.out).mono ?_
        rintro e w7 ⟨v143, rfl, hown, hb7⟩
        obtain ⟨st, hst⟩ : ∃ l, l = Dk.after (Dk.memY fl nn keep) keep := ⟨_, rfl⟩
        rw [← hst] at hown
        have hst12 : st.length ≤ 12 := by rw [hst]; exact mem_after_len fl HNN.out.1 keep
        have HST := hide hst
        obtain ⟨ad143, cap143, rfl⟩ := own_form hown
        have HQ7 := hide (And.intro hown hb7)
        clear hst hown hb7
        go_upto_block 6 with (at_builtin; refine wpList_append_row rfl _ _ 40 rfl B7 42 _ 2 32 Try.underlying40 info_file rfl (by decide) _ 0 [] rfl (own_below (World.ownsRow_made _ #[] 0 (Nat.le_of_eq HB7.out) (by decide) rfl) HQ7.out.2) _ _ st.length (flatF st) rfl HQ7.out.1 (flatF_one _) (by unfold maxLen; omega) (by omega) (by have h1 := HQ7.out.2.size; have h2 := HB7.out; simp at h1; omega) ?_; intro vs w8 hown hgr)
        have hbw : Below B7 w6 w8 := by
          have h1 : Below w6.heap.size w6 w7 := ((Below.refl w6.heap.size w6).alloc (Nat.le_refl _) _).trans (HQ7.out.2.mono (by simp))
          rw [HB7.out]
          rcases hgr with ⟨_, hg⟩ | ⟨_, hg⟩
          · exact h1.grown hg h1.size (fun k hk => by cases hk; exact Nat.le_refl _)
          · exact h1.trans (hg.mono h1.size)
        have HR8 := hide (show (∃ cu, Arr w8 gm 4 cu ∧ cu.length = M ∧ ∀ q, 0 ≤ q → cu[q]? = (moreL keep)[q]?) ∧ Arr w8 gn 4 (moreL keep) ∧ DiskAt w8 D' (Dk.memY fl nn keep) ∧ w8.ownsRow B7 42 2 vs st.length (flatF st) ∧ Below B1 w1 w8 from by
          have hb := hbw
          rw [HB7.out] at hb
          refine ⟨⟨moreL keep, H9.out.2.1.past hb, by rw [moreL_len]; exact HM.out.1.symm, fun _ _ => rfl⟩, H9.out.2.2.1.past hb, H9.out.1.past hb, by simpa using hown, H9.out.2.2.2.1.trans (hb.mono (by rw [HBQ.out.1]; exact H9.out.2.2.2.1.size))⟩)
        have HGB := hide (show gm < B7 ∧ B7 ≤ w8.heap.size by
          have h1 := HDN.out
          have h2 := H9.out.2.2.2.2
          have h3 := HB7.out
          have h4 := hbw.size
          omega)
        clear hown hgr hbw
        go_cut [16] from 145 to 167 (fun v16 wx => Hid (DiskAt wx D' (Dk.memY fl nn keep) ∧ wx.ownsRow B7 42 2 vs st.length (flatF st) ∧ Below B1 w1 wx))
        case first =>
          go_wp2_with fail
          go_loopg [16] M (fun g v16 wr => ∃ i : Nat, i ≤ M ∧ g = M - i ∧ v16 = .int .i64 i ∧ Hid ((∃ cu, Arr wr gm 4 cu ∧ cu.length = M ∧ ∀ q, i ≤ q → cu[q]? = (moreL keep)[q]?) ∧ Arr wr gn 4 (moreL keep) ∧ DiskAt wr D' (Dk.memY fl nn keep) ∧ wr.ownsRow B7 42 2 vs st.length (flatF st) ∧ Below B1 w1 wr ∧ B7 ≤ wr.heap.size))
          case atStart => exact ⟨0, Nat.zero_le _, rfl, rfl, HR8.out.1, HR8.out.2.1, HR8.out.2.2.1, HR8.out.2.2.2.1, HR8.out.2.2.2.2, HGB.out.2⟩
          case round =>
            obtain ⟨i, hi, rfl, rfl, HR⟩ := hrel
            by_cases hlt : i < M
            · have hil : (i : Int) < M := by omega
              obtain ⟨cu, hcu, hcs, hcq⟩ := HR.out.1
              obtain ⟨bb, hbbs⟩ : ∃ b, (moreL keep)[i]? = some (.bool b) := by
                unfold moreL
                rw [List.getElem?_map]
                refine ⟨(keep ++ [true, false, true, false, true])[i]'(by have := HM.out.1; simp; omega), ?_⟩
                rw [List.getElem?_eq_getElem (by have := HM.out.1; simp; omega)]; rfl
              have R1 := hide (show gm < wr.heap.size ∧ wr.cell? ⟨gm, i, none⟩ = some (.bool bb) from ⟨hcu.lt, arr_get hcu ((hcq i (Nat.le_refl _)).trans hbbs)⟩)
              have R2 := hide (show gn < wr.heap.size ∧ wr.cell? ⟨gn, i, none⟩ = some (.bool bb) from ⟨HR.out.2.1.lt, arr_get HR.out.2.1 hbbs⟩)
              have HCU := hide (And.intro hcu (And.intro hcs hcq))
              clear hcu hcs hcq hbbs
              go_upto_region 31 with (fail)
              go_cut [159] from 151 to 159 (fun v159 wx => Hid (v159 = .bool false ∧ Below wr.heap.size wr wx))
              case first =>
-- REGION mem4
                
                refine wp_region_local (by kernel_rfl) (by kernel_rfl) (useList mem4U) [8] (by kernel_rfl) (spR (mem4L gm gn capm capn M i bb)) (fun _ _ => True) (Below wr.heap.size wr) (fun _ w w' => Below w.heap.size w w') spR_stays (fun _ _ _ _ _ h _ => h) (fun _ _ => Below.refl _ _) (dsts_lt (N := 316) (by kernel_rfl)) ((Below.refl _ _).drew) (fun _ _ => trivial) (all_ops ?_) ?_
                · refine And.intro ?_ ?_
                  · -- 0: slot 151 := Op.move (Operand.tmp 13)
                    refine lstep_run fun fr wf left => ?_
                    have o13 := (left.old 13 (by kernel_rfl)).trans rfl
                    refine ⟨wanted_none rfl, fun K hK => ?_⟩
                    have hB := hide left.base
                    clear left
                    go_simp
                    exact hK _ _ rfl hB.out (Below.refl _ _)
                  refine And.intro ?_ ?_
                  · -- 1: slot 152 := Op.move (Operand.tmp 16)
                    refine lstep_run fun fr wf left => ?_
                    have o16 := (left.old 16 (by kernel_rfl)).trans rfl
                    refine ⟨wanted_none rfl, fun K hK => ?_⟩
                    have hB := hide left.base
                    clear left
                    go_simp
                    exact hK _ _ rfl hB.out (Below.refl _ _)
                  refine And.intro ?_ ?_
                  · -- 2: slot 153 := Op.indexAddr 28 (Operand.tmp 151) (Operand.tmp 152)
                    refine lstep_run fun fr wf left => ?_
                    obtain ⟨x0, e0, r0⟩ := left.slot 316 rfl 0 151 _ rfl rfl (by decide) rfl
                    have s0 := Eq.symm (show x0 = .slice (some ⟨gm, 0, none⟩) M capm from r0)
                    subst s0
                    obtain ⟨x1, e1, r1⟩ := left.slot 316 rfl 1 152 _ rfl rfl (by decide) rfl
                    have s1 := Eq.symm (show x1 = .int .i64 (i : Int) from r1)
                    subst s1
                    refine ⟨wanted_none rfl, fun K hK => ?_⟩
                    have hB := hide left.base
                    clear left
                    go_simp
                    exact hK _ _ rfl hB.out (Below.refl _ _)
                  refine And.intro ?_ ?_
                  · -- 3: slot 154 := Op.load 4 (Operand.tmp 153)
                    refine lstep_run fun fr wf left => ?_
                    obtain ⟨x2, e2, r2⟩ := left.slot 316 rfl 2 153 _ rfl rfl (by decide) rfl
                    have s2 := Eq.symm (show x2 = .pointer (some ⟨gm, i, none⟩) from r2)
                    subst s2
                    refine ⟨wanted_none rfl, fun K hK => ?_⟩
                    have hB := hide left.base
                    have hc := (hB.out.cell (p := ⟨gm, i, none⟩) R1.out.1).trans R1.out.2
                    clear left
                    go_simp
                    exact hK _ _ rfl hB.out (Below.refl _ _)
                  refine And.intro ?_ ?_
                  · -- 4: slot 155 := Op.move (Operand.tmp 14)
                    refine lstep_run fun fr wf left => ?_
                    have o14 := (left.old 14 (by kernel_rfl)).trans rfl
                    refine ⟨wanted_none rfl, fun K hK => ?_⟩
                    have hB := hide left.base
                    clear left
                    go_simp
                    exact hK _ _ rfl hB.out (Below.refl _ _)
                  refine And.intro ?_ ?_
                  · -- 5: slot 156 := Op.move (Operand.tmp 16)
                    refine lstep_run fun fr wf left => ?_
                    have o16 := (left.old 16 (by kernel_rfl)).trans rfl
                    refine ⟨wanted_none rfl, fun K hK => ?_⟩
                    have hB := hide left.base
                    clear left
                    go_simp
                    exact hK _ _ rfl hB.out (Below.refl _ _)
                  refine And.intro ?_ ?_
                  · -- 6: slot 157 := Op.indexAddr 28 (Operand.tmp 155) (Operand.tmp 156)
                    refine lstep_run fun fr wf left => ?_
                    obtain ⟨x4, e4, r4⟩ := left.slot 316 rfl 4 155 _ rfl rfl (by decide) rfl
                    have s4 := Eq.symm (show x4 = .slice (some ⟨gn, 0, none⟩) M capn from r4)
                    subst s4
                    obtain ⟨x5, e5, r5⟩ := left.slot 316 rfl 5 156 _ rfl rfl (by decide) rfl
                    have s5 := Eq.symm (show x5 = .int .i64 (i : Int) from r5)
                    subst s5
                    refine ⟨wanted_none rfl, fun K hK => ?_⟩
                    have hB := hide left.base
                    clear left
                    go_simp
                    exact hK _ _ rfl hB.out (Below.refl _ _)
                  refine And.intro ?_ ?_
                  · -- 7: slot 158 := Op.load 4 (Operand.tmp 157)
                    refine lstep_run fun fr wf left => ?_
                    obtain ⟨x6, e6, r6⟩ := left.slot 316 rfl 6 157 _ rfl rfl (by decide) rfl
                    have s6 := Eq.symm (show x6 = .pointer (some ⟨gn, i, none⟩) from r6)
                    subst s6
                    refine ⟨wanted_none rfl, fun K hK => ?_⟩
                    have hB := hide left.base
                    have hc := (hB.out.cell (p := ⟨gn, i, none⟩) R2.out.1).trans R2.out.2
                    clear left
                    go_simp
                    exact hK _ _ rfl hB.out (Below.refl _ _)
                  refine And.intro ?_ ?_
                  · -- 8: slot 159 := Op.binOp BinOp.neq 4 (Operand.tmp 154) (Operand.tmp 158) 4
                    refine lstep_run fun fr wf left => ?_
                    obtain ⟨x3, e3, r3⟩ := left.slot 316 rfl 3 154 _ rfl rfl (by decide) rfl
                    have s3 := Eq.symm (show x3 = .bool bb from r3)
                    subst s3
                    obtain ⟨x7, e7, r7⟩ := left.slot 316 rfl 7 158 _ rfl rfl (by decide) rfl
                    have s7 := Eq.symm (show x7 = .bool bb from r7)
                    subst s7
                    refine ⟨wanted_none rfl, fun K hK => ?_⟩
                    have hB := hide left.base
                    clear left
                    go_simp
                    exact hK _ _ rfl hB.out (Below.refl _ _)
                  exact trivial
                · intro fr wf hB hs hd hall hkeep
                  have h159 : fr.tmps.getD 159 undef = .bool false := hall 8 _ rfl (by simp)
                  have hfr := act_ext (frame_setL hs hkeep [151, 152, 153, 154, 155, 156, 157, 158, 159] (by kernel_rfl)) hd
                  clear hall hkeep hs hd
                  dsimp only [List.foldl, List.set_cons_zero, List.set_cons_succ] at hfr
                  generalize fr.tmps.getD 151 undef = q151 at hfr
                  generalize fr.tmps.getD 152 undef = q152 at hfr
                  generalize fr.tmps.getD 153 undef = q153 at hfr
                  generalize fr.tmps.getD 154 undef = q154 at hfr
                  generalize fr.tmps.getD 155 undef = q155 at hfr
                  generalize fr.tmps.getD 156 undef = q156 at hfr
                  generalize fr.tmps.getD 157 undef = q157 at hfr
                  generalize fr.tmps.getD 158 undef = q158 at hfr
                  generalize fr.tmps.getD 159 undef = q159 at hfr h159
                  subst hfr
                  subst h159
                  have HBF := hide hB
                  clear hB
                  go_wp2_with fail
                  go_meet
                  case rel => exact ⟨rfl, HBF.out⟩
                -- END REGION mem4
              case rest =>
                obtain ⟨h159, hb7⟩ := hcut.out
                subst h159
                have HB9 := hide hb7
                have hiu : i < cu.length := by have := HCU.out.2.1; omega
                have hc0 : wc.cell? ⟨gm, i, none⟩ = some (.bool bb) := (hb7.cell (p := ⟨gm, i, none⟩) R1.out.1).trans R1.out.2
                have hf0 : wc.frozen? ⟨gm, i, none⟩ = false := (HCU.out.1.past hb7).frozen i hiu
                clear hcut hb7
                go_wp2_with fail
                clear hc0 hf0
                go_roundg (M - (i + 1))
                case measure => omega
                case rel =>
                  have hmv : Moved (fun k => k = gm) wc (wc.setCell ⟨gm, i, none⟩ (.bool !bb)) := (Moved.refl (fun k => k = gm) wc).setCell (a := ⟨gm, i, none⟩) rfl _
                  have h1 := HDN.out
                  have h2 := HDK.out
                  have h3 := HGB.out
                  have h4 := HB9.out.size
                  have h5 := HR.out.2.2.2.2.2
                  refine ⟨i + 1, by omega, rfl, by go_num, ⟨_, (HCU.out.1.past HB9.out).set i hiu (.bool !bb), by rw [List.length_set]; exact HCU.out.2.1, fun q hq => ?_⟩, (HR.out.2.1.past HB9.out).moved hmv (by omega), (HR.out.2.2.1.past HB9.out).stay hmv ⟨by omega, by omega, fun k hk => by have := h2.2.2 k hk; omega⟩, own_moved (own_below HR.out.2.2.2.1 HB9.out) hmv (fun k hk _ => by omega), (HR.out.2.2.2.2.1.trans (HB9.out.mono (by rw [HBQ.out.1]; exact HR.out.2.2.2.2.1.size))).trans (hmv.below (by have := HR.out.2.2.2.2.1.size; have := HBQ.out.1; omega) (fun k e => by subst e; have := HM.out.2.1; have := HB4.out; have := HK.out.2.size; have := HBQ.out.1; omega)), by have := hmv.size; omega⟩
                  rw [← HCU.out.2.2 q (by omega), List.getElem?_set_ne (by omega)]
            · obtain rfl : i = M := by omega
              clear hlt
              go_wp2_with fail
              go_meet
              case rel => exact ⟨HR.out.2.2.1, HR.out.2.2.2.1, HR.out.2.2.2.2.1⟩
        case rest =>
          have HY := hide hcut.out
          clear hcut
          obtain ⟨ft, hft⟩ : ∃ l, l = Dk.files (Dk.memY fl nn keep) := ⟨_, rfl⟩
          obtain ⟨LF, hLF⟩ : ∃ k, k = ft.length := ⟨_, rfl⟩
          have hLF2 : LF = max nn 1 := by rw [hLF, hft]; exact Dk.mem_len fl HNN.out.1 keep
          have hLF12 : 1 ≤ LF ∧ LF ≤ 12 ∧ (LF = nn ∨ LF = 1) := by have := HNN.out; omega
          have HFT := hide (And.intro hft (And.intro hLF hLF2))
          clear hft hLF hLF2
          obtain ⟨LS, hLS⟩ : ∃ k, k = st.length := ⟨_, rfl⟩
          have hLS12 : LS ≤ 12 := by omega
          have HLS := hide hLS
          clear hLS hst12
          obtain ⟨b0, hb0⟩ : ∃ b, b = wc.heap.size := ⟨_, rfl⟩
          have HB0 := hide hb0
          clear hb0
          go_wp2_with fail
          refine (diskFiles_any D' (Dk.memY fl nn keep) _ HY.out.1).mono ?_
          rintro e wa1 ⟨va1, rfl, hown, hb⟩
          rw [← HFT.out.1, ← HFT.out.2.1, ← HB0.out] at hown
          obtain ⟨aa1, ca1, rfl⟩ := own_form hown
          have HA1 := hide (And.intro hown (And.intro hb (HY.out.1.past hb)))
          clear hown hb
          obtain ⟨b1, hb1⟩ : ∃ b, b = wa1.heap.size := ⟨_, rfl⟩
          have HB1' := hide hb1
          clear hb1
          go_wp2_with fail
          refine (diskFiles_any D' (Dk.memY fl nn keep) _ HA1.out.2.2).mono ?_
          rintro e wa2 ⟨va2, rfl, hown, hb⟩
          rw [← HFT.out.1, ← HFT.out.2.1, ← HB1'.out] at hown
          obtain ⟨aa2, ca2, rfl⟩ := own_form hown
          have HA2 := hide (And.intro hown (And.intro hb (HA1.out.2.2.past hb)))
          clear hown hb
          obtain ⟨b2, hb2⟩ : ∃ b, b = wa2.heap.size := ⟨_, rfl⟩
          have HB2' := hide hb2
          clear hb2
          have HBK2 := hide (show Below w.heap.size w wa2 from by
            have h1 := HB1.out.trans (HY.out.2.2.mono HBQ.out.2)
            have h2 := h1.trans (HA1.out.2.1.mono h1.size)
            exact h2.trans (HA2.out.2.1.mono h2.size))
          go_wp2_with fail
          refine (diskAfter_any D' (Dk.memY fl nn keep) _ keep _ HA2.out.2.2 (H2.out.below HBK2.out) HKL.out).mono ?_
          rintro e wa3 ⟨va3, rfl, hown, hb⟩
          rw [← HST.out, ← HLS.out, ← HB2'.out] at hown
          obtain ⟨aa3, ca3, rfl⟩ := own_form hown
          have HA3 := hide (And.intro hown (And.intro hb (HA2.out.2.2.past hb)))
          clear hown hb
          obtain ⟨b3, hb3⟩ : ∃ b, b = wa3.heap.size := ⟨_, rfl⟩
          have HB3' := hide hb3
          clear hb3
          go_wp2_with fail
          refine (diskAfter_any D' (Dk.memY fl nn keep) _ keep _ HA3.out.2.2 (H2.out.below (HBK2.out.trans (HA3.out.2.1.mono HBK2.out.size))) HKL.out).mono ?_
          rintro e wa4 ⟨va4, rfl, hown, hb⟩
          rw [← HST.out, ← HLS.out, ← HB3'.out] at hown
          obtain ⟨aa4, ca4, rfl⟩ := own_form hown
          have HA4 := hide (And.intro hown (And.intro hb (HA3.out.2.2.past hb)))
          clear hown hb
          obtain ⟨b4, hb4⟩ : ∃ b, b = wa4.heap.size := ⟨_, rfl⟩
          have HB4' := hide hb4
          clear hb4
          have HAL4 := hide (show wa4.ownsRow b0 42 2 (.slice aa1 LF ca1) LF (flatF ft) ∧ wa4.ownsRow b1 42 2 (.slice aa2 LF ca2) LF (flatF ft) ∧ wa4.ownsRow b2 42 2 (.slice aa3 LS ca3) LS (flatF st) ∧ wa4.ownsRow b3 42 2 (.slice aa4 LS ca4) LS (flatF st) ∧ wa4.ownsRow B7 42 2 vs LS (flatF st) ∧ Below B1 w1 wa4 from by
            have h2 := HA4.out.2.1
            have h1 := HA3.out.2.1.trans (h2.mono HA3.out.2.1.size)
            have h0 := HA2.out.2.1.trans (h1.mono HA2.out.2.1.size)
            have hz := HA1.out.2.1.trans (h0.mono HA1.out.2.1.size)
            exact ⟨own_below HA1.out.1 h0, own_below HA2.out.1 h1, own_below HA3.out.1 h2, HA4.out.1, own_below (HLS.out ▸ HY.out.2.1) hz, HY.out.2.2.trans (hz.mono (by rw [HBQ.out.1]; exact HY.out.2.2.size))⟩)
          go_wp2_with fail
          refine (same_val _ _ ft ft true _ (slf_own HAL4.out.1 HFT.out.2.1) (slf_own HAL4.out.2.1 HFT.out.2.1) (by rw [← HFT.out.2.1]; omega) (by rw [← HFT.out.2.1]; omega) (decide_eq_true rfl)).mono ?_
          rintro e ws1 ⟨rfl, hb⟩
          have HS1 := hide hb
          clear hb
          go_wp2_with fail
          refine (same_val _ _ st st true _ (slf_own (own_below HAL4.out.2.2.1 HS1.out) HLS.out) (slf_own (own_below HAL4.out.2.2.2.1 HS1.out) HLS.out) (by rw [← HLS.out]; omega) (by rw [← HLS.out]; omega) (decide_eq_true rfl)).mono ?_
          rintro e ws2 ⟨rfl, hb⟩
          have HS2 := hide (HS1.out.trans (hb.mono HS1.out.size))
          clear hb
          go_wp2_with fail
          refine (same_val _ _ st st true _ (slf_own (own_below HAL4.out.2.2.1 HS2.out) HLS.out) (slf_own (own_below HAL4.out.2.2.2.2.1 HS2.out) HLS.out) (by rw [← HLS.out]; omega) (by rw [← HLS.out]; omega) (decide_eq_true rfl)).mono ?_
          rintro e ws3 ⟨rfl, hb⟩
          have HS3 := hide (HS2.out.trans (hb.mono HS2.out.size))
          clear hb
          have hne : ((LF : Int) != max (nn : Int) 1) = false := by
            have h := HFT.out.2.2
            have e : (LF : Int) = max (nn : Int) 1 := by omega
            rw [e]; simp
          obtain ⟨ba, hba⟩ : ∃ b, b = ws3.heap.size := ⟨_, rfl⟩
          obtain ⟨V, hV⟩ : ∃ V : Nat → Value, V = quad (.slice aa1 LF ca1) (.slice aa2 LF ca2) (.slice aa3 LS ca3) (.slice aa4 LS ca4) := ⟨_, rfl⟩
          obtain ⟨nf, hnf⟩ : ∃ n : Nat → Nat, n = quad LF LF LS LS := ⟨_, rfl⟩
          obtain ⟨BB, hBB⟩ : ∃ B : Nat → Nat, B = quin b0 b1 b2 b3 b4 := ⟨_, rfl⟩
          have HBA := hide hba
          have HVV := hide (And.intro hV (And.intro hnf hBB))
          clear hba hV hnf hBB
          have four : ∀ P : Nat → Prop, P 0 → P 1 → P 2 → P 3 → ∀ k, k < 4 → P k := by
            intro P h0 h1 h2 h3 k hk
            have : k = 0 ∨ k = 1 ∨ k = 2 ∨ k = 3 := by omega
            rcases this with rfl | rfl | rfl | rfl
            · exact h0
            · exact h1
            · exact h2
            · exact h3
          have HFOUR := hide four
          clear four
          have HUP := hide (show UpB BB from by
            rw [HVV.out.2.2]
            refine HFOUR.out _ ?_ ?_ ?_ ?_
            · show b0 ≤ b1; rw [HB0.out, HB1'.out]; exact HA1.out.2.1.size
            · show b1 ≤ b2; rw [HB1'.out, HB2'.out]; exact HA2.out.2.1.size
            · show b2 ≤ b3; rw [HB2'.out, HB3'.out]; exact HA3.out.2.1.size
            · show b3 ≤ b4; rw [HB3'.out, HB4'.out]; exact HA4.out.2.1.size)
          have HROW := hide (show Rows ws3 BB 42 V nf (fun _ => 0) from by
            rw [HVV.out.1, HVV.out.2.1, HVV.out.2.2]
            refine Rows.past (w := wa4) ?_ HS3.out
            refine HFOUR.out _ ?_ ?_ ?_ ?_
            · exact ⟨_, HAL4.out.1, fun q hq => absurd hq (Nat.not_lt_zero _)⟩
            · exact ⟨_, HAL4.out.2.1, fun q hq => absurd hq (Nat.not_lt_zero _)⟩
            · exact ⟨_, HAL4.out.2.2.1, fun q hq => absurd hq (Nat.not_lt_zero _)⟩
            · exact ⟨_, HAL4.out.2.2.2.1, fun q hq => absurd hq (Nat.not_lt_zero _)⟩)
          have HAPT := hide (show ApartB BB V from by
            rw [HVV.out.1, HVV.out.2.2]
            refine HFOUR.out _ ?_ ?_ ?_ ?_
            · intro b hb; show b < b1; rw [HB1'.out]; exact (HA1.out.1.lt b hb).2
            · intro b hb; show b < b2; rw [HB2'.out]; exact (HA2.out.1.lt b hb).2
            · intro b hb; show b < b3; rw [HB3'.out]; exact (HA3.out.1.lt b hb).2
            · intro b hb; show b < b4; rw [HB4'.out]; exact (HA4.out.1.lt b hb).2)
          have HFORM := hide (show ∀ k, k < 4 → nf k ≤ 12 ∧ (∃ ad cap, V k = .slice ad (nf k) cap) ∧ ∀ b, (V k).ownBlock = some b → BB k ≤ b from fun k hk => ⟨by
              rw [HVV.out.2.1]
              refine HFOUR.out (fun k => quad LF LF LS LS k ≤ 12) ?_ ?_ ?_ ?_ k hk
              · exact hLF12.2.1
              · exact hLF12.2.1
              · exact hLS12
              · exact hLS12, by
              rw [HVV.out.1, HVV.out.2.1]
              exact HFOUR.out (fun k => ∃ ad cap, quad (Value.slice aa1 LF ca1) (.slice aa2 LF ca2) (.slice aa3 LS ca3) (.slice aa4 LS ca4) k = .slice ad (quad LF LF LS LS k) cap) ⟨_, _, rfl⟩ ⟨_, _, rfl⟩ ⟨_, _, rfl⟩ ⟨_, _, rfl⟩ k hk, fun b hb => ((HROW.out k hk).blk hb).1⟩)
          have HZN := hide (show D'.g < b0 ∧ D'.mb < b0 ∧ (∀ k, Dk.slBlk D'.kv = some k → k < b0) ∧ (∀ b, vs.ownBlock = some b → b < b0) ∧ b4 ≤ ba ∧ B1 ≤ b0 ∧ b0 ≤ b4 ∧ B1 = w1.heap.size from by
            have h1 := HUP.out.le (a := 0) 4 (by decide) (Nat.le_refl _)
            rw [HVV.out.2.2] at h1
            refine ⟨by rw [HB0.out]; exact HY.out.1.glt, by rw [HB0.out]; exact HY.out.1.map.lt, fun k hk => by rw [HB0.out]; exact HY.out.1.keep.blk_lt hk, fun b hb => by rw [HB0.out]; exact (HY.out.2.1.lt b hb).2, by rw [HBA.out, HB4'.out]; exact HS3.out.size, by rw [HB0.out, HBQ.out.1]; exact HY.out.2.2.size, h1, HBQ.out.1⟩)
          have HMK := hide (show MemK ba V D' (Dk.memY fl nn keep) w1 B1 B7 LS b4 vs st (ws3.alloc (.cells #[.slice aa1 LF ca1, .slice aa2 LF ca2, .slice aa3 LS ca3, .slice aa4 LS ca4] 40)) from by
            have hb : Below wa4.heap.size wa4 (ws3.alloc (.cells #[.slice aa1 LF ca1, .slice aa2 LF ca2, .slice aa3 LS ca3, .slice aa4 LS ca4] 40)) := HS3.out.alloc HS3.out.size _
            refine ⟨?_, HA4.out.2.2.past hb, own_below HAL4.out.2.2.2.2.1 hb, HAL4.out.2.2.2.2.2.trans (hb.mono (by rw [HBQ.out.1]; exact HAL4.out.2.2.2.2.2.size)), by rw [HB4'.out]; exact hb.size⟩
            rw [HBA.out, HVV.out.1]
            exact alloc_at _ _)
          go_upto_block 8 with (fail)
          rw [← HBA.out]
          go_cut [22, 23] from 206 to 229 (fun v22 v23 wx => Hid (Rows wx BB 42 V nf nf ∧ MemK ba V D' (Dk.memY fl nn keep) w1 B1 B7 LS b4 vs st wx))
          case first =>
            go_wp2_with fail
            go_loopg [22] 4 (fun g v22 wr => ∃ i : Nat, i ≤ 4 ∧ g = 4 - i ∧ v22 = .int .i64 i ∧ Hid (Rows wr BB 42 V nf (fun k => if k < i then nf k else 0) ∧ MemK ba V D' (Dk.memY fl nn keep) w1 B1 B7 LS b4 vs st wr))
            case atStart => exact ⟨0, Nat.zero_le _, rfl, rfl, (HROW.out.past ((Below.refl _ _).alloc (Nat.le_refl _) _)).mono fun k hk => by rw [if_neg (by omega)]; exact Nat.le_refl _, HMK.out⟩
            case round =>
              obtain ⟨i, hi, rfl, rfl, HR⟩ := hrel
              by_cases hlt : i < 4
              · have hil : (i : Int) < 4 := by omega
                obtain ⟨N, hN⟩ : ∃ N, N = nf i := ⟨_, rfl⟩
                have hN12 : N ≤ 12 := by rw [hN]; exact (HFORM.out i hlt).1
                have HNF := hide hN
                clear hN
                go_upto_block 10 with (fail)
                go_wp2_with fail
                go_loopg [23] N (fun g v23 wr => ∃ j : Nat, j ≤ N ∧ g = N - j ∧ v23 = .int .i64 j ∧ Hid (Rows wr BB 42 V nf (fun k => if k < i then nf k else if k = i then j else 0) ∧ MemK ba V D' (Dk.memY fl nn keep) w1 B1 B7 LS b4 vs st wr))
                case atStart => exact ⟨0, Nat.zero_le _, rfl, rfl, HR.out.1.mono fun k hk => by split <;> (try split) <;> omega, HR.out.2⟩
                case round =>
                  obtain ⟨j, hj, rfl, rfl, HQ⟩ := hrel
                  by_cases hjt : j < N
                  · have hjl : (j : Int) < N := by omega
                    obtain ⟨xs, hxs, _⟩ := HQ.out.1 i hlt
                    rw [← HNF.out] at hxs
                    obtain ⟨gi, cap, cur, hvi, _, _, hnc, _, _, _⟩ := own_pos hxs (by omega)
                    have HVI := hide (And.intro hvi (show wr.ownsRow (BB i) 42 2 (.slice (some ⟨gi, 0, none⟩) N cap) N xs by rw [← hvi]; exact hxs))
                    have HGB := hide (show b0 ≤ gi ∧ gi < b4 from by
                      have h1 := (HFORM.out i hlt).2.2 gi (by rw [hvi]; rfl)
                      have h2 := HAPT.out i hlt gi (by rw [hvi]; rfl)
                      have h3 := HUP.out.le (a := 0) i (by omega) (by omega)
                      have h4 := HUP.out.le (a := i + 1) 4 (by omega) (by omega)
                      rw [HVV.out.2.2] at h1 h2 h3 h4
                      exact ⟨Nat.le_trans h3 h1, Nat.lt_of_lt_of_le h2 h4⟩)
                    clear hxs hvi
                    have hcv : wr.cell? ⟨ba, i, none⟩ = some (.slice (some ⟨gi, 0, none⟩) N cap) := by rw [quad_cell HQ.out.2.all hlt, HVI.out.1]
                    obtain ⟨mf, hmf⟩ : ∃ f : Nat → Nat, f = fun k => if k < i then nf k else if k = i then j + 1 else 0 := ⟨_, rfl⟩
                    have HC := hide (show ∀ u, Moved (fun k => k = gi) wr u → u.cell? ⟨ba, i, none⟩ = some (.slice (some ⟨gi, 0, none⟩) N cap) from by
                      intro u hm
                      have hh := hm.block ba (heap_lt HQ.out.2.all) (fun e => by have e : ba = gi := e; have := HGB.out; have := HZN.out.2.2.2.2.1; omega)
                      rw [← hcv]
                      unfold World.cell?
                      simp only [hh])
                    have HTH := hide (show ∀ u, Below wr.heap.size wr u → u.there gi (j * 2) 2 from fun u hb => own_there (own_below HVI.out.2 hb) hjt)
                    have HNM := hide (show ∀ u, Below wr.heap.size wr u → Rows (u.setCells gi (j * 2) [.string (nmK i), .string ⟨#[]⟩]) BB 42 V nf mf from by
                      intro u hb
                      have h := rows_name (HQ.out.1.past hb) HAPT.out HUP.out (i := i) (g := gi) (cap := cap) (j := j) hlt (by rw [← HNF.out]; exact HVI.out.1) (by simp) (by rw [← HNF.out]; exact hjt) (.string ⟨#[]⟩)
                      rw [hmf]
                      refine h.mono fun k hk => ?_
                      split <;> split <;> (try split) <;> omega)
                    have HMF := hide hmf
                    clear hmf
                    go_upto_region 44 with (fail)
                    clear hcv
-- REGION mem5
                    
                    refine wp_region_local (by kernel_rfl) (by kernel_rfl) (useList mem5U) [11] (by kernel_rfl) (spR (mem5L V BB nf mf ba gi cap N i j)) (onePre 11 (fun u => Below wr.heap.size wr u)) (Moved (fun k => k = gi) wr) (oneE 11 (fun _ _ => True)) (one_stays (by simp [mem5L]) (by kernel_rfl)) (one_pre (fun _ _ h hb => h.trans (hb.mono h.size))) (one_refl (fun _ => trivial)) (dsts_lt (N := 316) (by kernel_rfl)) ((Moved.refl _ _).drew) (fun _ _ => one_start ((Below.refl _ _).drew)) (all_ops ?_) ?_
                    · refine And.intro ?_ ?_
                      · -- 0: slot 219 := Op.move (Operand.tmp 21)
                        refine lstep_run fun fr wf left => ?_
                        have o21 := (left.old 21 (by kernel_rfl)).trans rfl
                        refine ⟨wanted_none rfl, fun K hK => ?_⟩
                        have hB := hide left.base
                        clear left
                        go_simp
                        exact hK _ _ rfl hB.out (one_refl (fun _ => trivial) _ _)
                      refine And.intro ?_ ?_
                      · -- 1: slot 220 := Op.move (Operand.tmp 22)
                        refine lstep_run fun fr wf left => ?_
                        have o22 := (left.old 22 (by kernel_rfl)).trans rfl
                        refine ⟨wanted_none rfl, fun K hK => ?_⟩
                        have hB := hide left.base
                        clear left
                        go_simp
                        exact hK _ _ rfl hB.out (one_refl (fun _ => trivial) _ _)
                      refine And.intro ?_ ?_
                      · -- 2: slot 221 := Op.indexAddr 75 (Operand.tmp 219) (Operand.tmp 220)
                        refine lstep_run fun fr wf left => ?_
                        obtain ⟨x0, e0, r0⟩ := left.slot 316 rfl 0 219 _ rfl rfl (by decide) rfl
                        have s0 := Eq.symm (show x0 = .slice (some ⟨ba, 0, none⟩) 4 4 from r0)
                        subst s0
                        obtain ⟨x1, e1, r1⟩ := left.slot 316 rfl 1 220 _ rfl rfl (by decide) rfl
                        have s1 := Eq.symm (show x1 = .int .i64 (i : Int) from r1)
                        subst s1
                        refine ⟨wanted_none rfl, fun K hK => ?_⟩
                        have hB := hide left.base
                        clear left
                        go_simp
                        exact hK _ _ rfl hB.out (one_refl (fun _ => trivial) _ _)
                      refine And.intro ?_ ?_
                      · -- 3: slot 222 := Op.load 40 (Operand.tmp 221)
                        refine lstep_run fun fr wf left => ?_
                        obtain ⟨x2, e2, r2⟩ := left.slot 316 rfl 2 221 _ rfl rfl (by decide) rfl
                        have s2 := Eq.symm (show x2 = .pointer (some ⟨ba, i, none⟩) from r2)
                        subst s2
                        refine ⟨wanted_none rfl, fun K hK => ?_⟩
                        have hB := hide left.base
                        have hc := HC.out _ hB.out
                        clear left
                        go_simp
                        exact hK _ _ rfl hB.out (one_refl (fun _ => trivial) _ _)
                      refine And.intro ?_ ?_
                      · -- 4: slot 223 := Op.move (Operand.tmp 23)
                        refine lstep_run fun fr wf left => ?_
                        have o23 := (left.old 23 (by kernel_rfl)).trans rfl
                        refine ⟨wanted_none rfl, fun K hK => ?_⟩
                        have hB := hide left.base
                        clear left
                        go_simp
                        exact hK _ _ rfl hB.out (one_refl (fun _ => trivial) _ _)
                      refine And.intro ?_ ?_
                      · -- 5: slot 224 := Op.move (Operand.tmp 22)
                        refine lstep_run fun fr wf left => ?_
                        have o22 := (left.old 22 (by kernel_rfl)).trans rfl
                        refine ⟨wanted_none rfl, fun K hK => ?_⟩
                        have hB := hide left.base
                        clear left
                        go_simp
                        exact hK _ _ rfl hB.out (one_refl (fun _ => trivial) _ _)
                      refine And.intro ?_ ?_
                      · -- 6: slot 225 := Op.convert 3 5 (Operand.tmp 224)
                        refine lstep_run fun fr wf left => ?_
                        obtain ⟨x5, e5, r5⟩ := left.slot 316 rfl 5 224 _ rfl rfl (by decide) rfl
                        have s5 := Eq.symm (show x5 = .int .i64 (i : Int) from r5)
                        subst s5
                        refine ⟨wanted_none rfl, fun K hK => ?_⟩
                        have hB := hide left.base
                        clear left
                        go_simp
                        exact hK _ _ (congrArg (Value.int .u8) (by rw [IntKind.wrap_u8]; omega)) hB.out (one_refl (fun _ => trivial) _ _)
                      refine And.intro ?_ ?_
                      · -- 7: slot 226 := Op.buildSlice 56 1 #[(0, Operand.tmp 225)]
                        refine lstep_run fun fr wf left => ?_
                        obtain ⟨x6, e6, r6⟩ := left.slot 316 rfl 6 225 _ rfl rfl (by decide) rfl
                        have s6 := Eq.symm (show x6 = .int .u8 (i : Int) from r6)
                        subst s6
                        refine ⟨wanted_none rfl, fun K hK => ?_⟩
                        have hB := hide left.base
                        clear left
                        go_simp
                        exact hK _ _ ⟨_, rfl, alloc_at _ _⟩ (hB.out.alloc _) (one_else (by decide) ((Below.refl _ _).alloc (Nat.le_refl _) _))
                      refine And.intro ?_ ?_
                      · -- 8: slot 227 := Op.convert 56 9 (Operand.tmp 226)
                        refine lstep_run fun fr wf left => ?_
                        obtain ⟨x7, e7, r7⟩ := left.slot 316 rfl 7 226 _ rfl rfl (by decide) rfl
                        replace r7 : (fun v u => ∃ B, v = .slice (some ⟨B, 0, none⟩) 1 1 ∧ u.heap[B]? = some (.cells #[.int .u8 (i : Int)] 5 (0, 0))) x7 wf := r7
                        refine ⟨wanted_none rfl, fun K hK => ?_⟩
                        have hB := hide left.base
                        clear left
                        obtain ⟨BB, hx, hbb4⟩ := r7
                        subst hx
                        have hcv := run_bytes_string (P := Try.prog) (w := wf) 56 9 5 Try.underlying56 Try.underlying5 Try.underlying9 (bs := [UInt8.ofNat i]) (by
                          have e : [Value.int .u8 (i : Int)] = [UInt8.ofNat i].map byteV := by
                            show _ = [Value.int .u8 (((UInt8.ofNat i).toNat : Nat) : Int)]
                            rw [UInt8.toNat_ofNat_of_lt' (by show i < 256; omega)]
                          rw [← e]; exact slv_blk hbb4 1 rfl)
                        go_simp
                        exact hK _ _ (congrArg Value.string (by simp [nmK])) hB.out (one_refl (fun _ => trivial) _ _)
                      refine And.intro ?_ ?_
                      · -- 9: slot 228 := Op.build 42 #[(0, Operand.tmp 227)]
                        refine lstep_run fun fr wf left => ?_
                        obtain ⟨x8, e8, r8⟩ := left.slot 316 rfl 8 227 _ rfl rfl (by decide) rfl
                        have s8 := Eq.symm (show x8 = .string (nmK i) from r8)
                        subst s8
                        refine ⟨wanted_none rfl, fun K hK => ?_⟩
                        have hB := hide left.base
                        clear left
                        go_simp
                        exact hK _ _ rfl hB.out (one_refl (fun _ => trivial) _ _)
                      refine And.intro ?_ ?_
                      · -- 10: slot 229 := Op.indexAddr 40 (Operand.tmp 222) (Operand.tmp 223)
                        refine lstep_run fun fr wf left => ?_
                        obtain ⟨x3, e3, r3⟩ := left.slot 316 rfl 3 222 _ rfl rfl (by decide) rfl
                        have s3 := Eq.symm (show x3 = .slice (some ⟨gi, 0, none⟩) N cap from r3)
                        subst s3
                        obtain ⟨x4, e4, r4⟩ := left.slot 316 rfl 4 223 _ rfl rfl (by decide) rfl
                        have s4 := Eq.symm (show x4 = .int .i64 (j : Int) from r4)
                        subst s4
                        refine ⟨wanted_none rfl, fun K hK => ?_⟩
                        have hB := hide left.base
                        clear left
                        go_simp
                        exact hK _ _ rfl hB.out (one_refl (fun _ => trivial) _ _)
                      refine And.intro ?_ ?_
                      · -- 11: slot None := Op.store 42 (Operand.tmp 229) (Operand.tmp 228)
                        refine lstep_run fun fr wf left => ?_
                        obtain ⟨x9, e9, r9⟩ := left.slot 316 rfl 9 228 _ rfl rfl (by decide) rfl
                        have s9 := Eq.symm (show x9 = .agg #[.string (nmK i), .string ⟨#[]⟩] from r9)
                        subst s9
                        obtain ⟨x10, e10, r10⟩ := left.slot 316 rfl 10 229 _ rfl rfl (by decide) rfl
                        have s10 := Eq.symm (show x10 = .pointer (some ⟨gi, j * 2, none⟩) from r10)
                        subst s10
                        refine ⟨wanted_none rfl, fun K hK => ?_⟩
                        have hB := hide left.base; have hP := hide (one_pre_at left.pre rfl)
                        clear left
                        refine wp_store_mid 42 (.tmp 229) (.tmp 228) rfl gi (j * 2) #[.string (nmK i), .string ⟨#[]⟩] (eval_tmp e10) (eval_tmp e9) (HTH.out _ hP.out) (by kernel_rfl) (by simp [Value.oneCell']) ?_
                        exact hK undef _ (HNM.out _ hP.out) (hB.out.then (moved_setCells wf gi (j * 2) _)) (one_at rfl)
                      exact trivial
                    · intro fr wf hB hs hd hall hkeep
                      have h11 : Rows wf BB 42 V nf mf := hall 11 _ rfl (by simp)
                      have hfr := act_ext (frame_setL hs hkeep [219, 220, 221, 222, 223, 224, 225, 226, 227, 228, 229] (by kernel_rfl)) hd
                      clear hall hkeep hs hd
                      dsimp only [List.foldl, List.set_cons_zero, List.set_cons_succ] at hfr
                      generalize fr.tmps.getD 219 undef = q219 at hfr
                      generalize fr.tmps.getD 220 undef = q220 at hfr
                      generalize fr.tmps.getD 221 undef = q221 at hfr
                      generalize fr.tmps.getD 222 undef = q222 at hfr
                      generalize fr.tmps.getD 223 undef = q223 at hfr
                      generalize fr.tmps.getD 224 undef = q224 at hfr
                      generalize fr.tmps.getD 225 undef = q225 at hfr
                      generalize fr.tmps.getD 226 undef = q226 at hfr
                      generalize fr.tmps.getD 227 undef = q227 at hfr
                      generalize fr.tmps.getD 228 undef = q228 at hfr
                      generalize fr.tmps.getD 229 undef = q229 at hfr
                      subst hfr
                      have H11 := hide (And.intro hB h11)
                      clear hB h11
                      go_wp2_with fail
                      go_roundg (N - (j + 1))
                      case measure => omega
                      case rel =>
                        have hmv := H11.out.1
                        refine ⟨j + 1, by omega, rfl, by go_num, by rw [← HMF.out]; exact H11.out.2, HQ.out.2.moved hmv HZN.out fun k e => .inl ?_⟩
                        have e : k = gi := e
                        rw [e]; exact HGB.out
                    -- END REGION mem5
                  · obtain rfl : j = N := by omega
                    have hVi := (HFORM.out i hlt).2.1
                    rw [← HNF.out] at hVi
                    obtain ⟨ad, cap, hvi⟩ := hVi
                    have HVI := hide hvi
                    have hcv : wr.cell? ⟨ba, i, none⟩ = some (.slice ad j cap) := by rw [quad_cell HQ.out.2.all hlt, hvi]
                    clear hvi hjt
                    go_wp2_with fail
                    clear hcv
                    go_roundg (4 - (i + 1))
                    case measure => omega
                    case rel =>
                      refine ⟨i + 1, by omega, rfl, by go_num, HQ.out.1.mono fun k hk => ?_, HQ.out.2⟩
                      have := HNF.out
                      split
                      · split
                        · exact Nat.le_refl _
                        · have e : k = i := by omega
                          subst e
                          rw [if_pos rfl]; omega
                      · exact Nat.zero_le _
              · obtain rfl : i = 4 := by omega
                clear hlt
                go_wp2_with fail
                go_meet
                case rel => exact ⟨HR.out.1.mono fun k hk => by rw [if_pos hk]; exact Nat.le_refl _, HR.out.2⟩
          case rest =>
            have HP2 := hide hcut.out
            clear hcut
            obtain ⟨bg, hbg⟩ : ∃ b, b = wc.heap.size := ⟨_, rfl⟩
            have HBGr := hide hbg
            clear hbg
            have hVb : ∀ k, k < 4 → ∀ b, (V k).ownBlock = some b → BB k ≤ b := fun k hk => (HFORM.out k hk).2.2
            have HVB := hide hVb
            clear hVb
            have HSTG := hide (show ∀ (G : Nat → Value) (m : Nat → Nat) (u u' : World), Grown u BB (bg + 1) 42 V G nf m → Below u.heap.size u u' → Grown u' BB (bg + 1) 42 V G nf m from fun G m u u' h hb => h.past HUP.out HAPT.out HVB.out hb)
            have HZ2 := hide (show ba < bg ∧ b4 ≤ bg from by
              have h1 := heap_lt HP2.out.2.all
              have h2 := HZN.out.2.2.2.2.1
              have h3 := HBGr.out
              omega)
            have HZB := hide (show BB 0 = b0 ∧ BB 4 = b4 ∧ b4 ≤ bg ∧ b0 ≤ b4 ∧ ∀ i, i < 4 → BB i ≤ b4 from by
              have h1 := HUP.out
              have h2 : BB 4 = b4 := by rw [HVV.out.2.2]; rfl
              exact ⟨by rw [HVV.out.2.2]; rfl, h2, HZ2.out.2, HZN.out.2.2.2.2.2.2.1, fun i hi => by rw [← h2]; exact h1.le 4 (by omega) (Nat.le_refl _)⟩)
            go_upto_block 12 with (fail)
            rw [← HBGr.out]
            go_cut [25, 26] from 235 to 256 (fun v25 v26 wx => ∃ G : Nat → Value, Hid (Grown wx BB (bg + 1) 42 V G nf (fun k => nf k + 40) ∧ wx.heap[bg]? = some (.cells #[G 0, G 1, G 2, G 3] 40 (0, 0)) ∧ MemK ba V D' (Dk.memY fl nn keep) w1 B1 B7 LS b4 vs st wx ∧ bg + 1 ≤ wx.heap.size))
            case first =>
              go_wp2_with fail
              go_loopg [25] 40 (fun g v25 wr => ∃ j : Nat, j ≤ 40 ∧ g = 40 - j ∧ v25 = .int .i64 j ∧ ∃ G : Nat → Value, Hid (Grown wr BB (bg + 1) 42 V G nf (fun k => nf k + j) ∧ wr.heap[bg]? = some (.cells #[G 0, G 1, G 2, G 3] 40 (0, 0)) ∧ MemK ba V D' (Dk.memY fl nn keep) w1 B1 B7 LS b4 vs st wr ∧ bg + 1 ≤ wr.heap.size))
              case atStart =>
                refine ⟨0, Nat.zero_le _, rfl, rfl, V, ((grown_start HP2.out.1 HAPT.out HUP.out fun k hk => (HFORM.out k hk).2.1).past HUP.out HAPT.out HVB.out ((Below.refl _ _).alloc (Nat.le_refl _) _)).congr (fun k hk => rfl), ?_, HP2.out.2.moved (P := fun _ => False) (Moved.of_below ((Below.refl _ _).alloc (Nat.le_refl _) _)) HZN.out (fun _ h => h.elim), by rw [HBGr.out]; simp⟩
                rw [HBGr.out, HVV.out.1]
                exact alloc_at _ _
              case round =>
                obtain ⟨j, hj, rfl, rfl, G0, HR⟩ := hrel
                by_cases hjt : j < 40
                · have hjl : (j : Int) < 40 := by omega
                  go_upto_block 14 with (fail)
                  go_wp2_with fail
                  go_loopg [26] 4 (fun g v26 wr => ∃ i : Nat, i ≤ 4 ∧ g = 4 - i ∧ v26 = .int .i64 i ∧ ∃ G : Nat → Value, Hid (Grown wr BB (bg + 1) 42 V G nf (fun k => if k < i then nf k + j + 1 else nf k + j) ∧ wr.heap[bg]? = some (.cells #[G 0, G 1, G 2, G 3] 40 (0, 0)) ∧ MemK ba V D' (Dk.memY fl nn keep) w1 B1 B7 LS b4 vs st wr ∧ bg + 1 ≤ wr.heap.size))
                  case atStart => exact ⟨0, Nat.zero_le _, rfl, rfl, G0, HR.out.1.congr (fun k hk => by rw [if_neg (Nat.not_lt_zero _)]), HR.out.2⟩
                  case round =>
                    obtain ⟨i, hi, rfl, rfl, G, HQ⟩ := hrel
                    by_cases hlt : i < 4
                    · have hil : (i : Int) < 4 := by omega
                      obtain ⟨gv, hgv⟩ : ∃ v, v = G i := ⟨_, rfl⟩
                      have HGV := hide hgv
                      clear hgv
                      obtain ⟨mf, hmf⟩ : ∃ f : Nat → Nat, f = fun k => if k < i then nf k + j + 1 else nf k + j := ⟨_, rfl⟩
                      have HG := hide (show Grown wr BB (bg + 1) 42 V G nf mf from by rw [hmf]; exact HQ.out.1)
                      have HM52 := hide (show mf i ≤ 52 from by rw [hmf]; dsimp only; rw [if_neg (Nat.lt_irrefl _)]; have := (HFORM.out i hlt).1; omega)
                      have HMF := hide hmf
                      clear hmf
                      have HC := hide (show ∀ u, Below wr.heap.size wr u → u.cell? ⟨bg, i, none⟩ = some gv ∧ Grown u BB (bg + 1) 42 V G nf mf ∧ u.heap[bg]? = some (.cells #[G 0, G 1, G 2, G 3] 40 (0, 0)) from by
                        intro u hb
                        have hh := (hb.block bg (heap_lt HQ.out.2.1)).trans HQ.out.2.1
                        exact ⟨by rw [HGV.out]; exact quad_cell hh hlt, HSTG.out _ _ _ _ HG.out hb, hh⟩)
                      go_upto_region 52 with (fail)
-- REGION mem6
                      
                      refine wp_region_local (by kernel_rfl) (by kernel_rfl) (useList mem6U) [14] (by kernel_rfl) (spR (mem6L wr V G gv BB nf mf bg i HSTG.out)) (onePre 5 (fun u => Below wr.heap.size wr u)) (Moved (fun k => (BB 0 ≤ k ∧ k < BB 4) ∨ bg + 1 ≤ k ∨ k = bg) wr) (setFE [12, 14] (KeptFrom wr.heap.size)) (setF_stays 8 (by simp [mem6L]) (by kernel_rfl) (fun v u u' h hf => by obtain ⟨B, h1, h2, h3⟩ := h; exact ⟨B, h1, h2, KeptFrom.blk hf h2 h3⟩)) (setF_pre (fun _ _ h hb => h.trans (hb.mono h.size)) (by kernel_rfl)) (setF_refl (fun _ => KeptFrom.refl _ _)) (dsts_lt (N := 316) (by kernel_rfl)) ((Moved.refl _ _).drew) (fun _ _ => one_start ((Below.refl _ _).drew)) (all_ops ?_) ?_
                      · refine And.intro ?_ ?_
                        · -- 0: slot 243 := Op.move (Operand.tmp 24)
                          refine lstep_run fun fr wf left => ?_
                          have o24 := (left.old 24 (by kernel_rfl)).trans rfl
                          refine ⟨wanted_none rfl, fun K hK => ?_⟩
                          have hB := hide left.base
                          clear left
                          go_simp
                          exact hK _ _ rfl hB.out (setF_refl (fun _ => KeptFrom.refl _ _) _ _)
                        refine And.intro ?_ ?_
                        · -- 1: slot 244 := Op.move (Operand.tmp 26)
                          refine lstep_run fun fr wf left => ?_
                          have o26 := (left.old 26 (by kernel_rfl)).trans rfl
                          refine ⟨wanted_none rfl, fun K hK => ?_⟩
                          have hB := hide left.base
                          clear left
                          go_simp
                          exact hK _ _ rfl hB.out (setF_refl (fun _ => KeptFrom.refl _ _) _ _)
                        refine And.intro ?_ ?_
                        · -- 2: slot 245 := Op.move (Operand.tmp 24)
                          refine lstep_run fun fr wf left => ?_
                          have o24 := (left.old 24 (by kernel_rfl)).trans rfl
                          refine ⟨wanted_none rfl, fun K hK => ?_⟩
                          have hB := hide left.base
                          clear left
                          go_simp
                          exact hK _ _ rfl hB.out (setF_refl (fun _ => KeptFrom.refl _ _) _ _)
                        refine And.intro ?_ ?_
                        · -- 3: slot 246 := Op.move (Operand.tmp 26)
                          refine lstep_run fun fr wf left => ?_
                          have o26 := (left.old 26 (by kernel_rfl)).trans rfl
                          refine ⟨wanted_none rfl, fun K hK => ?_⟩
                          have hB := hide left.base
                          clear left
                          go_simp
                          exact hK _ _ rfl hB.out (setF_refl (fun _ => KeptFrom.refl _ _) _ _)
                        refine And.intro ?_ ?_
                        · -- 4: slot 247 := Op.indexAddr 75 (Operand.tmp 245) (Operand.tmp 246)
                          refine lstep_run fun fr wf left => ?_
                          obtain ⟨x2, e2, r2⟩ := left.slot 316 rfl 2 245 _ rfl rfl (by decide) rfl
                          have s2 := Eq.symm (show x2 = .slice (some ⟨bg, 0, none⟩) 4 4 from r2)
                          subst s2
                          obtain ⟨x3, e3, r3⟩ := left.slot 316 rfl 3 246 _ rfl rfl (by decide) rfl
                          have s3 := Eq.symm (show x3 = .int .i64 (i : Int) from r3)
                          subst s3
                          refine ⟨wanted_none rfl, fun K hK => ?_⟩
                          have hB := hide left.base
                          clear left
                          go_simp
                          exact hK _ _ rfl hB.out (setF_refl (fun _ => KeptFrom.refl _ _) _ _)
                        refine And.intro ?_ ?_
                        · -- 5: slot 248 := Op.load 40 (Operand.tmp 247)
                          refine lstep_run fun fr wf left => ?_
                          obtain ⟨x4, e4, r4⟩ := left.slot 316 rfl 4 247 _ rfl rfl (by decide) rfl
                          have s4 := Eq.symm (show x4 = .pointer (some ⟨bg, i, none⟩) from r4)
                          subst s4
                          refine ⟨wanted_none rfl, fun K hK => ?_⟩
                          have hB := hide left.base; have hP := hide (one_pre_at left.pre rfl)
                          clear left
                          have hc := (HC.out _ hP.out).1
                          go_simp
                          exact hK _ _ ⟨rfl, (HC.out _ hP.out).2⟩ hB.out (setF_refl (fun _ => KeptFrom.refl _ _) _ _)
                        refine And.intro ?_ ?_
                        · -- 6: slot 249 := Op.move (Operand.tmp 26)
                          refine lstep_run fun fr wf left => ?_
                          have o26 := (left.old 26 (by kernel_rfl)).trans rfl
                          refine ⟨wanted_none rfl, fun K hK => ?_⟩
                          have hB := hide left.base
                          clear left
                          go_simp
                          exact hK _ _ rfl hB.out (setF_refl (fun _ => KeptFrom.refl _ _) _ _)
                        refine And.intro ?_ ?_
                        · -- 7: slot 250 := Op.convert 3 5 (Operand.tmp 249)
                          refine lstep_run fun fr wf left => ?_
                          obtain ⟨x6, e6, r6⟩ := left.slot 316 rfl 6 249 _ rfl rfl (by decide) rfl
                          have s6 := Eq.symm (show x6 = .int .i64 (i : Int) from r6)
                          subst s6
                          refine ⟨wanted_none rfl, fun K hK => ?_⟩
                          have hB := hide left.base
                          clear left
                          go_simp
                          exact hK _ _ (congrArg (Value.int .u8) (by rw [IntKind.wrap_u8]; omega)) hB.out (setF_refl (fun _ => KeptFrom.refl _ _) _ _)
                        refine And.intro ?_ ?_
                        · -- 8: slot 251 := Op.buildSlice 56 1 #[(0, Operand.tmp 250)]
                          refine lstep_run fun fr wf left => ?_
                          obtain ⟨x7, e7, r7⟩ := left.slot 316 rfl 7 250 _ rfl rfl (by decide) rfl
                          have s7 := Eq.symm (show x7 = .int .u8 (i : Int) from r7)
                          subst s7
                          refine ⟨wanted_none rfl, fun K hK => ?_⟩
                          have hB := hide left.base
                          clear left
                          go_simp
                          exact hK _ _ ⟨_, rfl, hB.out.size, alloc_at _ _⟩ (hB.out.alloc _) (setF_else rfl ((Below.refl _ _).alloc (Nat.le_refl _) _))
                        refine And.intro ?_ ?_
                        · -- 9: slot 252 := Op.convert 56 9 (Operand.tmp 251)
                          refine lstep_run fun fr wf left => ?_
                          obtain ⟨x8, e8, r8⟩ := left.slot 316 rfl 8 251 _ rfl rfl (by decide) rfl
                          replace r8 : (fun v u => ∃ B, v = .slice (some ⟨B, 0, none⟩) 1 1 ∧ wr.heap.size ≤ B ∧ u.heap[B]? = some (.cells #[.int .u8 (i : Int)] 5 (0, 0))) x8 wf := r8
                          refine ⟨wanted_none rfl, fun K hK => ?_⟩
                          have hB := hide left.base
                          clear left
                          obtain ⟨BB, hx, _, hbb4⟩ := r8
                          subst hx
                          have hcv := run_bytes_string (P := Try.prog) (w := wf) 56 9 5 Try.underlying56 Try.underlying5 Try.underlying9 (bs := [UInt8.ofNat i]) (by
                            have e : [Value.int .u8 (i : Int)] = [UInt8.ofNat i].map byteV := by
                              show _ = [Value.int .u8 (((UInt8.ofNat i).toNat : Nat) : Int)]
                              rw [UInt8.toNat_ofNat_of_lt' (by show i < 256; omega)]
                            rw [← e]; exact slv_blk hbb4 1 rfl)
                          go_simp
                          exact hK _ _ (congrArg Value.string (by simp [nmK])) hB.out (setF_refl (fun _ => KeptFrom.refl _ _) _ _)
                        refine And.intro ?_ ?_
                        · -- 10: slot 253 := Op.build 42 #[(0, Operand.tmp 252)]
                          refine lstep_run fun fr wf left => ?_
                          obtain ⟨x9, e9, r9⟩ := left.slot 316 rfl 9 252 _ rfl rfl (by decide) rfl
                          have s9 := Eq.symm (show x9 = .string (nmK i) from r9)
                          subst s9
                          refine ⟨wanted_none rfl, fun K hK => ?_⟩
                          have hB := hide left.base
                          clear left
                          go_simp
                          exact hK _ _ rfl hB.out (setF_refl (fun _ => KeptFrom.refl _ _) _ _)
                        refine And.intro ?_ ?_
                        · -- 11: slot 254 := Op.buildSlice 40 1 #[(0, Operand.tmp 253)]
                          refine lstep_run fun fr wf left => ?_
                          obtain ⟨x10, e10, r10⟩ := left.slot 316 rfl 10 253 _ rfl rfl (by decide) rfl
                          have s10 := Eq.symm (show x10 = .agg #[.string (nmK i), .string ⟨#[]⟩] from r10)
                          subst s10
                          refine ⟨wanted_none rfl, fun K hK => ?_⟩
                          have hB := hide left.base
                          clear left
                          go_simp
                          exact hK _ _ ⟨_, rfl, alloc_at _ _⟩ (hB.out.alloc _) (setF_else rfl ((Below.refl _ _).alloc (Nat.le_refl _) _))
                        refine And.intro ?_ ?_
                        · -- 12: slot 255 := Op.call { callee := Callee.builtin Builtin.append, args := #[Operand.tmp 248, Operand.tmp 
                          refine lstep_run fun fr wf left => ?_
                          obtain ⟨x5, e5, r5⟩ := left.slot 316 rfl 5 248 _ rfl rfl (by decide) rfl
                          obtain ⟨s5, q5⟩ := (show x5 = gv ∧ (fun u => Grown u BB (bg + 1) 42 V G nf mf ∧ u.heap[bg]? = some (.cells #[G 0, G 1, G 2, G 3] 40 (0, 0))) wf from r5)
                          subst s5
                          obtain ⟨x11, e11, r11⟩ := left.slot 316 rfl 11 254 _ rfl rfl (by decide) rfl
                          replace r11 : (fun v u => ∃ B, v = .slice (some ⟨B, 0, none⟩) 1 1 ∧ u.heap[B]? = some (.cells #[.string (nmK i), .string ⟨#[]⟩] 42 (0, 0))) x11 wf := r11
                          refine ⟨wanted_none rfl, fun K hK => ?_⟩
                          have hB := hide left.base
                          clear left
                          obtain ⟨BX, hx11, hbb⟩ := r11
                          subst hx11
                          obtain ⟨r5b, r5c⟩ := q5
                          obtain ⟨xs, hxs, hxn⟩ := r5b.rows i hlt
                          rw [← HGV.out] at hxs
                          refine wp_append_file1 (.tmp 248) (.tmp 254) rfl (BB i) x5 (mf i) xs (eval_tmp e5) hxs BX _ _ (eval_tmp e11) hbb (by have := HM52.out; omega) (by have h1 := HZB.out.2.2.2.2 i hlt; have h2 := HQ.out.2.2.2; have h3 := hB.out.size; have h4 := HZB.out.2.2.1; omega) ?_
                          intro v' w' hown hgr
                          rw [HGV.out] at hxs hgr
                          have hstp := grown_step r5b HUP.out HAPT.out HVB.out (Nat.le_trans HQ.out.2.2.2 hB.out.size) (by have h1 := HZB.out; omega) hlt hxs hxn hown hgr
                          have hkf : KeptFrom wr.heap.size wf w' := by
                            intro k hk hkw
                            rcases hgr with ⟨_, hg⟩ | ⟨_, hg⟩
                            · exact hg.block k hkw fun e => by have := ((HG.out.rows i hlt).blk e.symm).2; omega
                            · exact hg.block k hkw
                          exact hK _ _ ⟨own_form hown, hstp.1, (hstp.2.block bg (heap_lt r5c) (fun h => by have h2 := HZB.out; have h : (BB 0 ≤ bg ∧ bg < BB 4) ∨ bg + 1 ≤ bg := h; omega)).trans r5c⟩ (hB.out.then (hstp.2.mono fun k h => h.elim .inl fun h => .inr (.inl h))) (setF_at rfl hkf)
                        refine And.intro ?_ ?_
                        · -- 13: slot 256 := Op.indexAddr 75 (Operand.tmp 243) (Operand.tmp 244)
                          refine lstep_run fun fr wf left => ?_
                          obtain ⟨x0, e0, r0⟩ := left.slot 316 rfl 0 243 _ rfl rfl (by decide) rfl
                          have s0 := Eq.symm (show x0 = .slice (some ⟨bg, 0, none⟩) 4 4 from r0)
                          subst s0
                          obtain ⟨x1, e1, r1⟩ := left.slot 316 rfl 1 244 _ rfl rfl (by decide) rfl
                          have s1 := Eq.symm (show x1 = .int .i64 (i : Int) from r1)
                          subst s1
                          refine ⟨wanted_none rfl, fun K hK => ?_⟩
                          have hB := hide left.base
                          clear left
                          go_simp
                          exact hK _ _ rfl hB.out (setF_refl (fun _ => KeptFrom.refl _ _) _ _)
                        refine And.intro ?_ ?_
                        · -- 14: slot None := Op.store 40 (Operand.tmp 256) (Operand.tmp 255)
                          refine lstep_run fun fr wf left => ?_
                          obtain ⟨x12, e12, r12⟩ := left.slot 316 rfl 12 255 _ rfl rfl (by decide) rfl
                          replace r12 : (fun v u => (∃ ad cap, v = .slice ad (mf i + 1) cap) ∧ Grown u BB (bg + 1) 42 V (upd G i v) nf (upd mf i (mf i + 1)) ∧ u.heap[bg]? = some (.cells #[G 0, G 1, G 2, G 3] 40 (0, 0))) x12 wf := r12
                          obtain ⟨x13, e13, r13⟩ := left.slot 316 rfl 13 256 _ rfl rfl (by decide) rfl
                          have s13 := Eq.symm (show x13 = .pointer (some ⟨bg, i, none⟩) from r13)
                          subst s13
                          refine ⟨wanted_none rfl, fun K hK => ?_⟩
                          have hB := hide left.base
                          clear left
                          obtain ⟨⟨ad12, cap12, hx12⟩, r12a, r12b⟩ := r12
                          subst hx12
                          have hc := quad_cell r12b hlt
                          have hf := frozen_blk r12b i
                          go_simp
                          refine hK undef _ ⟨_, r12a.moved HUP.out HAPT.out HVB.out ((Moved.refl (fun k => k = bg) wf).setCell (a := ⟨bg, i, none⟩) rfl _) ?_, quad_upd r12b hlt _⟩ (hB.out.setCell (a := ⟨bg, i, none⟩) (.inr (.inr rfl)) _) (setF_at rfl (fun k hk hkw => (((Moved.refl (fun k => k = bg) wf).setCell (a := ⟨bg, i, none⟩) rfl _).block k hkw (fun e => by have e : k = bg := e; have := HQ.out.2.2.2; omega))))
                          intro k hk e
                          have e : k = bg := e
                          have h := HZB.out
                          omega
                        exact trivial
                      · intro fr wf hB hs hd hall hkeep
                        have h14 : ∃ v, Grown wf BB (bg + 1) 42 V (upd G i v) nf (upd mf i (mf i + 1)) ∧ wf.heap[bg]? = some (.cells #[upd G i v 0, upd G i v 1, upd G i v 2, upd G i v 3] 40 (0, 0)) := hall 14 _ rfl (by simp)
                        have hfr := act_ext (frame_setL hs hkeep [243, 244, 245, 246, 247, 248, 249, 250, 251, 252, 253, 254, 255, 256] (by kernel_rfl)) hd
                        clear hall hkeep hs hd
                        dsimp only [List.foldl, List.set_cons_zero, List.set_cons_succ] at hfr
                        generalize fr.tmps.getD 243 undef = q243 at hfr
                        generalize fr.tmps.getD 244 undef = q244 at hfr
                        generalize fr.tmps.getD 245 undef = q245 at hfr
                        generalize fr.tmps.getD 246 undef = q246 at hfr
                        generalize fr.tmps.getD 247 undef = q247 at hfr
                        generalize fr.tmps.getD 248 undef = q248 at hfr
                        generalize fr.tmps.getD 249 undef = q249 at hfr
                        generalize fr.tmps.getD 250 undef = q250 at hfr
                        generalize fr.tmps.getD 251 undef = q251 at hfr
                        generalize fr.tmps.getD 252 undef = q252 at hfr
                        generalize fr.tmps.getD 253 undef = q253 at hfr
                        generalize fr.tmps.getD 254 undef = q254 at hfr
                        generalize fr.tmps.getD 255 undef = q255 at hfr
                        generalize fr.tmps.getD 256 undef = q256 at hfr
                        subst hfr
                        obtain ⟨v14, h14⟩ := h14
                        have H14 := hide (And.intro hB h14)
                        clear hB h14
                        go_wp2_with fail
                        go_roundg (4 - (i + 1))
                        case measure => omega
                        case rel =>
                          have hmv := H14.out.1
                          refine ⟨i + 1, by omega, rfl, by go_num, upd G i v14, H14.out.2.1.congr (fun k hk => ?_), H14.out.2.2, HQ.out.2.2.1.moved hmv HZN.out (fun k h => ?_), Nat.le_trans HQ.out.2.2.2 hmv.size⟩
                          · rw [HMF.out]
                            unfold upd
                            by_cases hki : k = i
                            · subst hki
                              simp
                            · rw [if_neg hki]
                              dsimp only
                              split <;> split <;> omega
                          · have h1 := HZB.out
                            have h2 := HZ2.out
                            omega
                      -- END REGION mem6
                    · obtain rfl : i = 4 := by omega
                      clear hlt
                      go_wp2_with fail
                      go_roundg (40 - (j + 1))
                      case measure => omega
                      case rel => exact ⟨j + 1, by omega, rfl, by go_num, G, HQ.out.1.congr (fun k hk => by rw [if_pos hk]; omega), HQ.out.2⟩
                · obtain rfl : j = 40 := by omega
                  clear hjt
                  go_wp2_with fail
                  go_meet
                  case rel => exact ⟨G0, HR.out⟩
            case rest =>
              obtain ⟨G, HGR⟩ := hcut
              go_upto_block 16 with (fail)
              go_cut [27, 28] from 257 to 306 (fun v27 v28 wx => Hid (Below wc.heap.size wc wx))
              case first =>
                go_wp2_with fail
                go_loopg [27] 4 (fun g v27 wr => ∃ i : Nat, i ≤ 4 ∧ g = 4 - i ∧ v27 = .int .i64 i ∧ Hid (Below wc.heap.size wc wr))
                case atStart => exact ⟨0, Nat.zero_le _, rfl, rfl, Below.refl _ _⟩
                case round =>
                  obtain ⟨i, hi, rfl, rfl, HR⟩ := hrel
                  by_cases hlt : i < 4
                  · have hil : (i : Int) < 4 := by omega
                    obtain ⟨n, hn⟩ : ∃ n, n = nf i := ⟨_, rfl⟩
                    have hn12 : n ≤ 12 := by rw [hn]; exact (HFORM.out i hlt).1
                    obtain ⟨N, hN⟩ : ∃ N, N = n + 40 := ⟨_, rfl⟩
                    have hN52 : N ≤ 52 := by omega
                    have hNn : nf i + 40 = N := by rw [hN, hn]
                    obtain ⟨xs, hxs0, hxn0⟩ := HGR.out.1.rows i hlt
                    have hxs : wc.ownsRow (BB i) 42 2 (G i) N xs := by rw [← hNn]; exact hxs0
                    have hxn : ∀ q, q < N → xs[q * 2]? = some (.string (nmK i)) := by rw [← hNn]; exact hxn0
                    clear hxs0 hxn0
                    obtain ⟨gg, capg, cur, hvg, _, hhg, _, _, _, _⟩ := own_pos hxs (by omega)
                    obtain ⟨ad, capv, hvv⟩ := (HFORM.out i hlt).2.1
                    rw [← hn] at hvv
                    have HCG := hide (show ∀ u, Below wc.heap.size wc u → u.cell? ⟨bg, i, none⟩ = some (.slice (some ⟨gg, 0, none⟩) N capg) ∧ u.cell? ⟨ba, i, none⟩ = some (.slice ad n capv) ∧ (∀ q, q < N → u.cell? ⟨gg, q * 2, none⟩ = some (.string (nmK i))) ∧ (∀ q, q < n → ∃ gw, ad = some ⟨gw, 0, none⟩ ∧ u.cell? ⟨gw, q * 2, none⟩ = some (.string (nmK i))) from by
                      intro u hb
                      have hbg := (hb.block bg (heap_lt HGR.out.2.1)).trans HGR.out.2.1
                      have hba := (hb.block ba (heap_lt HGR.out.2.2.1.all)).trans HGR.out.2.2.1.all
                      refine ⟨by rw [quad_cell hbg hlt, hvg], by rw [quad_cell hba hlt, hvv], fun q hq => ?_, fun q hq => ?_⟩
                      · have h1 := own_below hxs hb
                        rw [hvg] at h1
                        exact own_cell h1 (hxn q hq)
                      · cases ad with
                        | none =>
                          exfalso
                          obtain ⟨ys, hys, _⟩ := HP2.out.1 i hlt
                          obtain ⟨g2, c2, _, hv2, _⟩ := own_pos hys (by omega)
                          rw [hvv] at hv2
                          cases hv2
                        | some a =>
                          obtain ⟨ys, hys, _⟩ := HP2.out.1 i hlt
                          obtain ⟨g2, c2, _, hv2, _⟩ := own_pos hys (by omega)
                          rw [hvv] at hv2
                          injection hv2 with h1 h2 h3
                          refine ⟨g2, h1, ?_⟩
                          obtain ⟨h4, h5⟩ := HGR.out.1.old i hlt q (by omega) g2 (by rw [hvv, h1]; rfl)
                          exact (hb.cell (p := ⟨g2, q * 2, none⟩) h4).trans h5)
                    clear hn hNn hxs hxn hvg hhg hvv
                    have HNN40 := hide hN
                    clear hN
                    go_upto_block 18 with (fail)
                    go_wp2_with fail
                    go_loopg [28] N (fun g v28 wr => ∃ j : Nat, j ≤ N ∧ g = N - j ∧ v28 = .int .i64 j ∧ Hid (Below wc.heap.size wc wr))
                    case atStart => exact ⟨0, Nat.zero_le _, rfl, rfl, HR.out⟩
                    case round =>
                      obtain ⟨j, hj, rfl, rfl, HQ⟩ := hrel
                      have hcg := (HCG.out _ HQ.out).1
                      by_cases hjt : j < N
                      · have hjl : (j : Int) < N := by omega
                        go_upto_region 59 with (fail)
                        clear hcg
                        have HRD := hide (show ∀ u, Below wr.heap.size wr u → _ from fun u hb => HCG.out u (HQ.out.trans (hb.mono HQ.out.size)))
                        go_cut [306] from 270 to 306 (fun v306 wx => Hid (v306 = .bool false ∧ Below wr.heap.size wr wx))
                        case first =>
                          by_cases hjn : j < n
                          · obtain ⟨gw, rfl, _⟩ := (HRD.out _ (Below.refl _ _)).2.2.2 j hjn
-- REGION mem7a
                            
                            refine wp_region_local (by kernel_rfl) (by kernel_rfl) (useList mem7aU) [36] (by kernel_rfl) (spR (mem7aL bg ba gg gw N n capg capv i j)) (fun _ _ => True) (Below wr.heap.size wr) (fun _ w w' => Below w.heap.size w w') spR_stays (fun _ _ _ _ _ h _ => h) (fun _ _ => Below.refl _ _) (dsts_lt (N := 316) (by kernel_rfl)) ((Below.refl _ _).drew) (fun _ _ => trivial) (all_ops ?_) ?_
                            · refine And.intro ?_ ?_
                              · -- 0: slot 270 := Op.move (Operand.tmp 24)
                                refine lstep_run fun fr wf left => ?_
                                have o24 := (left.old 24 (by kernel_rfl)).trans rfl
                                refine ⟨wanted_none rfl, fun K hK => ?_⟩
                                have hB := hide left.base
                                clear left
                                go_simp
                                exact hK _ _ rfl hB.out (Below.refl _ _)
                              refine And.intro ?_ ?_
                              · -- 1: slot 271 := Op.move (Operand.tmp 27)
                                refine lstep_run fun fr wf left => ?_
                                have o27 := (left.old 27 (by kernel_rfl)).trans rfl
                                refine ⟨wanted_none rfl, fun K hK => ?_⟩
                                have hB := hide left.base
                                clear left
                                go_simp
                                exact hK _ _ rfl hB.out (Below.refl _ _)
                              refine And.intro ?_ ?_
                              · -- 2: slot 272 := Op.indexAddr 75 (Operand.tmp 270) (Operand.tmp 271)
                                refine lstep_run fun fr wf left => ?_
                                obtain ⟨x0, e0, r0⟩ := left.slot 316 rfl 0 270 _ rfl rfl (by decide) rfl
                                have s0 := Eq.symm (show x0 = .slice (some ⟨bg, 0, none⟩) 4 4 from r0)
                                subst s0
                                obtain ⟨x1, e1, r1⟩ := left.slot 316 rfl 1 271 _ rfl rfl (by decide) rfl
                                have s1 := Eq.symm (show x1 = .int .i64 (i : Int) from r1)
                                subst s1
                                refine ⟨wanted_none rfl, fun K hK => ?_⟩
                                have hB := hide left.base
                                clear left
                                go_simp
                                exact hK _ _ rfl hB.out (Below.refl _ _)
                              refine And.intro ?_ ?_
                              · -- 3: slot 273 := Op.load 40 (Operand.tmp 272)
                                refine lstep_run fun fr wf left => ?_
                                obtain ⟨x2, e2, r2⟩ := left.slot 316 rfl 2 272 _ rfl rfl (by decide) rfl
                                have s2 := Eq.symm (show x2 = .pointer (some ⟨bg, i, none⟩) from r2)
                                subst s2
                                refine ⟨wanted_none rfl, fun K hK => ?_⟩
                                have hB := hide left.base
                                have hc := (HRD.out _ hB.out).1
                                clear left
                                go_simp
                                exact hK _ _ rfl hB.out (Below.refl _ _)
                              refine And.intro ?_ ?_
                              · -- 4: slot 274 := Op.move (Operand.tmp 28)
                                refine lstep_run fun fr wf left => ?_
                                have o28 := (left.old 28 (by kernel_rfl)).trans rfl
                                refine ⟨wanted_none rfl, fun K hK => ?_⟩
                                have hB := hide left.base
                                clear left
                                go_simp
                                exact hK _ _ rfl hB.out (Below.refl _ _)
                              refine And.intro ?_ ?_
                              · -- 5: slot 275 := Op.indexAddr 40 (Operand.tmp 273) (Operand.tmp 274)
                                refine lstep_run fun fr wf left => ?_
                                obtain ⟨x3, e3, r3⟩ := left.slot 316 rfl 3 273 _ rfl rfl (by decide) rfl
                                have s3 := Eq.symm (show x3 = .slice (some ⟨gg, 0, none⟩) N capg from r3)
                                subst s3
                                obtain ⟨x4, e4, r4⟩ := left.slot 316 rfl 4 274 _ rfl rfl (by decide) rfl
                                have s4 := Eq.symm (show x4 = .int .i64 (j : Int) from r4)
                                subst s4
                                refine ⟨wanted_none rfl, fun K hK => ?_⟩
                                have hB := hide left.base
                                clear left
                                go_simp
                                exact hK _ _ rfl hB.out (Below.refl _ _)
                              refine And.intro ?_ ?_
                              · -- 6: slot 276 := Op.fieldAddr 42 (Operand.tmp 275) 0
                                refine lstep_run fun fr wf left => ?_
                                obtain ⟨x5, e5, r5⟩ := left.slot 316 rfl 5 275 _ rfl rfl (by decide) rfl
                                have s5 := Eq.symm (show x5 = .pointer (some ⟨gg, j * 2, none⟩) from r5)
                                subst s5
                                refine ⟨wanted_none rfl, fun K hK => ?_⟩
                                have hB := hide left.base
                                clear left
                                go_simp
                                exact hK _ _ rfl hB.out (Below.refl _ _)
                              refine And.intro ?_ ?_
                              · -- 7: slot 277 := Op.load 9 (Operand.tmp 276)
                                refine lstep_run fun fr wf left => ?_
                                obtain ⟨x6, e6, r6⟩ := left.slot 316 rfl 6 276 _ rfl rfl (by decide) rfl
                                have s6 := Eq.symm (show x6 = .pointer (some ⟨gg, j * 2, none⟩) from r6)
                                subst s6
                                refine ⟨wanted_none rfl, fun K hK => ?_⟩
                                have hB := hide left.base
                                have hc := (HRD.out _ hB.out).2.2.1 j hjt
                                clear left
                                go_simp
                                exact hK _ _ rfl hB.out (Below.refl _ _)
                              refine And.intro ?_ ?_
                              · -- 8: slot 278 := Op.move (Operand.tmp 27)
                                refine lstep_run fun fr wf left => ?_
                                have o27 := (left.old 27 (by kernel_rfl)).trans rfl
                                refine ⟨wanted_none rfl, fun K hK => ?_⟩
                                have hB := hide left.base
                                clear left
                                go_simp
                                exact hK _ _ rfl hB.out (Below.refl _ _)
                              refine And.intro ?_ ?_
                              · -- 9: slot 279 := Op.convert 3 5 (Operand.tmp 278)
                                refine lstep_run fun fr wf left => ?_
                                obtain ⟨x8, e8, r8⟩ := left.slot 316 rfl 8 278 _ rfl rfl (by decide) rfl
                                have s8 := Eq.symm (show x8 = .int .i64 (i : Int) from r8)
                                subst s8
                                refine ⟨wanted_none rfl, fun K hK => ?_⟩
                                have hB := hide left.base
                                clear left
                                go_simp
                                exact hK _ _ (congrArg (Value.int .u8) (by rw [IntKind.wrap_u8]; omega)) hB.out (Below.refl _ _)
                              refine And.intro ?_ ?_
                              · -- 10: slot 280 := Op.buildSlice 56 1 #[(0, Operand.tmp 279)]
                                refine lstep_run fun fr wf left => ?_
                                obtain ⟨x9, e9, r9⟩ := left.slot 316 rfl 9 279 _ rfl rfl (by decide) rfl
                                have s9 := Eq.symm (show x9 = .int .u8 (i : Int) from r9)
                                subst s9
                                refine ⟨wanted_none rfl, fun K hK => ?_⟩
                                have hB := hide left.base
                                clear left
                                go_simp
                                exact hK _ _ ⟨_, rfl, alloc_at _ _⟩ (hB.out.alloc (le_base hB.out) _) (Below.alloc (Below.refl _ _) (Nat.le_refl _) _)
                              refine And.intro ?_ ?_
                              · -- 11: slot 281 := Op.convert 56 9 (Operand.tmp 280)
                                refine lstep_run fun fr wf left => ?_
                                obtain ⟨x10, e10, r10⟩ := left.slot 316 rfl 10 280 _ rfl rfl (by decide) rfl
                                replace r10 : (fun v u => ∃ B, v = .slice (some ⟨B, 0, none⟩) 1 1 ∧ u.heap[B]? = some (.cells #[.int .u8 (i : Int)] 5 (0, 0))) x10 wf := r10
                                refine ⟨wanted_none rfl, fun K hK => ?_⟩
                                have hB := hide left.base
                                clear left
                                obtain ⟨BB, hx, hbb4⟩ := r10
                                subst hx
                                have hcv := run_bytes_string (P := Try.prog) (w := wf) 56 9 5 Try.underlying56 Try.underlying5 Try.underlying9 (bs := [UInt8.ofNat i]) (by
                                  have e : [Value.int .u8 (i : Int)] = [UInt8.ofNat i].map byteV := by
                                    show _ = [Value.int .u8 (((UInt8.ofNat i).toNat : Nat) : Int)]
                                    rw [UInt8.toNat_ofNat_of_lt' (by show i < 256; omega)]
                                  rw [← e]; exact slv_blk hbb4 1 rfl)
                                go_simp
                                exact hK _ _ (congrArg Value.string (by simp [nmK])) hB.out (Below.refl _ _)
                              refine And.intro ?_ ?_
                              · -- 12: slot 282 := Op.binOp BinOp.neq 9 (Operand.tmp 277) (Operand.tmp 281) 9
                                refine lstep_run fun fr wf left => ?_
                                obtain ⟨x7, e7, r7⟩ := left.slot 316 rfl 7 277 _ rfl rfl (by decide) rfl
                                have s7 := Eq.symm (show x7 = .string (nmK i) from r7)
                                subst s7
                                obtain ⟨x11, e11, r11⟩ := left.slot 316 rfl 11 281 _ rfl rfl (by decide) rfl
                                have s11 := Eq.symm (show x11 = .string (nmK i) from r11)
                                subst s11
                                refine ⟨wanted_none rfl, fun K hK => ?_⟩
                                have hB := hide left.base
                                clear left
                                go_simp
                                exact hK _ _ rfl hB.out (Below.refl _ _)
                              refine And.intro ?_ ?_
                              · -- 13: slot 283 := Op.move (Operand.tmp 282)
                                refine lstep_run fun fr wf left => ?_
                                obtain ⟨x12, e12, r12⟩ := left.slot 316 rfl 12 282 _ rfl rfl (by decide) rfl
                                have s12 := Eq.symm (show x12 = .bool false from r12)
                                subst s12
                                refine ⟨wanted_none rfl, fun K hK => ?_⟩
                                have hB := hide left.base
                                clear left
                                go_simp
                                exact hK _ _ rfl hB.out (Below.refl _ _)
                              refine And.intro ?_ ?_
                              · -- 14: slot 284 := Op.move (Operand.tmp 28)
                                refine lstep_run fun fr wf left => ?_
                                obtain ⟨x13, e13, r13⟩ := left.slot 316 rfl 13 283 _ rfl rfl (by decide) rfl
                                have s13 := Eq.symm (show x13 = .bool false from r13)
                                subst s13
                                have o28 := (left.old 28 (by kernel_rfl)).trans rfl
                                refine ⟨wanted_yes rfl rfl e13, fun K hK => ?_⟩
                                have hB := hide left.base
                                clear left
                                go_simp
                                exact hK _ _ rfl hB.out (Below.refl _ _)
                              refine And.intro ?_ ?_
                              · -- 15: slot 285 := Op.move (Operand.tmp 21)
                                refine lstep_run fun fr wf left => ?_
                                obtain ⟨x13, e13, r13⟩ := left.slot 316 rfl 13 283 _ rfl rfl (by decide) rfl
                                have s13 := Eq.symm (show x13 = .bool false from r13)
                                subst s13
                                have o21 := (left.old 21 (by kernel_rfl)).trans rfl
                                refine ⟨wanted_yes rfl rfl e13, fun K hK => ?_⟩
                                have hB := hide left.base
                                clear left
                                go_simp
                                exact hK _ _ rfl hB.out (Below.refl _ _)
                              refine And.intro ?_ ?_
                              · -- 16: slot 286 := Op.move (Operand.tmp 27)
                                refine lstep_run fun fr wf left => ?_
                                obtain ⟨x13, e13, r13⟩ := left.slot 316 rfl 13 283 _ rfl rfl (by decide) rfl
                                have s13 := Eq.symm (show x13 = .bool false from r13)
                                subst s13
                                have o27 := (left.old 27 (by kernel_rfl)).trans rfl
                                refine ⟨wanted_yes rfl rfl e13, fun K hK => ?_⟩
                                have hB := hide left.base
                                clear left
                                go_simp
                                exact hK _ _ rfl hB.out (Below.refl _ _)
                              refine And.intro ?_ ?_
                              · -- 17: slot 287 := Op.indexAddr 75 (Operand.tmp 285) (Operand.tmp 286)
                                refine lstep_run fun fr wf left => ?_
                                obtain ⟨x13, e13, r13⟩ := left.slot 316 rfl 13 283 _ rfl rfl (by decide) rfl
                                have s13 := Eq.symm (show x13 = .bool false from r13)
                                subst s13
                                obtain ⟨x15, e15, r15⟩ := left.slot 316 rfl 15 285 _ rfl rfl (by decide) rfl
                                have s15 := Eq.symm (show x15 = .slice (some ⟨ba, 0, none⟩) 4 4 from r15)
                                subst s15
                                obtain ⟨x16, e16, r16⟩ := left.slot 316 rfl 16 286 _ rfl rfl (by decide) rfl
                                have s16 := Eq.symm (show x16 = .int .i64 (i : Int) from r16)
                                subst s16
                                refine ⟨wanted_yes rfl rfl e13, fun K hK => ?_⟩
                                have hB := hide left.base
                                clear left
                                go_simp
                                exact hK _ _ rfl hB.out (Below.refl _ _)
                              refine And.intro ?_ ?_
                              · -- 18: slot 288 := Op.load 40 (Operand.tmp 287)
                                refine lstep_run fun fr wf left => ?_
                                obtain ⟨x13, e13, r13⟩ := left.slot 316 rfl 13 283 _ rfl rfl (by decide) rfl
                                have s13 := Eq.symm (show x13 = .bool false from r13)
                                subst s13
                                obtain ⟨x17, e17, r17⟩ := left.slot 316 rfl 17 287 _ rfl rfl (by decide) rfl
                                have s17 := Eq.symm (show x17 = .pointer (some ⟨ba, i, none⟩) from r17)
                                subst s17
                                refine ⟨wanted_yes rfl rfl e13, fun K hK => ?_⟩
                                have hB := hide left.base
                                have hc := (HRD.out _ hB.out).2.1
                                clear left
                                go_simp
                                exact hK _ _ rfl hB.out (Below.refl _ _)
                              refine And.intro ?_ ?_
                              · -- 19: slot 289 := Op.call { callee := Callee.builtin Builtin.len, args := #[Operand.tmp 288], argTypes := #[
                                refine lstep_run fun fr wf left => ?_
                                obtain ⟨x13, e13, r13⟩ := left.slot 316 rfl 13 283 _ rfl rfl (by decide) rfl
                                have s13 := Eq.symm (show x13 = .bool false from r13)
                                subst s13
                                obtain ⟨x18, e18, r18⟩ := left.slot 316 rfl 18 288 _ rfl rfl (by decide) rfl
                                have s18 := Eq.symm (show x18 = .slice (some ⟨gw, 0, none⟩) n capv from r18)
                                subst s18
                                refine ⟨wanted_yes rfl rfl e13, fun K hK => ?_⟩
                                have hB := hide left.base
                                clear left
                                go_simp
                                exact hK _ _ rfl hB.out (Below.refl _ _)
                              refine And.intro ?_ ?_
                              · -- 20: slot 290 := Op.binOp BinOp.lss 3 (Operand.tmp 284) (Operand.tmp 289) 3
                                refine lstep_run fun fr wf left => ?_
                                obtain ⟨x13, e13, r13⟩ := left.slot 316 rfl 13 283 _ rfl rfl (by decide) rfl
                                have s13 := Eq.symm (show x13 = .bool false from r13)
                                subst s13
                                obtain ⟨x14, e14, r14⟩ := left.slot 316 rfl 14 284 _ rfl rfl (by decide) rfl
                                have s14 := Eq.symm (show x14 = .int .i64 (j : Int) from r14)
                                subst s14
                                obtain ⟨x19, e19, r19⟩ := left.slot 316 rfl 19 289 _ rfl rfl (by decide) rfl
                                have s19 := Eq.symm (show x19 = .int .i64 (n : Int) from r19)
                                subst s19
                                refine ⟨wanted_yes rfl rfl e13, fun K hK => ?_⟩
                                have hB := hide left.base
                                clear left
                                go_simp
                                exact hK _ _ rfl hB.out (Below.refl _ _)
                              refine And.intro ?_ ?_
                              · -- 21: slot 291 := Op.move (Operand.tmp 290)
                                refine lstep_run fun fr wf left => ?_
                                obtain ⟨x13, e13, r13⟩ := left.slot 316 rfl 13 283 _ rfl rfl (by decide) rfl
                                have s13 := Eq.symm (show x13 = .bool false from r13)
                                subst s13
                                obtain ⟨x20, e20, r20⟩ := left.slot 316 rfl 20 290 _ rfl rfl (by decide) rfl
                                have s20 := Eq.symm (show x20 = .bool true from r20)
                                subst s20
                                refine ⟨wanted_yes rfl rfl e13, fun K hK => ?_⟩
                                have hB := hide left.base
                                clear left
                                go_simp
                                exact hK _ _ rfl hB.out (Below.refl _ _)
                              refine And.intro ?_ ?_
                              · -- 22: slot 292 := Op.move (Operand.tmp 21)
                                refine lstep_run fun fr wf left => ?_
                                obtain ⟨x21, e21, r21⟩ := left.slot 316 rfl 21 291 _ rfl rfl (by decide) rfl
                                have s21 := Eq.symm (show x21 = .bool true from r21)
                                subst s21
                                have o21 := (left.old 21 (by kernel_rfl)).trans rfl
                                refine ⟨wanted_yes rfl rfl e21, fun K hK => ?_⟩
                                have hB := hide left.base
                                clear left
                                go_simp
                                exact hK _ _ rfl hB.out (Below.refl _ _)
                              refine And.intro ?_ ?_
                              · -- 23: slot 293 := Op.move (Operand.tmp 27)
                                refine lstep_run fun fr wf left => ?_
                                obtain ⟨x21, e21, r21⟩ := left.slot 316 rfl 21 291 _ rfl rfl (by decide) rfl
                                have s21 := Eq.symm (show x21 = .bool true from r21)
                                subst s21
                                have o27 := (left.old 27 (by kernel_rfl)).trans rfl
                                refine ⟨wanted_yes rfl rfl e21, fun K hK => ?_⟩
                                have hB := hide left.base
                                clear left
                                go_simp
                                exact hK _ _ rfl hB.out (Below.refl _ _)
                              refine And.intro ?_ ?_
                              · -- 24: slot 294 := Op.indexAddr 75 (Operand.tmp 292) (Operand.tmp 293)
                                refine lstep_run fun fr wf left => ?_
                                obtain ⟨x21, e21, r21⟩ := left.slot 316 rfl 21 291 _ rfl rfl (by decide) rfl
                                have s21 := Eq.symm (show x21 = .bool true from r21)
                                subst s21
                                obtain ⟨x22, e22, r22⟩ := left.slot 316 rfl 22 292 _ rfl rfl (by decide) rfl
                                have s22 := Eq.symm (show x22 = .slice (some ⟨ba, 0, none⟩) 4 4 from r22)
                                subst s22
                                obtain ⟨x23, e23, r23⟩ := left.slot 316 rfl 23 293 _ rfl rfl (by decide) rfl
                                have s23 := Eq.symm (show x23 = .int .i64 (i : Int) from r23)
                                subst s23
                                refine ⟨wanted_yes rfl rfl e21, fun K hK => ?_⟩
                                have hB := hide left.base
                                clear left
                                go_simp
                                exact hK _ _ rfl hB.out (Below.refl _ _)
                              refine And.intro ?_ ?_
                              · -- 25: slot 295 := Op.load 40 (Operand.tmp 294)
                                refine lstep_run fun fr wf left => ?_
                                obtain ⟨x21, e21, r21⟩ := left.slot 316 rfl 21 291 _ rfl rfl (by decide) rfl
                                have s21 := Eq.symm (show x21 = .bool true from r21)
                                subst s21
                                obtain ⟨x24, e24, r24⟩ := left.slot 316 rfl 24 294 _ rfl rfl (by decide) rfl
                                have s24 := Eq.symm (show x24 = .pointer (some ⟨ba, i, none⟩) from r24)
                                subst s24
                                refine ⟨wanted_yes rfl rfl e21, fun K hK => ?_⟩
                                have hB := hide left.base
                                have hc := (HRD.out _ hB.out).2.1
                                clear left
                                go_simp
                                exact hK _ _ rfl hB.out (Below.refl _ _)
                              refine And.intro ?_ ?_
                              · -- 26: slot 296 := Op.move (Operand.tmp 28)
                                refine lstep_run fun fr wf left => ?_
                                obtain ⟨x21, e21, r21⟩ := left.slot 316 rfl 21 291 _ rfl rfl (by decide) rfl
                                have s21 := Eq.symm (show x21 = .bool true from r21)
                                subst s21
                                have o28 := (left.old 28 (by kernel_rfl)).trans rfl
                                refine ⟨wanted_yes rfl rfl e21, fun K hK => ?_⟩
                                have hB := hide left.base
                                clear left
                                go_simp
                                exact hK _ _ rfl hB.out (Below.refl _ _)
                              refine And.intro ?_ ?_
                              · -- 27: slot 297 := Op.indexAddr 40 (Operand.tmp 295) (Operand.tmp 296)
                                refine lstep_run fun fr wf left => ?_
                                obtain ⟨x21, e21, r21⟩ := left.slot 316 rfl 21 291 _ rfl rfl (by decide) rfl
                                have s21 := Eq.symm (show x21 = .bool true from r21)
                                subst s21
                                obtain ⟨x25, e25, r25⟩ := left.slot 316 rfl 25 295 _ rfl rfl (by decide) rfl
                                have s25 := Eq.symm (show x25 = .slice (some ⟨gw, 0, none⟩) n capv from r25)
                                subst s25
                                obtain ⟨x26, e26, r26⟩ := left.slot 316 rfl 26 296 _ rfl rfl (by decide) rfl
                                have s26 := Eq.symm (show x26 = .int .i64 (j : Int) from r26)
                                subst s26
                                refine ⟨wanted_yes rfl rfl e21, fun K hK => ?_⟩
                                have hB := hide left.base
                                clear left
                                go_simp
                                exact hK _ _ rfl hB.out (Below.refl _ _)
                              refine And.intro ?_ ?_
                              · -- 28: slot 298 := Op.fieldAddr 42 (Operand.tmp 297) 0
                                refine lstep_run fun fr wf left => ?_
                                obtain ⟨x21, e21, r21⟩ := left.slot 316 rfl 21 291 _ rfl rfl (by decide) rfl
                                have s21 := Eq.symm (show x21 = .bool true from r21)
                                subst s21
                                obtain ⟨x27, e27, r27⟩ := left.slot 316 rfl 27 297 _ rfl rfl (by decide) rfl
                                have s27 := Eq.symm (show x27 = .pointer (some ⟨gw, j * 2, none⟩) from r27)
                                subst s27
                                refine ⟨wanted_yes rfl rfl e21, fun K hK => ?_⟩
                                have hB := hide left.base
                                clear left
                                go_simp
                                exact hK _ _ rfl hB.out (Below.refl _ _)
                              refine And.intro ?_ ?_
                              · -- 29: slot 299 := Op.load 9 (Operand.tmp 298)
                                refine lstep_run fun fr wf left => ?_
                                obtain ⟨x21, e21, r21⟩ := left.slot 316 rfl 21 291 _ rfl rfl (by decide) rfl
                                have s21 := Eq.symm (show x21 = .bool true from r21)
                                subst s21
                                obtain ⟨x28, e28, r28⟩ := left.slot 316 rfl 28 298 _ rfl rfl (by decide) rfl
                                have s28 := Eq.symm (show x28 = .pointer (some ⟨gw, j * 2, none⟩) from r28)
                                subst s28
                                refine ⟨wanted_yes rfl rfl e21, fun K hK => ?_⟩
                                have hB := hide left.base
                                have hc := (by obtain ⟨g2, e2, h2⟩ := (HRD.out _ hB.out).2.2.2 j hjn; injection e2 with e2; injection e2 with e2; subst e2; exact h2 : wf.cell? ⟨gw, j * 2, none⟩ = some (.string (nmK i)))
                                clear left
                                go_simp
                                exact hK _ _ rfl hB.out (Below.refl _ _)
                              refine And.intro ?_ ?_
                              · -- 30: slot 300 := Op.move (Operand.tmp 27)
                                refine lstep_run fun fr wf left => ?_
                                obtain ⟨x21, e21, r21⟩ := left.slot 316 rfl 21 291 _ rfl rfl (by decide) rfl
                                have s21 := Eq.symm (show x21 = .bool true from r21)
                                subst s21
                                have o27 := (left.old 27 (by kernel_rfl)).trans rfl
                                refine ⟨wanted_yes rfl rfl e21, fun K hK => ?_⟩
                                have hB := hide left.base
                                clear left
                                go_simp
                                exact hK _ _ rfl hB.out (Below.refl _ _)
                              refine And.intro ?_ ?_
                              · -- 31: slot 301 := Op.convert 3 5 (Operand.tmp 300)
                                refine lstep_run fun fr wf left => ?_
                                obtain ⟨x21, e21, r21⟩ := left.slot 316 rfl 21 291 _ rfl rfl (by decide) rfl
                                have s21 := Eq.symm (show x21 = .bool true from r21)
                                subst s21
                                obtain ⟨x30, e30, r30⟩ := left.slot 316 rfl 30 300 _ rfl rfl (by decide) rfl
                                have s30 := Eq.symm (show x30 = .int .i64 (i : Int) from r30)
                                subst s30
                                refine ⟨wanted_yes rfl rfl e21, fun K hK => ?_⟩
                                have hB := hide left.base
                                clear left
                                go_simp
                                exact hK _ _ (congrArg (Value.int .u8) (by rw [IntKind.wrap_u8]; omega)) hB.out (Below.refl _ _)
                              refine And.intro ?_ ?_
                              · -- 32: slot 302 := Op.buildSlice 56 1 #[(0, Operand.tmp 301)]
                                refine lstep_run fun fr wf left => ?_
                                obtain ⟨x21, e21, r21⟩ := left.slot 316 rfl 21 291 _ rfl rfl (by decide) rfl
                                have s21 := Eq.symm (show x21 = .bool true from r21)
                                subst s21
                                obtain ⟨x31, e31, r31⟩ := left.slot 316 rfl 31 301 _ rfl rfl (by decide) rfl
                                have s31 := Eq.symm (show x31 = .int .u8 (i : Int) from r31)
                                subst s31
                                refine ⟨wanted_yes rfl rfl e21, fun K hK => ?_⟩
                                have hB := hide left.base
                                clear left
                                go_simp
                                exact hK _ _ ⟨_, rfl, alloc_at _ _⟩ (hB.out.alloc (le_base hB.out) _) (Below.alloc (Below.refl _ _) (Nat.le_refl _) _)
                              refine And.intro ?_ ?_
                              · -- 33: slot 303 := Op.convert 56 9 (Operand.tmp 302)
                                refine lstep_run fun fr wf left => ?_
                                obtain ⟨x21, e21, r21⟩ := left.slot 316 rfl 21 291 _ rfl rfl (by decide) rfl
                                have s21 := Eq.symm (show x21 = .bool true from r21)
                                subst s21
                                obtain ⟨x32, e32, r32⟩ := left.slot 316 rfl 32 302 _ rfl rfl (by decide) rfl
                                replace r32 : (fun v u => ∃ B, v = .slice (some ⟨B, 0, none⟩) 1 1 ∧ u.heap[B]? = some (.cells #[.int .u8 (i : Int)] 5 (0, 0))) x32 wf := r32
                                refine ⟨wanted_yes rfl rfl e21, fun K hK => ?_⟩
                                have hB := hide left.base
                                clear left
                                obtain ⟨BB, hx, hbb4⟩ := r32
                                subst hx
                                have hcv := run_bytes_string (P := Try.prog) (w := wf) 56 9 5 Try.underlying56 Try.underlying5 Try.underlying9 (bs := [UInt8.ofNat i]) (by
                                  have e : [Value.int .u8 (i : Int)] = [UInt8.ofNat i].map byteV := by
                                    show _ = [Value.int .u8 (((UInt8.ofNat i).toNat : Nat) : Int)]
                                    rw [UInt8.toNat_ofNat_of_lt' (by show i < 256; omega)]
                                  rw [← e]; exact slv_blk hbb4 1 rfl)
                                go_simp
                                exact hK _ _ (congrArg Value.string (by simp [nmK])) hB.out (Below.refl _ _)
                              refine And.intro ?_ ?_
                              · -- 34: slot 304 := Op.binOp BinOp.neq 9 (Operand.tmp 299) (Operand.tmp 303) 9
                                refine lstep_run fun fr wf left => ?_
                                obtain ⟨x21, e21, r21⟩ := left.slot 316 rfl 21 291 _ rfl rfl (by decide) rfl
                                have s21 := Eq.symm (show x21 = .bool true from r21)
                                subst s21
                                obtain ⟨x29, e29, r29⟩ := left.slot 316 rfl 29 299 _ rfl rfl (by decide) rfl
                                have s29 := Eq.symm (show x29 = .string (nmK i) from r29)
                                subst s29
                                obtain ⟨x33, e33, r33⟩ := left.slot 316 rfl 33 303 _ rfl rfl (by decide) rfl
                                have s33 := Eq.symm (show x33 = .string (nmK i) from r33)
                                subst s33
                                refine ⟨wanted_yes rfl rfl e21, fun K hK => ?_⟩
                                have hB := hide left.base
                                clear left
                                go_simp
                                exact hK _ _ rfl hB.out (Below.refl _ _)
                              refine And.intro ?_ ?_
                              · -- 35: slot 305 := Op.pick (Operand.tmp 291) (Operand.tmp 304) (Operand.const (Value.bool false))
                                refine lstep_run fun fr wf left => ?_
                                obtain ⟨x13, e13, r13⟩ := left.slot 316 rfl 13 283 _ rfl rfl (by decide) rfl
                                have s13 := Eq.symm (show x13 = .bool false from r13)
                                subst s13
                                obtain ⟨x21, e21, r21⟩ := left.slot 316 rfl 21 291 _ rfl rfl (by decide) rfl
                                have s21 := Eq.symm (show x21 = .bool true from r21)
                                subst s21
                                obtain ⟨x34, e34, r34⟩ := left.slot 316 rfl 34 304 _ rfl rfl (by decide) rfl
                                have s34 := Eq.symm (show x34 = .bool false from r34)
                                subst s34
                                refine ⟨wanted_yes rfl rfl e13, fun K hK => ?_⟩
                                have hB := hide left.base
                                clear left
                                go_simp
                                exact hK _ _ rfl hB.out (Below.refl _ _)
                              refine And.intro ?_ ?_
                              · -- 36: slot 306 := Op.pick (Operand.tmp 283) (Operand.const (Value.bool true)) (Operand.tmp 305)
                                refine lstep_run fun fr wf left => ?_
                                obtain ⟨x13, e13, r13⟩ := left.slot 316 rfl 13 283 _ rfl rfl (by decide) rfl
                                have s13 := Eq.symm (show x13 = .bool false from r13)
                                subst s13
                                obtain ⟨x35, e35, r35⟩ := left.slot 316 rfl 35 305 _ rfl rfl (by decide) rfl
                                have s35 := Eq.symm (show x35 = .bool false from r35)
                                subst s35
                                refine ⟨wanted_none rfl, fun K hK => ?_⟩
                                have hB := hide left.base
                                clear left
                                go_simp
                                exact hK _ _ rfl hB.out (Below.refl _ _)
                              exact trivial
                            · intro fr wf hB hs hd hall hkeep
                              have h306 : fr.tmps.getD 306 undef = .bool false := hall 36 _ rfl (by simp)
                              have hfr := act_ext (frame_setL hs hkeep [270, 271, 272, 273, 274, 275, 276, 277, 278, 279, 280, 281, 282, 283, 284, 285, 286, 287, 288, 289, 290, 291, 292, 293, 294, 295, 296, 297, 298, 299, 300, 301, 302, 303, 304, 305, 306] (by kernel_rfl)) hd
                              clear hall hkeep hs hd
                              dsimp only [List.foldl, List.set_cons_zero, List.set_cons_succ] at hfr
                              generalize fr.tmps.getD 270 undef = q270 at hfr
                              generalize fr.tmps.getD 271 undef = q271 at hfr
                              generalize fr.tmps.getD 272 undef = q272 at hfr
                              generalize fr.tmps.getD 273 undef = q273 at hfr
                              generalize fr.tmps.getD 274 undef = q274 at hfr
                              generalize fr.tmps.getD 275 undef = q275 at hfr
                              generalize fr.tmps.getD 276 undef = q276 at hfr
                              generalize fr.tmps.getD 277 undef = q277 at hfr
                              generalize fr.tmps.getD 278 undef = q278 at hfr
                              generalize fr.tmps.getD 279 undef = q279 at hfr
                              generalize fr.tmps.getD 280 undef = q280 at hfr
                              generalize fr.tmps.getD 281 undef = q281 at hfr
                              generalize fr.tmps.getD 282 undef = q282 at hfr
                              generalize fr.tmps.getD 283 undef = q283 at hfr
                              generalize fr.tmps.getD 284 undef = q284 at hfr
                              generalize fr.tmps.getD 285 undef = q285 at hfr
                              generalize fr.tmps.getD 286 undef = q286 at hfr
                              generalize fr.tmps.getD 287 undef = q287 at hfr
                              generalize fr.tmps.getD 288 undef = q288 at hfr
                              generalize fr.tmps.getD 289 undef = q289 at hfr
                              generalize fr.tmps.getD 290 undef = q290 at hfr
                              generalize fr.tmps.getD 291 undef = q291 at hfr
                              generalize fr.tmps.getD 292 undef = q292 at hfr
                              generalize fr.tmps.getD 293 undef = q293 at hfr
                              generalize fr.tmps.getD 294 undef = q294 at hfr
                              generalize fr.tmps.getD 295 undef = q295 at hfr
                              generalize fr.tmps.getD 296 undef = q296 at hfr
                              generalize fr.tmps.getD 297 undef = q297 at hfr
                              generalize fr.tmps.getD 298 undef = q298 at hfr
                              generalize fr.tmps.getD 299 undef = q299 at hfr
                              generalize fr.tmps.getD 300 undef = q300 at hfr
                              generalize fr.tmps.getD 301 undef = q301 at hfr
                              generalize fr.tmps.getD 302 undef = q302 at hfr
                              generalize fr.tmps.getD 303 undef = q303 at hfr
                              generalize fr.tmps.getD 304 undef = q304 at hfr
                              generalize fr.tmps.getD 305 undef = q305 at hfr
                              generalize fr.tmps.getD 306 undef = q306 at hfr h306
                              subst hfr
                              subst h306
                              have HBF := hide hB
                              clear hB
                              go_wp2_with fail
                              go_meet
                              case rel => exact ⟨rfl, HBF.out⟩
                            -- END REGION mem7a
                          · skip
-- REGION mem7b
                            
                            refine wp_region_local (by kernel_rfl) (by kernel_rfl) (useList mem7bU) [36] (by kernel_rfl) (spR (mem7bL ad bg ba gg N n capg capv i j)) (fun _ _ => True) (Below wr.heap.size wr) (fun _ w w' => Below w.heap.size w w') spR_stays (fun _ _ _ _ _ h _ => h) (fun _ _ => Below.refl _ _) (dsts_lt (N := 316) (by kernel_rfl)) ((Below.refl _ _).drew) (fun _ _ => trivial) (all_ops ?_) ?_
                            · refine And.intro ?_ ?_
                              · -- 0: slot 270 := Op.move (Operand.tmp 24)
                                refine lstep_run fun fr wf left => ?_
                                have o24 := (left.old 24 (by kernel_rfl)).trans rfl
                                refine ⟨wanted_none rfl, fun K hK => ?_⟩
                                have hB := hide left.base
                                clear left
                                go_simp
                                exact hK _ _ rfl hB.out (Below.refl _ _)
                              refine And.intro ?_ ?_
                              · -- 1: slot 271 := Op.move (Operand.tmp 27)
                                refine lstep_run fun fr wf left => ?_
                                have o27 := (left.old 27 (by kernel_rfl)).trans rfl
                                refine ⟨wanted_none rfl, fun K hK => ?_⟩
                                have hB := hide left.base
                                clear left
                                go_simp
                                exact hK _ _ rfl hB.out (Below.refl _ _)
                              refine And.intro ?_ ?_
                              · -- 2: slot 272 := Op.indexAddr 75 (Operand.tmp 270) (Operand.tmp 271)
                                refine lstep_run fun fr wf left => ?_
                                obtain ⟨x0, e0, r0⟩ := left.slot 316 rfl 0 270 _ rfl rfl (by decide) rfl
                                have s0 := Eq.symm (show x0 = .slice (some ⟨bg, 0, none⟩) 4 4 from r0)
                                subst s0
                                obtain ⟨x1, e1, r1⟩ := left.slot 316 rfl 1 271 _ rfl rfl (by decide) rfl
                                have s1 := Eq.symm (show x1 = .int .i64 (i : Int) from r1)
                                subst s1
                                refine ⟨wanted_none rfl, fun K hK => ?_⟩
                                have hB := hide left.base
                                clear left
                                go_simp
                                exact hK _ _ rfl hB.out (Below.refl _ _)
                              refine And.intro ?_ ?_
                              · -- 3: slot 273 := Op.load 40 (Operand.tmp 272)
                                refine lstep_run fun fr wf left => ?_
                                obtain ⟨x2, e2, r2⟩ := left.slot 316 rfl 2 272 _ rfl rfl (by decide) rfl
                                have s2 := Eq.symm (show x2 = .pointer (some ⟨bg, i, none⟩) from r2)
                                subst s2
                                refine ⟨wanted_none rfl, fun K hK => ?_⟩
                                have hB := hide left.base
                                have hc := (HRD.out _ hB.out).1
                                clear left
                                go_simp
                                exact hK _ _ rfl hB.out (Below.refl _ _)
                              refine And.intro ?_ ?_
                              · -- 4: slot 274 := Op.move (Operand.tmp 28)
                                refine lstep_run fun fr wf left => ?_
                                have o28 := (left.old 28 (by kernel_rfl)).trans rfl
                                refine ⟨wanted_none rfl, fun K hK => ?_⟩
                                have hB := hide left.base
                                clear left
                                go_simp
                                exact hK _ _ rfl hB.out (Below.refl _ _)
                              refine And.intro ?_ ?_
                              · -- 5: slot 275 := Op.indexAddr 40 (Operand.tmp 273) (Operand.tmp 274)
                                refine lstep_run fun fr wf left => ?_
                                obtain ⟨x3, e3, r3⟩ := left.slot 316 rfl 3 273 _ rfl rfl (by decide) rfl
                                have s3 := Eq.symm (show x3 = .slice (some ⟨gg, 0, none⟩) N capg from r3)
                                subst s3
                                obtain ⟨x4, e4, r4⟩ := left.slot 316 rfl 4 274 _ rfl rfl (by decide) rfl
                                have s4 := Eq.symm (show x4 = .int .i64 (j : Int) from r4)
                                subst s4
                                refine ⟨wanted_none rfl, fun K hK => ?_⟩
                                have hB := hide left.base
                                clear left
                                go_simp
                                exact hK _ _ rfl hB.out (Below.refl _ _)
                              refine And.intro ?_ ?_
                              · -- 6: slot 276 := Op.fieldAddr 42 (Operand.tmp 275) 0
                                refine lstep_run fun fr wf left => ?_
                                obtain ⟨x5, e5, r5⟩ := left.slot 316 rfl 5 275 _ rfl rfl (by decide) rfl
                                have s5 := Eq.symm (show x5 = .pointer (some ⟨gg, j * 2, none⟩) from r5)
                                subst s5
                                refine ⟨wanted_none rfl, fun K hK => ?_⟩
                                have hB := hide left.base
                                clear left
                                go_simp
                                exact hK _ _ rfl hB.out (Below.refl _ _)
                              refine And.intro ?_ ?_
                              · -- 7: slot 277 := Op.load 9 (Operand.tmp 276)
                                refine lstep_run fun fr wf left => ?_
                                obtain ⟨x6, e6, r6⟩ := left.slot 316 rfl 6 276 _ rfl rfl (by decide) rfl
                                have s6 := Eq.symm (show x6 = .pointer (some ⟨gg, j * 2, none⟩) from r6)
                                subst s6
                                refine ⟨wanted_none rfl, fun K hK => ?_⟩
                                have hB := hide left.base
                                have hc := (HRD.out _ hB.out).2.2.1 j hjt
                                clear left
                                go_simp
                                exact hK _ _ rfl hB.out (Below.refl _ _)
                              refine And.intro ?_ ?_
                              · -- 8: slot 278 := Op.move (Operand.tmp 27)
                                refine lstep_run fun fr wf left => ?_
                                have o27 := (left.old 27 (by kernel_rfl)).trans rfl
                                refine ⟨wanted_none rfl, fun K hK => ?_⟩
                                have hB := hide left.base
                                clear left
                                go_simp
                                exact hK _ _ rfl hB.out (Below.refl _ _)
                              refine And.intro ?_ ?_
                              · -- 9: slot 279 := Op.convert 3 5 (Operand.tmp 278)
                                refine lstep_run fun fr wf left => ?_
                                obtain ⟨x8, e8, r8⟩ := left.slot 316 rfl 8 278 _ rfl rfl (by decide) rfl
                                have s8 := Eq.symm (show x8 = .int .i64 (i : Int) from r8)
                                subst s8
                                refine ⟨wanted_none rfl, fun K hK => ?_⟩
                                have hB := hide left.base
                                clear left
                                go_simp
                                exact hK _ _ (congrArg (Value.int .u8) (by rw [IntKind.wrap_u8]; omega)) hB.out (Below.refl _ _)
                              refine And.intro ?_ ?_
                              · -- 10: slot 280 := Op.buildSlice 56 1 #[(0, Operand.tmp 279)]
                                refine lstep_run fun fr wf left => ?_
                                obtain ⟨x9, e9, r9⟩ := left.slot 316 rfl 9 279 _ rfl rfl (by decide) rfl
                                have s9 := Eq.symm (show x9 = .int .u8 (i : Int) from r9)
                                subst s9
                                refine ⟨wanted_none rfl, fun K hK => ?_⟩
                                have hB := hide left.base
                                clear left
                                go_simp
                                exact hK _ _ ⟨_, rfl, alloc_at _ _⟩ (hB.out.alloc (le_base hB.out) _) (Below.alloc (Below.refl _ _) (Nat.le_refl _) _)
                              refine And.intro ?_ ?_
                              · -- 11: slot 281 := Op.convert 56 9 (Operand.tmp 280)
                                refine lstep_run fun fr wf left => ?_
                                obtain ⟨x10, e10, r10⟩ := left.slot 316 rfl 10 280 _ rfl rfl (by decide) rfl
                                replace r10 : (fun v u => ∃ B, v = .slice (some ⟨B, 0, none⟩) 1 1 ∧ u.heap[B]? = some (.cells #[.int .u8 (i : Int)] 5 (0, 0))) x10 wf := r10
                                refine ⟨wanted_none rfl, fun K hK => ?_⟩
                                have hB := hide left.base
                                clear left
                                obtain ⟨BB, hx, hbb4⟩ := r10
                                subst hx
                                have hcv := run_bytes_string (P := Try.prog) (w := wf) 56 9 5 Try.underlying56 Try.underlying5 Try.underlying9 (bs := [UInt8.ofNat i]) (by
                                  have e : [Value.int .u8 (i : Int)] = [UInt8.ofNat i].map byteV := by
                                    show _ = [Value.int .u8 (((UInt8.ofNat i).toNat : Nat) : Int)]
                                    rw [UInt8.toNat_ofNat_of_lt' (by show i < 256; omega)]
                                  rw [← e]; exact slv_blk hbb4 1 rfl)
                                go_simp
                                exact hK _ _ (congrArg Value.string (by simp [nmK])) hB.out (Below.refl _ _)
                              refine And.intro ?_ ?_
                              · -- 12: slot 282 := Op.binOp BinOp.neq 9 (Operand.tmp 277) (Operand.tmp 281) 9
                                refine lstep_run fun fr wf left => ?_
                                obtain ⟨x7, e7, r7⟩ := left.slot 316 rfl 7 277 _ rfl rfl (by decide) rfl
                                have s7 := Eq.symm (show x7 = .string (nmK i) from r7)
                                subst s7
                                obtain ⟨x11, e11, r11⟩ := left.slot 316 rfl 11 281 _ rfl rfl (by decide) rfl
                                have s11 := Eq.symm (show x11 = .string (nmK i) from r11)
                                subst s11
                                refine ⟨wanted_none rfl, fun K hK => ?_⟩
                                have hB := hide left.base
                                clear left
                                go_simp
                                exact hK _ _ rfl hB.out (Below.refl _ _)
                              refine And.intro ?_ ?_
                              · -- 13: slot 283 := Op.move (Operand.tmp 282)
                                refine lstep_run fun fr wf left => ?_
                                obtain ⟨x12, e12, r12⟩ := left.slot 316 rfl 12 282 _ rfl rfl (by decide) rfl
                                have s12 := Eq.symm (show x12 = .bool false from r12)
                                subst s12
                                refine ⟨wanted_none rfl, fun K hK => ?_⟩
                                have hB := hide left.base
                                clear left
                                go_simp
                                exact hK _ _ rfl hB.out (Below.refl _ _)
                              refine And.intro ?_ ?_
                              · -- 14: slot 284 := Op.move (Operand.tmp 28)
                                refine lstep_run fun fr wf left => ?_
                                obtain ⟨x13, e13, r13⟩ := left.slot 316 rfl 13 283 _ rfl rfl (by decide) rfl
                                have s13 := Eq.symm (show x13 = .bool false from r13)
                                subst s13
                                have o28 := (left.old 28 (by kernel_rfl)).trans rfl
                                refine ⟨wanted_yes rfl rfl e13, fun K hK => ?_⟩
                                have hB := hide left.base
                                clear left
                                go_simp
                                exact hK _ _ rfl hB.out (Below.refl _ _)
                              refine And.intro ?_ ?_
                              · -- 15: slot 285 := Op.move (Operand.tmp 21)
                                refine lstep_run fun fr wf left => ?_
                                obtain ⟨x13, e13, r13⟩ := left.slot 316 rfl 13 283 _ rfl rfl (by decide) rfl
                                have s13 := Eq.symm (show x13 = .bool false from r13)
                                subst s13
                                have o21 := (left.old 21 (by kernel_rfl)).trans rfl
                                refine ⟨wanted_yes rfl rfl e13, fun K hK => ?_⟩
                                have hB := hide left.base
                                clear left
                                go_simp
                                exact hK _ _ rfl hB.out (Below.refl _ _)
                              refine And.intro ?_ ?_
                              · -- 16: slot 286 := Op.move (Operand.tmp 27)
                                refine lstep_run fun fr wf left => ?_
                                obtain ⟨x13, e13, r13⟩ := left.slot 316 rfl 13 283 _ rfl rfl (by decide) rfl
                                have s13 := Eq.symm (show x13 = .bool false from r13)
                                subst s13
                                have o27 := (left.old 27 (by kernel_rfl)).trans rfl
                                refine ⟨wanted_yes rfl rfl e13, fun K hK => ?_⟩
                                have hB := hide left.base
                                clear left
                                go_simp
                                exact hK _ _ rfl hB.out (Below.refl _ _)
                              refine And.intro ?_ ?_
                              · -- 17: slot 287 := Op.indexAddr 75 (Operand.tmp 285) (Operand.tmp 286)
                                refine lstep_run fun fr wf left => ?_
                                obtain ⟨x13, e13, r13⟩ := left.slot 316 rfl 13 283 _ rfl rfl (by decide) rfl
                                have s13 := Eq.symm (show x13 = .bool false from r13)
                                subst s13
                                obtain ⟨x15, e15, r15⟩ := left.slot 316 rfl 15 285 _ rfl rfl (by decide) rfl
                                have s15 := Eq.symm (show x15 = .slice (some ⟨ba, 0, none⟩) 4 4 from r15)
                                subst s15
                                obtain ⟨x16, e16, r16⟩ := left.slot 316 rfl 16 286 _ rfl rfl (by decide) rfl
                                have s16 := Eq.symm (show x16 = .int .i64 (i : Int) from r16)
                                subst s16
                                refine ⟨wanted_yes rfl rfl e13, fun K hK => ?_⟩
                                have hB := hide left.base
                                clear left
                                go_simp
                                exact hK _ _ rfl hB.out (Below.refl _ _)
                              refine And.intro ?_ ?_
                              · -- 18: slot 288 := Op.load 40 (Operand.tmp 287)
                                refine lstep_run fun fr wf left => ?_
                                obtain ⟨x13, e13, r13⟩ := left.slot 316 rfl 13 283 _ rfl rfl (by decide) rfl
                                have s13 := Eq.symm (show x13 = .bool false from r13)
                                subst s13
                                obtain ⟨x17, e17, r17⟩ := left.slot 316 rfl 17 287 _ rfl rfl (by decide) rfl
                                have s17 := Eq.symm (show x17 = .pointer (some ⟨ba, i, none⟩) from r17)
                                subst s17
                                refine ⟨wanted_yes rfl rfl e13, fun K hK => ?_⟩
                                have hB := hide left.base
                                have hc := (HRD.out _ hB.out).2.1
                                clear left
                                go_simp
                                exact hK _ _ rfl hB.out (Below.refl _ _)
                              refine And.intro ?_ ?_
                              · -- 19: slot 289 := Op.call { callee := Callee.builtin Builtin.len, args := #[Operand.tmp 288], argTypes := #[
                                refine lstep_run fun fr wf left => ?_
                                obtain ⟨x13, e13, r13⟩ := left.slot 316 rfl 13 283 _ rfl rfl (by decide) rfl
                                have s13 := Eq.symm (show x13 = .bool false from r13)
                                subst s13
                                obtain ⟨x18, e18, r18⟩ := left.slot 316 rfl 18 288 _ rfl rfl (by decide) rfl
                                have s18 := Eq.symm (show x18 = .slice ad n capv from r18)
                                subst s18
                                refine ⟨wanted_yes rfl rfl e13, fun K hK => ?_⟩
                                have hB := hide left.base
                                clear left
                                go_simp
                                exact hK _ _ rfl hB.out (Below.refl _ _)
                              refine And.intro ?_ ?_
                              · -- 20: slot 290 := Op.binOp BinOp.lss 3 (Operand.tmp 284) (Operand.tmp 289) 3
                                refine lstep_run fun fr wf left => ?_
                                obtain ⟨x13, e13, r13⟩ := left.slot 316 rfl 13 283 _ rfl rfl (by decide) rfl
                                have s13 := Eq.symm (show x13 = .bool false from r13)
                                subst s13
                                obtain ⟨x14, e14, r14⟩ := left.slot 316 rfl 14 284 _ rfl rfl (by decide) rfl
                                have s14 := Eq.symm (show x14 = .int .i64 (j : Int) from r14)
                                subst s14
                                obtain ⟨x19, e19, r19⟩ := left.slot 316 rfl 19 289 _ rfl rfl (by decide) rfl
                                have s19 := Eq.symm (show x19 = .int .i64 (n : Int) from r19)
                                subst s19
                                refine ⟨wanted_yes rfl rfl e13, fun K hK => ?_⟩
                                have hB := hide left.base
                                clear left
                                go_simp
                                exact hK _ _ rfl hB.out (Below.refl _ _)
                              refine And.intro ?_ ?_
                              · -- 21: slot 291 := Op.move (Operand.tmp 290)
                                refine lstep_run fun fr wf left => ?_
                                obtain ⟨x13, e13, r13⟩ := left.slot 316 rfl 13 283 _ rfl rfl (by decide) rfl
                                have s13 := Eq.symm (show x13 = .bool false from r13)
                                subst s13
                                obtain ⟨x20, e20, r20⟩ := left.slot 316 rfl 20 290 _ rfl rfl (by decide) rfl
                                have s20 := Eq.symm (show x20 = .bool false from r20)
                                subst s20
                                refine ⟨wanted_yes rfl rfl e13, fun K hK => ?_⟩
                                have hB := hide left.base
                                clear left
                                go_simp
                                exact hK _ _ rfl hB.out (Below.refl _ _)
                              refine And.intro ?_ ?_
                              · -- 22: slot 292 := Op.move (Operand.tmp 21)
                                refine lstep_skip fun fr wf left => ?_
                                obtain ⟨x21, e21, r21⟩ := left.slot 316 rfl 21 291 _ rfl rfl (by decide) rfl
                                have s21 := Eq.symm (show x21 = .bool false from r21)
                                subst s21
                                exact ⟨wanted_no rfl rfl e21 (by decide), rfl⟩
                              refine And.intro ?_ ?_
                              · -- 23: slot 293 := Op.move (Operand.tmp 27)
                                refine lstep_skip fun fr wf left => ?_
                                obtain ⟨x21, e21, r21⟩ := left.slot 316 rfl 21 291 _ rfl rfl (by decide) rfl
                                have s21 := Eq.symm (show x21 = .bool false from r21)
                                subst s21
                                exact ⟨wanted_no rfl rfl e21 (by decide), rfl⟩
                              refine And.intro ?_ ?_
                              · -- 24: slot 294 := Op.indexAddr 75 (Operand.tmp 292) (Operand.tmp 293)
                                refine lstep_skip fun fr wf left => ?_
                                obtain ⟨x21, e21, r21⟩ := left.slot 316 rfl 21 291 _ rfl rfl (by decide) rfl
                                have s21 := Eq.symm (show x21 = .bool false from r21)
                                subst s21
                                exact ⟨wanted_no rfl rfl e21 (by decide), rfl⟩
                              refine And.intro ?_ ?_
                              · -- 25: slot 295 := Op.load 40 (Operand.tmp 294)
                                refine lstep_skip fun fr wf left => ?_
                                obtain ⟨x21, e21, r21⟩ := left.slot 316 rfl 21 291 _ rfl rfl (by decide) rfl
                                have s21 := Eq.symm (show x21 = .bool false from r21)
                                subst s21
                                exact ⟨wanted_no rfl rfl e21 (by decide), rfl⟩
                              refine And.intro ?_ ?_
                              · -- 26: slot 296 := Op.move (Operand.tmp 28)
                                refine lstep_skip fun fr wf left => ?_
                                obtain ⟨x21, e21, r21⟩ := left.slot 316 rfl 21 291 _ rfl rfl (by decide) rfl
                                have s21 := Eq.symm (show x21 = .bool false from r21)
                                subst s21
                                exact ⟨wanted_no rfl rfl e21 (by decide), rfl⟩
                              refine And.intro ?_ ?_
                              · -- 27: slot 297 := Op.indexAddr 40 (Operand.tmp 295) (Operand.tmp 296)
                                refine lstep_skip fun fr wf left => ?_
                                obtain ⟨x21, e21, r21⟩ := left.slot 316 rfl 21 291 _ rfl rfl (by decide) rfl
                                have s21 := Eq.symm (show x21 = .bool false from r21)
                                subst s21
                                exact ⟨wanted_no rfl rfl e21 (by decide), rfl⟩
                              refine And.intro ?_ ?_
                              · -- 28: slot 298 := Op.fieldAddr 42 (Operand.tmp 297) 0
                                refine lstep_skip fun fr wf left => ?_
                                obtain ⟨x21, e21, r21⟩ := left.slot 316 rfl 21 291 _ rfl rfl (by decide) rfl
                                have s21 := Eq.symm (show x21 = .bool false from r21)
                                subst s21
                                exact ⟨wanted_no rfl rfl e21 (by decide), rfl⟩
                              refine And.intro ?_ ?_
                              · -- 29: slot 299 := Op.load 9 (Operand.tmp 298)
                                refine lstep_skip fun fr wf left => ?_
                                obtain ⟨x21, e21, r21⟩ := left.slot 316 rfl 21 291 _ rfl rfl (by decide) rfl
                                have s21 := Eq.symm (show x21 = .bool false from r21)
                                subst s21
                                exact ⟨wanted_no rfl rfl e21 (by decide), rfl⟩
                              refine And.intro ?_ ?_
                              · -- 30: slot 300 := Op.move (Operand.tmp 27)
                                refine lstep_skip fun fr wf left => ?_
                                obtain ⟨x21, e21, r21⟩ := left.slot 316 rfl 21 291 _ rfl rfl (by decide) rfl
                                have s21 := Eq.symm (show x21 = .bool false from r21)
                                subst s21
                                exact ⟨wanted_no rfl rfl e21 (by decide), rfl⟩
                              refine And.intro ?_ ?_
                              · -- 31: slot 301 := Op.convert 3 5 (Operand.tmp 300)
                                refine lstep_skip fun fr wf left => ?_
                                obtain ⟨x21, e21, r21⟩ := left.slot 316 rfl 21 291 _ rfl rfl (by decide) rfl
                                have s21 := Eq.symm (show x21 = .bool false from r21)
                                subst s21
                                exact ⟨wanted_no rfl rfl e21 (by decide), rfl⟩
                              refine And.intro ?_ ?_
                              · -- 32: slot 302 := Op.buildSlice 56 1 #[(0, Operand.tmp 301)]
                                refine lstep_skip fun fr wf left => ?_
                                obtain ⟨x21, e21, r21⟩ := left.slot 316 rfl 21 291 _ rfl rfl (by decide) rfl
                                have s21 := Eq.symm (show x21 = .bool false from r21)
                                subst s21
                                exact ⟨wanted_no rfl rfl e21 (by decide), rfl⟩
                              refine And.intro ?_ ?_
                              · -- 33: slot 303 := Op.convert 56 9 (Operand.tmp 302)
                                refine lstep_skip fun fr wf left => ?_
                                obtain ⟨x21, e21, r21⟩ := left.slot 316 rfl 21 291 _ rfl rfl (by decide) rfl
                                have s21 := Eq.symm (show x21 = .bool false from r21)
                                subst s21
                                exact ⟨wanted_no rfl rfl e21 (by decide), rfl⟩
                              refine And.intro ?_ ?_
                              · -- 34: slot 304 := Op.binOp BinOp.neq 9 (Operand.tmp 299) (Operand.tmp 303) 9
                                refine lstep_skip fun fr wf left => ?_
                                obtain ⟨x21, e21, r21⟩ := left.slot 316 rfl 21 291 _ rfl rfl (by decide) rfl
                                have s21 := Eq.symm (show x21 = .bool false from r21)
                                subst s21
                                exact ⟨wanted_no rfl rfl e21 (by decide), rfl⟩
                              refine And.intro ?_ ?_
                              · -- 35: slot 305 := Op.pick (Operand.tmp 291) (Operand.tmp 304) (Operand.const (Value.bool false))
                                refine lstep_run fun fr wf left => ?_
                                obtain ⟨x13, e13, r13⟩ := left.slot 316 rfl 13 283 _ rfl rfl (by decide) rfl
                                have s13 := Eq.symm (show x13 = .bool false from r13)
                                subst s13
                                obtain ⟨x21, e21, r21⟩ := left.slot 316 rfl 21 291 _ rfl rfl (by decide) rfl
                                have s21 := Eq.symm (show x21 = .bool false from r21)
                                subst s21
                                obtain ⟨x34, e34, r34⟩ := left.slot 316 rfl 34 304 _ rfl rfl (by decide) rfl
                                have s34 := Eq.symm (show x34 = undef from r34)
                                subst s34
                                refine ⟨wanted_yes rfl rfl e13, fun K hK => ?_⟩
                                have hB := hide left.base
                                clear left
                                go_simp
                                exact hK _ _ rfl hB.out (Below.refl _ _)
                              refine And.intro ?_ ?_
                              · -- 36: slot 306 := Op.pick (Operand.tmp 283) (Operand.const (Value.bool true)) (Operand.tmp 305)
                                refine lstep_run fun fr wf left => ?_
                                obtain ⟨x13, e13, r13⟩ := left.slot 316 rfl 13 283 _ rfl rfl (by decide) rfl
                                have s13 := Eq.symm (show x13 = .bool false from r13)
                                subst s13
                                obtain ⟨x35, e35, r35⟩ := left.slot 316 rfl 35 305 _ rfl rfl (by decide) rfl
                                have s35 := Eq.symm (show x35 = .bool false from r35)
                                subst s35
                                refine ⟨wanted_none rfl, fun K hK => ?_⟩
                                have hB := hide left.base
                                clear left
                                go_simp
                                exact hK _ _ rfl hB.out (Below.refl _ _)
                              exact trivial
                            · intro fr wf hB hs hd hall hkeep
                              have h306 : fr.tmps.getD 306 undef = .bool false := hall 36 _ rfl (by simp)
                              have hfr := act_ext (frame_setL hs hkeep [270, 271, 272, 273, 274, 275, 276, 277, 278, 279, 280, 281, 282, 283, 284, 285, 286, 287, 288, 289, 290, 291, 292, 293, 294, 295, 296, 297, 298, 299, 300, 301, 302, 303, 304, 305, 306] (by kernel_rfl)) hd
                              clear hall hkeep hs hd
                              dsimp only [List.foldl, List.set_cons_zero, List.set_cons_succ] at hfr
                              generalize fr.tmps.getD 270 undef = q270 at hfr
                              generalize fr.tmps.getD 271 undef = q271 at hfr
                              generalize fr.tmps.getD 272 undef = q272 at hfr
                              generalize fr.tmps.getD 273 undef = q273 at hfr
                              generalize fr.tmps.getD 274 undef = q274 at hfr
                              generalize fr.tmps.getD 275 undef = q275 at hfr
                              generalize fr.tmps.getD 276 undef = q276 at hfr
                              generalize fr.tmps.getD 277 undef = q277 at hfr
                              generalize fr.tmps.getD 278 undef = q278 at hfr
                              generalize fr.tmps.getD 279 undef = q279 at hfr
                              generalize fr.tmps.getD 280 undef = q280 at hfr
                              generalize fr.tmps.getD 281 undef = q281 at hfr
                              generalize fr.tmps.getD 282 undef = q282 at hfr
                              generalize fr.tmps.getD 283 undef = q283 at hfr
                              generalize fr.tmps.getD 284 undef = q284 at hfr
                              generalize fr.tmps.getD 285 undef = q285 at hfr
                              generalize fr.tmps.getD 286 undef = q286 at hfr
                              generalize fr.tmps.getD 287 undef = q287 at hfr
                              generalize fr.tmps.getD 288 undef = q288 at hfr
                              generalize fr.tmps.getD 289 undef = q289 at hfr
                              generalize fr.tmps.getD 290 undef = q290 at hfr
                              generalize fr.tmps.getD 291 undef = q291 at hfr
                              generalize fr.tmps.getD 292 undef = q292 at hfr
                              generalize fr.tmps.getD 293 undef = q293 at hfr
                              generalize fr.tmps.getD 294 undef = q294 at hfr
                              generalize fr.tmps.getD 295 undef = q295 at hfr
                              generalize fr.tmps.getD 296 undef = q296 at hfr
                              generalize fr.tmps.getD 297 undef = q297 at hfr
                              generalize fr.tmps.getD 298 undef = q298 at hfr
                              generalize fr.tmps.getD 299 undef = q299 at hfr
                              generalize fr.tmps.getD 300 undef = q300 at hfr
                              generalize fr.tmps.getD 301 undef = q301 at hfr
                              generalize fr.tmps.getD 302 undef = q302 at hfr
                              generalize fr.tmps.getD 303 undef = q303 at hfr
                              generalize fr.tmps.getD 304 undef = q304 at hfr
                              generalize fr.tmps.getD 305 undef = q305 at hfr
                              generalize fr.tmps.getD 306 undef = q306 at hfr h306
                              subst hfr
                              subst h306
                              have HBF := hide hB
                              clear hB
                              go_wp2_with fail
                              go_meet
                              case rel => exact ⟨rfl, HBF.out⟩
                            -- END REGION mem7b
                        case rest =>
                          obtain ⟨h306, hb9⟩ := hcut.out
                          subst h306
                          have HB9 := hide (HQ.out.trans (hb9.mono HQ.out.size))
                          clear hcut hb9
                          go_wp2_with fail
                          go_roundg (N - (j + 1))
                          case measure => omega
                          case rel => exact ⟨j + 1, by omega, rfl, by go_num, HB9.out⟩
                      · obtain rfl : j = N := by omega
                        clear hjt
                        go_wp2_with fail
                        clear hcg
                        go_roundg (4 - (i + 1))
                        case measure => omega
                        case rel => exact ⟨i + 1, by omega, rfl, by go_num, HQ.out⟩
                  · obtain rfl : i = 4 := by omega
                    clear hlt
                    go_wp2_with fail
                    go_meet
                    case rel => exact HR.out
              case rest =>
                have HE := hide (show DiskAt wc D' (Dk.memY fl nn keep) ∧ wc.ownsRow B7 42 2 vs LS (flatF st) ∧ Below B1 w1 wc from by
                  have h1 := HGR.out.2.2.1
                  have h2 := hcut.out
                  exact ⟨h1.disk.past h2, own_below h1.stays h2, h1.below.trans (h2.mono (by rw [HBQ.out.1]; exact h1.below.size))⟩)
                clear hcut
                go_wp2_with fail
                refine (syncA_val D' (Dk.memY fl nn keep) (Dk.fallen (Dk.struck (Dk.memY fl nn keep))) ⟨#[97]⟩ 170 _ HE.out.1 (by decide) (by rw [show (Dk.memY fl nn keep).acts = (Dk.memW fl nn).acts from rfl, (Dk.memW_flat fl nn).2.2]; decide) (by rw [show (Dk.memY fl nn keep).files = (Dk.memW fl nn).files from rfl, (Dk.mem_files fl HNN.out.1).1]; have := HNN.out; omega) HKL.out (Dk.mem_sync fl nn keep)).mono ?_
                rintro e wy ⟨rfl, D2, hg2, _, _, _, hD2, hm2⟩
                have hown2 : ∀ k, Dk.own D' k → k = D'.g ∨ k = D'.mb := fun k h => h
                have HF := hide (show DiskAt wy D2 (Dk.fallen (Dk.struck (Dk.memY fl nn keep))) ∧ wy.ownsRow B7 42 2 vs LS (flatF st) ∧ Below B1 w1 wy from by
                  refine ⟨hD2, row_moved HE.out.2.1 hm2 fun b hb h => ?_, HE.out.2.2.trans (hm2.below (by rw [HBQ.out.1]; exact HE.out.2.2.size) fun k h => ?_)⟩
                  · have h1 := (HE.out.2.1.lt b hb).1
                    have h2 := HDK.out
                    have h3 := HDN.out
                    have h4 := HGB.out
                    have h5 := hown2 b h
                    omega
                  · have h1 := HDL.out
                    have h2 := hown2 k h
                    omega)
                rw [← hg2]
                clear hg2 hD2 hm2 hown2
                go_wp2_with fail
                refine (diskFiles_any D2 _ _ HF.out.1).mono ?_
                rintro e wf1 ⟨vf, rfl, hown, hb⟩
                rw [Dk.mem_end fl nn keep H5.out.1.ok.up, ← HST.out, ← HLS.out] at hown
                obtain ⟨af, cf, rfl⟩ := own_form hown
                have HL := hide (And.intro hown hb)
                clear hown hb
                go_wp2_with fail
                refine (same_val _ _ st st true _ (slf_own HL.out.1 HLS.out) (slf_own (own_below HF.out.2.1 HL.out.2) HLS.out) (by rw [← HLS.out]; omega) (by rw [← HLS.out]; omega) (decide_eq_true rfl)).mono ?_
                rintro e wf2 ⟨rfl, hb⟩
                have HL2 := hide (HF.out.2.2.trans ((HL.out.2.trans (hb.mono HL.out.2.size)).mono (by rw [HBQ.out.1]; exact HF.out.2.2.size)))
                clear hb
                go_wp2_with fail
                all_goals (go_ret; exact ⟨rfl, HB1.out.trans (HL2.out.mono HBQ.out.2)⟩)
end Go.Proofs.Ytiiblpgiafbaoaa
