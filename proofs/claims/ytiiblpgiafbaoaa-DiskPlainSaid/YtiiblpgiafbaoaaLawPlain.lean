/-
  massiflaw17.DiskPlain answers true: the walk.
-/
import Derived.Test.YtiiblpgiafbaoaaPlainPure
import Derived.Test.YtiiblpgiafbaoaaLawOps
import Derived.Lib.SlicesS
import Derived.Deep.CutBlock
namespace Go.Proofs.Ytiiblpgiafbaoaa
open Go Go.RowKit Go.Maps
theorem wp_append_file {o : Oper} {a : Act} {w : World} {K : Act → World → Prop} {Q : Exit → Act → World → Prop} (s x : Operand)
    (ho : o.op = .call { callee := .builtin .append, args := #[s, x], argTypes := #[40, 40] })
    (base : Nat) (v : Value) (n : Nat) (xs : List Value) (hs : a.eval s = v) (hown : w.ownsRow base 42 2 v n xs) (B : Nat) (p q : ByteArray)
    (hx : a.eval x = .slice (some ⟨B, 0, none⟩) 1 1) (hB : w.heap[B]? = some (.cells #[.string p, .string q] 42 (0, 0))) (hn : n < 1099511627776) (hbase : base ≤ w.heap.size)
    (h : ∀ v' w', w'.ownsRow base 42 2 v' (n + 1) (xs ++ [.string p, .string q]) → w.grownBy w' v.ownBlock → K (a.put o.dst v') w') : o.wp Try.prog a w K Q := by
  obtain ⟨i, hi, hz0, hz1, hz2⟩ := info_parts info_file
  refine wp_append_own (w := w) s x 40 ho base 42 i _ 2 32 Try.underlying40 hi hz0 hz1 hz2 rfl (by decide) v n xs hs hown ⟨B, 0, none⟩ 1 1 [.string p, .string q] hx rfl ?_ ?_ (by unfold maxLen; omega) (by omega) hbase (fun v' w' h2 h3 _ => h v' w' h2 h3)
  · intro j u hj
    rw [Addr.add_lit, cell_blk hB]
    rcases j with _|_|j
    · simpa using hj
    · simpa using hj
    · simp at hj
  · intro u hu
    simp only [List.mem_cons, List.mem_nil_iff, or_false] at hu
    rcases hu with rfl | rfl <;> rfl
-- DEFS plm
def plmL (D : Dk.Blk) (x2 : ByteArray) (a2 q tb : Nat) : List Sp :=
  [.is (.int .i64 0), .is (.bool false), .is (.bool false), .is (.string x2), .is (.slice (some ⟨tb, 0, none⟩) 3 3), .is (.int .i64 (q : Int)), .is (.pointer (some ⟨tb, q, none⟩)), .is (.string x2), .is (.bool false), .is (.bool false), .is (.bool false), .is (.int .i64 173), .is (.bool false), .is (.bool false), .is (.bool false), .is (.pointer (some ⟨D.g, 0, none⟩)), .is (.string (Dk.nm q)), .is (.int .i64 (x2.size : Int)), .is (.slice (some ⟨tb, 0, none⟩) 3 3), .is (.int .i64 (q : Int)), .is (.pointer (some ⟨tb, q, none⟩)), .is (.string x2), .is (.int .i64 (x2.size : Int)), .is (.bool false), .is (.bool false), .is (.bool false), .is (.pointer (some ⟨D.g, 0, none⟩)), .is (.int .i64 (a2 : Int)), .is (.int .i64 (a2 : Int)), .is (.bool false), .is (.bool false), .is (.bool false), .is (.pointer (some ⟨D.g, 0, none⟩)), .is (.bool false), .is (.bool false)]
def plmU : List (List Nat) := [[], [0], [1], [2], [2], [2], [2, 4, 5], [2, 6], [2, 3, 7], [2, 8], [9], [10], [10, 11], [10, 12], [13], [14], [14], [14, 15, 16], [14], [14], [14, 18, 19], [14, 20], [14, 21], [14, 17, 22], [14, 23], [24], [25], [25, 26], [25], [25, 27, 28], [25, 29], [30], [31], [31, 32], [31, 33]]
-- END plm
-- DEFS pla0
def pla0L (e : Dk.Tri) (u23 : Value) (n : Nat) (xs : List Value) (nb tb B2 : Nat) : List Sp :=
  [.is (u23), .is (.slice (some ⟨nb, 0, none⟩) 3 3), .is (.int .i64 2), .is (.pointer (some ⟨nb, 2, none⟩)), .is (.string (Dk.nm 2)), .is (.slice (some ⟨tb, 0, none⟩) 3 3), .is (.int .i64 2), .is (.pointer (some ⟨tb, 2, none⟩)), .is (.string (e.txt 2)), .is (.agg #[.string (Dk.nm 2), .string (e.txt 2)]), .rel (fun v u => ∃ B, v = .slice (some ⟨B, 0, none⟩) 1 1 ∧ u.heap[B]? = some (.cells #[.string (Dk.nm 2), .string (e.txt 2)] 42 (0, 0))) (fun _ _ _ h hb => by obtain ⟨B, h1, h2⟩ := h; exact ⟨B, h1, blk_stable _ _ h2 hb⟩), .rel (fun v u => u.ownsRow B2 42 2 v (n + 1) (xs ++ [.string (Dk.nm 2), .string (e.txt 2)])) (fun _ _ _ h hb => own_below h hb), .rel (fun v u => u.ownsRow B2 42 2 v (n + 1) (xs ++ [.string (Dk.nm 2), .string (e.txt 2)])) (fun _ _ _ h hb => own_below h hb)]
def pla0U : List (List Nat) := [[], [], [], [1, 2], [3], [], [], [5, 6], [7], [4, 8], [9], [0, 10], [11]]
-- END pla0
-- DEFS pla1
def pla1L (e : Dk.Tri) (u23 : Value) (n : Nat) (xs : List Value) (nb tb B2 : Nat) : List Sp :=
  [.is (u23), .is (.slice (some ⟨nb, 0, none⟩) 3 3), .is (.int .i64 0), .is (.pointer (some ⟨nb, 0, none⟩)), .is (.string (Dk.nm 0)), .is (.slice (some ⟨tb, 0, none⟩) 3 3), .is (.int .i64 0), .is (.pointer (some ⟨tb, 0, none⟩)), .is (.string (e.txt 0)), .is (.agg #[.string (Dk.nm 0), .string (e.txt 0)]), .rel (fun v u => ∃ B, v = .slice (some ⟨B, 0, none⟩) 1 1 ∧ u.heap[B]? = some (.cells #[.string (Dk.nm 0), .string (e.txt 0)] 42 (0, 0))) (fun _ _ _ h hb => by obtain ⟨B, h1, h2⟩ := h; exact ⟨B, h1, blk_stable _ _ h2 hb⟩), .rel (fun v u => u.ownsRow B2 42 2 v (n + 1) (xs ++ [.string (Dk.nm 0), .string (e.txt 0)])) (fun _ _ _ h hb => own_below h hb), .rel (fun v u => u.ownsRow B2 42 2 v (n + 1) (xs ++ [.string (Dk.nm 0), .string (e.txt 0)])) (fun _ _ _ h hb => own_below h hb)]
def pla1U : List (List Nat) := [[], [], [], [1, 2], [3], [], [], [5, 6], [7], [4, 8], [9], [0, 10], [11]]
-- END pla1
-- DEFS pla2
def pla2L (e : Dk.Tri) (u23 : Value) (n : Nat) (xs : List Value) (nb tb B2 : Nat) : List Sp :=
  [.is (u23), .is (.slice (some ⟨nb, 0, none⟩) 3 3), .is (.int .i64 1), .is (.pointer (some ⟨nb, 1, none⟩)), .is (.string (Dk.nm 1)), .is (.slice (some ⟨tb, 0, none⟩) 3 3), .is (.int .i64 1), .is (.pointer (some ⟨tb, 1, none⟩)), .is (.string (e.txt 1)), .is (.agg #[.string (Dk.nm 1), .string (e.txt 1)]), .rel (fun v u => ∃ B, v = .slice (some ⟨B, 0, none⟩) 1 1 ∧ u.heap[B]? = some (.cells #[.string (Dk.nm 1), .string (e.txt 1)] 42 (0, 0))) (fun _ _ _ h hb => by obtain ⟨B, h1, h2⟩ := h; exact ⟨B, h1, blk_stable _ _ h2 hb⟩), .rel (fun v u => u.ownsRow B2 42 2 v (n + 1) (xs ++ [.string (Dk.nm 1), .string (e.txt 1)])) (fun _ _ _ h hb => own_below h hb), .rel (fun v u => u.ownsRow B2 42 2 v (n + 1) (xs ++ [.string (Dk.nm 1), .string (e.txt 1)])) (fun _ _ _ h hb => own_below h hb)]
def pla2U : List (List Nat) := [[], [], [], [1, 2], [3], [], [], [5, 6], [7], [4, 8], [9], [0, 10], [11]]
-- END pla2
theorem newSt_plain {R : Int} (h : 0 ≤ R) : Dk.newSt R = Dk.plainSt R ⟨none, none, none⟩ 0 := by
  unfold Dk.newSt Dk.plainSt
  rw [show max R 0 = R by omega]; rfl
theorem bent_nat (n : Int) (m : Nat) : ∃ k : Nat, k ≤ m ∧ Dk.bent n m = k := by
  have := Dk.bent_range (n := n) (m := m) (by omega)
  exact ⟨(Dk.bent n m).toNat, by omega, by omega⟩
def txCells (e : Dk.Tri) : Array Value := #[.string (e.txt 0), .string (e.txt 1), .string (e.txt 2)]
def nmCells : Array Value := #[.string (Dk.nm 0), .string (Dk.nm 1), .string (Dk.nm 2)]
theorem txCells_at (e : Dk.Tri) {w : Nat} (hw : w < 3) : (txCells e)[w]? = some (.string (e.txt w)) := by
  obtain rfl | rfl | rfl : w = 0 ∨ w = 1 ∨ w = 2 := by omega
  all_goals rfl
theorem txCells_set (e : Dk.Tri) {w : Nat} (hw : w < 3) (f : Dk.F) : (txCells e).setIfInBounds w (.string f.now) = txCells (e.set w f) := by
  obtain rfl | rfl | rfl : w = 0 ∨ w = 1 ∨ w = 2 := by omega
  all_goals rfl
theorem txCells_same (e : Dk.Tri) {w : Nat} (hw : w < 3) : (txCells e).setIfInBounds w (.string (e.txt w)) = txCells e := by
  obtain rfl | rfl | rfl : w = 0 ∨ w = 1 ∨ w = 2 := by omega
  all_goals rfl
theorem nmCells_at {w : Nat} (hw : w < 3) : nmCells[w]? = some (.string (Dk.nm w)) := by
  obtain rfl | rfl | rfl : w = 0 ∨ w = 1 ∨ w = 2 := by omega
  all_goals rfl
set_option maxHeartbeats 16000000 in
set_option maxRecDepth 100000 in
theorem plain_any (room : Int) (v1 : Value) (ops : List Dk.OpV) (w : World) (hroom : (Lit.int .i64 room).wf = true) (h1 : OpsAt w v1 ops) (hl1 : ops.length ≤ 140737488351232) :
    Calls Try.prog 3 #[.int .i64 room, v1] w fun e w' => e = .returned (.bool true) ∧ Below w.heap.size w w' := by
  obtain ⟨len1, a1, cap1, e1, rfl, hc1, HC1⟩ := h1.form
  have H1 := hide HC1
  have HOK := hide h1.ok
  have HN := hide e1
  have hn1 : len1 ≤ 140737488351232 := by omega
  clear h1 HC1 e1 hl1
  go_enter Try.func3, Try.ntmps3
  go_wp2_with fail
  refine (alive_any _).mono ?_
  rintro e w1 ⟨rfl, hb1⟩
  have HB1 := hide hb1
  clear hb1
  go_wp2_with fail
  obtain ⟨R, hR4, hR⟩ := bent_nat room 4000
  refine (bent_val room 4000 (R : Int) w1 hroom (by decide) hR).mono ?_
  rintro e w' ⟨rfl, rfl⟩
  have HR4 := hide hR4
  clear hR hR4 hroom
  go_wp2_with fail
  refine (diskNew_any (R : Int) w' (Dk.wf_i64 (by have := HR4.out; omega) (by have := HR4.out; omega))).mono ?_
  rintro e w2 ⟨D, rfl, hD, hg, hm, hkv, hb⟩
  rw [newSt_plain (by omega)] at hD
  have HD := hide (And.intro hD (And.intro hg (And.intro hm (And.intro hkv hb))))
  clear hD hg hm hkv hb
  go_upto_region 7 with (fail)
  obtain ⟨nb, hnb⟩ : ∃ x, x = w2.heap.size := ⟨_, rfl⟩
  obtain ⟨W3, hW3⟩ : ∃ V, V = w2.alloc (.cells #[.string ⟨#[97]⟩, .string ⟨#[98]⟩, .string ⟨#[]⟩] 9) := ⟨_, rfl⟩
  rw [← hW3]
  obtain ⟨tb, htb2⟩ : ∃ x, x = nb + 1 := ⟨_, rfl⟩
  have htb : tb = W3.heap.size := by rw [htb2, hnb, hW3]; simp
  obtain ⟨W4, hW4⟩ : ∃ V, V = W3.alloc (.cells #[.string ⟨#[]⟩, .string ⟨#[]⟩, .string ⟨#[]⟩] 9) := ⟨_, rfl⟩
  rw [← hW4, ← hnb]
  have h3 : Below w2.heap.size w2 W3 := by rw [hW3]; exact (Below.refl _ _).alloc (Nat.le_refl _) _
  have h4 : Below W3.heap.size W3 W4 := by rw [hW4]; exact (Below.refl _ _).alloc (Nat.le_refl _) _
  have hnc : W3.heap[nb]? = some (.cells nmCells 9 (0, 0)) := by rw [hW3, hnb]; exact alloc_at _ _
  have hnbt : nb < tb := by rw [htb]; exact heap_lt hnc
  have HM := hide (show w.heap.size ≤ nb ∧ nb < tb ∧ w.heap.size ≤ D.g ∧ w.heap.size ≤ D.mb ∧ D.g < nb ∧ D.mb < nb ∧ D.kv = .slice none 0 0 from by
    have := HB1.out.size; have := HD.out.2.1; have := HD.out.2.2.1; have := HD.out.1.glt; have := HD.out.1.map.lt; have := HD.out.2.2.2.2.size
    refine ⟨by omega, hnbt, by omega, by omega, by omega, by omega, HD.out.2.2.2.1⟩)
  have H4 := hide (show DiskAt W4 D (Dk.plainSt R ⟨none, none, none⟩ 0) ∧ W4.heap[nb]? = some (.cells nmCells 9 (0, 0)) ∧ W4.heap[tb]? = some (.cells (txCells ⟨none, none, none⟩) 9 (0, 0)) ∧ Below w.heap.size w W4 from
    ⟨(HD.out.1.past h3).past h4, (h4.block nb (by rw [← htb]; exact hnbt)).trans hnc, by rw [hW4, htb]; exact alloc_at _ _, HB1.out.trans (((HD.out.2.2.2.2.trans (h3.mono HD.out.2.2.2.2.size)).trans (h4.mono (Nat.le_trans HD.out.2.2.2.2.size h3.size))).mono HB1.out.size)⟩)
  rw [← htb2]
  clear htb2 h3 h4 hnc hnbt hW3 hW4 hnb htb
  go_upto_block 0 with (fail)
  go_cut [8] from 9 to 234 (fun v8 wx => ∃ (a : Nat) (e : Dk.Tri), v8 = .int .i64 a ∧ Hid ((e.sum : Int) ≤ R ∧ DiskAt wx D (Dk.plainSt R e a) ∧ wx.heap[nb]? = some (.cells nmCells 9 (0, 0)) ∧ wx.heap[tb]? = some (.cells (txCells e) 9 (0, 0)) ∧ Below w.heap.size w wx))
  case first =>
   go_wp2_with fail
   go_loopg [8, 9] 80 (fun g v8 v9 wr => ∃ (i a : Nat) (e : Dk.Tri), i ≤ 80 ∧ a ≤ i ∧ g = 80 - i ∧ v9 = .int .i64 i ∧ v8 = .int .i64 a ∧ Hid ((e.sum : Int) ≤ R ∧ DiskAt wr D (Dk.plainSt R e a) ∧ wr.heap[nb]? = some (.cells nmCells 9 (0, 0)) ∧ wr.heap[tb]? = some (.cells (txCells e) 9 (0, 0)) ∧ Below w.heap.size w wr))
   case atStart => exact ⟨0, 0, _, by omega, Nat.le_refl _, rfl, rfl, rfl, by show ((0 : Nat) : Int) ≤ R; omega, H4.out⟩
   case round =>
    obtain ⟨i, a, e, hi80, hai, rfl, rfl, rfl, HR⟩ := hrel
    by_cases hil : i < len1
    · by_cases hi : i < 80
      · obtain ⟨o, ho⟩ : ∃ o, ops[i]? = some o := ⟨_, List.getElem?_eq_getElem (by rw [← HN.out]; exact hil)⟩
        obtain ⟨b, off, kv, rfl, hbw, hrange, hkv⟩ := H1.out i o ho
        have hok := HOK.out o (List.mem_of_getElem? ho)
        have hbel := HR.out.2.2.2.2
        have HRG := hide (show wr.rangeAt b (off + i * 7) (Dk.opCells o kv) from fun j v hv => by rw [hbel.cell (p := ⟨b, off + i * 7 + j, none⟩) hbw]; exact hrange j v hv)
        have HO := hide hok
        obtain ⟨klen, ka, kcap, hk1, rfl, hk2, hk3⟩ := hkv.form
        clear hk1 hk2 hk3
        clear ho hbw hrange hkv hok hbel
        obtain ⟨kind, which, name, data, at_, n, keep⟩ := o
        unfold Dk.opCells at HRG
        go_upto_region 12 with (refine wpList_load_mid rfl 30 (.tmp 46) rfl b (off + i * 7) rfl _ _ HRG.out Try.underlying30 rfl (by kernel_rfl) ?_)
        obtain ⟨b8, hb8⟩ : ∃ x, x = wr.heap.size := ⟨_, rfl⟩
        rw [← hb8]
        obtain ⟨W8, hW8⟩ : ∃ V, V = wr.alloc (.cells #[.int .i64 kind, .int .i64 which, .string name, .string data, .int .i64 at_, .int .i64 n, .slice ka klen kcap] 30) := ⟨_, rfl⟩
        rw [← hW8]
        have hb : Below wr.heap.size wr W8 := by rw [hW8]; exact (Below.refl _ _).alloc (Nat.le_refl _) _
        have hbk : W8.heap[b8]? = some (.cells #[.int .i64 kind, .int .i64 which, .string name, .string data, .int .i64 at_, .int .i64 n, .slice ka klen kcap] 30 (0, 0)) := by rw [hW8, hb8]; exact alloc_at _ _
        have c0 : W8.cell? ⟨b8, 0, none⟩ = some (.int .i64 kind) := (cell_blk hbk 0).trans rfl
        have c1 : W8.cell? ⟨b8, 1, none⟩ = some (.int .i64 which) := (cell_blk hbk 1).trans rfl
        have c3 : W8.cell? ⟨b8, 3, none⟩ = some (.string data) := (cell_blk hbk 3).trans rfl
        have c4 : W8.cell? ⟨b8, 4, none⟩ = some (.int .i64 at_) := (cell_blk hbk 4).trans rfl
        have H8 := hide (show DiskAt W8 D (Dk.plainSt R e a) ∧ W8.heap[nb]? = some (.cells nmCells 9 (0, 0)) ∧ W8.heap[tb]? = some (.cells (txCells e) 9 (0, 0)) ∧ Below w.heap.size w W8 from
          ⟨HR.out.2.1.past hb, (hb.block nb (heap_lt HR.out.2.2.1)).trans HR.out.2.2.1, (hb.block tb (heap_lt HR.out.2.2.2.1)).trans HR.out.2.2.2.1, HR.out.2.2.2.2.trans (hb.mono HR.out.2.2.2.2.size)⟩)
        obtain ⟨q, hq2, hq⟩ := bent_nat which 2
        have hq3 : q < 3 := by omega
        have HS := hide HR.out.1
        clear hb hbk hW8 hb8 HR
        go_wp2_with fail
        refine (bent_val which 2 (q : Int) W8 HO.out.which (by decide) hq).mono ?_
        rintro e0 wz ⟨rfl, he⟩
        subst he
        have HQ := hide (And.intro hq2 hq3)
        have n1 : wz.cell? ⟨nb, q, none⟩ = some (.string (Dk.nm q)) := (cell_blk H8.out.2.1 q).trans (nmCells_at hq3)
        have t1 : wz.cell? ⟨tb, q, none⟩ = some (.string (e.txt q)) := (cell_blk H8.out.2.2.1 q).trans (txCells_at e hq3)
        have tt0 : wz.cell? ⟨tb, 0, none⟩ = some (.string (e.txt 0)) := (cell_blk H8.out.2.2.1 0).trans (txCells_at e (by decide))
        have tt1 : wz.cell? ⟨tb, 1, none⟩ = some (.string (e.txt 1)) := (cell_blk H8.out.2.2.1 1).trans (txCells_at e (by decide))
        have tt2 : wz.cell? ⟨tb, 2, none⟩ = some (.string (e.txt 2)) := (cell_blk H8.out.2.2.1 2).trans (txCells_at e (by decide))
        have hq3i : (q : Int) < 3 := by omega
        clear hq hq2
        have HZ := hide (show (e.txt 0).size ≤ 4000 ∧ (e.txt 1).size ≤ 4000 ∧ (e.txt 2).size ≤ 4000 ∧ (e.txt q).size ≤ 4000 from by
          have := HS.out; have := HR4.out; have := e.le_sum 0 (by decide); have := e.le_sum 1 (by decide); have := e.le_sum 2 (by decide); have := e.le_sum q hq3; omega)
        go_upto_region 13 with (fail)
        go_quiet (fail)
        go_upto_region 14 with (fail)
        go_quiet (fail)
        go_upto_region 15 with (fail)
        have hu : wrap64 (wrap64 (((e.txt 0).size : Int) + (e.txt 1).size) + (e.txt 2).size) = (e.sum : Int) := by
          have := HZ.out
          rw [IntWalk.wrap64_in ((e.txt 0).size + (e.txt 1).size : Int) (by omega), IntWalk.wrap64_in _ (by omega)]
          unfold Dk.Tri.sum; omega
        rw [hu]
        generalize hW9 : World.drewN (World.drewN _ _) _ = W9
        have hb9 : Below wz.heap.size wz W9 := by rw [← hW9]; exact below_drewN (below_drewN (Below.refl _ _) _) _
        replace c0 : W9.cell? ⟨b8, 0, none⟩ = some (.int .i64 kind) := hW9 ▸ c0
        replace c3 : W9.cell? ⟨b8, 3, none⟩ = some (.string data) := hW9 ▸ c3
        replace c4 : W9.cell? ⟨b8, 4, none⟩ = some (.int .i64 at_) := hW9 ▸ c4
        have H9 := hide (show DiskAt W9 D (Dk.plainSt R e a) ∧ W9.heap[nb]? = some (.cells nmCells 9 (0, 0)) ∧ W9.heap[tb]? = some (.cells (txCells e) 9 (0, 0)) ∧ Below w.heap.size w W9 from
          ⟨H8.out.1.past hb9, (hb9.block nb (heap_lt H8.out.2.1)).trans H8.out.2.1, (hb9.block tb (heap_lt H8.out.2.2.1)).trans H8.out.2.2.1, H8.out.2.2.2.trans (hb9.mono H8.out.2.2.2.size)⟩)
        clear hu hW9 hb9 H8 n1 t1 tt0 tt1 tt2 c1
        obtain ⟨z, hz2, hz⟩ := bent_nat at_ (e.txt q).size
        go_wp2_with fail
        refine (bent_val at_ ((e.txt q).size : Int) (z : Int) W9 HO.out.at_ (by have := HZ.out; omega) hz).mono ?_
        rintro e0 wy ⟨rfl, he⟩
        subst he
        clear hz
        obtain ⟨pr, hpr⟩ : ∃ p, p = Dk.plainC R e a q z kind (Dk.short data 300) := ⟨_, rfl⟩
        have HPR := hide hpr
        clear hpr
        go_upto_block 2 with (fail)
        go_cut [8, 16, 17, 18] from 80 to 177 (fun v8 v16 v17 v18 wx => Hid (v8 = .int .i64 pr.2 ∧ DiskAt wx D (Dk.plainSt R pr.1 pr.2) ∧ wx.heap[nb]? = some (.cells nmCells 9 (0, 0)) ∧ wx.heap[tb]? = some (.cells (txCells pr.1) 9 (0, 0)) ∧ Below w.heap.size w wx))
-- FIRST
        case first =>
          as_aux_lemma =>
            obtain ⟨dt, hdt⟩ : ∃ d, d = Dk.short data 300 := ⟨_, rfl⟩
            have HDT := hide (show dt.size ≤ 300 by rw [hdt]; exact Dk.short_size _ _)
            have HPA := hide (show pr.2 ≤ a + 1 by rw [HPR.out]; exact Dk.plain_acts)
            have HHO := hide HO.out.data
            rw [← hdt] at HPR
            by_cases k1 : kind = 1
            · subst k1
              go_wp2_with fail
              refine (short_any data 300 wy HHO.out (by decide)).mono ?_
              rintro e0 wy2 ⟨rfl, he⟩
              subst he
              rw [← hdt]
              clear hdt
              have hzd : z + dt.size ≤ 9223372036854775807 := by have := HDT.out; have := HZ.out; omega
              obtain ⟨y, hy⟩ : ∃ y, y = Dk.over (e.txt q) z dt := ⟨_, rfl⟩
              obtain ⟨y0, hy0⟩ : ∃ y, y = (e.txt q).extract 0 z ++ dt := ⟨_, rfl⟩
              have HYZ := hide (show y0.size = z + dt.size ∧ y.size = max (e.txt q).size (z + dt.size) from ⟨by rw [hy0, ByteArray.size_append, ByteArray.size_extract]; omega, by rw [hy]; exact Dk.over_size_eq hz2⟩)
              have hwc := Dk.plain_writeC (room := R) (e := e) (a := a) (w := q) (data := dt) hq3 hz2 HDT.out HS.out (by have := HR4.out; omega)
              rw [← hy] at hwc
              have hpr2 := HPR.out
              unfold Dk.plainC at hpr2
              rw [if_pos rfl, ← hy] at hpr2
              have HWC := hide (And.intro hwc hpr2)
              clear hwc hpr2
              have HWW := hide (show ∀ n : Nat, n ≤ 5000 → wrap64 (wrap64 ((e.sum : Int) - (e.txt q).size) + n) = (e.sum : Int) - (e.txt q).size + n from fun n hn => by
                have := HS.out; have := HR4.out; have := HZ.out
                rw [IntWalk.wrap64_in ((e.sum : Int) - (e.txt q).size) (by omega), IntWalk.wrap64_in _ (by omega)])
              have HY0 := hide hy0
              by_cases hlt : y0.size < (e.txt q).size
              · have hyy : y = y0 ++ (e.txt q).extract y0.size (e.txt q).size := by rw [hy, hy0]; rw [hy0] at hlt; exact Dk.over_short hlt hz2
                have HYY := hide hyy
                have hgt : ¬ (e.txt q).size < y.size := by have := HYZ.out; omega
                have hcc : y0.size + ((e.txt q).size - y0.size) ≤ 9223372036854775807 := by have := HZ.out; omega
                have hwc := HWC.out
                rw [if_neg (fun h => hgt h.1), if_neg (fun h => hgt h.1)] at hwc
                obtain ⟨hw1, hpr1⟩ := hwc
                have HWR := hide (show Dk.writeC (Dk.plainSt R e a) (Dk.nm q) z dt = (0, Dk.plainSt R pr.1 pr.2) by rw [hw1, hpr1])
                have HTX := hide (show pr.1.txt q = y by rw [hpr1]; unfold Dk.Tri.txt; rw [Dk.Tri.set_at _ _ hq3 _ _ hq3, if_pos rfl])
                have HYS := hide (show y.size ≤ 4300 by have := HZ.out; have := HDT.out; have := HYZ.out; omega)
                have HTE := hide (show (txCells e).setIfInBounds q (.string y) = txCells pr.1 by rw [hpr1]; exact txCells_set e hq3 ⟨y, (e.at q).was⟩)
                have HV8 := hide (show pr.2 = a + 1 by rw [hpr1])
                clear hw1 hpr1
                clear hyy hy
                go_upto_region 23 with (fail)
                rw [← HY0.out]
                clear hy0
                go_upto_region 26 with (fail)
                rw [← HYY.out]
                go_wp2_with fail
                as_aux_lemma =>
                  have hys : y.size ≤ 4300 := HYS.out
                  refine (write_val D _ _ (Dk.nm q) (z : Int) dt 0 wy2 H9.out.1 (Dk.nm_size q) (by have := HDT.out; omega) (Dk.wf_i64 (by omega) (by have := HZ.out; omega)) rfl (show a < 4611686018427387904 by omega) (Nat.lt_of_le_of_lt (Dk.tri_len _) (by decide)) HWR.out).mono ?_
                  rintro e0 wa ⟨rfl, hD, hM⟩
                  have HA := hide (And.intro hD hM)
                  clear hD hM
                  go_wp2_with fail
                  refine (write_val D _ _ (Dk.nm q) _ dt 173 wa HA.out.1 (Dk.nm_size q) (by have := HDT.out; omega) (Dk.wf_i64 (by omega) (by omega)) rfl (show pr.2 < 4611686018427387904 by have := HPA.out; omega) (Nat.lt_of_le_of_lt (Dk.tri_len _) (by decide)) (Dk.plain_write_off HQ.out.2 (.inr (by rw [HTX.out]; omega)))).mono ?_
                  rintro e0 wb ⟨rfl, hD, hM⟩
                  have HB := hide (And.intro hD (HA.out.2.then hM))
                  clear hD hM
                  go_wp2_with fail
                  refine (write_val D _ _ (Dk.nm q) _ dt 173 wb HB.out.1 (Dk.nm_size q) (by have := HDT.out; omega) (by decide) rfl (show pr.2 < 4611686018427387904 by have := HPA.out; omega) (Nat.lt_of_le_of_lt (Dk.tri_len _) (by decide)) (Dk.plain_write_off HQ.out.2 (.inl (by decide)))).mono ?_
                  rintro e0 wc ⟨rfl, hD, hM⟩
                  have hM2 := HB.out.2.then hM
                  have HC := hide (show DiskAt wc D (Dk.plainSt R pr.1 pr.2) ∧ wc.heap[nb]? = some (.cells nmCells 9 (0, 0)) ∧ wc.heap[tb]? = some (.cells (txCells e) 9 (0, 0)) ∧ Below w.heap.size w wc from by
                    obtain ⟨g1, g2, g3, g4, g5, g6, g7⟩ := HM.out
                    exact ⟨hD, (hM2.block nb (heap_lt H9.out.2.1) (fun h => by rcases h with h | h <;> omega)).trans H9.out.2.1, (hM2.block tb (heap_lt H9.out.2.2.1) (fun h => by rcases h with h | h <;> omega)).trans H9.out.2.2.1, H9.out.2.2.2.trans (hM2.below H9.out.2.2.2.size (fun k h => by rcases h with h | h <;> omega))⟩)
                  have hcT : wc.cell? ⟨tb, q, none⟩ = some (.string (e.txt q)) := (cell_blk HC.out.2.2.1 q).trans (txCells_at e hq3)
                  have hfT := frozen_blk HC.out.2.2.1 q
                  have HPE := hide (show (txCells e).setIfInBounds q (.string y) = txCells pr.1 from HTE.out)
                  clear hD hM hM2
                  go_wp2_with fail
                  go_meet
                  case rel =>
                    have hMM : Moved (fun k => k = tb) wc (wc.setCell ⟨tb, q, none⟩ (.string y)) := Moved.setCell (S := fun k => k = tb) (Moved.refl _ _) (a := ⟨tb, q, none⟩) rfl _
                    refine ⟨by rw [HV8.out]; rfl, HC.out.1.stay hMM (by obtain ⟨g1, g2, g3, g4, g5, g6, g7⟩ := HM.out; exact ⟨fun h => by have h : D.g = tb := h; omega, fun h => by have h : D.mb = tb := h; omega, fun k hk => by rw [g7] at hk; cases hk⟩), (hMM.block nb (heap_lt HC.out.2.1) (fun h => by have h : nb = tb := h; have := HM.out.2.1; omega)).trans HC.out.2.1, ?_, HC.out.2.2.2.trans (hMM.below HC.out.2.2.2.size (fun k h => by have h : k = tb := h; have := HM.out; omega))⟩
                    rw [← HPE.out]
                    exact heap_setCell_same _ _ _ _ _ _ HC.out.2.2.1
              · have hyy : y = y0 := by rw [hy, hy0]; rw [hy0] at hlt; exact Dk.over_long hlt hz2
                clear hy
                subst hyy
                by_cases hgt : (e.txt q).size < y.size
                · by_cases hfu : (R : Int) < wrap64 (wrap64 ((e.sum : Int) - (e.txt q).size) + y.size)
                  · have hfv : (R : Int) < (e.sum : Int) - (e.txt q).size + y.size := by rw [HWW.out y.size (by have := HZ.out; have := HDT.out; have := HYZ.out; omega)] at hfu; exact hfu
                    have hwc := HWC.out
                    rw [if_pos ⟨hgt, hfv⟩, if_pos ⟨hgt, hfv⟩] at hwc
                    obtain ⟨hw1, hpr1⟩ := hwc
                    have HWR := hide (show Dk.writeC (Dk.plainSt R e a) (Dk.nm q) z dt = (172, Dk.plainSt R pr.1 pr.2) by rw [hw1, hpr1])
                    have HTX := hide (show pr.1.txt q = e.txt q by rw [hpr1])
                    have HYS := hide (show (e.txt q).size ≤ 4300 by have := HZ.out; omega)
                    have HTE := hide (show (txCells e).setIfInBounds q (.string (e.txt q)) = txCells pr.1 by rw [hpr1]; exact txCells_same e hq3)
                    have HV8 := hide (show pr.2 = a by rw [hpr1])
                    clear hw1 hpr1
                    clear hfv
                    go_upto_region 23 with (fail)
                    rw [← HY0.out]
                    clear hy0
                    go_wp2_with fail
                    as_aux_lemma =>
                      have hys : (e.txt q).size ≤ 4300 := HYS.out
                      refine (write_val D _ _ (Dk.nm q) (z : Int) dt 172 wy2 H9.out.1 (Dk.nm_size q) (by have := HDT.out; omega) (Dk.wf_i64 (by omega) (by have := HZ.out; omega)) rfl (show a < 4611686018427387904 by omega) (Nat.lt_of_le_of_lt (Dk.tri_len _) (by decide)) HWR.out).mono ?_
                      rintro e0 wa ⟨rfl, hD, hM⟩
                      have HA := hide (And.intro hD hM)
                      clear hD hM
                      go_wp2_with fail
                      refine (write_val D _ _ (Dk.nm q) _ dt 173 wa HA.out.1 (Dk.nm_size q) (by have := HDT.out; omega) (Dk.wf_i64 (by omega) (by omega)) rfl (show pr.2 < 4611686018427387904 by have := HPA.out; omega) (Nat.lt_of_le_of_lt (Dk.tri_len _) (by decide)) (Dk.plain_write_off HQ.out.2 (.inr (by rw [HTX.out]; omega)))).mono ?_
                      rintro e0 wb ⟨rfl, hD, hM⟩
                      have HB := hide (And.intro hD (HA.out.2.then hM))
                      clear hD hM
                      go_wp2_with fail
                      refine (write_val D _ _ (Dk.nm q) _ dt 173 wb HB.out.1 (Dk.nm_size q) (by have := HDT.out; omega) (by decide) rfl (show pr.2 < 4611686018427387904 by have := HPA.out; omega) (Nat.lt_of_le_of_lt (Dk.tri_len _) (by decide)) (Dk.plain_write_off HQ.out.2 (.inl (by decide)))).mono ?_
                      rintro e0 wc ⟨rfl, hD, hM⟩
                      have hM2 := HB.out.2.then hM
                      have HC := hide (show DiskAt wc D (Dk.plainSt R pr.1 pr.2) ∧ wc.heap[nb]? = some (.cells nmCells 9 (0, 0)) ∧ wc.heap[tb]? = some (.cells (txCells e) 9 (0, 0)) ∧ Below w.heap.size w wc from by
                        obtain ⟨g1, g2, g3, g4, g5, g6, g7⟩ := HM.out
                        exact ⟨hD, (hM2.block nb (heap_lt H9.out.2.1) (fun h => by rcases h with h | h <;> omega)).trans H9.out.2.1, (hM2.block tb (heap_lt H9.out.2.2.1) (fun h => by rcases h with h | h <;> omega)).trans H9.out.2.2.1, H9.out.2.2.2.trans (hM2.below H9.out.2.2.2.size (fun k h => by rcases h with h | h <;> omega))⟩)
                      have hcT : wc.cell? ⟨tb, q, none⟩ = some (.string (e.txt q)) := (cell_blk HC.out.2.2.1 q).trans (txCells_at e hq3)
                      have hfT := frozen_blk HC.out.2.2.1 q
                      have HPE := hide (show (txCells e).setIfInBounds q (.string (e.txt q)) = txCells pr.1 from HTE.out)
                      clear hD hM hM2
                      go_wp2_with fail
                      go_meet
                      case rel =>
                        have hMM : Moved (fun k => k = tb) wc (wc.setCell ⟨tb, q, none⟩ (.string (e.txt q))) := Moved.setCell (S := fun k => k = tb) (Moved.refl _ _) (a := ⟨tb, q, none⟩) rfl _
                        refine ⟨by rw [HV8.out], HC.out.1.stay hMM (by obtain ⟨g1, g2, g3, g4, g5, g6, g7⟩ := HM.out; exact ⟨fun h => by have h : D.g = tb := h; omega, fun h => by have h : D.mb = tb := h; omega, fun k hk => by rw [g7] at hk; cases hk⟩), (hMM.block nb (heap_lt HC.out.2.1) (fun h => by have h : nb = tb := h; have := HM.out.2.1; omega)).trans HC.out.2.1, ?_, HC.out.2.2.2.trans (hMM.below HC.out.2.2.2.size (fun k h => by have h : k = tb := h; have := HM.out; omega))⟩
                        rw [← HPE.out]
                        exact heap_setCell_same _ _ _ _ _ _ HC.out.2.2.1
                  · have hfv : ¬ ((e.txt q).size < y.size ∧ (R : Int) < (e.sum : Int) - (e.txt q).size + y.size) := fun h => hfu (by rw [HWW.out y.size (by have := HZ.out; have := HDT.out; have := HYZ.out; omega)]; exact h.2)
                    have hwc := HWC.out
                    rw [if_neg hfv, if_neg hfv] at hwc
                    obtain ⟨hw1, hpr1⟩ := hwc
                    have HWR := hide (show Dk.writeC (Dk.plainSt R e a) (Dk.nm q) z dt = (0, Dk.plainSt R pr.1 pr.2) by rw [hw1, hpr1])
                    have HTX := hide (show pr.1.txt q = y by rw [hpr1]; unfold Dk.Tri.txt; rw [Dk.Tri.set_at _ _ hq3 _ _ hq3, if_pos rfl])
                    have HYS := hide (show y.size ≤ 4300 by have := HZ.out; have := HDT.out; have := HYZ.out; omega)
                    have HTE := hide (show (txCells e).setIfInBounds q (.string y) = txCells pr.1 by rw [hpr1]; exact txCells_set e hq3 ⟨y, (e.at q).was⟩)
                    have HV8 := hide (show pr.2 = a + 1 by rw [hpr1])
                    clear hw1 hpr1
                    clear hfv
                    go_upto_region 23 with (fail)
                    rw [← HY0.out]
                    clear hy0
                    go_wp2_with fail
                    as_aux_lemma =>
                      have hys : y.size ≤ 4300 := HYS.out
                      refine (write_val D _ _ (Dk.nm q) (z : Int) dt 0 wy2 H9.out.1 (Dk.nm_size q) (by have := HDT.out; omega) (Dk.wf_i64 (by omega) (by have := HZ.out; omega)) rfl (show a < 4611686018427387904 by omega) (Nat.lt_of_le_of_lt (Dk.tri_len _) (by decide)) HWR.out).mono ?_
                      rintro e0 wa ⟨rfl, hD, hM⟩
                      have HA := hide (And.intro hD hM)
                      clear hD hM
                      go_wp2_with fail
                      refine (write_val D _ _ (Dk.nm q) _ dt 173 wa HA.out.1 (Dk.nm_size q) (by have := HDT.out; omega) (Dk.wf_i64 (by omega) (by omega)) rfl (show pr.2 < 4611686018427387904 by have := HPA.out; omega) (Nat.lt_of_le_of_lt (Dk.tri_len _) (by decide)) (Dk.plain_write_off HQ.out.2 (.inr (by rw [HTX.out]; omega)))).mono ?_
                      rintro e0 wb ⟨rfl, hD, hM⟩
                      have HB := hide (And.intro hD (HA.out.2.then hM))
                      clear hD hM
                      go_wp2_with fail
                      refine (write_val D _ _ (Dk.nm q) _ dt 173 wb HB.out.1 (Dk.nm_size q) (by have := HDT.out; omega) (by decide) rfl (show pr.2 < 4611686018427387904 by have := HPA.out; omega) (Nat.lt_of_le_of_lt (Dk.tri_len _) (by decide)) (Dk.plain_write_off HQ.out.2 (.inl (by decide)))).mono ?_
                      rintro e0 wc ⟨rfl, hD, hM⟩
                      have hM2 := HB.out.2.then hM
                      have HC := hide (show DiskAt wc D (Dk.plainSt R pr.1 pr.2) ∧ wc.heap[nb]? = some (.cells nmCells 9 (0, 0)) ∧ wc.heap[tb]? = some (.cells (txCells e) 9 (0, 0)) ∧ Below w.heap.size w wc from by
                        obtain ⟨g1, g2, g3, g4, g5, g6, g7⟩ := HM.out
                        exact ⟨hD, (hM2.block nb (heap_lt H9.out.2.1) (fun h => by rcases h with h | h <;> omega)).trans H9.out.2.1, (hM2.block tb (heap_lt H9.out.2.2.1) (fun h => by rcases h with h | h <;> omega)).trans H9.out.2.2.1, H9.out.2.2.2.trans (hM2.below H9.out.2.2.2.size (fun k h => by rcases h with h | h <;> omega))⟩)
                      have hcT : wc.cell? ⟨tb, q, none⟩ = some (.string (e.txt q)) := (cell_blk HC.out.2.2.1 q).trans (txCells_at e hq3)
                      have hfT := frozen_blk HC.out.2.2.1 q
                      have HPE := hide (show (txCells e).setIfInBounds q (.string y) = txCells pr.1 from HTE.out)
                      clear hD hM hM2
                      go_wp2_with fail
                      go_meet
                      case rel =>
                        have hMM : Moved (fun k => k = tb) wc (wc.setCell ⟨tb, q, none⟩ (.string y)) := Moved.setCell (S := fun k => k = tb) (Moved.refl _ _) (a := ⟨tb, q, none⟩) rfl _
                        refine ⟨by rw [HV8.out]; rfl, HC.out.1.stay hMM (by obtain ⟨g1, g2, g3, g4, g5, g6, g7⟩ := HM.out; exact ⟨fun h => by have h : D.g = tb := h; omega, fun h => by have h : D.mb = tb := h; omega, fun k hk => by rw [g7] at hk; cases hk⟩), (hMM.block nb (heap_lt HC.out.2.1) (fun h => by have h : nb = tb := h; have := HM.out.2.1; omega)).trans HC.out.2.1, ?_, HC.out.2.2.2.trans (hMM.below HC.out.2.2.2.size (fun k h => by have h : k = tb := h; have := HM.out; omega))⟩
                        rw [← HPE.out]
                        exact heap_setCell_same _ _ _ _ _ _ HC.out.2.2.1
                ·
                  have hwc := HWC.out
                  rw [if_neg (fun h => hgt h.1), if_neg (fun h => hgt h.1)] at hwc
                  obtain ⟨hw1, hpr1⟩ := hwc
                  have HWR := hide (show Dk.writeC (Dk.plainSt R e a) (Dk.nm q) z dt = (0, Dk.plainSt R pr.1 pr.2) by rw [hw1, hpr1])
                  have HTX := hide (show pr.1.txt q = y by rw [hpr1]; unfold Dk.Tri.txt; rw [Dk.Tri.set_at _ _ hq3 _ _ hq3, if_pos rfl])
                  have HYS := hide (show y.size ≤ 4300 by have := HZ.out; have := HDT.out; have := HYZ.out; omega)
                  have HTE := hide (show (txCells e).setIfInBounds q (.string y) = txCells pr.1 by rw [hpr1]; exact txCells_set e hq3 ⟨y, (e.at q).was⟩)
                  have HV8 := hide (show pr.2 = a + 1 by rw [hpr1])
                  clear hw1 hpr1
                  go_upto_region 23 with (fail)
                  rw [← HY0.out]
                  clear hy0
                  go_wp2_with fail
                  as_aux_lemma =>
                    have hys : y.size ≤ 4300 := HYS.out
                    refine (write_val D _ _ (Dk.nm q) (z : Int) dt 0 wy2 H9.out.1 (Dk.nm_size q) (by have := HDT.out; omega) (Dk.wf_i64 (by omega) (by have := HZ.out; omega)) rfl (show a < 4611686018427387904 by omega) (Nat.lt_of_le_of_lt (Dk.tri_len _) (by decide)) HWR.out).mono ?_
                    rintro e0 wa ⟨rfl, hD, hM⟩
                    have HA := hide (And.intro hD hM)
                    clear hD hM
                    go_wp2_with fail
                    refine (write_val D _ _ (Dk.nm q) _ dt 173 wa HA.out.1 (Dk.nm_size q) (by have := HDT.out; omega) (Dk.wf_i64 (by omega) (by omega)) rfl (show pr.2 < 4611686018427387904 by have := HPA.out; omega) (Nat.lt_of_le_of_lt (Dk.tri_len _) (by decide)) (Dk.plain_write_off HQ.out.2 (.inr (by rw [HTX.out]; omega)))).mono ?_
                    rintro e0 wb ⟨rfl, hD, hM⟩
                    have HB := hide (And.intro hD (HA.out.2.then hM))
                    clear hD hM
                    go_wp2_with fail
                    refine (write_val D _ _ (Dk.nm q) _ dt 173 wb HB.out.1 (Dk.nm_size q) (by have := HDT.out; omega) (by decide) rfl (show pr.2 < 4611686018427387904 by have := HPA.out; omega) (Nat.lt_of_le_of_lt (Dk.tri_len _) (by decide)) (Dk.plain_write_off HQ.out.2 (.inl (by decide)))).mono ?_
                    rintro e0 wc ⟨rfl, hD, hM⟩
                    have hM2 := HB.out.2.then hM
                    have HC := hide (show DiskAt wc D (Dk.plainSt R pr.1 pr.2) ∧ wc.heap[nb]? = some (.cells nmCells 9 (0, 0)) ∧ wc.heap[tb]? = some (.cells (txCells e) 9 (0, 0)) ∧ Below w.heap.size w wc from by
                      obtain ⟨g1, g2, g3, g4, g5, g6, g7⟩ := HM.out
                      exact ⟨hD, (hM2.block nb (heap_lt H9.out.2.1) (fun h => by rcases h with h | h <;> omega)).trans H9.out.2.1, (hM2.block tb (heap_lt H9.out.2.2.1) (fun h => by rcases h with h | h <;> omega)).trans H9.out.2.2.1, H9.out.2.2.2.trans (hM2.below H9.out.2.2.2.size (fun k h => by rcases h with h | h <;> omega))⟩)
                    have hcT : wc.cell? ⟨tb, q, none⟩ = some (.string (e.txt q)) := (cell_blk HC.out.2.2.1 q).trans (txCells_at e hq3)
                    have hfT := frozen_blk HC.out.2.2.1 q
                    have HPE := hide (show (txCells e).setIfInBounds q (.string y) = txCells pr.1 from HTE.out)
                    clear hD hM hM2
                    go_wp2_with fail
                    go_meet
                    case rel =>
                      have hMM : Moved (fun k => k = tb) wc (wc.setCell ⟨tb, q, none⟩ (.string y)) := Moved.setCell (S := fun k => k = tb) (Moved.refl _ _) (a := ⟨tb, q, none⟩) rfl _
                      refine ⟨by rw [HV8.out]; rfl, HC.out.1.stay hMM (by obtain ⟨g1, g2, g3, g4, g5, g6, g7⟩ := HM.out; exact ⟨fun h => by have h : D.g = tb := h; omega, fun h => by have h : D.mb = tb := h; omega, fun k hk => by rw [g7] at hk; cases hk⟩), (hMM.block nb (heap_lt HC.out.2.1) (fun h => by have h : nb = tb := h; have := HM.out.2.1; omega)).trans HC.out.2.1, ?_, HC.out.2.2.2.trans (hMM.below HC.out.2.2.2.size (fun k h => by have h : k = tb := h; have := HM.out; omega))⟩
                      rw [← HPE.out]
                      exact heap_setCell_same _ _ _ _ _ _ HC.out.2.2.1
            · by_cases k2 : kind = 2
              · subst k2
                have hpr1 := HPR.out
                unfold Dk.plainC at hpr1
                rw [if_neg (by decide), if_pos rfl] at hpr1
                obtain ⟨y, hy⟩ : ∃ y, y = (e.txt q).extract 0 z := ⟨_, rfl⟩
                rw [← hy] at hpr1
                have HWR := hide (show Dk.cutC (Dk.plainSt R e a) (Dk.nm q) z = (0, Dk.plainSt R pr.1 pr.2) by rw [hpr1, Dk.plain_cut hq3 hz2, hy])
                have HPE := hide (show (txCells e).setIfInBounds q (.string y) = txCells pr.1 by rw [hpr1]; exact txCells_set e hq3 ⟨y, (e.at q).was⟩)
                have HV8 := hide (show pr.2 = a + 1 by rw [hpr1])
                have HY := hide hy
                have hxs : (e.txt q).size ≤ 4000 := HZ.out.2.2.2
                clear hpr1 hy hdt
                go_wp2_with fail
                refine (cut_val D _ _ (Dk.nm q) _ 173 wy H9.out.1 (Dk.nm_size q) (Dk.wf_i64 (by omega) (by omega)) rfl (show a < 4611686018427387904 by omega) (Nat.lt_of_le_of_lt (Dk.tri_len _) (by decide)) (Dk.plain_cut_off HQ.out.2 (by omega))).mono ?_
                rintro e0 wa ⟨rfl, hD, hM⟩
                have HA := hide (And.intro hD hM)
                clear hD hM
                go_wp2_with fail
                refine (cut_val D _ _ (Dk.nm q) (z : Int) 0 wa HA.out.1 (Dk.nm_size q) (Dk.wf_i64 (by omega) (by omega)) rfl (show a < 4611686018427387904 by omega) (Nat.lt_of_le_of_lt (Dk.tri_len _) (by decide)) HWR.out).mono ?_
                rintro e0 wc ⟨rfl, hD, hM⟩
                have hM2 := HA.out.2.then hM
                obtain ⟨g1, g2, g3, g4, g5, g6, g7⟩ := HM.out
                have HC := hide (show DiskAt wc D (Dk.plainSt R pr.1 pr.2) ∧ wc.heap[nb]? = some (.cells nmCells 9 (0, 0)) ∧ wc.heap[tb]? = some (.cells (txCells e) 9 (0, 0)) ∧ Below w.heap.size w wc from
                  ⟨hD, (hM2.block nb (heap_lt H9.out.2.1) (fun h => by rcases h with h | h <;> omega)).trans H9.out.2.1, (hM2.block tb (heap_lt H9.out.2.2.1) (fun h => by rcases h with h | h <;> omega)).trans H9.out.2.2.1, H9.out.2.2.2.trans (hM2.below H9.out.2.2.2.size (fun k h => by rcases h with h | h <;> omega))⟩)
                clear g1 g2 g3 g4 g5 g6 g7
                have hcT : wc.cell? ⟨tb, q, none⟩ = some (.string (e.txt q)) := (cell_blk HC.out.2.2.1 q).trans (txCells_at e hq3)
                have hfT := frozen_blk HC.out.2.2.1 q
                clear hD hM hM2
                go_upto_region 37 with (fail)
                go_wp2_with fail
                rw [← HY.out]
                go_meet
                case rel =>
                  have hMM : Moved (fun k => k = tb) wc (wc.setCell ⟨tb, q, none⟩ (.string y)) := Moved.setCell (S := fun k => k = tb) (Moved.refl _ _) (a := ⟨tb, q, none⟩) rfl _
                  refine ⟨by rw [HV8.out]; rfl, HC.out.1.stay hMM (by obtain ⟨g1, g2, g3, g4, g5, g6, g7⟩ := HM.out; exact ⟨fun h => by have h : D.g = tb := h; omega, fun h => by have h : D.mb = tb := h; omega, fun k hk => by rw [g7] at hk; cases hk⟩), (hMM.block nb (heap_lt HC.out.2.1) (fun h => by have h : nb = tb := h; have := HM.out.2.1; omega)).trans HC.out.2.1, ?_, HC.out.2.2.2.trans (hMM.below HC.out.2.2.2.size (fun k h => by have h : k = tb := h; have := HM.out; omega))⟩
                  rw [← HPE.out]
                  exact heap_setCell_same _ _ _ _ _ _ HC.out.2.2.1
              · have hpr1 := HPR.out
                unfold Dk.plainC at hpr1
                rw [if_neg k1, if_neg k2] at hpr1
                have HWR := hide (show Dk.syncC (Dk.plainSt R e a) (Dk.nm q) = (0, Dk.plainSt R pr.1 pr.2) by rw [hpr1, Dk.plain_sync hq3])
                have HPE := hide (show txCells e = txCells pr.1 by rw [hpr1]; exact (txCells_same e hq3).symm.trans (txCells_set e hq3 ⟨e.txt q, e.txt q⟩))
                have HV8 := hide (show pr.2 = a + 1 by rw [hpr1])
                clear hpr1 hdt
                go_wp2_with fail
                refine (sync_val D _ _ (Dk.nm q) 0 wy H9.out.1 (Dk.nm_size q) rfl (show a < 4611686018427387904 by omega) (Nat.lt_of_le_of_lt (Dk.tri_len _) (by decide)) HWR.out).mono ?_
                rintro e0 wc ⟨rfl, hD, hM⟩
                have hM2 := hM
                obtain ⟨g1, g2, g3, g4, g5, g6, g7⟩ := HM.out
                have HC := hide (show DiskAt wc D (Dk.plainSt R pr.1 pr.2) ∧ wc.heap[nb]? = some (.cells nmCells 9 (0, 0)) ∧ wc.heap[tb]? = some (.cells (txCells e) 9 (0, 0)) ∧ Below w.heap.size w wc from
                  ⟨hD, (hM2.block nb (heap_lt H9.out.2.1) (fun h => by rcases h with h | h <;> omega)).trans H9.out.2.1, (hM2.block tb (heap_lt H9.out.2.2.1) (fun h => by rcases h with h | h <;> omega)).trans H9.out.2.2.1, H9.out.2.2.2.trans (hM2.below H9.out.2.2.2.size (fun k h => by rcases h with h | h <;> omega))⟩)
                clear g1 g2 g3 g4 g5 g6 g7
                clear hD hM hM2
                go_wp2_with fail
                go_meet
                case rel => exact ⟨by rw [HV8.out]; rfl, HC.out.1, HC.out.2.1, by rw [← HPE.out]; exact HC.out.2.2.1, HC.out.2.2.2⟩
-- AFTERCUT
        have hcut2 := hcut.out
        obtain ⟨rfl, hd2, hn2, ht2, hb2⟩ := hcut2
        have HX0 := hide (And.intro hd2 (And.intro hn2 (And.intro ht2 hb2)))
        obtain ⟨x2, hx2⟩ : ∃ x, x = pr.1.txt q := ⟨_, rfl⟩
        obtain ⟨s2, hs2⟩ : ∃ s, s = Dk.plainSt R pr.1 pr.2 := ⟨_, rfl⟩
        obtain ⟨a2, ha2⟩ : ∃ a, a = pr.2 := ⟨_, rfl⟩
        have hsum2 : (pr.1.sum : Int) ≤ R := by rw [HPR.out]; exact Dk.plain_sum hq3 hz2 HS.out
        have HRD := hide (show Dk.read s2 (Dk.nm q) 0 (x2.size : Int) = (x2, 0) by rw [hs2, hx2]; exact Dk.plain_read hq3)
        have HRO := hide (show Dk.read s2 (Dk.nm q) 1 (x2.size : Int) = (⟨#[]⟩, 173) by rw [hs2, hx2]; exact Dk.plain_read_off hq3)
        have HSZ := hide (show Dk.size s2 (Dk.nm q) = (x2.size : Int) by rw [hs2, hx2]; exact Dk.plain_size hq3)
        have HAC := hide (show s2.acts = a2 by rw [hs2, ha2]; rfl)
        have HDN := hide (show s2.down = false by rw [hs2]; rfl)
        have hx4 : x2.size ≤ 4000 := by have := pr.1.le_sum q hq3; have := HR4.out; rw [hx2]; omega
        have HX := hide (show DiskAt wc D s2 ∧ wc.heap[tb]? = some (.cells (txCells pr.1) 9 (0, 0)) ∧ (txCells pr.1)[q]? = some (.string x2) from ⟨by rw [hs2]; exact hd2, ht2, by rw [hx2]; exact txCells_at _ hq3⟩)
        have ct2 : wc.cell? ⟨tb, q, none⟩ = some (.string x2) := (cell_blk HX.out.2.1 q).trans HX.out.2.2
        have HSUM := hide hsum2
        have HA2 := hide (show pr.2 ≤ i + 1 by exact Nat.le_trans (by rw [HPR.out]; exact Dk.plain_acts) (Nat.succ_le_succ hai))
        have HAE := hide ha2
        rw [← ha2]
        clear hcut hd2 hn2 ht2 hb2 hx2 hs2 hsum2 c0 c3 c4 ha2
        go_wp2_with fail
        refine (read_val D s2 (Dk.nm q) 0 (x2.size : Int) x2 0 wc HX.out.1 (Dk.nm_size q) (by decide) (Dk.wf_i64 (by omega) (by omega)) HRD.out).mono ?_
        rintro e0 wx ⟨rfl, he⟩
        subst he
        go_wp2_with fail
        refine (read_val D s2 (Dk.nm q) 1 (x2.size : Int) ⟨#[]⟩ 173 wx HX.out.1 (Dk.nm_size q) (by decide) (Dk.wf_i64 (by omega) (by omega)) HRO.out).mono ?_
        rintro e0 wx ⟨rfl, he⟩
        subst he
        go_upto_region 40 with (fail)
        go_cut [234] from 200 to 234 (fun v234 wx' => Hid (v234 = .bool false ∧ Below wx.heap.size wx wx'))
        case first =>
-- REGION plm
          
          refine wp_region_local (by kernel_rfl) (by kernel_rfl) (useList plmU) [34] (by kernel_rfl) (spR (plmL D x2 a2 q tb)) (fun _ _ => True) (Below wx.heap.size wx) (fun _ w w' => Below w.heap.size w w') spR_stays (fun _ _ _ _ _ h _ => h) (fun _ _ => Below.refl _ _) (dsts_lt (N := 264) (by kernel_rfl)) ((Below.refl _ _).drew) (fun _ _ => trivial) (all_ops ?_) ?_
          · refine And.intro ?_ ?_
            · as_aux_lemma =>
                -- 0: slot 200 := Op.move (Operand.tmp 20)
                refine lstep_run fun fr wf left => ?_
                have o20 := (left.old 20 (by kernel_rfl)).trans rfl
                refine ⟨wanted_none rfl, fun K hK => ?_⟩
                have hB := hide left.base
                clear left
                go_simp
                exact hK _ _ rfl hB.out (Below.refl _ _)
            refine And.intro ?_ ?_
            · as_aux_lemma =>
                -- 1: slot 201 := Op.binOp BinOp.neq 3 (Operand.tmp 200) (Operand.const (Value.int IntKind.i64 0)) 3
                refine lstep_run fun fr wf left => ?_
                obtain ⟨x0, e0, r0⟩ := left.slot 264 rfl 0 200 _ rfl rfl (by decide) rfl
                have s0 := Eq.symm (show x0 = .int .i64 0 from r0)
                subst s0
                refine ⟨wanted_none rfl, fun K hK => ?_⟩
                have hB := hide left.base
                clear left
                go_simp
                exact hK _ _ rfl hB.out (Below.refl _ _)
            refine And.intro ?_ ?_
            · as_aux_lemma =>
                -- 2: slot 202 := Op.move (Operand.tmp 201)
                refine lstep_run fun fr wf left => ?_
                obtain ⟨x1, e1, r1⟩ := left.slot 264 rfl 1 201 _ rfl rfl (by decide) rfl
                have s1 := Eq.symm (show x1 = .bool false from r1)
                subst s1
                refine ⟨wanted_none rfl, fun K hK => ?_⟩
                have hB := hide left.base
                clear left
                go_simp
                exact hK _ _ rfl hB.out (Below.refl _ _)
            refine And.intro ?_ ?_
            · as_aux_lemma =>
                -- 3: slot 203 := Op.move (Operand.tmp 19)
                refine lstep_run fun fr wf left => ?_
                obtain ⟨x2, e2, r2⟩ := left.slot 264 rfl 2 202 _ rfl rfl (by decide) rfl
                have s2 := Eq.symm (show x2 = .bool false from r2)
                subst s2
                have o19 := (left.old 19 (by kernel_rfl)).trans rfl
                refine ⟨wanted_yes rfl rfl e2, fun K hK => ?_⟩
                have hB := hide left.base
                clear left
                go_simp
                exact hK _ _ rfl hB.out (Below.refl _ _)
            refine And.intro ?_ ?_
            · as_aux_lemma =>
                -- 4: slot 204 := Op.move (Operand.tmp 7)
                refine lstep_run fun fr wf left => ?_
                obtain ⟨x2, e2, r2⟩ := left.slot 264 rfl 2 202 _ rfl rfl (by decide) rfl
                have s2 := Eq.symm (show x2 = .bool false from r2)
                subst s2
                have o7 := (left.old 7 (by kernel_rfl)).trans rfl
                refine ⟨wanted_yes rfl rfl e2, fun K hK => ?_⟩
                have hB := hide left.base
                clear left
                go_simp
                exact hK _ _ rfl hB.out (Below.refl _ _)
            refine And.intro ?_ ?_
            · as_aux_lemma =>
                -- 5: slot 205 := Op.move (Operand.tmp 11)
                refine lstep_run fun fr wf left => ?_
                obtain ⟨x2, e2, r2⟩ := left.slot 264 rfl 2 202 _ rfl rfl (by decide) rfl
                have s2 := Eq.symm (show x2 = .bool false from r2)
                subst s2
                have o11 := (left.old 11 (by kernel_rfl)).trans rfl
                refine ⟨wanted_yes rfl rfl e2, fun K hK => ?_⟩
                have hB := hide left.base
                clear left
                go_simp
                exact hK _ _ rfl hB.out (Below.refl _ _)
            refine And.intro ?_ ?_
            · as_aux_lemma =>
                -- 6: slot 206 := Op.indexAddr 27 (Operand.tmp 204) (Operand.tmp 205)
                refine lstep_run fun fr wf left => ?_
                obtain ⟨x2, e2, r2⟩ := left.slot 264 rfl 2 202 _ rfl rfl (by decide) rfl
                have s2 := Eq.symm (show x2 = .bool false from r2)
                subst s2
                obtain ⟨x4, e4, r4⟩ := left.slot 264 rfl 4 204 _ rfl rfl (by decide) rfl
                have s4 := Eq.symm (show x4 = .slice (some ⟨tb, 0, none⟩) 3 3 from r4)
                subst s4
                obtain ⟨x5, e5, r5⟩ := left.slot 264 rfl 5 205 _ rfl rfl (by decide) rfl
                have s5 := Eq.symm (show x5 = .int .i64 (q : Int) from r5)
                subst s5
                refine ⟨wanted_yes rfl rfl e2, fun K hK => ?_⟩
                have hB := hide left.base
                clear left
                go_simp
                exact hK _ _ rfl hB.out (Below.refl _ _)
            refine And.intro ?_ ?_
            · as_aux_lemma =>
                -- 7: slot 207 := Op.load 9 (Operand.tmp 206)
                refine lstep_run fun fr wf left => ?_
                obtain ⟨x2, e2, r2⟩ := left.slot 264 rfl 2 202 _ rfl rfl (by decide) rfl
                have s2 := Eq.symm (show x2 = .bool false from r2)
                subst s2
                obtain ⟨x6, e6, r6⟩ := left.slot 264 rfl 6 206 _ rfl rfl (by decide) rfl
                have s6 := Eq.symm (show x6 = .pointer (some ⟨tb, q, none⟩) from r6)
                subst s6
                refine ⟨wanted_yes rfl rfl e2, fun K hK => ?_⟩
                have hB := hide left.base
                have hc := (cell_blk ((hB.out.block tb (heap_lt HX.out.2.1)).trans HX.out.2.1) q).trans HX.out.2.2
                clear left
                go_simp
                exact hK _ _ rfl hB.out (Below.refl _ _)
            refine And.intro ?_ ?_
            · as_aux_lemma =>
                -- 8: slot 208 := Op.binOp BinOp.neq 9 (Operand.tmp 203) (Operand.tmp 207) 9
                refine lstep_run fun fr wf left => ?_
                obtain ⟨x2, e2, r2⟩ := left.slot 264 rfl 2 202 _ rfl rfl (by decide) rfl
                have s2 := Eq.symm (show x2 = .bool false from r2)
                subst s2
                obtain ⟨x3, e3, r3⟩ := left.slot 264 rfl 3 203 _ rfl rfl (by decide) rfl
                have s3 := Eq.symm (show x3 = .string x2 from r3)
                subst s3
                obtain ⟨x7, e7, r7⟩ := left.slot 264 rfl 7 207 _ rfl rfl (by decide) rfl
                have s7 := Eq.symm (show x7 = .string x2 from r7)
                subst s7
                refine ⟨wanted_yes rfl rfl e2, fun K hK => ?_⟩
                have hB := hide left.base
                clear left
                go_simp
                exact hK _ _ rfl hB.out (Below.refl _ _)
            refine And.intro ?_ ?_
            · as_aux_lemma =>
                -- 9: slot 209 := Op.pick (Operand.tmp 202) (Operand.const (Value.bool true)) (Operand.tmp 208)
                refine lstep_run fun fr wf left => ?_
                obtain ⟨x2, e2, r2⟩ := left.slot 264 rfl 2 202 _ rfl rfl (by decide) rfl
                have s2 := Eq.symm (show x2 = .bool false from r2)
                subst s2
                obtain ⟨x8, e8, r8⟩ := left.slot 264 rfl 8 208 _ rfl rfl (by decide) rfl
                have s8 := Eq.symm (show x8 = .bool false from r8)
                subst s8
                refine ⟨wanted_none rfl, fun K hK => ?_⟩
                have hB := hide left.base
                clear left
                go_simp
                exact hK _ _ rfl hB.out (Below.refl _ _)
            refine And.intro ?_ ?_
            · as_aux_lemma =>
                -- 10: slot 210 := Op.move (Operand.tmp 209)
                refine lstep_run fun fr wf left => ?_
                obtain ⟨x9, e9, r9⟩ := left.slot 264 rfl 9 209 _ rfl rfl (by decide) rfl
                have s9 := Eq.symm (show x9 = .bool false from r9)
                subst s9
                refine ⟨wanted_none rfl, fun K hK => ?_⟩
                have hB := hide left.base
                clear left
                go_simp
                exact hK _ _ rfl hB.out (Below.refl _ _)
            refine And.intro ?_ ?_
            · as_aux_lemma =>
                -- 11: slot 211 := Op.move (Operand.tmp 22)
                refine lstep_run fun fr wf left => ?_
                obtain ⟨x10, e10, r10⟩ := left.slot 264 rfl 10 210 _ rfl rfl (by decide) rfl
                have s10 := Eq.symm (show x10 = .bool false from r10)
                subst s10
                have o22 := (left.old 22 (by kernel_rfl)).trans rfl
                refine ⟨wanted_yes rfl rfl e10, fun K hK => ?_⟩
                have hB := hide left.base
                clear left
                go_simp
                exact hK _ _ rfl hB.out (Below.refl _ _)
            refine And.intro ?_ ?_
            · as_aux_lemma =>
                -- 12: slot 212 := Op.binOp BinOp.neq 3 (Operand.tmp 211) (Operand.const (Value.int IntKind.i64 173)) 3
                refine lstep_run fun fr wf left => ?_
                obtain ⟨x10, e10, r10⟩ := left.slot 264 rfl 10 210 _ rfl rfl (by decide) rfl
                have s10 := Eq.symm (show x10 = .bool false from r10)
                subst s10
                obtain ⟨x11, e11, r11⟩ := left.slot 264 rfl 11 211 _ rfl rfl (by decide) rfl
                have s11 := Eq.symm (show x11 = .int .i64 173 from r11)
                subst s11
                refine ⟨wanted_yes rfl rfl e10, fun K hK => ?_⟩
                have hB := hide left.base
                clear left
                go_simp
                exact hK _ _ rfl hB.out (Below.refl _ _)
            refine And.intro ?_ ?_
            · as_aux_lemma =>
                -- 13: slot 213 := Op.pick (Operand.tmp 210) (Operand.const (Value.bool true)) (Operand.tmp 212)
                refine lstep_run fun fr wf left => ?_
                obtain ⟨x10, e10, r10⟩ := left.slot 264 rfl 10 210 _ rfl rfl (by decide) rfl
                have s10 := Eq.symm (show x10 = .bool false from r10)
                subst s10
                obtain ⟨x12, e12, r12⟩ := left.slot 264 rfl 12 212 _ rfl rfl (by decide) rfl
                have s12 := Eq.symm (show x12 = .bool false from r12)
                subst s12
                refine ⟨wanted_none rfl, fun K hK => ?_⟩
                have hB := hide left.base
                clear left
                go_simp
                exact hK _ _ rfl hB.out (Below.refl _ _)
            refine And.intro ?_ ?_
            · as_aux_lemma =>
                -- 14: slot 214 := Op.move (Operand.tmp 213)
                refine lstep_run fun fr wf left => ?_
                obtain ⟨x13, e13, r13⟩ := left.slot 264 rfl 13 213 _ rfl rfl (by decide) rfl
                have s13 := Eq.symm (show x13 = .bool false from r13)
                subst s13
                refine ⟨wanted_none rfl, fun K hK => ?_⟩
                have hB := hide left.base
                clear left
                go_simp
                exact hK _ _ rfl hB.out (Below.refl _ _)
            refine And.intro ?_ ?_
            · as_aux_lemma =>
                -- 15: slot 215 := Op.move (Operand.tmp 5)
                refine lstep_run fun fr wf left => ?_
                obtain ⟨x14, e14, r14⟩ := left.slot 264 rfl 14 214 _ rfl rfl (by decide) rfl
                have s14 := Eq.symm (show x14 = .bool false from r14)
                subst s14
                have o5 := (left.old 5 (by kernel_rfl)).trans rfl
                refine ⟨wanted_yes rfl rfl e14, fun K hK => ?_⟩
                have hB := hide left.base
                clear left
                go_simp
                exact hK _ _ rfl hB.out (Below.refl _ _)
            refine And.intro ?_ ?_
            · as_aux_lemma =>
                -- 16: slot 216 := Op.move (Operand.tmp 12)
                refine lstep_run fun fr wf left => ?_
                obtain ⟨x14, e14, r14⟩ := left.slot 264 rfl 14 214 _ rfl rfl (by decide) rfl
                have s14 := Eq.symm (show x14 = .bool false from r14)
                subst s14
                have o12 := (left.old 12 (by kernel_rfl)).trans rfl
                refine ⟨wanted_yes rfl rfl e14, fun K hK => ?_⟩
                have hB := hide left.base
                clear left
                go_simp
                exact hK _ _ rfl hB.out (Below.refl _ _)
            refine And.intro ?_ ?_
            · as_aux_lemma =>
                -- 17: slot 217 := Op.call { callee := Callee.value (Operand.func 18), args := #[Operand.tmp 215, Operand.tmp
                refine lstep_run fun fr wf left => ?_
                obtain ⟨x14, e14, r14⟩ := left.slot 264 rfl 14 214 _ rfl rfl (by decide) rfl
                have s14 := Eq.symm (show x14 = .bool false from r14)
                subst s14
                obtain ⟨x15, e15, r15⟩ := left.slot 264 rfl 15 215 _ rfl rfl (by decide) rfl
                have s15 := Eq.symm (show x15 = .pointer (some ⟨D.g, 0, none⟩) from r15)
                subst s15
                obtain ⟨x16, e16, r16⟩ := left.slot 264 rfl 16 216 _ rfl rfl (by decide) rfl
                have s16 := Eq.symm (show x16 = .string (Dk.nm q) from r16)
                subst s16
                refine ⟨wanted_yes rfl rfl e14, fun K hK => ?_⟩
                have hB := hide left.base
                clear left
                go_simp
                refine (size_val D s2 (Dk.nm q) _ _ (HX.out.1.past hB.out) (Dk.nm_size q) HSZ.out).mono ?_
                rintro e w' ⟨rfl, rfl⟩
                exact hK _ _ rfl hB.out (Below.refl _ _)
            refine And.intro ?_ ?_
            · as_aux_lemma =>
                -- 18: slot 218 := Op.move (Operand.tmp 7)
                refine lstep_run fun fr wf left => ?_
                obtain ⟨x14, e14, r14⟩ := left.slot 264 rfl 14 214 _ rfl rfl (by decide) rfl
                have s14 := Eq.symm (show x14 = .bool false from r14)
                subst s14
                have o7 := (left.old 7 (by kernel_rfl)).trans rfl
                refine ⟨wanted_yes rfl rfl e14, fun K hK => ?_⟩
                have hB := hide left.base
                clear left
                go_simp
                exact hK _ _ rfl hB.out (Below.refl _ _)
            refine And.intro ?_ ?_
            · as_aux_lemma =>
                -- 19: slot 219 := Op.move (Operand.tmp 11)
                refine lstep_run fun fr wf left => ?_
                obtain ⟨x14, e14, r14⟩ := left.slot 264 rfl 14 214 _ rfl rfl (by decide) rfl
                have s14 := Eq.symm (show x14 = .bool false from r14)
                subst s14
                have o11 := (left.old 11 (by kernel_rfl)).trans rfl
                refine ⟨wanted_yes rfl rfl e14, fun K hK => ?_⟩
                have hB := hide left.base
                clear left
                go_simp
                exact hK _ _ rfl hB.out (Below.refl _ _)
            refine And.intro ?_ ?_
            · as_aux_lemma =>
                -- 20: slot 220 := Op.indexAddr 27 (Operand.tmp 218) (Operand.tmp 219)
                refine lstep_run fun fr wf left => ?_
                obtain ⟨x14, e14, r14⟩ := left.slot 264 rfl 14 214 _ rfl rfl (by decide) rfl
                have s14 := Eq.symm (show x14 = .bool false from r14)
                subst s14
                obtain ⟨x18, e18, r18⟩ := left.slot 264 rfl 18 218 _ rfl rfl (by decide) rfl
                have s18 := Eq.symm (show x18 = .slice (some ⟨tb, 0, none⟩) 3 3 from r18)
                subst s18
                obtain ⟨x19, e19, r19⟩ := left.slot 264 rfl 19 219 _ rfl rfl (by decide) rfl
                have s19 := Eq.symm (show x19 = .int .i64 (q : Int) from r19)
                subst s19
                refine ⟨wanted_yes rfl rfl e14, fun K hK => ?_⟩
                have hB := hide left.base
                clear left
                go_simp
                exact hK _ _ rfl hB.out (Below.refl _ _)
            refine And.intro ?_ ?_
            · as_aux_lemma =>
                -- 21: slot 221 := Op.load 9 (Operand.tmp 220)
                refine lstep_run fun fr wf left => ?_
                obtain ⟨x14, e14, r14⟩ := left.slot 264 rfl 14 214 _ rfl rfl (by decide) rfl
                have s14 := Eq.symm (show x14 = .bool false from r14)
                subst s14
                obtain ⟨x20, e20, r20⟩ := left.slot 264 rfl 20 220 _ rfl rfl (by decide) rfl
                have s20 := Eq.symm (show x20 = .pointer (some ⟨tb, q, none⟩) from r20)
                subst s20
                refine ⟨wanted_yes rfl rfl e14, fun K hK => ?_⟩
                have hB := hide left.base
                have hc := (cell_blk ((hB.out.block tb (heap_lt HX.out.2.1)).trans HX.out.2.1) q).trans HX.out.2.2
                clear left
                go_simp
                exact hK _ _ rfl hB.out (Below.refl _ _)
            refine And.intro ?_ ?_
            · as_aux_lemma =>
                -- 22: slot 222 := Op.call { callee := Callee.builtin Builtin.len, args := #[Operand.tmp 221], argTypes := #[
                refine lstep_run fun fr wf left => ?_
                obtain ⟨x14, e14, r14⟩ := left.slot 264 rfl 14 214 _ rfl rfl (by decide) rfl
                have s14 := Eq.symm (show x14 = .bool false from r14)
                subst s14
                obtain ⟨x21, e21, r21⟩ := left.slot 264 rfl 21 221 _ rfl rfl (by decide) rfl
                have s21 := Eq.symm (show x21 = .string x2 from r21)
                subst s21
                refine ⟨wanted_yes rfl rfl e14, fun K hK => ?_⟩
                have hB := hide left.base
                clear left
                go_simp
                exact hK _ _ rfl hB.out (Below.refl _ _)
            refine And.intro ?_ ?_
            · as_aux_lemma =>
                -- 23: slot 223 := Op.binOp BinOp.neq 3 (Operand.tmp 217) (Operand.tmp 222) 3
                refine lstep_run fun fr wf left => ?_
                obtain ⟨x14, e14, r14⟩ := left.slot 264 rfl 14 214 _ rfl rfl (by decide) rfl
                have s14 := Eq.symm (show x14 = .bool false from r14)
                subst s14
                obtain ⟨x17, e17, r17⟩ := left.slot 264 rfl 17 217 _ rfl rfl (by decide) rfl
                have s17 := Eq.symm (show x17 = .int .i64 (x2.size : Int) from r17)
                subst s17
                obtain ⟨x22, e22, r22⟩ := left.slot 264 rfl 22 222 _ rfl rfl (by decide) rfl
                have s22 := Eq.symm (show x22 = .int .i64 (x2.size : Int) from r22)
                subst s22
                refine ⟨wanted_yes rfl rfl e14, fun K hK => ?_⟩
                have hB := hide left.base
                clear left
                go_simp
                exact hK _ _ rfl hB.out (Below.refl _ _)
            refine And.intro ?_ ?_
            · as_aux_lemma =>
                -- 24: slot 224 := Op.pick (Operand.tmp 214) (Operand.const (Value.bool true)) (Operand.tmp 223)
                refine lstep_run fun fr wf left => ?_
                obtain ⟨x14, e14, r14⟩ := left.slot 264 rfl 14 214 _ rfl rfl (by decide) rfl
                have s14 := Eq.symm (show x14 = .bool false from r14)
                subst s14
                obtain ⟨x23, e23, r23⟩ := left.slot 264 rfl 23 223 _ rfl rfl (by decide) rfl
                have s23 := Eq.symm (show x23 = .bool false from r23)
                subst s23
                refine ⟨wanted_none rfl, fun K hK => ?_⟩
                have hB := hide left.base
                clear left
                go_simp
                exact hK _ _ rfl hB.out (Below.refl _ _)
            refine And.intro ?_ ?_
            · as_aux_lemma =>
                -- 25: slot 225 := Op.move (Operand.tmp 224)
                refine lstep_run fun fr wf left => ?_
                obtain ⟨x24, e24, r24⟩ := left.slot 264 rfl 24 224 _ rfl rfl (by decide) rfl
                have s24 := Eq.symm (show x24 = .bool false from r24)
                subst s24
                refine ⟨wanted_none rfl, fun K hK => ?_⟩
                have hB := hide left.base
                clear left
                go_simp
                exact hK _ _ rfl hB.out (Below.refl _ _)
            refine And.intro ?_ ?_
            · as_aux_lemma =>
                -- 26: slot 226 := Op.move (Operand.tmp 5)
                refine lstep_run fun fr wf left => ?_
                obtain ⟨x25, e25, r25⟩ := left.slot 264 rfl 25 225 _ rfl rfl (by decide) rfl
                have s25 := Eq.symm (show x25 = .bool false from r25)
                subst s25
                have o5 := (left.old 5 (by kernel_rfl)).trans rfl
                refine ⟨wanted_yes rfl rfl e25, fun K hK => ?_⟩
                have hB := hide left.base
                clear left
                go_simp
                exact hK _ _ rfl hB.out (Below.refl _ _)
            refine And.intro ?_ ?_
            · as_aux_lemma =>
                -- 27: slot 227 := Op.call { callee := Callee.value (Operand.func 19), args := #[Operand.tmp 226], argTypes :
                refine lstep_run fun fr wf left => ?_
                obtain ⟨x25, e25, r25⟩ := left.slot 264 rfl 25 225 _ rfl rfl (by decide) rfl
                have s25 := Eq.symm (show x25 = .bool false from r25)
                subst s25
                obtain ⟨x26, e26, r26⟩ := left.slot 264 rfl 26 226 _ rfl rfl (by decide) rfl
                have s26 := Eq.symm (show x26 = .pointer (some ⟨D.g, 0, none⟩) from r26)
                subst s26
                refine ⟨wanted_yes rfl rfl e25, fun K hK => ?_⟩
                have hB := hide left.base
                clear left
                go_simp
                refine (acts_val D s2 a2 _ (HX.out.1.past hB.out) HAC.out).mono ?_
                rintro e w' ⟨rfl, rfl⟩
                exact hK _ _ rfl hB.out (Below.refl _ _)
            refine And.intro ?_ ?_
            · as_aux_lemma =>
                -- 28: slot 228 := Op.move (Operand.tmp 8)
                refine lstep_run fun fr wf left => ?_
                obtain ⟨x25, e25, r25⟩ := left.slot 264 rfl 25 225 _ rfl rfl (by decide) rfl
                have s25 := Eq.symm (show x25 = .bool false from r25)
                subst s25
                have o8 := (left.old 8 (by kernel_rfl)).trans rfl
                refine ⟨wanted_yes rfl rfl e25, fun K hK => ?_⟩
                have hB := hide left.base
                clear left
                go_simp
                exact hK _ _ rfl hB.out (Below.refl _ _)
            refine And.intro ?_ ?_
            · as_aux_lemma =>
                -- 29: slot 229 := Op.binOp BinOp.neq 3 (Operand.tmp 227) (Operand.tmp 228) 3
                refine lstep_run fun fr wf left => ?_
                obtain ⟨x25, e25, r25⟩ := left.slot 264 rfl 25 225 _ rfl rfl (by decide) rfl
                have s25 := Eq.symm (show x25 = .bool false from r25)
                subst s25
                obtain ⟨x27, e27, r27⟩ := left.slot 264 rfl 27 227 _ rfl rfl (by decide) rfl
                have s27 := Eq.symm (show x27 = .int .i64 (a2 : Int) from r27)
                subst s27
                obtain ⟨x28, e28, r28⟩ := left.slot 264 rfl 28 228 _ rfl rfl (by decide) rfl
                have s28 := Eq.symm (show x28 = .int .i64 (a2 : Int) from r28)
                subst s28
                refine ⟨wanted_yes rfl rfl e25, fun K hK => ?_⟩
                have hB := hide left.base
                clear left
                go_simp
                exact hK _ _ rfl hB.out (Below.refl _ _)
            refine And.intro ?_ ?_
            · as_aux_lemma =>
                -- 30: slot 230 := Op.pick (Operand.tmp 225) (Operand.const (Value.bool true)) (Operand.tmp 229)
                refine lstep_run fun fr wf left => ?_
                obtain ⟨x25, e25, r25⟩ := left.slot 264 rfl 25 225 _ rfl rfl (by decide) rfl
                have s25 := Eq.symm (show x25 = .bool false from r25)
                subst s25
                obtain ⟨x29, e29, r29⟩ := left.slot 264 rfl 29 229 _ rfl rfl (by decide) rfl
                have s29 := Eq.symm (show x29 = .bool false from r29)
                subst s29
                refine ⟨wanted_none rfl, fun K hK => ?_⟩
                have hB := hide left.base
                clear left
                go_simp
                exact hK _ _ rfl hB.out (Below.refl _ _)
            refine And.intro ?_ ?_
            · as_aux_lemma =>
                -- 31: slot 231 := Op.move (Operand.tmp 230)
                refine lstep_run fun fr wf left => ?_
                obtain ⟨x30, e30, r30⟩ := left.slot 264 rfl 30 230 _ rfl rfl (by decide) rfl
                have s30 := Eq.symm (show x30 = .bool false from r30)
                subst s30
                refine ⟨wanted_none rfl, fun K hK => ?_⟩
                have hB := hide left.base
                clear left
                go_simp
                exact hK _ _ rfl hB.out (Below.refl _ _)
            refine And.intro ?_ ?_
            · as_aux_lemma =>
                -- 32: slot 232 := Op.move (Operand.tmp 5)
                refine lstep_run fun fr wf left => ?_
                obtain ⟨x31, e31, r31⟩ := left.slot 264 rfl 31 231 _ rfl rfl (by decide) rfl
                have s31 := Eq.symm (show x31 = .bool false from r31)
                subst s31
                have o5 := (left.old 5 (by kernel_rfl)).trans rfl
                refine ⟨wanted_yes rfl rfl e31, fun K hK => ?_⟩
                have hB := hide left.base
                clear left
                go_simp
                exact hK _ _ rfl hB.out (Below.refl _ _)
            refine And.intro ?_ ?_
            · as_aux_lemma =>
                -- 33: slot 233 := Op.call { callee := Callee.value (Operand.func 20), args := #[Operand.tmp 232], argTypes :
                refine lstep_run fun fr wf left => ?_
                obtain ⟨x31, e31, r31⟩ := left.slot 264 rfl 31 231 _ rfl rfl (by decide) rfl
                have s31 := Eq.symm (show x31 = .bool false from r31)
                subst s31
                obtain ⟨x32, e32, r32⟩ := left.slot 264 rfl 32 232 _ rfl rfl (by decide) rfl
                have s32 := Eq.symm (show x32 = .pointer (some ⟨D.g, 0, none⟩) from r32)
                subst s32
                refine ⟨wanted_yes rfl rfl e31, fun K hK => ?_⟩
                have hB := hide left.base
                clear left
                go_simp
                refine (down_val D s2 false _ (HX.out.1.past hB.out) HDN.out).mono ?_
                rintro e w' ⟨rfl, rfl⟩
                exact hK _ _ rfl hB.out (Below.refl _ _)
            refine And.intro ?_ ?_
            · as_aux_lemma =>
                -- 34: slot 234 := Op.pick (Operand.tmp 231) (Operand.const (Value.bool true)) (Operand.tmp 233)
                refine lstep_run fun fr wf left => ?_
                obtain ⟨x31, e31, r31⟩ := left.slot 264 rfl 31 231 _ rfl rfl (by decide) rfl
                have s31 := Eq.symm (show x31 = .bool false from r31)
                subst s31
                obtain ⟨x33, e33, r33⟩ := left.slot 264 rfl 33 233 _ rfl rfl (by decide) rfl
                have s33 := Eq.symm (show x33 = .bool false from r33)
                subst s33
                refine ⟨wanted_none rfl, fun K hK => ?_⟩
                have hB := hide left.base
                clear left
                go_simp
                exact hK _ _ rfl hB.out (Below.refl _ _)
            exact trivial
          · intro fr wf hB hs hd hall hkeep
            have h34 : fr.tmps.getD 234 undef = .bool false := hall 34 _ rfl (by simp)
            have hfr := act_ext (frame_setL hs hkeep [200, 201, 202, 203, 204, 205, 206, 207, 208, 209, 210, 211, 212, 213, 214, 215, 216, 217, 218, 219, 220, 221, 222, 223, 224, 225, 226, 227, 228, 229, 230, 231, 232, 233, 234] (by kernel_rfl)) hd
            clear hall hkeep hs hd
            dsimp only [List.foldl, List.set_cons_zero, List.set_cons_succ] at hfr
            generalize fr.tmps.getD 200 undef = q200 at hfr
            generalize fr.tmps.getD 201 undef = q201 at hfr
            generalize fr.tmps.getD 202 undef = q202 at hfr
            generalize fr.tmps.getD 203 undef = q203 at hfr
            generalize fr.tmps.getD 204 undef = q204 at hfr
            generalize fr.tmps.getD 205 undef = q205 at hfr
            generalize fr.tmps.getD 206 undef = q206 at hfr
            generalize fr.tmps.getD 207 undef = q207 at hfr
            generalize fr.tmps.getD 208 undef = q208 at hfr
            generalize fr.tmps.getD 209 undef = q209 at hfr
            generalize fr.tmps.getD 210 undef = q210 at hfr
            generalize fr.tmps.getD 211 undef = q211 at hfr
            generalize fr.tmps.getD 212 undef = q212 at hfr
            generalize fr.tmps.getD 213 undef = q213 at hfr
            generalize fr.tmps.getD 214 undef = q214 at hfr
            generalize fr.tmps.getD 215 undef = q215 at hfr
            generalize fr.tmps.getD 216 undef = q216 at hfr
            generalize fr.tmps.getD 217 undef = q217 at hfr
            generalize fr.tmps.getD 218 undef = q218 at hfr
            generalize fr.tmps.getD 219 undef = q219 at hfr
            generalize fr.tmps.getD 220 undef = q220 at hfr
            generalize fr.tmps.getD 221 undef = q221 at hfr
            generalize fr.tmps.getD 222 undef = q222 at hfr
            generalize fr.tmps.getD 223 undef = q223 at hfr
            generalize fr.tmps.getD 224 undef = q224 at hfr
            generalize fr.tmps.getD 225 undef = q225 at hfr
            generalize fr.tmps.getD 226 undef = q226 at hfr
            generalize fr.tmps.getD 227 undef = q227 at hfr
            generalize fr.tmps.getD 228 undef = q228 at hfr
            generalize fr.tmps.getD 229 undef = q229 at hfr
            generalize fr.tmps.getD 230 undef = q230 at hfr
            generalize fr.tmps.getD 231 undef = q231 at hfr
            generalize fr.tmps.getD 232 undef = q232 at hfr
            generalize fr.tmps.getD 233 undef = q233 at hfr
            generalize fr.tmps.getD 234 undef = q234 at hfr h34
            subst hfr
            subst h34
            have HBF := hide hB
            clear hB
            go_wp2_with fail
            go_meet
            case rel => exact ⟨rfl, HBF.out⟩
          -- END REGION plm
        obtain ⟨rfl, hb⟩ := hcut.out
        have HBX := hide hb
        clear hb hcut
        go_wp2_with fail
        go_roundg (80 - (i + 1))
        case measure => omega
        case rel =>
          have hb := HBX.out
          refine ⟨i + 1, pr.2, pr.1, by omega, HA2.out, rfl, by go_num, by rw [HAE.out], HSUM.out, HX0.out.1.past hb, (hb.block nb (heap_lt HX0.out.2.1)).trans HX0.out.2.1, (hb.block tb (heap_lt HX0.out.2.2.1)).trans HX0.out.2.2.1, HX0.out.2.2.2.trans (hb.mono HX0.out.2.2.2.size)⟩
      · have hii : decide ((i : Int) < 80) = false := decide_eq_false (by omega)
        have hi2 : ¬ (i : Int) < 80 := by omega
        go_wp2_with fail
        go_meet
        case rel => exact ⟨a, e, rfl, HR.out⟩
    · have hii : ¬ (i : Int) < (len1 : Int) := by omega
      go_wp2_with fail
      go_meet
      case rel => exact ⟨a, e, rfl, HR.out⟩
  case rest =>
    obtain ⟨a, e, rfl, HR⟩ := hcut
    obtain ⟨B2, hB2⟩ : ∃ b, b = wc.heap.size := ⟨_, rfl⟩
    have HB2 := hide (show B2 = wc.heap.size ∧ nb < B2 ∧ tb < B2 from ⟨hB2, by rw [hB2]; exact heap_lt HR.out.2.2.1, by rw [hB2]; exact heap_lt HR.out.2.2.2.1⟩)
    clear hB2
    go_upto_block 3 with (fail)
    go_cut [23, 24, 25] from 235 to 259 (fun v23 v24 v25 wx => Hid (wx.ownsRow B2 42 2 v23 (Dk.plainL e 3).length (flatF (Dk.plainL e 3)) ∧ Below B2 wc wx))
    case first =>
     go_wp2_with fail
     go_loopg [23, 24] 3 (fun g v23 v24 wr => ∃ i : Nat, i ≤ 3 ∧ g = 3 - i ∧ v24 = .int .i64 i ∧ Hid (wr.ownsRow B2 42 2 v23 (Dk.plainL e i).length (flatF (Dk.plainL e i)) ∧ Below B2 wc wr ∧ B2 ≤ wr.heap.size))
     case atStart => exact ⟨0, by omega, rfl, rfl, World.ownsRow_nil _ _ _ _, Below.refl _ _, by rw [HB2.out.1]; exact Nat.le_refl _⟩
     case round =>
      obtain ⟨i, hi3, rfl, rfl, HQ0⟩ := hrel
      by_cases hi : i < 3
      · have hq := HQ0.out
        have HQ := hide (show wr.ownsRow B2 42 2 u23 (Dk.plainL e i).length (flatF (Dk.plainL e i)) ∧ B2 ≤ wr.heap.size ∧ wr.heap[nb]? = some (.cells nmCells 9 (0, 0)) ∧ wr.heap[tb]? = some (.cells (txCells e) 9 (0, 0)) from
          ⟨hq.1, hq.2.2, (hq.2.1.block nb HB2.out.2.1).trans HR.out.2.2.1, (hq.2.1.block tb HB2.out.2.2).trans HR.out.2.2.2.1⟩)
        have hst0 := Dk.plainL_succ e i
        have HLE := hide (Dk.plainL_len e i)
        obtain ⟨xs, hxs⟩ : ∃ xs, xs = flatF (Dk.plainL e i) := ⟨_, rfl⟩
        obtain ⟨n, hn⟩ : ∃ n, n = (Dk.plainL e i).length := ⟨_, rfl⟩
        rw [← hxs, ← hn] at HQ
        have HNN := hide (show n < 1099511627776 by rw [hn]; have := HLE.out; omega)
        have HXN := hide (And.intro hxs hn)
        clear hxs hn hq
        obtain rfl | rfl | rfl : i = 0 ∨ i = 1 ∨ i = 2 := by omega
        · have HST := hide (show Dk.plainL e 1 = Dk.plainL e 0 ++ Dk.tl (Dk.nm 2) (e.txt 2) from hst0)
          have ct : wr.cell? ⟨tb, 2, none⟩ = some (.string (e.txt 2)) := (cell_blk HQ.out.2.2.2 2).trans (txCells_at e (by decide))
          clear hst0
          go_upto_region 47 with (fail)
          by_cases hx : e.txt 2 = ⟨#[]⟩
          · have HE := hide hx
            rw [hx] at ct
            clear hx
            go_wp2_with fail
            go_roundg (3 - (0 + 1))
            case measure => omega
            case rel => exact ⟨0 + 1, by omega, rfl, by go_num, by rw [HST.out, HE.out]; show wr.ownsRow _ _ _ _ (Dk.plainL e 0 ++ []).length (flatF (Dk.plainL e 0 ++ [])) ∧ _; rw [List.append_nil]; exact HQ0.out⟩
          · have hpos : 0 < ((e.txt 2).size : Int) := by
              have : (e.txt 2).size ≠ 0 := fun h => hx (bl_inj (by rw [ByteArray.size_eq_zero_iff] at h; rw [h]; rfl))
              omega
            have HE := hide hx
            clear hx
            go_upto_region 48 with (fail)
-- REGION pla0
    
            refine wp_region_local (by kernel_rfl) (by kernel_rfl) (useList pla0U) [12] (by kernel_rfl) (spR (pla0L e u23 n xs nb tb B2)) (onePre 11 (fun u => Below wr.heap.size wr u)) (Moved (fun k => B2 ≤ k) wr) (oneE 11 (fun _ _ => True)) (one_stays (by simp [pla0L]) (by kernel_rfl)) (one_pre (fun _ _ h hb => h.trans (hb.mono h.size))) (one_refl (fun _ => trivial)) (dsts_lt (N := 264) (by kernel_rfl)) ((Moved.refl _ _).drew) (fun _ _ => one_start ((Below.refl _ _).drew)) (all_ops ?_) ?_
            · refine And.intro ?_ ?_
              · as_aux_lemma =>
                  -- 0: slot 248 := Op.move (Operand.tmp 23)
                  refine lstep_run fun fr wf left => ?_
                  have o23 := (left.old 23 (by kernel_rfl)).trans rfl
                  refine ⟨wanted_none rfl, fun K hK => ?_⟩
                  have hB := hide left.base
                  clear left
                  go_simp
                  exact hK _ _ rfl hB.out (one_refl (fun _ => trivial) _ _)
              refine And.intro ?_ ?_
              · as_aux_lemma =>
                  -- 1: slot 249 := Op.move (Operand.tmp 6)
                  refine lstep_run fun fr wf left => ?_
                  have o6 := (left.old 6 (by kernel_rfl)).trans rfl
                  refine ⟨wanted_none rfl, fun K hK => ?_⟩
                  have hB := hide left.base
                  clear left
                  go_simp
                  exact hK _ _ rfl hB.out (one_refl (fun _ => trivial) _ _)
              refine And.intro ?_ ?_
              · as_aux_lemma =>
                  -- 2: slot 250 := Op.move (Operand.tmp 25)
                  refine lstep_run fun fr wf left => ?_
                  have o25 := (left.old 25 (by kernel_rfl)).trans rfl
                  refine ⟨wanted_none rfl, fun K hK => ?_⟩
                  have hB := hide left.base
                  clear left
                  go_simp
                  exact hK _ _ rfl hB.out (one_refl (fun _ => trivial) _ _)
              refine And.intro ?_ ?_
              · as_aux_lemma =>
                  -- 3: slot 251 := Op.indexAddr 27 (Operand.tmp 249) (Operand.tmp 250)
                  refine lstep_run fun fr wf left => ?_
                  obtain ⟨x1, e1, r1⟩ := left.slot 264 rfl 1 249 _ rfl rfl (by decide) rfl
                  have s1 := Eq.symm (show x1 = .slice (some ⟨nb, 0, none⟩) 3 3 from r1)
                  subst s1
                  obtain ⟨x2, e2, r2⟩ := left.slot 264 rfl 2 250 _ rfl rfl (by decide) rfl
                  have s2 := Eq.symm (show x2 = .int .i64 2 from r2)
                  subst s2
                  refine ⟨wanted_none rfl, fun K hK => ?_⟩
                  have hB := hide left.base
                  clear left
                  go_simp
                  exact hK _ _ rfl hB.out (one_refl (fun _ => trivial) _ _)
              refine And.intro ?_ ?_
              · as_aux_lemma =>
                  -- 4: slot 252 := Op.load 9 (Operand.tmp 251)
                  refine lstep_run fun fr wf left => ?_
                  obtain ⟨x3, e3, r3⟩ := left.slot 264 rfl 3 251 _ rfl rfl (by decide) rfl
                  have s3 := Eq.symm (show x3 = .pointer (some ⟨nb, 2, none⟩) from r3)
                  subst s3
                  refine ⟨wanted_none rfl, fun K hK => ?_⟩
                  have hB := hide left.base
                  have hc := (cell_blk ((hB.out.block nb (heap_lt HQ.out.2.2.1) (fun h => by have h : B2 ≤ nb := h; have := HB2.out; omega)).trans HQ.out.2.2.1) 2).trans rfl
                  clear left
                  go_simp
                  exact hK _ _ rfl hB.out (one_refl (fun _ => trivial) _ _)
              refine And.intro ?_ ?_
              · as_aux_lemma =>
                  -- 5: slot 253 := Op.move (Operand.tmp 7)
                  refine lstep_run fun fr wf left => ?_
                  have o7 := (left.old 7 (by kernel_rfl)).trans rfl
                  refine ⟨wanted_none rfl, fun K hK => ?_⟩
                  have hB := hide left.base
                  clear left
                  go_simp
                  exact hK _ _ rfl hB.out (one_refl (fun _ => trivial) _ _)
              refine And.intro ?_ ?_
              · as_aux_lemma =>
                  -- 6: slot 254 := Op.move (Operand.tmp 25)
                  refine lstep_run fun fr wf left => ?_
                  have o25 := (left.old 25 (by kernel_rfl)).trans rfl
                  refine ⟨wanted_none rfl, fun K hK => ?_⟩
                  have hB := hide left.base
                  clear left
                  go_simp
                  exact hK _ _ rfl hB.out (one_refl (fun _ => trivial) _ _)
              refine And.intro ?_ ?_
              · as_aux_lemma =>
                  -- 7: slot 255 := Op.indexAddr 27 (Operand.tmp 253) (Operand.tmp 254)
                  refine lstep_run fun fr wf left => ?_
                  obtain ⟨x5, e5, r5⟩ := left.slot 264 rfl 5 253 _ rfl rfl (by decide) rfl
                  have s5 := Eq.symm (show x5 = .slice (some ⟨tb, 0, none⟩) 3 3 from r5)
                  subst s5
                  obtain ⟨x6, e6, r6⟩ := left.slot 264 rfl 6 254 _ rfl rfl (by decide) rfl
                  have s6 := Eq.symm (show x6 = .int .i64 2 from r6)
                  subst s6
                  refine ⟨wanted_none rfl, fun K hK => ?_⟩
                  have hB := hide left.base
                  clear left
                  go_simp
                  exact hK _ _ rfl hB.out (one_refl (fun _ => trivial) _ _)
              refine And.intro ?_ ?_
              · as_aux_lemma =>
                  -- 8: slot 256 := Op.load 9 (Operand.tmp 255)
                  refine lstep_run fun fr wf left => ?_
                  obtain ⟨x7, e7, r7⟩ := left.slot 264 rfl 7 255 _ rfl rfl (by decide) rfl
                  have s7 := Eq.symm (show x7 = .pointer (some ⟨tb, 2, none⟩) from r7)
                  subst s7
                  refine ⟨wanted_none rfl, fun K hK => ?_⟩
                  have hB := hide left.base
                  have hc := (cell_blk ((hB.out.block tb (heap_lt HQ.out.2.2.2) (fun h => by have h : B2 ≤ tb := h; have := HB2.out; omega)).trans HQ.out.2.2.2) 2).trans rfl
                  clear left
                  go_simp
                  exact hK _ _ rfl hB.out (one_refl (fun _ => trivial) _ _)
              refine And.intro ?_ ?_
              · as_aux_lemma =>
                  -- 9: slot 257 := Op.build 42 #[(0, Operand.tmp 252), (1, Operand.tmp 256)]
                  refine lstep_run fun fr wf left => ?_
                  obtain ⟨x4, e4, r4⟩ := left.slot 264 rfl 4 252 _ rfl rfl (by decide) rfl
                  have s4 := Eq.symm (show x4 = .string (Dk.nm 2) from r4)
                  subst s4
                  obtain ⟨x8, e8, r8⟩ := left.slot 264 rfl 8 256 _ rfl rfl (by decide) rfl
                  have s8 := Eq.symm (show x8 = .string (e.txt 2) from r8)
                  subst s8
                  refine ⟨wanted_none rfl, fun K hK => ?_⟩
                  have hB := hide left.base
                  clear left
                  go_simp
                  exact hK _ _ rfl hB.out (one_refl (fun _ => trivial) _ _)
              refine And.intro ?_ ?_
              · as_aux_lemma =>
                  -- 10: slot 258 := Op.buildSlice 40 1 #[(0, Operand.tmp 257)]
                  refine lstep_run fun fr wf left => ?_
                  obtain ⟨x9, e9, r9⟩ := left.slot 264 rfl 9 257 _ rfl rfl (by decide) rfl
                  have s9 := Eq.symm (show x9 = .agg #[.string (Dk.nm 2), .string (e.txt 2)] from r9)
                  subst s9
                  refine ⟨wanted_none rfl, fun K hK => ?_⟩
                  have hB := hide left.base
                  clear left
                  go_simp
                  exact hK _ _ ⟨_, rfl, alloc_at _ _⟩ (hB.out.alloc _) (one_else (by decide) ((Below.refl _ _).alloc (Nat.le_refl _) _))
              refine And.intro ?_ ?_
              · as_aux_lemma =>
                  -- 11: slot 259 := Op.call { callee := Callee.builtin Builtin.append, args := #[Operand.tmp 248, Operand.tmp 
                  refine lstep_run fun fr wf left => ?_
                  obtain ⟨x0, e0, r0⟩ := left.slot 264 rfl 0 248 _ rfl rfl (by decide) rfl
                  have s0 := Eq.symm (show x0 = u23 from r0)
                  subst s0
                  obtain ⟨x10, e10, r10⟩ := left.slot 264 rfl 10 258 _ rfl rfl (by decide) rfl
                  replace r10 : (fun v u => ∃ B, v = .slice (some ⟨B, 0, none⟩) 1 1 ∧ u.heap[B]? = some (.cells #[.string (Dk.nm 2), .string (e.txt 2)] 42 (0, 0))) x10 wf := r10
                  refine ⟨wanted_none rfl, fun K hK => ?_⟩
                  have hB := hide left.base; have hP := hide (one_pre_at left.pre rfl)
                  clear left
                  obtain ⟨BB, hx10, hbb⟩ := r10
                  subst hx10
                  refine wp_append_file (.tmp 248) (.tmp 258) rfl B2 u23 n xs (eval_tmp e0) (own_below HQ.out.1 hP.out) BB _ _ (eval_tmp e10) hbb HNN.out (Nat.le_trans HQ.out.2.1 hP.out.size) ?_
                  intro v' w' hown hgr
                  exact hK _ _ hown (hB.out.then (Moved.of_belowB (below_grown (Below.refl _ _) (own_below HQ.out.1 hP.out) hgr (Nat.le_refl _) (Nat.le_trans HQ.out.2.1 hP.out.size)))) (one_at rfl)
              refine And.intro ?_ ?_
              · as_aux_lemma =>
                  -- 12: slot 23 := Op.assign (Operand.tmp 259)
                  refine lstep_run fun fr wf left => ?_
                  obtain ⟨x11, e11, r11⟩ := left.slot 264 rfl 11 259 _ rfl rfl (by decide) rfl
                  replace r11 : (fun v u => u.ownsRow B2 42 2 v (n + 1) (xs ++ [.string (Dk.nm 2), .string (e.txt 2)])) x11 wf := r11
                  refine ⟨wanted_none rfl, fun K hK => ?_⟩
                  have hB := hide left.base
                  clear left
                  go_simp
                  exact hK _ _ r11 hB.out (one_refl (fun _ => trivial) _ _)
              exact trivial
            · intro fr wf hB hs hd hall hkeep
              have h23 : wf.ownsRow B2 42 2 (fr.tmps.getD 23 undef) (n + 1) (xs ++ [.string (Dk.nm 2), .string (e.txt 2)]) := hall 12 _ rfl (by simp)
              have hfr := act_ext (frame_setL hs hkeep [248, 249, 250, 251, 252, 253, 254, 255, 256, 257, 258, 259, 23] (by kernel_rfl)) hd
              clear hall hkeep hs hd
              dsimp only [List.foldl, List.set_cons_zero, List.set_cons_succ] at hfr
              generalize fr.tmps.getD 248 undef = q248 at hfr
              generalize fr.tmps.getD 249 undef = q249 at hfr
              generalize fr.tmps.getD 250 undef = q250 at hfr
              generalize fr.tmps.getD 251 undef = q251 at hfr
              generalize fr.tmps.getD 252 undef = q252 at hfr
              generalize fr.tmps.getD 253 undef = q253 at hfr
              generalize fr.tmps.getD 254 undef = q254 at hfr
              generalize fr.tmps.getD 255 undef = q255 at hfr
              generalize fr.tmps.getD 256 undef = q256 at hfr
              generalize fr.tmps.getD 257 undef = q257 at hfr
              generalize fr.tmps.getD 258 undef = q258 at hfr
              generalize fr.tmps.getD 259 undef = q259 at hfr
              generalize fr.tmps.getD 23 undef = q23 at hfr h23
              subst hfr
              have HCU := hide (And.intro hB h23)
              clear hB h23
              go_wp2_with fail
              go_roundg (3 - (0 + 1))
              case measure => omega
              case rel =>
                have hmv := HCU.out.1.below (B := B2) HQ.out.2.1 (fun k h => h)
                refine ⟨0 + 1, by omega, rfl, by go_num, ?_, HQ0.out.2.1.trans hmv, Nat.le_trans HQ.out.2.1 hmv.size⟩
                have h2 := HCU.out.2
                have htl : Dk.tl (Dk.nm 2) (e.txt 2) = [(Dk.nm 2, e.txt 2)] := by unfold Dk.tl; rw [if_neg HE.out]
                rw [HST.out, htl, flatF_snoc, List.length_append, ← HXN.out.1, ← HXN.out.2]
                exact h2
            -- END REGION pla0
        · have HST := hide (show Dk.plainL e 2 = Dk.plainL e 1 ++ Dk.tl (Dk.nm 0) (e.txt 0) from hst0)
          have ct : wr.cell? ⟨tb, 0, none⟩ = some (.string (e.txt 0)) := (cell_blk HQ.out.2.2.2 0).trans (txCells_at e (by decide))
          clear hst0
          go_upto_region 47 with (fail)
          by_cases hx : e.txt 0 = ⟨#[]⟩
          · have HE := hide hx
            rw [hx] at ct
            clear hx
            go_wp2_with fail
            go_roundg (3 - (1 + 1))
            case measure => omega
            case rel => exact ⟨1 + 1, by omega, rfl, by go_num, by rw [HST.out, HE.out]; show wr.ownsRow _ _ _ _ (Dk.plainL e 1 ++ []).length (flatF (Dk.plainL e 1 ++ [])) ∧ _; rw [List.append_nil]; exact HQ0.out⟩
          · have hpos : 0 < ((e.txt 0).size : Int) := by
              have : (e.txt 0).size ≠ 0 := fun h => hx (bl_inj (by rw [ByteArray.size_eq_zero_iff] at h; rw [h]; rfl))
              omega
            have HE := hide hx
            clear hx
            go_upto_region 48 with (fail)
-- REGION pla1
    
            refine wp_region_local (by kernel_rfl) (by kernel_rfl) (useList pla1U) [12] (by kernel_rfl) (spR (pla1L e u23 n xs nb tb B2)) (onePre 11 (fun u => Below wr.heap.size wr u)) (Moved (fun k => B2 ≤ k) wr) (oneE 11 (fun _ _ => True)) (one_stays (by simp [pla1L]) (by kernel_rfl)) (one_pre (fun _ _ h hb => h.trans (hb.mono h.size))) (one_refl (fun _ => trivial)) (dsts_lt (N := 264) (by kernel_rfl)) ((Moved.refl _ _).drew) (fun _ _ => one_start ((Below.refl _ _).drew)) (all_ops ?_) ?_
            · refine And.intro ?_ ?_
              · as_aux_lemma =>
                  -- 0: slot 248 := Op.move (Operand.tmp 23)
                  refine lstep_run fun fr wf left => ?_
                  have o23 := (left.old 23 (by kernel_rfl)).trans rfl
                  refine ⟨wanted_none rfl, fun K hK => ?_⟩
                  have hB := hide left.base
                  clear left
                  go_simp
                  exact hK _ _ rfl hB.out (one_refl (fun _ => trivial) _ _)
              refine And.intro ?_ ?_
              · as_aux_lemma =>
                  -- 1: slot 249 := Op.move (Operand.tmp 6)
                  refine lstep_run fun fr wf left => ?_
                  have o6 := (left.old 6 (by kernel_rfl)).trans rfl
                  refine ⟨wanted_none rfl, fun K hK => ?_⟩
                  have hB := hide left.base
                  clear left
                  go_simp
                  exact hK _ _ rfl hB.out (one_refl (fun _ => trivial) _ _)
              refine And.intro ?_ ?_
              · as_aux_lemma =>
                  -- 2: slot 250 := Op.move (Operand.tmp 25)
                  refine lstep_run fun fr wf left => ?_
                  have o25 := (left.old 25 (by kernel_rfl)).trans rfl
                  refine ⟨wanted_none rfl, fun K hK => ?_⟩
                  have hB := hide left.base
                  clear left
                  go_simp
                  exact hK _ _ rfl hB.out (one_refl (fun _ => trivial) _ _)
              refine And.intro ?_ ?_
              · as_aux_lemma =>
                  -- 3: slot 251 := Op.indexAddr 27 (Operand.tmp 249) (Operand.tmp 250)
                  refine lstep_run fun fr wf left => ?_
                  obtain ⟨x1, e1, r1⟩ := left.slot 264 rfl 1 249 _ rfl rfl (by decide) rfl
                  have s1 := Eq.symm (show x1 = .slice (some ⟨nb, 0, none⟩) 3 3 from r1)
                  subst s1
                  obtain ⟨x2, e2, r2⟩ := left.slot 264 rfl 2 250 _ rfl rfl (by decide) rfl
                  have s2 := Eq.symm (show x2 = .int .i64 0 from r2)
                  subst s2
                  refine ⟨wanted_none rfl, fun K hK => ?_⟩
                  have hB := hide left.base
                  clear left
                  go_simp
                  exact hK _ _ rfl hB.out (one_refl (fun _ => trivial) _ _)
              refine And.intro ?_ ?_
              · as_aux_lemma =>
                  -- 4: slot 252 := Op.load 9 (Operand.tmp 251)
                  refine lstep_run fun fr wf left => ?_
                  obtain ⟨x3, e3, r3⟩ := left.slot 264 rfl 3 251 _ rfl rfl (by decide) rfl
                  have s3 := Eq.symm (show x3 = .pointer (some ⟨nb, 0, none⟩) from r3)
                  subst s3
                  refine ⟨wanted_none rfl, fun K hK => ?_⟩
                  have hB := hide left.base
                  have hc := (cell_blk ((hB.out.block nb (heap_lt HQ.out.2.2.1) (fun h => by have h : B2 ≤ nb := h; have := HB2.out; omega)).trans HQ.out.2.2.1) 0).trans rfl
                  clear left
                  go_simp
                  exact hK _ _ rfl hB.out (one_refl (fun _ => trivial) _ _)
              refine And.intro ?_ ?_
              · as_aux_lemma =>
                  -- 5: slot 253 := Op.move (Operand.tmp 7)
                  refine lstep_run fun fr wf left => ?_
                  have o7 := (left.old 7 (by kernel_rfl)).trans rfl
                  refine ⟨wanted_none rfl, fun K hK => ?_⟩
                  have hB := hide left.base
                  clear left
                  go_simp
                  exact hK _ _ rfl hB.out (one_refl (fun _ => trivial) _ _)
              refine And.intro ?_ ?_
              · as_aux_lemma =>
                  -- 6: slot 254 := Op.move (Operand.tmp 25)
                  refine lstep_run fun fr wf left => ?_
                  have o25 := (left.old 25 (by kernel_rfl)).trans rfl
                  refine ⟨wanted_none rfl, fun K hK => ?_⟩
                  have hB := hide left.base
                  clear left
                  go_simp
                  exact hK _ _ rfl hB.out (one_refl (fun _ => trivial) _ _)
              refine And.intro ?_ ?_
              · as_aux_lemma =>
                  -- 7: slot 255 := Op.indexAddr 27 (Operand.tmp 253) (Operand.tmp 254)
                  refine lstep_run fun fr wf left => ?_
                  obtain ⟨x5, e5, r5⟩ := left.slot 264 rfl 5 253 _ rfl rfl (by decide) rfl
                  have s5 := Eq.symm (show x5 = .slice (some ⟨tb, 0, none⟩) 3 3 from r5)
                  subst s5
                  obtain ⟨x6, e6, r6⟩ := left.slot 264 rfl 6 254 _ rfl rfl (by decide) rfl
                  have s6 := Eq.symm (show x6 = .int .i64 0 from r6)
                  subst s6
                  refine ⟨wanted_none rfl, fun K hK => ?_⟩
                  have hB := hide left.base
                  clear left
                  go_simp
                  exact hK _ _ rfl hB.out (one_refl (fun _ => trivial) _ _)
              refine And.intro ?_ ?_
              · as_aux_lemma =>
                  -- 8: slot 256 := Op.load 9 (Operand.tmp 255)
                  refine lstep_run fun fr wf left => ?_
                  obtain ⟨x7, e7, r7⟩ := left.slot 264 rfl 7 255 _ rfl rfl (by decide) rfl
                  have s7 := Eq.symm (show x7 = .pointer (some ⟨tb, 0, none⟩) from r7)
                  subst s7
                  refine ⟨wanted_none rfl, fun K hK => ?_⟩
                  have hB := hide left.base
                  have hc := (cell_blk ((hB.out.block tb (heap_lt HQ.out.2.2.2) (fun h => by have h : B2 ≤ tb := h; have := HB2.out; omega)).trans HQ.out.2.2.2) 0).trans rfl
                  clear left
                  go_simp
                  exact hK _ _ rfl hB.out (one_refl (fun _ => trivial) _ _)
              refine And.intro ?_ ?_
              · as_aux_lemma =>
                  -- 9: slot 257 := Op.build 42 #[(0, Operand.tmp 252), (1, Operand.tmp 256)]
                  refine lstep_run fun fr wf left => ?_
                  obtain ⟨x4, e4, r4⟩ := left.slot 264 rfl 4 252 _ rfl rfl (by decide) rfl
                  have s4 := Eq.symm (show x4 = .string (Dk.nm 0) from r4)
                  subst s4
                  obtain ⟨x8, e8, r8⟩ := left.slot 264 rfl 8 256 _ rfl rfl (by decide) rfl
                  have s8 := Eq.symm (show x8 = .string (e.txt 0) from r8)
                  subst s8
                  refine ⟨wanted_none rfl, fun K hK => ?_⟩
                  have hB := hide left.base
                  clear left
                  go_simp
                  exact hK _ _ rfl hB.out (one_refl (fun _ => trivial) _ _)
              refine And.intro ?_ ?_
              · as_aux_lemma =>
                  -- 10: slot 258 := Op.buildSlice 40 1 #[(0, Operand.tmp 257)]
                  refine lstep_run fun fr wf left => ?_
                  obtain ⟨x9, e9, r9⟩ := left.slot 264 rfl 9 257 _ rfl rfl (by decide) rfl
                  have s9 := Eq.symm (show x9 = .agg #[.string (Dk.nm 0), .string (e.txt 0)] from r9)
                  subst s9
                  refine ⟨wanted_none rfl, fun K hK => ?_⟩
                  have hB := hide left.base
                  clear left
                  go_simp
                  exact hK _ _ ⟨_, rfl, alloc_at _ _⟩ (hB.out.alloc _) (one_else (by decide) ((Below.refl _ _).alloc (Nat.le_refl _) _))
              refine And.intro ?_ ?_
              · as_aux_lemma =>
                  -- 11: slot 259 := Op.call { callee := Callee.builtin Builtin.append, args := #[Operand.tmp 248, Operand.tmp 
                  refine lstep_run fun fr wf left => ?_
                  obtain ⟨x0, e0, r0⟩ := left.slot 264 rfl 0 248 _ rfl rfl (by decide) rfl
                  have s0 := Eq.symm (show x0 = u23 from r0)
                  subst s0
                  obtain ⟨x10, e10, r10⟩ := left.slot 264 rfl 10 258 _ rfl rfl (by decide) rfl
                  replace r10 : (fun v u => ∃ B, v = .slice (some ⟨B, 0, none⟩) 1 1 ∧ u.heap[B]? = some (.cells #[.string (Dk.nm 0), .string (e.txt 0)] 42 (0, 0))) x10 wf := r10
                  refine ⟨wanted_none rfl, fun K hK => ?_⟩
                  have hB := hide left.base; have hP := hide (one_pre_at left.pre rfl)
                  clear left
                  obtain ⟨BB, hx10, hbb⟩ := r10
                  subst hx10
                  refine wp_append_file (.tmp 248) (.tmp 258) rfl B2 u23 n xs (eval_tmp e0) (own_below HQ.out.1 hP.out) BB _ _ (eval_tmp e10) hbb HNN.out (Nat.le_trans HQ.out.2.1 hP.out.size) ?_
                  intro v' w' hown hgr
                  exact hK _ _ hown (hB.out.then (Moved.of_belowB (below_grown (Below.refl _ _) (own_below HQ.out.1 hP.out) hgr (Nat.le_refl _) (Nat.le_trans HQ.out.2.1 hP.out.size)))) (one_at rfl)
              refine And.intro ?_ ?_
              · as_aux_lemma =>
                  -- 12: slot 23 := Op.assign (Operand.tmp 259)
                  refine lstep_run fun fr wf left => ?_
                  obtain ⟨x11, e11, r11⟩ := left.slot 264 rfl 11 259 _ rfl rfl (by decide) rfl
                  replace r11 : (fun v u => u.ownsRow B2 42 2 v (n + 1) (xs ++ [.string (Dk.nm 0), .string (e.txt 0)])) x11 wf := r11
                  refine ⟨wanted_none rfl, fun K hK => ?_⟩
                  have hB := hide left.base
                  clear left
                  go_simp
                  exact hK _ _ r11 hB.out (one_refl (fun _ => trivial) _ _)
              exact trivial
            · intro fr wf hB hs hd hall hkeep
              have h23 : wf.ownsRow B2 42 2 (fr.tmps.getD 23 undef) (n + 1) (xs ++ [.string (Dk.nm 0), .string (e.txt 0)]) := hall 12 _ rfl (by simp)
              have hfr := act_ext (frame_setL hs hkeep [248, 249, 250, 251, 252, 253, 254, 255, 256, 257, 258, 259, 23] (by kernel_rfl)) hd
              clear hall hkeep hs hd
              dsimp only [List.foldl, List.set_cons_zero, List.set_cons_succ] at hfr
              generalize fr.tmps.getD 248 undef = q248 at hfr
              generalize fr.tmps.getD 249 undef = q249 at hfr
              generalize fr.tmps.getD 250 undef = q250 at hfr
              generalize fr.tmps.getD 251 undef = q251 at hfr
              generalize fr.tmps.getD 252 undef = q252 at hfr
              generalize fr.tmps.getD 253 undef = q253 at hfr
              generalize fr.tmps.getD 254 undef = q254 at hfr
              generalize fr.tmps.getD 255 undef = q255 at hfr
              generalize fr.tmps.getD 256 undef = q256 at hfr
              generalize fr.tmps.getD 257 undef = q257 at hfr
              generalize fr.tmps.getD 258 undef = q258 at hfr
              generalize fr.tmps.getD 259 undef = q259 at hfr
              generalize fr.tmps.getD 23 undef = q23 at hfr h23
              subst hfr
              have HCU := hide (And.intro hB h23)
              clear hB h23
              go_wp2_with fail
              go_roundg (3 - (1 + 1))
              case measure => omega
              case rel =>
                have hmv := HCU.out.1.below (B := B2) HQ.out.2.1 (fun k h => h)
                refine ⟨1 + 1, by omega, rfl, by go_num, ?_, HQ0.out.2.1.trans hmv, Nat.le_trans HQ.out.2.1 hmv.size⟩
                have h2 := HCU.out.2
                have htl : Dk.tl (Dk.nm 0) (e.txt 0) = [(Dk.nm 0, e.txt 0)] := by unfold Dk.tl; rw [if_neg HE.out]
                rw [HST.out, htl, flatF_snoc, List.length_append, ← HXN.out.1, ← HXN.out.2]
                exact h2
            -- END REGION pla1
        · have HST := hide (show Dk.plainL e 3 = Dk.plainL e 2 ++ Dk.tl (Dk.nm 1) (e.txt 1) from hst0)
          have ct : wr.cell? ⟨tb, 1, none⟩ = some (.string (e.txt 1)) := (cell_blk HQ.out.2.2.2 1).trans (txCells_at e (by decide))
          clear hst0
          go_upto_region 47 with (fail)
          by_cases hx : e.txt 1 = ⟨#[]⟩
          · have HE := hide hx
            rw [hx] at ct
            clear hx
            go_wp2_with fail
            go_roundg (3 - (2 + 1))
            case measure => omega
            case rel => exact ⟨2 + 1, by omega, rfl, by go_num, by rw [HST.out, HE.out]; show wr.ownsRow _ _ _ _ (Dk.plainL e 2 ++ []).length (flatF (Dk.plainL e 2 ++ [])) ∧ _; rw [List.append_nil]; exact HQ0.out⟩
          · have hpos : 0 < ((e.txt 1).size : Int) := by
              have : (e.txt 1).size ≠ 0 := fun h => hx (bl_inj (by rw [ByteArray.size_eq_zero_iff] at h; rw [h]; rfl))
              omega
            have HE := hide hx
            clear hx
            go_upto_region 48 with (fail)
-- REGION pla2
    
            refine wp_region_local (by kernel_rfl) (by kernel_rfl) (useList pla2U) [12] (by kernel_rfl) (spR (pla2L e u23 n xs nb tb B2)) (onePre 11 (fun u => Below wr.heap.size wr u)) (Moved (fun k => B2 ≤ k) wr) (oneE 11 (fun _ _ => True)) (one_stays (by simp [pla2L]) (by kernel_rfl)) (one_pre (fun _ _ h hb => h.trans (hb.mono h.size))) (one_refl (fun _ => trivial)) (dsts_lt (N := 264) (by kernel_rfl)) ((Moved.refl _ _).drew) (fun _ _ => one_start ((Below.refl _ _).drew)) (all_ops ?_) ?_
            · refine And.intro ?_ ?_
              · as_aux_lemma =>
                  -- 0: slot 248 := Op.move (Operand.tmp 23)
                  refine lstep_run fun fr wf left => ?_
                  have o23 := (left.old 23 (by kernel_rfl)).trans rfl
                  refine ⟨wanted_none rfl, fun K hK => ?_⟩
                  have hB := hide left.base
                  clear left
                  go_simp
                  exact hK _ _ rfl hB.out (one_refl (fun _ => trivial) _ _)
              refine And.intro ?_ ?_
              · as_aux_lemma =>
                  -- 1: slot 249 := Op.move (Operand.tmp 6)
                  refine lstep_run fun fr wf left => ?_
                  have o6 := (left.old 6 (by kernel_rfl)).trans rfl
                  refine ⟨wanted_none rfl, fun K hK => ?_⟩
                  have hB := hide left.base
                  clear left
                  go_simp
                  exact hK _ _ rfl hB.out (one_refl (fun _ => trivial) _ _)
              refine And.intro ?_ ?_
              · as_aux_lemma =>
                  -- 2: slot 250 := Op.move (Operand.tmp 25)
                  refine lstep_run fun fr wf left => ?_
                  have o25 := (left.old 25 (by kernel_rfl)).trans rfl
                  refine ⟨wanted_none rfl, fun K hK => ?_⟩
                  have hB := hide left.base
                  clear left
                  go_simp
                  exact hK _ _ rfl hB.out (one_refl (fun _ => trivial) _ _)
              refine And.intro ?_ ?_
              · as_aux_lemma =>
                  -- 3: slot 251 := Op.indexAddr 27 (Operand.tmp 249) (Operand.tmp 250)
                  refine lstep_run fun fr wf left => ?_
                  obtain ⟨x1, e1, r1⟩ := left.slot 264 rfl 1 249 _ rfl rfl (by decide) rfl
                  have s1 := Eq.symm (show x1 = .slice (some ⟨nb, 0, none⟩) 3 3 from r1)
                  subst s1
                  obtain ⟨x2, e2, r2⟩ := left.slot 264 rfl 2 250 _ rfl rfl (by decide) rfl
                  have s2 := Eq.symm (show x2 = .int .i64 1 from r2)
                  subst s2
                  refine ⟨wanted_none rfl, fun K hK => ?_⟩
                  have hB := hide left.base
                  clear left
                  go_simp
                  exact hK _ _ rfl hB.out (one_refl (fun _ => trivial) _ _)
              refine And.intro ?_ ?_
              · as_aux_lemma =>
                  -- 4: slot 252 := Op.load 9 (Operand.tmp 251)
                  refine lstep_run fun fr wf left => ?_
                  obtain ⟨x3, e3, r3⟩ := left.slot 264 rfl 3 251 _ rfl rfl (by decide) rfl
                  have s3 := Eq.symm (show x3 = .pointer (some ⟨nb, 1, none⟩) from r3)
                  subst s3
                  refine ⟨wanted_none rfl, fun K hK => ?_⟩
                  have hB := hide left.base
                  have hc := (cell_blk ((hB.out.block nb (heap_lt HQ.out.2.2.1) (fun h => by have h : B2 ≤ nb := h; have := HB2.out; omega)).trans HQ.out.2.2.1) 1).trans rfl
                  clear left
                  go_simp
                  exact hK _ _ rfl hB.out (one_refl (fun _ => trivial) _ _)
              refine And.intro ?_ ?_
              · as_aux_lemma =>
                  -- 5: slot 253 := Op.move (Operand.tmp 7)
                  refine lstep_run fun fr wf left => ?_
                  have o7 := (left.old 7 (by kernel_rfl)).trans rfl
                  refine ⟨wanted_none rfl, fun K hK => ?_⟩
                  have hB := hide left.base
                  clear left
                  go_simp
                  exact hK _ _ rfl hB.out (one_refl (fun _ => trivial) _ _)
              refine And.intro ?_ ?_
              · as_aux_lemma =>
                  -- 6: slot 254 := Op.move (Operand.tmp 25)
                  refine lstep_run fun fr wf left => ?_
                  have o25 := (left.old 25 (by kernel_rfl)).trans rfl
                  refine ⟨wanted_none rfl, fun K hK => ?_⟩
                  have hB := hide left.base
                  clear left
                  go_simp
                  exact hK _ _ rfl hB.out (one_refl (fun _ => trivial) _ _)
              refine And.intro ?_ ?_
              · as_aux_lemma =>
                  -- 7: slot 255 := Op.indexAddr 27 (Operand.tmp 253) (Operand.tmp 254)
                  refine lstep_run fun fr wf left => ?_
                  obtain ⟨x5, e5, r5⟩ := left.slot 264 rfl 5 253 _ rfl rfl (by decide) rfl
                  have s5 := Eq.symm (show x5 = .slice (some ⟨tb, 0, none⟩) 3 3 from r5)
                  subst s5
                  obtain ⟨x6, e6, r6⟩ := left.slot 264 rfl 6 254 _ rfl rfl (by decide) rfl
                  have s6 := Eq.symm (show x6 = .int .i64 1 from r6)
                  subst s6
                  refine ⟨wanted_none rfl, fun K hK => ?_⟩
                  have hB := hide left.base
                  clear left
                  go_simp
                  exact hK _ _ rfl hB.out (one_refl (fun _ => trivial) _ _)
              refine And.intro ?_ ?_
              · as_aux_lemma =>
                  -- 8: slot 256 := Op.load 9 (Operand.tmp 255)
                  refine lstep_run fun fr wf left => ?_
                  obtain ⟨x7, e7, r7⟩ := left.slot 264 rfl 7 255 _ rfl rfl (by decide) rfl
                  have s7 := Eq.symm (show x7 = .pointer (some ⟨tb, 1, none⟩) from r7)
                  subst s7
                  refine ⟨wanted_none rfl, fun K hK => ?_⟩
                  have hB := hide left.base
                  have hc := (cell_blk ((hB.out.block tb (heap_lt HQ.out.2.2.2) (fun h => by have h : B2 ≤ tb := h; have := HB2.out; omega)).trans HQ.out.2.2.2) 1).trans rfl
                  clear left
                  go_simp
                  exact hK _ _ rfl hB.out (one_refl (fun _ => trivial) _ _)
              refine And.intro ?_ ?_
              · as_aux_lemma =>
                  -- 9: slot 257 := Op.build 42 #[(0, Operand.tmp 252), (1, Operand.tmp 256)]
                  refine lstep_run fun fr wf left => ?_
                  obtain ⟨x4, e4, r4⟩ := left.slot 264 rfl 4 252 _ rfl rfl (by decide) rfl
                  have s4 := Eq.symm (show x4 = .string (Dk.nm 1) from r4)
                  subst s4
                  obtain ⟨x8, e8, r8⟩ := left.slot 264 rfl 8 256 _ rfl rfl (by decide) rfl
                  have s8 := Eq.symm (show x8 = .string (e.txt 1) from r8)
                  subst s8
                  refine ⟨wanted_none rfl, fun K hK => ?_⟩
                  have hB := hide left.base
                  clear left
                  go_simp
                  exact hK _ _ rfl hB.out (one_refl (fun _ => trivial) _ _)
              refine And.intro ?_ ?_
              · as_aux_lemma =>
                  -- 10: slot 258 := Op.buildSlice 40 1 #[(0, Operand.tmp 257)]
                  refine lstep_run fun fr wf left => ?_
                  obtain ⟨x9, e9, r9⟩ := left.slot 264 rfl 9 257 _ rfl rfl (by decide) rfl
                  have s9 := Eq.symm (show x9 = .agg #[.string (Dk.nm 1), .string (e.txt 1)] from r9)
                  subst s9
                  refine ⟨wanted_none rfl, fun K hK => ?_⟩
                  have hB := hide left.base
                  clear left
                  go_simp
                  exact hK _ _ ⟨_, rfl, alloc_at _ _⟩ (hB.out.alloc _) (one_else (by decide) ((Below.refl _ _).alloc (Nat.le_refl _) _))
              refine And.intro ?_ ?_
              · as_aux_lemma =>
                  -- 11: slot 259 := Op.call { callee := Callee.builtin Builtin.append, args := #[Operand.tmp 248, Operand.tmp 
                  refine lstep_run fun fr wf left => ?_
                  obtain ⟨x0, e0, r0⟩ := left.slot 264 rfl 0 248 _ rfl rfl (by decide) rfl
                  have s0 := Eq.symm (show x0 = u23 from r0)
                  subst s0
                  obtain ⟨x10, e10, r10⟩ := left.slot 264 rfl 10 258 _ rfl rfl (by decide) rfl
                  replace r10 : (fun v u => ∃ B, v = .slice (some ⟨B, 0, none⟩) 1 1 ∧ u.heap[B]? = some (.cells #[.string (Dk.nm 1), .string (e.txt 1)] 42 (0, 0))) x10 wf := r10
                  refine ⟨wanted_none rfl, fun K hK => ?_⟩
                  have hB := hide left.base; have hP := hide (one_pre_at left.pre rfl)
                  clear left
                  obtain ⟨BB, hx10, hbb⟩ := r10
                  subst hx10
                  refine wp_append_file (.tmp 248) (.tmp 258) rfl B2 u23 n xs (eval_tmp e0) (own_below HQ.out.1 hP.out) BB _ _ (eval_tmp e10) hbb HNN.out (Nat.le_trans HQ.out.2.1 hP.out.size) ?_
                  intro v' w' hown hgr
                  exact hK _ _ hown (hB.out.then (Moved.of_belowB (below_grown (Below.refl _ _) (own_below HQ.out.1 hP.out) hgr (Nat.le_refl _) (Nat.le_trans HQ.out.2.1 hP.out.size)))) (one_at rfl)
              refine And.intro ?_ ?_
              · as_aux_lemma =>
                  -- 12: slot 23 := Op.assign (Operand.tmp 259)
                  refine lstep_run fun fr wf left => ?_
                  obtain ⟨x11, e11, r11⟩ := left.slot 264 rfl 11 259 _ rfl rfl (by decide) rfl
                  replace r11 : (fun v u => u.ownsRow B2 42 2 v (n + 1) (xs ++ [.string (Dk.nm 1), .string (e.txt 1)])) x11 wf := r11
                  refine ⟨wanted_none rfl, fun K hK => ?_⟩
                  have hB := hide left.base
                  clear left
                  go_simp
                  exact hK _ _ r11 hB.out (one_refl (fun _ => trivial) _ _)
              exact trivial
            · intro fr wf hB hs hd hall hkeep
              have h23 : wf.ownsRow B2 42 2 (fr.tmps.getD 23 undef) (n + 1) (xs ++ [.string (Dk.nm 1), .string (e.txt 1)]) := hall 12 _ rfl (by simp)
              have hfr := act_ext (frame_setL hs hkeep [248, 249, 250, 251, 252, 253, 254, 255, 256, 257, 258, 259, 23] (by kernel_rfl)) hd
              clear hall hkeep hs hd
              dsimp only [List.foldl, List.set_cons_zero, List.set_cons_succ] at hfr
              generalize fr.tmps.getD 248 undef = q248 at hfr
              generalize fr.tmps.getD 249 undef = q249 at hfr
              generalize fr.tmps.getD 250 undef = q250 at hfr
              generalize fr.tmps.getD 251 undef = q251 at hfr
              generalize fr.tmps.getD 252 undef = q252 at hfr
              generalize fr.tmps.getD 253 undef = q253 at hfr
              generalize fr.tmps.getD 254 undef = q254 at hfr
              generalize fr.tmps.getD 255 undef = q255 at hfr
              generalize fr.tmps.getD 256 undef = q256 at hfr
              generalize fr.tmps.getD 257 undef = q257 at hfr
              generalize fr.tmps.getD 258 undef = q258 at hfr
              generalize fr.tmps.getD 259 undef = q259 at hfr
              generalize fr.tmps.getD 23 undef = q23 at hfr h23
              subst hfr
              have HCU := hide (And.intro hB h23)
              clear hB h23
              go_wp2_with fail
              go_roundg (3 - (2 + 1))
              case measure => omega
              case rel =>
                have hmv := HCU.out.1.below (B := B2) HQ.out.2.1 (fun k h => h)
                refine ⟨2 + 1, by omega, rfl, by go_num, ?_, HQ0.out.2.1.trans hmv, Nat.le_trans HQ.out.2.1 hmv.size⟩
                have h2 := HCU.out.2
                have htl : Dk.tl (Dk.nm 1) (e.txt 1) = [(Dk.nm 1, e.txt 1)] := by unfold Dk.tl; rw [if_neg HE.out]
                rw [HST.out, htl, flatF_snoc, List.length_append, ← HXN.out.1, ← HXN.out.2]
                exact h2
            -- END REGION pla2
      · have hi4 : i = 3 := by omega
        subst hi4
        go_wp2_with fail
        go_meet
        case rel => exact ⟨HQ0.out.1, HQ0.out.2.1⟩
    have HLX := hcut
    clear hcut
    have hwc : Below w.heap.size w wc := HR.out.2.2.2.2.trans (HLX.out.2.mono (by rw [HB2.out.1]; exact HR.out.2.2.2.2.size))
    have HE := hide hwc
    have HDX := hide (HR.out.2.1.past (HLX.out.2.mono (by rw [HB2.out.1]; exact Nat.le_refl _)))
    have hs0 := slf_of_owns HLX.out.1
    obtain ⟨l2, a2, c2, hl2, rfl, _, _⟩ := hs0.form
    have HS0 := hide hs0
    have HLL := hide (Dk.plainL_len e 3)
    clear hs0 hwc hl2
    go_wp2_with fail
    refine (files_val D _ (Dk.plainL e 3) wc HDX.out (Dk.plain_files _ _ _)).mono ?_
    rintro e0 wf ⟨len1', a1', cap1', rfl, hll, hs, hb⟩
    have HF := hide (And.intro hs hb)
    clear hs hb hll
    go_wp2_with fail
    refine (same_val _ _ (Dk.plainL e 3) (Dk.plainL e 3) true wf HF.out.1 (HS0.out.below HF.out.2) (by have := HLL.out; omega) (by have := HLL.out; omega) (decide_eq_true rfl)).mono ?_
    rintro e0 wg ⟨rfl, hb⟩
    go_wp2_with fail
    go_ret
    exact ⟨rfl, HE.out.trans ((HF.out.2.trans (hb.mono HF.out.2.size)).mono HE.out.size)⟩
#print axioms plain_any
end Go.Proofs.Ytiiblpgiafbaoaa
