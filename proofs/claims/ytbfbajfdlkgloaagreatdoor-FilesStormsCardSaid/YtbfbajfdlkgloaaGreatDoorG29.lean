/-
  The program's store: Add. 
-/
import Derived.Test.YtbfbajfdlkgloaaGreatDoorG26
import Derived.Test.YtbfbajfdlkgloaaGreatDoorG28
import Derived.Deep.CutBlock

namespace Go.Proofs.YtbfbajfdlkgloaaGreatDoor
open Go Go.RowKit Go.Maps
theorem info_strF : (Tryz.prog.info? 9).map (fun i => (i.zero, i.size, i.bytes)) = some (some (.string ByteArray.empty), 1, 16) := by kernel_rfl
theorem Fl.check_zero {s : Fl.St} {item : ByteArray} {made : List ByteArray} (h : Fl.checkA s item made = 0) : item.size ≤ 1048576 ∧ s.ends.length < 65536 ∧ made.length = Fl.nodes (s.ends.length + 1) - Fl.nodes s.ends.length ∧ (∀ d ∈ made, d.size = s.k) ∧ s.fin + 8 + item.size ≤ 268435456 := by
  unfold Fl.checkA at h
  split at h
  · omega
  · split at h
    · omega
    · split at h
      · omega
      · split at h
        · omega
        · split at h
          · omega
          · split at h
            · omega
            · rename_i h2 h3 h4 h5 h6
              refine ⟨by omega, by omega, by omega, fun d hd => ?_, by omega⟩
              have h7 : (made.all fun d => decide (d.size = s.k)) = true := by simpa using h5
              exact of_decide_eq_true (List.all_eq_true.1 h7 d hd)
/-- What a store of one cell leaves of the blocks of one cell. -/
def CellF (T : Nat) (w w' : World) : Prop := ∀ (B : Nat) (x : Value), w.heap[B]? = some (Obj.cells #[x] T (0, 0)) → ∃ y : Value, w'.heap[B]? = some (Obj.cells #[y] T (0, 0))
theorem CellF.refl (T : Nat) (w : World) : CellF T w w := fun _ x h => ⟨x, h⟩
theorem CellF.set {T b : Nat} {w : World} {x v : Value} (hb : w.heap[b]? = some (.cells #[x] T (0, 0))) : CellF T w (w.setCell ⟨b, 0, none⟩ v) := by
  intro B y h
  by_cases hB : B = b
  · subst hB
    exact ⟨v, by rw [heap_setCell_same _ _ _ _ _ _ hb]; rfl⟩
  · exact ⟨y, (Below.heap_setCell w ⟨b, 0, none⟩ v B hB).trans h⟩
theorem chain_val (c : Nat) (item : ByteArray) (v : Value) (xs : List ByteArray) (r : Nat) (w : World) (hc : c < 4294967296) (hi : item.size ≤ 140737488351232) (hv : SlV w v (xs.map Value.string)) (hn : xs.length ≤ 140737488351232) (hxs : Rec.sizes xs ≤ 140737488351232) (hr : r = Rec.chainB c item xs) :
    Calls Tryz.prog 62 #[.int .u32 (c : Int), .string item, v] w fun e w' => e = .returned (.int .u32 (r : Int)) ∧ Below w.heap.size w w' := by
  rw [hr]; exact chain_any c item v xs w hc hi hv hn hxs
theorem Rec.node_size {p : Nat} {d : ByteArray} (h : d.size ≤ 32) : (Rec.nodeB p d).size = 40 := by
  unfold Rec.nodeB
  rw [if_neg (by omega), Rec.sealB_size, ByteArray.size_append, ByteArray.size_append, Rec.zeroB_size, Rec.numB_size]
  omega
theorem Rec.sizes_recs : ∀ (l : List ByteArray) (p : Nat), (∀ d ∈ l, d.size ≤ 32) → Rec.sizes (Fl.recsB p l) = 40 * l.length
  | [], _, _ => rfl
  | d :: l, p, h => by
    show (Rec.nodeB p d).size + Rec.sizes (Fl.recsB (p + 1) l) = _
    rw [Rec.node_size (h d (by simp)), Rec.sizes_recs l (p + 1) (fun x hx => h x (by simp [hx])), List.length_cons]
    omega
theorem Fl.recsB_snoc : ∀ (l : List ByteArray) (p : Nat) (d : ByteArray), Fl.recsB p (l ++ [d]) = Fl.recsB p l ++ [Rec.nodeB (p + l.length) d]
  | [], p, d => rfl
  | e :: l, p, d => by
    show Rec.nodeB p e :: Fl.recsB (p + 1) (l ++ [d]) = _
    rw [Fl.recsB_snoc l (p + 1) d, List.length_cons, show p + 1 + l.length = p + (l.length + 1) by omega]
    rfl
def laidR (Q : Nat) (made : List ByteArray) (ml i : Nat) : List Value := (Fl.recsB Q (made.take i)).map Value.string ++ List.replicate (ml - i) (.string ByteArray.empty)
theorem laidR_len {Q ml i : Nat} {made : List ByteArray} (h : i ≤ made.length) (hi : i ≤ ml) : (laidR Q made ml i).length = ml := by
  unfold laidR
  rw [List.length_append, List.length_map, Fl.recsB_len, List.length_take, List.length_replicate]
  omega
theorem laidR_set {Q ml i : Nat} {made : List ByteArray} {d : ByteArray} (hd : made[i]? = some d) (hi : i < ml) : (laidR Q made ml i).set i (.string (Rec.nodeB (Q + i) d)) = laidR Q made ml (i + 1) := by
  have hlt := (List.getElem?_eq_some_iff.1 hd).1
  have hl : ((Fl.recsB Q (made.take i)).map Value.string).length = i := by rw [List.length_map, Fl.recsB_len, List.length_take]; omega
  unfold laidR
  rw [List.set_append_right _ _ (by omega), hl, Nat.sub_self, show ml - i = (ml - (i + 1)) + 1 by omega, List.replicate_succ, List.set_cons_zero]
  rw [List.take_add_one, hd]
  show _ = (Fl.recsB Q (made.take i ++ [d])).map Value.string ++ _
  rw [Fl.recsB_snoc, List.map_append, List.length_take, Nat.min_eq_left (by omega), List.append_assoc]
  rfl
theorem SlV.cellAt {w : World} {a : Option Addr} {len cap i : Nat} {xs : List Value} (h : SlV w (.slice a len cap) xs) (hi : i < xs.length) : ∃ b off, a = some ⟨b, off, none⟩ ∧ b < w.heap.size ∧ w.cell? ⟨b, off + i, none⟩ = xs[i]? := by
  rcases h with ⟨h0, _⟩ | ⟨b, off, cap', e, hc, hb, hx⟩
  · rw [h0] at hi; cases hi
  · injection e with e1 e2 e3
    exact ⟨b, off, e1, hb, by rw [hx i hi, List.getElem?_eq_getElem hi]⟩
def fad23L (T : Fl.Blk) (D : Dk.Blk) (s : Fl.St) (P : ByteArray) (bs fin C : Nat) (wr : World) : List Sp :=
  [.is (.pointer (some ⟨T.g, 0, none⟩)), .is (.pointer (some ⟨T.g, 0, none⟩)), .is (.pointer (some ⟨T.g, 0, none⟩)), .is (.pointer (some ⟨T.g, 0, none⟩)), .is (.pointer (some ⟨T.g, 2, none⟩)), .is (T.ev), .is (.int .i64 ((fin + P.size : Nat) : Int)), .rel (fun v u => ∃ B, v = .slice (some ⟨B, 0, none⟩) 1 1 ∧ u.heap[B]? = some (.cells #[.int .i64 ((fin + P.size : Nat) : Int)] 3 (0, 0))) (fun _ _ _ h hb => by obtain ⟨B, h1, h3⟩ := h; exact ⟨B, h1, blk_stable _ _ h3 hb⟩), .rel (fun v u => Say8 T D.g s (fin + P.size) wr v u) (fun _ _ _ h hb => h.past hb), .is (.int .u32 (C : Int)), .is (.pointer (some ⟨T.g, 0, none⟩)), .is (.pointer (some ⟨T.g, 2, none⟩)), .say (fun u => Say12 T D.g s (fin + P.size) wr u) (fun _ _ h hb => h.past hb), .is (.pointer (some ⟨T.g, 0, none⟩)), .is (.pointer (some ⟨T.g, 3, none⟩)), .say (fun u => Say15 T D.g s (fin + P.size) C wr u) (fun _ _ h hb => h.past hb)]
def fad23U : List (List Nat) := [[], [], [], [2], [3], [4], [], [6], [5, 7], [], [0], [10], [8, 11], [1], [13], [9, 12, 14]]
def fad14L (W9 : World) (T : Fl.Blk) (P MK : ByteArray) (bs b8 n kk fin Q1 C : Nat) : List Sp :=
  [.is (.pointer (some ⟨T.g, 0, none⟩)), .is (.pointer (some ⟨T.g, 0, none⟩)), .is (.pointer (some ⟨T.g, 1, none⟩)), .is (.int .i64 (kk : Int)), .is (.int .i64 (n : Int)), .is (.int .u64 ((n : Int))), .is (.int .u64 (((n + 1 : Nat) : Int))), .is (.int .i64 ((fin + P.size : Nat) : Int)), .is (.int .u64 (((fin + P.size : Nat) : Int))), .is (.int .i64 (n : Int)), .is (.int .i64 (((n + 1 : Nat) : Int))), .is (.int .i64 (Q1 : Int)), .is (.int .i64 (((40 * Q1 : Nat) : Int))), .is (.int .u64 (((40 * Q1 : Nat) : Int))), .is (.int .u32 (C : Int)), .is (.agg #[.int .i64 (kk : Int), .int .u64 ((n + 1 : Nat) : Int), .int .u64 ((fin + P.size : Nat) : Int), .int .u64 ((40 * Q1 : Nat) : Int), .int .u32 (C : Int)]), .is (.string MK), .rel (fun v u => ∃ B x, v = .pointer (some ⟨B, 0, none⟩) ∧ W9.heap.size ≤ B ∧ u.heap[B]? = some (.cells #[x] 9 (0, 0))) (fun _ _ _ h hb => by obtain ⟨B, x, h1, h2, h3⟩ := h; exact ⟨B, x, h1, h2, blk_stable _ _ h3 hb⟩), .rel (fun v u => ∃ B, v = .pointer (some ⟨B, 0, none⟩) ∧ W9.heap.size ≤ B ∧ u.heap[B]? = some (.cells #[.string MK] 9 (0, 0))) (fun _ _ _ h hb => by obtain ⟨B, h1, h2, h3⟩ := h; exact ⟨B, h1, h2, blk_stable _ _ h3 hb⟩)]
def fad14U : List (List Nat) := [[], [0], [1], [2], [], [4], [5], [], [7], [], [9], [10], [11], [12], [], [3, 6, 8, 13, 14], [15], [], [16, 17]]
def fad13L (T : Fl.Blk) (P : ByteArray) (bs bp br gr ml ch C : Nat) : List Sp :=
  [.is (.pointer (some ⟨T.g, 0, none⟩)), .is (.pointer (some ⟨T.g, 0, none⟩)), .is (.pointer (some ⟨T.g, 3, none⟩)), .is (.int .u32 (ch : Int)), .is (.string P), .is (.slice (some ⟨gr, 0, none⟩) ml ml), .is (.int .u32 (C : Int)), .is (.int .u32 (C : Int))]
def fad13U : List (List Nat) := [[], [0], [1], [2], [], [], [3, 4, 5], [6]]
def fad12L (T : Fl.Blk) (P : ByteArray) (bs bp fin : Nat) : List Sp :=
  [.is (.pointer (some ⟨T.g, 0, none⟩)), .is (.int .i64 (fin : Int)), .is (.string P), .is (.int .i64 (P.size : Int)), .is (.int .i64 ((fin + P.size : Nat) : Int)), .is (.int .i64 ((fin + P.size : Nat) : Int))]
def fad12U : List (List Nat) := [[], [0], [], [2], [1, 3], [4]]
def fad10L (xs : List Value) (R dd : ByteArray) (gr br b9 ml Q i : Nat) : List Sp :=
  [.is (.slice (some ⟨gr, 0, none⟩) ml ml), .is (.int .i64 (i : Int)), .is (.int .i64 (Q : Int)), .is (.int .i64 (i : Int)), .is (.int .i64 ((Q + i : Nat) : Int)), .is (.int .u64 ((Q + i : Nat) : Int)), .is (.string dd), .is (.string R), .is (.pointer (some ⟨gr, i, none⟩)), .say (fun u => Arr u gr 9 (xs.set i (.string R))) (fun _ _ h hb => h.past hb)]
def fad10U : List (List Nat) := [[], [], [], [], [2, 3], [4], [], [5, 6], [0, 1], [7, 8]]
def fad4L (W : World) (T : Fl.Blk) (ad : Option Addr) (bs n cap Q : Nat) : List Sp :=
  [.is (.pointer (some ⟨T.g, 0, none⟩)), .is (.pointer (some ⟨T.g, 0, none⟩)), .is (.pointer (some ⟨T.g, 2, none⟩)), .is (.slice ad n cap), .is (.int .i64 (n : Int)), .is (.pointer (some ⟨T.g, 0, none⟩)), .is (.pointer (some ⟨T.g, 0, none⟩)), .is (.pointer (some ⟨T.g, 2, none⟩)), .is (.slice ad n cap), .is (.int .i64 (n : Int)), .is (.int .i64 (Q : Int)), .rel (fun v u => ∃ B x, v = .pointer (some ⟨B, 0, none⟩) ∧ W.heap.size ≤ B ∧ u.heap[B]? = some (.cells #[x] 3 (0, 0))) (fun _ _ _ h hb => by obtain ⟨B, x, h1, h2, h3⟩ := h; exact ⟨B, x, h1, h2, blk_stable _ _ h3 hb⟩), .rel (fun v u => ∃ B x, v = .pointer (some ⟨B, 0, none⟩) ∧ W.heap.size ≤ B ∧ u.heap[B]? = some (.cells #[x] 3 (0, 0))) (fun _ _ _ h hb => by obtain ⟨B, x, h1, h2, h3⟩ := h; exact ⟨B, x, h1, h2, blk_stable _ _ h3 hb⟩), .rel (fun v u => ∃ B, v = .pointer (some ⟨B, 0, none⟩) ∧ u.heap[B]? = some (.cells #[.int .i64 (n : Int)] 3 (0, 0))) (fun _ _ _ h hb => by obtain ⟨B, h1, h2⟩ := h; exact ⟨B, h1, blk_stable _ _ h2 hb⟩), .say (fun _ => True) (fun _ _ _ _ => trivial)]
def fad4U : List (List Nat) := [[], [0], [1], [2], [3], [], [5], [6], [7], [8], [9], [], [], [4, 11], [10, 11, 12, 13]]
set_option maxHeartbeats 8000000 in
set_option maxRecDepth 100000 in
theorem storeAdd_any (T : Fl.Blk) (D : Dk.Blk) (s : Fl.St) (d : Dk.St) (item : ByteArray) (mv : Value) (made : List ByteArray) (w : World) (h : StoreAt w T D.g s) (hd : DiskAt w D d) (hap : Fl.Away T D) (hi : item.size ≤ 140737488351232) (hmv : SlV w mv (made.map Value.string)) (hml : made.length ≤ 140737488351232) (hms : ∀ d ∈ made, d.size ≤ 140737488351232) (hacts : d.acts + 6 < 4611686018427387904) (hmany : d.files.length + 6 < 1099511627776) (hkl : d.keep.length ≤ 140737488351232) :
    Calls Tryz.prog 26 #[.pointer (some ⟨T.g, 0, none⟩), .string item, mv] w fun e w' => e = .returned (.int .i64 (Fl.addA s d item made).1) ∧ Fl.Added T D w w' (Fl.addA s d item made).2.1 (Fl.addA s d item made).2.2 := by
  obtain ⟨ad, cap, hv, hc, hx⟩ := h.form
  obtain ⟨n, hn⟩ : ∃ n, n = s.ends.length := ⟨_, rfl⟩
  rw [← hn] at hc
  have hm := h.ok.many
  rw [← hn] at hm
  obtain ⟨Q, hQ⟩ : ∃ q, q = Fl.nodes n := ⟨_, rfl⟩
  have hQn : Q ≤ 2 * n := by rw [hQ]; exact nodes_le n
  have HEV := hide (show T.ev = .slice ad n cap by rw [hv, ← hn])
  have HT := hide h
  have HD := hide hd
  have HN := hide hn
  have HQ := hide hQ
  have HMV := hide hmv
  have HMS := hide hms
  obtain ⟨ck, hck⟩ : ∃ c, c = Fl.checkA s item made := ⟨_, rfl⟩
  have HCK := hide hck
  have HAP := hide hap
  obtain ⟨ml, ma, mc, hmll, rfl, hmc, hmx⟩ := hmv.form
  have HML := hide (show ml = made.length by rw [hmll, List.length_map])
  have hpast := fun o => hide (h.past ((Below.refl w.heap.size w).alloc (Nat.le_refl _) o))
  clear h hd hv hx hn hQ hmv hms hck hmll hmx
  go_enter Tryz.func26, Tryz.ntmps26
  go_wp2_with fail
  refine (storeCheck_val T D.g s item _ made ck _ (hpast _).out hi (HMV.out.below ((Below.refl w.heap.size w).alloc (Nat.le_refl _) _)) hml HMS.out HCK.out).mono ?_
  rintro e w1 ⟨rfl, he⟩
  subst he
  by_cases h0 : ck = 0
  · subst h0
    obtain ⟨W, hW⟩ : ∃ u, u = w.alloc (.cells #[.pointer (some ⟨T.g, 0, none⟩)] 28) := ⟨_, rfl⟩
    obtain ⟨bs, hbs⟩ : ∃ b, b = w.heap.size := ⟨_, rfl⟩
    have HWb := hide (show W.heap[bs]? = some (.cells #[.pointer (some ⟨T.g, 0, none⟩)] 28 (0, 0)) by rw [hW, hbs]; exact alloc_at _ _)
    have HWT := hide (show StoreAt W T D.g s by rw [hW]; exact (hpast _).out)
    have HWW := hide (show Below w.heap.size w W by rw [hW]; exact (Below.refl w.heap.size w).alloc (Nat.le_refl _) _)
    rw [← hW, ← hbs]
    have HW := hide (And.intro hW hbs)
    clear hW hbs hpast
    have HRD := hide (show ∀ u, Below W.heap.size W u → u.cell? ⟨bs, 0, none⟩ = some (.pointer (some ⟨T.g, 0, none⟩)) ∧ u.cell? ⟨T.g, 2, none⟩ = some (.slice ad n cap) from by
      intro u hb
      have hs := HWT.out.past hb
      exact ⟨(cell_blk ((hb.block bs (heap_lt HWb.out)).trans HWb.out) 0).trans rfl, by rw [hs.c2, HEV.out]⟩)
    go_upto_region 4 with (fail)
    go_cut [8, 9] from 27 to 37 (fun v8 v9 wx => Hid (∃ b8 b9, v8 = .pointer (some ⟨b8, 0, none⟩) ∧ v9 = .pointer (some ⟨b9, 0, none⟩) ∧ b8 ≠ b9 ∧ wx.heap[b8]? = some (.cells #[.int .i64 (n : Int)] 3 (0, 0)) ∧ wx.heap[b9]? = some (.cells #[.int .i64 (Q : Int)] 3 (0, 0)) ∧ Below W.heap.size W wx))
    case first =>
      
      refine wp_region_pair (by kernel_rfl) (by kernel_rfl) 11 12 14 (fun v8 v9 => v8 ≠ v9) (fun v8 v9 u => ∃ b8 b9, v8 = .pointer (some ⟨b8, 0, none⟩) ∧ v9 = .pointer (some ⟨b9, 0, none⟩) ∧ b8 ≠ b9 ∧ u.heap[b8]? = some (.cells #[.int .i64 (n : Int)] 3 (0, 0)) ∧ u.heap[b9]? = some (.cells #[.int .i64 (Q : Int)] 3 (0, 0))) (by kernel_rfl) (useList fad4U) [14] (by kernel_rfl) (spR (fad4L W T ad bs n cap Q)) (onePre 0 (fun _ => True)) (Below W.heap.size W) (setFE [13, 14] (CellF 3)) (setF_staysL [11, 12] (by simp [fad4L]) (by kernel_rfl) (by intro x hx v u u' h hf; simp only [List.mem_cons, List.mem_nil_iff, or_false] at hx; rcases hx with rfl | rfl <;> (obtain ⟨B, x, h1, h2, h3⟩ := h; obtain ⟨y, h4⟩ := hf B x h3; exact ⟨B, y, h1, h2, h4⟩))) (setF_pre (fun _ _ h _ => h) (by kernel_rfl)) (setF_refl (fun _ => CellF.refl _ _)) (dsts_lt (N := 124) (by kernel_rfl)) ((Below.refl _ _).drew) (fun _ _ => one_start trivial) (all_ops ?_) (by decide) (by decide) ?_
      · refine And.intro ?_ ?_
        · refine lstepP_of (by decide) (by decide) (by decide) ?_
          refine lstep_run fun fr wf left => ?_
          have o3 := (left.old 3 (by kernel_rfl)).trans rfl
          refine ⟨wanted_none rfl, fun K hK => ?_⟩
          have hB := hide left.base; have hP := hide (one_pre_at left.pre rfl)
          have hc := (HRD.out _ hB.out).1
          clear left
          go_simp
          exact hK _ _ rfl hB.out (setF_refl (fun _ => CellF.refl _ _) _ _)
        refine And.intro ?_ ?_
        · refine lstepP_of (by decide) (by decide) (by decide) ?_
          refine lstep_run fun fr wf left => ?_
          obtain ⟨x0, e0, r0⟩ := left.slot 124 rfl 0 27 _ rfl rfl (by decide) rfl
          have s0 := Eq.symm (show x0 = .pointer (some ⟨T.g, 0, none⟩) from r0)
          subst s0
          refine ⟨wanted_none rfl, fun K hK => ?_⟩
          have hB := hide left.base
          clear left
          go_simp
          exact hK _ _ rfl hB.out (setF_refl (fun _ => CellF.refl _ _) _ _)
        refine And.intro ?_ ?_
        · refine lstepP_of (by decide) (by decide) (by decide) ?_
          refine lstep_run fun fr wf left => ?_
          obtain ⟨x1, e1, r1⟩ := left.slot 124 rfl 1 28 _ rfl rfl (by decide) rfl
          have s1 := Eq.symm (show x1 = .pointer (some ⟨T.g, 0, none⟩) from r1)
          subst s1
          refine ⟨wanted_none rfl, fun K hK => ?_⟩
          have hB := hide left.base
          clear left
          go_simp
          exact hK _ _ rfl hB.out (setF_refl (fun _ => CellF.refl _ _) _ _)
        refine And.intro ?_ ?_
        · refine lstepP_of (by decide) (by decide) (by decide) ?_
          refine lstep_run fun fr wf left => ?_
          obtain ⟨x2, e2, r2⟩ := left.slot 124 rfl 2 29 _ rfl rfl (by decide) rfl
          have s2 := Eq.symm (show x2 = .pointer (some ⟨T.g, 2, none⟩) from r2)
          subst s2
          refine ⟨wanted_none rfl, fun K hK => ?_⟩
          have hB := hide left.base
          have hc := (HRD.out _ hB.out).2
          clear left
          go_simp
          exact hK _ _ rfl hB.out (setF_refl (fun _ => CellF.refl _ _) _ _)
        refine And.intro ?_ ?_
        · refine lstepP_of (by decide) (by decide) (by decide) ?_
          refine lstep_run fun fr wf left => ?_
          obtain ⟨x3, e3, r3⟩ := left.slot 124 rfl 3 30 _ rfl rfl (by decide) rfl
          have s3 := Eq.symm (show x3 = .slice ad n cap from r3)
          subst s3
          refine ⟨wanted_none rfl, fun K hK => ?_⟩
          have hB := hide left.base
          clear left
          go_simp
          exact hK _ _ rfl hB.out (setF_refl (fun _ => CellF.refl _ _) _ _)
        refine And.intro ?_ ?_
        · refine lstepP_of (by decide) (by decide) (by decide) ?_
          refine lstep_run fun fr wf left => ?_
          have o3 := (left.old 3 (by kernel_rfl)).trans rfl
          refine ⟨wanted_none rfl, fun K hK => ?_⟩
          have hB := hide left.base
          have hc := (HRD.out _ hB.out).1
          clear left
          go_simp
          exact hK _ _ rfl hB.out (setF_refl (fun _ => CellF.refl _ _) _ _)
        refine And.intro ?_ ?_
        · refine lstepP_of (by decide) (by decide) (by decide) ?_
          refine lstep_run fun fr wf left => ?_
          obtain ⟨x5, e5, r5⟩ := left.slot 124 rfl 5 32 _ rfl rfl (by decide) rfl
          have s5 := Eq.symm (show x5 = .pointer (some ⟨T.g, 0, none⟩) from r5)
          subst s5
          refine ⟨wanted_none rfl, fun K hK => ?_⟩
          have hB := hide left.base
          clear left
          go_simp
          exact hK _ _ rfl hB.out (setF_refl (fun _ => CellF.refl _ _) _ _)
        refine And.intro ?_ ?_
        · refine lstepP_of (by decide) (by decide) (by decide) ?_
          refine lstep_run fun fr wf left => ?_
          obtain ⟨x6, e6, r6⟩ := left.slot 124 rfl 6 33 _ rfl rfl (by decide) rfl
          have s6 := Eq.symm (show x6 = .pointer (some ⟨T.g, 0, none⟩) from r6)
          subst s6
          refine ⟨wanted_none rfl, fun K hK => ?_⟩
          have hB := hide left.base
          clear left
          go_simp
          exact hK _ _ rfl hB.out (setF_refl (fun _ => CellF.refl _ _) _ _)
        refine And.intro ?_ ?_
        · refine lstepP_of (by decide) (by decide) (by decide) ?_
          refine lstep_run fun fr wf left => ?_
          obtain ⟨x7, e7, r7⟩ := left.slot 124 rfl 7 34 _ rfl rfl (by decide) rfl
          have s7 := Eq.symm (show x7 = .pointer (some ⟨T.g, 2, none⟩) from r7)
          subst s7
          refine ⟨wanted_none rfl, fun K hK => ?_⟩
          have hB := hide left.base
          have hc := (HRD.out _ hB.out).2
          clear left
          go_simp
          exact hK _ _ rfl hB.out (setF_refl (fun _ => CellF.refl _ _) _ _)
        refine And.intro ?_ ?_
        · refine lstepP_of (by decide) (by decide) (by decide) ?_
          refine lstep_run fun fr wf left => ?_
          obtain ⟨x8, e8, r8⟩ := left.slot 124 rfl 8 35 _ rfl rfl (by decide) rfl
          have s8 := Eq.symm (show x8 = .slice ad n cap from r8)
          subst s8
          refine ⟨wanted_none rfl, fun K hK => ?_⟩
          have hB := hide left.base
          clear left
          go_simp
          exact hK _ _ rfl hB.out (setF_refl (fun _ => CellF.refl _ _) _ _)
        refine And.intro ?_ ?_
        · refine lstepP_of (by decide) (by decide) (by decide) ?_
          refine lstep_run fun fr wf left => ?_
          obtain ⟨x9, e9, r9⟩ := left.slot 124 rfl 9 36 _ rfl rfl (by decide) rfl
          have s9 := Eq.symm (show x9 = .int .i64 (n : Int) from r9)
          subst s9
          refine ⟨wanted_none rfl, fun K hK => ?_⟩
          have hB := hide left.base
          clear left
          go_simp
          refine (nodes_val n Q _ (by omega) HQ.out).mono ?_
          rintro e w' ⟨rfl, rfl⟩
          exact hK _ _ rfl hB.out (setF_refl (fun _ => CellF.refl _ _) _ _)
        refine And.intro ?_ ?_
        · refine lstepP_run fun fr wf left hrp => ?_
          refine ⟨wanted_none rfl, fun K hK => ?_⟩
          have hB := hide left.base
          clear left
          go_simp
          refine hK _ _ ⟨_, _, rfl, hB.out.size, alloc_at _ _⟩ (hB.out.alloc hB.out.size _) (setF_else rfl ((Below.refl _ _).alloc (Nat.le_refl _) _)) ⟨fun _ vq hq => ?_, fun e => absurd e (by decide)⟩ (fun e => absurd e (by decide))
          obtain ⟨B, x, e2, _, h3⟩ := (show ∃ B x, vq = .pointer (some ⟨B, 0, none⟩) ∧ W.heap.size ≤ B ∧ wf.heap[B]? = some (.cells #[x] 3 (0, 0)) from hq)
          subst e2
          have h4 := heap_lt h3
          show Value.pointer _ ≠ .pointer _
          intro e
          injection e with e; injection e with e; injection e with e
          omega
        refine And.intro ?_ ?_
        · refine lstepP_run fun fr wf left hrp => ?_
          refine ⟨wanted_none rfl, fun K hK => ?_⟩
          have hB := hide left.base
          clear left
          go_simp
          refine hK _ _ ⟨_, _, rfl, hB.out.size, alloc_at _ _⟩ (hB.out.alloc hB.out.size _) (setF_else rfl ((Below.refl _ _).alloc (Nat.le_refl _) _)) ⟨fun e => absurd e (by decide), fun _ vq hq => ?_⟩ (fun e => absurd e (by decide))
          obtain ⟨B, x, e2, _, h3⟩ := (show ∃ B x, vq = .pointer (some ⟨B, 0, none⟩) ∧ W.heap.size ≤ B ∧ wf.heap[B]? = some (.cells #[x] 3 (0, 0)) from hq)
          subst e2
          have h4 := heap_lt h3
          show Value.pointer _ ≠ .pointer _
          intro e
          injection e with e; injection e with e; injection e with e
          omega
        refine And.intro ?_ ?_
        · refine lstepP_of (by decide) (by decide) (by decide) ?_
          refine lstep_run fun fr wf left => ?_
          obtain ⟨x4, e4, r4⟩ := left.slot 124 rfl 4 31 _ rfl rfl (by decide) rfl
          have s4 := Eq.symm (show x4 = .int .i64 (n : Int) from r4)
          subst s4
          obtain ⟨x11, e11, r11⟩ := left.slot 124 rfl 11 8 _ rfl rfl (by decide) rfl
          replace r11 : (fun v u => ∃ B x, v = .pointer (some ⟨B, 0, none⟩) ∧ W.heap.size ≤ B ∧ u.heap[B]? = some (.cells #[x] 3 (0, 0))) x11 wf := r11
          refine ⟨wanted_none rfl, fun K hK => ?_⟩
          have hB := hide left.base
          clear left
          obtain ⟨B8, x8, hx11, hg8, hh8⟩ := r11
          subst hx11
          have hc := (cell_blk hh8 0).trans rfl
          have hf := frozen_blk hh8 0
          go_simp
          refine hK undef _ ?_ (hB.out.setCell (show W.heap.size ≤ (⟨B8, 0, none⟩ : Addr).block from hg8) _) (setF_at rfl (CellF.set hh8))
          have g8 : fr.tmps.getD 8 undef = .pointer (some ⟨B8, 0, none⟩) := by simp [Array.getD_eq_getD_getElem?, e11]
          exact ⟨B8, g8, by rw [heap_setCell_same _ _ _ _ _ _ hh8]; rfl⟩
        refine And.intro ?_ ?_
        · refine lstepP_run fun fr wf left hrp => ?_
          obtain ⟨x10, e10, r10⟩ := left.slot 124 rfl 10 37 _ rfl rfl (by decide) rfl
          have s10 := Eq.symm (show x10 = .int .i64 (Q : Int) from r10)
          subst s10
          obtain ⟨x11, e11, r11⟩ := left.slot 124 rfl 11 8 _ rfl rfl (by decide) rfl
          replace r11 : (fun v u => ∃ B x, v = .pointer (some ⟨B, 0, none⟩) ∧ W.heap.size ≤ B ∧ u.heap[B]? = some (.cells #[x] 3 (0, 0))) x11 wf := r11
          obtain ⟨x12, e12, r12⟩ := left.slot 124 rfl 12 9 _ rfl rfl (by decide) rfl
          replace r12 : (fun v u => ∃ B x, v = .pointer (some ⟨B, 0, none⟩) ∧ W.heap.size ≤ B ∧ u.heap[B]? = some (.cells #[x] 3 (0, 0))) x12 wf := r12
          refine ⟨wanted_none rfl, fun K hK => ?_⟩
          have hB := hide left.base
          have r13q := left.new 13 _ rfl (by decide)
          clear left
          obtain ⟨B9, x9, hx12, hg9, hh9⟩ := r12
          subst hx12
          have h13 := r13q
          obtain ⟨B8, hB8, hh8⟩ := h13
          have hne : fr.tmps.getD 8 undef ≠ fr.tmps.getD 9 undef := hrp rfl _ _ rfl rfl
          have g9 : fr.tmps.getD 9 undef = .pointer (some ⟨B9, 0, none⟩) := by simp [Array.getD_eq_getD_getElem?, e12]
          obtain ⟨B8', x8, hx11, hg8, hh8'⟩ := r11
          subst hx11
          have g8 : fr.tmps.getD 8 undef = .pointer (some ⟨B8', 0, none⟩) := by simp [Array.getD_eq_getD_getElem?, e11]
          rw [g8, g9] at hne
          have hB8 : Value.pointer (some ⟨B8', 0, none⟩) = .pointer (some ⟨B8, 0, none⟩) := g8.symm.trans hB8
          injection hB8 with hB8; injection hB8 with hB8; injection hB8 with hB8
          subst hB8
          have hn : B8' ≠ B9 := fun e => hne (by rw [e])
          have hc := (cell_blk hh9 0).trans rfl
          have hf := frozen_blk hh9 0
          go_simp
          refine hK undef _ trivial (hB.out.setCell (show W.heap.size ≤ (⟨B9, 0, none⟩ : Addr).block from hg9) _) (setF_at rfl (CellF.set hh9)) ⟨fun e => absurd e (by decide), fun e => absurd e (by decide)⟩ (fun _ op oq hop hoq => ?_)
          injection hop with hop; injection hoq with hoq
          subst hop; subst hoq
          exact ⟨B8', B9, g8, g9, hn, (Below.heap_setCell wf ⟨B9, 0, none⟩ _ B8' hn).trans hh8, by rw [heap_setCell_same _ _ _ _ _ _ hh9]; rfl⟩
        exact trivial
      · intro fr wf hB hs hd hall hkeep hpf
        have hfin := hpf _ _ rfl rfl
        obtain ⟨b8, b9, h8, h9, h8n, h8c, h9c⟩ := hfin
        have h8 : fr.tmps.getD 8 undef = .pointer (some ⟨b8, 0, none⟩) := h8
        have h9 : fr.tmps.getD 9 undef = .pointer (some ⟨b9, 0, none⟩) := h9
        have hfr := act_ext (frame_setL hs hkeep [27, 28, 29, 30, 31, 32, 33, 34, 35, 36, 37, 8, 9] (by kernel_rfl)) hd
        clear hall hkeep hs hd hpf
        dsimp only [List.foldl, List.set_cons_zero, List.set_cons_succ] at hfr
        generalize fr.tmps.getD 27 undef = q27 at hfr
        generalize fr.tmps.getD 28 undef = q28 at hfr
        generalize fr.tmps.getD 29 undef = q29 at hfr
        generalize fr.tmps.getD 30 undef = q30 at hfr
        generalize fr.tmps.getD 31 undef = q31 at hfr
        generalize fr.tmps.getD 32 undef = q32 at hfr
        generalize fr.tmps.getD 33 undef = q33 at hfr
        generalize fr.tmps.getD 34 undef = q34 at hfr
        generalize fr.tmps.getD 35 undef = q35 at hfr
        generalize fr.tmps.getD 36 undef = q36 at hfr
        generalize fr.tmps.getD 37 undef = q37 at hfr
        generalize fr.tmps.getD 8 undef = q8 at hfr h8
        generalize fr.tmps.getD 9 undef = q9 at hfr h9
        subst hfr
        subst h8; subst h9
        have HF := hide (And.intro h8n (And.intro h8c (And.intro h9c hB)))
        clear h8n h8c h9c hB
        go_wp2_with fail
        go_meet
        case rel => exact ⟨b8, b9, rfl, rfl, HF.out⟩
    case rest =>
      obtain ⟨b8, b9, h8, h9, hne, hc8, hc9, hb4⟩ := hcut.out
      subst h8; subst h9
      have H4 := hide (And.intro hne (And.intro hc8 (And.intro hc9 hb4)))
      clear hcut hne hc8 hc9 hb4
      obtain ⟨k1, k2, k3, k4, k5⟩ := Fl.check_zero HCK.out.symm
      rw [← HN.out] at k2 k3
      have K3 := hide k3
      have K4 := hide k4
      have hml1 : ml ≤ 200000 := by rw [HML.out, k3]; have := nodes_le (n + 1); omega
      obtain ⟨P, hP⟩ : ∃ P, P = Rec.payB item := ⟨_, rfl⟩
      have hPs : P.size = item.size + 8 := by rw [hP]; exact Rec.payB_size item k1
      have HP := hide hP
      have HPS := hide hPs
      have K1 := hide (And.intro k1 (And.intro k2 k5))
      clear hP hPs k1 k2 k3 k4 k5
      go_wp2_with fail
      refine (pay_val item P _ hi HP.out).mono ?_
      rintro e w5 ⟨rfl, hb5⟩
      have H5 := hide hb5
      clear hb5
      obtain ⟨bp, hbp⟩ : ∃ b, b = w5.heap.size := ⟨_, rfl⟩
      have HBP := hide hbp
      clear hbp
      go_wp2_with (at_make; refine wpList_make_arr rfl _ _ 22 rfl 9 _ 16 Tryz.underlying22 info_strF rfl .i64 .i64 _ _ ml rfl rfl rfl rfl ?_ ?_ ?_)
      · omega
      · unfold maxLen; omega
      · intro w6 HA6 hb6
        obtain ⟨w5b, hw5b⟩ : ∃ u, u = w5.alloc (.cells #[.string P] 9) := ⟨_, rfl⟩
        rw [← hw5b] at hb6
        obtain ⟨gr, hgr⟩ : ∃ b, b = w5.heap.size + 1 := ⟨_, rfl⟩
        have hgs : w5b.heap.size = gr := by rw [hw5b, hgr]; simp
        rw [← hgr] at HA6 hb6 ⊢
        rw [← hgs] at hb6
        obtain ⟨br, hbr⟩ : ∃ b, b = w6.heap.size := ⟨_, rfl⟩
        have H6 := hide (And.intro hw5b (And.intro hgs.symm (And.intro hbr hb6)))
        have HBR := hide hbr
        clear hw5b hgr hgs hb6 hbr
        go_upto_block 0 with (fail)
        rw [← HBR.out, ← HBP.out]
        obtain ⟨W6, hW6⟩ : ∃ u, u = w6.alloc (.cells #[.slice (some ⟨gr, 0, none⟩) ml ml] 22) := ⟨_, rfl⟩
        have h56 : Below wc.heap.size wc W6 := by
          have h1 := H5.out
          have h2 : Below w5.heap.size w5 w5b := by rw [H6.out.1]; exact (Below.refl w5.heap.size w5).alloc (Nat.le_refl _) _
          have h3 := h1.trans (h2.mono h1.size)
          have h4 := H6.out.2.2.2
          have h5 := h3.trans (h4.mono h3.size)
          rw [hW6]
          exact h5.alloc h5.size _
        have H7 := hide (show Arr W6 gr 9 (List.replicate ml (.string ByteArray.empty)) ∧ W6.heap[br]? = some (.cells #[.slice (some ⟨gr, 0, none⟩) ml ml] 22 (0, 0)) ∧ W6.heap[b9]? = some (.cells #[.int .i64 (Q : Int)] 3 (0, 0)) ∧ W6.heap[b8]? = some (.cells #[.int .i64 (n : Int)] 3 (0, 0)) ∧ W6.heap[bp]? = some (.cells #[.string P] 9 (0, 0)) ∧ Below W.heap.size W W6 from by
          have hpb : w5b.heap[bp]? = some (.cells #[.string P] 9 (0, 0)) := by rw [H6.out.1, HBP.out]; exact alloc_at _ _
          refine ⟨?_, ?_, (h56.block b9 (heap_lt H4.out.2.2.1)).trans H4.out.2.2.1, (h56.block b8 (heap_lt H4.out.2.1)).trans H4.out.2.1, ?_, H4.out.2.2.2.trans (h56.mono H4.out.2.2.2.size)⟩
          · rw [hW6]; exact HA6.out.past ((Below.refl w6.heap.size w6).alloc (Nat.le_refl _) _)
          · rw [hW6, HBR.out]; exact alloc_at _ _
          · have h1 : Below w5b.heap.size w5b W6 := by rw [hW6]; exact H6.out.2.2.2.alloc H6.out.2.2.2.size _
            exact (h1.block bp (heap_lt hpb)).trans hpb)
        have HGR := hide (show gr ≠ br ∧ gr ≠ b9 ∧ gr ≠ b8 ∧ gr ≠ bp ∧ W.heap.size ≤ gr from by
          have h1 := H6.out.2.1
          have h2 := heap_lt H4.out.2.1
          have h3 := heap_lt H4.out.2.2.1
          have h4 := H5.out.size
          have h5 := H4.out.2.2.2.size
          have h6 : w5b.heap.size = w5.heap.size + 1 := by rw [H6.out.1]; simp
          have h7 := HBP.out
          have h8 := HBR.out
          have h9 := HA6.out.lt
          omega)
        rw [← hW6]
        clear hW6 h56
        go_cut [12, 13, 45] from 46 to 59 (fun v12 v13 v45 wx => Hid (Arr wx gr 9 ((Fl.recsB Q made).map Value.string) ∧ Moved (fun k => k = gr) W6 wx))
        case first =>
          go_wp2_with fail
          go_loopg [45] ml (fun g v45 wr => ∃ i : Nat, i ≤ ml ∧ g = ml - i ∧ v45 = .int .i64 i ∧ Hid (Arr wr gr 9 (laidR Q made ml i) ∧ Moved (fun k => k = gr) W6 wr))
          case atStart => exact ⟨0, Nat.zero_le _, rfl, rfl, by simpa [laidR, Fl.recsB] using H7.out.1, Moved.refl _ _⟩
          case round =>
            obtain ⟨i, hil, rfl, rfl, HR⟩ := hrel
            by_cases hlt : i < ml
            · have hlt2 : (i : Int) < ml := by omega
              obtain ⟨dd, hdd⟩ : ∃ d, made[i]? = some d := ⟨_, List.getElem?_eq_getElem (by rw [← HML.out]; exact hlt)⟩
              have hds := HMS.out dd (List.mem_of_getElem? hdd)
              obtain ⟨b, off, hma, hbw, hcell⟩ := HMV.out.cellAt (i := i) (by rw [List.length_map]; rw [← HML.out]; exact hlt)
              subst hma
              have hel : wr.cell? ⟨b, off + i, none⟩ = some (.string dd) := by
                have hb : Below w.heap.size w W6 := HWW.out.trans (H7.out.2.2.2.2.2.mono HWW.out.size)
                have h1 := (hb.cell (p := ⟨b, off + i, none⟩) hbw).trans hcell
                have hh := HR.out.2.block b (Nat.lt_of_lt_of_le hbw hb.size) (fun e => by have e : b = gr := e; have := HGR.out.2.2.2.2; have := HWW.out.size; omega)
                have h2 : wr.cell? ⟨b, off + i, none⟩ = W6.cell? ⟨b, off + i, none⟩ := by unfold World.cell?; simp only [hh]
                rw [h2, h1, List.getElem?_map, hdd]; rfl
              have HDD := hide hdd
              clear hbw hcell hdd
              obtain ⟨R, hR⟩ : ∃ R, R = Rec.nodeB (Q + i) dd := ⟨_, rfl⟩
              have HRR := hide hR
              clear hR
              have hll : (laidR Q made ml i).length = ml := laidR_len (by rw [← HML.out]; exact hil) hil
              have HLL := hide hll
              clear hll
              obtain ⟨xs, hxs⟩ : ∃ l, l = laidR Q made ml i := ⟨_, rfl⟩
              have HXS := hide (And.intro hxs (show Arr wr gr 9 xs by rw [hxs]; exact HR.out.1))
              have hil2 : i < xs.length := by rw [hxs, HLL.out]; exact hlt
              have HIL := hide hil2
              clear hxs hil2
              go_upto_region 10 with (fail)
              clear hel
              have HRB := hide (show ∀ u, Moved (fun k => k = gr) wr u → u.cell? ⟨br, 0, none⟩ = some (.slice (some ⟨gr, 0, none⟩) ml ml) ∧ u.cell? ⟨b9, 0, none⟩ = some (.int .i64 (Q : Int)) from by
                intro u hm
                have h1 := HGR.out
                have h2 : Moved (fun k => k = gr) W6 u := HR.out.2.then hm
                exact ⟨(cell_blk ((h2.block br (heap_lt H7.out.2.1) (fun e => h1.1 (Eq.symm e))).trans H7.out.2.1) 0).trans rfl, (cell_blk ((h2.block b9 (heap_lt H7.out.2.2.1) (fun e => h1.2.1 (Eq.symm e))).trans H7.out.2.2.1) 0).trans rfl⟩)
              
              refine wp_region_local (by kernel_rfl) (by kernel_rfl) (useList fad10U) [9] (by kernel_rfl) (spR (fad10L xs R dd gr br b9 ml Q i)) (onePre 9 (fun u => Arr u gr 9 xs)) (Moved (fun k => k = gr) wr) (oneE 9 (fun _ _ => True)) (one_stays (by simp [fad10L]) (by kernel_rfl)) (one_pre (fun _ _ h hb => h.past hb)) (one_refl (fun _ => trivial)) (dsts_lt (N := 124) (by kernel_rfl)) ((Moved.refl _ _).drew) (fun _ _ => one_start (HXS.out.2)) (all_ops ?_) ?_
              · refine And.intro ?_ ?_
                · refine lstep_run fun fr wf left => ?_
                  have o11 := (left.old 11 (by kernel_rfl)).trans rfl
                  refine ⟨wanted_none rfl, fun K hK => ?_⟩
                  have hB := hide left.base
                  have hc := (HRB.out _ hB.out).1
                  clear left
                  go_simp
                  exact hK _ _ rfl hB.out (one_refl (fun _ => trivial) _ _)
                refine And.intro ?_ ?_
                · refine lstep_run fun fr wf left => ?_
                  have o12 := (left.old 12 (by kernel_rfl)).trans rfl
                  refine ⟨wanted_none rfl, fun K hK => ?_⟩
                  have hB := hide left.base
                  clear left
                  go_simp
                  exact hK _ _ rfl hB.out (one_refl (fun _ => trivial) _ _)
                refine And.intro ?_ ?_
                · refine lstep_run fun fr wf left => ?_
                  have o9 := (left.old 9 (by kernel_rfl)).trans rfl
                  refine ⟨wanted_none rfl, fun K hK => ?_⟩
                  have hB := hide left.base
                  have hc := (HRB.out _ hB.out).2
                  clear left
                  go_simp
                  exact hK _ _ rfl hB.out (one_refl (fun _ => trivial) _ _)
                refine And.intro ?_ ?_
                · refine lstep_run fun fr wf left => ?_
                  have o12 := (left.old 12 (by kernel_rfl)).trans rfl
                  refine ⟨wanted_none rfl, fun K hK => ?_⟩
                  have hB := hide left.base
                  clear left
                  go_simp
                  exact hK _ _ rfl hB.out (one_refl (fun _ => trivial) _ _)
                refine And.intro ?_ ?_
                · refine lstep_run fun fr wf left => ?_
                  obtain ⟨x2, e2, r2⟩ := left.slot 124 rfl 2 52 _ rfl rfl (by decide) rfl
                  have s2 := Eq.symm (show x2 = .int .i64 (Q : Int) from r2)
                  subst s2
                  obtain ⟨x3, e3, r3⟩ := left.slot 124 rfl 3 53 _ rfl rfl (by decide) rfl
                  have s3 := Eq.symm (show x3 = .int .i64 (i : Int) from r3)
                  subst s3
                  refine ⟨wanted_none rfl, fun K hK => ?_⟩
                  have hB := hide left.base
                  clear left
                  go_simp
                  exact hK _ _ (congrArg (Value.int .i64) ((IntWalk.i64_in _ (by omega)).trans (by omega))) hB.out (one_refl (fun _ => trivial) _ _)
                refine And.intro ?_ ?_
                · refine lstep_run fun fr wf left => ?_
                  obtain ⟨x4, e4, r4⟩ := left.slot 124 rfl 4 54 _ rfl rfl (by decide) rfl
                  have s4 := Eq.symm (show x4 = .int .i64 ((Q + i : Nat) : Int) from r4)
                  subst s4
                  refine ⟨wanted_none rfl, fun K hK => ?_⟩
                  have hB := hide left.base
                  clear left
                  go_simp
                  exact hK _ _ (congrArg (Value.int .u64) (by first | rfl | (rw [IntKind.wrap_u64]; omega))) hB.out (one_refl (fun _ => trivial) _ _)
                refine And.intro ?_ ?_
                · refine lstep_run fun fr wf left => ?_
                  have o13 := (left.old 13 (by kernel_rfl)).trans rfl
                  refine ⟨wanted_none rfl, fun K hK => ?_⟩
                  have hB := hide left.base
                  clear left
                  go_simp
                  exact hK _ _ rfl hB.out (one_refl (fun _ => trivial) _ _)
                refine And.intro ?_ ?_
                · refine lstep_run fun fr wf left => ?_
                  obtain ⟨x5, e5, r5⟩ := left.slot 124 rfl 5 55 _ rfl rfl (by decide) rfl
                  have s5 := Eq.symm (show x5 = .int .u64 ((Q + i : Nat) : Int) from r5)
                  subst s5
                  obtain ⟨x6, e6, r6⟩ := left.slot 124 rfl 6 56 _ rfl rfl (by decide) rfl
                  have s6 := Eq.symm (show x6 = .string dd from r6)
                  subst s6
                  refine ⟨wanted_none rfl, fun K hK => ?_⟩
                  have hB := hide left.base
                  clear left
                  go_simp
                  refine (node_val (Q + i) dd R _ (by omega) hds HRR.out).mono ?_
                  rintro e w' ⟨rfl, hb⟩
                  exact hK _ _ rfl (hB.out.then (Moved.of_below hb)) (one_else (by decide) hb)
                refine And.intro ?_ ?_
                · refine lstep_run fun fr wf left => ?_
                  obtain ⟨x0, e0, r0⟩ := left.slot 124 rfl 0 50 _ rfl rfl (by decide) rfl
                  have s0 := Eq.symm (show x0 = .slice (some ⟨gr, 0, none⟩) ml ml from r0)
                  subst s0
                  obtain ⟨x1, e1, r1⟩ := left.slot 124 rfl 1 51 _ rfl rfl (by decide) rfl
                  have s1 := Eq.symm (show x1 = .int .i64 (i : Int) from r1)
                  subst s1
                  refine ⟨wanted_none rfl, fun K hK => ?_⟩
                  have hB := hide left.base
                  clear left
                  go_simp
                  exact hK _ _ rfl hB.out (one_refl (fun _ => trivial) _ _)
                refine And.intro ?_ ?_
                · refine lstep_run fun fr wf left => ?_
                  obtain ⟨x7, e7, r7⟩ := left.slot 124 rfl 7 57 _ rfl rfl (by decide) rfl
                  have s7 := Eq.symm (show x7 = .string R from r7)
                  subst s7
                  obtain ⟨x8, e8, r8⟩ := left.slot 124 rfl 8 58 _ rfl rfl (by decide) rfl
                  have s8 := Eq.symm (show x8 = .pointer (some ⟨gr, i, none⟩) from r8)
                  subst s8
                  refine ⟨wanted_none rfl, fun K hK => ?_⟩
                  have hB := hide left.base; have hP := hide (one_pre_at left.pre rfl)
                  clear left
                  have hc := hP.out.cell i HIL.out
                  have hf := hP.out.frozen i HIL.out
                  generalize xs.getD i undef = old at hc
                  go_simp
                  exact hK undef _ (hP.out.set i HIL.out _) (hB.out.setCell (a := ⟨gr, i, none⟩) rfl _) (one_at rfl)
                exact trivial
              · intro fr wf hB hs hd hall hkeep
                have h9 : Arr wf gr 9 (xs.set i (.string R)) := hall 9 _ rfl (by simp)
                have hfr := act_ext (frame_setL hs hkeep [50, 51, 52, 53, 54, 55, 56, 57, 58] (by kernel_rfl)) hd
                clear hall hkeep hs hd
                dsimp only [List.foldl, List.set_cons_zero, List.set_cons_succ] at hfr
                generalize fr.tmps.getD 50 undef = q50 at hfr
                generalize fr.tmps.getD 51 undef = q51 at hfr
                generalize fr.tmps.getD 52 undef = q52 at hfr
                generalize fr.tmps.getD 53 undef = q53 at hfr
                generalize fr.tmps.getD 54 undef = q54 at hfr
                generalize fr.tmps.getD 55 undef = q55 at hfr
                generalize fr.tmps.getD 56 undef = q56 at hfr
                generalize fr.tmps.getD 57 undef = q57 at hfr
                generalize fr.tmps.getD 58 undef = q58 at hfr
                subst hfr
                have H9 := hide (And.intro hB h9)
                clear hB h9
                go_wp2_with fail
                go_roundg (ml - (i + 1))
                case measure => omega
                case rel =>
                  refine ⟨i + 1, by omega, rfl, by go_num, ?_, HR.out.2.then H9.out.1⟩
                  rw [← laidR_set HDD.out hlt, ← HXS.out.1, ← HRR.out]
                  exact H9.out.2
            · obtain rfl : i = ml := by omega
              clear hlt
              go_wp2_with fail
              go_meet
              case rel =>
                refine ⟨?_, HR.out.2⟩
                have h := HR.out.1
                unfold laidR at h
                rw [Nat.sub_self, List.replicate_zero, List.append_nil, List.take_of_length_le (by rw [HML.out]; exact Nat.le_refl _)] at h
                exact h
        case rest =>
          obtain ⟨fin, hfin⟩ : ∃ f, f = s.fin := ⟨_, rfl⟩
          have hfl : fin ≤ 268435456 := by rw [hfin]; exact HT.out.ok.fin
          have HFI := hide hfin
          clear hfin
          obtain ⟨ch, hch⟩ : ∃ f, f = s.chain := ⟨_, rfl⟩
          have hcl : ch < 4294967296 := by rw [hch]; exact HT.out.ok.chain
          have HCH := hide hch
          clear hch
          obtain ⟨recs, hrecs⟩ : ∃ l, l = Fl.recsB Q made := ⟨_, rfl⟩
          have HREC := hide (And.intro hrecs (show recs.length = ml by rw [hrecs, Fl.recsB_len, HML.out]))
          have HW8 := hide (show StoreAt wc T D.g s ∧ wc.heap[bs]? = some (.cells #[.pointer (some ⟨T.g, 0, none⟩)] 28 (0, 0)) ∧ wc.heap[bp]? = some (.cells #[.string P] 9 (0, 0)) ∧ wc.heap[br]? = some (.cells #[.slice (some ⟨gr, 0, none⟩) ml ml] 22 (0, 0)) ∧ wc.heap[b8]? = some (.cells #[.int .i64 (n : Int)] 3 (0, 0)) ∧ wc.heap[b9]? = some (.cells #[.int .i64 (Q : Int)] 3 (0, 0)) ∧ Arr wc gr 9 (recs.map Value.string) ∧ Below w.heap.size w wc from by
            have hm := hcut.out.2
            have h1 := HGR.out
            have hWW6 := H7.out.2.2.2.2.2
            have hs := HWT.out.past hWW6
            have hlt := HWT.out.lt
            have hbs := (hWW6.block bs (heap_lt HWb.out)).trans HWb.out
            have hbl := heap_lt HWb.out
            refine ⟨hs.stay hm (fun e => by have e : T.g = gr := e; omega) (fun b hb e => by have e : b = gr := e; have := (HWT.out.row.lt b hb).2; omega), (hm.block bs (heap_lt hbs) (fun e => by have e : bs = gr := e; omega)).trans hbs, (hm.block bp (heap_lt H7.out.2.2.2.2.1) (fun e => h1.2.2.2.1 (Eq.symm e))).trans H7.out.2.2.2.2.1, (hm.block br (heap_lt H7.out.2.1) (fun e => h1.1 (Eq.symm e))).trans H7.out.2.1, (hm.block b8 (heap_lt H7.out.2.2.2.1) (fun e => h1.2.2.1 (Eq.symm e))).trans H7.out.2.2.2.1, (hm.block b9 (heap_lt H7.out.2.2.1) (fun e => h1.2.1 (Eq.symm e))).trans H7.out.2.2.1, by rw [hrecs]; exact hcut.out.1, ?_⟩
            have hb6 : Below w.heap.size w W6 := HWW.out.trans (hWW6.mono HWW.out.size)
            exact hb6.trans (hm.below hb6.size (fun k e => by have e : k = gr := e; have := HWW.out.size; omega)))
          clear hcut hrecs
          have HRE := hide (show ∀ u, Below wc.heap.size wc u → u.cell? ⟨bs, 0, none⟩ = some (.pointer (some ⟨T.g, 0, none⟩)) ∧ StoreAt u T D.g s ∧ u.cell? ⟨bp, 0, none⟩ = some (.string P) ∧ u.cell? ⟨br, 0, none⟩ = some (.slice (some ⟨gr, 0, none⟩) ml ml) ∧ u.cell? ⟨b8, 0, none⟩ = some (.int .i64 (n : Int)) ∧ SlV u (.slice (some ⟨gr, 0, none⟩) ml ml) (recs.map Value.string) from by
            intro u hb
            obtain ⟨g1, g2, g3, g4, g5, g6, g7, _⟩ := HW8.out
            have cb : ∀ (b : Nat) (x : Value) (T2 : Nat), wc.heap[b]? = some (.cells #[x] T2 (0, 0)) → u.cell? ⟨b, 0, none⟩ = some x := fun b x T2 h => (cell_blk ((hb.block b (heap_lt h)).trans h) 0).trans rfl
            exact ⟨cb _ _ _ g2, g1.past hb, cb _ _ _ g3, cb _ _ _ g4, cb _ _ _ g5, (g7.past hb).slv (by rw [List.length_map]; exact HREC.out.2.symm) (Nat.le_refl _)⟩)
          have hPsz : (P.size : Int) ≤ 1048584 := by have := HPS.out; have := K1.out.1; omega
          have HX12 := hide (show ∃ u, u = wc from ⟨_, rfl⟩)
          go_upto_region 12 with (fail)
          go_cut [14] from 60 to 64 (fun v14 wx => Hid (v14 = .int .i64 ((fin + P.size : Nat) : Int) ∧ Below wc.heap.size wc wx))
          case first =>
            
            refine wp_region_local (by kernel_rfl) (by kernel_rfl) (useList fad12U) [5] (by kernel_rfl) (spR (fad12L T P bs bp fin)) (fun _ _ => True) (Below wc.heap.size wc) (fun _ w w' => Below w.heap.size w w') spR_stays (fun _ _ _ _ _ h _ => h) (fun _ _ => Below.refl _ _) (dsts_lt (N := 124) (by kernel_rfl)) ((Below.refl _ _).drew) (fun _ _ => trivial) (all_ops ?_) ?_
            · refine And.intro ?_ ?_
              · refine lstep_run fun fr wf left => ?_
                have o3 := (left.old 3 (by kernel_rfl)).trans rfl
                refine ⟨wanted_none rfl, fun K hK => ?_⟩
                have hB := hide left.base
                have hc := (HRE.out _ hB.out).1
                clear left
                go_simp
                exact hK _ _ rfl hB.out (Below.refl _ _)
              refine And.intro ?_ ?_
              · refine lstep_run fun fr wf left => ?_
                obtain ⟨x0, e0, r0⟩ := left.slot 124 rfl 0 60 _ rfl rfl (by decide) rfl
                have s0 := Eq.symm (show x0 = .pointer (some ⟨T.g, 0, none⟩) from r0)
                subst s0
                refine ⟨wanted_none rfl, fun K hK => ?_⟩
                have hB := hide left.base
                clear left
                go_simp
                refine (storeEnd_val T D.g s fin _ (HRE.out _ hB.out).2.1 HFI.out).mono ?_
                rintro e w' ⟨rfl, rfl⟩
                exact hK _ _ rfl hB.out (Below.refl _ _)
              refine And.intro ?_ ?_
              · refine lstep_run fun fr wf left => ?_
                have o10 := (left.old 10 (by kernel_rfl)).trans rfl
                refine ⟨wanted_none rfl, fun K hK => ?_⟩
                have hB := hide left.base
                have hc := (HRE.out _ hB.out).2.2.1
                clear left
                go_simp
                exact hK _ _ rfl hB.out (Below.refl _ _)
              refine And.intro ?_ ?_
              · refine lstep_run fun fr wf left => ?_
                obtain ⟨x2, e2, r2⟩ := left.slot 124 rfl 2 62 _ rfl rfl (by decide) rfl
                have s2 := Eq.symm (show x2 = .string P from r2)
                subst s2
                refine ⟨wanted_none rfl, fun K hK => ?_⟩
                have hB := hide left.base
                clear left
                go_simp
                exact hK _ _ rfl hB.out (Below.refl _ _)
              refine And.intro ?_ ?_
              · refine lstep_run fun fr wf left => ?_
                obtain ⟨x1, e1, r1⟩ := left.slot 124 rfl 1 61 _ rfl rfl (by decide) rfl
                have s1 := Eq.symm (show x1 = .int .i64 (fin : Int) from r1)
                subst s1
                obtain ⟨x3, e3, r3⟩ := left.slot 124 rfl 3 63 _ rfl rfl (by decide) rfl
                have s3 := Eq.symm (show x3 = .int .i64 (P.size : Int) from r3)
                subst s3
                refine ⟨wanted_none rfl, fun K hK => ?_⟩
                have hB := hide left.base
                clear left
                go_simp
                exact hK _ _ (congrArg (Value.int .i64) ((IntWalk.i64_in _ (by omega)).trans (by omega))) hB.out (Below.refl _ _)
              refine And.intro ?_ ?_
              · refine lstep_run fun fr wf left => ?_
                obtain ⟨x4, e4, r4⟩ := left.slot 124 rfl 4 64 _ rfl rfl (by decide) rfl
                have s4 := Eq.symm (show x4 = .int .i64 ((fin + P.size : Nat) : Int) from r4)
                subst s4
                refine ⟨wanted_none rfl, fun K hK => ?_⟩
                have hB := hide left.base
                clear left
                go_simp
                exact hK _ _ rfl hB.out (Below.refl _ _)
              exact trivial
            · intro fr wf hB hs hd hall hkeep
              have h14 : fr.tmps.getD 14 undef = .int .i64 ((fin + P.size : Nat) : Int) := hall 5 _ rfl (by simp)
              have hfr := act_ext (frame_setL hs hkeep [60, 61, 62, 63, 64, 14] (by kernel_rfl)) hd
              clear hall hkeep hs hd
              dsimp only [List.foldl, List.set_cons_zero, List.set_cons_succ] at hfr
              generalize fr.tmps.getD 60 undef = q60 at hfr
              generalize fr.tmps.getD 61 undef = q61 at hfr
              generalize fr.tmps.getD 62 undef = q62 at hfr
              generalize fr.tmps.getD 63 undef = q63 at hfr
              generalize fr.tmps.getD 64 undef = q64 at hfr
              generalize fr.tmps.getD 14 undef = q14 at hfr h14
              subst hfr
              subst h14
              have HBF := hide hB
              clear hB
              go_wp2_with fail
              go_meet
              case rel => exact ⟨rfl, HBF.out⟩
          case rest =>
            obtain ⟨h14, hb8⟩ := hcut.out
            subst h14
            have H12 := hide hb8
            clear hcut hb8
            obtain ⟨C, hC⟩ : ∃ C, C = Rec.chainB ch P recs := ⟨_, rfl⟩
            have HC := hide hC
            have hCl : C < 4294967296 := by rw [hC]; exact Rec.sumB_lt _
            clear hC
            have HSZ := hide (show recs.length ≤ 140737488351232 ∧ Rec.sizes recs ≤ 140737488351232 from by
              have h1 := Rec.sizes_recs made Q (fun d hd => by rw [K4.out d hd]; exact HT.out.ok.strength.2)
              rw [HREC.out.1, Fl.recsB_len, ← HML.out]
              rw [← HML.out] at h1
              omega)
            have HRG := hide (show ∀ u, Below wc.heap.size wc u → _ from fun u hb => HRE.out u (H12.out.trans (hb.mono H12.out.size)))
            have HX13 := hide (show ∃ u, u = wc from ⟨_, rfl⟩)
            go_upto_region 13 with (fail)
            go_cut [15] from 65 to 71 (fun v15 wx => Hid (v15 = .int .u32 (C : Int) ∧ Below wc.heap.size wc wx))
            case first =>
              
              refine wp_region_local (by kernel_rfl) (by kernel_rfl) (useList fad13U) [7] (by kernel_rfl) (spR (fad13L T P bs bp br gr ml ch C)) (fun _ _ => True) (Below wc.heap.size wc) (fun _ w w' => Below w.heap.size w w') spR_stays (fun _ _ _ _ _ h _ => h) (fun _ _ => Below.refl _ _) (dsts_lt (N := 124) (by kernel_rfl)) ((Below.refl _ _).drew) (fun _ _ => trivial) (all_ops ?_) ?_
              · refine And.intro ?_ ?_
                · refine lstep_run fun fr wf left => ?_
                  have o3 := (left.old 3 (by kernel_rfl)).trans rfl
                  refine ⟨wanted_none rfl, fun K hK => ?_⟩
                  have hB := hide left.base
                  have hc := (HRG.out _ hB.out).1
                  clear left
                  go_simp
                  exact hK _ _ rfl hB.out (Below.refl _ _)
                refine And.intro ?_ ?_
                · refine lstep_run fun fr wf left => ?_
                  obtain ⟨x0, e0, r0⟩ := left.slot 124 rfl 0 65 _ rfl rfl (by decide) rfl
                  have s0 := Eq.symm (show x0 = .pointer (some ⟨T.g, 0, none⟩) from r0)
                  subst s0
                  refine ⟨wanted_none rfl, fun K hK => ?_⟩
                  have hB := hide left.base
                  clear left
                  go_simp
                  exact hK _ _ rfl hB.out (Below.refl _ _)
                refine And.intro ?_ ?_
                · refine lstep_run fun fr wf left => ?_
                  obtain ⟨x1, e1, r1⟩ := left.slot 124 rfl 1 66 _ rfl rfl (by decide) rfl
                  have s1 := Eq.symm (show x1 = .pointer (some ⟨T.g, 0, none⟩) from r1)
                  subst s1
                  refine ⟨wanted_none rfl, fun K hK => ?_⟩
                  have hB := hide left.base
                  clear left
                  go_simp
                  exact hK _ _ rfl hB.out (Below.refl _ _)
                refine And.intro ?_ ?_
                · refine lstep_run fun fr wf left => ?_
                  obtain ⟨x2, e2, r2⟩ := left.slot 124 rfl 2 67 _ rfl rfl (by decide) rfl
                  have s2 := Eq.symm (show x2 = .pointer (some ⟨T.g, 3, none⟩) from r2)
                  subst s2
                  refine ⟨wanted_none rfl, fun K hK => ?_⟩
                  have hB := hide left.base
                  have hc := (show wf.cell? ⟨T.g, 3, none⟩ = some (.int .u32 (ch : Int)) by rw [(HRG.out _ hB.out).2.1.c3, HCH.out])
                  clear left
                  go_simp
                  exact hK _ _ rfl hB.out (Below.refl _ _)
                refine And.intro ?_ ?_
                · refine lstep_run fun fr wf left => ?_
                  have o10 := (left.old 10 (by kernel_rfl)).trans rfl
                  refine ⟨wanted_none rfl, fun K hK => ?_⟩
                  have hB := hide left.base
                  have hc := (HRG.out _ hB.out).2.2.1
                  clear left
                  go_simp
                  exact hK _ _ rfl hB.out (Below.refl _ _)
                refine And.intro ?_ ?_
                · refine lstep_run fun fr wf left => ?_
                  have o11 := (left.old 11 (by kernel_rfl)).trans rfl
                  refine ⟨wanted_none rfl, fun K hK => ?_⟩
                  have hB := hide left.base
                  have hc := (HRG.out _ hB.out).2.2.2.1
                  clear left
                  go_simp
                  exact hK _ _ rfl hB.out (Below.refl _ _)
                refine And.intro ?_ ?_
                · refine lstep_run fun fr wf left => ?_
                  obtain ⟨x3, e3, r3⟩ := left.slot 124 rfl 3 68 _ rfl rfl (by decide) rfl
                  have s3 := Eq.symm (show x3 = .int .u32 (ch : Int) from r3)
                  subst s3
                  obtain ⟨x4, e4, r4⟩ := left.slot 124 rfl 4 69 _ rfl rfl (by decide) rfl
                  have s4 := Eq.symm (show x4 = .string P from r4)
                  subst s4
                  obtain ⟨x5, e5, r5⟩ := left.slot 124 rfl 5 70 _ rfl rfl (by decide) rfl
                  have s5 := Eq.symm (show x5 = .slice (some ⟨gr, 0, none⟩) ml ml from r5)
                  subst s5
                  refine ⟨wanted_none rfl, fun K hK => ?_⟩
                  have hB := hide left.base
                  clear left
                  go_simp
                  refine (chain_val ch P (.slice (some ⟨gr, 0, none⟩) ml ml) recs C _ hcl (by omega) (HRG.out _ hB.out).2.2.2.2.2 HSZ.out.1 HSZ.out.2 HC.out).mono ?_
                  rintro e w' ⟨rfl, hb⟩
                  exact hK _ _ rfl (hB.out.trans (hb.mono (le_base hB.out))) hb
                refine And.intro ?_ ?_
                · refine lstep_run fun fr wf left => ?_
                  obtain ⟨x6, e6, r6⟩ := left.slot 124 rfl 6 71 _ rfl rfl (by decide) rfl
                  have s6 := Eq.symm (show x6 = .int .u32 (C : Int) from r6)
                  subst s6
                  refine ⟨wanted_none rfl, fun K hK => ?_⟩
                  have hB := hide left.base
                  clear left
                  go_simp
                  exact hK _ _ rfl hB.out (Below.refl _ _)
                exact trivial
              · intro fr wf hB hs hd hall hkeep
                have h15 : fr.tmps.getD 15 undef = .int .u32 (C : Int) := hall 7 _ rfl (by simp)
                have hfr := act_ext (frame_setL hs hkeep [65, 66, 67, 68, 69, 70, 71, 15] (by kernel_rfl)) hd
                clear hall hkeep hs hd
                dsimp only [List.foldl, List.set_cons_zero, List.set_cons_succ] at hfr
                generalize fr.tmps.getD 65 undef = q65 at hfr
                generalize fr.tmps.getD 66 undef = q66 at hfr
                generalize fr.tmps.getD 67 undef = q67 at hfr
                generalize fr.tmps.getD 68 undef = q68 at hfr
                generalize fr.tmps.getD 69 undef = q69 at hfr
                generalize fr.tmps.getD 70 undef = q70 at hfr
                generalize fr.tmps.getD 71 undef = q71 at hfr
                generalize fr.tmps.getD 15 undef = q15 at hfr h15
                subst hfr
                subst h15
                have HBF := hide hB
                clear hB
                go_wp2_with fail
                go_meet
                case rel => exact ⟨rfl, HBF.out⟩
            case rest =>
              obtain ⟨h15, hb9⟩ := hcut.out
              subst h15
              have H13 := hide hb9
              clear hcut hb9
              obtain ⟨kk, hkk⟩ : ∃ k, k = s.k := ⟨_, rfl⟩
              have hkr : 1 ≤ kk ∧ kk ≤ 32 := by rw [hkk]; exact HT.out.ok.strength
              have HKK := hide hkk
              clear hkk
              obtain ⟨Q1, hQ1⟩ : ∃ q, q = Fl.nodes (n + 1) := ⟨_, rfl⟩
              have hQ1n : Q1 ≤ 2 * (n + 1) := by rw [hQ1]; exact nodes_le (n + 1)
              have HQ1 := hide hQ1
              clear hQ1
              obtain ⟨m, hmk⟩ : ∃ m : Rec.Mk, m = ⟨(kk : Int), n + 1, fin + P.size, 40 * Q1, C⟩ := ⟨_, rfl⟩
              obtain ⟨MK, hMK⟩ : ∃ b, b = Rec.markB m := ⟨_, rfl⟩
              have hmok : m.ok := by rw [hmk]; exact ⟨Rec.wf_i64 (by dsimp only; omega) (by dsimp only; omega), by dsimp only; omega, by dsimp only; omega, by dsimp only; omega, by dsimp only; omega⟩
              have hmc2 : m.cells = #[.int .i64 (kk : Int), .int .u64 ((n : Int) + 1), .int .u64 ((fin : Int) + (P.size : Int)), .int .u64 (40 * (Q1 : Int)), .int .u32 (C : Int)] := by rw [hmk]; simp [Rec.Mk.cells]
              have HMKS := hide (And.intro hmk (And.intro hMK (And.intro hmok hmc2)))
              clear hmk hMK hmok hmc2
              have HRH := hide (show ∀ u, Below wc.heap.size wc u → _ from fun u hb => HRG.out u (H13.out.trans (hb.mono H13.out.size)))
              have HX14 := hide (show ∃ u, u = wc from ⟨_, rfl⟩)
              go_upto_region 14 with (fail)
              go_cut [16] from 72 to 88 (fun v16 wx => Hid (∃ bm, v16 = .pointer (some ⟨bm, 0, none⟩) ∧ wc.heap.size ≤ bm ∧ wx.heap[bm]? = some (.cells #[.string MK] 9 (0, 0)) ∧ Below wc.heap.size wc wx))
              case first =>
                
                refine wp_region_local (by kernel_rfl) (by kernel_rfl) (useList fad14U) [18] (by kernel_rfl) (spR (fad14L wc T P MK bs b8 n kk fin Q1 C)) (onePre 0 (fun _ => True)) (Below wc.heap.size wc) (setFE [18] (CellF 9)) (setF_staysL [17] (by simp [fad14L]) (by kernel_rfl) (by intro x hx v u u' h hf; simp only [List.mem_cons, List.mem_nil_iff, or_false] at hx; subst hx; obtain ⟨B, x, h1, h2, h3⟩ := h; obtain ⟨y, h4⟩ := hf B x h3; exact ⟨B, y, h1, h2, h4⟩)) (setF_pre (fun _ _ h _ => h) (by kernel_rfl)) (setF_refl (fun _ => CellF.refl _ _)) (dsts_lt (N := 124) (by kernel_rfl)) ((Below.refl _ _).drew) (fun _ _ => one_start trivial) (all_ops ?_) ?_
                · refine And.intro ?_ ?_
                  · refine lstep_run fun fr wf left => ?_
                    have o3 := (left.old 3 (by kernel_rfl)).trans rfl
                    refine ⟨wanted_none rfl, fun K hK => ?_⟩
                    have hB := hide left.base; have hP := hide (one_pre_at left.pre rfl)
                    have hc := (HRH.out _ hB.out).1
                    clear left
                    go_simp
                    exact hK _ _ rfl hB.out (setF_refl (fun _ => CellF.refl _ _) _ _)
                  refine And.intro ?_ ?_
                  · refine lstep_run fun fr wf left => ?_
                    obtain ⟨x0, e0, r0⟩ := left.slot 124 rfl 0 72 _ rfl rfl (by decide) rfl
                    have s0 := Eq.symm (show x0 = .pointer (some ⟨T.g, 0, none⟩) from r0)
                    subst s0
                    refine ⟨wanted_none rfl, fun K hK => ?_⟩
                    have hB := hide left.base
                    clear left
                    go_simp
                    exact hK _ _ rfl hB.out (setF_refl (fun _ => CellF.refl _ _) _ _)
                  refine And.intro ?_ ?_
                  · refine lstep_run fun fr wf left => ?_
                    obtain ⟨x1, e1, r1⟩ := left.slot 124 rfl 1 73 _ rfl rfl (by decide) rfl
                    have s1 := Eq.symm (show x1 = .pointer (some ⟨T.g, 0, none⟩) from r1)
                    subst s1
                    refine ⟨wanted_none rfl, fun K hK => ?_⟩
                    have hB := hide left.base
                    clear left
                    go_simp
                    exact hK _ _ rfl hB.out (setF_refl (fun _ => CellF.refl _ _) _ _)
                  refine And.intro ?_ ?_
                  · refine lstep_run fun fr wf left => ?_
                    obtain ⟨x2, e2, r2⟩ := left.slot 124 rfl 2 74 _ rfl rfl (by decide) rfl
                    have s2 := Eq.symm (show x2 = .pointer (some ⟨T.g, 1, none⟩) from r2)
                    subst s2
                    refine ⟨wanted_none rfl, fun K hK => ?_⟩
                    have hB := hide left.base
                    have hc := (show wf.cell? ⟨T.g, 1, none⟩ = some (.int .i64 (kk : Int)) by rw [(HRH.out _ hB.out).2.1.c1, HKK.out])
                    clear left
                    go_simp
                    exact hK _ _ rfl hB.out (setF_refl (fun _ => CellF.refl _ _) _ _)
                  refine And.intro ?_ ?_
                  · refine lstep_run fun fr wf left => ?_
                    have o8 := (left.old 8 (by kernel_rfl)).trans rfl
                    refine ⟨wanted_none rfl, fun K hK => ?_⟩
                    have hB := hide left.base
                    have hc := (HRH.out _ hB.out).2.2.2.2.1
                    clear left
                    go_simp
                    exact hK _ _ rfl hB.out (setF_refl (fun _ => CellF.refl _ _) _ _)
                  refine And.intro ?_ ?_
                  · refine lstep_run fun fr wf left => ?_
                    obtain ⟨x4, e4, r4⟩ := left.slot 124 rfl 4 76 _ rfl rfl (by decide) rfl
                    have s4 := Eq.symm (show x4 = .int .i64 (n : Int) from r4)
                    subst s4
                    refine ⟨wanted_none rfl, fun K hK => ?_⟩
                    have hB := hide left.base
                    clear left
                    go_simp
                    exact hK _ _ (congrArg (Value.int .u64) (by first | rfl | (rw [IntKind.wrap_u64]; omega) | omega)) hB.out (setF_refl (fun _ => CellF.refl _ _) _ _)
                  refine And.intro ?_ ?_
                  · refine lstep_run fun fr wf left => ?_
                    obtain ⟨x5, e5, r5⟩ := left.slot 124 rfl 5 77 _ rfl rfl (by decide) rfl
                    have s5 := Eq.symm (show x5 = .int .u64 ((n : Int)) from r5)
                    subst s5
                    refine ⟨wanted_none rfl, fun K hK => ?_⟩
                    have hB := hide left.base
                    clear left
                    go_simp
                    exact hK _ _ (congrArg (Value.int .u64) (by first | rfl | (rw [IntKind.wrap_u64]; omega) | omega)) hB.out (setF_refl (fun _ => CellF.refl _ _) _ _)
                  refine And.intro ?_ ?_
                  · refine lstep_run fun fr wf left => ?_
                    have o14 := (left.old 14 (by kernel_rfl)).trans rfl
                    refine ⟨wanted_none rfl, fun K hK => ?_⟩
                    have hB := hide left.base
                    clear left
                    go_simp
                    exact hK _ _ rfl hB.out (setF_refl (fun _ => CellF.refl _ _) _ _)
                  refine And.intro ?_ ?_
                  · refine lstep_run fun fr wf left => ?_
                    obtain ⟨x7, e7, r7⟩ := left.slot 124 rfl 7 79 _ rfl rfl (by decide) rfl
                    have s7 := Eq.symm (show x7 = .int .i64 ((fin + P.size : Nat) : Int) from r7)
                    subst s7
                    refine ⟨wanted_none rfl, fun K hK => ?_⟩
                    have hB := hide left.base
                    clear left
                    go_simp
                    exact hK _ _ (congrArg (Value.int .u64) (by first | rfl | (rw [IntKind.wrap_u64]; omega) | omega)) hB.out (setF_refl (fun _ => CellF.refl _ _) _ _)
                  refine And.intro ?_ ?_
                  · refine lstep_run fun fr wf left => ?_
                    have o8 := (left.old 8 (by kernel_rfl)).trans rfl
                    refine ⟨wanted_none rfl, fun K hK => ?_⟩
                    have hB := hide left.base
                    have hc := (HRH.out _ hB.out).2.2.2.2.1
                    clear left
                    go_simp
                    exact hK _ _ rfl hB.out (setF_refl (fun _ => CellF.refl _ _) _ _)
                  refine And.intro ?_ ?_
                  · refine lstep_run fun fr wf left => ?_
                    obtain ⟨x9, e9, r9⟩ := left.slot 124 rfl 9 81 _ rfl rfl (by decide) rfl
                    have s9 := Eq.symm (show x9 = .int .i64 (n : Int) from r9)
                    subst s9
                    refine ⟨wanted_none rfl, fun K hK => ?_⟩
                    have hB := hide left.base
                    clear left
                    go_simp
                    exact hK _ _ (congrArg (Value.int .i64) ((IntWalk.i64_in _ (by omega)).trans (by omega))) hB.out (setF_refl (fun _ => CellF.refl _ _) _ _)
                  refine And.intro ?_ ?_
                  · refine lstep_run fun fr wf left => ?_
                    obtain ⟨x10, e10, r10⟩ := left.slot 124 rfl 10 82 _ rfl rfl (by decide) rfl
                    have s10 := Eq.symm (show x10 = .int .i64 (((n + 1 : Nat) : Int)) from r10)
                    subst s10
                    refine ⟨wanted_none rfl, fun K hK => ?_⟩
                    have hB := hide left.base
                    clear left
                    go_simp
                    refine (nodes_val (n + 1) Q1 _ (by omega) HQ1.out).mono ?_
                    rintro e w' ⟨rfl, rfl⟩
                    exact hK _ _ rfl hB.out (setF_refl (fun _ => CellF.refl _ _) _ _)
                  refine And.intro ?_ ?_
                  · refine lstep_run fun fr wf left => ?_
                    obtain ⟨x11, e11, r11⟩ := left.slot 124 rfl 11 83 _ rfl rfl (by decide) rfl
                    have s11 := Eq.symm (show x11 = .int .i64 (Q1 : Int) from r11)
                    subst s11
                    refine ⟨wanted_none rfl, fun K hK => ?_⟩
                    have hB := hide left.base
                    clear left
                    go_simp
                    exact hK _ _ (congrArg (Value.int .i64) ((IntWalk.i64_in _ (by omega)).trans (by omega))) hB.out (setF_refl (fun _ => CellF.refl _ _) _ _)
                  refine And.intro ?_ ?_
                  · refine lstep_run fun fr wf left => ?_
                    obtain ⟨x12, e12, r12⟩ := left.slot 124 rfl 12 84 _ rfl rfl (by decide) rfl
                    have s12 := Eq.symm (show x12 = .int .i64 (((40 * Q1 : Nat) : Int)) from r12)
                    subst s12
                    refine ⟨wanted_none rfl, fun K hK => ?_⟩
                    have hB := hide left.base
                    clear left
                    go_simp
                    exact hK _ _ (congrArg (Value.int .u64) (by first | rfl | (rw [IntKind.wrap_u64]; omega) | omega)) hB.out (setF_refl (fun _ => CellF.refl _ _) _ _)
                  refine And.intro ?_ ?_
                  · refine lstep_run fun fr wf left => ?_
                    have o15 := (left.old 15 (by kernel_rfl)).trans rfl
                    refine ⟨wanted_none rfl, fun K hK => ?_⟩
                    have hB := hide left.base
                    clear left
                    go_simp
                    exact hK _ _ rfl hB.out (setF_refl (fun _ => CellF.refl _ _) _ _)
                  refine And.intro ?_ ?_
                  · refine lstep_run fun fr wf left => ?_
                    obtain ⟨x3, e3, r3⟩ := left.slot 124 rfl 3 75 _ rfl rfl (by decide) rfl
                    have s3 := Eq.symm (show x3 = .int .i64 (kk : Int) from r3)
                    subst s3
                    obtain ⟨x6, e6, r6⟩ := left.slot 124 rfl 6 78 _ rfl rfl (by decide) rfl
                    have s6 := Eq.symm (show x6 = .int .u64 (((n + 1 : Nat) : Int)) from r6)
                    subst s6
                    obtain ⟨x8, e8, r8⟩ := left.slot 124 rfl 8 80 _ rfl rfl (by decide) rfl
                    have s8 := Eq.symm (show x8 = .int .u64 (((fin + P.size : Nat) : Int)) from r8)
                    subst s8
                    obtain ⟨x13, e13, r13⟩ := left.slot 124 rfl 13 85 _ rfl rfl (by decide) rfl
                    have s13 := Eq.symm (show x13 = .int .u64 (((40 * Q1 : Nat) : Int)) from r13)
                    subst s13
                    obtain ⟨x14, e14, r14⟩ := left.slot 124 rfl 14 86 _ rfl rfl (by decide) rfl
                    have s14 := Eq.symm (show x14 = .int .u32 (C : Int) from r14)
                    subst s14
                    refine ⟨wanted_none rfl, fun K hK => ?_⟩
                    have hB := hide left.base
                    clear left
                    go_simp
                    exact hK _ _ rfl hB.out (setF_refl (fun _ => CellF.refl _ _) _ _)
                  refine And.intro ?_ ?_
                  · refine lstep_run fun fr wf left => ?_
                    obtain ⟨x15, e15, r15⟩ := left.slot 124 rfl 15 87 _ rfl rfl (by decide) rfl
                    have s15 := Eq.symm (show x15 = .agg #[.int .i64 (kk : Int), .int .u64 ((n + 1 : Nat) : Int), .int .u64 ((fin + P.size : Nat) : Int), .int .u64 ((40 * Q1 : Nat) : Int), .int .u32 (C : Int)] from r15)
                    subst s15
                    refine ⟨wanted_none rfl, fun K hK => ?_⟩
                    have hB := hide left.base
                    clear left
                    go_simp
                    rw [← HMKS.out.2.2.2]
                    refine (mark_val m MK _ HMKS.out.2.2.1 HMKS.out.2.1).mono ?_
                    rintro e w' ⟨rfl, hb⟩
                    exact hK _ _ rfl (hB.out.trans (hb.mono hB.out.size)) (setF_else rfl hb)
                  refine And.intro ?_ ?_
                  · refine lstep_run fun fr wf left => ?_
                    refine ⟨wanted_none rfl, fun K hK => ?_⟩
                    have hB := hide left.base
                    clear left
                    go_simp
                    exact hK _ _ ⟨_, _, rfl, hB.out.size, alloc_at _ _⟩ (hB.out.alloc hB.out.size _) (setF_else rfl ((Below.refl _ _).alloc (Nat.le_refl _) _))
                  refine And.intro ?_ ?_
                  · refine lstep_run fun fr wf left => ?_
                    obtain ⟨x16, e16, r16⟩ := left.slot 124 rfl 16 88 _ rfl rfl (by decide) rfl
                    have s16 := Eq.symm (show x16 = .string MK from r16)
                    subst s16
                    obtain ⟨x17, e17, r17⟩ := left.slot 124 rfl 17 16 _ rfl rfl (by decide) rfl
                    replace r17 : (fun v u => ∃ B x, v = .pointer (some ⟨B, 0, none⟩) ∧ wc.heap.size ≤ B ∧ u.heap[B]? = some (.cells #[x] 9 (0, 0))) x17 wf := r17
                    refine ⟨wanted_none rfl, fun K hK => ?_⟩
                    have hB := hide left.base
                    clear left
                    obtain ⟨B8, x8, hx17, hg8, hh8⟩ := r17
                    subst hx17
                    have hc := (cell_blk hh8 0).trans rfl
                    have hf := frozen_blk hh8 0
                    go_simp
                    refine hK undef _ ?_ (hB.out.setCell (show wc.heap.size ≤ (⟨B8, 0, none⟩ : Addr).block from hg8) _) (setF_at rfl (CellF.set hh8))
                    have g8 : fr.tmps.getD 16 undef = .pointer (some ⟨B8, 0, none⟩) := by simp [Array.getD_eq_getD_getElem?, e17]
                    exact ⟨B8, g8, hg8, by rw [heap_setCell_same _ _ _ _ _ _ hh8]; rfl⟩
                  exact trivial
                · intro fr wf hB hs hd hall hkeep
                  have h18 : ∃ B, fr.tmps.getD 16 undef = .pointer (some ⟨B, 0, none⟩) ∧ wc.heap.size ≤ B ∧ wf.heap[B]? = some (.cells #[.string MK] 9 (0, 0)) := hall 18 _ rfl (by simp)
                  obtain ⟨bm, h16, hbm, hbmc⟩ := h18
                  have hfr := act_ext (frame_setL hs hkeep [72, 73, 74, 75, 76, 77, 78, 79, 80, 81, 82, 83, 84, 85, 86, 87, 88, 16] (by kernel_rfl)) hd
                  clear hall hkeep hs hd
                  dsimp only [List.foldl, List.set_cons_zero, List.set_cons_succ] at hfr
                  generalize fr.tmps.getD 72 undef = q72 at hfr
                  generalize fr.tmps.getD 73 undef = q73 at hfr
                  generalize fr.tmps.getD 74 undef = q74 at hfr
                  generalize fr.tmps.getD 75 undef = q75 at hfr
                  generalize fr.tmps.getD 76 undef = q76 at hfr
                  generalize fr.tmps.getD 77 undef = q77 at hfr
                  generalize fr.tmps.getD 78 undef = q78 at hfr
                  generalize fr.tmps.getD 79 undef = q79 at hfr
                  generalize fr.tmps.getD 80 undef = q80 at hfr
                  generalize fr.tmps.getD 81 undef = q81 at hfr
                  generalize fr.tmps.getD 82 undef = q82 at hfr
                  generalize fr.tmps.getD 83 undef = q83 at hfr
                  generalize fr.tmps.getD 84 undef = q84 at hfr
                  generalize fr.tmps.getD 85 undef = q85 at hfr
                  generalize fr.tmps.getD 86 undef = q86 at hfr
                  generalize fr.tmps.getD 87 undef = q87 at hfr
                  generalize fr.tmps.getD 88 undef = q88 at hfr
                  generalize fr.tmps.getD 16 undef = q16 at hfr h16
                  subst hfr
                  subst h16
                  have HF := hide (And.intro hbm (And.intro hbmc hB))
                  clear hbm hbmc hB
                  go_wp2_with fail
                  go_meet
                  case rel => exact ⟨bm, rfl, HF.out⟩
              case rest =>
                obtain ⟨bm, h16, hbm, hbmc, hb14⟩ := hcut.out
                subst h16
                have H14 := hide (And.intro hbm (And.intro hbmc hb14))
                clear hcut hbm hbmc hb14
                go_upto_block 2 with (fail)
                obtain ⟨wc8, rfl⟩ := HX12.out
                obtain ⟨wc12, rfl⟩ := HX13.out
                obtain ⟨wc13, rfl⟩ := HX14.out
                have hb814 : Below wc8.heap.size wc8 wc := H12.out.trans ((H13.out.trans (H14.out.2.2.mono H13.out.size)).mono H12.out.size)
                obtain ⟨WA, hWA⟩ : ∃ u, u = wc.alloc (.cells #[.func (.func 64) #[] #[.pointer (some ⟨bs, 0, none⟩), .pointer (some ⟨bp, 0, none⟩)], .func (.func 65) #[] #[.pointer (some ⟨bs, 0, none⟩), .pointer (some ⟨b9, 0, none⟩), .pointer (some ⟨br, 0, none⟩)], .func (.func 67) #[] #[.pointer (some ⟨bs, 0, none⟩)], .func (.func 69) #[] #[.pointer (some ⟨bs, 0, none⟩)], .func (.func 70) #[] #[.pointer (some ⟨bs, 0, none⟩), .pointer (some ⟨b8, 0, none⟩), .pointer (some ⟨bm, 0, none⟩)], .func (.func 71) #[] #[.pointer (some ⟨bs, 0, none⟩)]] 103) := ⟨_, rfl⟩
                obtain ⟨bf, hbf⟩ : ∃ b, b = wc.heap.size := ⟨_, rfl⟩
                have hbA : Below wc.heap.size wc WA := by rw [hWA]; exact (Below.refl _ _).alloc (Nat.le_refl _) _
                have hwA : Below w.heap.size w WA := (HW8.out.2.2.2.2.2.2.2.trans (hb814.mono HW8.out.2.2.2.2.2.2.2.size)).trans (hbA.mono (Nat.le_trans HW8.out.2.2.2.2.2.2.2.size hb814.size))
                have hDA : DiskAt WA D d := HD.out.past hwA
                have hfs : WA.heap[bf]? = some (.cells #[.func (.func 64) #[] #[.pointer (some ⟨bs, 0, none⟩), .pointer (some ⟨bp, 0, none⟩)], .func (.func 65) #[] #[.pointer (some ⟨bs, 0, none⟩), .pointer (some ⟨b9, 0, none⟩), .pointer (some ⟨br, 0, none⟩)], .func (.func 67) #[] #[.pointer (some ⟨bs, 0, none⟩)], .func (.func 69) #[] #[.pointer (some ⟨bs, 0, none⟩)], .func (.func 70) #[] #[.pointer (some ⟨bs, 0, none⟩), .pointer (some ⟨b8, 0, none⟩), .pointer (some ⟨bm, 0, none⟩)], .func (.func 71) #[] #[.pointer (some ⟨bs, 0, none⟩)]] 103 (0, 0)) := by rw [hWA, hbf]; exact alloc_at _ _
                rw [← hWA, ← hbf]
                have hne1 : ∀ (b : Nat) (x : Value) (T2 : Nat), WA.heap[b]? = some (.cells #[x] T2 (0, 0)) → b ≠ D.g ∧ b ≠ D.mb := by
                  intro b x T2 hb
                  refine ⟨fun e => ?_, fun e => ?_⟩
                  · rw [e, hDA.cells] at hb
                    injection hb with hb; injection hb with hb
                    have := congrArg Array.size hb
                    exact absurd this (by show ¬ (8 = 1); decide)
                  · obtain ⟨es, clock, hb2, _⟩ := hDA.map
                    rw [e, hb2] at hb; cases hb
                have h8A : ∀ (b : Nat) (o : Obj), wc8.heap[b]? = some o → WA.heap[b]? = some o := by
                  intro b o hb
                  have h1 := (hb814.block b (heap_lt hb)).trans hb
                  exact (hbA.block b (heap_lt h1)).trans h1
                have k0 := h8A _ _ HW8.out.2.1
                have k1 := h8A _ _ HW8.out.2.2.1
                have k2 := h8A _ _ HW8.out.2.2.2.1
                have k3 := h8A _ _ HW8.out.2.2.2.2.1
                have k4 := h8A _ _ HW8.out.2.2.2.2.2.1
                have k5 := (hbA.block bm (heap_lt H14.out.2.1)).trans H14.out.2.1
                have hSA : StoreAt WA T D.g s := HT.out.past hwA
                have hAr : Arr WA gr 9 (recs.map Value.string) := HW8.out.2.2.2.2.2.2.1.past (hb814.trans (hbA.mono hb814.size))
                have hgr : gr ≠ D.g ∧ gr ≠ D.mb := by
                  have h1 := HGR.out.2.2.2.2
                  have h2 := HWW.out.size
                  have h3 := HD.out.glt
                  have h4 := HD.out.map.lt
                  exact ⟨by omega, by omega⟩
                have hfr2 : bf ≠ D.g ∧ bf ≠ D.mb := by
                  have h3 := (HD.out.glt)
                  have h4 := (HD.out.map.lt)
                  have h5 := HW8.out.2.2.2.2.2.2.2.size
                  have h6 := hb814.size
                  exact ⟨by omega, by omega⟩
                have HNE := hide (And.intro (hne1 _ _ _ k0) (And.intro (hne1 _ _ _ k1) (And.intro (hne1 _ _ _ k2) (And.intro (hne1 _ _ _ k3) (And.intro (hne1 _ _ _ k4) (hne1 _ _ _ k5))))))
                have HFN := hide (show ∀ u, Moved (Dk.own D) WA u → StoreAt u T D.g s ∧ u.heap[bs]? = some (.cells #[.pointer (some ⟨T.g, 0, none⟩)] 28 (0, 0)) ∧ u.heap[bp]? = some (.cells #[.string P] 9 (0, 0)) ∧ u.heap[br]? = some (.cells #[.slice (some ⟨gr, 0, none⟩) ml ml] 22 (0, 0)) ∧ u.heap[b8]? = some (.cells #[.int .i64 (n : Int)] 3 (0, 0)) ∧ u.heap[b9]? = some (.cells #[.int .i64 (Q : Int)] 3 (0, 0)) ∧ u.heap[bm]? = some (.cells #[.string MK] 9 (0, 0)) ∧ SlV u (.slice (some ⟨gr, 0, none⟩) ml ml) (recs.map Value.string) ∧ u.heap[bf]? = some (.cells #[.func (.func 64) #[] #[.pointer (some ⟨bs, 0, none⟩), .pointer (some ⟨bp, 0, none⟩)], .func (.func 65) #[] #[.pointer (some ⟨bs, 0, none⟩), .pointer (some ⟨b9, 0, none⟩), .pointer (some ⟨br, 0, none⟩)], .func (.func 67) #[] #[.pointer (some ⟨bs, 0, none⟩)], .func (.func 69) #[] #[.pointer (some ⟨bs, 0, none⟩)], .func (.func 70) #[] #[.pointer (some ⟨bs, 0, none⟩), .pointer (some ⟨b8, 0, none⟩), .pointer (some ⟨bm, 0, none⟩)], .func (.func 71) #[] #[.pointer (some ⟨bs, 0, none⟩)]] 103 (0, 0)) from by
                  intro u hm
                  have go : ∀ (b : Nat) (o : Obj), b ≠ D.g ∧ b ≠ D.mb → WA.heap[b]? = some o → u.heap[b]? = some o := fun b o hn ho => (hm.block b (heap_lt ho) (fun k => k.elim hn.1 hn.2)).trans ho
                  refine ⟨hSA.stay hm HAP.out.away HAP.out.evs, go _ _ (hne1 _ _ _ k0) k0, go _ _ (hne1 _ _ _ k1) k1, go _ _ (hne1 _ _ _ k2) k2, go _ _ (hne1 _ _ _ k3) k3, go _ _ (hne1 _ _ _ k4) k4, go _ _ (hne1 _ _ _ k5) k5, ?_, go _ _ hfr2 hfs⟩
                  exact ((hAr.slv (by rw [List.length_map]; exact HREC.out.2.symm) (Nat.le_refl _)).stay hm.size fun k hk hlt => hm.block k hlt (fun ho => by
                    rw [Dk.slBlk_some] at hk
                    split at hk
                    · cases hk
                    · injection hk with hk
                      exact ho.elim (fun e => hgr.1 (hk.trans e)) (fun e => hgr.2 (hk.trans e)))))
                have HWA := hide (And.intro hwA hDA)
                obtain ⟨A, hA⟩ : ∃ A, A = Fl.actsOf s item made := ⟨_, rfl⟩
                have HA := hide (show A = [.write Fl.nItems fin P, .write Fl.nNodes (40 * Q) (Fl.catAll recs), .sync Fl.nItems, .sync Fl.nNodes, .write Fl.nMarks (64 * n) MK, .sync Fl.nMarks] from by
                  rw [hA]
                  unfold Fl.actsOf Fl.markOfAdd Fl.fin' Fl.chain'
                  rw [HMKS.out.2.1, HMKS.out.1, HKK.out, HC.out, HFI.out, HP.out, HCH.out, HREC.out.1, HQ.out, HQ1.out, HN.out])
                have HAA := hide hA
                have HCT := hide (show (Fl.catAll recs).size ≤ 140737488351232 from by
                  unfold Fl.catAll
                  rw [Rec.catB_size]
                  exact Nat.le_trans (by show 0 + _ ≤ _; rw [Nat.zero_add]; exact Nat.le_refl _) HSZ.out.2)
                have HMZ := hide (show MK.size ≤ 140737488351232 from by
                  rw [HMKS.out.2.1, Rec.mark_size m (by rw [HMKS.out.1]; dsimp only; omega) (by rw [HMKS.out.1]; dsimp only; omega)]; decide)
                have HPZ := hide (show P.size ≤ 140737488351232 from by omega)
                have HACT := hide (And.intro hacts (And.intro hmany hkl))
                have HML1 := hide hml1
                clear hb814 hWA hbf hbA hwA hDA hfs hne1 h8A k0 k1 k2 k3 k4 k5 hSA hAr hgr hfr2 hA hacts hmany hkl hPsz hml1
                go_wp2_with fail
                go_loopg [97] 6 (fun g v97 wr => ∃ (i : Nat) (di : Dk.St), g = 6 - i ∧ i ≤ 6 ∧ v97 = .int .i64 (i : Int) ∧ Hid (LoopAt D d A WA i di wr))
                case atStart => exact ⟨0, d, rfl, Nat.zero_le _, rfl, LoopAt.start A HWA.out.2⟩
                case round =>
                  obtain ⟨i, di, rfl, hi6, rfl, HL⟩ := hrel
                  have hacts2 : di.acts < 4611686018427387904 := by have h1 := HL.out.2.2.2.1; have h2 := HACT.out.1; omega
                  have hmany2 : di.files.length < 1099511627776 := by have h1 := HL.out.2.2.2.2.1; have h2 := HACT.out.2.1; omega
                  have hkl2 : di.keep.length ≤ 140737488351232 := by rw [HL.out.2.2.2.2.2]; exact HACT.out.2.2
                  have hcase : i = 0 ∨ i = 1 ∨ i = 2 ∨ i = 3 ∨ i = 4 ∨ i = 5 ∨ i = 6 := by omega
                  have HF := hide (HFN.out wr HL.out.2.1)
                  rcases hcase with rfl | rfl | rfl | rfl | rfl | rfl | rfl
                  · obtain ⟨r, d2, hr⟩ : ∃ r d2, Fl.doV di (.write Fl.nItems fin P) = (r, d2) := ⟨_, _, rfl⟩
                    have hcf : wr.cell? ⟨bf, 0, none⟩ = some (.func (.func 64) #[] #[.pointer (some ⟨bs, 0, none⟩), .pointer (some ⟨bp, 0, none⟩)]) := (cell_blk HF.out.2.2.2.2.2.2.2.2 0).trans rfl
                    have hQs : Q ≤ 140000 := by omega
                    have HR := hide hr
                    have HDR := hide (show A.drop 0 = (.write Fl.nItems fin P) :: A.drop 1 from by rw [HA.out]; rfl)
                    clear hr
                    go_wp2_with fail
                    refine (add1_val T D s di d2 r bs bp P fin _ HF.out.1 HL.out.1 HF.out.2.1 HF.out.2.2.1 HNE.out.2.1 HPZ.out HFI.out HAP.out HNE.out.1 hacts2 hmany2 hkl2 HR.out).mono ?_
                    rintro e w1 ⟨rfl, ht⟩
                    have HTN := hide ht
                    clear ht hcf
                    by_cases h0 : r = 0
                    · subst h0
                      go_wp2_with fail
                      go_roundg (6 - 1)
                      case measure => decide
                      case rel => exact ⟨1, d2, rfl, by decide, rfl, HL.out.next HDR.out HR.out HTN.out⟩
                    · have hne : (r != 0) = true := by simp [h0]
                      have HH0 := hide h0
                      have hS1 := (HF.out.1.stay HTN.out.moved HAP.out.away HAP.out.evs)
                      have c0 : w1.cell? ⟨bs, 0, none⟩ = some (.pointer (some ⟨T.g, 0, none⟩)) := (cell_blk ((HFN.out w1 (HL.out.2.1.then HTN.out.moved)).2.1) 0).trans rfl
                      have c4 := hS1.c4
                      have f4 := hS1.frozen 4
                      clear h0 hS1
                      go_wp2_with fail
                      go_ret
                      rw [Fl.add_err HCK.out.symm (by rw [← HAA.out]; exact HL.out.err HDR.out HR.out HH0.out) HH0.out]
                      exact ⟨rfl, Fl.added_lame HT.out HAP.out HWA.out.1 HL.out.2.1 HTN.out⟩
                  · obtain ⟨r, d2, hr⟩ : ∃ r d2, Fl.doV di (.write Fl.nNodes (40 * Q) (Fl.catAll recs)) = (r, d2) := ⟨_, _, rfl⟩
                    have hcf : wr.cell? ⟨bf, 1, none⟩ = some (.func (.func 65) #[] #[.pointer (some ⟨bs, 0, none⟩), .pointer (some ⟨b9, 0, none⟩), .pointer (some ⟨br, 0, none⟩)]) := (cell_blk HF.out.2.2.2.2.2.2.2.2 1).trans rfl
                    have hQs : Q ≤ 140000 := by omega
                    have HR := hide hr
                    have HDR := hide (show A.drop 1 = (.write Fl.nNodes (40 * Q) (Fl.catAll recs)) :: A.drop 2 from by rw [HA.out]; rfl)
                    clear hr
                    go_wp2_with fail
                    refine (add2_val T D s di d2 r bs b9 br (Fl.catAll recs) Q (.slice (some ⟨gr, 0, none⟩) ml ml) recs _ HF.out.1 HL.out.1 HF.out.2.1 HF.out.2.2.2.2.2.1 HF.out.2.2.2.1 (fun u hm => (HFN.out u (HL.out.2.1.then hm)).2.2.2.2.2.2.2.1) ⟨HNE.out.2.2.2.2.1, HNE.out.2.2.1⟩ HSZ.out.1 rfl HCT.out hQs HAP.out HNE.out.1 hacts2 hmany2 hkl2 HR.out).mono ?_
                    rintro e w1 ⟨rfl, ht⟩
                    have HTN := hide ht
                    clear ht hcf
                    by_cases h0 : r = 0
                    · subst h0
                      go_wp2_with fail
                      go_roundg (6 - 2)
                      case measure => decide
                      case rel => exact ⟨2, d2, rfl, by decide, rfl, HL.out.next HDR.out HR.out HTN.out⟩
                    · have hne : (r != 0) = true := by simp [h0]
                      have HH0 := hide h0
                      have hS1 := (HF.out.1.stay HTN.out.moved HAP.out.away HAP.out.evs)
                      have c0 : w1.cell? ⟨bs, 0, none⟩ = some (.pointer (some ⟨T.g, 0, none⟩)) := (cell_blk ((HFN.out w1 (HL.out.2.1.then HTN.out.moved)).2.1) 0).trans rfl
                      have c4 := hS1.c4
                      have f4 := hS1.frozen 4
                      clear h0 hS1
                      go_wp2_with fail
                      go_ret
                      rw [Fl.add_err HCK.out.symm (by rw [← HAA.out]; exact HL.out.err HDR.out HR.out HH0.out) HH0.out]
                      exact ⟨rfl, Fl.added_lame HT.out HAP.out HWA.out.1 HL.out.2.1 HTN.out⟩
                  · obtain ⟨r, d2, hr⟩ : ∃ r d2, Fl.doV di (.sync Fl.nItems) = (r, d2) := ⟨_, _, rfl⟩
                    have hcf : wr.cell? ⟨bf, 2, none⟩ = some (.func (.func 67) #[] #[.pointer (some ⟨bs, 0, none⟩)]) := (cell_blk HF.out.2.2.2.2.2.2.2.2 2).trans rfl
                    have hQs : Q ≤ 140000 := by omega
                    have HR := hide hr
                    have HDR := hide (show A.drop 2 = (.sync Fl.nItems) :: A.drop 3 from by rw [HA.out]; rfl)
                    clear hr
                    go_wp2_with fail
                    refine (add3_val T D s di d2 r bs _ HF.out.1 HL.out.1 HF.out.2.1 HAP.out HNE.out.1 hacts2 hmany2 hkl2 HR.out).mono ?_
                    rintro e w1 ⟨rfl, ht⟩
                    have HTN := hide ht
                    clear ht hcf
                    by_cases h0 : r = 0
                    · subst h0
                      go_wp2_with fail
                      go_roundg (6 - 3)
                      case measure => decide
                      case rel => exact ⟨3, d2, rfl, by decide, rfl, HL.out.next HDR.out HR.out HTN.out⟩
                    · have hne : (r != 0) = true := by simp [h0]
                      have HH0 := hide h0
                      have hS1 := (HF.out.1.stay HTN.out.moved HAP.out.away HAP.out.evs)
                      have c0 : w1.cell? ⟨bs, 0, none⟩ = some (.pointer (some ⟨T.g, 0, none⟩)) := (cell_blk ((HFN.out w1 (HL.out.2.1.then HTN.out.moved)).2.1) 0).trans rfl
                      have c4 := hS1.c4
                      have f4 := hS1.frozen 4
                      clear h0 hS1
                      go_wp2_with fail
                      go_ret
                      rw [Fl.add_err HCK.out.symm (by rw [← HAA.out]; exact HL.out.err HDR.out HR.out HH0.out) HH0.out]
                      exact ⟨rfl, Fl.added_lame HT.out HAP.out HWA.out.1 HL.out.2.1 HTN.out⟩
                  · obtain ⟨r, d2, hr⟩ : ∃ r d2, Fl.doV di (.sync Fl.nNodes) = (r, d2) := ⟨_, _, rfl⟩
                    have hcf : wr.cell? ⟨bf, 3, none⟩ = some (.func (.func 69) #[] #[.pointer (some ⟨bs, 0, none⟩)]) := (cell_blk HF.out.2.2.2.2.2.2.2.2 3).trans rfl
                    have hQs : Q ≤ 140000 := by omega
                    have HR := hide hr
                    have HDR := hide (show A.drop 3 = (.sync Fl.nNodes) :: A.drop 4 from by rw [HA.out]; rfl)
                    clear hr
                    go_wp2_with fail
                    refine (add4_val T D s di d2 r bs _ HF.out.1 HL.out.1 HF.out.2.1 HAP.out HNE.out.1 hacts2 hmany2 hkl2 HR.out).mono ?_
                    rintro e w1 ⟨rfl, ht⟩
                    have HTN := hide ht
                    clear ht hcf
                    by_cases h0 : r = 0
                    · subst h0
                      go_wp2_with fail
                      go_roundg (6 - 4)
                      case measure => decide
                      case rel => exact ⟨4, d2, rfl, by decide, rfl, HL.out.next HDR.out HR.out HTN.out⟩
                    · have hne : (r != 0) = true := by simp [h0]
                      have HH0 := hide h0
                      have hS1 := (HF.out.1.stay HTN.out.moved HAP.out.away HAP.out.evs)
                      have c0 : w1.cell? ⟨bs, 0, none⟩ = some (.pointer (some ⟨T.g, 0, none⟩)) := (cell_blk ((HFN.out w1 (HL.out.2.1.then HTN.out.moved)).2.1) 0).trans rfl
                      have c4 := hS1.c4
                      have f4 := hS1.frozen 4
                      clear h0 hS1
                      go_wp2_with fail
                      go_ret
                      rw [Fl.add_err HCK.out.symm (by rw [← HAA.out]; exact HL.out.err HDR.out HR.out HH0.out) HH0.out]
                      exact ⟨rfl, Fl.added_lame HT.out HAP.out HWA.out.1 HL.out.2.1 HTN.out⟩
                  · obtain ⟨r, d2, hr⟩ : ∃ r d2, Fl.doV di (.write Fl.nMarks (64 * n) MK) = (r, d2) := ⟨_, _, rfl⟩
                    have hcf : wr.cell? ⟨bf, 4, none⟩ = some (.func (.func 70) #[] #[.pointer (some ⟨bs, 0, none⟩), .pointer (some ⟨b8, 0, none⟩), .pointer (some ⟨bm, 0, none⟩)]) := (cell_blk HF.out.2.2.2.2.2.2.2.2 4).trans rfl
                    have hQs : Q ≤ 140000 := by omega
                    have HR := hide hr
                    have HDR := hide (show A.drop 4 = (.write Fl.nMarks (64 * n) MK) :: A.drop 5 from by rw [HA.out]; rfl)
                    clear hr
                    go_wp2_with fail
                    refine (add5_val T D s di d2 r bs b8 bm MK n _ HF.out.1 HL.out.1 HF.out.2.1 HF.out.2.2.2.2.1 HF.out.2.2.2.2.2.2.1 ⟨HNE.out.2.2.2.1, HNE.out.2.2.2.2.2⟩ HMZ.out hm HAP.out HNE.out.1 hacts2 hmany2 hkl2 HR.out).mono ?_
                    rintro e w1 ⟨rfl, ht⟩
                    have HTN := hide ht
                    clear ht hcf
                    by_cases h0 : r = 0
                    · subst h0
                      go_wp2_with fail
                      go_roundg (6 - 5)
                      case measure => decide
                      case rel => exact ⟨5, d2, rfl, by decide, rfl, HL.out.next HDR.out HR.out HTN.out⟩
                    · have hne : (r != 0) = true := by simp [h0]
                      have HH0 := hide h0
                      have hS1 := (HF.out.1.stay HTN.out.moved HAP.out.away HAP.out.evs)
                      have c0 : w1.cell? ⟨bs, 0, none⟩ = some (.pointer (some ⟨T.g, 0, none⟩)) := (cell_blk ((HFN.out w1 (HL.out.2.1.then HTN.out.moved)).2.1) 0).trans rfl
                      have c4 := hS1.c4
                      have f4 := hS1.frozen 4
                      clear h0 hS1
                      go_wp2_with fail
                      go_ret
                      rw [Fl.add_err HCK.out.symm (by rw [← HAA.out]; exact HL.out.err HDR.out HR.out HH0.out) HH0.out]
                      exact ⟨rfl, Fl.added_lame HT.out HAP.out HWA.out.1 HL.out.2.1 HTN.out⟩
                  · obtain ⟨r, d2, hr⟩ : ∃ r d2, Fl.doV di (.sync Fl.nMarks) = (r, d2) := ⟨_, _, rfl⟩
                    have hcf : wr.cell? ⟨bf, 5, none⟩ = some (.func (.func 71) #[] #[.pointer (some ⟨bs, 0, none⟩)]) := (cell_blk HF.out.2.2.2.2.2.2.2.2 5).trans rfl
                    have hQs : Q ≤ 140000 := by omega
                    have HR := hide hr
                    have HDR := hide (show A.drop 5 = (.sync Fl.nMarks) :: A.drop 6 from by rw [HA.out]; rfl)
                    clear hr
                    go_wp2_with fail
                    refine (add6_val T D s di d2 r bs _ HF.out.1 HL.out.1 HF.out.2.1 HAP.out HNE.out.1 hacts2 hmany2 hkl2 HR.out).mono ?_
                    rintro e w1 ⟨rfl, ht⟩
                    have HTN := hide ht
                    clear ht hcf
                    by_cases h0 : r = 0
                    · subst h0
                      go_wp2_with fail
                      go_roundg (6 - 6)
                      case measure => decide
                      case rel => exact ⟨6, d2, rfl, by decide, rfl, HL.out.next HDR.out HR.out HTN.out⟩
                    · have hne : (r != 0) = true := by simp [h0]
                      have HH0 := hide h0
                      have hS1 := (HF.out.1.stay HTN.out.moved HAP.out.away HAP.out.evs)
                      have c0 : w1.cell? ⟨bs, 0, none⟩ = some (.pointer (some ⟨T.g, 0, none⟩)) := (cell_blk ((HFN.out w1 (HL.out.2.1.then HTN.out.moved)).2.1) 0).trans rfl
                      have c4 := hS1.c4
                      have f4 := hS1.frozen 4
                      clear h0 hS1
                      go_wp2_with fail
                      go_ret
                      rw [Fl.add_err HCK.out.symm (by rw [← HAA.out]; exact HL.out.err HDR.out HR.out HH0.out) HH0.out]
                      exact ⟨rfl, Fl.added_lame HT.out HAP.out HWA.out.1 HL.out.2.1 HTN.out⟩
                  · have HFI2 := hide (HL.out.fin (show A.drop 6 = [] by rw [HA.out]; rfl))
                    have HAPT := hide (And.intro HF.out.1.apart HF.out.1.lt)
                    have HF1 := hide (show ∀ u, Moved (fun k => k = T.g ∨ T.ev.ownBlock = some k) wr u → u.cell? ⟨bs, 0, none⟩ = some (.pointer (some ⟨T.g, 0, none⟩)) from by
                      intro u hm
                      have h1 := HF.out.2.1
                      refine (cell_blk ((hm.block bs (heap_lt h1) ?_).trans h1) 0).trans rfl
                      have hlt := HT.out.lt
                      have e := HW.out.2
                      rintro (k | k)
                      · omega
                      · have := (HT.out.row.lt bs k).2; omega)
                    go_upto_region 23 with (fail)
                    
                    refine wp_region_local (by kernel_rfl) (by kernel_rfl) (useList fad23U) [15] (by kernel_rfl) (spR (fad23L T D s P bs fin C wr)) (listPre [5, 8] (fun u => StoreAt u T D.g s)) (Moved (fun k => k = T.g ∨ T.ev.ownBlock = some k) wr) (setFE [8, 12, 15] (fun _ _ => True)) (setF_staysL [] (by simp [fad23L]) (by kernel_rfl) (by intro x hx; cases hx)) (list_pre (fun _ _ h hb => h.past hb) (by kernel_rfl)) (setF_refl (fun _ => trivial)) (dsts_lt (N := 124) (by kernel_rfl)) ((Moved.refl _ _).drew) (fun _ _ => list_start (HF.out.1.past ((Below.refl _ _).drew))) (all_ops ?_) ?_
                    · refine And.intro ?_ ?_
                      · refine lstep_run fun fr wf left => ?_
                        have o3 := (left.old 3 (by kernel_rfl)).trans rfl
                        refine ⟨wanted_none rfl, fun K hK => ?_⟩
                        have hB := hide left.base
                        have hc := HF1.out _ hB.out
                        clear left
                        go_simp
                        exact hK _ _ rfl hB.out (setF_refl (fun _ => trivial) _ _)
                      refine And.intro ?_ ?_
                      · refine lstep_run fun fr wf left => ?_
                        have o3 := (left.old 3 (by kernel_rfl)).trans rfl
                        refine ⟨wanted_none rfl, fun K hK => ?_⟩
                        have hB := hide left.base
                        have hc := HF1.out _ hB.out
                        clear left
                        go_simp
                        exact hK _ _ rfl hB.out (setF_refl (fun _ => trivial) _ _)
                      refine And.intro ?_ ?_
                      · refine lstep_run fun fr wf left => ?_
                        have o3 := (left.old 3 (by kernel_rfl)).trans rfl
                        refine ⟨wanted_none rfl, fun K hK => ?_⟩
                        have hB := hide left.base
                        have hc := HF1.out _ hB.out
                        clear left
                        go_simp
                        exact hK _ _ rfl hB.out (setF_refl (fun _ => trivial) _ _)
                      refine And.intro ?_ ?_
                      · refine lstep_run fun fr wf left => ?_
                        obtain ⟨x2, e2, r2⟩ := left.slot 124 rfl 2 112 _ rfl rfl (by decide) rfl
                        have s2 := Eq.symm (show x2 = .pointer (some ⟨T.g, 0, none⟩) from r2)
                        subst s2
                        refine ⟨wanted_none rfl, fun K hK => ?_⟩
                        have hB := hide left.base
                        clear left
                        go_simp
                        exact hK _ _ rfl hB.out (setF_refl (fun _ => trivial) _ _)
                      refine And.intro ?_ ?_
                      · refine lstep_run fun fr wf left => ?_
                        obtain ⟨x3, e3, r3⟩ := left.slot 124 rfl 3 113 _ rfl rfl (by decide) rfl
                        have s3 := Eq.symm (show x3 = .pointer (some ⟨T.g, 0, none⟩) from r3)
                        subst s3
                        refine ⟨wanted_none rfl, fun K hK => ?_⟩
                        have hB := hide left.base
                        clear left
                        go_simp
                        exact hK _ _ rfl hB.out (setF_refl (fun _ => trivial) _ _)
                      refine And.intro ?_ ?_
                      · refine lstep_run fun fr wf left => ?_
                        obtain ⟨x4, e4, r4⟩ := left.slot 124 rfl 4 114 _ rfl rfl (by decide) rfl
                        have s4 := Eq.symm (show x4 = .pointer (some ⟨T.g, 2, none⟩) from r4)
                        subst s4
                        refine ⟨wanted_none rfl, fun K hK => ?_⟩
                        have hB := hide left.base; have hP := hide (list_pre_at left.pre rfl)
                        have hc := hP.out.c2
                        clear left
                        go_simp
                        exact hK _ _ rfl hB.out (setF_refl (fun _ => trivial) _ _)
                      refine And.intro ?_ ?_
                      · refine lstep_run fun fr wf left => ?_
                        have o14 := (left.old 14 (by kernel_rfl)).trans rfl
                        refine ⟨wanted_none rfl, fun K hK => ?_⟩
                        have hB := hide left.base
                        clear left
                        go_simp
                        exact hK _ _ rfl hB.out (setF_refl (fun _ => trivial) _ _)
                      refine And.intro ?_ ?_
                      · refine lstep_run fun fr wf left => ?_
                        obtain ⟨x6, e6, r6⟩ := left.slot 124 rfl 6 116 _ rfl rfl (by decide) rfl
                        have s6 := Eq.symm (show x6 = .int .i64 ((fin + P.size : Nat) : Int) from r6)
                        subst s6
                        refine ⟨wanted_none rfl, fun K hK => ?_⟩
                        have hB := hide left.base
                        clear left
                        go_simp
                        exact hK _ _ ⟨_, rfl, alloc_at _ _⟩ (hB.out.alloc _) (setF_else rfl ((Below.refl _ _).alloc (Nat.le_refl _) _))
                      refine And.intro ?_ ?_
                      · refine lstep_run fun fr wf left => ?_
                        obtain ⟨x5, e5, r5⟩ := left.slot 124 rfl 5 115 _ rfl rfl (by decide) rfl
                        have s5 := Eq.symm (show x5 = T.ev from r5)
                        subst s5
                        obtain ⟨x7, e7, r7⟩ := left.slot 124 rfl 7 117 _ rfl rfl (by decide) rfl
                        replace r7 : (fun v u => ∃ B, v = .slice (some ⟨B, 0, none⟩) 1 1 ∧ u.heap[B]? = some (.cells #[.int .i64 ((fin + P.size : Nat) : Int)] 3 (0, 0))) x7 wf := r7
                        refine ⟨wanted_none rfl, fun K hK => ?_⟩
                        have hB := hide left.base; have hP := hide (list_pre_at left.pre rfl)
                        clear left
                        obtain ⟨B7, hx7, h7⟩ := r7
                        subst hx7
                        refine wp_append_end (.tmp 115) (.tmp 117) rfl hP.out hB.out.size (eval_tmp e5) B7 (fin + P.size) (eval_tmp e7) h7 ?_
                        intro v' w' h8 hm8
                        exact hK _ _ h8 (hB.out.then hm8) (setF_at rfl trivial)
                      refine And.intro ?_ ?_
                      · refine lstep_run fun fr wf left => ?_
                        have o15 := (left.old 15 (by kernel_rfl)).trans rfl
                        refine ⟨wanted_none rfl, fun K hK => ?_⟩
                        have hB := hide left.base
                        clear left
                        go_simp
                        exact hK _ _ rfl hB.out (setF_refl (fun _ => trivial) _ _)
                      refine And.intro ?_ ?_
                      · refine lstep_run fun fr wf left => ?_
                        obtain ⟨x0, e0, r0⟩ := left.slot 124 rfl 0 110 _ rfl rfl (by decide) rfl
                        have s0 := Eq.symm (show x0 = .pointer (some ⟨T.g, 0, none⟩) from r0)
                        subst s0
                        refine ⟨wanted_none rfl, fun K hK => ?_⟩
                        have hB := hide left.base
                        clear left
                        go_simp
                        exact hK _ _ rfl hB.out (setF_refl (fun _ => trivial) _ _)
                      refine And.intro ?_ ?_
                      · refine lstep_run fun fr wf left => ?_
                        obtain ⟨x10, e10, r10⟩ := left.slot 124 rfl 10 120 _ rfl rfl (by decide) rfl
                        have s10 := Eq.symm (show x10 = .pointer (some ⟨T.g, 0, none⟩) from r10)
                        subst s10
                        refine ⟨wanted_none rfl, fun K hK => ?_⟩
                        have hB := hide left.base
                        clear left
                        go_simp
                        exact hK _ _ rfl hB.out (setF_refl (fun _ => trivial) _ _)
                      refine And.intro ?_ ?_
                      · refine lstep_run fun fr wf left => ?_
                        obtain ⟨x8, e8, r8⟩ := left.slot 124 rfl 8 118 _ rfl rfl (by decide) rfl
                        replace r8 : (fun v u => Say8 T D.g s (fin + P.size) wr v u) x8 wf := r8
                        obtain ⟨x11, e11, r11⟩ := left.slot 124 rfl 11 121 _ rfl rfl (by decide) rfl
                        have s11 := Eq.symm (show x11 = .pointer (some ⟨T.g, 2, none⟩) from r11)
                        subst s11
                        refine ⟨wanted_none rfl, fun K hK => ?_⟩
                        have hB := hide left.base
                        clear left
                        obtain ⟨a8, l8, z8, hx8⟩ := row_slice (show Say8 T D.g s (fin + P.size) wr x8 wf from r8).1.1
                        subst hx8
                        have h8 : Say8 T D.g s (fin + P.size) wr _ wf := r8
                        have hc : wf.cell? ⟨T.g, 2, none⟩ = some T.ev := (cell_blk h8.2 2).trans rfl
                        have hf := frozen_blk h8.2 2
                        go_simp
                        exact hK undef _ (Say12.of h8 HAPT.out.1 HAPT.out.2) (hB.out.setCell (a := ⟨T.g, 2, none⟩) (.inl rfl) _) (setF_at rfl trivial)
                      refine And.intro ?_ ?_
                      · refine lstep_run fun fr wf left => ?_
                        obtain ⟨x1, e1, r1⟩ := left.slot 124 rfl 1 111 _ rfl rfl (by decide) rfl
                        have s1 := Eq.symm (show x1 = .pointer (some ⟨T.g, 0, none⟩) from r1)
                        subst s1
                        refine ⟨wanted_none rfl, fun K hK => ?_⟩
                        have hB := hide left.base
                        clear left
                        go_simp
                        exact hK _ _ rfl hB.out (setF_refl (fun _ => trivial) _ _)
                      refine And.intro ?_ ?_
                      · refine lstep_run fun fr wf left => ?_
                        obtain ⟨x13, e13, r13⟩ := left.slot 124 rfl 13 122 _ rfl rfl (by decide) rfl
                        have s13 := Eq.symm (show x13 = .pointer (some ⟨T.g, 0, none⟩) from r13)
                        subst s13
                        refine ⟨wanted_none rfl, fun K hK => ?_⟩
                        have hB := hide left.base
                        clear left
                        go_simp
                        exact hK _ _ rfl hB.out (setF_refl (fun _ => trivial) _ _)
                      refine And.intro ?_ ?_
                      · refine lstep_run fun fr wf left => ?_
                        obtain ⟨x9, e9, r9⟩ := left.slot 124 rfl 9 119 _ rfl rfl (by decide) rfl
                        have s9 := Eq.symm (show x9 = .int .u32 (C : Int) from r9)
                        subst s9
                        obtain ⟨x14, e14, r14⟩ := left.slot 124 rfl 14 123 _ rfl rfl (by decide) rfl
                        have s14 := Eq.symm (show x14 = .pointer (some ⟨T.g, 3, none⟩) from r14)
                        subst s14
                        refine ⟨wanted_none rfl, fun K hK => ?_⟩
                        have hB := hide left.base
                        have r12q := left.new 12 _ rfl (by decide)
                        clear left
                        have h12 : Say12 T D.g s (fin + P.size) wr wf := r12q
                        obtain ⟨v12, h12r, h12c⟩ := id h12
                        have hc : wf.cell? ⟨T.g, 3, none⟩ = some (.int .u32 (s.chain : Int)) := (cell_blk h12c 3).trans rfl
                        have hf := frozen_blk h12c 3
                        go_simp
                        exact hK undef _ (Say15.of h12 HAPT.out.1 HAPT.out.2) (hB.out.setCell (a := ⟨T.g, 3, none⟩) (.inl rfl) _) (setF_at rfl trivial)
                      exact trivial
                    · intro fr wf hB hs hd hall hkeep
                      have h15 : Say15 T D.g s (fin + P.size) C wr wf := hall 15 _ rfl (by simp)
                      have hfr := act_ext (frame_setL hs hkeep [110, 111, 112, 113, 114, 115, 116, 117, 118, 119, 120, 121, 122, 123] (by kernel_rfl)) hd
                      clear hall hkeep hs hd
                      dsimp only [List.foldl, List.set_cons_zero, List.set_cons_succ] at hfr
                      generalize fr.tmps.getD 110 undef = q110 at hfr
                      generalize fr.tmps.getD 111 undef = q111 at hfr
                      generalize fr.tmps.getD 112 undef = q112 at hfr
                      generalize fr.tmps.getD 113 undef = q113 at hfr
                      generalize fr.tmps.getD 114 undef = q114 at hfr
                      generalize fr.tmps.getD 115 undef = q115 at hfr
                      generalize fr.tmps.getD 116 undef = q116 at hfr
                      generalize fr.tmps.getD 117 undef = q117 at hfr
                      generalize fr.tmps.getD 118 undef = q118 at hfr
                      generalize fr.tmps.getD 119 undef = q119 at hfr
                      generalize fr.tmps.getD 120 undef = q120 at hfr
                      generalize fr.tmps.getD 121 undef = q121 at hfr
                      generalize fr.tmps.getD 122 undef = q122 at hfr
                      generalize fr.tmps.getD 123 undef = q123 at hfr
                      subst hfr
                      have H15 := hide (And.intro hB h15)
                      clear hB h15
                      go_wp2_with fail
                      go_ret
                      rw [Fl.add_ok HCK.out.symm (by rw [← HAA.out]; exact HFI2.out)]
                      have eE : Fl.fin' s item = fin + P.size := by unfold Fl.fin'; rw [← HFI.out, ← HP.out]
                      have eC : Fl.chain' s item made = C := by unfold Fl.chain'; rw [HC.out, HCH.out, HP.out, HREC.out.1, HQ.out, HN.out]
                      rw [eE, eC]
                      have hk1 := K1.out
                      have hps := HPS.out
                      exact ⟨rfl, Fl.added_more HT.out HD.out HAP.out HWA.out.1 HL.out.2.1 HL.out.1 H15.out.1 H15.out.2 (by rw [← HN.out]; exact hk1.2.1) (by rw [HFI.out]; omega) (by rw [← HFI.out]; omega) hCl⟩
  · have HAD := hide (show Fl.addA s d item made = (ck, s, d) by unfold Fl.addA; rw [← HCK.out, if_pos h0])
    have hne : (ck != 0) = true := by simp [h0]
    have hb0 : Below w.heap.size w (w.alloc (.cells #[.pointer (some ⟨T.g, 0, none⟩)] 28)) := (Below.refl w.heap.size w).alloc (Nat.le_refl _) _
    have HB0 := hide hb0
    clear hb0 hpast
    go_wp2_with fail
    go_ret
    rw [HAD.out]
    exact ⟨rfl, T, D, rfl, rfl, rfl, .inl rfl, .inl rfl, HT.out.past HB0.out, HD.out.past HB0.out, HAP.out, Moved.of_below HB0.out⟩
end Go.Proofs.YtbfbajfdlkgloaaGreatDoor
