/-
  massiflaw17.DiskFates answers true: the walk.
-/
import Derived.Test.YtiiblpgiafbaoaaLawOpsW
import Derived.BigQuiet
import Derived.Deep.QuietTactic
import Derived.Deep.CutBlock
namespace Go.Proofs.Ytiiblpgiafbaoaa
open Go Go.RowKit Go.Maps
theorem range_blk {w : World} {b : Nat} {C : Array Value} {T : Nat} {f : Nat × Nat} (h : w.heap[b]? = some (.cells C T f)) (cs : List Value) (hc : cs = C.toList) : w.rangeAt b 0 cs := by
  intro j v hv
  rw [Nat.zero_add, cell_blk h, ← hv, hc]
  simp
theorem SlF.keepD {w w' : World} {v : Value} {l : List (ByteArray × ByteArray)} {D : Dk.Blk} {s : Dk.St} (h : SlF w v l) (hd : DiskAt w D s) (hm : Moved (Dk.own D) w w') : SlF w' v l := by
  rcases h with h | ⟨b, off, cap, hv, hc, hlt, hx⟩
  · exact .inl h
  · refine .inr ⟨b, off, cap, hv, hc, Nat.lt_of_lt_of_le hlt hm.size, fun j hj => ?_⟩
    have hn : ¬ Dk.own D b := by
      have h0 := (hx j hj).1
      rintro (e | e)
      · rw [e, hd.cell] at h0
        unfold Dk.cells at h0
        have hj8 : off + j * 2 < 8 := by
          have := (Array.getElem?_eq_some_iff.1 h0).1
          simpa using this
        have hcase : off + j * 2 = 0 ∨ off + j * 2 = 1 ∨ off + j * 2 = 2 ∨ off + j * 2 = 3 ∨ off + j * 2 = 4 ∨ off + j * 2 = 5 ∨ off + j * 2 = 6 ∨ off + j * 2 = 7 := by omega
        rcases hcase with e | e | e | e | e | e | e | e <;> rw [e] at h0 <;> simp at h0
        rcases hd.keep with ⟨_, a, c, hk, _⟩ | ⟨b', o', c', hk, _⟩ <;> rw [hk] at h0 <;> cases h0
      · obtain ⟨es, clock, hb, _⟩ := hd.map
        rw [e] at h0
        simp [World.cell?, hb] at h0
    exact ⟨(hm.cell (a := ⟨b, off + j * 2, none⟩) hlt hn).trans (hx j hj).1, (hm.cell (a := ⟨b, off + (j * 2 + 1), none⟩) hlt hn).trans (hx j hj).2⟩
def theErrs : Array Value := #[.int .i64 0, .int .i64 171, .int .i64 172, .int .i64 171]
-- DEFS fats
def fatsL (Dn Db : Dk.Blk) (rr : Int) (fa : Option Addr) (flen fcap bf kn : Nat) (LF LK : List (ByteArray × ByteArray)) : List Sp :=
  [.is (.int .i64 rr), .rel (fun v u => ∃ B, v = .slice (some ⟨B, 0, none⟩) 4 4 ∧ u.heap[B]? = some (.cells theErrs 3 (0, 0))) (fun _ _ _ h hb => by obtain ⟨B, h1, h2⟩ := h; exact ⟨B, h1, blk_stable _ _ h2 hb⟩), .is (.pointer (some ⟨bf, 1, none⟩)), .is (.int .i64 (kn : Int)), .rel (fun v u => ∃ B, v = .pointer (some ⟨B, kn, none⟩) ∧ u.heap[B]? = some (.cells theErrs 3 (0, 0))) (fun _ _ _ h hb => by obtain ⟨B, h1, h2⟩ := h; exact ⟨B, h1, blk_stable _ _ h2 hb⟩), .is (.int .i64 rr), .is (.bool false), .is (.bool false), .is (.pointer (some ⟨Dn.g, 0, none⟩)), .is (.bool false), .is (.bool false), .is (.bool false), .is (.pointer (some ⟨Dn.g, 0, none⟩)), .rel (fun v u => SlF u v LF) (fun _ _ _ h hb => h.below hb), .is (.pointer (some ⟨Db.g, 0, none⟩)), .rel (fun v u => SlF u v LF) (fun _ _ _ h hb => h.below hb), .is (.bool true), .is (.bool false), .is (.bool false), .is (.bool false), .is (.pointer (some ⟨Dn.g, 0, none⟩)), .is (.pointer (some ⟨bf, 2, none⟩)), .is (.slice fa flen fcap), .rel (fun v u => SlF u v LK) (fun _ _ _ h hb => h.below hb), .is (.pointer (some ⟨Db.g, 0, none⟩)), .is (.pointer (some ⟨bf, 2, none⟩)), .is (.slice fa flen fcap), .rel (fun v u => SlF u v LK) (fun _ _ _ h hb => h.below hb), .is (.bool true), .is (.bool false), .is (.bool false)]
def fatsU : List (List Nat) := [[], [], [], [2], [1, 3], [4], [0, 5], [6], [7], [7, 8], [7, 9], [10], [11], [11, 12], [11], [11, 14], [11, 13, 15], [11, 16], [11, 17], [18], [19], [19], [19, 21], [19, 20, 22], [19], [19], [19, 25], [19, 24, 26], [19, 23, 27], [19, 28], [19, 29]]
-- END fats
-- DEFS fatd
def fatdL (Dn Db : Dk.Blk) (LS : List (ByteArray × ByteArray)) (kind which n : Int) (name data : ByteArray) (sa ka : Option Addr) (sl sc klen kcap bf b8 i y : Nat) : List Sp :=
  [.is (.int .i64 170), .is (.bool true), .is (.bool true), .is (.pointer (some ⟨Dn.g, 0, none⟩)), .is (.bool true), .is (.bool true), .is (.bool true), .is (.pointer (some ⟨Dn.g, 0, none⟩)), .rel (fun v u => SlF u v LS) (fun _ _ _ h hb => h.below hb), .is (.slice sa sl sc), .is (.bool true), .is (.bool true), .is (.bool true), .is (.pointer (some ⟨Dn.g, 0, none⟩)), .rel (fun v u => SlF u v LS) (fun _ _ _ h hb => h.below hb), .is (.slice sa sl sc), .is (.bool true), .is (.bool true), .is (.bool true), .is (.int .i64 170), .is (.bool true), .is (.bool true), .is (.bool true), .is (.pointer (some ⟨Dn.g, 0, none⟩)), .is (.pointer (some ⟨b8, 2, none⟩)), .is (.string name), .is (.int .i64 0), .is (.bool true), .is (.bool true), .is (.bool true), .is (.pointer (some ⟨Dn.g, 0, none⟩)), .is (.agg #[.int .i64 kind, .int .i64 which, .string name, .string data, .int .i64 (y : Int), .int .i64 n, .slice ka klen kcap]), .is (.int .i64 170), .is (.bool true), .is (.bool true), .is (.bool true), .is (.pointer (some ⟨Dn.g, 0, none⟩)), .is (.int .i64 ((i + 1 : Nat) : Int)), .is (.pointer (some ⟨bf, 0, none⟩)), .is (.int .i64 ((i + 1 : Nat) : Int)), .is (.bool true), .is (.bool true), .is (.bool true)]
def fatdU : List (List Nat) := [[], [0], [1], [2], [2, 3], [2, 4], [5], [6], [6, 7], [6], [6, 8, 9], [6, 10], [11], [12], [12, 13], [12], [12, 14, 15], [12, 16], [17], [18], [18, 19], [18, 20], [21], [22], [22], [22, 24], [22, 23, 25], [22, 26], [22, 27], [28], [29], [29], [29, 30, 31], [29, 32], [29, 33], [34], [35], [35, 36], [35], [35, 38], [35, 37, 39], [35, 40], [41]]
-- END fatd
set_option maxHeartbeats 16000000 in
set_option maxRecDepth 100000 in
theorem fates_any (v1 : Value) (ops : List Dk.OpV) (at0 kind0 : Int) (kv0 : Value) (keep0 : List Bool) (w : World) (h1 : OpsAt w v1 ops) (hl1 : ops.length ≤ 140737488351232) (ha0 : (Lit.int .i64 at0).wf = true) (hk0 : (Lit.int .i64 kind0).wf = true) (hkv : SlV w kv0 (keep0.map Value.bool)) (hkl : keep0.length ≤ 140737488351232) :
    Calls Try.prog 7 #[v1, .agg #[.int .i64 at0, .int .i64 kind0, kv0]] w fun e w' => e = .returned (.bool true) ∧ Below w.heap.size w w' := by
  obtain ⟨len1, a1, cap1, e1, rfl, hc1, HC1⟩ := h1.form
  have H1 := hide HC1
  have HOK := hide h1.ok
  have HN := hide e1
  have hn1 : len1 ≤ 140737488351232 := by omega
  have HKV0 := hide hkv
  have HKL0 := hide hkl
  obtain ⟨flen, fa, fcap, e2, rfl, e3, e4⟩ := hkv.form
  clear h1 HC1 e1 hl1 hkv hkl e2 e3 e4
  obtain ⟨bf, hbf⟩ : ∃ x, x = w.heap.size := ⟨_, rfl⟩
  obtain ⟨W0, hW0⟩ : ∃ V, V = w.alloc (.cells #[.int .i64 at0, .int .i64 kind0, .slice fa flen fcap] 59) := ⟨_, rfl⟩
  have hb0 : Below w.heap.size w W0 := by rw [hW0]; exact (Below.refl _ _).alloc (Nat.le_refl _) _
  have hk0' : W0.heap[bf]? = some (.cells #[.int .i64 at0, .int .i64 kind0, .slice fa flen fcap] 59 (0, 0)) := by rw [hW0, hbf]; exact alloc_at _ _
  have HB0 := hide (And.intro hb0 hk0')
  have HBF := hide (show bf = w.heap.size from hbf)
  clear hb0 hk0'
  go_enter Try.func7, Try.ntmps7
  go_upto_region 1 with (fail)
  rw [← hW0, ← hbf]
  clear hW0 hbf
  go_wp2_with fail
  refine (alive_any _).mono ?_
  rintro e w1 ⟨rfl, hb1⟩
  have H1F := hide (show w1.heap[bf]? = some (.cells #[.int .i64 at0, .int .i64 kind0, .slice fa flen fcap] 59 (0, 0)) from (hb1.block bf (heap_lt HB0.out.2)).trans HB0.out.2)
  have HB1 := hide (HB0.out.1.trans (hb1.mono HB0.out.1.size))
  clear hb1
  have f0 : w1.cell? ⟨bf, 0, none⟩ = some (.int .i64 at0) := (cell_blk H1F.out 0).trans rfl
  have f1 : w1.cell? ⟨bf, 1, none⟩ = some (.int .i64 kind0) := (cell_blk H1F.out 1).trans rfl
  have g0 := frozen_blk H1F.out 0
  obtain ⟨z0, hz0, hz0b⟩ : ∃ z : Nat, z ≤ 30 ∧ Dk.bent at0 30 = z := by
    have := Dk.bent_range (n := at0) (m := 30) (by decide)
    exact ⟨(Dk.bent at0 30).toNat, by omega, by omega⟩
  obtain ⟨z1, hz1, hz1b⟩ : ∃ z : Nat, z ≤ 4 ∧ Dk.bent kind0 4 = z := by
    have := Dk.bent_range (n := kind0) (m := 4) (by decide)
    exact ⟨(Dk.bent kind0 4).toNat, by omega, by omega⟩
  have HZ := hide (And.intro hz0b hz1b)
  clear hz0b hz1b
  go_wp2_with fail
  refine (bent_val at0 30 (z0 : Int) w1 ha0 (by decide) HZ.out.1).mono ?_
  rintro e wx ⟨rfl, he⟩
  subst he
  go_upto_region 4 with (fail)
  obtain ⟨at_, hat⟩ : ∃ a : Int, a = 1 + (z0 : Int) := ⟨_, rfl⟩
  obtain ⟨k, hk⟩ : ∃ a : Int, a = 1 + (z1 : Int) := ⟨_, rfl⟩
  have hat1 : 1 ≤ at_ ∧ at_ ≤ 31 := by omega
  have hk1 : 1 ≤ k ∧ k ≤ 5 := by omega
  obtain ⟨W2, hW2⟩ : ∃ V, V = wx.setCell ⟨bf, 0, none⟩ (.int .i64 (1 + (z0 : Int))) := ⟨_, rfl⟩
  rw [← hW2]
  have h2f : W2.heap[bf]? = some (.cells #[.int .i64 at_, .int .i64 kind0, .slice fa flen fcap] 59 (0, 0)) := by
    rw [hW2, heap_setCell_same _ _ _ _ _ _ H1F.out, hat]; rfl
  have hb2 : Below w.heap.size w W2 := by rw [hW2]; exact HB1.out.setCell (by rw [HBF.out]; exact Nat.le_refl _) _
  have H2F := hide (And.intro h2f hb2)
  replace f1 : W2.cell? ⟨bf, 1, none⟩ = some (.int .i64 kind0) := (cell_blk h2f 1).trans rfl
  have g1 := frozen_blk h2f 1
  clear hW2 h2f hb2 f0 g0 hat
  go_wp2_with fail
  refine (bent_val kind0 4 (z1 : Int) W2 hk0 (by decide) HZ.out.2).mono ?_
  rintro e wx ⟨rfl, he⟩
  subst he
  go_upto_region 5 with (fail)
  obtain ⟨W3, hW3⟩ : ∃ V, V = wx.setCell ⟨bf, 1, none⟩ (.int .i64 (1 + (z1 : Int))) := ⟨_, rfl⟩
  rw [← hW3]
  have H3 := hide (show W3.heap[bf]? = some (.cells #[.int .i64 at_, .int .i64 k, .slice fa flen fcap] 59 (0, 0)) ∧ Below w.heap.size w W3 from ⟨by
    rw [hW3, heap_setCell_same _ _ _ _ _ _ H2F.out.1, hk]; rfl, by rw [hW3]; exact H2F.out.2.setCell (by rw [HBF.out]; exact Nat.le_refl _) _⟩)
  have HK := hide hk1
  have HAT := hide hat1
  clear hW3 f1 g1 hk hz0 hz1 hat1 hk1 ha0 hk0
  go_wp2_with fail
  refine (diskNew_any 1048576 W3 (by decide)).mono ?_
  rintro e w4 ⟨Da0, rfl, hDa, hga, hma, hkva, hba⟩
  have HA := hide (And.intro hDa (And.intro hga (And.intro hma (And.intro hkva hba))))
  clear hDa hga hma hkva hba
  go_wp2_with fail
  refine (diskNew_any 1048576 w4 (by decide)).mono ?_
  rintro e w5 ⟨Db, rfl, hDb, hgb, hmb, hkvb, hbb⟩
  have HBB := hide (And.intro hDb (And.intro hgb (And.intro hmb (And.intro hkvb hbb))))
  have HDa := hide (HA.out.1.past hbb)
  have HW5 := hide (show Below w.heap.size w w5 from H3.out.2.trans ((HA.out.2.2.2.2.trans (hbb.mono HA.out.2.2.2.2.size)).mono H3.out.2.size))
  have h5f : w5.heap[bf]? = some (.cells #[.int .i64 at_, .int .i64 k, .slice fa flen fcap] 59 (0, 0)) := by
    have h4 := (HA.out.2.2.2.2.block bf (heap_lt H3.out.1)).trans H3.out.1
    exact (hbb.block bf (heap_lt h4)).trans h4
  have H5F := hide h5f
  have HRF := hide (range_blk h5f [.int .i64 at_, .int .i64 k, .slice fa flen fcap] rfl)
  have HLT := hide (show bf < W3.heap.size ∧ Da0.g < w4.heap.size ∧ Da0.mb < w4.heap.size ∧ w4.heap.size ≤ w5.heap.size ∧ Db.g < w5.heap.size ∧ Db.mb < w5.heap.size ∧ W3.heap.size ≤ w4.heap.size from ⟨heap_lt H3.out.1, HA.out.1.glt, HA.out.1.map.lt, hbb.size, hDb.glt, hDb.map.lt, HA.out.2.2.2.2.size⟩)
  clear hDb hgb hmb hkvb hbb h5f
  go_wp2_with (refine wpList_load_mid rfl 59 (.tmp 3) rfl bf 0 rfl _ _ HRF.out Try.underlying59 rfl (by kernel_rfl) ?_)
  refine (diskLay_any Da0 (Dk.newSt 1048576) at_ k (.slice fa flen fcap) keep0 w5 HDa.out (by have := HAT.out; exact Dk.wf_i64 (by omega) (by omega)) (HKV0.out.below HW5.out) HKL0.out (fun e => by have := HKV0.out.blk_lt e; have := HA.out.2.1; have := H3.out.2.size; omega)).mono ?_
  rintro e w6 ⟨rfl, Da, hDg, hDm, hDk, hD6, hM6⟩
  rw [Dk.lay_fa at_ k keep0 HAT.out.1 HK.out] at hD6
  have HEQ := hide (show Da.g = Da0.g ∧ Da.mb = Da0.mb ∧ (Da.kv = .slice none 0 0 ∨ ∀ k, Dk.slBlk Da.kv = some k → w5.heap.size ≤ k) from ⟨hDg, hDm, by rw [← HA.out.2.2.2.1]; exact hDk⟩)
  have hfar : ∀ j, Dk.slBlk Da.kv = some j → w5.heap.size ≤ j := fun j hj => by
    rcases HEQ.out.2.2 with h | h
    · rw [h] at hj; cases hj
    · exact h j hj
  have HAW := hide (show Dk.Away Da (Dk.own Db) from by
    have h1 := HLT.out; have h2 := HBB.out.2.1; have h3 := HBB.out.2.2.1
    refine ⟨fun h => ?_, fun h => ?_, fun j hj h => ?_⟩
    · rw [hDg] at h; rcases h with h | h <;> omega
    · rw [hDm] at h; rcases h with h | h <;> omega
    · have := hfar j hj; rcases h with h | h <;> omega)
  have HBW := hide (show Dk.Away Db (Dk.own Da) from by
    have h1 := HLT.out; have h2 := HBB.out.2.1; have h3 := HBB.out.2.2.1
    refine ⟨fun h => ?_, fun h => ?_, fun j hj => by rw [HBB.out.2.2.2.1] at hj; cases hj⟩
    · rcases h with h | h
      · rw [hDg] at h; omega
      · rw [hDm] at h; omega
    · rcases h with h | h
      · rw [hDg] at h; omega
      · rw [hDm] at h; omega)
  have HG := hide (show (w.heap.size ≤ Da.g ∧ w.heap.size ≤ Da.mb ∧ w.heap.size ≤ Db.g ∧ w.heap.size ≤ Db.mb) ∧ (bf < Da.g ∧ bf < Da.mb ∧ bf < Db.g ∧ bf < Db.mb ∧ w.heap.size ≤ bf) from by
    have h1 := HLT.out; have h2 := HBB.out.2.1; have h3 := HBB.out.2.2.1; have h4 := HA.out.2.1; have h5 := HA.out.2.2.1; have h6 := H3.out.2.size; have h7 := HBF.out
    rw [hDg, hDm]; omega)
  have HS := hide (show DiskAt w6 Da (Dk.faA [] 0 at_ k keep0) ∧ DiskAt w6 Db (Dk.bSt [] 0) ∧ w6.heap[bf]? = some (.cells #[.int .i64 at_, .int .i64 k, .slice fa flen fcap] 59 (0, 0)) ∧ Below w.heap.size w w6 from by
    have h1 := HLT.out; have h2 := HBB.out.2.1; have h3 := HBB.out.2.2.1; have h4 := HA.out.2.1
    refine ⟨hD6, ?_, (hM6.block bf (heap_lt H5F.out) (fun e => by have e : bf = Da0.g := e; omega)).trans H5F.out, HW5.out.trans (hM6.below HW5.out.size (fun j hj => by have hj : j = Da0.g := hj; have := H3.out.2.size; omega))⟩
    have hb0 : DiskAt w5 Db (Dk.bSt [] 0) := HBB.out.1
    exact hb0.stay hM6 ⟨fun e => by have e : Db.g = Da0.g := e; omega, fun e => by have e : Db.mb = Da0.g := e; omega, fun j hj => by rw [HBB.out.2.2.2.1] at hj; cases hj⟩)
  clear hDg hDm hDk hD6 hM6 hfar
  rw [← HEQ.out.1]
  go_wp2_with fail
  go_loopg [7] 60 (fun g v7 wr => ∃ (i j : Nat) (fs : Dk.Fs), i ≤ 60 ∧ g = 60 - i ∧ v7 = .int .i64 i ∧ Hid (Dk.Fit fs i ∧ j ≤ i ∧ DiskAt wr Da (Dk.faA fs i at_ k keep0) ∧ DiskAt wr Db (Dk.bSt fs j) ∧ wr.heap[bf]? = some (.cells #[.int .i64 at_, .int .i64 k, .slice fa flen fcap] 59 (0, 0)) ∧ Below w.heap.size w wr))
  case atStart => exact ⟨0, 0, [], by omega, rfl, rfl, Dk.fit_start, Nat.le_refl _, HS.out⟩
  case round =>
    obtain ⟨i, j, fs, hi60, rfl, rfl, HR⟩ := hrel
    by_cases hil : i < len1
    · by_cases hi : i < 60
      · obtain ⟨o, ho⟩ : ∃ o, ops[i]? = some o := ⟨_, List.getElem?_eq_getElem (by rw [← HN.out]; exact hil)⟩
        obtain ⟨b, off, kv, rfl, hbw, hrange, hkv⟩ := H1.out i o ho
        have hok := HOK.out o (List.mem_of_getElem? ho)
        have hbel := HR.out.2.2.2.2.2
        have HRG := hide (show wr.rangeAt b (off + i * 7) (Dk.opCells o kv) from fun j v hv => by rw [hbel.cell (p := ⟨b, off + i * 7 + j, none⟩) hbw]; exact hrange j v hv)
        have HO := hide hok
        obtain ⟨klen, ka, kcap, hk1, rfl, hk2, hk3⟩ := hkv.form
        clear hk1 hk2 hk3
        clear ho hbw hrange hkv hok hbel
        obtain ⟨kind, which, name, data, at0', n, keep⟩ := o
        unfold Dk.opCells at HRG
        go_upto_region 12 with (refine wpList_load_mid rfl 30 (.tmp 46) rfl b (off + i * 7) rfl _ _ HRG.out Try.underlying30 rfl (by kernel_rfl) ?_)
        obtain ⟨b8, hb8⟩ : ∃ x, x = wr.heap.size := ⟨_, rfl⟩
        rw [← hb8]
        obtain ⟨W8, hW8⟩ : ∃ V, V = wr.alloc (.cells #[.int .i64 kind, .int .i64 which, .string name, .string data, .int .i64 at0', .int .i64 n, .slice ka klen kcap] 30) := ⟨_, rfl⟩
        rw [← hW8]
        have hb : Below wr.heap.size wr W8 := by rw [hW8]; exact (Below.refl _ _).alloc (Nat.le_refl _) _
        have H8 := hide (show W8.heap[b8]? = some (.cells #[.int .i64 kind, .int .i64 which, .string name, .string data, .int .i64 at0', .int .i64 n, .slice ka klen kcap] 30 (0, 0)) by rw [hW8, hb8]; exact alloc_at _ _)
        have HD8 := hide (show DiskAt W8 Da (Dk.faA fs i at_ k keep0) ∧ DiskAt W8 Db (Dk.bSt fs j) ∧ W8.heap[bf]? = some (.cells #[.int .i64 at_, .int .i64 k, .slice fa flen fcap] 59 (0, 0)) ∧ Below w.heap.size w W8 from ⟨HR.out.2.2.1.past hb, HR.out.2.2.2.1.past hb, (hb.block bf (heap_lt HR.out.2.2.2.2.1)).trans HR.out.2.2.2.2.1, HR.out.2.2.2.2.2.trans (hb.mono HR.out.2.2.2.2.2.size)⟩)
        have H88 := hide (show Da.g < b8 ∧ Da.mb < b8 ∧ Db.g < b8 ∧ Db.mb < b8 ∧ w.heap.size ≤ b8 ∧ bf < b8 ∧ (∀ j, Dk.slBlk Da.kv = some j → j < b8) ∧ (∀ j, Dk.slBlk Db.kv = some j → j < b8) from by
          rw [hb8]
          exact ⟨HR.out.2.2.1.glt, HR.out.2.2.1.map.lt, HR.out.2.2.2.1.glt, HR.out.2.2.2.1.map.lt, HR.out.2.2.2.2.2.size, heap_lt HR.out.2.2.2.2.1, fun j hj => HR.out.2.2.1.keep.blk_lt hj, fun j hj => HR.out.2.2.2.1.keep.blk_lt hj⟩)
        have c2 : W8.cell? ⟨b8, 2, none⟩ = some (.string name) := (cell_blk H8.out 2).trans rfl
        have c4 : W8.cell? ⟨b8, 4, none⟩ = some (.int .i64 at0') := (cell_blk H8.out 4).trans rfl
        have g4 := frozen_blk H8.out 4
        clear hb hW8 hb8
        obtain ⟨z, hz⟩ : ∃ z : Nat, z = (Dk.get fs name).now.size := ⟨_, rfl⟩
        have HSZ := hide (show Dk.size (Dk.bSt fs j) name = (z : Int) by rw [hz]; rfl)
        have HZS := hide hz
        have hz18 : z ≤ 18000 := by rw [hz]; have h1 := Dk.get_le_used HR.out.1.up name; have h2 := HR.out.1.used; omega
        obtain ⟨y, hy2, hy⟩ : ∃ y : Nat, y ≤ z ∧ Dk.bent at0' (z : Int) = y := by
          have := Dk.bent_range (n := at0') (m := (z : Int)) (by omega)
          exact ⟨(Dk.bent at0' z).toNat, by omega, by omega⟩
        have HY := hide hy
        clear hz hy
        go_wp2_with fail
        refine (size_val Db _ name (z : Int) W8 HD8.out.2.1 HO.out.name HSZ.out).mono ?_
        rintro e wx ⟨rfl, he⟩
        subst he
        go_wp2_with fail
        refine (bent_val at0' (z : Int) (y : Int) wx HO.out.at_ (by omega) HY.out).mono ?_
        rintro e wx' ⟨rfl, he⟩
        subst he
        go_upto_region 14 with (fail)
        obtain ⟨W9, hW9⟩ : ∃ V, V = wx'.setCell ⟨b8, 4, none⟩ (.int .i64 (y : Int)) := ⟨_, rfl⟩
        rw [← hW9]
        have hm9 : Moved (fun k => k = b8) wx' W9 := by rw [hW9]; exact Moved.setCell (S := fun k => k = b8) (Moved.refl _ _) (a := ⟨b8, 4, none⟩) rfl _
        have h98 := H88.out
        have H9 := hide (show W9.heap[b8]? = some (.cells #[.int .i64 kind, .int .i64 which, .string name, .string data, .int .i64 (y : Int), .int .i64 n, .slice ka klen kcap] 30 (0, 0)) by rw [hW9]; exact (heap_setCell_same _ _ _ _ _ _ H8.out).trans rfl)
        have HD9 := hide (show DiskAt W9 Da (Dk.faA fs i at_ k keep0) ∧ DiskAt W9 Db (Dk.bSt fs j) ∧ W9.heap[bf]? = some (.cells #[.int .i64 at_, .int .i64 k, .slice fa flen fcap] 59 (0, 0)) ∧ Below w.heap.size w W9 from
          ⟨HD8.out.1.stay hm9 ⟨fun e => by have e : Da.g = b8 := e; omega, fun e => by have e : Da.mb = b8 := e; omega, fun j hj e => by have e : j = b8 := e; have := h98.2.2.2.2.2.2.1 j hj; omega⟩,
            HD8.out.2.1.stay hm9 ⟨fun e => by have e : Db.g = b8 := e; omega, fun e => by have e : Db.mb = b8 := e; omega, fun j hj e => by have e : j = b8 := e; have := h98.2.2.2.2.2.2.2 j hj; omega⟩,
            (hm9.block bf (heap_lt HD8.out.2.2.1) (fun e => by have e : bf = b8 := e; omega)).trans HD8.out.2.2.1,
            HD8.out.2.2.2.trans (hm9.below HD8.out.2.2.2.size (fun j hj => by have hj : j = b8 := hj; omega))⟩)
        obtain ⟨ov, hov⟩ : ∃ o : Dk.OpV, o = ⟨kind, which, name, data, (y : Int), n, keep⟩ := ⟨_, rfl⟩
        have HOV := hide hov
        have HOO := hide (show Dk.OpOk ov by rw [hov]; exact ⟨HO.out.kind, HO.out.which, HO.out.name, HO.out.data, Dk.wf_i64 (by show -9223372036854775808 ≤ (y : Int); omega) (by show (y : Int) ≤ _; omega), HO.out.n, HO.out.keep⟩)
        have hon : 0 ≤ ov.at_ ∧ ov.at_ ≤ (Dk.get fs ov.name).now.size := by
          rw [hov]; show 0 ≤ (y : Int) ∧ (y : Int) ≤ (Dk.get fs name).now.size
          rw [← HZS.out]; omega
        have HON := hide hon
        obtain ⟨met, hmet⟩ : ∃ b : Bool, b = decide ((i : Int) + 1 = at_) := ⟨_, rfl⟩
        have HOPA := hide (Dk.opA_met (k := k) (keep := keep0) HR.out.1 hi60 HAT.out.1 ov hon met hmet)
        have HOPB := hide (Dk.opC_b (j := j) HR.out.1 hi60 ov hon)
        have HMET := hide hmet
        clear hW9 hm9 h98 c2 c4 g4 hov hon hmet
        go_wp2_with fail
        refine (acts_val Da _ i W9 HD9.out.1 rfl).mono ?_
        rintro e wz ⟨rfl, he⟩
        subst he
        have fk : wz.cell? ⟨bf, 2, none⟩ = some (.slice fa flen fcap) := (cell_blk HD9.out.2.2.1 2).trans rfl
        obtain ⟨LA, hLA⟩ : ∃ l, l = Dk.after (Dk.faA fs i at_ k keep0) keep0 := ⟨_, rfl⟩
        have HLA := hide hLA
        clear hLA
        go_wp2_with fail
        refine (after_val Da _ _ keep0 LA wz HD9.out.1 (HKV0.out.below HD9.out.2.2.2) HKL0.out HLA.out.symm).mono ?_
        rintro e wA ⟨n5, b5, c5, rfl, hl5, hs5, hb5⟩
        have HWA := hide (show SlF wA (.slice b5 n5 c5) LA ∧ DiskAt wA Da (Dk.faA fs i at_ k keep0) ∧ DiskAt wA Db (Dk.bSt fs j) ∧ wA.heap[bf]? = some (.cells #[.int .i64 at_, .int .i64 k, .slice fa flen fcap] 59 (0, 0)) ∧ wA.heap[b8]? = some (.cells #[.int .i64 kind, .int .i64 which, .string name, .string data, .int .i64 (y : Int), .int .i64 n, .slice ka klen kcap] 30 (0, 0)) ∧ Below w.heap.size w wA ∧ Below wz.heap.size wz wA from
          ⟨hs5, HD9.out.1.past hb5, HD9.out.2.1.past hb5, (hb5.block bf (heap_lt HD9.out.2.2.1)).trans HD9.out.2.2.1, (hb5.block b8 (heap_lt H9.out)).trans H9.out, HD9.out.2.2.2.trans (hb5.mono HD9.out.2.2.2.size), hb5⟩)
        have HRO := hide (range_blk HWA.out.2.2.2.2.1 [.int .i64 kind, .int .i64 which, .string name, .string data, .int .i64 (y : Int), .int .i64 n, .slice ka klen kcap] rfl)
        have hf8 : b8 < wA.heap.size := heap_lt HWA.out.2.2.2.2.1
        clear hs5 hb5 hl5 fk
        go_wp2_with (refine wpList_load_mid rfl 30 (.tmp 8) rfl b8 0 rfl _ _ HRO.out Try.underlying30 rfl (by kernel_rfl) ?_)
        obtain ⟨rr, hrr⟩ : ∃ r, r = Dk.errN met k := ⟨_, rfl⟩
        obtain ⟨sN, hsN⟩ : ∃ s, s = (if met = true ∧ (k = 4 ∨ k = 5) then Dk.fallen (Dk.faA (Dk.filesN met k fs ov) (i + 1) at_ k keep0) else Dk.faA (Dk.filesN met k fs ov) (i + 1) at_ k keep0) := ⟨_, rfl⟩
        have HRR := hide (And.intro hrr hsN)
        have hact := actA_at Da (Dk.faA fs i at_ k keep0) ov (.slice ka klen kcap) rr sN wA HWA.out.2.1 HOO.out (by show i < _; omega) (by show fs.length < _; have := HR.out.1.len; omega) HKL0.out (by rw [HOPA.out, hrr, hsN])
        rw [HOV.out] at hact
        have HACT := hide hact
        clear hact hrr hsN
        refine HACT.out.mono ?_
        rintro e wB ⟨rfl, ht⟩
        have HT := hide ht
        clear ht HACT
        have hmvb := HT.out.moved
        have HWB := hide (show SlF wB (.slice b5 n5 c5) LA ∧ DiskAt wB Db (Dk.bSt fs j) ∧ wB.heap[bf]? = some (.cells #[.int .i64 at_, .int .i64 k, .slice fa flen fcap] 59 (0, 0)) ∧ wB.heap[b8]? = some (.cells #[.int .i64 kind, .int .i64 which, .string name, .string data, .int .i64 (y : Int), .int .i64 n, .slice ka klen kcap] 30 (0, 0)) ∧ Below w.heap.size w wB from by
          have h1 := HG.out; have h2 := H88.out
          exact ⟨HWA.out.1.keepD HWA.out.2.1 hmvb, HWA.out.2.2.1.stay hmvb HBW.out, (hmvb.block bf (heap_lt HWA.out.2.2.2.1) (fun e => by rcases e with e | e <;> omega)).trans HWA.out.2.2.2.1, (hmvb.block b8 (heap_lt HWA.out.2.2.2.2.1) (fun e => by rcases e with e | e <;> omega)).trans HWA.out.2.2.2.2.1, HWA.out.2.2.2.2.2.1.trans (hmvb.below HWA.out.2.2.2.2.2.1.size (fun q hq => by rcases hq with e | e <;> omega))⟩)
        have hmq : (((i : Int) + 1) == at_) = met := by
          rw [HMET.out]
          rw [Bool.eq_iff_iff, beq_iff_eq, decide_eq_true_iff]
        have f0 : wB.cell? ⟨bf, 0, none⟩ = some (.int .i64 at_) := (cell_blk HWB.out.2.2.1 0).trans rfl
        have f1 : wB.cell? ⟨bf, 1, none⟩ = some (.int .i64 k) := (cell_blk HWB.out.2.2.1 1).trans rfl
        clear hmvb
        have hi60' : (i : Int) < 60 := by omega
        go_upto_region 18 with (fail)
        have HRO2 := hide (range_blk HWB.out.2.2.2.1 [.int .i64 kind, .int .i64 which, .string name, .string data, .int .i64 (y : Int), .int .i64 n, .slice ka klen kcap] rfl)
        clear hmq
        cases met with
        | false =>
          have hk0 := Dk.kind_off (fs := fs) (k := k) (keep := keep0) (of_decide_eq_false HMET.out.symm)
          obtain ⟨D', _, _, _, hDD, hda, hmv⟩ := HT.out
          have hDe : D' = Da := hDD (by rw [hk0]; decide)
          rw [hDe] at hda
          have hsn : sN = Dk.faA (Dk.put fs ov.name (Dk.newF fs ov)) (i + 1) at_ k keep0 := by rw [HRR.out.2, if_neg (by simp)]; unfold Dk.filesN; rw [if_neg (by simp)]
          have hrr0 : rr = 0 := by rw [HRR.out.1]; rfl
          rw [hsn] at hda
          have HDA := hide hda
          subst hrr0
          clear hk0 hDD hDe hda hsn hmv
          go_wp2_with (refine wpList_load_mid rfl 30 (.tmp 8) rfl b8 0 rfl _ _ HRO2.out Try.underlying30 rfl (by kernel_rfl) ?_)
          have hactb := act_at Db (Dk.bSt fs j) ov (.slice ka klen kcap) 0 _ wB HWB.out.2.1 HOO.out rfl (by show j < _; have := HR.out.2.1; omega) (by show fs.length < _; have := HR.out.1.len; omega) HOPB.out
          rw [HOV.out] at hactb
          have HACTB := hide hactb
          clear hactb
          refine HACTB.out.mono ?_
          rintro e wC ⟨rfl, hdb, hmvb⟩
          have HWC := hide (show DiskAt wC Da (Dk.faA (Dk.put fs ov.name (Dk.newF fs ov)) (i + 1) at_ k keep0) ∧ DiskAt wC Db (Dk.bSt (Dk.put fs ov.name (Dk.newF fs ov)) (j + 1)) ∧ wC.heap[bf]? = some (.cells #[.int .i64 at_, .int .i64 k, .slice fa flen fcap] 59 (0, 0)) ∧ Below w.heap.size w wC from by
            have h1 := HG.out
            exact ⟨HDA.out.stay hmvb HAW.out, by rw [HOV.out]; exact hdb, (hmvb.block bf (heap_lt HWB.out.2.2.1) (fun e => by rcases e with e | e <;> omega)).trans HWB.out.2.2.1, HWB.out.2.2.2.2.trans (hmvb.below HWB.out.2.2.2.2.size (fun q hq => by rcases hq with e | e <;> omega))⟩)
          clear hdb hmvb f0 f1 HACTB
          obtain ⟨LF, hLF⟩ : ∃ l, l = Dk.files (Dk.bSt (Dk.put fs ov.name (Dk.newF fs ov)) (j + 1)) := ⟨_, rfl⟩
          have HLF := hide hLF
          have HLL := hide (show LF.length ≤ 1099511627776 by rw [hLF]; unfold Dk.files; have h1 := Dk.pick_le (Dk.bSt (Dk.put fs ov.name (Dk.newF fs ov)) (j + 1)).files ((Dk.bSt (Dk.put fs ov.name (Dk.newF fs ov)) (j + 1)).files.map fun p => p.2.now); have h2 := HWC.out.2.1.ok.many; omega)
          clear hLF
          go_wp2_with fail
          refine (files_val Da _ LF wC HWC.out.1 (by rw [HLF.out]; exact Dk.files_same rfl)).mono ?_
          rintro e wD ⟨nD, bD, cD, rfl, hlD, hsD, hbD⟩
          have HWD := hide (And.intro hsD (And.intro (HWC.out.2.1.past hbD) hbD))
          clear hsD hbD hlD
          go_wp2_with fail
          refine (files_val Db _ LF wD HWD.out.2.1 HLF.out.symm).mono ?_
          rintro e wE ⟨nE, bE, cE, rfl, hlE, hsE, hbE⟩
          have HWE := hide (And.intro (HWD.out.1.below hbE) (And.intro hsE (HWD.out.2.2.trans (hbE.mono HWD.out.2.2.size))))
          clear hsE hbE hlE
          go_wp2_with fail
          refine (same_val _ _ LF LF true wE HWE.out.1 HWE.out.2.1 HLL.out HLL.out (decide_eq_true rfl)).mono ?_
          rintro e wF ⟨rfl, hbF⟩
          have HWF := hide (HWE.out.2.2.trans (hbF.mono HWE.out.2.2.size))
          clear hbF
          go_wp2_with fail
          go_roundg (60 - (i + 1))
          case measure => omega
          case rel => exact ⟨i + 1, j + 1, Dk.put fs ov.name (Dk.newF fs ov), by omega, rfl, by go_num, HR.out.1.next ov HON.out, by have := HR.out.2.1; omega, HWC.out.1.past HWF.out, HWC.out.2.1.past HWF.out, (HWF.out.block bf (heap_lt HWC.out.2.2.1)).trans HWC.out.2.2.1, HWC.out.2.2.2.trans (HWF.out.mono HWC.out.2.2.2.size)⟩
        | true =>
          have hme := of_decide_eq_true HMET.out.symm
          have hkk := Dk.kind_on (fs := fs) (k := k) (keep := keep0) hme
          have HKK := hide hkk
          have HME := hide hme
          obtain ⟨Dn, hng, hnk, hnm, hDD, hda, hmv⟩ := HT.out
          have HDN := hide (And.intro hng (And.intro hnk (And.intro hnm hDD)))
          have HDA := hide hda
          have HAN := hide (show Dk.Away Dn (Dk.own Db) from by
            have h1 := HAW.out; have h2 := HWA.out.2.2.1.glt; have h3 := HWA.out.2.2.1.map.lt
            refine ⟨by rw [hng]; exact h1.1, ?_, by rw [hnk]; exact h1.2.2⟩
            rcases hnm with h | h
            · rw [h]; exact h1.2.1
            · intro h4; rcases h4 with h4 | h4 <;> omega)
          clear hkk hme hng hnk hnm hDD hda hmv
          obtain ⟨b35, hb35⟩ : ∃ b : Bool, b = decide (k = 3 ∨ k = 5) := ⟨_, rfl⟩
          have HB35 := hide hb35
          obtain ⟨fsN, hfsN⟩ : ∃ l, l = Dk.filesN true k fs ov := ⟨_, rfl⟩
          have HFN := hide hfsN
          clear hb35 hfsN
          go_cut [82] from 71 to 83 (fun v82 wx => Hid (v82 = .bool b35 ∧ wx = wB))
          case first =>
            have h5 : k = 1 ∨ k = 2 ∨ k = 3 ∨ k = 4 ∨ k = 5 := by have := HK.out; omega
            rcases h5 with rfl | rfl | rfl | rfl | rfl
            all_goals
              go_wp2_with fail
              go_meet
              case rel => exact ⟨by rw [HB35.out]; rfl, rfl⟩
          case rest =>
            obtain ⟨rfl, rfl⟩ := hcut.out
            clear hcut
            go_upto_if 82 with (fail)
            go_cut [] from 83 to 86 (fun wx => Hid (∃ jn, jn ≤ i + 1 ∧ DiskAt wx Db (Dk.bSt fsN jn) ∧ Moved (Dk.own Db) wc wx))
            case first =>
              cases b35 with
              | false =>
                have hfe : fsN = fs := by
                  rw [HFN.out]; unfold Dk.filesN
                  rw [if_pos]
                  have h1 := of_decide_eq_false HB35.out.symm
                  have h2 := HK.out
                  exact ⟨rfl, by omega⟩
                have HFE := hide hfe
                clear hfe
                go_wp2_with fail
                go_meet
                case rel => exact ⟨j, by have := HR.out.2.1; omega, by rw [HFE.out]; exact HWB.out.2.1, Moved.refl _ _⟩
              | true =>
                have hfe : fsN = Dk.put fs ov.name (Dk.newF fs ov) := by
                  rw [HFN.out]; unfold Dk.filesN
                  rw [if_neg]
                  have h1 := of_decide_eq_true HB35.out.symm
                  rintro ⟨_, h2⟩
                  omega
                have HFE := hide hfe
                clear hfe
                go_wp2_with (refine wpList_load_mid rfl 30 (.tmp 8) rfl b8 0 rfl _ _ HRO2.out Try.underlying30 rfl (by kernel_rfl) ?_)
                have hactb := act_at Db (Dk.bSt fs j) ov (.slice ka klen kcap) 0 _ wc HWB.out.2.1 HOO.out rfl (by show j < _; have := HR.out.2.1; omega) (by show fs.length < _; have := HR.out.1.len; omega) HOPB.out
                rw [HOV.out] at hactb
                have HACTB := hide hactb
                clear hactb
                refine HACTB.out.mono ?_
                rintro e wC ⟨rfl, hdb, hmvb⟩
                have HWC := hide (And.intro hdb hmvb)
                clear hdb hmvb HACTB
                go_wp2_with fail
                go_meet
                case rel => exact ⟨j + 1, by have := HR.out.2.1; omega, by rw [HFE.out, HOV.out]; exact HWC.out.1, HWC.out.2⟩
            case rest =>
              obtain ⟨jn, hjn, hdb, hmvb⟩ := hcut.out
              rename_i wB
              have HWC := hide (show SlF wc (.slice b5 n5 c5) LA ∧ DiskAt wc Dn sN ∧ DiskAt wc Db (Dk.bSt fsN jn) ∧ wc.heap[bf]? = some (.cells #[.int .i64 at_, .int .i64 k, .slice fa flen fcap] 59 (0, 0)) ∧ wc.heap[b8]? = some (.cells #[.int .i64 kind, .int .i64 which, .string name, .string data, .int .i64 (y : Int), .int .i64 n, .slice ka klen kcap] 30 (0, 0)) ∧ Below w.heap.size w wc from by
                have h1 := HG.out; have h2 := H88.out
                exact ⟨HWB.out.1.keepD HWB.out.2.1 hmvb, HDA.out.stay hmvb HAN.out, hdb, (hmvb.block bf (heap_lt HWB.out.2.2.1) (fun e => by rcases e with e | e <;> omega)).trans HWB.out.2.2.1, (hmvb.block b8 (heap_lt HWB.out.2.2.2.1) (fun e => by rcases e with e | e <;> omega)).trans HWB.out.2.2.2.1, HWB.out.2.2.2.2.trans (hmvb.below HWB.out.2.2.2.2.size (fun q hq => by rcases hq with e | e <;> omega))⟩)
              have g1 : wc.cell? ⟨bf, 1, none⟩ = some (.int .i64 k) := (cell_blk HWC.out.2.2.2.1 1).trans rfl
              have g2 : wc.cell? ⟨bf, 2, none⟩ = some (.slice fa flen fcap) := (cell_blk HWC.out.2.2.2.1 2).trans rfl
              clear hcut hdb hmvb f0 f1
              by_cases hk4 : k ≤ 3
              · have hk4' : ¬ 4 ≤ k := by omega
                have hne : ¬ (k = 4 ∨ k = 5) := by omega
                have hDe : Dn = Da := HDN.out.2.2.2 (by rw [HKK.out]; exact hne)
                subst hDe
                have hsn : sN = Dk.faA fsN (i + 1) at_ k keep0 := by rw [HRR.out.2, if_neg (fun h => hne h.2), HFN.out]
                have HWD := hide (show DiskAt wc Dn (Dk.faA fsN (i + 1) at_ k keep0) from hsn ▸ HWC.out.2.1)
                obtain ⟨kn, hkn⟩ : ∃ kn : Nat, k = (kn : Int) := ⟨k.toNat, by have := HK.out; omega⟩
                have hkn3 : kn ≤ 3 ∧ 1 ≤ kn := by have := HK.out; omega
                have hknc : (kn : Int) < 4 := by omega
                have HKN := hide hkn
                have HTE := hide (show theErrs[kn]? = some (.int .i64 rr) from by
                  rw [HRR.out.1, hkn]
                  have : kn = 1 ∨ kn = 2 ∨ kn = 3 := by omega
                  rcases this with rfl | rfl | rfl <;> rfl)
                have HFT := hide (show Dk.Fit fsN (i + 1) from by
                  rw [HFN.out]; unfold Dk.filesN
                  split
                  · exact HR.out.1.more
                  · exact HR.out.1.next ov HON.out)
                obtain ⟨LF, hLF⟩ : ∃ l, l = Dk.files (Dk.bSt fsN jn) := ⟨_, rfl⟩
                obtain ⟨LK, hLK⟩ : ∃ l, l = Dk.after (Dk.bSt fsN jn) keep0 := ⟨_, rfl⟩
                have HLF := hide (show Dk.files (Dk.faA fsN (i + 1) at_ k keep0) = LF ∧ Dk.files (Dk.bSt fsN jn) = LF ∧ LF.length ≤ 1099511627776 from ⟨by rw [hLF]; exact Dk.files_same rfl, hLF.symm, by
                  rw [hLF]; unfold Dk.files
                  have h1 := Dk.pick_le (Dk.bSt fsN jn).files ((Dk.bSt fsN jn).files.map fun p => p.2.now)
                  have h2 := HWC.out.2.2.1.ok.many; omega⟩)
                have HLK := hide (show Dk.after (Dk.faA fsN (i + 1) at_ k keep0) keep0 = LK ∧ Dk.after (Dk.bSt fsN jn) keep0 = LK ∧ LK.length ≤ 1099511627776 from ⟨by rw [hLK]; exact Dk.after_same rfl rfl rfl _, hLK.symm, by
                  rw [hLK]
                  have h1 := (Dk.after_ok HWC.out.2.2.1.ok keep0).1
                  have h2 := HWC.out.2.2.1.ok.many; omega⟩)
                obtain ⟨sA, hsA⟩ : ∃ s, s = Dk.faA fsN (i + 1) at_ k keep0 := ⟨_, rfl⟩
                obtain ⟨sB, hsB⟩ : ∃ s, s = Dk.bSt fsN jn := ⟨_, rfl⟩
                have HSAB := hide (And.intro hsA hsB)
                have HDD := hide (show DiskAt wc Dn sA ∧ DiskAt wc Db sB ∧ sA.down = false from by rw [hsA, hsB]; exact ⟨HWD.out, HWC.out.2.2.1, rfl⟩)
                rw [← hsA, ← hsB] at HLF HLK
                have HFB := hide (show wc.heap[bf]? = some (.cells #[.int .i64 at_, .int .i64 (kn : Int), .slice fa flen fcap] 59 (0, 0)) from hkn ▸ HWC.out.2.2.2.1)
                have HSLK := hide (show SlV wc (.slice fa flen fcap) (keep0.map Value.bool) from HKV0.out.below HWC.out.2.2.2.2.2)
                clear hne hsn hkn hLF hLK hsA hsB hk4
                go_upto_region 29 with (fail)
                clear g1 g2 hk4'
                go_cut [188] from 158 to 188 (fun v188 wx => Hid (v188 = .bool false ∧ Below wc.heap.size wc wx))
                case first =>
-- REGION fats
                  
                  refine wp_region_local (by kernel_rfl) (by kernel_rfl) (useList fatsU) [30] (by kernel_rfl) (spR (fatsL Dn Db rr fa flen fcap bf kn LF LK)) (fun _ _ => True) (Below wc.heap.size wc) (fun _ w w' => Below w.heap.size w w') spR_stays (fun _ _ _ _ _ h _ => h) (fun _ _ => Below.refl _ _) (dsts_lt (N := 192) (by kernel_rfl)) ((Below.refl _ _).drew) (fun _ _ => trivial) (all_ops ?_) ?_
                  · refine And.intro ?_ ?_
                    · -- 0: slot 158 := Op.move (Operand.tmp 12)
                      refine lstep_run fun fr wf left => ?_
                      have o12 := (left.old 12 (by kernel_rfl)).trans rfl
                      refine ⟨wanted_none rfl, fun K hK => ?_⟩
                      have hB := hide left.base
                      clear left
                      go_simp
                      exact hK _ _ rfl hB.out (Below.refl _ _)
                    refine And.intro ?_ ?_
                    · -- 1: slot 159 := Op.buildSlice 55 4 #[(0, Operand.const (Value.int IntKind.i64 0)), (1, Operand.const (Valu
                      refine lstep_run fun fr wf left => ?_
                      refine ⟨wanted_none rfl, fun K hK => ?_⟩
                      have hB := hide left.base
                      clear left
                      go_simp
                      exact hK _ _ ⟨_, rfl, alloc_at _ _⟩ (hB.out.alloc (le_base hB.out) _) (Below.alloc (Below.refl _ _) (Nat.le_refl _) _)
                    refine And.intro ?_ ?_
                    · -- 2: slot 160 := Op.fieldAddr 59 (Operand.tmp 3) 1
                      refine lstep_run fun fr wf left => ?_
                      have o3 := (left.old 3 (by kernel_rfl)).trans rfl
                      refine ⟨wanted_none rfl, fun K hK => ?_⟩
                      have hB := hide left.base
                      clear left
                      go_simp
                      exact hK _ _ rfl hB.out (Below.refl _ _)
                    refine And.intro ?_ ?_
                    · -- 3: slot 161 := Op.load 3 (Operand.tmp 160)
                      refine lstep_run fun fr wf left => ?_
                      obtain ⟨x2, e2, r2⟩ := left.slot 192 rfl 2 160 _ rfl rfl (by decide) rfl
                      have s2 := Eq.symm (show x2 = .pointer (some ⟨bf, 1, none⟩) from r2)
                      subst s2
                      refine ⟨wanted_none rfl, fun K hK => ?_⟩
                      have hB := hide left.base
                      have hc := (cell_blk ((hB.out.block bf (heap_lt HFB.out)).trans HFB.out) 1).trans rfl
                      clear left
                      go_simp
                      exact hK _ _ rfl hB.out (Below.refl _ _)
                    refine And.intro ?_ ?_
                    · -- 4: slot 162 := Op.indexAddr 55 (Operand.tmp 159) (Operand.tmp 161)
                      refine lstep_run fun fr wf left => ?_
                      obtain ⟨x1, e1, r1⟩ := left.slot 192 rfl 1 159 _ rfl rfl (by decide) rfl
                      replace r1 : (fun v u => ∃ B, v = .slice (some ⟨B, 0, none⟩) 4 4 ∧ u.heap[B]? = some (.cells theErrs 3 (0, 0))) x1 wf := r1
                      obtain ⟨x3, e3, r3⟩ := left.slot 192 rfl 3 161 _ rfl rfl (by decide) rfl
                      have s3 := Eq.symm (show x3 = .int .i64 (kn : Int) from r3)
                      subst s3
                      refine ⟨wanted_none rfl, fun K hK => ?_⟩
                      have hB := hide left.base
                      clear left
                      obtain ⟨BB, hx1, hbb⟩ := r1
                      subst hx1
                      go_simp
                      exact hK _ _ ⟨BB, rfl, hbb⟩ hB.out (Below.refl _ _)
                    refine And.intro ?_ ?_
                    · -- 5: slot 163 := Op.load 3 (Operand.tmp 162)
                      refine lstep_run fun fr wf left => ?_
                      obtain ⟨x4, e4, r4⟩ := left.slot 192 rfl 4 162 _ rfl rfl (by decide) rfl
                      replace r4 : (fun v u => ∃ B, v = .pointer (some ⟨B, kn, none⟩) ∧ u.heap[B]? = some (.cells theErrs 3 (0, 0))) x4 wf := r4
                      refine ⟨wanted_none rfl, fun K hK => ?_⟩
                      have hB := hide left.base
                      clear left
                      obtain ⟨BB, hx4, hbb⟩ := r4
                      subst hx4
                      have hc := (cell_blk hbb kn).trans HTE.out
                      go_simp
                      exact hK _ _ rfl hB.out (Below.refl _ _)
                    refine And.intro ?_ ?_
                    · -- 6: slot 164 := Op.binOp BinOp.neq 3 (Operand.tmp 158) (Operand.tmp 163) 3
                      refine lstep_run fun fr wf left => ?_
                      obtain ⟨x0, e0, r0⟩ := left.slot 192 rfl 0 158 _ rfl rfl (by decide) rfl
                      have s0 := Eq.symm (show x0 = .int .i64 rr from r0)
                      subst s0
                      obtain ⟨x5, e5, r5⟩ := left.slot 192 rfl 5 163 _ rfl rfl (by decide) rfl
                      have s5 := Eq.symm (show x5 = .int .i64 rr from r5)
                      subst s5
                      refine ⟨wanted_none rfl, fun K hK => ?_⟩
                      have hB := hide left.base
                      clear left
                      go_simp
                      exact hK _ _ rfl hB.out (Below.refl _ _)
                    refine And.intro ?_ ?_
                    · -- 7: slot 165 := Op.move (Operand.tmp 164)
                      refine lstep_run fun fr wf left => ?_
                      obtain ⟨x6, e6, r6⟩ := left.slot 192 rfl 6 164 _ rfl rfl (by decide) rfl
                      have s6 := Eq.symm (show x6 = .bool false from r6)
                      subst s6
                      refine ⟨wanted_none rfl, fun K hK => ?_⟩
                      have hB := hide left.base
                      clear left
                      go_simp
                      exact hK _ _ rfl hB.out (Below.refl _ _)
                    refine And.intro ?_ ?_
                    · -- 8: slot 166 := Op.move (Operand.tmp 5)
                      refine lstep_run fun fr wf left => ?_
                      obtain ⟨x7, e7, r7⟩ := left.slot 192 rfl 7 165 _ rfl rfl (by decide) rfl
                      have s7 := Eq.symm (show x7 = .bool false from r7)
                      subst s7
                      have o5 := (left.old 5 (by kernel_rfl)).trans rfl
                      refine ⟨wanted_yes rfl rfl e7, fun K hK => ?_⟩
                      have hB := hide left.base
                      clear left
                      go_simp
                      exact hK _ _ rfl hB.out (Below.refl _ _)
                    refine And.intro ?_ ?_
                    · -- 9: slot 167 := Op.call { callee := Callee.value (Operand.func 20), args := #[Operand.tmp 166], argTypes :
                      refine lstep_run fun fr wf left => ?_
                      obtain ⟨x7, e7, r7⟩ := left.slot 192 rfl 7 165 _ rfl rfl (by decide) rfl
                      have s7 := Eq.symm (show x7 = .bool false from r7)
                      subst s7
                      obtain ⟨x8, e8, r8⟩ := left.slot 192 rfl 8 166 _ rfl rfl (by decide) rfl
                      have s8 := Eq.symm (show x8 = .pointer (some ⟨Dn.g, 0, none⟩) from r8)
                      subst s8
                      refine ⟨wanted_yes rfl rfl e7, fun K hK => ?_⟩
                      have hB := hide left.base
                      clear left
                      go_simp
                      refine (down_val Dn sA false _ (HDD.out.1.past hB.out) HDD.out.2.2).mono ?_
                      rintro e w' ⟨rfl, rfl⟩
                      exact hK _ _ rfl hB.out (Below.refl _ _)
                    refine And.intro ?_ ?_
                    · -- 10: slot 168 := Op.pick (Operand.tmp 165) (Operand.const (Value.bool true)) (Operand.tmp 167)
                      refine lstep_run fun fr wf left => ?_
                      obtain ⟨x7, e7, r7⟩ := left.slot 192 rfl 7 165 _ rfl rfl (by decide) rfl
                      have s7 := Eq.symm (show x7 = .bool false from r7)
                      subst s7
                      obtain ⟨x9, e9, r9⟩ := left.slot 192 rfl 9 167 _ rfl rfl (by decide) rfl
                      have s9 := Eq.symm (show x9 = .bool false from r9)
                      subst s9
                      refine ⟨wanted_none rfl, fun K hK => ?_⟩
                      have hB := hide left.base
                      clear left
                      go_simp
                      exact hK _ _ rfl hB.out (Below.refl _ _)
                    refine And.intro ?_ ?_
                    · -- 11: slot 169 := Op.move (Operand.tmp 168)
                      refine lstep_run fun fr wf left => ?_
                      obtain ⟨x10, e10, r10⟩ := left.slot 192 rfl 10 168 _ rfl rfl (by decide) rfl
                      have s10 := Eq.symm (show x10 = .bool false from r10)
                      subst s10
                      refine ⟨wanted_none rfl, fun K hK => ?_⟩
                      have hB := hide left.base
                      clear left
                      go_simp
                      exact hK _ _ rfl hB.out (Below.refl _ _)
                    refine And.intro ?_ ?_
                    · -- 12: slot 170 := Op.move (Operand.tmp 5)
                      refine lstep_run fun fr wf left => ?_
                      obtain ⟨x11, e11, r11⟩ := left.slot 192 rfl 11 169 _ rfl rfl (by decide) rfl
                      have s11 := Eq.symm (show x11 = .bool false from r11)
                      subst s11
                      have o5 := (left.old 5 (by kernel_rfl)).trans rfl
                      refine ⟨wanted_yes rfl rfl e11, fun K hK => ?_⟩
                      have hB := hide left.base
                      clear left
                      go_simp
                      exact hK _ _ rfl hB.out (Below.refl _ _)
                    refine And.intro ?_ ?_
                    · -- 13: slot 171 := Op.call { callee := Callee.value (Operand.func 22), args := #[Operand.tmp 170], argTypes :
                      refine lstep_run fun fr wf left => ?_
                      obtain ⟨x11, e11, r11⟩ := left.slot 192 rfl 11 169 _ rfl rfl (by decide) rfl
                      have s11 := Eq.symm (show x11 = .bool false from r11)
                      subst s11
                      obtain ⟨x12, e12, r12⟩ := left.slot 192 rfl 12 170 _ rfl rfl (by decide) rfl
                      have s12 := Eq.symm (show x12 = .pointer (some ⟨Dn.g, 0, none⟩) from r12)
                      subst s12
                      refine ⟨wanted_yes rfl rfl e11, fun K hK => ?_⟩
                      have hB := hide left.base
                      clear left
                      go_simp
                      refine (files_val Dn sA LF _ (HDD.out.1.past hB.out) HLF.out.1).mono ?_
                      rintro e w' ⟨fl, fa, fc, rfl, _, hs, hb⟩
                      exact hK _ _ hs (hB.out.trans (hb.mono (le_base hB.out))) hb
                    refine And.intro ?_ ?_
                    · -- 14: slot 172 := Op.move (Operand.tmp 6)
                      refine lstep_run fun fr wf left => ?_
                      obtain ⟨x11, e11, r11⟩ := left.slot 192 rfl 11 169 _ rfl rfl (by decide) rfl
                      have s11 := Eq.symm (show x11 = .bool false from r11)
                      subst s11
                      have o6 := (left.old 6 (by kernel_rfl)).trans rfl
                      refine ⟨wanted_yes rfl rfl e11, fun K hK => ?_⟩
                      have hB := hide left.base
                      clear left
                      go_simp
                      exact hK _ _ rfl hB.out (Below.refl _ _)
                    refine And.intro ?_ ?_
                    · -- 15: slot 173 := Op.call { callee := Callee.value (Operand.func 22), args := #[Operand.tmp 172], argTypes :
                      refine lstep_run fun fr wf left => ?_
                      obtain ⟨x11, e11, r11⟩ := left.slot 192 rfl 11 169 _ rfl rfl (by decide) rfl
                      have s11 := Eq.symm (show x11 = .bool false from r11)
                      subst s11
                      obtain ⟨x14, e14, r14⟩ := left.slot 192 rfl 14 172 _ rfl rfl (by decide) rfl
                      have s14 := Eq.symm (show x14 = .pointer (some ⟨Db.g, 0, none⟩) from r14)
                      subst s14
                      refine ⟨wanted_yes rfl rfl e11, fun K hK => ?_⟩
                      have hB := hide left.base
                      clear left
                      go_simp
                      refine (files_val Db sB LF _ (HDD.out.2.1.past hB.out) HLF.out.2.1).mono ?_
                      rintro e w' ⟨fl, fa, fc, rfl, _, hs, hb⟩
                      exact hK _ _ hs (hB.out.trans (hb.mono (le_base hB.out))) hb
                    refine And.intro ?_ ?_
                    · -- 16: slot 174 := Op.call { callee := Callee.value (Operand.func 21), args := #[Operand.tmp 171, Operand.tmp
                      refine lstep_run fun fr wf left => ?_
                      obtain ⟨x11, e11, r11⟩ := left.slot 192 rfl 11 169 _ rfl rfl (by decide) rfl
                      have s11 := Eq.symm (show x11 = .bool false from r11)
                      subst s11
                      obtain ⟨x13, e13, r13⟩ := left.slot 192 rfl 13 171 _ rfl rfl (by decide) rfl
                      replace r13 : (fun v u => SlF u v LF) x13 wf := r13
                      obtain ⟨x15, e15, r15⟩ := left.slot 192 rfl 15 173 _ rfl rfl (by decide) rfl
                      replace r15 : (fun v u => SlF u v LF) x15 wf := r15
                      refine ⟨wanted_yes rfl rfl e11, fun K hK => ?_⟩
                      have hB := hide left.base
                      clear left
                      go_simp
                      refine (same_val x13 x15 LF LF true _ r13 r15 HLF.out.2.2 HLF.out.2.2 (decide_eq_true rfl)).mono ?_
                      rintro e w' ⟨rfl, hb⟩
                      exact hK _ _ rfl (hB.out.trans (hb.mono (le_base hB.out))) hb
                    refine And.intro ?_ ?_
                    · -- 17: slot 175 := Op.unOp UnOp.not 4 (Operand.tmp 174)
                      refine lstep_run fun fr wf left => ?_
                      obtain ⟨x11, e11, r11⟩ := left.slot 192 rfl 11 169 _ rfl rfl (by decide) rfl
                      have s11 := Eq.symm (show x11 = .bool false from r11)
                      subst s11
                      obtain ⟨x16, e16, r16⟩ := left.slot 192 rfl 16 174 _ rfl rfl (by decide) rfl
                      have s16 := Eq.symm (show x16 = .bool true from r16)
                      subst s16
                      refine ⟨wanted_yes rfl rfl e11, fun K hK => ?_⟩
                      have hB := hide left.base
                      clear left
                      go_simp
                      exact hK _ _ rfl hB.out (Below.refl _ _)
                    refine And.intro ?_ ?_
                    · -- 18: slot 176 := Op.pick (Operand.tmp 169) (Operand.const (Value.bool true)) (Operand.tmp 175)
                      refine lstep_run fun fr wf left => ?_
                      obtain ⟨x11, e11, r11⟩ := left.slot 192 rfl 11 169 _ rfl rfl (by decide) rfl
                      have s11 := Eq.symm (show x11 = .bool false from r11)
                      subst s11
                      obtain ⟨x17, e17, r17⟩ := left.slot 192 rfl 17 175 _ rfl rfl (by decide) rfl
                      have s17 := Eq.symm (show x17 = .bool false from r17)
                      subst s17
                      refine ⟨wanted_none rfl, fun K hK => ?_⟩
                      have hB := hide left.base
                      clear left
                      go_simp
                      exact hK _ _ rfl hB.out (Below.refl _ _)
                    refine And.intro ?_ ?_
                    · -- 19: slot 177 := Op.move (Operand.tmp 176)
                      refine lstep_run fun fr wf left => ?_
                      obtain ⟨x18, e18, r18⟩ := left.slot 192 rfl 18 176 _ rfl rfl (by decide) rfl
                      have s18 := Eq.symm (show x18 = .bool false from r18)
                      subst s18
                      refine ⟨wanted_none rfl, fun K hK => ?_⟩
                      have hB := hide left.base
                      clear left
                      go_simp
                      exact hK _ _ rfl hB.out (Below.refl _ _)
                    refine And.intro ?_ ?_
                    · -- 20: slot 178 := Op.move (Operand.tmp 5)
                      refine lstep_run fun fr wf left => ?_
                      obtain ⟨x19, e19, r19⟩ := left.slot 192 rfl 19 177 _ rfl rfl (by decide) rfl
                      have s19 := Eq.symm (show x19 = .bool false from r19)
                      subst s19
                      have o5 := (left.old 5 (by kernel_rfl)).trans rfl
                      refine ⟨wanted_yes rfl rfl e19, fun K hK => ?_⟩
                      have hB := hide left.base
                      clear left
                      go_simp
                      exact hK _ _ rfl hB.out (Below.refl _ _)
                    refine And.intro ?_ ?_
                    · -- 21: slot 179 := Op.fieldAddr 59 (Operand.tmp 3) 2
                      refine lstep_run fun fr wf left => ?_
                      obtain ⟨x19, e19, r19⟩ := left.slot 192 rfl 19 177 _ rfl rfl (by decide) rfl
                      have s19 := Eq.symm (show x19 = .bool false from r19)
                      subst s19
                      have o3 := (left.old 3 (by kernel_rfl)).trans rfl
                      refine ⟨wanted_yes rfl rfl e19, fun K hK => ?_⟩
                      have hB := hide left.base
                      clear left
                      go_simp
                      exact hK _ _ rfl hB.out (Below.refl _ _)
                    refine And.intro ?_ ?_
                    · -- 22: slot 180 := Op.load 28 (Operand.tmp 179)
                      refine lstep_run fun fr wf left => ?_
                      obtain ⟨x19, e19, r19⟩ := left.slot 192 rfl 19 177 _ rfl rfl (by decide) rfl
                      have s19 := Eq.symm (show x19 = .bool false from r19)
                      subst s19
                      obtain ⟨x21, e21, r21⟩ := left.slot 192 rfl 21 179 _ rfl rfl (by decide) rfl
                      have s21 := Eq.symm (show x21 = .pointer (some ⟨bf, 2, none⟩) from r21)
                      subst s21
                      refine ⟨wanted_yes rfl rfl e19, fun K hK => ?_⟩
                      have hB := hide left.base
                      have hc := (cell_blk ((hB.out.block bf (heap_lt HFB.out)).trans HFB.out) 2).trans rfl
                      clear left
                      go_simp
                      exact hK _ _ rfl hB.out (Below.refl _ _)
                    refine And.intro ?_ ?_
                    · -- 23: slot 181 := Op.call { callee := Callee.value (Operand.func 23), args := #[Operand.tmp 178, Operand.tmp
                      refine lstep_run fun fr wf left => ?_
                      obtain ⟨x19, e19, r19⟩ := left.slot 192 rfl 19 177 _ rfl rfl (by decide) rfl
                      have s19 := Eq.symm (show x19 = .bool false from r19)
                      subst s19
                      obtain ⟨x20, e20, r20⟩ := left.slot 192 rfl 20 178 _ rfl rfl (by decide) rfl
                      have s20 := Eq.symm (show x20 = .pointer (some ⟨Dn.g, 0, none⟩) from r20)
                      subst s20
                      obtain ⟨x22, e22, r22⟩ := left.slot 192 rfl 22 180 _ rfl rfl (by decide) rfl
                      have s22 := Eq.symm (show x22 = .slice fa flen fcap from r22)
                      subst s22
                      refine ⟨wanted_yes rfl rfl e19, fun K hK => ?_⟩
                      have hB := hide left.base
                      clear left
                      go_simp
                      refine (after_val Dn sA (.slice fa flen fcap) keep0 LK _ (HDD.out.1.past hB.out) (HSLK.out.below hB.out) HKL0.out HLK.out.1).mono ?_
                      rintro e w' ⟨fl, fa, fc, rfl, _, hs, hb⟩
                      exact hK _ _ hs (hB.out.trans (hb.mono (le_base hB.out))) hb
                    refine And.intro ?_ ?_
                    · -- 24: slot 182 := Op.move (Operand.tmp 6)
                      refine lstep_run fun fr wf left => ?_
                      obtain ⟨x19, e19, r19⟩ := left.slot 192 rfl 19 177 _ rfl rfl (by decide) rfl
                      have s19 := Eq.symm (show x19 = .bool false from r19)
                      subst s19
                      have o6 := (left.old 6 (by kernel_rfl)).trans rfl
                      refine ⟨wanted_yes rfl rfl e19, fun K hK => ?_⟩
                      have hB := hide left.base
                      clear left
                      go_simp
                      exact hK _ _ rfl hB.out (Below.refl _ _)
                    refine And.intro ?_ ?_
                    · -- 25: slot 183 := Op.fieldAddr 59 (Operand.tmp 3) 2
                      refine lstep_run fun fr wf left => ?_
                      obtain ⟨x19, e19, r19⟩ := left.slot 192 rfl 19 177 _ rfl rfl (by decide) rfl
                      have s19 := Eq.symm (show x19 = .bool false from r19)
                      subst s19
                      have o3 := (left.old 3 (by kernel_rfl)).trans rfl
                      refine ⟨wanted_yes rfl rfl e19, fun K hK => ?_⟩
                      have hB := hide left.base
                      clear left
                      go_simp
                      exact hK _ _ rfl hB.out (Below.refl _ _)
                    refine And.intro ?_ ?_
                    · -- 26: slot 184 := Op.load 28 (Operand.tmp 183)
                      refine lstep_run fun fr wf left => ?_
                      obtain ⟨x19, e19, r19⟩ := left.slot 192 rfl 19 177 _ rfl rfl (by decide) rfl
                      have s19 := Eq.symm (show x19 = .bool false from r19)
                      subst s19
                      obtain ⟨x25, e25, r25⟩ := left.slot 192 rfl 25 183 _ rfl rfl (by decide) rfl
                      have s25 := Eq.symm (show x25 = .pointer (some ⟨bf, 2, none⟩) from r25)
                      subst s25
                      refine ⟨wanted_yes rfl rfl e19, fun K hK => ?_⟩
                      have hB := hide left.base
                      have hc := (cell_blk ((hB.out.block bf (heap_lt HFB.out)).trans HFB.out) 2).trans rfl
                      clear left
                      go_simp
                      exact hK _ _ rfl hB.out (Below.refl _ _)
                    refine And.intro ?_ ?_
                    · -- 27: slot 185 := Op.call { callee := Callee.value (Operand.func 23), args := #[Operand.tmp 182, Operand.tmp
                      refine lstep_run fun fr wf left => ?_
                      obtain ⟨x19, e19, r19⟩ := left.slot 192 rfl 19 177 _ rfl rfl (by decide) rfl
                      have s19 := Eq.symm (show x19 = .bool false from r19)
                      subst s19
                      obtain ⟨x24, e24, r24⟩ := left.slot 192 rfl 24 182 _ rfl rfl (by decide) rfl
                      have s24 := Eq.symm (show x24 = .pointer (some ⟨Db.g, 0, none⟩) from r24)
                      subst s24
                      obtain ⟨x26, e26, r26⟩ := left.slot 192 rfl 26 184 _ rfl rfl (by decide) rfl
                      have s26 := Eq.symm (show x26 = .slice fa flen fcap from r26)
                      subst s26
                      refine ⟨wanted_yes rfl rfl e19, fun K hK => ?_⟩
                      have hB := hide left.base
                      clear left
                      go_simp
                      refine (after_val Db sB (.slice fa flen fcap) keep0 LK _ (HDD.out.2.1.past hB.out) (HSLK.out.below hB.out) HKL0.out HLK.out.2.1).mono ?_
                      rintro e w' ⟨fl, fa, fc, rfl, _, hs, hb⟩
                      exact hK _ _ hs (hB.out.trans (hb.mono (le_base hB.out))) hb
                    refine And.intro ?_ ?_
                    · -- 28: slot 186 := Op.call { callee := Callee.value (Operand.func 21), args := #[Operand.tmp 181, Operand.tmp
                      refine lstep_run fun fr wf left => ?_
                      obtain ⟨x19, e19, r19⟩ := left.slot 192 rfl 19 177 _ rfl rfl (by decide) rfl
                      have s19 := Eq.symm (show x19 = .bool false from r19)
                      subst s19
                      obtain ⟨x23, e23, r23⟩ := left.slot 192 rfl 23 181 _ rfl rfl (by decide) rfl
                      replace r23 : (fun v u => SlF u v LK) x23 wf := r23
                      obtain ⟨x27, e27, r27⟩ := left.slot 192 rfl 27 185 _ rfl rfl (by decide) rfl
                      replace r27 : (fun v u => SlF u v LK) x27 wf := r27
                      refine ⟨wanted_yes rfl rfl e19, fun K hK => ?_⟩
                      have hB := hide left.base
                      clear left
                      go_simp
                      refine (same_val x23 x27 LK LK true _ r23 r27 HLK.out.2.2 HLK.out.2.2 (decide_eq_true rfl)).mono ?_
                      rintro e w' ⟨rfl, hb⟩
                      exact hK _ _ rfl (hB.out.trans (hb.mono (le_base hB.out))) hb
                    refine And.intro ?_ ?_
                    · -- 29: slot 187 := Op.unOp UnOp.not 4 (Operand.tmp 186)
                      refine lstep_run fun fr wf left => ?_
                      obtain ⟨x19, e19, r19⟩ := left.slot 192 rfl 19 177 _ rfl rfl (by decide) rfl
                      have s19 := Eq.symm (show x19 = .bool false from r19)
                      subst s19
                      obtain ⟨x28, e28, r28⟩ := left.slot 192 rfl 28 186 _ rfl rfl (by decide) rfl
                      have s28 := Eq.symm (show x28 = .bool true from r28)
                      subst s28
                      refine ⟨wanted_yes rfl rfl e19, fun K hK => ?_⟩
                      have hB := hide left.base
                      clear left
                      go_simp
                      exact hK _ _ rfl hB.out (Below.refl _ _)
                    refine And.intro ?_ ?_
                    · -- 30: slot 188 := Op.pick (Operand.tmp 177) (Operand.const (Value.bool true)) (Operand.tmp 187)
                      refine lstep_run fun fr wf left => ?_
                      obtain ⟨x19, e19, r19⟩ := left.slot 192 rfl 19 177 _ rfl rfl (by decide) rfl
                      have s19 := Eq.symm (show x19 = .bool false from r19)
                      subst s19
                      obtain ⟨x29, e29, r29⟩ := left.slot 192 rfl 29 187 _ rfl rfl (by decide) rfl
                      have s29 := Eq.symm (show x29 = .bool false from r29)
                      subst s29
                      refine ⟨wanted_none rfl, fun K hK => ?_⟩
                      have hB := hide left.base
                      clear left
                      go_simp
                      exact hK _ _ rfl hB.out (Below.refl _ _)
                    exact trivial
                  · intro fr wf hB hs hd hall hkeep
                    have h188 : fr.tmps.getD 188 undef = .bool false := hall 30 _ rfl (by simp)
                    have hfr := act_ext (frame_setL hs hkeep [158, 159, 160, 161, 162, 163, 164, 165, 166, 167, 168, 169, 170, 171, 172, 173, 174, 175, 176, 177, 178, 179, 180, 181, 182, 183, 184, 185, 186, 187, 188] (by kernel_rfl)) hd
                    clear hall hkeep hs hd
                    dsimp only [List.foldl, List.set_cons_zero, List.set_cons_succ] at hfr
                    generalize fr.tmps.getD 158 undef = q158 at hfr
                    generalize fr.tmps.getD 159 undef = q159 at hfr
                    generalize fr.tmps.getD 160 undef = q160 at hfr
                    generalize fr.tmps.getD 161 undef = q161 at hfr
                    generalize fr.tmps.getD 162 undef = q162 at hfr
                    generalize fr.tmps.getD 163 undef = q163 at hfr
                    generalize fr.tmps.getD 164 undef = q164 at hfr
                    generalize fr.tmps.getD 165 undef = q165 at hfr
                    generalize fr.tmps.getD 166 undef = q166 at hfr
                    generalize fr.tmps.getD 167 undef = q167 at hfr
                    generalize fr.tmps.getD 168 undef = q168 at hfr
                    generalize fr.tmps.getD 169 undef = q169 at hfr
                    generalize fr.tmps.getD 170 undef = q170 at hfr
                    generalize fr.tmps.getD 171 undef = q171 at hfr
                    generalize fr.tmps.getD 172 undef = q172 at hfr
                    generalize fr.tmps.getD 173 undef = q173 at hfr
                    generalize fr.tmps.getD 174 undef = q174 at hfr
                    generalize fr.tmps.getD 175 undef = q175 at hfr
                    generalize fr.tmps.getD 176 undef = q176 at hfr
                    generalize fr.tmps.getD 177 undef = q177 at hfr
                    generalize fr.tmps.getD 178 undef = q178 at hfr
                    generalize fr.tmps.getD 179 undef = q179 at hfr
                    generalize fr.tmps.getD 180 undef = q180 at hfr
                    generalize fr.tmps.getD 181 undef = q181 at hfr
                    generalize fr.tmps.getD 182 undef = q182 at hfr
                    generalize fr.tmps.getD 183 undef = q183 at hfr
                    generalize fr.tmps.getD 184 undef = q184 at hfr
                    generalize fr.tmps.getD 185 undef = q185 at hfr
                    generalize fr.tmps.getD 186 undef = q186 at hfr
                    generalize fr.tmps.getD 187 undef = q187 at hfr
                    generalize fr.tmps.getD 188 undef = q188 at hfr h188
                    subst hfr
                    subst h188
                    have HBF := hide hB
                    clear hB
                    go_wp2_with fail
                    go_meet
                    case rel => exact ⟨rfl, HBF.out⟩
                  -- END REGION fats
                case rest =>
                  obtain ⟨rfl, hbx⟩ := hcut.out
                  rename_i wC'
                  have HX := hide hbx
                  clear hcut hbx
                  go_wp2_with fail
                  go_roundg (60 - (i + 1))
                  case measure => omega
                  case rel => exact ⟨i + 1, jn, fsN, by omega, rfl, by go_num, HFT.out, hjn, HWD.out.past HX.out, HWC.out.2.2.1.past HX.out, (HX.out.block bf (heap_lt HWC.out.2.2.2.1)).trans HWC.out.2.2.2.1, HWC.out.2.2.2.2.2.trans (HX.out.mono HWC.out.2.2.2.2.2.size)⟩
              · have hk4' : 4 ≤ k := by omega
                have hk45 : k = 4 ∨ k = 5 := by have := HK.out; omega
                have hsn : sN = Dk.fallen (Dk.faA fsN (i + 1) at_ k keep0) := by rw [HRR.out.2, if_pos ⟨rfl, hk45⟩, HFN.out]
                have hrr0 : rr = 170 := by
                  rw [HRR.out.1]; unfold Dk.errN
                  rcases hk45 with rfl | rfl <;> rfl
                obtain ⟨LS, hLS⟩ : ∃ l, l = Dk.after (Dk.faA fsN (i + 1) at_ k keep0) keep0 := ⟨_, rfl⟩
                have hsdn : sN.down = true := by rw [hsn]; rfl
                have hfil : Dk.files sN = LS := by
                  rw [hsn, hLS]
                  refine Dk.files_fallen (s := Dk.faA fsN (i + 1) at_ k keep0) ?_ rfl
                  exact HWC.out.2.2.1.ok.up
                have HSN := hide (show sN.down = true ∧ Dk.files sN = LS ∧ Dk.after sN [] = LS ∧ sN.acts = i + 1 ∧ Dk.size sN name = 0 ∧ Dk.read sN name 0 0 = (⟨#[]⟩, 170) ∧ LS.length ≤ 1099511627776 from by
                  refine ⟨hsdn, hfil, by rw [Dk.after_down hsdn]; exact hfil, by rw [hsn]; rfl, by unfold Dk.size; rw [if_pos hsdn], by unfold Dk.read; rw [if_pos hsdn], ?_⟩
                  rw [← hfil]; unfold Dk.files
                  have h1 := Dk.pick_le sN.files (sN.files.map fun p => p.2.now)
                  have h2 := HWC.out.2.1.ok.many; omega)
                have HLS := hide hLS
                have HLB := hide (show Dk.after (Dk.bSt fsN jn) keep0 = LS from by rw [hLS]; exact Dk.after_same rfl rfl rfl _)
                have HLA4 := hide (show k = 4 → LA = LS from fun h => by
                  rw [HLA.out, hLS]
                  have : fsN = fs := by rw [HFN.out]; unfold Dk.filesN; rw [if_pos ⟨rfl, .inr (.inr h)⟩]
                  rw [this]
                  exact Dk.after_same rfl rfl rfl _)
                have HKK45 := hide hk45
                subst hrr0
                clear hk45 hsn hLS hsdn hfil hk4
                rw [← HDN.out.1]
                go_wp2_with fail
                refine (after_val Db _ _ keep0 LS wc HWC.out.2.2.1 (HKV0.out.below HWC.out.2.2.2.2.2) HKL0.out HLB.out).mono ?_
                rintro e wD ⟨n7, b7, c7, rfl, hl7, hs7, hb7⟩
                have HWD := hide (show SlF wD (.slice b7 n7 c7) LS ∧ SlF wD (.slice b5 n5 c5) LA ∧ DiskAt wD Dn sN ∧ wD.heap[bf]? = some (.cells #[.int .i64 at_, .int .i64 k, .slice fa flen fcap] 59 (0, 0)) ∧ wD.heap[b8]? = some (.cells #[.int .i64 kind, .int .i64 which, .string name, .string data, .int .i64 (y : Int), .int .i64 n, .slice ka klen kcap] 30 (0, 0)) ∧ Below w.heap.size w wD from
                  ⟨hs7, HWC.out.1.below hb7, HWC.out.2.1.past hb7, (hb7.block bf (heap_lt HWC.out.2.2.2.1)).trans HWC.out.2.2.2.1, (hb7.block b8 (heap_lt HWC.out.2.2.2.2.1)).trans HWC.out.2.2.2.2.1, HWC.out.2.2.2.2.2.trans (hb7.mono HWC.out.2.2.2.2.2.size)⟩)
                have g1' : wD.cell? ⟨bf, 1, none⟩ = some (.int .i64 k) := (cell_blk HWD.out.2.2.2.1 1).trans rfl
                have g3 : wD.cell? ⟨b8, 2, none⟩ = some (.string name) := (cell_blk HWD.out.2.2.2.2.1 2).trans rfl
                clear hs7 hb7 hl7 g1 g2
                go_upto_region 25 with (fail)
                obtain ⟨k4, hk4e⟩ : ∃ b : Bool, b = (k == 4) := ⟨_, rfl⟩
                have hk4q := hk4e.symm
                have HK4 := hide hk4e
                clear hk4e
                go_upto_if 107 with (fail)
                go_cut [14] from 108 to 109 (fun v14 wx => Hid ((∃ sa sl sc, v14 = .slice sa sl sc) ∧ SlF wD v14 LS ∧ wx = wD))
                case first =>
                  cases k4 with
                  | true =>
                    have h4 : k = 4 := by have := HK4.out.symm; simpa using this
                    have HE4 := hide (HLA4.out h4)
                    clear h4
                    go_wp2_with fail
                    go_meet
                    case rel => exact ⟨⟨_, _, _, rfl⟩, HE4.out ▸ HWD.out.2.1, rfl⟩
                  | false =>
                    go_wp2_with fail
                    go_meet
                    case rel => exact ⟨⟨_, _, _, rfl⟩, HWD.out.1, rfl⟩
                case rest =>
                  obtain ⟨⟨sa, sl, sc, rfl⟩, hsl, rfl⟩ := hcut.out
                  have HSL := hide hsl
                  clear hcut hsl hk4q
                  go_wp2_with fail
                  refine (read_val Dn sN name 0 0 ⟨#[]⟩ 170 wc HWD.out.2.2.1 HO.out.name (by decide) (by decide) HSN.out.2.2.2.2.2.1).mono ?_
                  rintro e wz2 ⟨rfl, he⟩
                  subst he
                  obtain rfl : at_ = ((i + 1 : Nat) : Int) := by have := HME.out; omega
                  clear g1' g3
                  go_upto_region 28 with (fail)
-- REGION fatd
                  have HACTD := hide (show ∀ u, Below wz2.heap.size wz2 u → Calls Try.prog 24 #[.pointer (some ⟨Dn.g, 0, none⟩), .agg #[.int .i64 kind, .int .i64 which, .string name, .string data, .int .i64 (y : Int), .int .i64 n, .slice ka klen kcap]] u fun e w' => e = .returned (.int .i64 170) ∧ Below u.heap.size u w' from fun u hu => by
                    have h := actDown_at Dn sN ov (.slice ka klen kcap) u (HWD.out.2.2.1.past hu) HOO.out HSN.out.1
                    rw [HOV.out] at h; exact h)
                  refine wp_region_local (by kernel_rfl) (by kernel_rfl) (useList fatdU) [42] (by kernel_rfl) (spR (fatdL Dn Db LS kind which n name data sa ka sl sc klen kcap bf b8 i y)) (fun _ _ => True) (Below wz2.heap.size wz2) (fun _ w w' => Below w.heap.size w w') spR_stays (fun _ _ _ _ _ h _ => h) (fun _ _ => Below.refl _ _) (dsts_lt (N := 192) (by kernel_rfl)) ((Below.refl _ _).drew) (fun _ _ => trivial) (all_ops ?_) ?_
                  · refine And.intro ?_ ?_
                    · -- 0: slot 116 := Op.move (Operand.tmp 12)
                      refine lstep_run fun fr wf left => ?_
                      have o12 := (left.old 12 (by kernel_rfl)).trans rfl
                      refine ⟨wanted_none rfl, fun K hK => ?_⟩
                      have hB := hide left.base
                      clear left
                      go_simp
                      exact hK _ _ rfl hB.out (Below.refl _ _)
                    refine And.intro ?_ ?_
                    · -- 1: slot 117 := Op.binOp BinOp.eql 3 (Operand.tmp 116) (Operand.const (Value.int IntKind.i64 170)) 3
                      refine lstep_run fun fr wf left => ?_
                      obtain ⟨x0, e0, r0⟩ := left.slot 192 rfl 0 116 _ rfl rfl (by decide) rfl
                      have s0 := Eq.symm (show x0 = .int .i64 170 from r0)
                      subst s0
                      refine ⟨wanted_none rfl, fun K hK => ?_⟩
                      have hB := hide left.base
                      clear left
                      go_simp
                      exact hK _ _ rfl hB.out (Below.refl _ _)
                    refine And.intro ?_ ?_
                    · -- 2: slot 118 := Op.move (Operand.tmp 117)
                      refine lstep_run fun fr wf left => ?_
                      obtain ⟨x1, e1, r1⟩ := left.slot 192 rfl 1 117 _ rfl rfl (by decide) rfl
                      have s1 := Eq.symm (show x1 = .bool true from r1)
                      subst s1
                      refine ⟨wanted_none rfl, fun K hK => ?_⟩
                      have hB := hide left.base
                      clear left
                      go_simp
                      exact hK _ _ rfl hB.out (Below.refl _ _)
                    refine And.intro ?_ ?_
                    · -- 3: slot 119 := Op.move (Operand.tmp 5)
                      refine lstep_run fun fr wf left => ?_
                      obtain ⟨x2, e2, r2⟩ := left.slot 192 rfl 2 118 _ rfl rfl (by decide) rfl
                      have s2 := Eq.symm (show x2 = .bool true from r2)
                      subst s2
                      have o5 := (left.old 5 (by kernel_rfl)).trans rfl
                      refine ⟨wanted_yes rfl rfl e2, fun K hK => ?_⟩
                      have hB := hide left.base
                      clear left
                      go_simp
                      exact hK _ _ rfl hB.out (Below.refl _ _)
                    refine And.intro ?_ ?_
                    · -- 4: slot 120 := Op.call { callee := Callee.value (Operand.func 20), args := #[Operand.tmp 119], argTypes :
                      refine lstep_run fun fr wf left => ?_
                      obtain ⟨x2, e2, r2⟩ := left.slot 192 rfl 2 118 _ rfl rfl (by decide) rfl
                      have s2 := Eq.symm (show x2 = .bool true from r2)
                      subst s2
                      obtain ⟨x3, e3, r3⟩ := left.slot 192 rfl 3 119 _ rfl rfl (by decide) rfl
                      have s3 := Eq.symm (show x3 = .pointer (some ⟨Dn.g, 0, none⟩) from r3)
                      subst s3
                      refine ⟨wanted_yes rfl rfl e2, fun K hK => ?_⟩
                      have hB := hide left.base
                      clear left
                      go_simp
                      refine (down_val Dn sN true _ (HWD.out.2.2.1.past hB.out) HSN.out.1).mono ?_
                      rintro e w' ⟨rfl, rfl⟩
                      exact hK _ _ rfl hB.out (Below.refl _ _)
                    refine And.intro ?_ ?_
                    · -- 5: slot 121 := Op.pick (Operand.tmp 118) (Operand.tmp 120) (Operand.const (Value.bool false))
                      refine lstep_run fun fr wf left => ?_
                      obtain ⟨x2, e2, r2⟩ := left.slot 192 rfl 2 118 _ rfl rfl (by decide) rfl
                      have s2 := Eq.symm (show x2 = .bool true from r2)
                      subst s2
                      obtain ⟨x4, e4, r4⟩ := left.slot 192 rfl 4 120 _ rfl rfl (by decide) rfl
                      have s4 := Eq.symm (show x4 = .bool true from r4)
                      subst s4
                      refine ⟨wanted_none rfl, fun K hK => ?_⟩
                      have hB := hide left.base
                      clear left
                      go_simp
                      exact hK _ _ rfl hB.out (Below.refl _ _)
                    refine And.intro ?_ ?_
                    · -- 6: slot 122 := Op.move (Operand.tmp 121)
                      refine lstep_run fun fr wf left => ?_
                      obtain ⟨x5, e5, r5⟩ := left.slot 192 rfl 5 121 _ rfl rfl (by decide) rfl
                      have s5 := Eq.symm (show x5 = .bool true from r5)
                      subst s5
                      refine ⟨wanted_none rfl, fun K hK => ?_⟩
                      have hB := hide left.base
                      clear left
                      go_simp
                      exact hK _ _ rfl hB.out (Below.refl _ _)
                    refine And.intro ?_ ?_
                    · -- 7: slot 123 := Op.move (Operand.tmp 5)
                      refine lstep_run fun fr wf left => ?_
                      obtain ⟨x6, e6, r6⟩ := left.slot 192 rfl 6 122 _ rfl rfl (by decide) rfl
                      have s6 := Eq.symm (show x6 = .bool true from r6)
                      subst s6
                      have o5 := (left.old 5 (by kernel_rfl)).trans rfl
                      refine ⟨wanted_yes rfl rfl e6, fun K hK => ?_⟩
                      have hB := hide left.base
                      clear left
                      go_simp
                      exact hK _ _ rfl hB.out (Below.refl _ _)
                    refine And.intro ?_ ?_
                    · -- 8: slot 124 := Op.call { callee := Callee.value (Operand.func 22), args := #[Operand.tmp 123], argTypes :
                      refine lstep_run fun fr wf left => ?_
                      obtain ⟨x6, e6, r6⟩ := left.slot 192 rfl 6 122 _ rfl rfl (by decide) rfl
                      have s6 := Eq.symm (show x6 = .bool true from r6)
                      subst s6
                      obtain ⟨x7, e7, r7⟩ := left.slot 192 rfl 7 123 _ rfl rfl (by decide) rfl
                      have s7 := Eq.symm (show x7 = .pointer (some ⟨Dn.g, 0, none⟩) from r7)
                      subst s7
                      refine ⟨wanted_yes rfl rfl e6, fun K hK => ?_⟩
                      have hB := hide left.base
                      clear left
                      go_simp
                      refine (files_val Dn sN LS _ (HWD.out.2.2.1.past hB.out) HSN.out.2.1).mono ?_
                      rintro e w' ⟨fl, fa, fc, rfl, _, hs, hb⟩
                      exact hK _ _ hs (hB.out.trans (hb.mono (le_base hB.out))) hb
                    refine And.intro ?_ ?_
                    · -- 9: slot 125 := Op.move (Operand.tmp 14)
                      refine lstep_run fun fr wf left => ?_
                      obtain ⟨x6, e6, r6⟩ := left.slot 192 rfl 6 122 _ rfl rfl (by decide) rfl
                      have s6 := Eq.symm (show x6 = .bool true from r6)
                      subst s6
                      have o14 := (left.old 14 (by kernel_rfl)).trans rfl
                      refine ⟨wanted_yes rfl rfl e6, fun K hK => ?_⟩
                      have hB := hide left.base
                      clear left
                      go_simp
                      exact hK _ _ rfl hB.out (Below.refl _ _)
                    refine And.intro ?_ ?_
                    · -- 10: slot 126 := Op.call { callee := Callee.value (Operand.func 21), args := #[Operand.tmp 124, Operand.tmp
                      refine lstep_run fun fr wf left => ?_
                      obtain ⟨x6, e6, r6⟩ := left.slot 192 rfl 6 122 _ rfl rfl (by decide) rfl
                      have s6 := Eq.symm (show x6 = .bool true from r6)
                      subst s6
                      obtain ⟨x8, e8, r8⟩ := left.slot 192 rfl 8 124 _ rfl rfl (by decide) rfl
                      replace r8 : (fun v u => SlF u v LS) x8 wf := r8
                      obtain ⟨x9, e9, r9⟩ := left.slot 192 rfl 9 125 _ rfl rfl (by decide) rfl
                      have s9 := Eq.symm (show x9 = .slice sa sl sc from r9)
                      subst s9
                      refine ⟨wanted_yes rfl rfl e6, fun K hK => ?_⟩
                      have hB := hide left.base
                      clear left
                      go_simp
                      refine (same_val x8 (.slice sa sl sc) LS LS true _ r8 (HSL.out.below hB.out) HSN.out.2.2.2.2.2.2 HSN.out.2.2.2.2.2.2 (decide_eq_true rfl)).mono ?_
                      rintro e w' ⟨rfl, hb⟩
                      exact hK _ _ rfl (hB.out.trans (hb.mono (le_base hB.out))) hb
                    refine And.intro ?_ ?_
                    · -- 11: slot 127 := Op.pick (Operand.tmp 122) (Operand.tmp 126) (Operand.const (Value.bool false))
                      refine lstep_run fun fr wf left => ?_
                      obtain ⟨x6, e6, r6⟩ := left.slot 192 rfl 6 122 _ rfl rfl (by decide) rfl
                      have s6 := Eq.symm (show x6 = .bool true from r6)
                      subst s6
                      obtain ⟨x10, e10, r10⟩ := left.slot 192 rfl 10 126 _ rfl rfl (by decide) rfl
                      have s10 := Eq.symm (show x10 = .bool true from r10)
                      subst s10
                      refine ⟨wanted_none rfl, fun K hK => ?_⟩
                      have hB := hide left.base
                      clear left
                      go_simp
                      exact hK _ _ rfl hB.out (Below.refl _ _)
                    refine And.intro ?_ ?_
                    · -- 12: slot 128 := Op.move (Operand.tmp 127)
                      refine lstep_run fun fr wf left => ?_
                      obtain ⟨x11, e11, r11⟩ := left.slot 192 rfl 11 127 _ rfl rfl (by decide) rfl
                      have s11 := Eq.symm (show x11 = .bool true from r11)
                      subst s11
                      refine ⟨wanted_none rfl, fun K hK => ?_⟩
                      have hB := hide left.base
                      clear left
                      go_simp
                      exact hK _ _ rfl hB.out (Below.refl _ _)
                    refine And.intro ?_ ?_
                    · -- 13: slot 129 := Op.move (Operand.tmp 5)
                      refine lstep_run fun fr wf left => ?_
                      obtain ⟨x12, e12, r12⟩ := left.slot 192 rfl 12 128 _ rfl rfl (by decide) rfl
                      have s12 := Eq.symm (show x12 = .bool true from r12)
                      subst s12
                      have o5 := (left.old 5 (by kernel_rfl)).trans rfl
                      refine ⟨wanted_yes rfl rfl e12, fun K hK => ?_⟩
                      have hB := hide left.base
                      clear left
                      go_simp
                      exact hK _ _ rfl hB.out (Below.refl _ _)
                    refine And.intro ?_ ?_
                    · -- 14: slot 130 := Op.call { callee := Callee.value (Operand.func 23), args := #[Operand.tmp 129, Operand.con
                      refine lstep_run fun fr wf left => ?_
                      obtain ⟨x12, e12, r12⟩ := left.slot 192 rfl 12 128 _ rfl rfl (by decide) rfl
                      have s12 := Eq.symm (show x12 = .bool true from r12)
                      subst s12
                      obtain ⟨x13, e13, r13⟩ := left.slot 192 rfl 13 129 _ rfl rfl (by decide) rfl
                      have s13 := Eq.symm (show x13 = .pointer (some ⟨Dn.g, 0, none⟩) from r13)
                      subst s13
                      refine ⟨wanted_yes rfl rfl e12, fun K hK => ?_⟩
                      have hB := hide left.base
                      clear left
                      go_simp
                      refine (after_val Dn sN (.slice none 0 0) [] LS _ (HWD.out.2.2.1.past hB.out) (SlV.nil _) (by decide) HSN.out.2.2.1).mono ?_
                      rintro e w' ⟨fl, fa, fc, rfl, _, hs, hb⟩
                      exact hK _ _ hs (hB.out.trans (hb.mono (le_base hB.out))) hb
                    refine And.intro ?_ ?_
                    · -- 15: slot 131 := Op.move (Operand.tmp 14)
                      refine lstep_run fun fr wf left => ?_
                      obtain ⟨x12, e12, r12⟩ := left.slot 192 rfl 12 128 _ rfl rfl (by decide) rfl
                      have s12 := Eq.symm (show x12 = .bool true from r12)
                      subst s12
                      have o14 := (left.old 14 (by kernel_rfl)).trans rfl
                      refine ⟨wanted_yes rfl rfl e12, fun K hK => ?_⟩
                      have hB := hide left.base
                      clear left
                      go_simp
                      exact hK _ _ rfl hB.out (Below.refl _ _)
                    refine And.intro ?_ ?_
                    · -- 16: slot 132 := Op.call { callee := Callee.value (Operand.func 21), args := #[Operand.tmp 130, Operand.tmp
                      refine lstep_run fun fr wf left => ?_
                      obtain ⟨x12, e12, r12⟩ := left.slot 192 rfl 12 128 _ rfl rfl (by decide) rfl
                      have s12 := Eq.symm (show x12 = .bool true from r12)
                      subst s12
                      obtain ⟨x14, e14, r14⟩ := left.slot 192 rfl 14 130 _ rfl rfl (by decide) rfl
                      replace r14 : (fun v u => SlF u v LS) x14 wf := r14
                      obtain ⟨x15, e15, r15⟩ := left.slot 192 rfl 15 131 _ rfl rfl (by decide) rfl
                      have s15 := Eq.symm (show x15 = .slice sa sl sc from r15)
                      subst s15
                      refine ⟨wanted_yes rfl rfl e12, fun K hK => ?_⟩
                      have hB := hide left.base
                      clear left
                      go_simp
                      refine (same_val x14 (.slice sa sl sc) LS LS true _ r14 (HSL.out.below hB.out) HSN.out.2.2.2.2.2.2 HSN.out.2.2.2.2.2.2 (decide_eq_true rfl)).mono ?_
                      rintro e w' ⟨rfl, hb⟩
                      exact hK _ _ rfl (hB.out.trans (hb.mono (le_base hB.out))) hb
                    refine And.intro ?_ ?_
                    · -- 17: slot 133 := Op.pick (Operand.tmp 128) (Operand.tmp 132) (Operand.const (Value.bool false))
                      refine lstep_run fun fr wf left => ?_
                      obtain ⟨x12, e12, r12⟩ := left.slot 192 rfl 12 128 _ rfl rfl (by decide) rfl
                      have s12 := Eq.symm (show x12 = .bool true from r12)
                      subst s12
                      obtain ⟨x16, e16, r16⟩ := left.slot 192 rfl 16 132 _ rfl rfl (by decide) rfl
                      have s16 := Eq.symm (show x16 = .bool true from r16)
                      subst s16
                      refine ⟨wanted_none rfl, fun K hK => ?_⟩
                      have hB := hide left.base
                      clear left
                      go_simp
                      exact hK _ _ rfl hB.out (Below.refl _ _)
                    refine And.intro ?_ ?_
                    · -- 18: slot 134 := Op.move (Operand.tmp 133)
                      refine lstep_run fun fr wf left => ?_
                      obtain ⟨x17, e17, r17⟩ := left.slot 192 rfl 17 133 _ rfl rfl (by decide) rfl
                      have s17 := Eq.symm (show x17 = .bool true from r17)
                      subst s17
                      refine ⟨wanted_none rfl, fun K hK => ?_⟩
                      have hB := hide left.base
                      clear left
                      go_simp
                      exact hK _ _ rfl hB.out (Below.refl _ _)
                    refine And.intro ?_ ?_
                    · -- 19: slot 135 := Op.move (Operand.tmp 16)
                      refine lstep_run fun fr wf left => ?_
                      obtain ⟨x18, e18, r18⟩ := left.slot 192 rfl 18 134 _ rfl rfl (by decide) rfl
                      have s18 := Eq.symm (show x18 = .bool true from r18)
                      subst s18
                      have o16 := (left.old 16 (by kernel_rfl)).trans rfl
                      refine ⟨wanted_yes rfl rfl e18, fun K hK => ?_⟩
                      have hB := hide left.base
                      clear left
                      go_simp
                      exact hK _ _ rfl hB.out (Below.refl _ _)
                    refine And.intro ?_ ?_
                    · -- 20: slot 136 := Op.binOp BinOp.eql 3 (Operand.tmp 135) (Operand.const (Value.int IntKind.i64 170)) 3
                      refine lstep_run fun fr wf left => ?_
                      obtain ⟨x18, e18, r18⟩ := left.slot 192 rfl 18 134 _ rfl rfl (by decide) rfl
                      have s18 := Eq.symm (show x18 = .bool true from r18)
                      subst s18
                      obtain ⟨x19, e19, r19⟩ := left.slot 192 rfl 19 135 _ rfl rfl (by decide) rfl
                      have s19 := Eq.symm (show x19 = .int .i64 170 from r19)
                      subst s19
                      refine ⟨wanted_yes rfl rfl e18, fun K hK => ?_⟩
                      have hB := hide left.base
                      clear left
                      go_simp
                      exact hK _ _ rfl hB.out (Below.refl _ _)
                    refine And.intro ?_ ?_
                    · -- 21: slot 137 := Op.pick (Operand.tmp 134) (Operand.tmp 136) (Operand.const (Value.bool false))
                      refine lstep_run fun fr wf left => ?_
                      obtain ⟨x18, e18, r18⟩ := left.slot 192 rfl 18 134 _ rfl rfl (by decide) rfl
                      have s18 := Eq.symm (show x18 = .bool true from r18)
                      subst s18
                      obtain ⟨x20, e20, r20⟩ := left.slot 192 rfl 20 136 _ rfl rfl (by decide) rfl
                      have s20 := Eq.symm (show x20 = .bool true from r20)
                      subst s20
                      refine ⟨wanted_none rfl, fun K hK => ?_⟩
                      have hB := hide left.base
                      clear left
                      go_simp
                      exact hK _ _ rfl hB.out (Below.refl _ _)
                    refine And.intro ?_ ?_
                    · -- 22: slot 138 := Op.move (Operand.tmp 137)
                      refine lstep_run fun fr wf left => ?_
                      obtain ⟨x21, e21, r21⟩ := left.slot 192 rfl 21 137 _ rfl rfl (by decide) rfl
                      have s21 := Eq.symm (show x21 = .bool true from r21)
                      subst s21
                      refine ⟨wanted_none rfl, fun K hK => ?_⟩
                      have hB := hide left.base
                      clear left
                      go_simp
                      exact hK _ _ rfl hB.out (Below.refl _ _)
                    refine And.intro ?_ ?_
                    · -- 23: slot 139 := Op.move (Operand.tmp 5)
                      refine lstep_run fun fr wf left => ?_
                      obtain ⟨x22, e22, r22⟩ := left.slot 192 rfl 22 138 _ rfl rfl (by decide) rfl
                      have s22 := Eq.symm (show x22 = .bool true from r22)
                      subst s22
                      have o5 := (left.old 5 (by kernel_rfl)).trans rfl
                      refine ⟨wanted_yes rfl rfl e22, fun K hK => ?_⟩
                      have hB := hide left.base
                      clear left
                      go_simp
                      exact hK _ _ rfl hB.out (Below.refl _ _)
                    refine And.intro ?_ ?_
                    · -- 24: slot 140 := Op.fieldAddr 30 (Operand.tmp 8) 2
                      refine lstep_run fun fr wf left => ?_
                      obtain ⟨x22, e22, r22⟩ := left.slot 192 rfl 22 138 _ rfl rfl (by decide) rfl
                      have s22 := Eq.symm (show x22 = .bool true from r22)
                      subst s22
                      have o8 := (left.old 8 (by kernel_rfl)).trans rfl
                      refine ⟨wanted_yes rfl rfl e22, fun K hK => ?_⟩
                      have hB := hide left.base
                      clear left
                      go_simp
                      exact hK _ _ rfl hB.out (Below.refl _ _)
                    refine And.intro ?_ ?_
                    · -- 25: slot 141 := Op.load 9 (Operand.tmp 140)
                      refine lstep_run fun fr wf left => ?_
                      obtain ⟨x22, e22, r22⟩ := left.slot 192 rfl 22 138 _ rfl rfl (by decide) rfl
                      have s22 := Eq.symm (show x22 = .bool true from r22)
                      subst s22
                      obtain ⟨x24, e24, r24⟩ := left.slot 192 rfl 24 140 _ rfl rfl (by decide) rfl
                      have s24 := Eq.symm (show x24 = .pointer (some ⟨b8, 2, none⟩) from r24)
                      subst s24
                      refine ⟨wanted_yes rfl rfl e22, fun K hK => ?_⟩
                      have hB := hide left.base
                      have hc := (cell_blk ((hB.out.block b8 (heap_lt HWD.out.2.2.2.2.1)).trans HWD.out.2.2.2.2.1) 2).trans rfl
                      clear left
                      go_simp
                      exact hK _ _ rfl hB.out (Below.refl _ _)
                    refine And.intro ?_ ?_
                    · -- 26: slot 142 := Op.call { callee := Callee.value (Operand.func 18), args := #[Operand.tmp 139, Operand.tmp
                      refine lstep_run fun fr wf left => ?_
                      obtain ⟨x22, e22, r22⟩ := left.slot 192 rfl 22 138 _ rfl rfl (by decide) rfl
                      have s22 := Eq.symm (show x22 = .bool true from r22)
                      subst s22
                      obtain ⟨x23, e23, r23⟩ := left.slot 192 rfl 23 139 _ rfl rfl (by decide) rfl
                      have s23 := Eq.symm (show x23 = .pointer (some ⟨Dn.g, 0, none⟩) from r23)
                      subst s23
                      obtain ⟨x25, e25, r25⟩ := left.slot 192 rfl 25 141 _ rfl rfl (by decide) rfl
                      have s25 := Eq.symm (show x25 = .string name from r25)
                      subst s25
                      refine ⟨wanted_yes rfl rfl e22, fun K hK => ?_⟩
                      have hB := hide left.base
                      clear left
                      go_simp
                      refine (size_val Dn sN name 0 _ (HWD.out.2.2.1.past hB.out) HO.out.name HSN.out.2.2.2.2.1).mono ?_
                      rintro e w' ⟨rfl, rfl⟩
                      exact hK _ _ rfl hB.out (Below.refl _ _)
                    refine And.intro ?_ ?_
                    · -- 27: slot 143 := Op.binOp BinOp.eql 3 (Operand.tmp 142) (Operand.const (Value.int IntKind.i64 0)) 3
                      refine lstep_run fun fr wf left => ?_
                      obtain ⟨x22, e22, r22⟩ := left.slot 192 rfl 22 138 _ rfl rfl (by decide) rfl
                      have s22 := Eq.symm (show x22 = .bool true from r22)
                      subst s22
                      obtain ⟨x26, e26, r26⟩ := left.slot 192 rfl 26 142 _ rfl rfl (by decide) rfl
                      have s26 := Eq.symm (show x26 = .int .i64 0 from r26)
                      subst s26
                      refine ⟨wanted_yes rfl rfl e22, fun K hK => ?_⟩
                      have hB := hide left.base
                      clear left
                      go_simp
                      exact hK _ _ rfl hB.out (Below.refl _ _)
                    refine And.intro ?_ ?_
                    · -- 28: slot 144 := Op.pick (Operand.tmp 138) (Operand.tmp 143) (Operand.const (Value.bool false))
                      refine lstep_run fun fr wf left => ?_
                      obtain ⟨x22, e22, r22⟩ := left.slot 192 rfl 22 138 _ rfl rfl (by decide) rfl
                      have s22 := Eq.symm (show x22 = .bool true from r22)
                      subst s22
                      obtain ⟨x27, e27, r27⟩ := left.slot 192 rfl 27 143 _ rfl rfl (by decide) rfl
                      have s27 := Eq.symm (show x27 = .bool true from r27)
                      subst s27
                      refine ⟨wanted_none rfl, fun K hK => ?_⟩
                      have hB := hide left.base
                      clear left
                      go_simp
                      exact hK _ _ rfl hB.out (Below.refl _ _)
                    refine And.intro ?_ ?_
                    · -- 29: slot 145 := Op.move (Operand.tmp 144)
                      refine lstep_run fun fr wf left => ?_
                      obtain ⟨x28, e28, r28⟩ := left.slot 192 rfl 28 144 _ rfl rfl (by decide) rfl
                      have s28 := Eq.symm (show x28 = .bool true from r28)
                      subst s28
                      refine ⟨wanted_none rfl, fun K hK => ?_⟩
                      have hB := hide left.base
                      clear left
                      go_simp
                      exact hK _ _ rfl hB.out (Below.refl _ _)
                    refine And.intro ?_ ?_
                    · -- 30: slot 146 := Op.move (Operand.tmp 5)
                      refine lstep_run fun fr wf left => ?_
                      obtain ⟨x29, e29, r29⟩ := left.slot 192 rfl 29 145 _ rfl rfl (by decide) rfl
                      have s29 := Eq.symm (show x29 = .bool true from r29)
                      subst s29
                      have o5 := (left.old 5 (by kernel_rfl)).trans rfl
                      refine ⟨wanted_yes rfl rfl e29, fun K hK => ?_⟩
                      have hB := hide left.base
                      clear left
                      go_simp
                      exact hK _ _ rfl hB.out (Below.refl _ _)
                    refine And.intro ?_ ?_
                    · -- 31: slot 147 := Op.load 30 (Operand.tmp 8)
                      refine lstep_run fun fr wf left => ?_
                      obtain ⟨x29, e29, r29⟩ := left.slot 192 rfl 29 145 _ rfl rfl (by decide) rfl
                      have s29 := Eq.symm (show x29 = .bool true from r29)
                      subst s29
                      have o8 := (left.old 8 (by kernel_rfl)).trans rfl
                      refine ⟨wanted_yes rfl rfl e29, fun K hK => ?_⟩
                      have hB := hide left.base
                      have hc := (hB.out.block b8 (heap_lt HWD.out.2.2.2.2.1)).trans HWD.out.2.2.2.2.1
                      clear left
                      refine wp_load_row 30 (.tmp 8) rfl b8 (eval_tmp (v := .pointer (some ⟨b8, 0, none⟩)) o8) 30 _ (0, 0) _ hc Try.underlying30 rfl (by kernel_rfl) ?_
                      exact hK _ _ rfl hB.out (Below.refl _ _)
                    refine And.intro ?_ ?_
                    · -- 32: slot 148 := Op.call { callee := Callee.value (Operand.func 24), args := #[Operand.tmp 146, Operand.tmp
                      refine lstep_run fun fr wf left => ?_
                      obtain ⟨x29, e29, r29⟩ := left.slot 192 rfl 29 145 _ rfl rfl (by decide) rfl
                      have s29 := Eq.symm (show x29 = .bool true from r29)
                      subst s29
                      obtain ⟨x30, e30, r30⟩ := left.slot 192 rfl 30 146 _ rfl rfl (by decide) rfl
                      have s30 := Eq.symm (show x30 = .pointer (some ⟨Dn.g, 0, none⟩) from r30)
                      subst s30
                      obtain ⟨x31, e31, r31⟩ := left.slot 192 rfl 31 147 _ rfl rfl (by decide) rfl
                      have s31 := Eq.symm (show x31 = .agg #[.int .i64 kind, .int .i64 which, .string name, .string data, .int .i64 (y : Int), .int .i64 n, .slice ka klen kcap] from r31)
                      subst s31
                      refine ⟨wanted_yes rfl rfl e29, fun K hK => ?_⟩
                      have hB := hide left.base
                      clear left
                      go_simp
                      refine (HACTD.out _ hB.out).mono ?_
                      rintro e w' ⟨rfl, hb⟩
                      exact hK _ _ rfl (hB.out.trans (hb.mono (le_base hB.out))) hb
                    refine And.intro ?_ ?_
                    · -- 33: slot 149 := Op.binOp BinOp.eql 3 (Operand.tmp 148) (Operand.const (Value.int IntKind.i64 170)) 3
                      refine lstep_run fun fr wf left => ?_
                      obtain ⟨x29, e29, r29⟩ := left.slot 192 rfl 29 145 _ rfl rfl (by decide) rfl
                      have s29 := Eq.symm (show x29 = .bool true from r29)
                      subst s29
                      obtain ⟨x32, e32, r32⟩ := left.slot 192 rfl 32 148 _ rfl rfl (by decide) rfl
                      have s32 := Eq.symm (show x32 = .int .i64 170 from r32)
                      subst s32
                      refine ⟨wanted_yes rfl rfl e29, fun K hK => ?_⟩
                      have hB := hide left.base
                      clear left
                      go_simp
                      exact hK _ _ rfl hB.out (Below.refl _ _)
                    refine And.intro ?_ ?_
                    · -- 34: slot 150 := Op.pick (Operand.tmp 145) (Operand.tmp 149) (Operand.const (Value.bool false))
                      refine lstep_run fun fr wf left => ?_
                      obtain ⟨x29, e29, r29⟩ := left.slot 192 rfl 29 145 _ rfl rfl (by decide) rfl
                      have s29 := Eq.symm (show x29 = .bool true from r29)
                      subst s29
                      obtain ⟨x33, e33, r33⟩ := left.slot 192 rfl 33 149 _ rfl rfl (by decide) rfl
                      have s33 := Eq.symm (show x33 = .bool true from r33)
                      subst s33
                      refine ⟨wanted_none rfl, fun K hK => ?_⟩
                      have hB := hide left.base
                      clear left
                      go_simp
                      exact hK _ _ rfl hB.out (Below.refl _ _)
                    refine And.intro ?_ ?_
                    · -- 35: slot 151 := Op.move (Operand.tmp 150)
                      refine lstep_run fun fr wf left => ?_
                      obtain ⟨x34, e34, r34⟩ := left.slot 192 rfl 34 150 _ rfl rfl (by decide) rfl
                      have s34 := Eq.symm (show x34 = .bool true from r34)
                      subst s34
                      refine ⟨wanted_none rfl, fun K hK => ?_⟩
                      have hB := hide left.base
                      clear left
                      go_simp
                      exact hK _ _ rfl hB.out (Below.refl _ _)
                    refine And.intro ?_ ?_
                    · -- 36: slot 152 := Op.move (Operand.tmp 5)
                      refine lstep_run fun fr wf left => ?_
                      obtain ⟨x35, e35, r35⟩ := left.slot 192 rfl 35 151 _ rfl rfl (by decide) rfl
                      have s35 := Eq.symm (show x35 = .bool true from r35)
                      subst s35
                      have o5 := (left.old 5 (by kernel_rfl)).trans rfl
                      refine ⟨wanted_yes rfl rfl e35, fun K hK => ?_⟩
                      have hB := hide left.base
                      clear left
                      go_simp
                      exact hK _ _ rfl hB.out (Below.refl _ _)
                    refine And.intro ?_ ?_
                    · -- 37: slot 153 := Op.call { callee := Callee.value (Operand.func 19), args := #[Operand.tmp 152], argTypes :
                      refine lstep_run fun fr wf left => ?_
                      obtain ⟨x35, e35, r35⟩ := left.slot 192 rfl 35 151 _ rfl rfl (by decide) rfl
                      have s35 := Eq.symm (show x35 = .bool true from r35)
                      subst s35
                      obtain ⟨x36, e36, r36⟩ := left.slot 192 rfl 36 152 _ rfl rfl (by decide) rfl
                      have s36 := Eq.symm (show x36 = .pointer (some ⟨Dn.g, 0, none⟩) from r36)
                      subst s36
                      refine ⟨wanted_yes rfl rfl e35, fun K hK => ?_⟩
                      have hB := hide left.base
                      clear left
                      go_simp
                      refine (acts_val Dn sN (i + 1) _ (HWD.out.2.2.1.past hB.out) HSN.out.2.2.2.1).mono ?_
                      rintro e w' ⟨rfl, rfl⟩
                      exact hK _ _ rfl hB.out (Below.refl _ _)
                    refine And.intro ?_ ?_
                    · -- 38: slot 154 := Op.fieldAddr 59 (Operand.tmp 3) 0
                      refine lstep_run fun fr wf left => ?_
                      obtain ⟨x35, e35, r35⟩ := left.slot 192 rfl 35 151 _ rfl rfl (by decide) rfl
                      have s35 := Eq.symm (show x35 = .bool true from r35)
                      subst s35
                      have o3 := (left.old 3 (by kernel_rfl)).trans rfl
                      refine ⟨wanted_yes rfl rfl e35, fun K hK => ?_⟩
                      have hB := hide left.base
                      clear left
                      go_simp
                      exact hK _ _ rfl hB.out (Below.refl _ _)
                    refine And.intro ?_ ?_
                    · -- 39: slot 155 := Op.load 3 (Operand.tmp 154)
                      refine lstep_run fun fr wf left => ?_
                      obtain ⟨x35, e35, r35⟩ := left.slot 192 rfl 35 151 _ rfl rfl (by decide) rfl
                      have s35 := Eq.symm (show x35 = .bool true from r35)
                      subst s35
                      obtain ⟨x38, e38, r38⟩ := left.slot 192 rfl 38 154 _ rfl rfl (by decide) rfl
                      have s38 := Eq.symm (show x38 = .pointer (some ⟨bf, 0, none⟩) from r38)
                      subst s38
                      refine ⟨wanted_yes rfl rfl e35, fun K hK => ?_⟩
                      have hB := hide left.base
                      have hc := (cell_blk ((hB.out.block bf (heap_lt HWD.out.2.2.2.1)).trans HWD.out.2.2.2.1) 0).trans rfl
                      clear left
                      go_simp
                      exact hK _ _ rfl hB.out (Below.refl _ _)
                    refine And.intro ?_ ?_
                    · -- 40: slot 156 := Op.binOp BinOp.eql 3 (Operand.tmp 153) (Operand.tmp 155) 3
                      refine lstep_run fun fr wf left => ?_
                      obtain ⟨x35, e35, r35⟩ := left.slot 192 rfl 35 151 _ rfl rfl (by decide) rfl
                      have s35 := Eq.symm (show x35 = .bool true from r35)
                      subst s35
                      obtain ⟨x37, e37, r37⟩ := left.slot 192 rfl 37 153 _ rfl rfl (by decide) rfl
                      have s37 := Eq.symm (show x37 = .int .i64 ((i + 1 : Nat) : Int) from r37)
                      subst s37
                      obtain ⟨x39, e39, r39⟩ := left.slot 192 rfl 39 155 _ rfl rfl (by decide) rfl
                      have s39 := Eq.symm (show x39 = .int .i64 ((i + 1 : Nat) : Int) from r39)
                      subst s39
                      refine ⟨wanted_yes rfl rfl e35, fun K hK => ?_⟩
                      have hB := hide left.base
                      clear left
                      go_simp
                      exact hK _ _ rfl hB.out (Below.refl _ _)
                    refine And.intro ?_ ?_
                    · -- 41: slot 157 := Op.pick (Operand.tmp 151) (Operand.tmp 156) (Operand.const (Value.bool false))
                      refine lstep_run fun fr wf left => ?_
                      obtain ⟨x35, e35, r35⟩ := left.slot 192 rfl 35 151 _ rfl rfl (by decide) rfl
                      have s35 := Eq.symm (show x35 = .bool true from r35)
                      subst s35
                      obtain ⟨x40, e40, r40⟩ := left.slot 192 rfl 40 156 _ rfl rfl (by decide) rfl
                      have s40 := Eq.symm (show x40 = .bool true from r40)
                      subst s40
                      refine ⟨wanted_none rfl, fun K hK => ?_⟩
                      have hB := hide left.base
                      clear left
                      go_simp
                      exact hK _ _ rfl hB.out (Below.refl _ _)
                    refine And.intro ?_ ?_
                    · -- 42: slot 4 := Op.assign (Operand.tmp 157)
                      refine lstep_run fun fr wf left => ?_
                      obtain ⟨x41, e41, r41⟩ := left.slot 192 rfl 41 157 _ rfl rfl (by decide) rfl
                      have s41 := Eq.symm (show x41 = .bool true from r41)
                      subst s41
                      refine ⟨wanted_none rfl, fun K hK => ?_⟩
                      have hB := hide left.base
                      clear left
                      go_simp
                      exact hK _ _ rfl hB.out (Below.refl _ _)
                    exact trivial
                  · intro fr wf hB hs hd hall hkeep
                    have h4 : fr.tmps.getD 4 undef = .bool true := hall 42 _ rfl (by simp)
                    have hfr := act_ext (frame_setL hs hkeep [116, 117, 118, 119, 120, 121, 122, 123, 124, 125, 126, 127, 128, 129, 130, 131, 132, 133, 134, 135, 136, 137, 138, 139, 140, 141, 142, 143, 144, 145, 146, 147, 148, 149, 150, 151, 152, 153, 154, 155, 156, 157, 4] (by kernel_rfl)) hd
                    clear hall hkeep hs hd
                    dsimp only [List.foldl, List.set_cons_zero, List.set_cons_succ] at hfr
                    generalize fr.tmps.getD 116 undef = q116 at hfr
                    generalize fr.tmps.getD 117 undef = q117 at hfr
                    generalize fr.tmps.getD 118 undef = q118 at hfr
                    generalize fr.tmps.getD 119 undef = q119 at hfr
                    generalize fr.tmps.getD 120 undef = q120 at hfr
                    generalize fr.tmps.getD 121 undef = q121 at hfr
                    generalize fr.tmps.getD 122 undef = q122 at hfr
                    generalize fr.tmps.getD 123 undef = q123 at hfr
                    generalize fr.tmps.getD 124 undef = q124 at hfr
                    generalize fr.tmps.getD 125 undef = q125 at hfr
                    generalize fr.tmps.getD 126 undef = q126 at hfr
                    generalize fr.tmps.getD 127 undef = q127 at hfr
                    generalize fr.tmps.getD 128 undef = q128 at hfr
                    generalize fr.tmps.getD 129 undef = q129 at hfr
                    generalize fr.tmps.getD 130 undef = q130 at hfr
                    generalize fr.tmps.getD 131 undef = q131 at hfr
                    generalize fr.tmps.getD 132 undef = q132 at hfr
                    generalize fr.tmps.getD 133 undef = q133 at hfr
                    generalize fr.tmps.getD 134 undef = q134 at hfr
                    generalize fr.tmps.getD 135 undef = q135 at hfr
                    generalize fr.tmps.getD 136 undef = q136 at hfr
                    generalize fr.tmps.getD 137 undef = q137 at hfr
                    generalize fr.tmps.getD 138 undef = q138 at hfr
                    generalize fr.tmps.getD 139 undef = q139 at hfr
                    generalize fr.tmps.getD 140 undef = q140 at hfr
                    generalize fr.tmps.getD 141 undef = q141 at hfr
                    generalize fr.tmps.getD 142 undef = q142 at hfr
                    generalize fr.tmps.getD 143 undef = q143 at hfr
                    generalize fr.tmps.getD 144 undef = q144 at hfr
                    generalize fr.tmps.getD 145 undef = q145 at hfr
                    generalize fr.tmps.getD 146 undef = q146 at hfr
                    generalize fr.tmps.getD 147 undef = q147 at hfr
                    generalize fr.tmps.getD 148 undef = q148 at hfr
                    generalize fr.tmps.getD 149 undef = q149 at hfr
                    generalize fr.tmps.getD 150 undef = q150 at hfr
                    generalize fr.tmps.getD 151 undef = q151 at hfr
                    generalize fr.tmps.getD 152 undef = q152 at hfr
                    generalize fr.tmps.getD 153 undef = q153 at hfr
                    generalize fr.tmps.getD 154 undef = q154 at hfr
                    generalize fr.tmps.getD 155 undef = q155 at hfr
                    generalize fr.tmps.getD 156 undef = q156 at hfr
                    generalize fr.tmps.getD 157 undef = q157 at hfr
                    generalize fr.tmps.getD 4 undef = q4 at hfr h4
                    subst hfr
                    subst h4
                    have HBF := hide hB
                    clear hB
                    go_wp2_with fail
                    go_ret
                    exact ⟨rfl, HWD.out.2.2.2.2.2.trans (HBF.out.mono HWD.out.2.2.2.2.2.size)⟩
                  -- END REGION fatd
      · have hii : decide ((i : Int) < 60) = false := decide_eq_false (by omega)
        have hi2 : ¬ (i : Int) < 60 := by omega
        go_wp2_with fail
        refine (down_val Da _ false wr HR.out.2.2.1 rfl).mono ?_
        rintro e wz ⟨rfl, he⟩
        subst he
        go_wp2_with fail
        go_ret
        exact ⟨rfl, HR.out.2.2.2.2.2⟩
    · have hii : ¬ (i : Int) < (len1 : Int) := by omega
      go_wp2_with fail
      refine (down_val Da _ false wr HR.out.2.2.1 rfl).mono ?_
      rintro e wz ⟨rfl, he⟩
      subst he
      go_wp2_with fail
      go_ret
      exact ⟨rfl, HR.out.2.2.2.2.2⟩
end Go.Proofs.Ytiiblpgiafbaoaa
