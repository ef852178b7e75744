/-
  massiflaw17.DiskLooks: looking between the acts changes nothing: the walk.
-/
import Derived.Test.YtiiblpgiafbaoaaLawOps
import Derived.Test.YtiiblpgiafbaoaaRegionTwo
namespace Go.Proofs.Ytiiblpgiafbaoaa
open Go Go.RowKit Go.Maps
namespace Dk
theorem writeC_keeps (s : St) (n : ByteArray) (off : Int) (x : ByteArray) : (writeC s n off x).2.left = s.left ∧ (writeC s n off x).2.acts ≤ s.acts + 1 ∧ (writeC s n off x).2.files.length ≤ s.files.length + 1 := by
  unfold writeC
  split
  · exact ⟨rfl, Nat.le_succ _, Nat.le_succ _⟩
  · split
    · exact ⟨rfl, Nat.le_succ _, Nat.le_succ _⟩
    · split
      · exact ⟨rfl, Nat.le_succ _, Nat.le_succ _⟩
      · exact ⟨rfl, Nat.le_refl _, len_put _ _ _⟩
theorem cutC_keeps (s : St) (n : ByteArray) (k : Int) : (cutC s n k).2.left = s.left ∧ (cutC s n k).2.acts ≤ s.acts + 1 ∧ (cutC s n k).2.files.length ≤ s.files.length + 1 := by
  unfold cutC
  split
  · exact ⟨rfl, Nat.le_succ _, Nat.le_succ _⟩
  · split
    · exact ⟨rfl, Nat.le_succ _, Nat.le_succ _⟩
    · exact ⟨rfl, Nat.le_refl _, len_put _ _ _⟩
theorem syncC_keeps (s : St) (n : ByteArray) : (syncC s n).2.left = s.left ∧ (syncC s n).2.acts ≤ s.acts + 1 ∧ (syncC s n).2.files.length ≤ s.files.length + 1 := by
  unfold syncC
  split
  · exact ⟨rfl, Nat.le_succ _, Nat.le_succ _⟩
  · exact ⟨rfl, Nat.le_refl _, len_put _ _ _⟩
theorem opC_keeps (s : St) (o : OpV) : (opC s o).2.left = s.left ∧ (opC s o).2.acts ≤ s.acts + 1 ∧ (opC s o).2.files.length ≤ s.files.length + 1 := by
  unfold opC
  split
  · exact writeC_keeps s _ _ _
  · split
    · exact cutC_keeps s _ _
    · exact syncC_keeps s _
theorem wf_i64 {a : Int} (h0 : -9223372036854775808 ≤ a) (h1 : a ≤ 9223372036854775807) : (Lit.int .i64 a).wf = true := by
  have h : IntKind.i64.min ≤ a ∧ a ≤ IntKind.i64.max := ⟨h0, h1⟩
  simpa [Lit.wf] using h
theorem size_range {s : St} (h : Ok s) (n : ByteArray) : 0 ≤ size s n ∧ size s n ≤ 268435456 := by
  unfold size
  split
  · exact ⟨Int.le_refl _, by decide⟩
  · have := (get_sizes h n).1
    omega
end Dk
theorem bent_val (n m r : Int) (w : World) (hn : (Lit.int .i64 n).wf = true) (hm : -9223372036854775808 ≤ m ∧ m < 9223372036854775807) (hr : Dk.bent n m = r) :
    Calls Try.prog 11 #[.int .i64 n, .int .i64 m] w fun e w' => e = .returned (.int .i64 r) ∧ w' = w := by
  rw [← hr]; exact bent_any n m w hn hm
theorem act_at (D : Dk.Blk) (s : Dk.St) (o : Dk.OpV) (kv : Value) (r : Int) (s' : Dk.St) (w : World) (h : DiskAt w D s) (ho : Dk.OpOk o) (hleft : s.left = 0) (hacts : s.acts < 4611686018427387904) (hmany : s.files.length < 1099511627776) (hr : Dk.opC s o = (r, s')) :
    Calls Try.prog 24 #[.pointer (some ⟨D.g, 0, none⟩), .agg #[.int .i64 o.kind, .int .i64 o.which, .string o.name, .string o.data, .int .i64 o.at_, .int .i64 o.n, kv]] w fun e w' => e = .returned (.int .i64 r) ∧ DiskAt w' D s' ∧ Moved (Dk.own D) w w' :=
  act_any D s o kv r s' w h ho hleft hacts hmany hr
-- DEFS loka
def lokaL (Da : Dk.Blk) (name data : ByteArray) (kind which at_ at2 z n : Int) (ka : Option Addr) (klen kcap b8 : Nat) : List Sp :=
  [.is (.pointer (some ⟨b8, 4, none⟩)), .is (.int .i64 at_), .is (.pointer (some ⟨Da.g, 0, none⟩)), .is (.pointer (some ⟨b8, 2, none⟩)), .is (.string name), .is (.int .i64 z), .is (.int .i64 at2), .is (.pointer (some ⟨b8, 4, none⟩)), .say (fun u => u.heap[b8]? = some (.cells #[.int .i64 kind, .int .i64 which, .string name, .string data, .int .i64 at2, .int .i64 n, .slice ka klen kcap] 30 (0, 0))) (blk_stable)]
def lokaU : List (List Nat) := [[], [0], [], [], [3], [2, 4], [1, 5], [], [6, 7]]
-- END loka
-- DEFS lokb
def lokbL (Da Db : Dk.Blk) (s' : Dk.St) (name data : ByteArray) (kind which at2 n r : Int) (ka : Option Addr) (klen kcap b8 ra : Nat) (FL AL : List (ByteArray × ByteArray)) : List Sp :=
  [.is (.pointer (some ⟨Da.g, 0, none⟩)), .is (.agg #[.int .i64 kind, .int .i64 which, .string name, .string data, .int .i64 at2, .int .i64 n, .slice ka klen kcap]), .both (.int .i64 r) (fun u => DiskAt u Da s') (fun _ _ h hb => h.past hb), .is (.pointer (some ⟨Db.g, 0, none⟩)), .is (.agg #[.int .i64 kind, .int .i64 which, .string name, .string data, .int .i64 at2, .int .i64 n, .slice ka klen kcap]), .both (.int .i64 r) (fun u => DiskAt u Da s' ∧ DiskAt u Db s') (fun _ _ h hb => ⟨h.1.past hb, h.2.past hb⟩), .is (.bool false), .both (.bool false) (fun u => DiskAt u Da s' ∧ DiskAt u Db s') (fun _ _ h hb => ⟨h.1.past hb, h.2.past hb⟩), .is (.pointer (some ⟨Da.g, 0, none⟩)), .both (.int .i64 (ra : Int)) (fun u => DiskAt u Da s' ∧ DiskAt u Db s') (fun _ _ h hb => ⟨h.1.past hb, h.2.past hb⟩), .is (.pointer (some ⟨Db.g, 0, none⟩)), .both (.int .i64 (ra : Int)) (fun u => DiskAt u Da s' ∧ DiskAt u Db s') (fun _ _ h hb => ⟨h.1.past hb, h.2.past hb⟩), .is (.bool false), .is (.bool false), .both (.bool false) (fun u => DiskAt u Da s' ∧ DiskAt u Db s') (fun _ _ h hb => ⟨h.1.past hb, h.2.past hb⟩), .is (.pointer (some ⟨Da.g, 0, none⟩)), .rel (fun v u => SlF u v FL ∧ DiskAt u Da s' ∧ DiskAt u Db s') (fun _ _ _ h hb => ⟨h.1.below hb, h.2.1.past hb, h.2.2.past hb⟩), .is (.pointer (some ⟨Db.g, 0, none⟩)), .rel (fun v u => SlF u v FL ∧ DiskAt u Da s' ∧ DiskAt u Db s') (fun _ _ _ h hb => ⟨h.1.below hb, h.2.1.past hb, h.2.2.past hb⟩), .both (.bool true) (fun u => DiskAt u Da s' ∧ DiskAt u Db s') (fun _ _ h hb => ⟨h.1.past hb, h.2.past hb⟩), .is (.bool false), .is (.bool false), .both (.bool false) (fun u => DiskAt u Da s' ∧ DiskAt u Db s') (fun _ _ h hb => ⟨h.1.past hb, h.2.past hb⟩), .is (.pointer (some ⟨Da.g, 0, none⟩)), .is (.pointer (some ⟨b8, 6, none⟩)), .is (.slice ka klen kcap), .rel (fun v u => SlF u v AL ∧ DiskAt u Da s' ∧ DiskAt u Db s') (fun _ _ _ h hb => ⟨h.1.below hb, h.2.1.past hb, h.2.2.past hb⟩), .is (.pointer (some ⟨Db.g, 0, none⟩)), .is (.pointer (some ⟨b8, 6, none⟩)), .is (.slice ka klen kcap), .rel (fun v u => SlF u v AL ∧ DiskAt u Da s' ∧ DiskAt u Db s') (fun _ _ _ h hb => ⟨h.1.below hb, h.2.1.past hb, h.2.2.past hb⟩), .both (.bool true) (fun u => DiskAt u Da s' ∧ DiskAt u Db s') (fun _ _ h hb => ⟨h.1.past hb, h.2.past hb⟩), .is (.bool false), .is (.bool false)]
def lokbU : List (List Nat) := [[], [], [0, 1], [], [], [2, 3, 4], [2, 5], [5, 6], [7], [7, 8], [7], [7, 10], [7, 9, 11], [7, 12], [11, 13], [14], [14, 15], [14], [14, 17], [14, 16, 18], [14, 19], [14, 20], [19, 21], [22], [22], [22, 24], [22, 23, 25], [22], [22], [22, 28], [22, 27, 29], [22, 26, 30], [22, 31], [22, 32]]
-- END lokb
set_option maxHeartbeats 3200000 in
set_option maxRecDepth 100000 in
theorem looks_any (v1 v2 : Value) (ops looks : List Dk.OpV) (w : World) (h1 : OpsAt w v1 ops) (h2 : OpsAt w v2 looks) (hl1 : ops.length ≤ 140737488351232) (hl2 : looks.length ≤ 140737488351232) :
    Calls Try.prog 4 #[v1, v2] w fun e w' => e = .returned (.bool true) ∧ Below w.heap.size w w' := by
  obtain ⟨len1, a1, cap1, e1, rfl, hc1, HC1⟩ := h1.form
  obtain ⟨len2, a2, cap2, e2, rfl, hc2, HC2⟩ := h2.form
  have H1 := hide HC1
  have H2 := hide HC2
  have HOK := hide (And.intro h1.ok h2.ok)
  have HN := hide (And.intro e1 e2)
  have hn1 : len1 ≤ 140737488351232 := by omega
  have hn2 : len2 ≤ 140737488351232 := by omega
  clear h1 h2 HC1 HC2 e1 e2 hl1 hl2
  go_enter Try.func4, Try.ntmps4
  go_wp2_with fail
  refine (alive_any _).mono ?_
  rintro e w1 ⟨rfl, hb1⟩
  have HB1 := hide hb1
  clear hb1
  go_wp2_with fail
  refine (diskNew_any 1048576 w1 (by decide)).mono ?_
  rintro e w2 ⟨Da, rfl, hDa, hga, hma, hkva, hba⟩
  have HA := hide (And.intro hDa (And.intro hga (And.intro hma (And.intro hkva hba))))
  clear hDa hga hma hkva hba
  go_wp2_with fail
  refine (diskNew_any 1048576 w2 (by decide)).mono ?_
  rintro e w3 ⟨Db, rfl, hDb, hgb, hmb, hkvb, hbb⟩
  have HBB := hide (And.intro hDb (And.intro hgb (And.intro hmb (And.intro hkvb hbb))))
  have HDa := hide (HA.out.1.past hbb)
  have hglt : Da.g < w2.heap.size ∧ Da.mb < w2.heap.size := ⟨HA.out.1.glt, HA.out.1.map.lt⟩
  have HAW := hide (show Dk.Away Da (Dk.own Db) from ⟨fun h => by rcases h with h | h <;> omega, fun h => by rcases h with h | h <;> omega, fun k hk => by rw [HA.out.2.2.2.1] at hk; cases hk⟩)
  have HBW := hide (show Dk.Away Db (Dk.own Da) from ⟨fun h => by rcases h with h | h <;> omega, fun h => by rcases h with h | h <;> omega, fun k hk => by rw [hkvb] at hk; cases hk⟩)
  have HG := hide (show w.heap.size ≤ Da.g ∧ w.heap.size ≤ Da.mb ∧ w.heap.size ≤ Db.g ∧ w.heap.size ≤ Db.mb from by
    have := HB1.out.size; have := HA.out.2.1; have := HA.out.2.2.1; have := HA.out.2.2.2.2.size; omega)
  have HB3 := hide (show Below w.heap.size w w3 from HB1.out.trans ((HA.out.2.2.2.2.trans (hbb.mono HA.out.2.2.2.2.size)).mono HB1.out.size))
  clear hDb hgb hmb hkvb hbb hglt
  go_wp2_with fail
  go_loopg [7] 40 (fun g v7 wr => ∃ (i : Nat) (s : Dk.St), i ≤ 40 ∧ g = 40 - i ∧ v7 = .int .i64 i ∧ Hid (DiskAt wr Da s ∧ DiskAt wr Db s ∧ s.left = 0 ∧ s.acts ≤ i ∧ s.files.length ≤ i ∧ Below w.heap.size w wr))
  case atStart => exact ⟨0, Dk.newSt 1048576, by omega, rfl, rfl, HDa.out, HBB.out.1, rfl, Nat.le_refl _, Nat.le_refl _, HB3.out⟩
  case round =>
    obtain ⟨i, s, hi40, rfl, rfl, HR⟩ := hrel
    by_cases hil : i < len1
    · by_cases hi : i < 40
      · obtain ⟨o, ho⟩ : ∃ o, ops[i]? = some o := ⟨_, List.getElem?_eq_getElem (by rw [← HN.out.1]; exact hil)⟩
        obtain ⟨b, off, kv, rfl, hbw, hrange, hkv⟩ := H1.out i o ho
        have hok := HOK.out.1 o (List.mem_of_getElem? ho)
        have hbel := HR.out.2.2.2.2.2
        have HRG := hide (show wr.rangeAt b (off + i * 7) (Dk.opCells o kv) from fun j v hv => by rw [hbel.cell (p := ⟨b, off + i * 7 + j, none⟩) hbw]; exact hrange j v hv)
        have HKV := hide (show SlV wr kv (o.keep.map Value.bool) from hkv.below hbel)
        have HKW := hide (show ∀ k, Dk.slBlk kv = some k → k < w.heap.size from fun k hk => hkv.blk_lt hk)
        have HO := hide hok
        clear ho hbw hrange hkv hok hbel
        obtain ⟨kind, which, name, data, at_, n, keep⟩ := o
        unfold Dk.opCells at HRG
        obtain ⟨klen, ka, kcap, hkl, rfl, _, _⟩ := HKV.out.form
        rw [List.length_map] at hkl
        have HKL := hide hkl
        clear hkl
        go_upto_region 9 with (refine wpList_load_mid rfl 30 (.tmp 27) rfl b (off + i * 7) rfl _ _ HRG.out Try.underlying30 rfl (by kernel_rfl) ?_)
        obtain ⟨b8, hb8⟩ : ∃ x, x = wr.heap.size := ⟨_, rfl⟩
        rw [← hb8]
        obtain ⟨W8, hW8⟩ : ∃ V, V = wr.alloc (.cells #[.int .i64 kind, .int .i64 which, .string name, .string data, .int .i64 at_, .int .i64 n, .slice ka klen kcap] 30) := ⟨_, rfl⟩
        rw [← hW8]
        have hb : Below wr.heap.size wr W8 := by rw [hW8]; exact (Below.refl _ _).alloc (Nat.le_refl _) _
        have H8 := hide (show W8.heap[b8]? = some (.cells #[.int .i64 kind, .int .i64 which, .string name, .string data, .int .i64 at_, .int .i64 n, .slice ka klen kcap] 30 (0, 0)) by rw [hW8, hb8]; exact alloc_at _ _)
        have HD8 := hide (show DiskAt W8 Da s ∧ DiskAt W8 Db s ∧ SlV W8 (.slice ka klen kcap) (keep.map Value.bool) ∧ Below w.heap.size w W8 from ⟨HR.out.1.past hb, HR.out.2.1.past hb, HKV.out.below hb, HR.out.2.2.2.2.2.trans (hb.mono HR.out.2.2.2.2.2.size)⟩)
        have H88 := hide (show Da.g < b8 ∧ Da.mb < b8 ∧ Db.g < b8 ∧ Db.mb < b8 ∧ w.heap.size ≤ b8 ∧ (∀ k, Dk.slBlk (.slice ka klen kcap) = some k → k < b8) ∧ (∀ k, Dk.slBlk Da.kv = some k → k < b8) ∧ (∀ k, Dk.slBlk Db.kv = some k → k < b8) from by
          rw [hb8]
          exact ⟨HR.out.1.glt, HR.out.1.map.lt, HR.out.2.1.glt, HR.out.2.1.map.lt, HR.out.2.2.2.2.2.size, fun k hk => HKV.out.blk_lt hk, fun k hk => HR.out.1.keep.blk_lt hk, fun k hk => HR.out.2.1.keep.blk_lt hk⟩)
        clear hb hW8 hb8
        obtain ⟨z, hz⟩ : ∃ z, Dk.size s name = z := ⟨_, rfl⟩
        have HZ := hide hz
        have HZR := hide (show 0 ≤ z ∧ z ≤ 268435456 by rw [← hz]; exact Dk.size_range HR.out.1.ok name)
        obtain ⟨at2, hat⟩ : ∃ z', Dk.bent at_ z = z' := ⟨_, rfl⟩
        have HAT := hide hat
        have HAR := hide (show 0 ≤ at2 ∧ at2 ≤ z by rw [← hat]; exact Dk.bent_range HZR.out.1)
        clear hz hat
        go_cut [29] from 29 to 37 (fun v29 wx => Hid (Moved (fun k => k = b8) W8 wx ∧ wx.heap[b8]? = some (.cells #[.int .i64 kind, .int .i64 which, .string name, .string data, .int .i64 at2, .int .i64 n, .slice ka klen kcap] 30 (0, 0))))
        case first =>
-- REGION loka
          
          refine wp_region_local (by kernel_rfl) (by kernel_rfl) (useList lokaU) [8] (by kernel_rfl) (spR (lokaL Da name data kind which at_ at2 z n ka klen kcap b8)) (fun k u => k < 9 → Below W8.heap.size W8 u) (Moved (fun k => k = b8) W8) (oneE 8 (fun _ _ => True)) (one_stays (by simp [lokaL]) (by kernel_rfl)) (last_pre (fun _ _ h hb => h.trans (hb.mono h.size)) (by kernel_rfl)) (one_refl (fun _ => trivial)) (dsts_lt (N := 107) (by kernel_rfl)) ((Moved.refl _ _).drew) (fun _ _ _ => (Below.refl _ _).drew) (all_ops ?_) ?_
          · refine And.intro ?_ ?_
            · -- 0: slot 29 := Op.fieldAddr 30 (Operand.tmp 8) 4
              refine lstep_run fun fr wf left => ?_
              have o8 := (left.old 8 (by kernel_rfl)).trans rfl
              refine ⟨wanted_none rfl, fun K hK => ?_⟩
              have hB := hide left.base; have hP := hide (left.pre (by decide))
              clear left
              go_simp
              exact hK _ _ rfl hB.out (one_refl (fun _ => trivial) _ _)
            refine And.intro ?_ ?_
            · -- 1: slot 30 := Op.load 3 (Operand.tmp 29)
              refine lstep_run fun fr wf left => ?_
              obtain ⟨x0, e0, r0⟩ := left.slot 107 rfl 0 29 _ rfl rfl (by decide) rfl
              have s0 := Eq.symm (show x0 = .pointer (some ⟨b8, 4, none⟩) from r0)
              subst s0
              refine ⟨wanted_none rfl, fun K hK => ?_⟩
              have hB := hide left.base; have hP := hide (left.pre (by decide))
              have hc := (cell_blk ((hP.out.block b8 (heap_lt H8.out)).trans H8.out) 4).trans rfl
              clear left
              go_simp
              exact hK _ _ rfl hB.out (one_refl (fun _ => trivial) _ _)
            refine And.intro ?_ ?_
            · -- 2: slot 31 := Op.move (Operand.tmp 5)
              refine lstep_run fun fr wf left => ?_
              have o5 := (left.old 5 (by kernel_rfl)).trans rfl
              refine ⟨wanted_none rfl, fun K hK => ?_⟩
              have hB := hide left.base; have hP := hide (left.pre (by decide))
              clear left
              go_simp
              exact hK _ _ rfl hB.out (one_refl (fun _ => trivial) _ _)
            refine And.intro ?_ ?_
            · -- 3: slot 32 := Op.fieldAddr 30 (Operand.tmp 8) 2
              refine lstep_run fun fr wf left => ?_
              have o8 := (left.old 8 (by kernel_rfl)).trans rfl
              refine ⟨wanted_none rfl, fun K hK => ?_⟩
              have hB := hide left.base; have hP := hide (left.pre (by decide))
              clear left
              go_simp
              exact hK _ _ rfl hB.out (one_refl (fun _ => trivial) _ _)
            refine And.intro ?_ ?_
            · -- 4: slot 33 := Op.load 9 (Operand.tmp 32)
              refine lstep_run fun fr wf left => ?_
              obtain ⟨x3, e3, r3⟩ := left.slot 107 rfl 3 32 _ rfl rfl (by decide) rfl
              have s3 := Eq.symm (show x3 = .pointer (some ⟨b8, 2, none⟩) from r3)
              subst s3
              refine ⟨wanted_none rfl, fun K hK => ?_⟩
              have hB := hide left.base; have hP := hide (left.pre (by decide))
              have hc := (cell_blk ((hP.out.block b8 (heap_lt H8.out)).trans H8.out) 2).trans rfl
              clear left
              go_simp
              exact hK _ _ rfl hB.out (one_refl (fun _ => trivial) _ _)
            refine And.intro ?_ ?_
            · -- 5: slot 34 := Op.call { callee := Callee.value (Operand.func 18), args := #[Operand.tmp 31, Operand.tmp 
              refine lstep_run fun fr wf left => ?_
              obtain ⟨x2, e2, r2⟩ := left.slot 107 rfl 2 31 _ rfl rfl (by decide) rfl
              have s2 := Eq.symm (show x2 = .pointer (some ⟨Da.g, 0, none⟩) from r2)
              subst s2
              obtain ⟨x4, e4, r4⟩ := left.slot 107 rfl 4 33 _ rfl rfl (by decide) rfl
              have s4 := Eq.symm (show x4 = .string name from r4)
              subst s4
              refine ⟨wanted_none rfl, fun K hK => ?_⟩
              have hB := hide left.base; have hP := hide (left.pre (by decide))
              clear left
              go_simp
              refine (size_val Da s name z _ (HD8.out.1.past hP.out) HO.out.name HZ.out).mono ?_
              rintro e w' ⟨rfl, rfl⟩
              exact hK _ _ rfl hB.out (one_refl (fun _ => trivial) _ _)
            refine And.intro ?_ ?_
            · -- 6: slot 35 := Op.call { callee := Callee.value (Operand.func 11), args := #[Operand.tmp 30, Operand.tmp 
              refine lstep_run fun fr wf left => ?_
              obtain ⟨x1, e1, r1⟩ := left.slot 107 rfl 1 30 _ rfl rfl (by decide) rfl
              have s1 := Eq.symm (show x1 = .int .i64 at_ from r1)
              subst s1
              obtain ⟨x5, e5, r5⟩ := left.slot 107 rfl 5 34 _ rfl rfl (by decide) rfl
              have s5 := Eq.symm (show x5 = .int .i64 z from r5)
              subst s5
              refine ⟨wanted_none rfl, fun K hK => ?_⟩
              have hB := hide left.base; have hP := hide (left.pre (by decide))
              clear left
              go_simp
              refine (bent_val at_ z at2 _ HO.out.at_ (by have := HZR.out; omega) HAT.out).mono ?_
              rintro e w' ⟨rfl, rfl⟩
              exact hK _ _ rfl hB.out (one_refl (fun _ => trivial) _ _)
            refine And.intro ?_ ?_
            · -- 7: slot 36 := Op.fieldAddr 30 (Operand.tmp 8) 4
              refine lstep_run fun fr wf left => ?_
              have o8 := (left.old 8 (by kernel_rfl)).trans rfl
              refine ⟨wanted_none rfl, fun K hK => ?_⟩
              have hB := hide left.base; have hP := hide (left.pre (by decide))
              clear left
              go_simp
              exact hK _ _ rfl hB.out (one_refl (fun _ => trivial) _ _)
            refine And.intro ?_ ?_
            · -- 8: slot None := Op.store 3 (Operand.tmp 36) (Operand.tmp 35)
              refine lstep_run fun fr wf left => ?_
              obtain ⟨x6, e6, r6⟩ := left.slot 107 rfl 6 35 _ rfl rfl (by decide) rfl
              have s6 := Eq.symm (show x6 = .int .i64 at2 from r6)
              subst s6
              obtain ⟨x7, e7, r7⟩ := left.slot 107 rfl 7 36 _ rfl rfl (by decide) rfl
              have s7 := Eq.symm (show x7 = .pointer (some ⟨b8, 4, none⟩) from r7)
              subst s7
              refine ⟨wanted_none rfl, fun K hK => ?_⟩
              have hB := hide left.base; have hP := hide (left.pre (by decide))
              clear left
              have hbk := (hP.out.block b8 (heap_lt H8.out)).trans H8.out
              have hc := (cell_blk hbk 4).trans rfl
              have hf0 := frozen_blk hbk 4
              go_simp
              refine hK undef _ ?_ (hB.out.setCell (a := ⟨b8, 4, none⟩) rfl _) (one_at rfl)
              exact (heap_setCell_same _ _ _ _ _ _ hbk).trans (by simp)
            exact trivial
          · intro fr wf hB hs hd hall hkeep
            have h8 : wf.heap[b8]? = some (.cells #[.int .i64 kind, .int .i64 which, .string name, .string data, .int .i64 at2, .int .i64 n, .slice ka klen kcap] 30 (0, 0)) := hall 8 _ rfl (by simp)
            have hfr := act_ext (frame_set hs hkeep [29, 30, 31, 32, 33, 34, 35, 36] (by kernel_rfl)) hd
            obtain ⟨q29, hq29⟩ : ∃ q, q = fr.tmps.getD 29 undef := ⟨_, rfl⟩
            obtain ⟨q30, hq30⟩ : ∃ q, q = fr.tmps.getD 30 undef := ⟨_, rfl⟩
            obtain ⟨q31, hq31⟩ : ∃ q, q = fr.tmps.getD 31 undef := ⟨_, rfl⟩
            obtain ⟨q32, hq32⟩ : ∃ q, q = fr.tmps.getD 32 undef := ⟨_, rfl⟩
            obtain ⟨q33, hq33⟩ : ∃ q, q = fr.tmps.getD 33 undef := ⟨_, rfl⟩
            obtain ⟨q34, hq34⟩ : ∃ q, q = fr.tmps.getD 34 undef := ⟨_, rfl⟩
            obtain ⟨q35, hq35⟩ : ∃ q, q = fr.tmps.getD 35 undef := ⟨_, rfl⟩
            obtain ⟨q36, hq36⟩ : ∃ q, q = fr.tmps.getD 36 undef := ⟨_, rfl⟩
            simp only [List.foldl, ← hq29, ← hq30, ← hq31, ← hq32, ← hq33, ← hq34, ← hq35, ← hq36] at hfr
            simp only [List.setIfInBounds_toArray, List.set_cons_zero, List.set_cons_succ] at hfr
            clear hall hkeep hs hd hq29 hq30 hq31 hq32 hq33 hq34 hq35 hq36
            subst hfr
            have HBF := hide (And.intro hB h8)
            clear hB h8
            go_wp2_with fail
            go_meet
            case rel => exact HBF.out
          -- END REGION loka
        obtain ⟨hm9, h89⟩ := hcut.out
        have H9 := hide (show DiskAt wc Da s ∧ DiskAt wc Db s ∧ SlV wc (.slice ka klen kcap) (keep.map Value.bool) ∧ Below w.heap.size w wc from by
          obtain ⟨q1, q2, q3, q4, q5, q6, q7, q8⟩ := H88.out
          refine ⟨HD8.out.1.stay hm9 ⟨fun e => by omega, fun e => by omega, fun k hk e => by have := q7 k hk; omega⟩, HD8.out.2.1.stay hm9 ⟨fun e => by omega, fun e => by omega, fun k hk e => by have := q8 k hk; omega⟩, HD8.out.2.2.1.stay hm9.size (fun k hk hlt => hm9.block k hlt (fun e => by have := q6 k hk; omega)), HD8.out.2.2.2.trans (hm9.below HD8.out.2.2.2.size (fun j hj => by omega))⟩)
        have H89 := hide h89
        clear hm9 h89 hcut
        go_wp2_with fail
        go_loopg [9] 10 (fun g v9 wq => ∃ j : Nat, j ≤ 10 ∧ g = 10 - j ∧ v9 = .int .i64 j ∧ Hid (Below wc.heap.size wc wq))
        case atStart => exact ⟨0, by omega, rfl, rfl, Below.refl _ _⟩
        case round =>
          obtain ⟨j, hj10, rfl, rfl, HQ⟩ := hrel
          obtain ⟨g, hg⟩ : ∃ g : Bool, g = decide (j < len2 ∧ j < 10) := ⟨_, rfl⟩
          have HGG := hide hg
          clear hg
          go_upto_region 11 with (fail)
          go_cut [44] from 37 to 45 (fun v44 wx => Hid (wr = wx) ∧ v44 = .bool g)
          case first =>
            by_cases hjl : j < len2
            · by_cases hj : j < 10
              · have hg : g = true := by rw [HGG.out]; exact decide_eq_true ⟨hjl, hj⟩
                subst hg
                go_wp2_with fail
                go_meet
                case rel => exact ⟨rfl, by first | rfl | exact congrArg Value.bool (decide_eq_true (by omega))⟩
              · have hg : g = false := by rw [HGG.out]; exact decide_eq_false (fun h => hj h.2)
                have hji : decide ((j : Int) < 10) = false := decide_eq_false (by omega)
                subst hg
                go_wp2_with fail
                go_meet
                case rel => exact ⟨rfl, by first | rfl | exact congrArg Value.bool hji | exact congrArg Value.bool (decide_eq_false hj)⟩
            · have hg : g = false := by rw [HGG.out]; exact decide_eq_false (fun h => hjl h.1)
              have hji : decide ((j : Int) < (len2 : Int)) = false := decide_eq_false (by omega)
              subst hg
              go_wp2_with fail
              go_meet
              case rel => exact ⟨rfl, by first | rfl | exact congrArg Value.bool hji | exact congrArg Value.bool (decide_eq_false hjl)⟩
          obtain ⟨hw, rfl⟩ := hcut
          have hw2 := hw.out
          subst hw2
          clear hw
          cases g with
          | true =>
            obtain ⟨hjl, hj⟩ := of_decide_eq_true HGG.out.symm
            obtain ⟨x, hx⟩ : ∃ x, looks[j]? = some x := ⟨_, List.getElem?_eq_getElem (by rw [← HN.out.2]; exact hjl)⟩
            obtain ⟨xb, xo, xv, rfl, hxw, hxr, hxk⟩ := H2.out j x hx
            have hxok := HOK.out.2 x (List.mem_of_getElem? hx)
            have hbel := H9.out.2.2.2.trans (HQ.out.mono H9.out.2.2.2.size)
            have HXR := hide (show wr.rangeAt xb (xo + j * 7) (Dk.opCells x xv) from fun q v hv => by rw [hbel.cell (p := ⟨xb, xo + j * 7 + q, none⟩) hxw]; exact hxr q v hv)
            have HXK := hide (show SlV wr xv (x.keep.map Value.bool) from hxk.below hbel)
            have HXO := hide hxok
            clear hx hxw hxr hxk hxok hbel
            obtain ⟨xkind, xwhich, xname, xdata, xat, xn, xkeep⟩ := x
            unfold Dk.opCells at HXR
            obtain ⟨xl, xa, xc, hxl, rfl, _, _⟩ := HXK.out.form
            clear hxl
            obtain ⟨W13, hW13⟩ : ∃ V, V = wr.alloc (.cells #[.int .i64 xkind, .int .i64 xwhich, .string xname, .string xdata, .int .i64 xat, .int .i64 xn, .slice xa xl xc] 30) := ⟨_, rfl⟩
            go_upto_region 14 with (refine wpList_load_mid rfl 30 (.tmp 49) rfl xb (xo + j * 7) rfl _ _ HXR.out Try.underlying30 rfl (by kernel_rfl) ?_)
            rw [← hW13]
            have hb13 : Below wr.heap.size wr W13 := by rw [hW13]; exact (Below.refl _ _).alloc (Nat.le_refl _) _
            have hbc : Below wc.heap.size wc W13 := HQ.out.trans (hb13.mono HQ.out.size)
            have hx13 : W13.heap[wr.heap.size]? = some (.cells #[.int .i64 xkind, .int .i64 xwhich, .string xname, .string xdata, .int .i64 xat, .int .i64 xn, .slice xa xl xc] 30 (0, 0)) := by rw [hW13]; exact alloc_at _ _
            have H13 := hide (show DiskAt W13 Db s ∧ SlV W13 (.slice xa xl xc) (xkeep.map Value.bool) ∧ Below wc.heap.size wc W13 from ⟨H9.out.2.1.past hbc, HXK.out.below hb13, hbc⟩)
            have c2 : W13.cell? ⟨wr.heap.size, 2, none⟩ = some (.string xname) := (cell_blk hx13 2).trans rfl
            have c4 : W13.cell? ⟨wr.heap.size, 4, none⟩ = some (.int .i64 xat) := (cell_blk hx13 4).trans rfl
            have c5 : W13.cell? ⟨wr.heap.size, 5, none⟩ = some (.int .i64 xn) := (cell_blk hx13 5).trans rfl
            have c6 : W13.cell? ⟨wr.heap.size, 6, none⟩ = some (.slice xa xl xc) := (cell_blk hx13 6).trans rfl
            clear hW13 hb13 hbc hx13
            obtain ⟨rx, rq, hrq⟩ : ∃ a b, Dk.read s xname xat xn = (a, b) := ⟨(Dk.read s xname xat xn).1, (Dk.read s xname xat xn).2, rfl⟩
            have HRQ := hide hrq
            obtain ⟨rz, hrz⟩ : ∃ a, Dk.size s xname = a := ⟨_, rfl⟩
            have HRZ := hide hrz
            obtain ⟨ra, hra⟩ : ∃ a, s.acts = a := ⟨_, rfl⟩
            have HRA := hide hra
            obtain ⟨rd, hrd⟩ : ∃ a, s.down = a := ⟨_, rfl⟩
            have HRD := hide hrd
            clear hrq hrz hra hrd
            go_wp2_with fail
            refine (read_val Db s xname xat xn rx rq _ H13.out.1 HXO.out.name HXO.out.at_ HXO.out.n HRQ.out).mono ?_
            rintro e w' ⟨rfl, rfl⟩
            go_wp2_with fail
            refine (size_val Db s xname rz _ H13.out.1 HXO.out.name HRZ.out).mono ?_
            rintro e w' ⟨rfl, rfl⟩
            go_wp2_with fail
            refine (after_val Db s (.slice xa xl xc) xkeep _ _ H13.out.1 H13.out.2.1 HXO.out.keep rfl).mono ?_
            rintro e w14 ⟨ql, qa, qc, rfl, _, _, hb14⟩
            have H14 := hide (show DiskAt w14 Db s ∧ Below wc.heap.size wc w14 from ⟨H13.out.1.past hb14, H13.out.2.2.trans (hb14.mono H13.out.2.2.size)⟩)
            clear hb14
            go_wp2_with fail
            refine (files_val Db s _ _ H14.out.1 rfl).mono ?_
            rintro e w15 ⟨pl, pa, pc, rfl, _, _, hb15⟩
            have H15 := hide (show DiskAt w15 Db s ∧ Below wc.heap.size wc w15 from ⟨H14.out.1.past hb15, H14.out.2.trans (hb15.mono H14.out.2.size)⟩)
            clear hb15
            go_wp2_with fail
            refine (acts_val Db s ra _ H15.out.1 HRA.out).mono ?_
            rintro e w' ⟨rfl, rfl⟩
            go_wp2_with fail
            refine (down_val Db s rd _ H15.out.1 HRD.out).mono ?_
            rintro e w' ⟨rfl, rfl⟩
            go_wp2_with fail
            go_roundg (10 - (j + 1))
            case measure => omega
            case rel => exact ⟨j + 1, by omega, rfl, by go_num, H15.out.2⟩
          | false =>
            have hb := HQ.out
            have HX := hide (show DiskAt wr Da s ∧ DiskAt wr Db s from ⟨H9.out.1.past hb, H9.out.2.1.past hb⟩)
            have HX8 := hide (show b8 < wr.heap.size ∧ ¬ (Dk.own Da b8 ∨ Dk.own Db b8) ∧ wr.heap[b8]? = some (.cells #[.int .i64 kind, .int .i64 which, .string name, .string data, .int .i64 at2, .int .i64 n, .slice ka klen kcap] 30 (0, 0)) from
              ⟨Nat.lt_of_lt_of_le (heap_lt H89.out) hb.size, fun h => by obtain ⟨q1, q2, q3, q4, _⟩ := H88.out; rcases h with (h | h) | (h | h) <;> omega, (hb.block b8 (heap_lt H89.out)).trans H89.out⟩)
            have HKX := hide (show ∀ u, Moved (fun k => Dk.own Da k ∨ Dk.own Db k) wr u → SlV u (.slice ka klen kcap) (keep.map Value.bool) from fun u hu =>
              (H9.out.2.2.1.below hb).stay hu.size fun k hk hlt => hu.block k hlt (fun h => by have h0 := HKW.out k hk; obtain ⟨g1, g2, g3, g4⟩ := HG.out; rcases h with (h | h) | (h | h) <;> omega))
            obtain ⟨r, s', hrs⟩ : ∃ a b, Dk.opC s ⟨kind, which, name, data, at2, n, keep⟩ = (a, b) := ⟨(Dk.opC s ⟨kind, which, name, data, at2, n, keep⟩).1, (Dk.opC s ⟨kind, which, name, data, at2, n, keep⟩).2, rfl⟩
            have hkeeps := Dk.opC_keeps s ⟨kind, which, name, data, at2, n, keep⟩
            rw [hrs] at hkeeps
            have HRS := hide hrs
            have HKP := hide hkeeps
            have HO2 := hide (show Dk.OpOk ⟨kind, which, name, data, at2, n, keep⟩ from ⟨HO.out.kind, HO.out.which, HO.out.name, HO.out.data, show (Lit.int .i64 at2).wf = true from Dk.wf_i64 (by have := HAR.out; omega) (by have := HAR.out; have := HZR.out; omega), HO.out.n, HO.out.keep⟩)
            have HS0 := hide (show s.left = 0 ∧ s.acts < 4611686018427387904 ∧ s.files.length < 1099511627776 from ⟨HR.out.2.2.1, by have := HR.out.2.2.2.1; omega, by have := HR.out.2.2.2.2.1; omega⟩)
            obtain ⟨ra, hra⟩ : ∃ a, s'.acts = a := ⟨_, rfl⟩
            have HRA := hide hra
            obtain ⟨FL, hFL⟩ : ∃ l, Dk.files s' = l := ⟨_, rfl⟩
            have hfm : s'.files.length ≤ 1099511627776 := by have h1 := hkeeps.2.2; have := HR.out.2.2.2.2.1; dsimp only at h1; omega
            have HFL := hide (show Dk.files s' = FL ∧ FL.length ≤ 1099511627776 from ⟨hFL, by rw [← hFL]; exact Nat.le_trans (Dk.pick_le _ _) hfm⟩)
            obtain ⟨AL, hAL⟩ : ∃ l, Dk.after s' keep = l := ⟨_, rfl⟩
            have HAL := hide (show Dk.after s' keep = AL ∧ AL.length ≤ 1099511627776 from ⟨hAL, by
              rw [← hAL]; unfold Dk.after; split
              · exact Nat.le_trans (Dk.pick_le _ _) hfm
              · exact Nat.le_trans (Dk.pick_le _ _) hfm⟩)
            clear hrs hkeeps hra hFL hAL hfm hb
            go_upto_region 20 with (fail)
            go_cut [106] from 73 to 107 (fun v106 wx => Hid (v106 = .bool false ∧ DiskAt wx Da s' ∧ DiskAt wx Db s' ∧ Moved (fun k => Dk.own Da k ∨ Dk.own Db k) wr wx))
            case first =>
-- REGION lokb
              
              refine wp_region_local (by kernel_rfl) (by kernel_rfl) (useList lokbU) [33, 31] (by kernel_rfl) (spR (lokbL Da Db s' name data kind which at2 n r ka klen kcap b8 ra FL AL)) (twoPre 2 5 (fun u => DiskAt u Da s) (fun u => DiskAt u Db s)) (Moved (fun k => Dk.own Da k ∨ Dk.own Db k) wr) (twoE 2 5 (Moved (Dk.own Da)) (Moved (Dk.own Db))) (two_stays (by simp [lokbL]) (by kernel_rfl) (by kernel_rfl) (fun _ _ _ h hm => ⟨h.1, h.2.stay hm HAW.out⟩)) (two_pre (fun _ _ h hb => h.past hb) (fun _ _ h hb => h.past hb) (fun _ _ h hm => h.stay hm HBW.out) (by kernel_rfl)) (two_refl (fun _ => Moved.refl _ _) (fun _ => Moved.refl _ _)) (dsts_lt (N := 107) (by kernel_rfl)) ((Moved.refl _ _).drew) (fun _ _ => two_start (HX.out.1.past (Below.refl _ _).drew) (HX.out.2.past (Below.refl _ _).drew)) (all_ops ?_) ?_
              · refine And.intro ?_ ?_
                · -- 0: slot 73 := Op.move (Operand.tmp 5)
                  refine lstep_run fun fr wf left => ?_
                  have o5 := (left.old 5 (by kernel_rfl)).trans rfl
                  refine ⟨wanted_none rfl, fun K hK => ?_⟩
                  have hB := hide left.base
                  clear left
                  go_simp
                  exact hK _ _ rfl hB.out (two_refl (fun _ => Moved.refl _ _) (fun _ => Moved.refl _ _) _ _)
                refine And.intro ?_ ?_
                · -- 1: slot 74 := Op.load 30 (Operand.tmp 8)
                  refine lstep_run fun fr wf left => ?_
                  have o8 := (left.old 8 (by kernel_rfl)).trans rfl
                  refine ⟨wanted_none rfl, fun K hK => ?_⟩
                  have hB := hide left.base
                  have hc := (hB.out.block b8 HX8.out.1 HX8.out.2.1).trans HX8.out.2.2
                  clear left
                  refine wp_load_row 30 (.tmp 8) rfl b8 (eval_tmp (v := .pointer (some ⟨b8, 0, none⟩)) o8) 30 _ (0, 0) _ hc Try.underlying30 rfl (by kernel_rfl) ?_
                  exact hK _ _ rfl hB.out (two_refl (fun _ => Moved.refl _ _) (fun _ => Moved.refl _ _) _ _)
                refine And.intro ?_ ?_
                · -- 2: slot 75 := Op.call { callee := Callee.value (Operand.func 24), args := #[Operand.tmp 73, Operand.tmp 
                  refine lstep_run fun fr wf left => ?_
                  obtain ⟨x0, e0, r0⟩ := left.slot 107 rfl 0 73 _ rfl rfl (by decide) rfl
                  have s0 := Eq.symm (show x0 = .pointer (some ⟨Da.g, 0, none⟩) from r0)
                  subst s0
                  obtain ⟨x1, e1, r1⟩ := left.slot 107 rfl 1 74 _ rfl rfl (by decide) rfl
                  have s1 := Eq.symm (show x1 = .agg #[.int .i64 kind, .int .i64 which, .string name, .string data, .int .i64 at2, .int .i64 n, .slice ka klen kcap] from r1)
                  subst s1
                  refine ⟨wanted_none rfl, fun K hK => ?_⟩
                  have hB := hide left.base; have hP := hide (two_pre_first left.pre rfl)
                  clear left
                  go_simp
                  refine (act_at Da s ⟨kind, which, name, data, at2, n, keep⟩ (.slice ka klen kcap) r s' _ hP.out HO2.out HS0.out.1 HS0.out.2.1 HS0.out.2.2 HRS.out).mono ?_
                  rintro e w' ⟨rfl, hd, hm⟩
                  exact hK _ _ ⟨rfl, hd⟩ (hB.out.then (hm.mono fun _ => .inl)) (two_first rfl hm)
                refine And.intro ?_ ?_
                · -- 3: slot 76 := Op.move (Operand.tmp 6)
                  refine lstep_run fun fr wf left => ?_
                  have o6 := (left.old 6 (by kernel_rfl)).trans rfl
                  refine ⟨wanted_none rfl, fun K hK => ?_⟩
                  have hB := hide left.base
                  clear left
                  go_simp
                  exact hK _ _ rfl hB.out (two_refl (fun _ => Moved.refl _ _) (fun _ => Moved.refl _ _) _ _)
                refine And.intro ?_ ?_
                · -- 4: slot 77 := Op.load 30 (Operand.tmp 8)
                  refine lstep_run fun fr wf left => ?_
                  have o8 := (left.old 8 (by kernel_rfl)).trans rfl
                  refine ⟨wanted_none rfl, fun K hK => ?_⟩
                  have hB := hide left.base
                  have hc := (hB.out.block b8 HX8.out.1 HX8.out.2.1).trans HX8.out.2.2
                  clear left
                  refine wp_load_row 30 (.tmp 8) rfl b8 (eval_tmp (v := .pointer (some ⟨b8, 0, none⟩)) o8) 30 _ (0, 0) _ hc Try.underlying30 rfl (by kernel_rfl) ?_
                  exact hK _ _ rfl hB.out (two_refl (fun _ => Moved.refl _ _) (fun _ => Moved.refl _ _) _ _)
                refine And.intro ?_ ?_
                · -- 5: slot 78 := Op.call { callee := Callee.value (Operand.func 24), args := #[Operand.tmp 76, Operand.tmp 
                  refine lstep_run fun fr wf left => ?_
                  obtain ⟨x2, e2, r2⟩ := left.slot 107 rfl 2 75 _ rfl rfl (by decide) rfl
                  obtain ⟨s2, q2⟩ := (show x2 = .int .i64 r ∧ (fun u => DiskAt u Da s') wf from r2)
                  subst s2
                  obtain ⟨x3, e3, r3⟩ := left.slot 107 rfl 3 76 _ rfl rfl (by decide) rfl
                  have s3 := Eq.symm (show x3 = .pointer (some ⟨Db.g, 0, none⟩) from r3)
                  subst s3
                  obtain ⟨x4, e4, r4⟩ := left.slot 107 rfl 4 77 _ rfl rfl (by decide) rfl
                  have s4 := Eq.symm (show x4 = .agg #[.int .i64 kind, .int .i64 which, .string name, .string data, .int .i64 at2, .int .i64 n, .slice ka klen kcap] from r4)
                  subst s4
                  refine ⟨wanted_none rfl, fun K hK => ?_⟩
                  have hB := hide left.base; have hP := hide (two_pre_second left.pre rfl (by decide))
                  clear left
                  go_simp
                  refine (act_at Db s ⟨kind, which, name, data, at2, n, keep⟩ (.slice ka klen kcap) r s' _ hP.out HO2.out HS0.out.1 HS0.out.2.1 HS0.out.2.2 HRS.out).mono ?_
                  rintro e w' ⟨rfl, hd, hm⟩
                  exact hK _ _ ⟨rfl, q2.stay hm HAW.out, hd⟩ (hB.out.then (hm.mono fun _ => .inr)) (two_second rfl (by decide) hm)
                refine And.intro ?_ ?_
                · -- 6: slot 79 := Op.binOp BinOp.neq 32 (Operand.tmp 75) (Operand.tmp 78) 32
                  refine lstep_run fun fr wf left => ?_
                  obtain ⟨x2, e2, r2⟩ := left.slot 107 rfl 2 75 _ rfl rfl (by decide) rfl
                  obtain ⟨s2, q2⟩ := (show x2 = .int .i64 r ∧ (fun u => DiskAt u Da s') wf from r2)
                  subst s2
                  obtain ⟨x5, e5, r5⟩ := left.slot 107 rfl 5 78 _ rfl rfl (by decide) rfl
                  obtain ⟨s5, q5⟩ := (show x5 = .int .i64 r ∧ (fun u => DiskAt u Da s' ∧ DiskAt u Db s') wf from r5)
                  subst s5
                  refine ⟨wanted_none rfl, fun K hK => ?_⟩
                  have hB := hide left.base
                  clear left
                  go_simp
                  exact hK _ _ rfl hB.out (two_refl (fun _ => Moved.refl _ _) (fun _ => Moved.refl _ _) _ _)
                refine And.intro ?_ ?_
                · -- 7: slot 80 := Op.move (Operand.tmp 79)
                  refine lstep_run fun fr wf left => ?_
                  obtain ⟨x5, e5, r5⟩ := left.slot 107 rfl 5 78 _ rfl rfl (by decide) rfl
                  obtain ⟨s5, q5⟩ := (show x5 = .int .i64 r ∧ (fun u => DiskAt u Da s' ∧ DiskAt u Db s') wf from r5)
                  subst s5
                  obtain ⟨x6, e6, r6⟩ := left.slot 107 rfl 6 79 _ rfl rfl (by decide) rfl
                  have s6 := Eq.symm (show x6 = .bool false from r6)
                  subst s6
                  refine ⟨wanted_none rfl, fun K hK => ?_⟩
                  have hB := hide left.base
                  clear left
                  go_simp
                  exact hK _ _ ⟨rfl, q5⟩ hB.out (two_refl (fun _ => Moved.refl _ _) (fun _ => Moved.refl _ _) _ _)
                refine And.intro ?_ ?_
                · -- 8: slot 81 := Op.move (Operand.tmp 5)
                  refine lstep_run fun fr wf left => ?_
                  obtain ⟨x7, e7, r7⟩ := left.slot 107 rfl 7 80 _ rfl rfl (by decide) rfl
                  obtain ⟨s7, q7⟩ := (show x7 = .bool false ∧ (fun u => DiskAt u Da s' ∧ DiskAt u Db s') wf from r7)
                  subst s7
                  have o5 := (left.old 5 (by kernel_rfl)).trans rfl
                  refine ⟨wanted_yes rfl rfl e7, fun K hK => ?_⟩
                  have hB := hide left.base
                  clear left
                  go_simp
                  exact hK _ _ rfl hB.out (two_refl (fun _ => Moved.refl _ _) (fun _ => Moved.refl _ _) _ _)
                refine And.intro ?_ ?_
                · -- 9: slot 82 := Op.call { callee := Callee.value (Operand.func 19), args := #[Operand.tmp 81], argTypes :=
                  refine lstep_run fun fr wf left => ?_
                  obtain ⟨x7, e7, r7⟩ := left.slot 107 rfl 7 80 _ rfl rfl (by decide) rfl
                  obtain ⟨s7, q7⟩ := (show x7 = .bool false ∧ (fun u => DiskAt u Da s' ∧ DiskAt u Db s') wf from r7)
                  subst s7
                  obtain ⟨x8, e8, r8⟩ := left.slot 107 rfl 8 81 _ rfl rfl (by decide) rfl
                  have s8 := Eq.symm (show x8 = .pointer (some ⟨Da.g, 0, none⟩) from r8)
                  subst s8
                  refine ⟨wanted_yes rfl rfl e7, fun K hK => ?_⟩
                  have hB := hide left.base
                  clear left
                  go_simp
                  refine (acts_val Da s' ra _ q7.1 HRA.out).mono ?_
                  rintro e w' ⟨rfl, rfl⟩
                  exact hK _ _ ⟨rfl, q7⟩ hB.out (two_refl (fun _ => Moved.refl _ _) (fun _ => Moved.refl _ _) _ _)
                refine And.intro ?_ ?_
                · -- 10: slot 83 := Op.move (Operand.tmp 6)
                  refine lstep_run fun fr wf left => ?_
                  obtain ⟨x7, e7, r7⟩ := left.slot 107 rfl 7 80 _ rfl rfl (by decide) rfl
                  obtain ⟨s7, q7⟩ := (show x7 = .bool false ∧ (fun u => DiskAt u Da s' ∧ DiskAt u Db s') wf from r7)
                  subst s7
                  have o6 := (left.old 6 (by kernel_rfl)).trans rfl
                  refine ⟨wanted_yes rfl rfl e7, fun K hK => ?_⟩
                  have hB := hide left.base
                  clear left
                  go_simp
                  exact hK _ _ rfl hB.out (two_refl (fun _ => Moved.refl _ _) (fun _ => Moved.refl _ _) _ _)
                refine And.intro ?_ ?_
                · -- 11: slot 84 := Op.call { callee := Callee.value (Operand.func 19), args := #[Operand.tmp 83], argTypes :=
                  refine lstep_run fun fr wf left => ?_
                  obtain ⟨x7, e7, r7⟩ := left.slot 107 rfl 7 80 _ rfl rfl (by decide) rfl
                  obtain ⟨s7, q7⟩ := (show x7 = .bool false ∧ (fun u => DiskAt u Da s' ∧ DiskAt u Db s') wf from r7)
                  subst s7
                  obtain ⟨x10, e10, r10⟩ := left.slot 107 rfl 10 83 _ rfl rfl (by decide) rfl
                  have s10 := Eq.symm (show x10 = .pointer (some ⟨Db.g, 0, none⟩) from r10)
                  subst s10
                  refine ⟨wanted_yes rfl rfl e7, fun K hK => ?_⟩
                  have hB := hide left.base
                  clear left
                  go_simp
                  refine (acts_val Db s' ra _ q7.2 HRA.out).mono ?_
                  rintro e w' ⟨rfl, rfl⟩
                  exact hK _ _ ⟨rfl, q7⟩ hB.out (two_refl (fun _ => Moved.refl _ _) (fun _ => Moved.refl _ _) _ _)
                refine And.intro ?_ ?_
                · -- 12: slot 85 := Op.binOp BinOp.neq 3 (Operand.tmp 82) (Operand.tmp 84) 3
                  refine lstep_run fun fr wf left => ?_
                  obtain ⟨x7, e7, r7⟩ := left.slot 107 rfl 7 80 _ rfl rfl (by decide) rfl
                  obtain ⟨s7, q7⟩ := (show x7 = .bool false ∧ (fun u => DiskAt u Da s' ∧ DiskAt u Db s') wf from r7)
                  subst s7
                  obtain ⟨x9, e9, r9⟩ := left.slot 107 rfl 9 82 _ rfl rfl (by decide) rfl
                  obtain ⟨s9, q9⟩ := (show x9 = .int .i64 (ra : Int) ∧ (fun u => DiskAt u Da s' ∧ DiskAt u Db s') wf from r9)
                  subst s9
                  obtain ⟨x11, e11, r11⟩ := left.slot 107 rfl 11 84 _ rfl rfl (by decide) rfl
                  obtain ⟨s11, q11⟩ := (show x11 = .int .i64 (ra : Int) ∧ (fun u => DiskAt u Da s' ∧ DiskAt u Db s') wf from r11)
                  subst s11
                  refine ⟨wanted_yes rfl rfl e7, fun K hK => ?_⟩
                  have hB := hide left.base
                  clear left
                  go_simp
                  exact hK _ _ rfl hB.out (two_refl (fun _ => Moved.refl _ _) (fun _ => Moved.refl _ _) _ _)
                refine And.intro ?_ ?_
                · -- 13: slot 86 := Op.pick (Operand.tmp 80) (Operand.const (Value.bool true)) (Operand.tmp 85)
                  refine lstep_run fun fr wf left => ?_
                  obtain ⟨x7, e7, r7⟩ := left.slot 107 rfl 7 80 _ rfl rfl (by decide) rfl
                  obtain ⟨s7, q7⟩ := (show x7 = .bool false ∧ (fun u => DiskAt u Da s' ∧ DiskAt u Db s') wf from r7)
                  subst s7
                  obtain ⟨x12, e12, r12⟩ := left.slot 107 rfl 12 85 _ rfl rfl (by decide) rfl
                  have s12 := Eq.symm (show x12 = .bool false from r12)
                  subst s12
                  refine ⟨wanted_none rfl, fun K hK => ?_⟩
                  have hB := hide left.base
                  clear left
                  go_simp
                  exact hK _ _ rfl hB.out (two_refl (fun _ => Moved.refl _ _) (fun _ => Moved.refl _ _) _ _)
                refine And.intro ?_ ?_
                · -- 14: slot 87 := Op.move (Operand.tmp 86)
                  refine lstep_run fun fr wf left => ?_
                  obtain ⟨x11, e11, r11⟩ := left.slot 107 rfl 11 84 _ rfl rfl (by decide) rfl
                  obtain ⟨s11, q11⟩ := (show x11 = .int .i64 (ra : Int) ∧ (fun u => DiskAt u Da s' ∧ DiskAt u Db s') wf from r11)
                  subst s11
                  obtain ⟨x13, e13, r13⟩ := left.slot 107 rfl 13 86 _ rfl rfl (by decide) rfl
                  have s13 := Eq.symm (show x13 = .bool false from r13)
                  subst s13
                  refine ⟨wanted_none rfl, fun K hK => ?_⟩
                  have hB := hide left.base
                  clear left
                  go_simp
                  exact hK _ _ ⟨rfl, q11⟩ hB.out (two_refl (fun _ => Moved.refl _ _) (fun _ => Moved.refl _ _) _ _)
                refine And.intro ?_ ?_
                · -- 15: slot 88 := Op.move (Operand.tmp 5)
                  refine lstep_run fun fr wf left => ?_
                  obtain ⟨x14, e14, r14⟩ := left.slot 107 rfl 14 87 _ rfl rfl (by decide) rfl
                  obtain ⟨s14, q14⟩ := (show x14 = .bool false ∧ (fun u => DiskAt u Da s' ∧ DiskAt u Db s') wf from r14)
                  subst s14
                  have o5 := (left.old 5 (by kernel_rfl)).trans rfl
                  refine ⟨wanted_yes rfl rfl e14, fun K hK => ?_⟩
                  have hB := hide left.base
                  clear left
                  go_simp
                  exact hK _ _ rfl hB.out (two_refl (fun _ => Moved.refl _ _) (fun _ => Moved.refl _ _) _ _)
                refine And.intro ?_ ?_
                · -- 16: slot 89 := Op.call { callee := Callee.value (Operand.func 22), args := #[Operand.tmp 88], argTypes :=
                  refine lstep_run fun fr wf left => ?_
                  obtain ⟨x14, e14, r14⟩ := left.slot 107 rfl 14 87 _ rfl rfl (by decide) rfl
                  obtain ⟨s14, q14⟩ := (show x14 = .bool false ∧ (fun u => DiskAt u Da s' ∧ DiskAt u Db s') wf from r14)
                  subst s14
                  obtain ⟨x15, e15, r15⟩ := left.slot 107 rfl 15 88 _ rfl rfl (by decide) rfl
                  have s15 := Eq.symm (show x15 = .pointer (some ⟨Da.g, 0, none⟩) from r15)
                  subst s15
                  refine ⟨wanted_yes rfl rfl e14, fun K hK => ?_⟩
                  have hB := hide left.base
                  clear left
                  go_simp
                  refine (files_val Da s' FL _ q14.1 HFL.out.1).mono ?_
                  rintro e w' ⟨fl, fa, fc, rfl, _, hs, hb⟩
                  exact hK _ _ ⟨hs, q14.1.past hb, q14.2.past hb⟩ (hB.out.then (Moved.of_below hb)) (two_else (by decide) hb)
                refine And.intro ?_ ?_
                · -- 17: slot 90 := Op.move (Operand.tmp 6)
                  refine lstep_run fun fr wf left => ?_
                  obtain ⟨x14, e14, r14⟩ := left.slot 107 rfl 14 87 _ rfl rfl (by decide) rfl
                  obtain ⟨s14, q14⟩ := (show x14 = .bool false ∧ (fun u => DiskAt u Da s' ∧ DiskAt u Db s') wf from r14)
                  subst s14
                  have o6 := (left.old 6 (by kernel_rfl)).trans rfl
                  refine ⟨wanted_yes rfl rfl e14, fun K hK => ?_⟩
                  have hB := hide left.base
                  clear left
                  go_simp
                  exact hK _ _ rfl hB.out (two_refl (fun _ => Moved.refl _ _) (fun _ => Moved.refl _ _) _ _)
                refine And.intro ?_ ?_
                · -- 18: slot 91 := Op.call { callee := Callee.value (Operand.func 22), args := #[Operand.tmp 90], argTypes :=
                  refine lstep_run fun fr wf left => ?_
                  obtain ⟨x14, e14, r14⟩ := left.slot 107 rfl 14 87 _ rfl rfl (by decide) rfl
                  obtain ⟨s14, q14⟩ := (show x14 = .bool false ∧ (fun u => DiskAt u Da s' ∧ DiskAt u Db s') wf from r14)
                  subst s14
                  obtain ⟨x17, e17, r17⟩ := left.slot 107 rfl 17 90 _ rfl rfl (by decide) rfl
                  have s17 := Eq.symm (show x17 = .pointer (some ⟨Db.g, 0, none⟩) from r17)
                  subst s17
                  refine ⟨wanted_yes rfl rfl e14, fun K hK => ?_⟩
                  have hB := hide left.base
                  clear left
                  go_simp
                  refine (files_val Db s' FL _ q14.2 HFL.out.1).mono ?_
                  rintro e w' ⟨fl, fa, fc, rfl, _, hs, hb⟩
                  exact hK _ _ ⟨hs, q14.1.past hb, q14.2.past hb⟩ (hB.out.then (Moved.of_below hb)) (two_else (by decide) hb)
                refine And.intro ?_ ?_
                · -- 19: slot 92 := Op.call { callee := Callee.value (Operand.func 21), args := #[Operand.tmp 89, Operand.tmp 
                  refine lstep_run fun fr wf left => ?_
                  obtain ⟨x14, e14, r14⟩ := left.slot 107 rfl 14 87 _ rfl rfl (by decide) rfl
                  obtain ⟨s14, q14⟩ := (show x14 = .bool false ∧ (fun u => DiskAt u Da s' ∧ DiskAt u Db s') wf from r14)
                  subst s14
                  obtain ⟨x16, e16, r16⟩ := left.slot 107 rfl 16 89 _ rfl rfl (by decide) rfl
                  replace r16 : (fun v u => SlF u v FL ∧ DiskAt u Da s' ∧ DiskAt u Db s') x16 wf := r16
                  obtain ⟨x18, e18, r18⟩ := left.slot 107 rfl 18 91 _ rfl rfl (by decide) rfl
                  replace r18 : (fun v u => SlF u v FL ∧ DiskAt u Da s' ∧ DiskAt u Db s') x18 wf := r18
                  refine ⟨wanted_yes rfl rfl e14, fun K hK => ?_⟩
                  have hB := hide left.base
                  clear left
                  go_simp
                  refine (same_val x16 x18 FL FL true _ r16.1 r18.1 HFL.out.2 HFL.out.2 (decide_eq_true rfl)).mono ?_
                  rintro e w' ⟨rfl, hb⟩
                  exact hK _ _ ⟨rfl, r16.2.1.past hb, r16.2.2.past hb⟩ (hB.out.then (Moved.of_below hb)) (two_else (by decide) hb)
                refine And.intro ?_ ?_
                · -- 20: slot 93 := Op.unOp UnOp.not 4 (Operand.tmp 92)
                  refine lstep_run fun fr wf left => ?_
                  obtain ⟨x14, e14, r14⟩ := left.slot 107 rfl 14 87 _ rfl rfl (by decide) rfl
                  obtain ⟨s14, q14⟩ := (show x14 = .bool false ∧ (fun u => DiskAt u Da s' ∧ DiskAt u Db s') wf from r14)
                  subst s14
                  obtain ⟨x19, e19, r19⟩ := left.slot 107 rfl 19 92 _ rfl rfl (by decide) rfl
                  obtain ⟨s19, q19⟩ := (show x19 = .bool true ∧ (fun u => DiskAt u Da s' ∧ DiskAt u Db s') wf from r19)
                  subst s19
                  refine ⟨wanted_yes rfl rfl e14, fun K hK => ?_⟩
                  have hB := hide left.base
                  clear left
                  go_simp
                  exact hK _ _ rfl hB.out (two_refl (fun _ => Moved.refl _ _) (fun _ => Moved.refl _ _) _ _)
                refine And.intro ?_ ?_
                · -- 21: slot 94 := Op.pick (Operand.tmp 87) (Operand.const (Value.bool true)) (Operand.tmp 93)
                  refine lstep_run fun fr wf left => ?_
                  obtain ⟨x14, e14, r14⟩ := left.slot 107 rfl 14 87 _ rfl rfl (by decide) rfl
                  obtain ⟨s14, q14⟩ := (show x14 = .bool false ∧ (fun u => DiskAt u Da s' ∧ DiskAt u Db s') wf from r14)
                  subst s14
                  obtain ⟨x20, e20, r20⟩ := left.slot 107 rfl 20 93 _ rfl rfl (by decide) rfl
                  have s20 := Eq.symm (show x20 = .bool false from r20)
                  subst s20
                  refine ⟨wanted_none rfl, fun K hK => ?_⟩
                  have hB := hide left.base
                  clear left
                  go_simp
                  exact hK _ _ rfl hB.out (two_refl (fun _ => Moved.refl _ _) (fun _ => Moved.refl _ _) _ _)
                refine And.intro ?_ ?_
                · -- 22: slot 95 := Op.move (Operand.tmp 94)
                  refine lstep_run fun fr wf left => ?_
                  obtain ⟨x19, e19, r19⟩ := left.slot 107 rfl 19 92 _ rfl rfl (by decide) rfl
                  obtain ⟨s19, q19⟩ := (show x19 = .bool true ∧ (fun u => DiskAt u Da s' ∧ DiskAt u Db s') wf from r19)
                  subst s19
                  obtain ⟨x21, e21, r21⟩ := left.slot 107 rfl 21 94 _ rfl rfl (by decide) rfl
                  have s21 := Eq.symm (show x21 = .bool false from r21)
                  subst s21
                  refine ⟨wanted_none rfl, fun K hK => ?_⟩
                  have hB := hide left.base
                  clear left
                  go_simp
                  exact hK _ _ ⟨rfl, q19⟩ hB.out (two_refl (fun _ => Moved.refl _ _) (fun _ => Moved.refl _ _) _ _)
                refine And.intro ?_ ?_
                · -- 23: slot 96 := Op.move (Operand.tmp 5)
                  refine lstep_run fun fr wf left => ?_
                  obtain ⟨x22, e22, r22⟩ := left.slot 107 rfl 22 95 _ rfl rfl (by decide) rfl
                  obtain ⟨s22, q22⟩ := (show x22 = .bool false ∧ (fun u => DiskAt u Da s' ∧ DiskAt u Db s') wf from r22)
                  subst s22
                  have o5 := (left.old 5 (by kernel_rfl)).trans rfl
                  refine ⟨wanted_yes rfl rfl e22, fun K hK => ?_⟩
                  have hB := hide left.base
                  clear left
                  go_simp
                  exact hK _ _ rfl hB.out (two_refl (fun _ => Moved.refl _ _) (fun _ => Moved.refl _ _) _ _)
                refine And.intro ?_ ?_
                · -- 24: slot 97 := Op.fieldAddr 30 (Operand.tmp 8) 6
                  refine lstep_run fun fr wf left => ?_
                  obtain ⟨x22, e22, r22⟩ := left.slot 107 rfl 22 95 _ rfl rfl (by decide) rfl
                  obtain ⟨s22, q22⟩ := (show x22 = .bool false ∧ (fun u => DiskAt u Da s' ∧ DiskAt u Db s') wf from r22)
                  subst s22
                  have o8 := (left.old 8 (by kernel_rfl)).trans rfl
                  refine ⟨wanted_yes rfl rfl e22, fun K hK => ?_⟩
                  have hB := hide left.base
                  clear left
                  go_simp
                  exact hK _ _ rfl hB.out (two_refl (fun _ => Moved.refl _ _) (fun _ => Moved.refl _ _) _ _)
                refine And.intro ?_ ?_
                · -- 25: slot 98 := Op.load 28 (Operand.tmp 97)
                  refine lstep_run fun fr wf left => ?_
                  obtain ⟨x22, e22, r22⟩ := left.slot 107 rfl 22 95 _ rfl rfl (by decide) rfl
                  obtain ⟨s22, q22⟩ := (show x22 = .bool false ∧ (fun u => DiskAt u Da s' ∧ DiskAt u Db s') wf from r22)
                  subst s22
                  obtain ⟨x24, e24, r24⟩ := left.slot 107 rfl 24 97 _ rfl rfl (by decide) rfl
                  have s24 := Eq.symm (show x24 = .pointer (some ⟨b8, 6, none⟩) from r24)
                  subst s24
                  refine ⟨wanted_yes rfl rfl e22, fun K hK => ?_⟩
                  have hB := hide left.base
                  have hc := (cell_blk ((hB.out.block b8 HX8.out.1 HX8.out.2.1).trans HX8.out.2.2) 6).trans rfl
                  clear left
                  go_simp
                  exact hK _ _ rfl hB.out (two_refl (fun _ => Moved.refl _ _) (fun _ => Moved.refl _ _) _ _)
                refine And.intro ?_ ?_
                · -- 26: slot 99 := Op.call { callee := Callee.value (Operand.func 23), args := #[Operand.tmp 96, Operand.tmp 
                  refine lstep_run fun fr wf left => ?_
                  obtain ⟨x22, e22, r22⟩ := left.slot 107 rfl 22 95 _ rfl rfl (by decide) rfl
                  obtain ⟨s22, q22⟩ := (show x22 = .bool false ∧ (fun u => DiskAt u Da s' ∧ DiskAt u Db s') wf from r22)
                  subst s22
                  obtain ⟨x23, e23, r23⟩ := left.slot 107 rfl 23 96 _ rfl rfl (by decide) rfl
                  have s23 := Eq.symm (show x23 = .pointer (some ⟨Da.g, 0, none⟩) from r23)
                  subst s23
                  obtain ⟨x25, e25, r25⟩ := left.slot 107 rfl 25 98 _ rfl rfl (by decide) rfl
                  have s25 := Eq.symm (show x25 = .slice ka klen kcap from r25)
                  subst s25
                  refine ⟨wanted_yes rfl rfl e22, fun K hK => ?_⟩
                  have hB := hide left.base
                  clear left
                  go_simp
                  refine (after_val Da s' (.slice ka klen kcap) keep AL _ q22.1 (HKX.out _ hB.out) HO2.out.keep HAL.out.1).mono ?_
                  rintro e w' ⟨fl, fa, fc, rfl, _, hs, hb⟩
                  exact hK _ _ ⟨hs, q22.1.past hb, q22.2.past hb⟩ (hB.out.then (Moved.of_below hb)) (two_else (by decide) hb)
                refine And.intro ?_ ?_
                · -- 27: slot 100 := Op.move (Operand.tmp 6)
                  refine lstep_run fun fr wf left => ?_
                  obtain ⟨x22, e22, r22⟩ := left.slot 107 rfl 22 95 _ rfl rfl (by decide) rfl
                  obtain ⟨s22, q22⟩ := (show x22 = .bool false ∧ (fun u => DiskAt u Da s' ∧ DiskAt u Db s') wf from r22)
                  subst s22
                  have o6 := (left.old 6 (by kernel_rfl)).trans rfl
                  refine ⟨wanted_yes rfl rfl e22, fun K hK => ?_⟩
                  have hB := hide left.base
                  clear left
                  go_simp
                  exact hK _ _ rfl hB.out (two_refl (fun _ => Moved.refl _ _) (fun _ => Moved.refl _ _) _ _)
                refine And.intro ?_ ?_
                · -- 28: slot 101 := Op.fieldAddr 30 (Operand.tmp 8) 6
                  refine lstep_run fun fr wf left => ?_
                  obtain ⟨x22, e22, r22⟩ := left.slot 107 rfl 22 95 _ rfl rfl (by decide) rfl
                  obtain ⟨s22, q22⟩ := (show x22 = .bool false ∧ (fun u => DiskAt u Da s' ∧ DiskAt u Db s') wf from r22)
                  subst s22
                  have o8 := (left.old 8 (by kernel_rfl)).trans rfl
                  refine ⟨wanted_yes rfl rfl e22, fun K hK => ?_⟩
                  have hB := hide left.base
                  clear left
                  go_simp
                  exact hK _ _ rfl hB.out (two_refl (fun _ => Moved.refl _ _) (fun _ => Moved.refl _ _) _ _)
                refine And.intro ?_ ?_
                · -- 29: slot 102 := Op.load 28 (Operand.tmp 101)
                  refine lstep_run fun fr wf left => ?_
                  obtain ⟨x22, e22, r22⟩ := left.slot 107 rfl 22 95 _ rfl rfl (by decide) rfl
                  obtain ⟨s22, q22⟩ := (show x22 = .bool false ∧ (fun u => DiskAt u Da s' ∧ DiskAt u Db s') wf from r22)
                  subst s22
                  obtain ⟨x28, e28, r28⟩ := left.slot 107 rfl 28 101 _ rfl rfl (by decide) rfl
                  have s28 := Eq.symm (show x28 = .pointer (some ⟨b8, 6, none⟩) from r28)
                  subst s28
                  refine ⟨wanted_yes rfl rfl e22, fun K hK => ?_⟩
                  have hB := hide left.base
                  have hc := (cell_blk ((hB.out.block b8 HX8.out.1 HX8.out.2.1).trans HX8.out.2.2) 6).trans rfl
                  clear left
                  go_simp
                  exact hK _ _ rfl hB.out (two_refl (fun _ => Moved.refl _ _) (fun _ => Moved.refl _ _) _ _)
                refine And.intro ?_ ?_
                · -- 30: slot 103 := Op.call { callee := Callee.value (Operand.func 23), args := #[Operand.tmp 100, Operand.tmp
                  refine lstep_run fun fr wf left => ?_
                  obtain ⟨x22, e22, r22⟩ := left.slot 107 rfl 22 95 _ rfl rfl (by decide) rfl
                  obtain ⟨s22, q22⟩ := (show x22 = .bool false ∧ (fun u => DiskAt u Da s' ∧ DiskAt u Db s') wf from r22)
                  subst s22
                  obtain ⟨x27, e27, r27⟩ := left.slot 107 rfl 27 100 _ rfl rfl (by decide) rfl
                  have s27 := Eq.symm (show x27 = .pointer (some ⟨Db.g, 0, none⟩) from r27)
                  subst s27
                  obtain ⟨x29, e29, r29⟩ := left.slot 107 rfl 29 102 _ rfl rfl (by decide) rfl
                  have s29 := Eq.symm (show x29 = .slice ka klen kcap from r29)
                  subst s29
                  refine ⟨wanted_yes rfl rfl e22, fun K hK => ?_⟩
                  have hB := hide left.base
                  clear left
                  go_simp
                  refine (after_val Db s' (.slice ka klen kcap) keep AL _ q22.2 (HKX.out _ hB.out) HO2.out.keep HAL.out.1).mono ?_
                  rintro e w' ⟨fl, fa, fc, rfl, _, hs, hb⟩
                  exact hK _ _ ⟨hs, q22.1.past hb, q22.2.past hb⟩ (hB.out.then (Moved.of_below hb)) (two_else (by decide) hb)
                refine And.intro ?_ ?_
                · -- 31: slot 104 := Op.call { callee := Callee.value (Operand.func 21), args := #[Operand.tmp 99, Operand.tmp 
                  refine lstep_run fun fr wf left => ?_
                  obtain ⟨x22, e22, r22⟩ := left.slot 107 rfl 22 95 _ rfl rfl (by decide) rfl
                  obtain ⟨s22, q22⟩ := (show x22 = .bool false ∧ (fun u => DiskAt u Da s' ∧ DiskAt u Db s') wf from r22)
                  subst s22
                  obtain ⟨x26, e26, r26⟩ := left.slot 107 rfl 26 99 _ rfl rfl (by decide) rfl
                  replace r26 : (fun v u => SlF u v AL ∧ DiskAt u Da s' ∧ DiskAt u Db s') x26 wf := r26
                  obtain ⟨x30, e30, r30⟩ := left.slot 107 rfl 30 103 _ rfl rfl (by decide) rfl
                  replace r30 : (fun v u => SlF u v AL ∧ DiskAt u Da s' ∧ DiskAt u Db s') x30 wf := r30
                  refine ⟨wanted_yes rfl rfl e22, fun K hK => ?_⟩
                  have hB := hide left.base
                  clear left
                  go_simp
                  refine (same_val x26 x30 AL AL true _ r26.1 r30.1 HAL.out.2 HAL.out.2 (decide_eq_true rfl)).mono ?_
                  rintro e w' ⟨rfl, hb⟩
                  exact hK _ _ ⟨rfl, r26.2.1.past hb, r26.2.2.past hb⟩ (hB.out.then (Moved.of_below hb)) (two_else (by decide) hb)
                refine And.intro ?_ ?_
                · -- 32: slot 105 := Op.unOp UnOp.not 4 (Operand.tmp 104)
                  refine lstep_run fun fr wf left => ?_
                  obtain ⟨x22, e22, r22⟩ := left.slot 107 rfl 22 95 _ rfl rfl (by decide) rfl
                  obtain ⟨s22, q22⟩ := (show x22 = .bool false ∧ (fun u => DiskAt u Da s' ∧ DiskAt u Db s') wf from r22)
                  subst s22
                  obtain ⟨x31, e31, r31⟩ := left.slot 107 rfl 31 104 _ rfl rfl (by decide) rfl
                  obtain ⟨s31, q31⟩ := (show x31 = .bool true ∧ (fun u => DiskAt u Da s' ∧ DiskAt u Db s') wf from r31)
                  subst s31
                  refine ⟨wanted_yes rfl rfl e22, fun K hK => ?_⟩
                  have hB := hide left.base
                  clear left
                  go_simp
                  exact hK _ _ rfl hB.out (two_refl (fun _ => Moved.refl _ _) (fun _ => Moved.refl _ _) _ _)
                refine And.intro ?_ ?_
                · -- 33: slot 106 := Op.pick (Operand.tmp 95) (Operand.const (Value.bool true)) (Operand.tmp 105)
                  refine lstep_run fun fr wf left => ?_
                  obtain ⟨x22, e22, r22⟩ := left.slot 107 rfl 22 95 _ rfl rfl (by decide) rfl
                  obtain ⟨s22, q22⟩ := (show x22 = .bool false ∧ (fun u => DiskAt u Da s' ∧ DiskAt u Db s') wf from r22)
                  subst s22
                  obtain ⟨x32, e32, r32⟩ := left.slot 107 rfl 32 105 _ rfl rfl (by decide) rfl
                  have s32 := Eq.symm (show x32 = .bool false from r32)
                  subst s32
                  refine ⟨wanted_none rfl, fun K hK => ?_⟩
                  have hB := hide left.base
                  clear left
                  go_simp
                  exact hK _ _ rfl hB.out (two_refl (fun _ => Moved.refl _ _) (fun _ => Moved.refl _ _) _ _)
                exact trivial
              · intro fr wf hB hs hd hall hkeep
                have h31 : fr.tmps.getD 104 undef = .bool true ∧ (DiskAt wf Da s' ∧ DiskAt wf Db s') := hall 31 _ rfl (by simp)
                have h33 : fr.tmps.getD 106 undef = .bool false := hall 33 _ rfl (by simp)
                have hfr := act_ext (frame_set hs hkeep [73, 74, 75, 76, 77, 78, 79, 80, 81, 82, 83, 84, 85, 86, 87, 88, 89, 90, 91, 92, 93, 94, 95, 96, 97, 98, 99, 100, 101, 102, 103, 104, 105, 106] (by kernel_rfl)) hd
                obtain ⟨q73, hq73⟩ : ∃ q, q = fr.tmps.getD 73 undef := ⟨_, rfl⟩
                obtain ⟨q74, hq74⟩ : ∃ q, q = fr.tmps.getD 74 undef := ⟨_, rfl⟩
                obtain ⟨q75, hq75⟩ : ∃ q, q = fr.tmps.getD 75 undef := ⟨_, rfl⟩
                obtain ⟨q76, hq76⟩ : ∃ q, q = fr.tmps.getD 76 undef := ⟨_, rfl⟩
                obtain ⟨q77, hq77⟩ : ∃ q, q = fr.tmps.getD 77 undef := ⟨_, rfl⟩
                obtain ⟨q78, hq78⟩ : ∃ q, q = fr.tmps.getD 78 undef := ⟨_, rfl⟩
                obtain ⟨q79, hq79⟩ : ∃ q, q = fr.tmps.getD 79 undef := ⟨_, rfl⟩
                obtain ⟨q80, hq80⟩ : ∃ q, q = fr.tmps.getD 80 undef := ⟨_, rfl⟩
                obtain ⟨q81, hq81⟩ : ∃ q, q = fr.tmps.getD 81 undef := ⟨_, rfl⟩
                obtain ⟨q82, hq82⟩ : ∃ q, q = fr.tmps.getD 82 undef := ⟨_, rfl⟩
                obtain ⟨q83, hq83⟩ : ∃ q, q = fr.tmps.getD 83 undef := ⟨_, rfl⟩
                obtain ⟨q84, hq84⟩ : ∃ q, q = fr.tmps.getD 84 undef := ⟨_, rfl⟩
                obtain ⟨q85, hq85⟩ : ∃ q, q = fr.tmps.getD 85 undef := ⟨_, rfl⟩
                obtain ⟨q86, hq86⟩ : ∃ q, q = fr.tmps.getD 86 undef := ⟨_, rfl⟩
                obtain ⟨q87, hq87⟩ : ∃ q, q = fr.tmps.getD 87 undef := ⟨_, rfl⟩
                obtain ⟨q88, hq88⟩ : ∃ q, q = fr.tmps.getD 88 undef := ⟨_, rfl⟩
                obtain ⟨q89, hq89⟩ : ∃ q, q = fr.tmps.getD 89 undef := ⟨_, rfl⟩
                obtain ⟨q90, hq90⟩ : ∃ q, q = fr.tmps.getD 90 undef := ⟨_, rfl⟩
                obtain ⟨q91, hq91⟩ : ∃ q, q = fr.tmps.getD 91 undef := ⟨_, rfl⟩
                obtain ⟨q92, hq92⟩ : ∃ q, q = fr.tmps.getD 92 undef := ⟨_, rfl⟩
                obtain ⟨q93, hq93⟩ : ∃ q, q = fr.tmps.getD 93 undef := ⟨_, rfl⟩
                obtain ⟨q94, hq94⟩ : ∃ q, q = fr.tmps.getD 94 undef := ⟨_, rfl⟩
                obtain ⟨q95, hq95⟩ : ∃ q, q = fr.tmps.getD 95 undef := ⟨_, rfl⟩
                obtain ⟨q96, hq96⟩ : ∃ q, q = fr.tmps.getD 96 undef := ⟨_, rfl⟩
                obtain ⟨q97, hq97⟩ : ∃ q, q = fr.tmps.getD 97 undef := ⟨_, rfl⟩
                obtain ⟨q98, hq98⟩ : ∃ q, q = fr.tmps.getD 98 undef := ⟨_, rfl⟩
                obtain ⟨q99, hq99⟩ : ∃ q, q = fr.tmps.getD 99 undef := ⟨_, rfl⟩
                obtain ⟨q100, hq100⟩ : ∃ q, q = fr.tmps.getD 100 undef := ⟨_, rfl⟩
                obtain ⟨q101, hq101⟩ : ∃ q, q = fr.tmps.getD 101 undef := ⟨_, rfl⟩
                obtain ⟨q102, hq102⟩ : ∃ q, q = fr.tmps.getD 102 undef := ⟨_, rfl⟩
                obtain ⟨q103, hq103⟩ : ∃ q, q = fr.tmps.getD 103 undef := ⟨_, rfl⟩
                obtain ⟨q104, hq104⟩ : ∃ q, q = fr.tmps.getD 104 undef := ⟨_, rfl⟩
                obtain ⟨q105, hq105⟩ : ∃ q, q = fr.tmps.getD 105 undef := ⟨_, rfl⟩
                obtain ⟨q106, hq106⟩ : ∃ q, q = fr.tmps.getD 106 undef := ⟨_, rfl⟩
                rw [← hq104] at h31
                rw [← hq106] at h33
                simp only [List.foldl, ← hq73, ← hq74, ← hq75, ← hq76, ← hq77, ← hq78, ← hq79, ← hq80, ← hq81, ← hq82, ← hq83, ← hq84, ← hq85, ← hq86, ← hq87, ← hq88, ← hq89, ← hq90, ← hq91, ← hq92, ← hq93, ← hq94, ← hq95, ← hq96, ← hq97, ← hq98, ← hq99, ← hq100, ← hq101, ← hq102, ← hq103, ← hq104, ← hq105, ← hq106] at hfr
                simp only [List.setIfInBounds_toArray, List.set_cons_zero, List.set_cons_succ] at hfr
                clear hall hkeep hs hd hq73 hq74 hq75 hq76 hq77 hq78 hq79 hq80 hq81 hq82 hq83 hq84 hq85 hq86 hq87 hq88 hq89 hq90 hq91 hq92 hq93 hq94 hq95 hq96 hq97 hq98 hq99 hq100 hq101 hq102 hq103 hq104 hq105 hq106
                subst hfr
                subst h33
                have HEND := hide (show DiskAt wf Da s' ∧ DiskAt wf Db s' ∧ Moved (fun k => Dk.own Da k ∨ Dk.own Db k) wr wf from ⟨h31.2.1, h31.2.2, hB⟩)
                clear h31 hB
                go_wp2_with fail
                go_meet
                case rel => exact ⟨rfl, HEND.out⟩
              -- END REGION lokb
            obtain ⟨rfl, hda, hdb, hmv⟩ := hcut.out
            have HEND := hide (And.intro hda (And.intro hdb hmv))
            clear hda hdb hmv hcut
            go_wp2_with fail
            go_roundg (40 - (i + 1))
            case measure => omega
            case rel =>
              refine ⟨i + 1, s', by omega, rfl, by go_num, HEND.out.1, HEND.out.2.1, HKP.out.1.trans HS0.out.1, by have := HKP.out.2.1; have := HR.out.2.2.2.1; omega, by have := HKP.out.2.2; have := HR.out.2.2.2.2.1; omega, ?_⟩
              have h1 := H9.out.2.2.2.trans (HQ.out.mono H9.out.2.2.2.size)
              exact h1.trans (HEND.out.2.2.below h1.size (fun k hk => by obtain ⟨g1, g2, g3, g4⟩ := HG.out; rcases hk with (hk | hk) | (hk | hk) <;> omega))
      · have hii : decide ((i : Int) < 40) = false := decide_eq_false (by omega)
        have hi2 : ¬ (i : Int) < 40 := by omega
        go_wp2_with fail
        go_ret
        exact ⟨rfl, HR.out.2.2.2.2.2⟩
    · have hii : ¬ (i : Int) < (len1 : Int) := by omega
      go_wp2_with fail
      go_ret
      exact ⟨rfl, HR.out.2.2.2.2.2⟩
#print axioms looks_any
end Go.Proofs.Ytiiblpgiafbaoaa
