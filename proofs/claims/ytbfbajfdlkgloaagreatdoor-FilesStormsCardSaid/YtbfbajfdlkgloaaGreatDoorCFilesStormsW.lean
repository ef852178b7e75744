/-
  massiflaw19.FilesStorms: the walk.
-/
import Derived.Test.YtbfbajfdlkgloaaGreatDoorCFilesSettled
namespace Go.Proofs.YtbfbajfdlkgloaaGreatDoor
open Go Go.RowKit Go.Maps
theorem rest_at (q : Int) (n : Nat) (h0 : 0 < n) (hn : n ≤ 1099511627776) : ∃ i : Nat, i < n ∧ wrap64 ((IntKind.u64.wrap q).tmod (n : Int)) = (i : Int) := by
  rw [IntKind.wrap_u64, Int.tmod_eq_emod_of_nonneg (by omega)]
  have h3 := Int.emod_nonneg (q % 18446744073709551616) (show (n : Int) ≠ 0 by omega)
  have h4 := Int.emod_lt_of_pos (q % 18446744073709551616) (show 0 < (n : Int) by omega)
  obtain ⟨i, hi⟩ : ∃ i : Nat, q % 18446744073709551616 % (n : Int) = i := ⟨_, (Int.toNat_of_nonneg h3).symm⟩
  rw [hi] at h4 ⊢
  exact ⟨i, by omega, IntWalk.wrap64_in _ (by omega)⟩
/-- A number of 1 to n. -/
theorem one_to (q : Int) (n : Nat) (h0 : 0 < n) (hn : n ≤ 100) : ∃ i : Nat, 1 ≤ i ∧ i ≤ n ∧ wrap64 ((IntKind.u64.wrap q).tmod (n : Int)) = ((i : Int) - 1) := by
  obtain ⟨i, hi, he⟩ := rest_at q n h0 (by omega)
  exact ⟨i + 1, by omega, by omega, by omega⟩
theorem Fl.lame_add {s : Fl.St} (hs : s.lame = true) (d : Dk.St) (x : ByteArray) (l : List ByteArray) : Fl.addA s d x l = (191, s, d) := by
  have h : Fl.checkA s x l = 191 := by unfold Fl.checkA; rw [if_pos hs]
  unfold Fl.addA
  rw [h]; rfl
theorem diskDown_st {D0 D : Dk.Blk} {w0 w : World} {d : Dk.St} (h : DiskSt D0 w0 w D d) (r : Bool) (hr : r = d.down) :
    Calls Tryz.prog 41 #[.pointer (some ⟨D0.g, 0, none⟩)] w fun e w' => e = .returned (.bool r) ∧ w' = w := by
  rw [← h.g, hr]; exact diskDown_any D d w h.disk
theorem diskDown_g {D0 D : Dk.Blk} {w0 w : World} {d : Dk.St} {g : Nat} (hg : D0.g = g) (h : DiskSt D0 w0 w D d) (r : Bool) (hr : r = d.down) :
    Calls Tryz.prog 41 #[.pointer (some ⟨g, 0, none⟩)] w fun e w' => e = .returned (.bool r) ∧ w' = w := by
  subst hg; exact diskDown_st h r hr
theorem diskFiles_g {D0 D : Dk.Blk} {w0 w : World} {d : Dk.St} {g : Nat} (hg : D0.g = g) (h : DiskSt D0 w0 w D d) (l : List (ByteArray × ByteArray)) (hl : Dk.files d = l) :
    Calls Tryz.prog 19 #[.pointer (some ⟨g, 0, none⟩)] w fun e w' => ∃ len a cap, e = .returned (.slice a len cap) ∧ Hid (SlF w' (.slice a len cap) l) ∧ Hid (Below w.heap.size w w') := by
  subst hg; exact (diskFiles_st h l hl).mono fun _ _ ⟨len, a, cap, h1, h2, h3⟩ => ⟨len, a, cap, h1, h2.2.1, h3⟩
theorem diskAfter_g {D0 D : Dk.Blk} {w0 w : World} {d : Dk.St} {g : Nat} (hg : D0.g = g) (h : DiskSt D0 w0 w D d) (kv : Value) (keep : List Bool) (l : List (ByteArray × ByteArray)) (hkv : SlV w kv (keep.map Value.bool)) (hkl : keep.length ≤ 140737488351232) (hl : Dk.after d keep = l) :
    Calls Tryz.prog 22 #[.pointer (some ⟨g, 0, none⟩), kv] w fun e w' => ∃ len a cap, e = .returned (.slice a len cap) ∧ Hid (SlF w' (.slice a len cap) l) ∧ Hid (Below w.heap.size w w') := by
  subst hg; exact (diskAfter_st h kv keep l hkv hkl hl).mono fun _ _ ⟨len, a, cap, h1, h2, h3⟩ => ⟨len, a, cap, h1, h2.2.1, h3⟩
/-- A fate that is laid beside a store. -/
theorem Stands.laid {D0 D : Dk.Blk} {w0 w w' : World} {T : Fl.Blk} {s : Fl.St} {d d' : Dk.St} (h : Stands D0 w0 w T D s d) (hl : Laid D w w' d') :
    ∃ D0' D' : Dk.Blk, D0'.g = D0.g ∧ D0'.mb = D0.mb ∧ Stands D0' w0 w' T D' s d' := by
  obtain ⟨D', g1, g2, g3, g4, g5⟩ := hl
  have hev : ∀ b, T.ev.ownBlock = some b → b < w.heap.size := by
    intro b hb
    obtain ⟨_, h2⟩ := h.store.row
    rcases h2 with ⟨e, _⟩ | ⟨g, cap, cur, e, hg, hh, r⟩
    · rw [e] at hb; cases hb
    · rw [e] at hb; injection hb with hb; rw [← hb]; exact heap_lt hh
  refine ⟨⟨D0.g, D0.mb, D'.kv⟩, D', rfl, rfl, ⟨⟨g1.trans h.g, rfl, ?_, g4, ?_⟩, h.tg, h.te, ?_, ?_⟩⟩
  · rw [g2]; exact h.mb
  · exact h.moved.trans g5 (fun j hj => .inl (.inl (hj.trans h.g)))
  · rw [g1]; exact h.store.stay g5 h.away.g.1 (fun b hb => (h.away.ev b hb).1)
  · refine ⟨by rw [g1, g2]; exact h.away.g, fun b hb => by rw [g1, g2]; exact h.away.ev b hb, fun b hb => ?_⟩
    rcases g3 with e | e
    · rw [e] at hb; exact h.away.keep b hb
    · have h1 := e b hb
      have h2 := h.store.lt
      exact ⟨by omega, fun q => by have := hev b q; omega⟩
theorem diskLay_st {D0 D : Dk.Blk} {w0 w : World} {T : Fl.Blk} {s : Fl.St} {d : Dk.St} {tg : Nat} (h : T.g = tg ∧ Stands D0 w0 w T D s d) (at_ kind : Int) (kv : Value) (keep : List Bool) (hat : (Lit.int .i64 at_).wf = true) (hkv : SlV w kv (keep.map Value.bool)) (hkl : keep.length ≤ 140737488351232) (hap : Dk.slBlk kv ≠ some D0.g) :
    Calls Tryz.prog 39 #[.pointer (some ⟨D0.g, 0, none⟩), .agg #[.int .i64 at_, .int .i64 kind, kv]] w fun e w' => e = .returned (.tuple #[]) ∧ ∃ D0' D', Hid (D0'.g = D0.g ∧ D0'.mb = D0.mb) ∧ Hid (T.g = tg ∧ Stands D0' w0 w' T D' s (Dk.layC d at_ kind keep)) := by
  rw [← h.2.g] at hap ⊢
  refine (diskLay_any D d at_ kind kv keep w h.2.disk hat hkv hkl hap).mono ?_
  rintro e w' ⟨he, hl⟩
  obtain ⟨D0', D', g1, g2, g3⟩ := h.2.laid hl
  exact ⟨he, D0', D', ⟨g1.trans h.2.g.symm, g2⟩, h.1, g3⟩
theorem diskLay_on {D : Dk.Blk} {w : World} {d : Dk.St} (h : DiskAt w D d) (at_ kind : Int) (kv : Value) (keep : List Bool) (hat : (Lit.int .i64 at_).wf = true) (hkv : SlV w kv (keep.map Value.bool)) (hkl : keep.length ≤ 140737488351232) (hap : Dk.slBlk kv ≠ some D.g) :
    Calls Tryz.prog 39 #[.pointer (some ⟨D.g, 0, none⟩), .agg #[.int .i64 at_, .int .i64 kind, kv]] w fun e w' => e = .returned (.tuple #[]) ∧ ∃ D', Hid (D'.g = D.g ∧ D'.mb = D.mb) ∧ Hid (DiskSt D' w' w' D' (Dk.layC d at_ kind keep)) ∧ Hid (Moved (fun k => k = D.g) w w') := by
  refine (diskLay_any D d at_ kind kv keep w h hat hkv hkl hap).mono ?_
  rintro e w' ⟨he, D', g1, g2, g3, g4, g5⟩
  exact ⟨he, D', ⟨g1, g2⟩, DiskSt.start g4, g5⟩
theorem has_lame_st {D0 D : Dk.Blk} {w0 w : World} {T : Fl.Blk} {d : Dk.St} {s : Fl.St} {k tg : Nat} {l : List ByteArray} (h : T.g = tg ∧ Stands D0 w0 w T D s d) (hs : s = { Fl.stOf k (Fl.its k 0 l) with lame := true }) (hh : Fl.Has d k l) (v : Value) (hv : SlV w v (l.map Value.string)) (hl : l.length ≤ 100) (hz : ∀ x ∈ l, x.size ≤ 1048576) (hk1 : 1 ≤ k) (hk : k ≤ 32) :
    Calls Tryz.prog 16 #[.pointer (some ⟨tg, 0, none⟩), .int .i64 (k : Int), v] w fun e w' => e = .returned (.bool true) ∧ Hid (Below w.heap.size w w') := by
  subst hs
  rw [← h.1]
  exact has_lame T D d k l v w true h.2.store h.2.disk hh hv hl hz hk1 hk
theorem Fl.wait_has {d : Dk.St} {k m : Nat} {l : List ByteArray} (hup : d.down = false) (h : Fl.On (Fl.InvS (m < l.length) k (Fl.its k 0 (l.take m)) (Fl.itAt k l m)) d.files) : Fl.Has d k (l.take m) := by
  obtain ⟨oi, om, on, e, hp, _⟩ := h
  obtain ⟨ti, hi⟩ := hp.items.1
  obtain ⟨tn, hn⟩ := hp.nodes.1
  exact ⟨hup, ⟨ti, by rw [e, Fl.get3_items]; exact hi⟩, ⟨tn, by rw [e, Fl.get3_nodes]; exact hn⟩⟩
/-- The law's argument in memory, and its lists. -/
structure StormAt (w : World) (b : Nat) (C : Array Value) (v3 v5 v8 : Value) (k3 k5 k8 : List Bool) : Prop where
  cells : w.heap[b]? = some (.cells C 76 (0, 0))
  s3 : SlV w v3 (k3.map Value.bool)
  s5 : SlV w v5 (k5.map Value.bool)
  s8 : SlV w v8 (k8.map Value.bool)
theorem StormAt.below {w w' : World} {b : Nat} {C : Array Value} {v3 v5 v8 : Value} {k3 k5 k8 : List Bool} (h : StormAt w b C v3 v5 v8 k3 k5 k8) (hb : Below w.heap.size w w') : StormAt w' b C v3 v5 v8 k3 k5 k8 :=
  ⟨(hb.block b (heap_lt h.cells)).trans h.cells, h.s3.below hb, h.s5.below hb, h.s8.below hb⟩
theorem StormAt.cell {w : World} {b : Nat} {C : Array Value} {v3 v5 v8 : Value} {k3 k5 k8 : List Bool} (h : StormAt w b C v3 v5 v8 k3 k5 k8) (i : Nat) : w.cell? ⟨b, i, none⟩ = C[i]? := cell_blk h.cells i
set_option maxHeartbeats 3200000 in
set_option maxRecDepth 100000 in
theorem filesStorms_any (k : Int) (v : Value) (items : List ByteArray) (q0 q1 q2 : Int) (kv3 : Value) (keep3 : List Bool) (pw : Bool) (kv5 : Value) (keep5 : List Bool) (q6 q7 : Int) (kv8 : Value) (keep8 : List Bool) (w : World) (hk : (Lit.int .i64 k).wf = true) (hv : SlV w v (items.map Value.string)) (hl : items.length ≤ 140737488351232) (hs : ∀ s ∈ items, s.size ≤ 140737488351232) (hkv3 : SlV w kv3 (keep3.map Value.bool)) (hkl3 : keep3.length ≤ 140737488351232) (hkv5 : SlV w kv5 (keep5.map Value.bool)) (hkl5 : keep5.length ≤ 140737488351232) (hkv8 : SlV w kv8 (keep8.map Value.bool)) (hkl8 : keep8.length ≤ 140737488351232) :
    Calls Tryz.prog 10 #[.int .i64 k, v, .agg #[.int .i64 q0, .int .i64 q1, .int .i64 q2, kv3, .bool pw, kv5, .int .i64 q6, .int .i64 q7, kv8]] w fun e w' => e = .returned (.bool true) ∧ Below w.heap.size w w' := by
  obtain ⟨l3, a3, c3, hll3, rfl, hc3, hxx3⟩ := hkv3.form
  obtain ⟨l5, a5, c5, hll5, rfl, hc5, hxx5⟩ := hkv5.form
  obtain ⟨l8, a8, c8, hll8, rfl, hc8, hxx8⟩ := hkv8.form
  have HK3 := hide hkv3
  have HK5 := hide hkv5
  have HK8 := hide hkv8
  have HKL := hide (show keep3.length ≤ 140737488351232 ∧ keep5.length ≤ 140737488351232 ∧ keep8.length ≤ 140737488351232 ∧ (∀ j, Dk.slBlk (.slice a3 l3 c3) = some j → j < w.heap.size) ∧ (∀ j, Dk.slBlk (.slice a8 l8 c8) = some j → j < w.heap.size) from ⟨hkl3, hkl5, hkl8, fun j hj => hkv3.blk_lt hj, fun j hj => hkv8.blk_lt hj⟩)
  clear hkv3 hkv5 hkv8 hkl3 hkl5 hkl8 hll3 hll5 hll8 hxx3 hxx5 hxx8 hc3 hc5 hc8
  have HV := hide hv
  have HS := hide hs
  clear hv hs 
  go_enter Tryz.func10, Tryz.ntmps10
  go_wp2_with fail
  obtain ⟨W0, hW0⟩ : ∃ u, u = w.alloc (.cells #[.int .i64 q0, .int .i64 q1, .int .i64 q2, .slice a3 l3 c3, .bool pw, .slice a5 l5 c5, .int .i64 q6, .int .i64 q7, .slice a8 l8 c8] 76) := ⟨_, rfl⟩
  obtain ⟨b5, hb5⟩ : ∃ b, b = w.heap.size := ⟨_, rfl⟩
  rw [← hW0, ← hb5]
  obtain ⟨CC, hCC⟩ : ∃ C, C = (#[.int .i64 q0, .int .i64 q1, .int .i64 q2, .slice a3 l3 c3, .bool pw, .slice a5 l5 c5, .int .i64 q6, .int .i64 q7, .slice a8 l8 c8] : Array Value) := ⟨_, rfl⟩
  have H0 := hide (show Below w.heap.size w W0 ∧ StormAt W0 b5 CC (.slice a3 l3 c3) (.slice a5 l5 c5) (.slice a8 l8 c8) keep3 keep5 keep8 from by
    have hb : Below w.heap.size w W0 := by rw [hW0]; exact (Below.refl _ _).alloc (Nat.le_refl _) _
    exact ⟨hb, by rw [hW0, hb5, hCC]; exact alloc_at _ _, HK3.out.below hb, HK5.out.below hb, HK8.out.below hb⟩)
  have HCC := hide hCC
  clear hW0 hb5 hCC
  refine (alive_any _).mono ?_
  rintro e w1 ⟨rfl, hb1⟩
  have HB1 := hide (H0.out.1.trans (hb1.mono H0.out.1.size))
  have HC1 := hide (H0.out.2.below hb1)
  clear hb1
  go_wp2_with fail
  refine (strength_any k _ hk).mono ?_
  rintro e w2 ⟨rfl, he⟩
  subst he
  obtain ⟨kn, hkn⟩ : ∃ n, n = Fl.strN k := ⟨_, rfl⟩
  have hk1 : 1 ≤ kn := by rw [hkn]; exact (Fl.strN_le k).1
  have hk2 : kn ≤ 32 := by rw [hkn]; exact (Fl.strN_le k).2
  rw [← hkn]
  clear hkn
  go_wp2_with fail
  refine (list_any v items _ (HV.out.below HB1.out) hl HS.out).mono ?_
  rintro e w3 ⟨lv, rfl, hrow, hb3⟩
  obtain ⟨l, hle⟩ : ∃ l, l = Fl.listL items := ⟨_, rfl⟩
  rw [← hle] at hrow
  have hln : l.length ≤ 12 := by rw [hle]; exact Fl.listL_len items
  have HLS := hide (show ∀ x ∈ l, x.size ≤ 500 from fun x hx => Fl.listL_size (hle ▸ hx))
  have hsl := slv_of_owns hrow
  obtain ⟨n, la, lc, hn, rfl, hlc, _⟩ := hsl.form
  rw [List.length_map] at hn
  have HN := hide hn
  have HL := hide (And.intro hsl (HB1.out.trans (hb3.mono HB1.out.size)))
  have HC3 := hide (HC1.out.below hb3)
  have HLVB := hide (show ∀ j, Dk.slBlk (.slice la n lc) = some j → j < w3.heap.size from fun j hj => hsl.blk_lt hj)
  have hn12 : n ≤ 12 := by omega
  clear hle hrow hsl hb3 hn hln
  have hz0 : ((n : Int) + 1) ≠ 0 := by omega
  obtain ⟨n0, hn0, hne⟩ := rest_at q0 (n + 1) (by omega) (by omega)
  rw [show (((n + 1 : Nat)) : Int) = (n : Int) + 1 by omega] at hne
  have hc0 : _ := (HC3.out.cell 0).trans (show CC[0]? = some (.int .i64 q0) by rw [HCC.out]; rfl)
  go_upto_region 5 with (fail)
  go_cut [8] from 29 to 37 (fun v8 wx => v8 = .int .i64 (n0 : Int) ∧ wx = w3)
  case first =>
    go_wp2_with fail
    go_meet
    case rel => exact ⟨congrArg (Value.int .i64) hne, rfl⟩
  case rest =>
    obtain ⟨h8, hwx⟩ := hcut
    subst h8; subst hwx
    obtain ⟨w3, rfl⟩ : ∃ u, u = wc := ⟨_, rfl⟩
    clear hc0 hne hz0
    have HBW := hide HL.out.2
    go_wp2_with fail
    refine (diskNew_any 1048576 _ (by decide)).mono ?_
    rintro e w4 ⟨D0, rfl, hD, hg, hmb, hkv, hb4⟩
    have HB4 := hide (And.intro hb4 (And.intro hg hmb))
    have HD4 := hide hD
    have HL4 := hide (HL.out.1.below hb4)
    clear hb4 hg hmb hkv hD
    go_wp2_with fail
    have hn0l : n0 ≤ l.length := by have := HN.out; omega
    refine (made_val D0 Fl.dM kn (l.take n0) _ _ HD4.out Fl.dM_calm rfl Fl.dM_room (by decide) (by decide) (by rw [List.map_take]; exact HL4.out.take n0 (by rw [List.length_map]; exact hn0l)) (by rw [List.length_take]; have := HN.out; omega) (fun x hx => HLS.out x (List.mem_of_mem_take hx)) hk1 hk2).mono ?_
    rintro e w5 ⟨T, D, rfl, hst⟩
    obtain ⟨tg, htg⟩ : ∃ b, b = T.g := ⟨_, rfl⟩
    obtain ⟨dd, hdd⟩ : ∃ d, d = Fl.dOf Fl.dM kn (Fl.its kn 0 (l.take n0)) (Fl.dM.acts + 3 + 6 * (l.take n0).length) := ⟨_, rfl⟩
    rw [← hdd] at hst
    have HS5 := hide (show T.g = tg ∧ Stands D0 w4 w5 T D (Fl.stOf kn (Fl.its kn 0 (l.take n0))) dd from ⟨htg.symm, hst⟩)
    rw [← htg]
    have HSZ := hide (show ∀ x ∈ l, x.size ≤ 1048576 from fun x hx => by have := HLS.out x hx; omega)
    have HDD := hide (show dd.down = false ∧ dd.files = Fl.good3 kn (Fl.its kn 0 (l.take n0)) ∧ dd.room = 1048576 ∧ dd.acts ≤ 1000 from by
      rw [hdd]; exact ⟨rfl, rfl, rfl, by show 0 + 3 + 6 * (l.take n0).length ≤ 1000; rw [List.length_take]; omega⟩)
    have HW5 := hide (hst.toDiskSt.below HB4.out.1 HB4.out.2.1 HB4.out.2.2)
    have HC5 := hide (HC3.out.below HW5.out)
    have HDP := hide (show Dk.slBlk (.slice a3 l3 c3) ≠ some D0.g from fun h => by
      have h1 := HKL.out.2.2.2.1 _ h
      have h2 := HB4.out.2.1
      have h3 := HBW.out.size
      omega)
    clear hst htg hdd
    have hc1 : _ := (HC5.out.cell 1).trans (show CC[1]? = some (.int .i64 q1) by rw [HCC.out]; rfl)
    have hc2 : _ := (HC5.out.cell 2).trans (show CC[2]? = some (.int .i64 q2) by rw [HCC.out]; rfl)
    have hc3 : _ := (HC5.out.cell 3).trans (show CC[3]? = some (.slice a3 l3 c3) by rw [HCC.out]; rfl)
    obtain ⟨z1, hz1, hz1', he1⟩ := one_to q1 40 (by decide) (by decide)
    obtain ⟨z2, hz2, hz2', he2⟩ := one_to q2 5 (by decide) (by decide)
    have hza1 : wrap64 (1 + wrap64 ((IntKind.u64.wrap q1).tmod 40)) = (z1 : Int) := by rw [show wrap64 ((IntKind.u64.wrap q1).tmod 40) = (z1 : Int) - 1 from he1, IntWalk.wrap64_in _ (by omega)]; omega
    have hza2 : wrap64 (1 + wrap64 ((IntKind.u64.wrap q2).tmod 5)) = (z2 : Int) := by rw [show wrap64 ((IntKind.u64.wrap q2).tmod 5) = (z2 : Int) - 1 from he2, IntWalk.wrap64_in _ (by omega)]; omega
    go_wp2_with fail
    refine (diskLay_st HS5.out _ _ _ keep3 (by exact Rec.wf_i64 (by omega) (by omega)) HC5.out.s3 HKL.out.1 HDP.out).mono ?_
    rintro e w6 ⟨rfl, D0', D1, HG6, HS6⟩
    have hlay := Fl.lay_is (d := dd) HDD.out.1 (a := (z1 : Int)) (c := (z2 : Int)) (by omega) (by omega) keep3
    have HR6 := hide (show Fl.Runs kn l n0 (Dk.layC dd (z1 : Int) (z2 : Int) keep3) from by
      rw [hlay]
      exact ⟨⟨by show (0 : Int) ≤ z1; omega, .inr (by show (1 : Int) ≤ z2 ∧ (z2 : Int) ≤ 5; omega)⟩, HDD.out.1, HDD.out.2.1, HDD.out.2.2.1, by show dd.acts ≤ _; have := HDD.out.2.2.2; omega, HKL.out.1⟩)
    have HA6 := hide (show (Dk.layC dd (z1 : Int) (z2 : Int) keep3).acts ≤ 1000 from by rw [hlay]; exact HDD.out.2.2.2)
    obtain ⟨d1, hd1⟩ : ∃ d, d = Dk.layC dd (z1 : Int) (z2 : Int) keep3 := ⟨_, rfl⟩
    rw [← hd1] at HS6 HR6 HA6
    have HLV4 := hide (show ∀ j, Dk.slBlk (.slice la n lc) = some j → ¬ Dk.own D0' j from fun j hj ho => by
      have h1 := HLVB.out j hj
      have h2 := HB4.out.2.1
      have h3 := HB4.out.2.2
      have h4 := HG6.out
      rcases ho with e | e <;> omega)
    obtain ⟨⟨m, e1, s2, d2⟩, hR⟩ : ∃ R, Fl.metA kn l (l.length - n0) n0 (Fl.stOf kn (Fl.its kn 0 (l.take n0))) d1 = R := ⟨_, rfl⟩
    have hln12 : l.length ≤ 12 := by have := HN.out; omega
    have hmets := Fl.met_run hk1 hk2 (by omega) HLS.out (l.length - n0) n0 d1 (by omega) HR6.out.fated HR6.out.up HR6.out.files HR6.out.room
    rw [hR] at hmets
    obtain ⟨hrd, hml⟩ := Fl.ready_met hk1 hk2 hln12 HLS.out (by omega) hmets HR6.out.room HA6.out HR6.out.keep
    have hml : m ≤ l.length := hml
    have HRD := hide (show Fl.Ready (m < l.length) kn m l d2 from hrd)
    have HMET := hide (show (e1 = 0 → m = l.length) ∧ (e1 ≠ 0 → s2 = { Fl.stOf kn (Fl.its kn 0 (l.take m)) with lame := true }) from ⟨fun h => (hmets.good h).1, fun h => (hmets.bad h).2.2.1⟩)
    have HR := hide hR
    have hmn : m ≤ n := by have := HN.out; omega
    have HD2 := hide (show d2.acts + 6 < 4611686018427387904 ∧ d2.files.length + 6 < 1099511627776 ∧ d2.keep.length ≤ 140737488351232 from ⟨by have := hrd.acts; show d2.acts + 6 < _; have h : d2.acts ≤ 2000 := this; omega, by have h : d2.files.length ≤ 3 := Fl.on_len hrd.on; omega, hrd.keep⟩)
    have HDLV := hide (show D0'.g = D0.g from HG6.out.1)
    clear hlay hd1 hR hmets hrd hza1 hza2 he1 he2 hc1 hc2 hc3
    go_wp2_with fail
    refine (met_val HS6.out HR6.out hn0l hk1 hk2 hln12 HLS.out _ HL4.out HLV4.out (m, e1, s2, d2) HR.out).mono ?_
    rintro e w7 ⟨rfl, T2, D2, HS7⟩
    have HS7 := hide (show T2.g = tg ∧ Stands D0' w4 w7 T2 D2 s2 d2 from HS7.out)
    have HGE := hide (show w3.heap.size ≤ D0'.g ∧ w3.heap.size ≤ D0'.mb from ⟨by have := HG6.out.1; have := HB4.out.2.1; omega, by have := HG6.out.2; have := HB4.out.2.2; omega⟩)
    have HW7 := hide (HS7.out.2.toDiskSt.below HB4.out.1 HGE.out.1 HGE.out.2)
    go_upto_if 73 with (fail)
    go_cut [] from 72 to 110 (fun wx => Hid (∃ Dx, DiskSt D0' w4 wx Dx d2))
    case first =>
      by_cases h0 : e1 = 0
      · have hb0 : (e1 != 0) = false := by rw [h0]; rfl
        have hme : m = n := by rw [HMET.out.1 h0]; exact HN.out.symm
        clear h0
        have hmb : ((m : Int) != (n : Int)) = false := by rw [hme]; simp
        go_wp2_with fail
        go_meet
        case rel => exact ⟨D2, HS7.out.2.toDiskSt⟩
      · have hb0 : (e1 != 0) = true := by rw [bne_iff_ne]; exact h0
        have hs2 := HMET.out.2 h0
        have HS2 := hide hs2
        have HSL := hide (show true = s2.lame from by rw [hs2])
        have HSN := hide (show m = s2.ends.length from by
          rw [hs2]
          show m = (Fl.endsF (Fl.its kn 0 (l.take m)) 0).length
          rw [Fl.endsF_len, Fl.its_len, List.length_take]; omega)
        clear h0 hs2
        go_wp2_with fail
        refine (storeLame_st HS7.out true HSL.out).mono ?_
        rintro e w8 ⟨rfl, he⟩
        subst he
        go_wp2_with fail
        refine (digests_any m kn _ (by omega) hk2).mono ?_
        rintro e w9 ⟨dv, rfl, hrow, hb9⟩
        have HB9 := hide hb9
        have HDV := hide (slv_of_owns hrow)
        clear hrow hb9
        have HS9 := hide (And.intro HS7.out.1 (HS7.out.2.past HB9.out))
        go_wp2_with fail
        refine (storeAdd_st HS9.out 191 _ _ (Fl.digs m kn) (by decide) HDV.out (by rw [Fl.digs_len]; have := Fl.trailF_le 64 m; unfold Fl.trail; omega) (fun d hd => by rw [Fl.digs_size hd]; omega) HD2.out.1 HD2.out.2.1 HD2.out.2.2 (Fl.lame_add HSL.out.symm d2 _ _)).mono ?_
        rintro e w10 ⟨rfl, T3, D3, HS10, HM10⟩
        go_wp2_with fail
        refine (storeSize_st HS10.out m HSN.out).mono ?_
        rintro e w11 ⟨rfl, he⟩
        subst he
        obtain ⟨dn, hdn⟩ : ∃ b, b = d2.down := ⟨_, rfl⟩
        have hmm : ((m : Int) != (m : Int)) = false := by simp
        have HDN := hide hdn
        clear hdn
        go_wp2_with fail
        refine (diskDown_g HDLV.out HS10.out.2.toDiskSt dn HDN.out).mono ?_
        rintro e w12 ⟨rfl, he⟩
        subst he
        have HV12 := hide (HL.out.1.below (HS10.out.2.toDiskSt.below HB4.out.1 HGE.out.1 HGE.out.2))
        cases dn with
        | true =>
          go_wp2_with fail
          go_meet
          case rel => exact ⟨D3, HS10.out.2.toDiskSt⟩
        | false =>
          go_wp2_with fail
          refine (has_lame_st HS10.out HS2.out (Fl.wait_has HDN.out.symm HRD.out.on) _ (by rw [List.map_take]; exact HV12.out.take m (by rw [List.length_map]; have := HN.out; omega)) (by rw [List.length_take]; omega) (fun x hx => HSZ.out x (List.mem_of_mem_take hx)) hk1 hk2).mono ?_
          rintro e w13 ⟨rfl, HB13⟩
          go_wp2_with fail
          go_meet
          case rel => exact ⟨D3, HS10.out.2.toDiskSt.past HB13.out⟩
    case rest =>
      obtain ⟨D4, hsd⟩ := hcut.out
      obtain ⟨w8, rfl⟩ : ∃ u, u = wc := ⟨_, rfl⟩
      have HSD := hide hsd
      have HW8 := hide (hsd.below HB4.out.1 HGE.out.1 HGE.out.2)
      clear hsd hcut
      obtain ⟨dn, hdn⟩ : ∃ b, b = d2.down := ⟨_, rfl⟩
      have HDN := hide hdn
      have hfa := Fl.files_after d2
      obtain ⟨fl0, hfl0⟩ : ∃ f, f = Dk.files d2 := ⟨_, rfl⟩
      have HF0 := hide (show Dk.files d2 = fl0 ∧ Dk.after { d2 with down := true } [] = fl0 from ⟨hfl0.symm, by rw [hfl0]; exact hfa.symm⟩)
      obtain ⟨fl5, hfl5⟩ : ∃ f, f = Dk.after d2 keep5 := ⟨_, rfl⟩
      have HF5 := hide hfl5
      clear hdn hfa hfl0 hfl5
      go_wp2_with fail
      refine (diskFiles_g HDLV.out HSD.out fl0 HF0.out.1).mono ?_
      rintro e w9 ⟨sn, sa, sc, rfl, HSF9, HB9⟩
      have HSD9 := hide (HSD.out.past HB9.out)
      have HW9 := hide (HW8.out.trans (HB9.out.mono HW8.out.size))
      have HC9 := hide (HC3.out.below HW9.out)
      obtain ⟨b1, hb1⟩ : ∃ b, b = (!dn && pw) := ⟨_, rfl⟩
      go_upto_region 18 with (fail)
      go_cut [119] from 113 to 119 (fun v119 wx => v119 = .bool b1 ∧ wx = w9)
      case first =>
        have hc4 : _ := (HC9.out.cell 4).trans (show CC[4]? = some (.bool pw) by rw [HCC.out]; rfl)
        cases dn with
        | true =>
          go_wp2_with fail
          refine (diskDown_g HDLV.out HSD9.out true HDN.out).mono ?_
          rintro e w10 ⟨rfl, he⟩
          subst he
          subst hb1
          go_wp2_with fail
          go_meet
          case rel => exact ⟨rfl, rfl⟩
        | false =>
          go_wp2_with fail
          refine (diskDown_g HDLV.out HSD9.out false HDN.out).mono ?_
          rintro e w10 ⟨rfl, he⟩
          subst he
          subst hb1
          go_wp2_with fail
          go_meet
          case rel => exact ⟨rfl, rfl⟩
      case rest =>
      obtain ⟨h119, hwx⟩ := hcut
      subst h119; subst hwx
      obtain ⟨w9, rfl⟩ : ∃ u, u = wc := ⟨_, rfl⟩
      clear hb1
      go_upto_if 119 with (fail)
      go_cut [13] from 120 to 123 (fun v13 wx => ∃ sn sa sc, v13 = .slice sa sn sc ∧ Hid (∃ fl dX kX, dX.files = d2.files ∧ Dk.after dX kX = fl ∧ SlF wx v13 fl) ∧ Hid (Below w9.heap.size w9 wx))
      case first =>
        have hc5 : _ := (HC9.out.cell 5).trans (show CC[5]? = some (.slice a5 l5 c5) by rw [HCC.out]; rfl)
        cases b1 with
        | false =>
          go_wp2_with fail
          go_meet
          case rel => exact ⟨sn, sa, sc, rfl, ⟨fl0, { d2 with down := true }, [], rfl, HF0.out.2, HSF9.out⟩, Below.refl _ _⟩
        | true =>
          go_wp2_with fail
          refine (diskAfter_g HDLV.out HSD9.out _ keep5 fl5 HC9.out.s5 HKL.out.2.1 HF5.out.symm).mono ?_
          rintro e w11 ⟨tn, ta, tc, rfl, HSF11, HB11⟩
          go_wp2_with fail
          go_meet
          case rel => exact ⟨tn, ta, tc, rfl, ⟨fl5, d2, keep5, rfl, HF5.out.symm, HSF11.out⟩, HB11.out⟩
      case rest =>
        obtain ⟨tn, ta, tc, h13, hsf, HB10⟩ := hcut
        subst h13
        obtain ⟨w10, rfl⟩ : ∃ u, u = wc := ⟨_, rfl⟩
        obtain ⟨fl, dX, kX, hdX, hfl, hsf⟩ := hsf.out
        have hsm := Fl.ready_small hk1 hk2 (d := dX) (by rw [hdX]; exact HRD.out.on) kX
        obtain ⟨b, hb, hrb, hub⟩ := Fl.ready_open hk1 hk2 HRD.out hdX kX
        rw [hfl] at hsm hb
        have HOP := hide (And.intro hb hsm)
        have HRB := hide (And.intro hrb hub)
        have HSF := hide hsf
        have HSD10 := hide (HSD9.out.past HB10.out)
        have HW10 := hide (HW9.out.trans (HB10.out.mono HW9.out.size))
        clear hdX hfl hsf hsm hb hrb hub
        go_wp2_with fail
        refine (diskOpen_st 1048576 _ fl b _ (by decide) HSF.out (by have := HOP.out.2.1; omega) HOP.out.2.2 HOP.out.1).mono ?_
        rintro e w11 ⟨Db, rfl, HDB⟩
        have HSD11 := hide (HSD10.out.past HDB.out.2.2.2)
        have HW11 := hide (HW10.out.trans (HDB.out.2.2.2.mono HW10.out.size))
        have HC11 := hide (HC3.out.below HW11.out)
        obtain ⟨b2, hb2⟩ : ∃ b, b = (!dn && !pw) := ⟨_, rfl⟩
        go_upto_region 23 with (fail)
        go_cut [142] from 135 to 142 (fun v142 wx => v142 = .bool b2 ∧ wx = w11)
        case first =>
          have hc4 : _ := (HC11.out.cell 4).trans (show CC[4]? = some (.bool pw) by rw [HCC.out]; rfl)
          cases dn with
          | true =>
            go_wp2_with fail
            refine (diskDown_g HDLV.out HSD11.out true HDN.out).mono ?_
            rintro e w12 ⟨rfl, he⟩
            subst he
            subst hb2
            go_wp2_with fail
            go_meet
            case rel => exact ⟨rfl, rfl⟩
          | false =>
            go_wp2_with fail
            refine (diskDown_g HDLV.out HSD11.out false HDN.out).mono ?_
            rintro e w12 ⟨rfl, he⟩
            subst he
            subst hb2
            go_wp2_with fail
            go_meet
            case rel => exact ⟨rfl, rfl⟩
        case rest =>
        obtain ⟨h142, hwx⟩ := hcut
        subst h142; subst hwx
        obtain ⟨w11, rfl⟩ : ∃ u, u = wc := ⟨_, rfl⟩
        have HDW := hide (show b2 = true → d2.down = false from fun h => by
          rw [hb2] at h
          have h2 := HDN.out
          cases hd : d2.down with
          | false => rfl
          | true => rw [h2, hd] at h; cases h)
        clear hb2
        go_upto_if 142 with (fail)
        go_cut [14] from 143 to 143 (fun v14 wx => ∃ g, v14 = .pointer (some ⟨g, 0, none⟩) ∧ Hid (∃ Dc c, Dc.g = g ∧ DiskAt wx Dc c ∧ Fl.Ready (m < l.length) kn m l c ∧ c.down = false ∧ w3.heap.size ≤ Dc.g ∧ w3.heap.size ≤ Dc.mb) ∧ Hid (Below w11.heap.size w11 wx))
        case first =>
          have HDG := hide (show w3.heap.size ≤ Db.g ∧ w3.heap.size ≤ Db.mb from ⟨by have := HDB.out.2.1; have := HW10.out.size; omega, by have := HDB.out.2.2.1; have := HW10.out.size; omega⟩)
          cases b2 with
          | false =>
            go_wp2_with fail
            go_meet
            case rel => exact ⟨Db.g, rfl, ⟨Db, b, rfl, HDB.out.1.disk, HRB.out.1, HRB.out.2, HDG.out.1, HDG.out.2⟩, Below.refl _ _⟩
          | true =>
            go_wp2_with fail
            go_meet
            case rel => exact ⟨D0.g, rfl, ⟨D4, d2, HSD11.out.g.trans HDLV.out, HSD11.out.disk, HRD.out, (by first | exact HDW.out trivial | exact HDW.out rfl), by rw [HSD11.out.g]; exact HGE.out.1, by
                rcases HSD11.out.mb with e | e
                · rw [e]; exact HGE.out.2
                · have := HB4.out.1.size; omega⟩, Below.refl _ _⟩
        case rest =>
        obtain ⟨g14, h14, hst, HB12⟩ := hcut
        subst h14
        obtain ⟨w12, rfl⟩ : ∃ u, u = wc := ⟨_, rfl⟩
        obtain ⟨Dc, c, hg, hdc, hrc, hcu, hcg, hcm⟩ := hst.out
        subst hg
        have HDC := hide hdc
        have HRC := hide (And.intro hrc hcu)
        have HGC := hide (And.intro hcg hcm)
        have HW12 := hide (HW11.out.trans (HB12.out.mono HW11.out.size))
        have HC12 := hide (HC3.out.below HW12.out)
        have HAP := hide (show Dk.slBlk (.slice a8 l8 c8) ≠ some Dc.g from fun h => by
          have h1 := HKL.out.2.2.2.2 _ h
          have h2 := HBW.out.size
          omega)
        clear hst hdc hrc hcu hcg hcm
        have hc6 : _ := (HC12.out.cell 6).trans (show CC[6]? = some (.int .i64 q6) by rw [HCC.out]; rfl)
        have hc7 : _ := (HC12.out.cell 7).trans (show CC[7]? = some (.int .i64 q7) by rw [HCC.out]; rfl)
        have hc8 : _ := (HC12.out.cell 8).trans (show CC[8]? = some (.slice a8 l8 c8) by rw [HCC.out]; rfl)
        obtain ⟨y1, hy1, hy1', hf1⟩ := one_to q6 9 (by decide) (by decide)
        obtain ⟨y2, hy2, hy2', hf2⟩ := one_to q7 5 (by decide) (by decide)
        have hya1 : wrap64 (1 + wrap64 ((IntKind.u64.wrap q6).tmod 9)) = (y1 : Int) := by rw [show wrap64 ((IntKind.u64.wrap q6).tmod 9) = (y1 : Int) - 1 from hf1, IntWalk.wrap64_in _ (by omega)]; omega
        have hya2 : wrap64 (1 + wrap64 ((IntKind.u64.wrap q7).tmod 5)) = (y2 : Int) := by rw [show wrap64 ((IntKind.u64.wrap q7).tmod 5) = (y2 : Int) - 1 from hf2, IntWalk.wrap64_in _ (by omega)]; omega
        go_wp2_with fail
        refine (diskLay_on HDC.out _ _ _ keep8 (by exact Rec.wf_i64 (by omega) (by omega)) HC12.out.s8 HKL.out.2.2.1 HAP.out).mono ?_
        rintro e w13 ⟨rfl, De, HG13, HS13, HM13⟩
        rw [← HG13.out.1]
        have HW13 := hide (HW12.out.trans (HM13.out.below HW12.out.size (fun j hj => by have := HGC.out.1; omega)))
        have hrl := Fl.ready_lay HRC.out.1 HRC.out.2 (a := (y1 : Int)) (c := (y2 : Int)) (by omega) (by omega) keep8 HKL.out.2.2.1
        obtain ⟨c1, hc1⟩ : ∃ x, x = Dk.layC c (y1 : Int) (y2 : Int) keep8 := ⟨_, rfl⟩
        rw [← hc1] at hrl HS13
        have HS13 := hide (show DiskSt De w13 w13 De c1 from HS13.out)
        have HGE13 := hide (show w3.heap.size ≤ De.g ∧ w3.heap.size ≤ De.mb from ⟨by have := HG13.out.1; have := HGC.out.1; omega, by have := HG13.out.2; have := HGC.out.2; omega⟩)
        have hfate := Fl.ready_fate hk1 hk2 hln12 HLS.out hml id hrl.1 hrl.2.1 hrl.2.2
        have HCB := hide (show c1.acts + 6 < 4611686018427387904 ∧ c1.files.length + 6 < 1099511627776 ∧ c1.keep.length ≤ 140737488351232 from ⟨by have := hrl.1.acts; omega, by have := Fl.on_len hrl.1.on; omega, hrl.1.keep⟩)
        clear hc1 hrl hya1 hya2 hf1 hf2 hc6 hc7 hc8
        by_cases h0 : (Fl.openA c1 (kn : Int)).1 = 0
        · obtain ⟨m1, hm1, hm1l, hop, hf, hu, hon, hac, hkp⟩ := hfate.1 h0
          obtain ⟨c2, hc2⟩ : ∃ x, x = (Fl.openA c1 (kn : Int)).2.2 := ⟨_, rfl⟩
          rw [← hc2] at hop hf hu hon hac hkp
          have HOP2 := hide hop
          have HC2 := hide (And.intro (Fl.has_good hu hf) hon)
          have HM1 := hide hm1
          have HLE := hide (show m1 = (Fl.stOf kn (Fl.its kn 0 (l.take m1))).ends.length from by
            show m1 = (Fl.endsF (Fl.its kn 0 (l.take m1)) 0).length
            rw [Fl.endsF_len, Fl.its_len, List.length_take]; omega)
          have hm1n : m1 ≤ n := by have := HN.out; omega
          obtain ⟨fl3, hfl3⟩ : ∃ f, f = Dk.after c2 keep3 := ⟨_, rfl⟩
          have HFL3 := hide hfl3
          clear hop hf hu hon hac hkp hm1 hc2 h0 hfate hfl3
          go_wp2_with fail
          refine (filesOpen_yes HS13.out (kn : Int) HCB.out.1 HCB.out.2.1 HCB.out.2.2 HOP2.out).mono ?_
          rintro e w14 ⟨tg2, T5, D5, rfl, HS14, HM14⟩
          have HW14 := hide (HW13.out.trans ((HS14.out.2.toDiskSt.moved).below HW13.out.size (fun j hj => hj.elim (fun e => by have := HGE13.out.1; omega) (fun e => by have := HGE13.out.2; omega))))
          have HV14 := hide (HL.out.1.below HW14.out)
          go_upto_region 28 with (fail)
          go_cut [203] from 169 to 203 (fun v203 wx => v203 = .bool false ∧ Hid (Below w14.heap.size w14 wx))
          case first =>
            rcases HM1.out with hm | ⟨_, hm⟩
            · have e1 : ((m1 : Int) != (m : Int)) = false := by rw [hm]; simp
              clear hm
              go_wp2_with fail
              refine (storeSize_st HS14.out m1 HLE.out).mono ?_
              rintro e w15 ⟨rfl, he⟩
              subst he
              go_wp2_with fail
              refine (storeSize_st HS14.out m1 HLE.out).mono ?_
              rintro e w15 ⟨rfl, he⟩
              subst he
              go_wp2_with fail
              refine (storeSize_st HS14.out m1 HLE.out).mono ?_
              rintro e w15 ⟨rfl, he⟩
              subst he
              go_wp2_with fail
              refine (has_st HS14.out HC2.out.1 _ (by rw [List.map_take]; exact HV14.out.take m1 (by rw [List.length_map]; have := HN.out; omega)) (by rw [List.length_take]; omega) (fun x hx => HSZ.out x (List.mem_of_mem_take hx)) hk1 hk2).mono ?_
              rintro e w16 ⟨rfl, HB16⟩
              go_wp2_with fail
              go_meet
              case rel => exact ⟨congrArg Value.bool (decide_eq_false (by omega)), HB16.out⟩
            · have e1 : ((m1 : Int) != (m : Int)) = true := by rw [bne_iff_ne]; omega
              have e2 : ((m1 : Int) != (m : Int) + 1) = false := by rw [hm]; simp
              clear hm
              go_wp2_with fail
              refine (storeSize_st HS14.out m1 HLE.out).mono ?_
              rintro e w15 ⟨rfl, he⟩
              subst he
              go_wp2_with fail
              refine (storeSize_st HS14.out m1 HLE.out).mono ?_
              rintro e w15 ⟨rfl, he⟩
              subst he
              go_wp2_with fail
              refine (storeSize_st HS14.out m1 HLE.out).mono ?_
              rintro e w15 ⟨rfl, he⟩
              subst he
              go_wp2_with fail
              refine (storeSize_st HS14.out m1 HLE.out).mono ?_
              rintro e w15 ⟨rfl, he⟩
              subst he
              go_wp2_with fail
              refine (has_st HS14.out HC2.out.1 _ (by rw [List.map_take]; exact HV14.out.take m1 (by rw [List.length_map]; have := HN.out; omega)) (by rw [List.length_take]; omega) (fun x hx => HSZ.out x (List.mem_of_mem_take hx)) hk1 hk2).mono ?_
              rintro e w16 ⟨rfl, HB16⟩
              go_wp2_with fail
              go_meet
              case rel => exact ⟨congrArg Value.bool (decide_eq_false (by omega)), HB16.out⟩
          case rest =>
            obtain ⟨h203, HB15⟩ := hcut
            subst h203
            obtain ⟨w15, rfl⟩ : ∃ u, u = wc := ⟨_, rfl⟩
            have HS15 := hide (And.intro HS14.out.1 (HS14.out.2.past HB15.out))
            have HW15 := hide (HW14.out.trans (HB15.out.mono HW14.out.size))
            have HC15 := hide (HC3.out.below HW15.out)
            have HV15 := hide (HL.out.1.below HW15.out)
            have hc3 : _ := (HC15.out.cell 3).trans (show CC[3]? = some (.slice a3 l3 c3) by rw [HCC.out]; rfl)
            go_wp2_with fail
            refine (diskAfter_g rfl HS15.out.2.toDiskSt _ keep3 fl3 HC15.out.s3 HKL.out.1 HFL3.out.symm).mono ?_
            rintro e w16 ⟨xn, xa, xc, rfl, HSF16, HB16⟩
            have HS16 := hide (And.intro HS15.out.1 (HS15.out.2.past HB16.out))
            have HW16 := hide (HW15.out.trans (HB16.out.mono HW15.out.size))
            have HV16 := hide (HL.out.1.below HW16.out)
            go_wp2_with fail
            refine (storeSize_st HS16.out m1 HLE.out).mono ?_
            rintro e w17 ⟨rfl, he⟩
            subst he
            go_wp2_with fail
            refine (settled_val (may := False) hk1 hk2 hln12 HLS.out hm1l (fun h => h.elim) HC2.out.2 keep3 fl3 HFL3.out.symm _ _ _ HSF16.out HV16.out).mono ?_
            rintro e w18 ⟨m2, rfl, hm2, HB18⟩
            have hm3 : m2 = m1 := hm2.elim id (fun h => h.1.elim)
            subst hm3
            have HS18 := hide (And.intro HS16.out.1 (HS16.out.2.past HB18.out))
            have HW18 := hide (HW16.out.trans (HB18.out.mono HW16.out.size))
            clear hm2
            go_wp2_with fail
            refine (storeSize_st HS18.out m2 HLE.out).mono ?_
            rintro e w19 ⟨rfl, he⟩
            subst he
            go_wp2_with fail
            go_ret
            exact ⟨rfl, HL.out.2.trans (HW18.out.mono HL.out.2.size)⟩
        · obtain ⟨hop, hon⟩ := hfate.2 h0
          obtain ⟨r, hr⟩ : ∃ x, x = (Fl.openA c1 (kn : Int)).1 := ⟨_, rfl⟩
          obtain ⟨c2, hc2⟩ : ∃ x, x = (Fl.openA c1 (kn : Int)).2.2 := ⟨_, rfl⟩
          rw [← hc2, ← hr] at hop
          rw [← hc2] at hon
          rw [← hr] at h0
          have HOP2 := hide hop
          have HON := hide hon
          have hrb : (r == 0) = false := by rw [beq_eq_false_iff_ne]; exact h0
          obtain ⟨dn2, hdn2⟩ : ∃ b, b = c2.down := ⟨_, rfl⟩
          have HDN2 := hide hdn2
          have hfa := Fl.files_after c2
          obtain ⟨fl6, hfl6⟩ : ∃ f, f = Dk.files c2 := ⟨_, rfl⟩
          have HF6 := hide (show Dk.files c2 = fl6 ∧ Dk.after { c2 with down := true } [] = fl6 from ⟨hfl6.symm, by rw [hfl6]; exact hfa.symm⟩)
          obtain ⟨fl8, hfl8⟩ : ∃ f, f = Dk.after c2 keep8 := ⟨_, rfl⟩
          have HF8 := hide hfl8
          clear hop hon hr hc2 h0 hfate hdn2 hfa hfl6 hfl8
          go_wp2_with fail
          refine (filesOpen_no HS13.out (kn : Int) r HCB.out.1 HCB.out.2.1 HCB.out.2.2 HOP2.out).mono ?_
          rintro e w14 ⟨rfl, D5, HS14, HM14⟩
          have HW14 := hide (HW13.out.trans ((HS14.out.moved).below HW13.out.size (fun j hj => hj.elim (fun e => by have := HGE13.out.1; omega) (fun e => by have := HGE13.out.2; omega))))
          go_wp2_with fail
          refine (diskFiles_g rfl HS14.out fl6 HF6.out.1).mono ?_
          rintro e w15 ⟨un, ua, uc, rfl, HSF15, HB15⟩
          have HS15 := hide (HS14.out.past HB15.out)
          have HW15 := hide (HW14.out.trans (HB15.out.mono HW14.out.size))
          have HC15 := hide (HC3.out.below HW15.out)
          obtain ⟨b3, hb3⟩ : ∃ b, b = (!dn2 && pw) := ⟨_, rfl⟩
          go_upto_region 35 with (fail)
          go_cut [235] from 229 to 235 (fun v235 wx => v235 = .bool b3 ∧ wx = w15)
          case first =>
            have hc4 : _ := (HC15.out.cell 4).trans (show CC[4]? = some (.bool pw) by rw [HCC.out]; rfl)
            cases dn2 with
            | true =>
              go_wp2_with fail
              refine (diskDown_g rfl HS15.out true HDN2.out).mono ?_
              rintro e w16 ⟨rfl, he⟩
              subst he
              subst hb3
              go_wp2_with fail
              go_meet
              case rel => exact ⟨rfl, rfl⟩
            | false =>
              go_wp2_with fail
              refine (diskDown_g rfl HS15.out false HDN2.out).mono ?_
              rintro e w16 ⟨rfl, he⟩
              subst he
              subst hb3
              go_wp2_with fail
              go_meet
              case rel => exact ⟨rfl, rfl⟩
          case rest =>
          obtain ⟨h235, hwx⟩ := hcut
          subst h235; subst hwx
          obtain ⟨w15, rfl⟩ : ∃ u, u = wc := ⟨_, rfl⟩
          clear hb3
          go_upto_if 235 with (fail)
          go_cut [20] from 236 to 239 (fun v20 wx => ∃ sn sa sc, v20 = .slice sa sn sc ∧ Hid (∃ fl dX kX, dX.files = c2.files ∧ Dk.after dX kX = fl ∧ SlF wx v20 fl) ∧ Hid (Below w15.heap.size w15 wx))
          case first =>
            have hc8 : _ := (HC15.out.cell 8).trans (show CC[8]? = some (.slice a8 l8 c8) by rw [HCC.out]; rfl)
            cases b3 with
            | false =>
              go_wp2_with fail
              go_meet
              case rel => exact ⟨un, ua, uc, rfl, ⟨fl6, { c2 with down := true }, [], rfl, HF6.out.2, HSF15.out⟩, Below.refl _ _⟩
            | true =>
              go_wp2_with fail
              refine (diskAfter_g rfl HS15.out _ keep8 fl8 HC15.out.s8 HKL.out.2.2.1 HF8.out.symm).mono ?_
              rintro e w16 ⟨tn2, ta2, tc2, rfl, HSF16, HB16⟩
              go_wp2_with fail
              go_meet
              case rel => exact ⟨tn2, ta2, tc2, rfl, ⟨fl8, c2, keep8, rfl, HF8.out.symm, HSF16.out⟩, HB16.out⟩
          case rest =>
            obtain ⟨tn2, ta2, tc2, h20, hsf, HB16⟩ := hcut
            subst h20
            obtain ⟨w16, rfl⟩ : ∃ u, u = wc := ⟨_, rfl⟩
            obtain ⟨flz, dX, kX, hdX, hflz, hsf⟩ := hsf.out
            have hon2 := HON.out
            rw [← hdX] at hon2
            have HON2 := hide (And.intro hon2 hflz)
            have HSF16 := hide hsf
            have HW16 := hide (HW15.out.trans (HB16.out.mono HW15.out.size))
            have HV16 := hide (HL.out.1.below HW16.out)
            clear hdX hflz hsf hon2
            go_wp2_with fail
            refine (settled_val hk1 hk2 hln12 HLS.out hml id HON2.out.1 kX flz HON2.out.2 _ _ _ HSF16.out HV16.out).mono ?_
            rintro e w17 ⟨m2, rfl, _, HB17⟩
            go_wp2_with fail
            go_ret
            exact ⟨rfl, HL.out.2.trans ((HW16.out.trans (HB17.out.mono HW16.out.size)).mono HL.out.2.size)⟩
end Go.Proofs.YtbfbajfdlkgloaaGreatDoor
