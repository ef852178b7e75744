/-
  The law's has: a store of a list made so tells all of it.
-/
import Derived.Test.YtbfbajfdlkgloaaGreatDoorG42

namespace Go.Proofs.YtbfbajfdlkgloaaGreatDoor
open Go Go.RowKit Go.Maps
set_option maxHeartbeats 3200000 in
set_option maxRecDepth 100000 in
theorem has_val (T : Fl.Blk) (D : Dk.Blk) (d : Dk.St) (k : Nat) (l : List ByteArray) (v : Value) (w : World) (h : StoreAt w T D.g (Fl.stOf k (Fl.its k 0 l))) (hd : DiskAt w D d) (hh : Fl.Has d k l) (hv : SlV w v (l.map Value.string)) (hl : l.length ≤ 100) (hs : ∀ x ∈ l, x.size ≤ 1048576) (hk1 : 1 ≤ k) (hk : k ≤ 32) :
    Calls Tryz.prog 16 #[.pointer (some ⟨T.g, 0, none⟩), .int .i64 (k : Int), v] w fun e w' => e = .returned (.bool true) ∧ Below w.heap.size w w' := by
  obtain ⟨n, a, cap, hn, rfl, hc, hx⟩ := hv.form
  rw [List.length_map] at hn
  obtain ⟨s, hse⟩ : ∃ s, s = Fl.stOf k (Fl.its k 0 l) := ⟨_, rfl⟩
  rw [← hse] at h
  have HT := hide h
  have HD := hide hd
  have HH := hide hh
  have HX := hide hx
  have HN := hide hn
  have HS := hide hs
  have HSE := hide hse
  rw [← hn] at hl
  have HE := hide (show n = s.ends.length by rw [hse]; show n = (Fl.endsF (Fl.its k 0 l) 0).length; rw [Fl.endsF_len, Fl.its_len, hn])
  clear h hd hh hx hn hs hse hv
  go_enter Tryz.func16, Tryz.ntmps16
  go_wp2_with fail
  refine (storeSize_val T D.g s n _ HT.out HE.out).mono ?_
  rintro e w1 ⟨rfl, he⟩
  subst he
  have hnn : ((n : Int) != (n : Int)) = false := by simp
  go_upto_block 0 with (fail)
  clear hnn
  go_cut [7] from 8 to 81 (fun v7 wx => Hid (v7 = .int .u64 (Fl.nodes n : Int) ∧ Below w1.heap.size w1 wx))
  case first =>
    go_wp2_with fail
    go_loopg [7, 8] n (fun g v7 v8 wr => ∃ i p : Nat, g = n - i ∧ i ≤ n ∧ v8 = .int .i64 (i : Int) ∧ v7 = .int .u64 (p : Int) ∧ p ≤ 10000 ∧ Hid (p = Fl.nodes i) ∧ Hid (Below w1.heap.size w1 wr))
    case atStart => exact ⟨0, 0, rfl, Nat.zero_le _, rfl, rfl, by decide, Fl.nodes_zero.symm, Below.refl _ _⟩
    case round =>
      obtain ⟨i, p, rfl, hi, rfl, rfl, hp, HP, HL⟩ := hrel
      by_cases hlt : i < n
      · have hlt2 : decide (i < n) = true := decide_eq_true hlt
        obtain ⟨x, hxx⟩ : ∃ x, l[i]? = some x := ⟨_, List.getElem?_eq_getElem (by rw [← HN.out]; exact hlt)⟩
        obtain ⟨b, off, rfl, hbl, hcl⟩ := HX.out i hlt
        have HXX := hide hxx
        have HCL := hide (show w1.cell? ⟨b, off + i, none⟩ = some (.string x) by rw [hcl, List.getD_eq_getElem?_getD, List.getElem?_map, hxx]; rfl)
        have HBL := hide hbl
        have HI := hide (show Fl.itemA s d i = (x, 0) by rw [HSE.out]; exact HH.out.item hxx (HS.out x (List.mem_of_getElem? hxx)))
        clear hxx hcl hbl
        go_wp2_with fail
        refine (storeItem_val T D s d i x 0 _ (HT.out.past HL.out) (HD.out.past HL.out) (by omega) HI.out).mono ?_
        rintro e w2 ⟨rfl, hb2⟩
        have HB2 := hide (HL.out.trans (hb2.mono HL.out.size))
        clear hb2
        have hc2 : w2.cell? ⟨b, off + i, none⟩ = some (.string x) := by rw [HB2.out.cell (p := ⟨b, off + i, none⟩) HBL.out]; exact HCL.out
        go_wp2_with fail
        refine (digests_any i k _ (by omega) hk).mono ?_
        rintro e w3 ⟨dv, rfl, hrow, hb3⟩
        obtain ⟨m, ad, cp, hm, rfl, hcm, hdx⟩ := (slv_of_owns hrow).form
        rw [List.length_map, Fl.digs_len] at hm
        have hm65 : m ≤ 65 := by have := Fl.trailF_le 64 i; unfold Fl.trail at hm; omega
        have HM := hide (show Fl.nodes (i + 1) = p + m by have h1 := Fl.trail_nodes i (by omega); have h2 := Fl.nodes_mono i; rw [HP.out, hm]; omega)
        have HML := hide (show (Fl.digs i k).length = m by rw [Fl.digs_len, hm])
        have HB3 := hide (HB2.out.trans (hb3.mono HB2.out.size))
        have HDX := hide hdx
        clear hb3 hc2 hrow hm hdx
        go_upto_block 2 with (fail)
        go_wp2_with fail
        go_loopg [7, 12] m (fun g v7 v12 wq => ∃ j : Nat, g = m - j ∧ j ≤ m ∧ v12 = .int .i64 (j : Int) ∧ v7 = .int .u64 ((p + j : Nat) : Int) ∧ Hid (Below w3.heap.size w3 wq))
        case atStart => exact ⟨0, rfl, Nat.zero_le _, rfl, rfl, Below.refl _ _⟩
        case round =>
          obtain ⟨j, rfl, hj, rfl, rfl, HQ⟩ := hrel
          have HBQ := hide (HB3.out.trans (HQ.out.mono HB3.out.size))
          by_cases hjm : j < m
          · have hjm2 : decide (j < m) = true := decide_eq_true hjm
            obtain ⟨y, hy⟩ : ∃ y, (Fl.digs i k)[j]? = some y := ⟨_, List.getElem?_eq_getElem (by rw [HML.out]; exact hjm)⟩
            obtain ⟨b2, off2, rfl, hbl2, hcl2⟩ := HDX.out j hjm
            have HCL2 := hide (show w3.cell? ⟨b2, off2 + j, none⟩ = some (.string y) by rw [hcl2, List.getD_eq_getElem?_getD, List.getElem?_map, hy]; rfl)
            have HBL2 := hide hbl2
            have HNA := hide (show Fl.nodeA s d (p + j) = (y, 0) by rw [HSE.out, HP.out]; exact HH.out.node hk (by have := HN.out; omega) HS.out (by rw [← HN.out]; exact hlt) hy)
            clear hy hbl2 hcl2
            go_wp2_with fail
            refine (storeNode_val T D s d (p + j) y 0 _ (HT.out.past HBQ.out) (HD.out.past HBQ.out) (by omega) HNA.out).mono ?_
            rintro e w4 ⟨rfl, hb4⟩
            have HB4 := hide (HQ.out.trans (hb4.mono HQ.out.size))
            clear hb4
            have hc4 : w4.cell? ⟨b2, off2 + j, none⟩ = some (.string y) := by rw [HB4.out.cell (p := ⟨b2, off2 + j, none⟩) HBL2.out]; exact HCL2.out
            go_wp2_with fail
            go_roundg (m - (j + 1))
            case measure => omega
            case rel => exact ⟨j + 1, rfl, by omega, by go_num, congrArg (Value.int .u64) (by omega), HB4.out⟩
          · have hjm2 : decide (j < m) = false := decide_eq_false hjm
            have hje : j = m := by omega
            have HJ := hide hje
            clear hje
            go_wp2_with fail
            go_roundg (n - (i + 1))
            case measure => omega
            case rel => exact ⟨i + 1, p + j, rfl, by omega, by go_num, rfl, by have := HM.out; have := HJ.out; have := nodes_le (i + 1); omega, (by have h1 := HM.out; have h2 := HJ.out; show p + j = _; omega), HBQ.out⟩
      · have hlt2 : decide (i < n) = false := decide_eq_false hlt
        have hie : i = n := by omega
        have HV := hide (show Value.int .u64 (p : Int) = .int .u64 (Fl.nodes n : Int) by rw [HP.out, hie])
        clear hie
        go_wp2_with fail
        go_meet
        case rel => exact ⟨HV.out, HL.out⟩
  case rest =>
    obtain ⟨h7, hb7⟩ := hcut.out
    subst h7
    obtain ⟨q, hq⟩ : ∃ q, q = Fl.nodes n := ⟨_, rfl⟩
    have hqn : q ≤ 200 := by rw [hq]; have := nodes_le n; omega
    rw [← hq]
    have HQ := hide hq
    have HB7 := hide hb7
    clear hcut hb7 hq
    go_wp2_with fail
    refine (storeItem_val T D s d n ⟨#[]⟩ 31 _ (HT.out.past HB7.out) (HD.out.past HB7.out) (by omega) (by rw [HSE.out]; exact Fl.Has.itemOut n (by rw [HN.out]; exact Nat.le_refl _))).mono ?_
    rintro e w8 ⟨rfl, hb8⟩
    have HB8 := hide (HB7.out.trans (hb8.mono HB7.out.size))
    clear hb8
    go_wp2_with fail
    refine (storeNode_val T D s d q ⟨#[]⟩ 31 _ (HT.out.past HB8.out) (HD.out.past HB8.out) (by omega) (by rw [HSE.out]; exact Fl.Has.nodeOut q (by rw [HQ.out, HN.out]; exact Nat.le_refl _))).mono ?_
    rintro e w9 ⟨rfl, hb9⟩
    have HB9 := hide (HB8.out.trans (hb9.mono HB8.out.size))
    clear hb9
    go_wp2_with fail
    refine (placeNodes_val n q _ (by omega) HQ.out).mono ?_
    rintro e w10 ⟨rfl, he⟩
    subst he
    go_wp2_with fail
    go_ret
    exact ⟨rfl, HB9.out⟩
end Go.Proofs.YtbfbajfdlkgloaaGreatDoor

/-
  A store beside its disk, both made behind a call's beginning or standing in their places; Add and Open said so.
-/
namespace Go.Proofs.YtbfbajfdlkgloaaGreatDoor
open Go Go.RowKit Go.Maps
/-- The disk stands in its place (its map may be a new one); nothing else has turned. -/
structure DiskSt (D0 : Dk.Blk) (w0 w : World) (D : Dk.Blk) (d : Dk.St) : Prop where
  g : D.g = D0.g
  kv : D.kv = D0.kv
  mb : D.mb = D0.mb ∨ w0.heap.size ≤ D.mb
  disk : DiskAt w D d
  moved : Moved (Dk.own D0) w0 w
structure Stands (D0 : Dk.Blk) (w0 w : World) (T : Fl.Blk) (D : Dk.Blk) (s : Fl.St) (d : Dk.St) : Prop extends DiskSt D0 w0 w D d where
  tg : w0.heap.size ≤ T.g
  te : ∀ b, T.ev.ownBlock = some b → w0.heap.size ≤ b
  store : StoreAt w T D.g s
  away : Fl.Away T D
theorem DiskSt.start {D : Dk.Blk} {w : World} {d : Dk.St} (h : DiskAt w D d) : DiskSt D w w D d := ⟨rfl, rfl, .inl rfl, h, Moved.refl _ _⟩
theorem DiskSt.past {D0 D : Dk.Blk} {w0 w w' : World} {d : Dk.St} (h : DiskSt D0 w0 w D d) (hb : Below w.heap.size w w') : DiskSt D0 w0 w' D d := ⟨h.g, h.kv, h.mb, h.disk.past hb, h.moved.then (Moved.of_below hb)⟩
theorem Stands.past {D0 D : Dk.Blk} {w0 w w' : World} {T : Fl.Blk} {s : Fl.St} {d : Dk.St} (h : Stands D0 w0 w T D s d) (hb : Below w.heap.size w w') : Stands D0 w0 w' T D s d :=
  ⟨h.toDiskSt.past hb, h.tg, h.te, h.store.past hb, h.away⟩
theorem DiskSt.own {D0 D : Dk.Blk} {w0 w : World} {d : Dk.St} (h : DiskSt D0 w0 w D d) {j : Nat} (hj : Dk.own D j) : Dk.own D0 j ∨ w0.heap.size ≤ j := by
  rcases hj with e | e
  · left; left; rw [e]; exact h.g
  · rcases h.mb with e2 | e2
    · left; right; rw [e]; exact e2
    · right; rw [e]; exact e2
/-- An Add behind it. -/
theorem Stands.add {D0 D : Dk.Blk} {w0 w w' : World} {T : Fl.Blk} {s s' : Fl.St} {d d' : Dk.St} (h : Stands D0 w0 w T D s d) (ha : Fl.Added T D w w' s' d') : ∃ T' D', T'.g = T.g ∧ Stands D0 w0 w' T' D' s' d' := by
  obtain ⟨T', D', g1, g2, g3, g4, g5, g6, g7, g8, g9⟩ := ha
  have hle := h.moved.size
  refine ⟨T', D', g1, ⟨⟨g2.trans h.g, g3.trans h.kv, ?_, g7, h.moved.trans g9 ?_⟩, by rw [g1]; exact h.tg, ?_, g6, g8⟩⟩
  · rcases g5 with e | e
    · rw [e]; exact h.mb
    · exact .inr (Nat.le_trans hle e)
  · rintro j (e | e | e)
    · right; rw [e]; exact h.tg
    · right; exact h.te j e
    · exact h.toDiskSt.own e
  · intro b hb
    rcases g4 with e | e
    · exact h.te b (e ▸ hb)
    · exact Nat.le_trans hle (e b hb)
theorem Stands.of_open {D0 D : Dk.Blk} {w0 w w' : World} {d d' : Dk.St} {r : Int} {s : Fl.St} {e : Ending} (h : DiskSt D0 w0 w D d) (ho : OpenOut D w r (some s) d' e w') :
    ∃ T D', e = .returned (.tuple #[.pointer (some ⟨T.g, 0, none⟩), .int .i64 0]) ∧ w.heap.size ≤ T.g ∧ Stands D0 w0 w' T D' s d' := by
  obtain ⟨D', g1, g2, g3, g4, g5, ⟨g6, _⟩ | ⟨s2, T, g6, g7, g8, g9, g10, g11, g12⟩⟩ := ho
  · cases g6
  · injection g6 with g6
    subst g6
    have hle := h.moved.size
    refine ⟨T, D', g8, g9, ⟨⟨g1.trans h.g, g2.trans h.kv, ?_, g4, h.moved.trans g5 (fun j hj => h.own hj)⟩, Nat.le_trans hle g9, fun b hb => Nat.le_trans hle (g10 b hb), g11, g12⟩⟩
    rcases g3 with e | e
    · rw [e]; exact h.mb
    · exact .inr (Nat.le_trans hle e)
theorem DiskSt.of_open {D0 D : Dk.Blk} {w0 w w' : World} {d d' : Dk.St} {r : Int} {e : Ending} (h : DiskSt D0 w0 w D d) (ho : OpenOut D w r none d' e w') :
    ∃ D', e = .returned (.tuple #[.pointer none, .int .i64 r]) ∧ DiskSt D0 w0 w' D' d' := by
  obtain ⟨D', g1, g2, g3, g4, g5, ⟨_, g6⟩ | ⟨s2, T, g6, _⟩⟩ := ho
  · have hle := h.moved.size
    refine ⟨D', g6, ⟨g1.trans h.g, g2.trans h.kv, ?_, g4, h.moved.trans g5 (fun j hj => h.own hj)⟩⟩
    rcases g3 with e | e
    · rw [e]; exact h.mb
    · exact .inr (Nat.le_trans hle e)
  · cases g6
theorem filesOpen_val (D : Dk.Blk) (d d' : Dk.St) (k r : Int) (st : Option Fl.St) (w : World) (hd : DiskAt w D d) (hacts : d.acts + 6 < 4611686018427387904) (hmany : d.files.length + 6 < 1099511627776) (hkl : d.keep.length ≤ 140737488351232) (hr : Fl.openA d k = (r, st, d')) :
    Calls Tryz.prog 20 #[.pointer (some ⟨D.g, 0, none⟩), .int .i64 k] w fun e w' => OpenOut D w r st d' e w' := by
  have h := filesOpen_any D d k w hd hacts hmany hkl
  rw [hr] at h; exact h
theorem storeAdd_val (T : Fl.Blk) (D : Dk.Blk) (s s' : Fl.St) (d d' : Dk.St) (r : Int) (item : ByteArray) (mv : Value) (made : List ByteArray) (w : World) (h : StoreAt w T D.g s) (hd : DiskAt w D d) (hap : Fl.Away T D) (hi : item.size ≤ 140737488351232) (hmv : SlV w mv (made.map Value.string)) (hml : made.length ≤ 140737488351232) (hms : ∀ d ∈ made, d.size ≤ 140737488351232) (hacts : d.acts + 6 < 4611686018427387904) (hmany : d.files.length + 6 < 1099511627776) (hkl : d.keep.length ≤ 140737488351232) (hr : Fl.addA s d item made = (r, s', d')) :
    Calls Tryz.prog 26 #[.pointer (some ⟨T.g, 0, none⟩), .string item, mv] w fun e w' => e = .returned (.int .i64 r) ∧ Fl.Added T D w w' s' d' := by
  have h := storeAdd_any T D s d item mv made w h hd hap hi hmv hml hms hacts hmany hkl
  rw [hr] at h; exact h
/-- The same of a base instead of a world. -/
def AddedAt (B : Nat) (T : Fl.Blk) (D : Dk.Blk) (s' : Fl.St) (d' : Dk.St) (u : World) : Prop :=
  ∃ (T' : Fl.Blk) (D' : Dk.Blk), T'.g = T.g ∧ D'.g = D.g ∧ D'.kv = D.kv ∧ (T'.ev.ownBlock = T.ev.ownBlock ∨ ∀ b, T'.ev.ownBlock = some b → B ≤ b) ∧ (D'.mb = D.mb ∨ B ≤ D'.mb) ∧ StoreAt u T' D'.g s' ∧ DiskAt u D' d' ∧ Fl.Away T' D'
theorem AddedAt.past {B : Nat} {T : Fl.Blk} {D : Dk.Blk} {s' : Fl.St} {d' : Dk.St} {u u' : World} (h : AddedAt B T D s' d' u) (hb : Below u.heap.size u u') : AddedAt B T D s' d' u' := by
  obtain ⟨T', D', g1, g2, g3, g4, g5, g6, g7, g8⟩ := h
  exact ⟨T', D', g1, g2, g3, g4, g5, g6.past hb, g7.past hb, g8⟩
def addS (T : Fl.Blk) (D : Dk.Blk) (k : Nat) : Prop := k = T.g ∨ T.ev.ownBlock = some k ∨ Dk.own D k
theorem Fl.Added.at {T : Fl.Blk} {D : Dk.Blk} {w w' : World} {s' : Fl.St} {d' : Dk.St} {B : Nat} (h : Fl.Added T D w w' s' d') (hB : B ≤ w.heap.size) : AddedAt B T D s' d' w' ∧ Moved (addS T D) w w' := by
  obtain ⟨T', D', g1, g2, g3, g4, g5, g6, g7, g8, g9⟩ := h
  exact ⟨⟨T', D', g1, g2, g3, g4.imp id (fun e b hb => Nat.le_trans hB (e b hb)), g5.imp id (Nat.le_trans hB), g6, g7, g8⟩, g9⟩
theorem AddedAt.added {T : Fl.Blk} {D : Dk.Blk} {w w' : World} {s' : Fl.St} {d' : Dk.St} (h : AddedAt w.heap.size T D s' d' w') (hm : Moved (addS T D) w w') : Fl.Added T D w w' s' d' := by
  obtain ⟨T', D', g1, g2, g3, g4, g5, g6, g7, g8⟩ := h
  exact ⟨T', D', g1, g2, g3, g4, g5, g6, g7, g8, hm⟩
end Go.Proofs.YtbfbajfdlkgloaaGreatDoor
