/-
  The law's has: a store of a list made so tells all of it.
-/
import Derived.Test.YtbfbajfdlkgloaaGreatDoorG33

namespace Go.Proofs.YtbfbajfdlkgloaaGreatDoor
open Go Go.RowKit Go.Maps
set_option maxHeartbeats 3200000 in
set_option maxRecDepth 100000 in
theorem has_lame (T : Fl.Blk) (D : Dk.Blk) (d : Dk.St) (k : Nat) (l : List ByteArray) (v : Value) (w : World) (b : Bool) (h : StoreAt w T D.g { Fl.stOf k (Fl.its k 0 l) with lame := b }) (hd : DiskAt w D d) (hh : Fl.Has d k l) (hv : SlV w v (l.map Value.string)) (hl : l.length ≤ 100) (hs : ∀ x ∈ l, x.size ≤ 1048576) (hk1 : 1 ≤ k) (hk : k ≤ 32) :
    Calls Tryz.prog 16 #[.pointer (some ⟨T.g, 0, none⟩), .int .i64 (k : Int), v] w fun e w' => e = .returned (.bool true) ∧ Below w.heap.size w w' := by
  obtain ⟨n, a, cap, hn, rfl, hc, hx⟩ := hv.form
  rw [List.length_map] at hn
  obtain ⟨s, hse⟩ : ∃ s, s = { Fl.stOf k (Fl.its k 0 l) with lame := b } := ⟨_, rfl⟩
  rw [← hse] at h
  have HT := hide h
  have HD := hide hd
  have HH := hide hh
  have HX := hide hx
  have HN := hide hn
  have HS := hide hs
  have HSE := hide (show (∀ i, Fl.itemA s d i = Fl.itemA (Fl.stOf k (Fl.its k 0 l)) d i) ∧ ∀ p, Fl.nodeA s d p = Fl.nodeA (Fl.stOf k (Fl.its k 0 l)) d p from by rw [hse]; exact ⟨fun _ => rfl, fun _ => rfl⟩)
  rw [← hn] at hl
  have HE := hide (show n = s.ends.length by rw [hse]; show n = (Fl.endsF (Fl.its k 0 l) 0).length; rw [Fl.endsF_len, Fl.its_len, hn])
  clear h hd hh hx hn hs hse hv
  go_enter Tryz.func16, Tryz.ntmps16
  go_wp2_with fail
  refine (storeSize_val T D.g s n _ HT.out HE.out).mono ?_
  rintro e w1 ⟨rfl, he⟩
  subst he
  have hnn : ((n : Int) != (n : Int)) = false := by simp
  go_upto_block 0 with (fail)
  clear hnn
  go_cut [7] from 8 to 81 (fun v7 wx => Hid (v7 = .int .u64 (Fl.nodes n : Int) ∧ Below w1.heap.size w1 wx))
  case first =>
    go_wp2_with fail
    go_loopg [7, 8] n (fun g v7 v8 wr => ∃ i p : Nat, g = n - i ∧ i ≤ n ∧ v8 = .int .i64 (i : Int) ∧ v7 = .int .u64 (p : Int) ∧ p ≤ 10000 ∧ Hid (p = Fl.nodes i) ∧ Hid (Below w1.heap.size w1 wr))
    case atStart => exact ⟨0, 0, rfl, Nat.zero_le _, rfl, rfl, by decide, Fl.nodes_zero.symm, Below.refl _ _⟩
    case round =>
      obtain ⟨i, p, rfl, hi, rfl, rfl, hp, HP, HL⟩ := hrel
      by_cases hlt : i < n
      · have hlt2 : decide (i < n) = true := decide_eq_true hlt
        obtain ⟨x, hxx⟩ : ∃ x, l[i]? = some x := ⟨_, List.getElem?_eq_getElem (by rw [← HN.out]; exact hlt)⟩
        obtain ⟨b, off, rfl, hbl, hcl⟩ := HX.out i hlt
        have HXX := hide hxx
        have HCL := hide (show w1.cell? ⟨b, off + i, none⟩ = some (.string x) by rw [hcl, List.getD_eq_getElem?_getD, List.getElem?_map, hxx]; rfl)
        have HBL := hide hbl
        have HI := hide (show Fl.itemA s d i = (x, 0) by rw [HSE.out.1]; exact HH.out.item hxx (HS.out x (List.mem_of_getElem? hxx)))
        clear hxx hcl hbl
        go_wp2_with fail
        refine (storeItem_val T D s d i x 0 _ (HT.out.past HL.out) (HD.out.past HL.out) (by omega) HI.out).mono ?_
        rintro e w2 ⟨rfl, hb2⟩
        have HB2 := hide (HL.out.trans (hb2.mono HL.out.size))
        clear hb2
        have hc2 : w2.cell? ⟨b, off + i, none⟩ = some (.string x) := by rw [HB2.out.cell (p := ⟨b, off + i, none⟩) HBL.out]; exact HCL.out
        go_wp2_with fail
        refine (digests_any i k _ (by omega) hk).mono ?_
        rintro e w3 ⟨dv, rfl, hrow, hb3⟩
        obtain ⟨m, ad, cp, hm, rfl, hcm, hdx⟩ := (slv_of_owns hrow).form
        rw [List.length_map, Fl.digs_len] at hm
        have hm65 : m ≤ 65 := by have := Fl.trailF_le 64 i; unfold Fl.trail at hm; omega
        have HM := hide (show Fl.nodes (i + 1) = p + m by have h1 := Fl.trail_nodes i (by omega); have h2 := Fl.nodes_mono i; rw [HP.out, hm]; omega)
        have HML := hide (show (Fl.digs i k).length = m by rw [Fl.digs_len, hm])
        have HB3 := hide (HB2.out.trans (hb3.mono HB2.out.size))
        have HDX := hide hdx
        clear hb3 hc2 hrow hm hdx
        go_upto_block 2 with (fail)
        go_wp2_with fail
        go_loopg [7, 12] m (fun g v7 v12 wq => ∃ j : Nat, g = m - j ∧ j ≤ m ∧ v12 = .int .i64 (j : Int) ∧ v7 = .int .u64 ((p + j : Nat) : Int) ∧ Hid (Below w3.heap.size w3 wq))
        case atStart => exact ⟨0, rfl, Nat.zero_le _, rfl, rfl, Below.refl _ _⟩
        case round =>
          obtain ⟨j, rfl, hj, rfl, rfl, HQ⟩ := hrel
          have HBQ := hide (HB3.out.trans (HQ.out.mono HB3.out.size))
          by_cases hjm : j < m
          · have hjm2 : decide (j < m) = true := decide_eq_true hjm
            obtain ⟨y, hy⟩ : ∃ y, (Fl.digs i k)[j]? = some y := ⟨_, List.getElem?_eq_getElem (by rw [HML.out]; exact hjm)⟩
            obtain ⟨b2, off2, rfl, hbl2, hcl2⟩ := HDX.out j hjm
            have HCL2 := hide (show w3.cell? ⟨b2, off2 + j, none⟩ = some (.string y) by rw [hcl2, List.getD_eq_getElem?_getD, List.getElem?_map, hy]; rfl)
            have HBL2 := hide hbl2
            have HNA := hide (show Fl.nodeA s d (p + j) = (y, 0) by rw [HSE.out.2, HP.out]; exact HH.out.node hk (by have := HN.out; omega) HS.out (by rw [← HN.out]; exact hlt) hy)
            clear hy hbl2 hcl2
            go_wp2_with fail
            refine (storeNode_val T D s d (p + j) y 0 _ (HT.out.past HBQ.out) (HD.out.past HBQ.out) (by omega) HNA.out).mono ?_
            rintro e w4 ⟨rfl, hb4⟩
            have HB4 := hide (HQ.out.trans (hb4.mono HQ.out.size))
            clear hb4
            have hc4 : w4.cell? ⟨b2, off2 + j, none⟩ = some (.string y) := by rw [HB4.out.cell (p := ⟨b2, off2 + j, none⟩) HBL2.out]; exact HCL2.out
            go_wp2_with fail
            go_roundg (m - (j + 1))
            case measure => omega
            case rel => exact ⟨j + 1, rfl, by omega, by go_num, congrArg (Value.int .u64) (by omega), HB4.out⟩
          · have hjm2 : decide (j < m) = false := decide_eq_false hjm
            have hje : j = m := by omega
            have HJ := hide hje
            clear hje
            go_wp2_with fail
            go_roundg (n - (i + 1))
            case measure => omega
            case rel => exact ⟨i + 1, p + j, rfl, by omega, by go_num, rfl, by have := HM.out; have := HJ.out; have := nodes_le (i + 1); omega, (by have h1 := HM.out; have h2 := HJ.out; show p + j = _; omega), HBQ.out⟩
      · have hlt2 : decide (i < n) = false := decide_eq_false hlt
        have hie : i = n := by omega
        have HV := hide (show Value.int .u64 (p : Int) = .int .u64 (Fl.nodes n : Int) by rw [HP.out, hie])
        clear hie
        go_wp2_with fail
        go_meet
        case rel => exact ⟨HV.out, HL.out⟩
  case rest =>
    obtain ⟨h7, hb7⟩ := hcut.out
    subst h7
    obtain ⟨q, hq⟩ : ∃ q, q = Fl.nodes n := ⟨_, rfl⟩
    have hqn : q ≤ 200 := by rw [hq]; have := nodes_le n; omega
    rw [← hq]
    have HQ := hide hq
    have HB7 := hide hb7
    clear hcut hb7 hq
    go_wp2_with fail
    refine (storeItem_val T D s d n ⟨#[]⟩ 31 _ (HT.out.past HB7.out) (HD.out.past HB7.out) (by omega) (by rw [HSE.out.1]; exact Fl.Has.itemOut n (by rw [HN.out]; exact Nat.le_refl _))).mono ?_
    rintro e w8 ⟨rfl, hb8⟩
    have HB8 := hide (HB7.out.trans (hb8.mono HB7.out.size))
    clear hb8
    go_wp2_with fail
    refine (storeNode_val T D s d q ⟨#[]⟩ 31 _ (HT.out.past HB8.out) (HD.out.past HB8.out) (by omega) (by rw [HSE.out.2]; exact Fl.Has.nodeOut q (by rw [HQ.out, HN.out]; exact Nat.le_refl _))).mono ?_
    rintro e w9 ⟨rfl, hb9⟩
    have HB9 := hide (HB8.out.trans (hb9.mono HB8.out.size))
    clear hb9
    go_wp2_with fail
    refine (placeNodes_val n q _ (by omega) HQ.out).mono ?_
    rintro e w10 ⟨rfl, he⟩
    subst he
    go_wp2_with fail
    go_ret
    exact ⟨rfl, HB9.out⟩
theorem has_val (T : Fl.Blk) (D : Dk.Blk) (d : Dk.St) (k : Nat) (l : List ByteArray) (v : Value) (w : World) (h : StoreAt w T D.g (Fl.stOf k (Fl.its k 0 l))) (hd : DiskAt w D d) (hh : Fl.Has d k l) (hv : SlV w v (l.map Value.string)) (hl : l.length ≤ 100) (hs : ∀ x ∈ l, x.size ≤ 1048576) (hk1 : 1 ≤ k) (hk : k ≤ 32) :
    Calls Tryz.prog 16 #[.pointer (some ⟨T.g, 0, none⟩), .int .i64 (k : Int), v] w fun e w' => e = .returned (.bool true) ∧ Below w.heap.size w w' :=
  has_lame T D d k l v w false h hd hh hv hl hs hk1 hk
end Go.Proofs.YtbfbajfdlkgloaaGreatDoor

/-
  A store beside its disk, both made behind a call's beginning or standing in their places; Add and Open said so.
-/
namespace Go.Proofs.YtbfbajfdlkgloaaGreatDoor
open Go Go.RowKit Go.Maps
/-- The disk stands in its place (its map may be a new one); nothing else has turned. -/
structure DiskSt (D0 : Dk.Blk) (w0 w : World) (D : Dk.Blk) (d : Dk.St) : Prop where
  g : D.g = D0.g
  kv : D.kv = D0.kv
  mb : D.mb = D0.mb ∨ w0.heap.size ≤ D.mb
  disk : DiskAt w D d
  moved : Moved (Dk.own D0) w0 w
structure Stands (D0 : Dk.Blk) (w0 w : World) (T : Fl.Blk) (D : Dk.Blk) (s : Fl.St) (d : Dk.St) : Prop extends DiskSt D0 w0 w D d where
  tg : w0.heap.size ≤ T.g
  te : ∀ b, T.ev.ownBlock = some b → w0.heap.size ≤ b
  store : StoreAt w T D.g s
  away : Fl.Away T D
theorem DiskSt.start {D : Dk.Blk} {w : World} {d : Dk.St} (h : DiskAt w D d) : DiskSt D w w D d := ⟨rfl, rfl, .inl rfl, h, Moved.refl _ _⟩
theorem DiskSt.past {D0 D : Dk.Blk} {w0 w w' : World} {d : Dk.St} (h : DiskSt D0 w0 w D d) (hb : Below w.heap.size w w') : DiskSt D0 w0 w' D d := ⟨h.g, h.kv, h.mb, h.disk.past hb, h.moved.then (Moved.of_below hb)⟩
theorem Stands.past {D0 D : Dk.Blk} {w0 w w' : World} {T : Fl.Blk} {s : Fl.St} {d : Dk.St} (h : Stands D0 w0 w T D s d) (hb : Below w.heap.size w w') : Stands D0 w0 w' T D s d :=
  ⟨h.toDiskSt.past hb, h.tg, h.te, h.store.past hb, h.away⟩
theorem DiskSt.own {D0 D : Dk.Blk} {w0 w : World} {d : Dk.St} (h : DiskSt D0 w0 w D d) {j : Nat} (hj : Dk.own D j) : Dk.own D0 j ∨ w0.heap.size ≤ j := by
  rcases hj with e | e
  · left; left; rw [e]; exact h.g
  · rcases h.mb with e2 | e2
    · left; right; rw [e]; exact e2
    · right; rw [e]; exact e2
/-- An Add behind it. -/
theorem Stands.add {D0 D : Dk.Blk} {w0 w w' : World} {T : Fl.Blk} {s s' : Fl.St} {d d' : Dk.St} (h : Stands D0 w0 w T D s d) (ha : Fl.Added T D w w' s' d') : ∃ T' D', T'.g = T.g ∧ Stands D0 w0 w' T' D' s' d' := by
  obtain ⟨T', D', g1, g2, g3, g4, g5, g6, g7, g8, g9⟩ := ha
  have hle := h.moved.size
  refine ⟨T', D', g1, ⟨⟨g2.trans h.g, g3.trans h.kv, ?_, g7, h.moved.trans g9 ?_⟩, by rw [g1]; exact h.tg, ?_, g6, g8⟩⟩
  · rcases g5 with e | e
    · rw [e]; exact h.mb
    · exact .inr (Nat.le_trans hle e)
  · rintro j (e | e | e)
    · right; rw [e]; exact h.tg
    · right; exact h.te j e
    · exact h.toDiskSt.own e
  · intro b hb
    rcases g4 with e | e
    · exact h.te b (e ▸ hb)
    · exact Nat.le_trans hle (e b hb)
theorem Stands.of_open {D0 D : Dk.Blk} {w0 w w' : World} {d d' : Dk.St} {r : Int} {s : Fl.St} {e : Ending} (h : DiskSt D0 w0 w D d) (ho : OpenOut D w r (some s) d' e w') :
    ∃ T D', e = .returned (.tuple #[.pointer (some ⟨T.g, 0, none⟩), .int .i64 0]) ∧ w.heap.size ≤ T.g ∧ Stands D0 w0 w' T D' s d' := by
  obtain ⟨D', g1, g2, g3, g4, g5, ⟨g6, _⟩ | ⟨s2, T, g6, g7, g8, g9, g10, g11, g12⟩⟩ := ho
  · cases g6
  · injection g6 with g6
    subst g6
    have hle := h.moved.size
    refine ⟨T, D', g8, g9, ⟨⟨g1.trans h.g, g2.trans h.kv, ?_, g4, h.moved.trans g5 (fun j hj => h.own hj)⟩, Nat.le_trans hle g9, fun b hb => Nat.le_trans hle (g10 b hb), g11, g12⟩⟩
    rcases g3 with e | e
    · rw [e]; exact h.mb
    · exact .inr (Nat.le_trans hle e)
theorem DiskSt.of_open {D0 D : Dk.Blk} {w0 w w' : World} {d d' : Dk.St} {r : Int} {e : Ending} (h : DiskSt D0 w0 w D d) (ho : OpenOut D w r none d' e w') :
    ∃ D', e = .returned (.tuple #[.pointer none, .int .i64 r]) ∧ DiskSt D0 w0 w' D' d' := by
  obtain ⟨D', g1, g2, g3, g4, g5, ⟨_, g6⟩ | ⟨s2, T, g6, _⟩⟩ := ho
  · have hle := h.moved.size
    refine ⟨D', g6, ⟨g1.trans h.g, g2.trans h.kv, ?_, g4, h.moved.trans g5 (fun j hj => h.own hj)⟩⟩
    rcases g3 with e | e
    · rw [e]; exact h.mb
    · exact .inr (Nat.le_trans hle e)
  · cases g6
theorem filesOpen_val (D : Dk.Blk) (d d' : Dk.St) (k r : Int) (st : Option Fl.St) (w : World) (hd : DiskAt w D d) (hacts : d.acts + 6 < 4611686018427387904) (hmany : d.files.length + 6 < 1099511627776) (hkl : d.keep.length ≤ 140737488351232) (hr : Fl.openA d k = (r, st, d')) :
    Calls Tryz.prog 20 #[.pointer (some ⟨D.g, 0, none⟩), .int .i64 k] w fun e w' => OpenOut D w r st d' e w' := by
  have h := filesOpen_any D d k w hd hacts hmany hkl
  rw [hr] at h; exact h
theorem storeAdd_val (T : Fl.Blk) (D : Dk.Blk) (s s' : Fl.St) (d d' : Dk.St) (r : Int) (item : ByteArray) (mv : Value) (made : List ByteArray) (w : World) (h : StoreAt w T D.g s) (hd : DiskAt w D d) (hap : Fl.Away T D) (hi : item.size ≤ 140737488351232) (hmv : SlV w mv (made.map Value.string)) (hml : made.length ≤ 140737488351232) (hms : ∀ d ∈ made, d.size ≤ 140737488351232) (hacts : d.acts + 6 < 4611686018427387904) (hmany : d.files.length + 6 < 1099511627776) (hkl : d.keep.length ≤ 140737488351232) (hr : Fl.addA s d item made = (r, s', d')) :
    Calls Tryz.prog 26 #[.pointer (some ⟨T.g, 0, none⟩), .string item, mv] w fun e w' => e = .returned (.int .i64 r) ∧ Fl.Added T D w w' s' d' := by
  have h := storeAdd_any T D s d item mv made w h hd hap hi hmv hml hms hacts hmany hkl
  rw [hr] at h; exact h
/-- The same of a base instead of a world. -/
def AddedAt (B : Nat) (T : Fl.Blk) (D : Dk.Blk) (s' : Fl.St) (d' : Dk.St) (u : World) : Prop :=
  ∃ (T' : Fl.Blk) (D' : Dk.Blk), T'.g = T.g ∧ D'.g = D.g ∧ D'.kv = D.kv ∧ (T'.ev.ownBlock = T.ev.ownBlock ∨ ∀ b, T'.ev.ownBlock = some b → B ≤ b) ∧ (D'.mb = D.mb ∨ B ≤ D'.mb) ∧ StoreAt u T' D'.g s' ∧ DiskAt u D' d' ∧ Fl.Away T' D'
theorem AddedAt.past {B : Nat} {T : Fl.Blk} {D : Dk.Blk} {s' : Fl.St} {d' : Dk.St} {u u' : World} (h : AddedAt B T D s' d' u) (hb : Below u.heap.size u u') : AddedAt B T D s' d' u' := by
  obtain ⟨T', D', g1, g2, g3, g4, g5, g6, g7, g8⟩ := h
  exact ⟨T', D', g1, g2, g3, g4, g5, g6.past hb, g7.past hb, g8⟩
def addS (T : Fl.Blk) (D : Dk.Blk) (k : Nat) : Prop := k = T.g ∨ T.ev.ownBlock = some k ∨ Dk.own D k
theorem Fl.Added.at {T : Fl.Blk} {D : Dk.Blk} {w w' : World} {s' : Fl.St} {d' : Dk.St} {B : Nat} (h : Fl.Added T D w w' s' d') (hB : B ≤ w.heap.size) : AddedAt B T D s' d' w' ∧ Moved (addS T D) w w' := by
  obtain ⟨T', D', g1, g2, g3, g4, g5, g6, g7, g8, g9⟩ := h
  exact ⟨⟨T', D', g1, g2, g3, g4.imp id (fun e b hb => Nat.le_trans hB (e b hb)), g5.imp id (Nat.le_trans hB), g6, g7, g8⟩, g9⟩
theorem AddedAt.added {T : Fl.Blk} {D : Dk.Blk} {w w' : World} {s' : Fl.St} {d' : Dk.St} (h : AddedAt w.heap.size T D s' d' w') (hm : Moved (addS T D) w w') : Fl.Added T D w w' s' d' := by
  obtain ⟨T', D', g1, g2, g3, g4, g5, g6, g7, g8⟩ := h
  exact ⟨T', D', g1, g2, g3, g4, g5, g6, g7, g8, hm⟩
end Go.Proofs.YtbfbajfdlkgloaaGreatDoor

/-
  The law's made: a store of a list, on an empty disk.
-/
namespace Go.Proofs.YtbfbajfdlkgloaaGreatDoor
open Go Go.RowKit Go.Maps
/-- A list's cells lie in none of a disk's blocks. -/
theorem list_away {w : World} {D : Dk.Blk} {d : Dk.St} {b off n i : Nat} {x : ByteArray} (hd : DiskAt w D d) (hc : w.cell? ⟨b, off + i, none⟩ = some (.string x)) : b ≠ D.g ∧ b ≠ D.mb := by
  have hkv : ∃ a l c, D.kv = .slice a l c := by
    rcases hd.keep with ⟨_, a, c, h, _⟩ | ⟨g, o, c, h, _⟩
    · exact ⟨_, _, _, h⟩
    · exact ⟨_, _, _, h⟩
  refine ⟨fun e => ?_, fun e => ?_⟩
  · rw [e, hd.cell] at hc
    have hne : ∀ v ∈ (Dk.cells D d).toList, v ≠ .string x := by
      intro v hv
      simp only [Dk.cells, List.mem_cons, List.mem_nil_iff, or_false] at hv
      rcases hv with rfl | rfl | rfl | rfl | rfl | rfl | rfl | rfl
      all_goals first | (intro h; cases h; done) | (obtain ⟨a, l, c, h⟩ := hkv; rw [h]; intro h2; cases h2)
    have hm := Array.mem_of_getElem? hc
    exact hne _ (Array.mem_toList_iff.2 hm) rfl
  · obtain ⟨es, clock, hb, _⟩ := hd.map
    rw [e] at hc
    simp [World.cell?, hb] at hc
def md7L (ev : Value) (D' : Dk.Blk) (s2 : Fl.St) (d2 : Dk.St) (wr : World) (x : ByteArray) (g' b off n cap i k : Nat) : List Sp :=
  [.is (.pointer (some ⟨g', 0, none⟩)), .is (.slice (some ⟨b, off, none⟩) n cap), .is (.int .i64 (i : Int)), .is (.pointer (some ⟨b, off + i, none⟩)), .is (.string x), .is (.int .i64 (i : Int)), .is (.int .u64 (i : Int)), .is (.int .i64 (k : Int)), .sl ((Fl.digs i k).map Value.string), .both (.int .i64 0) (fun u => AddedAt wr.heap.size (⟨g', ev⟩ : Fl.Blk) D' s2 d2 u) (fun _ _ h hb => h.past hb), .is (.bool false)]
def md7U : List (List Nat) := [[], [], [], [1, 2], [3], [], [5], [], [6, 7], [0, 4, 8], [9]]
set_option maxHeartbeats 3200000 in
set_option maxRecDepth 100000 in
theorem made_val (D : Dk.Blk) (d : Dk.St) (k : Nat) (l : List ByteArray) (v : Value) (w : World) (hd : DiskAt w D d) (hcalm : Fl.calm d) (hfs : d.files = []) (hroom : 10000 ≤ d.room ∧ d.room ≤ 9223372036854775807) (hacts : d.acts ≤ 1000000) (hkl : d.keep.length ≤ 140737488351232) (hv : SlV w v (l.map Value.string)) (hl : l.length ≤ 13) (hs : ∀ x ∈ l, x.size ≤ 500) (hk1 : 1 ≤ k) (hk : k ≤ 32) :
    Calls Tryz.prog 15 #[.pointer (some ⟨D.g, 0, none⟩), .int .i64 (k : Int), v] w fun e w' => ∃ T D', e = .returned (.pointer (some ⟨T.g, 0, none⟩)) ∧ Stands D w w' T D' (Fl.stOf k (Fl.its k 0 l)) (Fl.dOf d k (Fl.its k 0 l) (d.acts + 3 + 6 * l.length)) := by
  obtain ⟨n, a, cap, hn, rfl, hc, hx⟩ := hv.form
  rw [List.length_map] at hn
  have HX := hide hx
  have HN := hide hn
  have HS := hide hs
  have HD := hide hd
  have HCA := hide (And.intro hcalm hroom)
  have HOP := hide (Fl.open_new hcalm hfs hk1 hk)
  have HFL := hide (show d.files.length + 6 < 1099511627776 by rw [hfs]; decide)
  have HAC := hide (And.intro hacts hkl)
  rw [← hn] at hl ⊢
  have hacts6 : d.acts + 6 < 4611686018427387904 := by omega
  clear hx hn hs hd hcalm hroom hfs hv
  go_enter Tryz.func15, Tryz.ntmps15
  go_wp2_with fail
  refine (filesOpen_val D d _ k 0 _ _ HD.out hacts6 HFL.out hkl HOP.out).mono ?_
  rintro e w1 ho
  obtain ⟨T0, D0, rfl, htg, hst⟩ := Stands.of_open (DiskSt.start HD.out) ho
  obtain ⟨tg, htg2⟩ : ∃ b, b = T0.g := ⟨_, rfl⟩
  rw [← htg2]
  have HST := hide (show T0.g = tg ∧ Stands D w w1 T0 D0 (Fl.stOf k (Fl.its k 0 (l.take 0))) (Fl.dOf d k (Fl.its k 0 (l.take 0)) (d.acts + 3 + 6 * 0)) from ⟨htg2.symm, hst⟩)
  clear ho htg hst htg2
  go_upto_block 0 with (fail)
  go_wp2_with fail
  go_loopg [9] n (fun g v9 wr => ∃ (i : Nat) (T' : Fl.Blk) (D' : Dk.Blk), g = n - i ∧ i ≤ n ∧ v9 = .int .i64 (i : Int) ∧ Hid (T'.g = tg ∧ Stands D w wr T' D' (Fl.stOf k (Fl.its k 0 (l.take i))) (Fl.dOf d k (Fl.its k 0 (l.take i)) (d.acts + 3 + 6 * i))))
  case atStart => exact ⟨0, T0, D0, rfl, Nat.zero_le _, rfl, HST.out⟩
  case round =>
    obtain ⟨i, T', D', rfl, hi, rfl, HL⟩ := hrel
    by_cases hlt : i < n
    · have hlt2 : decide (i < n) = true := decide_eq_true hlt
      obtain ⟨⟨g', ev⟩, hT⟩ : ∃ t, t = T' := ⟨_, rfl⟩
      subst hT
      have hg' : g' = tg := HL.out.1
      subst hg'
      obtain ⟨x, hxx⟩ : ∃ x, l[i]? = some x := ⟨_, List.getElem?_eq_getElem (by rw [← HN.out]; exact hlt)⟩
      obtain ⟨b, off, rfl, hbl, hcl⟩ := HX.out i hlt
      have hcl2 : w.cell? ⟨b, off + i, none⟩ = some (.string x) := by rw [hcl, List.getD_eq_getElem?_getD, List.getElem?_map, hxx]; rfl
      have hxs := HS.out x (List.mem_of_getElem? hxx)
      obtain ⟨s1, hs1⟩ : ∃ s, s = Fl.stOf k (Fl.its k 0 (l.take i)) := ⟨_, rfl⟩
      obtain ⟨s2, hs2⟩ : ∃ s, s = Fl.stOf k (Fl.its k 0 (l.take (i + 1))) := ⟨_, rfl⟩
      obtain ⟨d1, hd1⟩ : ∃ s, s = Fl.dOf d k (Fl.its k 0 (l.take i)) (d.acts + 3 + 6 * i) := ⟨_, rfl⟩
      obtain ⟨d2, hd2⟩ : ∃ s, s = Fl.dOf d k (Fl.its k 0 (l.take (i + 1))) (d.acts + 3 + 6 * (i + 1)) := ⟨_, rfl⟩
      have HAD := hide (show Fl.addA s1 d1 x (Fl.digs i k) = (0, s2, d2) from by
        rw [hs1, hd1, hs2, hd2]
        have h := Fl.made_step HCA.out.1 HCA.out.2 hk1 hk (by rw [← HN.out]; exact hl) HS.out hxx (d.acts + 3 + 6 * i)
        rw [show d.acts + 3 + 6 * (i + 1) = d.acts + 3 + 6 * i + 6 by omega]
        exact h)
      have HST1 := hide (show Stands D w wr ⟨g', ev⟩ D' s1 d1 from by rw [hs1, hd1]; exact HL.out.2)
      have hda : d1.acts + 6 < 4611686018427387904 := by rw [hd1]; show d.acts + 3 + 6 * i + 6 < _; omega
      have hdf : d1.files.length + 6 < 1099511627776 := by rw [hd1]; show 3 + 6 < 1099511627776; decide
      have hdk : d1.keep.length ≤ 140737488351232 := by rw [hd1]; exact hkl
      have HDA := hide (And.intro hda (And.intro hdf hdk))
      have haw := list_away (i := i) (n := n) HD.out hcl2
      have HCLL := hide (show ∀ u, Moved (addS ⟨g', ev⟩ D') wr u → u.cell? ⟨b, off + i, none⟩ = some (.string x) from by
        intro u hm
        have h0 : Moved (Dk.own D) w u := HST1.out.moved.trans hm (by
          rintro j (e | e | e)
          · right; rw [e]; exact HST1.out.tg
          · right; exact HST1.out.te j e
          · exact HST1.out.toDiskSt.own e)
        have h1 := World.cell?_of_block (a := ⟨b, off + i, none⟩) (h0.block b hbl (fun ho => ho.elim haw.1 haw.2))
        rw [h1]; exact hcl2)
      have HS12 := hide (And.intro hs2 hd2)
      have hdl : (Fl.digs i k).length ≤ 140737488351232 := by rw [Fl.digs_len]; have := Fl.trailF_le 64 i; unfold Fl.trail; omega
      have HDL := hide (And.intro hdl (show ∀ d ∈ Fl.digs i k, d.size ≤ 140737488351232 from fun d hd => by rw [Fl.digs_size hd]; omega))
      clear hcl hcl2 hxx hs1 hs2 hd1 hd2 hda hdf hdk haw hdl hbl
      go_upto_region 7 with (fail)
      
      refine wp_region_local (by kernel_rfl) (by kernel_rfl) (useList md7U) [9, 10] (by kernel_rfl) (spR (md7L ev D' s2 d2 wr x g' b off n cap i k)) (onePre 9 (fun u => StoreAt u (⟨g', ev⟩ : Fl.Blk) D'.g s1 ∧ DiskAt u D' d1)) (Moved (addS (⟨g', ev⟩ : Fl.Blk) D') wr) (oneE 9 (fun _ _ => True)) (one_stays (by simp [md7L]) (by kernel_rfl)) (one_pre (fun _ _ h hb => ⟨h.1.past hb, h.2.past hb⟩)) (one_refl (fun _ => trivial)) (dsts_lt (N := 40) (by kernel_rfl)) ((Moved.refl _ _).drew) (fun _ _ => one_start (⟨HST1.out.store.past ((Below.refl _ _).drew), HST1.out.disk.past ((Below.refl _ _).drew)⟩)) (all_ops ?_) ?_
      · refine And.intro ?_ ?_
        · refine lstep_run fun fr wf left => ?_
          have o7 := (left.old 7 (by kernel_rfl)).trans rfl
          refine ⟨wanted_none rfl, fun K hK => ?_⟩
          have hB := hide left.base
          clear left
          go_simp
          exact hK _ _ rfl hB.out (one_refl (fun _ => trivial) _ _)
        refine And.intro ?_ ?_
        · refine lstep_run fun fr wf left => ?_
          have o2 := (left.old 2 (by kernel_rfl)).trans rfl
          refine ⟨wanted_none rfl, fun K hK => ?_⟩
          have hB := hide left.base
          clear left
          go_simp
          exact hK _ _ rfl hB.out (one_refl (fun _ => trivial) _ _)
        refine And.intro ?_ ?_
        · refine lstep_run fun fr wf left => ?_
          have o9 := (left.old 9 (by kernel_rfl)).trans rfl
          refine ⟨wanted_none rfl, fun K hK => ?_⟩
          have hB := hide left.base
          clear left
          go_simp
          exact hK _ _ rfl hB.out (one_refl (fun _ => trivial) _ _)
        refine And.intro ?_ ?_
        · refine lstep_run fun fr wf left => ?_
          obtain ⟨x1, e1, r1⟩ := left.slot 40 rfl 1 29 _ rfl rfl (by decide) rfl
          have s1 := Eq.symm (show x1 = .slice (some ⟨b, off, none⟩) n cap from r1)
          subst s1
          obtain ⟨x2, e2, r2⟩ := left.slot 40 rfl 2 30 _ rfl rfl (by decide) rfl
          have s2 := Eq.symm (show x2 = .int .i64 (i : Int) from r2)
          subst s2
          refine ⟨wanted_none rfl, fun K hK => ?_⟩
          have hB := hide left.base
          clear left
          go_simp
          exact hK _ _ rfl hB.out (one_refl (fun _ => trivial) _ _)
        refine And.intro ?_ ?_
        · refine lstep_run fun fr wf left => ?_
          obtain ⟨x3, e3, r3⟩ := left.slot 40 rfl 3 31 _ rfl rfl (by decide) rfl
          have s3 := Eq.symm (show x3 = .pointer (some ⟨b, off + i, none⟩) from r3)
          subst s3
          refine ⟨wanted_none rfl, fun K hK => ?_⟩
          have hB := hide left.base
          have hc := HCLL.out _ hB.out
          clear left
          go_simp
          exact hK _ _ rfl hB.out (one_refl (fun _ => trivial) _ _)
        refine And.intro ?_ ?_
        · refine lstep_run fun fr wf left => ?_
          have o9 := (left.old 9 (by kernel_rfl)).trans rfl
          refine ⟨wanted_none rfl, fun K hK => ?_⟩
          have hB := hide left.base
          clear left
          go_simp
          exact hK _ _ rfl hB.out (one_refl (fun _ => trivial) _ _)
        refine And.intro ?_ ?_
        · refine lstep_run fun fr wf left => ?_
          obtain ⟨x5, e5, r5⟩ := left.slot 40 rfl 5 33 _ rfl rfl (by decide) rfl
          have s5 := Eq.symm (show x5 = .int .i64 (i : Int) from r5)
          subst s5
          refine ⟨wanted_none rfl, fun K hK => ?_⟩
          have hB := hide left.base
          clear left
          go_simp
          exact hK _ _ (congrArg (Value.int .u64) (by first | rfl | (rw [IntKind.wrap_u64]; omega))) hB.out (one_refl (fun _ => trivial) _ _)
        refine And.intro ?_ ?_
        · refine lstep_run fun fr wf left => ?_
          have o1 := (left.old 1 (by kernel_rfl)).trans rfl
          refine ⟨wanted_none rfl, fun K hK => ?_⟩
          have hB := hide left.base
          clear left
          go_simp
          exact hK _ _ rfl hB.out (one_refl (fun _ => trivial) _ _)
        refine And.intro ?_ ?_
        · refine lstep_run fun fr wf left => ?_
          obtain ⟨x6, e6, r6⟩ := left.slot 40 rfl 6 34 _ rfl rfl (by decide) rfl
          have s6 := Eq.symm (show x6 = .int .u64 (i : Int) from r6)
          subst s6
          obtain ⟨x7, e7, r7⟩ := left.slot 40 rfl 7 35 _ rfl rfl (by decide) rfl
          have s7 := Eq.symm (show x7 = .int .i64 (k : Int) from r7)
          subst s7
          refine ⟨wanted_none rfl, fun K hK => ?_⟩
          have hB := hide left.base
          clear left
          go_simp
          refine (digests_any i k _ (by omega) hk).mono ?_
          rintro e w' ⟨dv, rfl, hrow, hb⟩
          exact hK _ _ (slv_of_owns hrow) (hB.out.then (Moved.of_below hb)) (one_else (by decide) hb)
        refine And.intro ?_ ?_
        · refine lstep_run fun fr wf left => ?_
          obtain ⟨x0, e0, r0⟩ := left.slot 40 rfl 0 28 _ rfl rfl (by decide) rfl
          have s0 := Eq.symm (show x0 = .pointer (some ⟨g', 0, none⟩) from r0)
          subst s0
          obtain ⟨x4, e4, r4⟩ := left.slot 40 rfl 4 32 _ rfl rfl (by decide) rfl
          have s4 := Eq.symm (show x4 = .string x from r4)
          subst s4
          obtain ⟨x8, e8, r8⟩ := left.slot 40 rfl 8 36 _ rfl rfl (by decide) rfl
          replace r8 : SlV wf x8 ((Fl.digs i k).map Value.string) := r8
          refine ⟨wanted_none rfl, fun K hK => ?_⟩
          have hB := hide left.base; have hP := hide (one_pre_at left.pre rfl)
          clear left
          go_simp
          refine (storeAdd_val (⟨g', ev⟩ : Fl.Blk) D' s1 s2 d1 d2 0 x _ (Fl.digs i k) _ hP.out.1 hP.out.2 HST1.out.away (by omega) r8 HDL.out.1 HDL.out.2 HDA.out.1 HDA.out.2.1 HDA.out.2.2 HAD.out).mono ?_
          rintro e w' ⟨rfl, ht⟩
          have hat := ht.at (B := wr.heap.size) hB.out.size
          exact hK _ _ ⟨rfl, hat.1⟩ (hB.out.then hat.2) (one_at rfl)
        refine And.intro ?_ ?_
        · refine lstep_run fun fr wf left => ?_
          obtain ⟨x9, e9, r9⟩ := left.slot 40 rfl 9 37 _ rfl rfl (by decide) rfl
          obtain ⟨s9, q9⟩ := (show x9 = .int .i64 0 ∧ (fun u => AddedAt wr.heap.size (⟨g', ev⟩ : Fl.Blk) D' s2 d2 u) wf from r9)
          subst s9
          refine ⟨wanted_none rfl, fun K hK => ?_⟩
          have hB := hide left.base
          clear left
          go_simp
          exact hK _ _ rfl hB.out (one_refl (fun _ => trivial) _ _)
        exact trivial
      · intro fr wf hB hs hd hall hkeep
        have hw : fr.tmps.getD 37 undef = .int .i64 0 ∧ AddedAt wr.heap.size (⟨g', ev⟩ : Fl.Blk) D' s2 d2 wf := hall 9 _ rfl (by simp)
        have hz : fr.tmps.getD 38 undef = .bool false := hall 10 _ rfl (by simp)
        have hfr := act_ext (frame_setL hs hkeep [28, 29, 30, 31, 32, 33, 34, 35, 36, 37, 38] (by kernel_rfl)) hd
        clear hall hkeep hs hd
        dsimp only [List.foldl, List.set_cons_zero, List.set_cons_succ] at hfr
        generalize fr.tmps.getD 28 undef = q28 at hfr
        generalize fr.tmps.getD 29 undef = q29 at hfr
        generalize fr.tmps.getD 30 undef = q30 at hfr
        generalize fr.tmps.getD 31 undef = q31 at hfr
        generalize fr.tmps.getD 32 undef = q32 at hfr
        generalize fr.tmps.getD 33 undef = q33 at hfr
        generalize fr.tmps.getD 34 undef = q34 at hfr
        generalize fr.tmps.getD 35 undef = q35 at hfr
        generalize fr.tmps.getD 36 undef = q36 at hfr
        generalize fr.tmps.getD 37 undef = q37 at hfr hw
        generalize fr.tmps.getD 38 undef = q38 at hfr hz
        subst hfr
        have hq := hw.1
        subst hq
        subst hz
        obtain ⟨T2, D2, hT2, hS2⟩ := HST1.out.add (hw.2.added hB)
        have HN2 := hide (show T2.g = g' ∧ Stands D w wf T2 D2 (Fl.stOf k (Fl.its k 0 (l.take (i + 1)))) (Fl.dOf d k (Fl.its k 0 (l.take (i + 1))) (d.acts + 3 + 6 * (i + 1))) from by rw [← HS12.out.1, ← HS12.out.2]; exact ⟨hT2, hS2⟩)
        clear hw hB hT2 hS2
        go_wp2_with fail
        go_roundg (n - (i + 1))
        case measure => omega
        case rel => exact ⟨i + 1, T2, D2, rfl, by omega, by go_num, HN2.out⟩
    · have hlt2 : decide (i < n) = false := decide_eq_false hlt
      have hie : i = n := by omega
      have HF := hide (show T'.g = tg ∧ Stands D w wr T' D' (Fl.stOf k (Fl.its k 0 l)) (Fl.dOf d k (Fl.its k 0 l) (d.acts + 3 + 6 * n)) from by
        have h := HL.out
        rw [List.take_of_length_le (by rw [hie]; exact Nat.le_of_eq HN.out.symm), hie] at h
        exact h)
      clear hie
      go_wp2_with fail
      go_ret
      exact ⟨T', D', by rw [HF.out.1]; rfl, HF.out.2⟩
end Go.Proofs.YtbfbajfdlkgloaaGreatDoor
