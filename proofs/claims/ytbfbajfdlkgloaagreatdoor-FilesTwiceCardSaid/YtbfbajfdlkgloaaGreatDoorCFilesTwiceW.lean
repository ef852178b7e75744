/-
  massiflaw19.FilesTwice: the walk.
-/
import Derived.Test.YtbfbajfdlkgloaaGreatDoorCFilesListW
import Derived.Test.YtbfbajfdlkgloaaGreatDoorG32
import Derived.Test.YtbfbajfdlkgloaaGreatDoorCFilesTriple
namespace Go.Proofs.YtbfbajfdlkgloaaGreatDoor
open Go Go.RowKit Go.Maps
def aF_le (k : Nat) (l : List ByteArray) : Prop := (Fl.aF (Fl.its k 0 l)).size ≤ 10000 ∧ (Fl.mL k (Fl.its k 0 l)).size ≤ 10000 ∧ (Fl.nF 0 (Fl.its k 0 l)).size ≤ 10000
theorem aF_le_of {k : Nat} {l : List ByteArray} (h : ∀ x ∈ l, x.size ≤ 1048576) (hs : ∀ x ∈ l, x.size ≤ 500) (hk1 : 1 ≤ k) (hk : k ≤ 32) (hl : l.length ≤ 12) : aF_le k l := by
  have h1 := Fl.its_size k l 0 hs
  have h2 := Fl.mL_size hk1 hk (Fl.its k 0 l)
  have h3 := Fl.nL_size hk (Fl.its_ok k l 0 (by omega) h)
  rw [Fl.its_len] at h2 h3
  have h4 := Fl.nodes_twelve l.length (by omega)
  exact ⟨by omega, by omega, by omega⟩
namespace Fl
def cutTo (n : Nat) (s : ByteArray) (m : Nat) : ByteArray := if n ≤ s.size then s.extract 0 m else s
def tailT (i : Nat) (s : ByteArray) : ByteArray := if i = 2 then cutTo 64 (cutTo 301 s 300) 63 else cutTo 301 s 300
theorem cutTo_size {n m : Nat} {s : ByteArray} (h : m < n) : (cutTo n s m).size < n := by
  unfold cutTo
  split
  · rw [ByteArray.size_extract]; omega
  · omega
theorem tailT_size (i : Nat) (s : ByteArray) : (tailT i s).size ≤ 300 := by
  unfold tailT
  split
  · have := cutTo_size (n := 64) (m := 63) (s := cutTo 301 s 300) (by decide); omega
  · have := cutTo_size (n := 301) (m := 300) (s := s) (by decide); omega
theorem tailT_marks (s : ByteArray) : (tailT 2 s).size < 64 := cutTo_size (by decide)
/-- The disk behind so many writes behind the ends. -/
def dTw (b : Dk.St) (k : Nat) (L : List It) (acts : Nat) (t0 t1 t2 : ByteArray) : Nat → Dk.St
  | 0 => d3 b ⟨aF L, aF L⟩ ⟨mL k L, mL k L⟩ ⟨nF 0 L, nF 0 L⟩ acts
  | 1 => d3 b ⟨aF L ++ t0, aF L⟩ ⟨mL k L, mL k L⟩ ⟨nF 0 L, nF 0 L⟩ (acts + 1)
  | 2 => d3 b ⟨aF L ++ t0, aF L⟩ ⟨mL k L, mL k L⟩ ⟨nF 0 L ++ t1, nF 0 L⟩ (acts + 2)
  | _ => d3 b ⟨aF L ++ t0, aF L⟩ ⟨mL k L ++ t2, mL k L⟩ ⟨nF 0 L ++ t1, nF 0 L⟩ (acts + 3)
theorem tw_writes {b : Dk.St} (hb : calm b) (k : Nat) (L : List It) (acts : Nat) (t0 t1 t2 : ByteArray) (h0 : t0.size ≤ 300) (h1 : t1.size ≤ 300) (h2 : t2.size ≤ 300) (hA : (aF L).size ≤ 10000) (hM : (mL k L).size ≤ 10000) (hN : (nF 0 L).size ≤ 10000) (hroom : 40000 ≤ b.room ∧ b.room ≤ 9223372036854775807) :
    Dk.writeA (dTw b k L acts t0 t1 t2 0) nItems ((aF L).size : Nat) t0 = (0, dTw b k L acts t0 t1 t2 1) ∧
    Dk.writeA (dTw b k L acts t0 t1 t2 1) nNodes ((nF 0 L).size : Nat) t1 = (0, dTw b k L acts t0 t1 t2 2) ∧
    Dk.writeA (dTw b k L acts t0 t1 t2 2) nMarks ((mL k L).size : Nat) t2 = (0, dTw b k L acts t0 t1 t2 3) := by
  have hc : ∀ fi fm fn a, calm (d3 b fi fm fn a) := fun _ _ _ _ => hb
  refine ⟨?_, ?_, ?_⟩
  · exact write_calm (hc _ _ _ _) nItems t0 (aF L).size rfl (by omega) (by show ((Dk.used [(nItems, _), (nMarks, _), (nNodes, _)] : Nat) : Int) + _ ≤ b.room; rw [used3]; dsimp only; omega) hroom.2
  · exact write_calm (hc _ _ _ _) nNodes t1 (nF 0 L).size rfl (by omega) (by show ((Dk.used [(nItems, _), (nMarks, _), (nNodes, _)] : Nat) : Int) + _ ≤ b.room; rw [used3]; dsimp only; rw [ByteArray.size_append]; omega) hroom.2
  · exact write_calm (hc _ _ _ _) nMarks t2 (mL k L).size rfl (by omega) (by show ((Dk.used [(nItems, _), (nMarks, _), (nNodes, _)] : Nat) : Int) + _ ≤ b.room; rw [used3]; dsimp only; rw [ByteArray.size_append, ByteArray.size_append]; omega) hroom.2
end Fl
theorem diskWrite_at {D : Dk.Blk} {s s' : Dk.St} {g : Nat} (hg : D.g = g) (n : ByteArray) (off : Int) (x : ByteArray) (r : Int) (w : World) (h : DiskAt w D s) (hn : n.size ≤ 140737488351232) (hx : x.size ≤ 140737488351232) (hk : (Lit.int .i64 off).wf = true) (hacts : s.acts < 4611686018427387904) (hmany : s.files.length < 1099511627776) (hkl : s.keep.length ≤ 140737488351232) (hr : Dk.writeA s n off x = (r, s')) :
    Calls Tryz.prog 23 #[.pointer (some ⟨g, 0, none⟩), .string n, .int .i64 off, .string x] w fun e w' => e = .returned (.int .i64 r) ∧ Turns D s w w' s' := by
  rw [← hg]; exact writeA_val D s s' n off x r w h hn hx hk hacts hmany hkl hr
theorem diskSize_at {D : Dk.Blk} {s : Dk.St} {g : Nat} (hg : D.g = g) (n : ByteArray) (x : Int) (w : World) (h : DiskAt w D s) (hn : n.size ≤ 140737488351232) (hx : Dk.size s n = x) :
    Calls Tryz.prog 24 #[.pointer (some ⟨g, 0, none⟩), .string n] w fun e w' => e = .returned (.int .i64 x) ∧ w' = w := by
  rw [← hg]; exact diskSize_val D s n x w h hn hx
-- DEFS tw0
def tw0L (D0 D : Dk.Blk) (dT : Nat → Dk.St) (wc : World) (t0 : ByteArray) (bn zA : Nat) : List Sp :=
  [.is (.pointer (some ⟨D0.g, 0, none⟩)), .is (.slice (some ⟨bn, 0, none⟩) 3 3), .is (.int .i64 ((0 : Nat) : Int)), .is (.pointer (some ⟨bn, 0, none⟩)), .is (.string ⟨#[105, 116, 101, 109, 115]⟩), .is (.pointer (some ⟨D0.g, 0, none⟩)), .is (.slice (some ⟨bn, 0, none⟩) 3 3), .is (.int .i64 ((0 : Nat) : Int)), .is (.pointer (some ⟨bn, 0, none⟩)), .is (.string ⟨#[105, 116, 101, 109, 115]⟩), .is (.int .i64 (zA : Int)), .is (.string t0), .both (.int .i64 0) (fun u => TurnAt D (dT 0) wc.heap.size u (dT 1)) (fun _ _ h hb => h.past hb)]
def tw0U : List (List Nat) := [[], [], [], [1, 2], [3], [], [], [], [6, 7], [8], [5, 9], [], [0, 4, 10, 11]]
-- END tw0
-- DEFS tw1
def tw1L (D0 D : Dk.Blk) (dT : Nat → Dk.St) (wc : World) (t1 : ByteArray) (bn zN : Nat) : List Sp :=
  [.is (.pointer (some ⟨D0.g, 0, none⟩)), .is (.slice (some ⟨bn, 0, none⟩) 3 3), .is (.int .i64 ((1 : Nat) : Int)), .is (.pointer (some ⟨bn, 1, none⟩)), .is (.string ⟨#[110, 111, 100, 101, 115]⟩), .is (.pointer (some ⟨D0.g, 0, none⟩)), .is (.slice (some ⟨bn, 0, none⟩) 3 3), .is (.int .i64 ((1 : Nat) : Int)), .is (.pointer (some ⟨bn, 1, none⟩)), .is (.string ⟨#[110, 111, 100, 101, 115]⟩), .is (.int .i64 (zN : Int)), .is (.string t1), .both (.int .i64 0) (fun u => TurnAt D (dT 1) wc.heap.size u (dT 2)) (fun _ _ h hb => h.past hb)]
def tw1U : List (List Nat) := [[], [], [], [1, 2], [3], [], [], [], [6, 7], [8], [5, 9], [], [0, 4, 10, 11]]
-- END tw1
-- DEFS tw2
def tw2L (D0 D : Dk.Blk) (dT : Nat → Dk.St) (wc : World) (t2 : ByteArray) (bn zM : Nat) : List Sp :=
  [.is (.pointer (some ⟨D0.g, 0, none⟩)), .is (.slice (some ⟨bn, 0, none⟩) 3 3), .is (.int .i64 ((2 : Nat) : Int)), .is (.pointer (some ⟨bn, 2, none⟩)), .is (.string ⟨#[109, 97, 114, 107, 115]⟩), .is (.pointer (some ⟨D0.g, 0, none⟩)), .is (.slice (some ⟨bn, 0, none⟩) 3 3), .is (.int .i64 ((2 : Nat) : Int)), .is (.pointer (some ⟨bn, 2, none⟩)), .is (.string ⟨#[109, 97, 114, 107, 115]⟩), .is (.int .i64 (zM : Int)), .is (.string t2), .both (.int .i64 0) (fun u => TurnAt D (dT 2) wc.heap.size u (dT 3)) (fun _ _ h hb => h.past hb)]
def tw2U : List (List Nat) := [[], [], [], [1, 2], [3], [], [], [], [6, 7], [8], [5, 9], [], [0, 4, 10, 11]]
-- END tw2
set_option maxHeartbeats 3200000 in
set_option maxRecDepth 100000 in
theorem filesTwice_any (k : Int) (v : Value) (items : List ByteArray) (s0 s1 s2 : ByteArray) (w : World) (hk : (Lit.int .i64 k).wf = true) (hv : SlV w v (items.map Value.string)) (hl : items.length ≤ 140737488351232) (hs : ∀ s ∈ items, s.size ≤ 140737488351232) (hz0 : s0.size ≤ 140737488351232) (hz1 : s1.size ≤ 140737488351232) (hz2 : s2.size ≤ 140737488351232) :
    Calls Tryz.prog 4 #[.int .i64 k, v, .agg #[.string s0, .string s1, .string s2]] w fun e w' => e = .returned (.bool true) ∧ Below w.heap.size w w' := by
  have HV := hide hv
  have HS := hide hs
  clear hv hs 
  go_enter Tryz.func4, Tryz.ntmps4
  go_wp2_with fail
  obtain ⟨W0, hW0⟩ : ∃ u, u = w.alloc (.cells #[.string s0, .string s1, .string s2] 40) := ⟨_, rfl⟩
  obtain ⟨b5, hb5⟩ : ∃ b, b = w.heap.size := ⟨_, rfl⟩
  rw [← hW0, ← hb5]
  have H0 := hide (show Below w.heap.size w W0 ∧ W0.heap[b5]? = some (.cells #[.string s0, .string s1, .string s2] 40 (0, 0)) from ⟨by rw [hW0]; exact (Below.refl _ _).alloc (Nat.le_refl _) _, by rw [hW0, hb5]; exact alloc_at _ _⟩)
  clear hW0 hb5
  refine (alive_any _).mono ?_
  rintro e w1 ⟨rfl, hb1⟩
  have HB1 := hide (H0.out.1.trans (hb1.mono H0.out.1.size))
  have HC1 := hide ((hb1.block b5 (heap_lt H0.out.2)).trans H0.out.2)
  clear hb1
  go_wp2_with fail
  refine (strength_any k _ hk).mono ?_
  rintro e w2 ⟨rfl, he⟩
  subst he
  obtain ⟨kn, hkn⟩ : ∃ n, n = Fl.strN k := ⟨_, rfl⟩
  have hk1 : 1 ≤ kn := by rw [hkn]; exact (Fl.strN_le k).1
  have hk2 : kn ≤ 32 := by rw [hkn]; exact (Fl.strN_le k).2
  rw [← hkn]
  clear hkn
  go_wp2_with fail
  refine (list_any v items _ (HV.out.below HB1.out) hl HS.out).mono ?_
  rintro e w3 ⟨lv, rfl, hrow, hb3⟩
  obtain ⟨l, hle⟩ : ∃ l, l = Fl.listL items := ⟨_, rfl⟩
  rw [← hle] at hrow
  have hln : l.length ≤ 12 := by rw [hle]; exact Fl.listL_len items
  have HLS := hide (show ∀ x ∈ l, x.size ≤ 500 from fun x hx => Fl.listL_size (hle ▸ hx))
  have hsl := slv_of_owns hrow
  obtain ⟨n, la, lc, hn, rfl, hlc, _⟩ := hsl.form
  rw [List.length_map] at hn
  have HN := hide hn
  have HL := hide (And.intro hsl (HB1.out.trans (hb3.mono HB1.out.size)))
  have HC3 := hide ((hb3.block b5 (heap_lt HC1.out)).trans HC1.out)
  have hn12 : n ≤ 12 := by omega
  clear hle hrow hsl hb3 hn hln
  go_wp2_with fail
  refine (diskNew_any 1048576 _ (by decide)).mono ?_
  rintro e w4 ⟨D0, rfl, hD, hg, hmb, hkv, hb4⟩
  have HB4 := hide (And.intro hb4 (And.intro hg hmb))
  have HD4 := hide hD
  have HL4 := hide (HL.out.1.below hb4)
  clear hb4 hg hmb hkv hD
  go_wp2_with fail
  refine (made_val D0 Fl.dM kn l _ _ HD4.out Fl.dM_calm rfl Fl.dM_room (by decide) (by decide) HL4.out (by have := HN.out; omega) HLS.out hk1 hk2).mono ?_
  rintro e w5 ⟨T, D, rfl, hst⟩
  obtain ⟨tg, htg⟩ : ∃ b, b = T.g := ⟨_, rfl⟩
  obtain ⟨dd, hdd⟩ : ∃ d, d = Fl.dOf Fl.dM kn (Fl.its kn 0 l) (Fl.dM.acts + 3 + 6 * l.length) := ⟨_, rfl⟩
  rw [← hdd] at hst
  have HS5 := hide (show T.g = tg ∧ Stands D0 w4 w5 T D (Fl.stOf kn (Fl.its kn 0 l)) dd from ⟨htg.symm, hst⟩)
  rw [← htg]
  have HDD := hide hdd
  have HHAS := hide (show Fl.Has dd kn l from by rw [hdd]; exact Fl.has_dOf rfl kn l _)
  have HSZ := hide (show ∀ x ∈ l, x.size ≤ 1048576 from fun x hx => by have := HLS.out x hx; omega)
  have HLV := hide (HL.out.1.below (hst.toDiskSt.below HB4.out.1 HB4.out.2.1 HB4.out.2.2))
  have hac : (3 + 6 * n : Nat) = dd.acts := by rw [hdd]; show _ = 0 + 3 + 6 * l.length; have := HN.out; omega
  have HAC := hide hac
  have HDA := hide (show dd.acts + 6 < 4611686018427387904 by rw [← hac]; omega)
  have HDB := hide (show dd.files.length + 6 < 1099511627776 ∧ dd.keep.length ≤ 140737488351232 from by rw [hdd]; exact ⟨by show 3 + 6 < 1099511627776; decide, by show 0 ≤ 140737488351232; decide⟩)
  clear hst htg hdd hac
  obtain ⟨was, hwas⟩ : ∃ f, f = Dk.files dd := ⟨_, rfl⟩
  have hwl : was.length ≤ 1099511627776 := by rw [hwas, HDD.out]; exact Nat.le_trans (Fl.files_len _) (by show 3 ≤ 1099511627776; decide)
  have HWAS := hide hwas
  clear hwas
  go_wp2_with fail
  refine (diskFiles_st HS5.out.2.toDiskSt was HWAS.out.symm).mono ?_
  rintro e w6 ⟨wn, wa, wc, rfl, HW6, HB6⟩
  have HS6 := hide (And.intro HS5.out.1 (HS5.out.2.past HB6.out))
  go_upto_block 0 with (fail)
  obtain ⟨WN, hWN⟩ : ∃ u, u = w6.alloc (.cells #[.string ⟨#[105, 116, 101, 109, 115]⟩, .string ⟨#[110, 111, 100, 101, 115]⟩, .string ⟨#[109, 97, 114, 107, 115]⟩] 9) := ⟨_, rfl⟩
  obtain ⟨bn, hbn⟩ : ∃ b, b = w6.heap.size := ⟨_, rfl⟩
  rw [← hWN, ← hbn]
  have hbN : Below w6.heap.size w6 WN := by rw [hWN]; exact (Below.refl _ _).alloc (Nat.le_refl _) _
  have HSN := hide (And.intro HS6.out.1 (HS6.out.2.past hbN))
  have HCN := hide (show WN.heap[b5]? = some (.cells #[.string s0, .string s1, .string s2] 40 (0, 0)) ∧ WN.heap[bn]? = some (.cells #[.string ⟨#[105, 116, 101, 109, 115]⟩, .string ⟨#[110, 111, 100, 101, 115]⟩, .string ⟨#[109, 97, 114, 107, 115]⟩] 9 (0, 0)) ∧ b5 < w3.heap.size from
    ⟨((HS6.out.2.past hbN).toDiskSt.below HB4.out.1 HB4.out.2.1 HB4.out.2.2 |>.block b5 (heap_lt HC3.out)).trans HC3.out, by rw [hWN, hbn]; exact alloc_at _ _, heap_lt HC3.out⟩)
  have HWN := hide (show SlF WN (.slice wa wn wc) was from HW6.out.2.1.below hbN)
  have HDG := hide HSN.out.2.g
  have HNO := hide (show ∀ u, Moved (Dk.own D) WN u → u.heap[b5]? = some (.cells #[.string s0, .string s1, .string s2] 40 (0, 0)) ∧ u.heap[bn]? = some (.cells #[.string ⟨#[105, 116, 101, 109, 115]⟩, .string ⟨#[110, 111, 100, 101, 115]⟩, .string ⟨#[109, 97, 114, 107, 115]⟩] 9 (0, 0)) from by
    intro u hm
    have h1 := HS6.out.2.disk.glt
    have h2 := HS6.out.2.disk.map.lt
    have h3 := HSN.out.2.g
    have h4 := HB4.out
    have h5 := HB4.out.1.size
    refine ⟨(hm.block b5 (heap_lt HCN.out.1) ?_).trans HCN.out.1, (hm.block bn (heap_lt HCN.out.2.1) ?_).trans HCN.out.2.1⟩
    · rintro (e | e)
      · have := HCN.out.2.2; omega
      · have h6 := HCN.out.2.2
        rcases HSN.out.2.mb with e2 | e2 <;> omega
    · rintro (e | e) <;> omega)
  have HSZL := hide (show (aF_le kn l) from aF_le_of HSZ.out HLS.out hk1 hk2 (by have := HN.out; omega))
  obtain ⟨t0, ht0⟩ : ∃ t, t = Fl.tailT 0 s0 := ⟨_, rfl⟩
  obtain ⟨t1, ht1⟩ : ∃ t, t = Fl.tailT 1 s1 := ⟨_, rfl⟩
  obtain ⟨t2, ht2⟩ : ∃ t, t = Fl.tailT 2 s2 := ⟨_, rfl⟩
  have HTS := hide (show t0.size ≤ 300 ∧ t1.size ≤ 300 ∧ t2.size ≤ 300 ∧ t2.size < 64 from ⟨by rw [ht0]; exact Fl.tailT_size _ _, by rw [ht1]; exact Fl.tailT_size _ _, by rw [ht2]; exact Fl.tailT_size _ _, by rw [ht2]; exact Fl.tailT_marks _⟩)
  have HT0 := hide ht0
  have HT1 := hide ht1
  have HT2 := hide ht2
  obtain ⟨dT, hdT⟩ : ∃ f, f = Fl.dTw Fl.dM kn (Fl.its kn 0 l) (Fl.dM.acts + 3 + 6 * l.length) t0 t1 t2 := ⟨_, rfl⟩
  have HDT := hide hdT
  have HDT0 := hide (show dT 0 = dd by rw [hdT, HDD.out]; rfl)
  obtain ⟨zA, hzA⟩ : ∃ z, z = (Fl.aF (Fl.its kn 0 l)).size := ⟨_, rfl⟩
  obtain ⟨zN, hzN⟩ : ∃ z, z = (Fl.nF 0 (Fl.its kn 0 l)).size := ⟨_, rfl⟩
  obtain ⟨zM, hzM⟩ : ∃ z, z = (Fl.mL kn (Fl.its kn 0 l)).size := ⟨_, rfl⟩
  have HTW := hide (show Dk.writeA (dT 0) Fl.nItems (zA : Nat) t0 = (0, dT 1) ∧ Dk.writeA (dT 1) Fl.nNodes (zN : Nat) t1 = (0, dT 2) ∧ Dk.writeA (dT 2) Fl.nMarks (zM : Nat) t2 = (0, dT 3) from by
    rw [hdT, hzA, hzN, hzM]
    exact Fl.tw_writes Fl.dM_calm kn _ _ t0 t1 t2 HTS.out.1 HTS.out.2.1 HTS.out.2.2.1 HSZL.out.1 HSZL.out.2.1 HSZL.out.2.2 (by decide))
  have HSI := hide (show Dk.size (dT 0) Fl.nItems = (zA : Int) ∧ Dk.size (dT 1) Fl.nNodes = (zN : Int) ∧ Dk.size (dT 2) Fl.nMarks = (zM : Int) from by
    rw [hdT, hzA, hzN, hzM]; exact ⟨rfl, rfl, rfl⟩)
  have HDO := hide (show ∀ i, (dT i).acts < 4611686018427387904 ∧ (dT i).files.length < 1099511627776 ∧ (dT i).keep.length ≤ 140737488351232 ∧ ¬ (Dk.kindNow (dT i) = 4 ∨ Dk.kindNow (dT i) = 5) from by
    intro i
    have hn := HN.out
    rw [hdT]
    match i with
    | 0 => exact ⟨by show 0 + 3 + 6 * l.length < _; omega, by show 3 < 1099511627776; decide, by show 0 ≤ _; omega, by intro h; rcases h with h | h <;> exact absurd h (by show ¬ (0 : Int) = _; decide)⟩
    | 1 => exact ⟨by show 0 + 3 + 6 * l.length + 1 < _; omega, by show 3 < 1099511627776; decide, by show 0 ≤ _; omega, by intro h; rcases h with h | h <;> exact absurd h (by show ¬ (0 : Int) = _; decide)⟩
    | 2 => exact ⟨by show 0 + 3 + 6 * l.length + 2 < _; omega, by show 3 < 1099511627776; decide, by show 0 ≤ _; omega, by intro h; rcases h with h | h <;> exact absurd h (by show ¬ (0 : Int) = _; decide)⟩
    | _ + 3 => exact ⟨by show 0 + 3 + 6 * l.length + 3 < _; omega, by show 3 < 1099511627776; decide, by show 0 ≤ _; omega, by intro h; rcases h with h | h <;> exact absurd h (by show ¬ (0 : Int) = _; decide)⟩)
  have hzb : zA ≤ 10000 ∧ zM ≤ 10000 ∧ zN ≤ 10000 := by rw [hzA, hzN, hzM]; exact HSZL.out
  clear hWN hbn hbN ht0 ht1 ht2 hdT hzA hzN hzM
  go_wp2_with fail
  go_loopg [11] 3 (fun g v11 wr => ∃ i : Nat, g = 3 - i ∧ i ≤ 3 ∧ v11 = .int .i64 (i : Int) ∧ Hid (DiskAt wr D (dT i) ∧ Moved (Dk.own D) WN wr))
  case atStart => exact ⟨0, rfl, Nat.zero_le _, rfl, by rw [HDT0.out]; exact HSN.out.2.disk, Moved.refl _ _⟩
  case round =>
    obtain ⟨i, rfl, hi3, rfl, HL7⟩ := hrel
    have hcase : i = 0 ∨ i = 1 ∨ i = 2 ∨ i = 3 := by omega
    rcases hcase with rfl | rfl | rfl | rfl
    · have hc5 : wr.cell? ⟨b5, 0, none⟩ = some (.string s0) := (cell_blk (HNO.out wr HL7.out.2).1 0).trans rfl
      go_upto_if 42 with (fail)
      obtain ⟨a1, ha1⟩ : ∃ a, a = Fl.cutTo 301 s0 300 := ⟨_, rfl⟩
      have HA1 := hide ha1
      have hza : a1.size ≤ 300 := by rw [ha1]; have := Fl.cutTo_size (n := 301) (m := 300) (s := s0) (by decide); omega
      go_cut [12] from 43 to 44 (fun v12 wx => Hid (v12 = .string a1 ∧ wx = wr))
      case first =>
        by_cases h3 : (300 : Int) < s0.size
        · have hsl := fun w => (show (Instr.slice 9 (.string s0) none (some (.int .i64 300)) none).run Tryz.prog w = .ok (.string a1) w from by
            rw [ha1]; unfold Fl.cutTo; rw [if_pos (by omega)]
            exact run_slice_string_h w 9 s0 Tryz.underlying9 .i64 300 (by decide) (by omega))
          clear ha1
          go_wp2_with fail
          go_meet
          case rel => exact ⟨rfl, rfl⟩
        · have HE := hide (show Value.string s0 = .string a1 by rw [ha1]; unfold Fl.cutTo; rw [if_neg (by omega)])
          clear ha1
          go_wp2_with fail
          go_meet
          case rel => exact ⟨HE.out, rfl⟩
      case rest =>
        obtain ⟨h12, hwx⟩ := hcut.out
        subst h12; subst hwx
        clear hcut ha1 hc5
        go_upto_if 51 with (fail)
        go_cut [12] from 47 to 53 (fun v12 wx => Hid (v12 = .string t0 ∧ wx = wc))
        case first =>
          have HE := hide (show Value.string a1 = .string t0 by rw [HA1.out, HT0.out]; rfl)
          go_wp2_with fail
          go_meet
          case rel => exact ⟨HE.out, rfl⟩
        case rest =>
          obtain ⟨h12, hwx⟩ := hcut.out
          subst h12; subst hwx
          clear hcut
          have HCL := hide (show ∀ u, Moved (Dk.own D) wc u → u.cell? ⟨bn, 0, none⟩ = some (.string ⟨#[105, 116, 101, 109, 115]⟩) from fun u hm => (cell_blk (HNO.out u (HL7.out.2.then hm)).2 0).trans rfl)
          have hoff : (Lit.int .i64 (zA : Int)).wf = true := Rec.wf_i64 (by omega) (by omega)
          have hts := HTS.out
          go_upto_region 18 with (fail)
-- REGION tw0
          
          refine wp_region_local (by kernel_rfl) (by kernel_rfl) (useList tw0U) [12] (by kernel_rfl) (spR (tw0L D0 D dT wc t0 bn zA)) (listPre [10, 12] (fun u => DiskAt u D (dT 0))) (Moved (Dk.own D) wc) (setFE [12] (fun _ _ => True)) (setF_staysL [] (by simp [tw0L]) (by kernel_rfl) (by intro x hx; cases hx)) (list_pre (fun _ _ h hb => h.past hb) (by kernel_rfl)) (setF_refl (fun _ => trivial)) (dsts_lt (N := 125) (by kernel_rfl)) ((Moved.refl _ _).drew) (fun _ _ => list_start (HL7.out.1.past ((Below.refl _ _).drew))) (all_ops ?_) ?_
          · refine And.intro ?_ ?_
            · -- 0: slot 54 := Op.move (Operand.tmp 8)
              refine lstep_run fun fr wf left => ?_
              have o8 := (left.old 8 (by kernel_rfl)).trans rfl
              refine ⟨wanted_none rfl, fun K hK => ?_⟩
              have hB := hide left.base
              clear left
              go_simp
              exact hK _ _ rfl hB.out (setF_refl (fun _ => trivial) _ _)
            refine And.intro ?_ ?_
            · -- 1: slot 55 := Op.move (Operand.tmp 10)
              refine lstep_run fun fr wf left => ?_
              have o10 := (left.old 10 (by kernel_rfl)).trans rfl
              refine ⟨wanted_none rfl, fun K hK => ?_⟩
              have hB := hide left.base
              clear left
              go_simp
              exact hK _ _ rfl hB.out (setF_refl (fun _ => trivial) _ _)
            refine And.intro ?_ ?_
            · -- 2: slot 56 := Op.move (Operand.tmp 11)
              refine lstep_run fun fr wf left => ?_
              have o11 := (left.old 11 (by kernel_rfl)).trans rfl
              refine ⟨wanted_none rfl, fun K hK => ?_⟩
              have hB := hide left.base
              clear left
              go_simp
              exact hK _ _ rfl hB.out (setF_refl (fun _ => trivial) _ _)
            refine And.intro ?_ ?_
            · -- 3: slot 57 := Op.indexAddr 22 (Operand.tmp 55) (Operand.tmp 56)
              refine lstep_run fun fr wf left => ?_
              obtain ⟨x1, e1, r1⟩ := left.slot 125 rfl 1 55 _ rfl rfl (by decide) rfl
              have s1 := Eq.symm (show x1 = .slice (some ⟨bn, 0, none⟩) 3 3 from r1)
              subst s1
              obtain ⟨x2, e2, r2⟩ := left.slot 125 rfl 2 56 _ rfl rfl (by decide) rfl
              have s2 := Eq.symm (show x2 = .int .i64 ((0 : Nat) : Int) from r2)
              subst s2
              refine ⟨wanted_none rfl, fun K hK => ?_⟩
              have hB := hide left.base
              clear left
              go_simp
              exact hK _ _ rfl hB.out (setF_refl (fun _ => trivial) _ _)
            refine And.intro ?_ ?_
            · -- 4: slot 58 := Op.load 9 (Operand.tmp 57)
              refine lstep_run fun fr wf left => ?_
              obtain ⟨x3, e3, r3⟩ := left.slot 125 rfl 3 57 _ rfl rfl (by decide) rfl
              have s3 := Eq.symm (show x3 = .pointer (some ⟨bn, 0, none⟩) from r3)
              subst s3
              refine ⟨wanted_none rfl, fun K hK => ?_⟩
              have hB := hide left.base
              have hc := HCL.out _ hB.out
              clear left
              go_simp
              exact hK _ _ rfl hB.out (setF_refl (fun _ => trivial) _ _)
            refine And.intro ?_ ?_
            · -- 5: slot 59 := Op.move (Operand.tmp 8)
              refine lstep_run fun fr wf left => ?_
              have o8 := (left.old 8 (by kernel_rfl)).trans rfl
              refine ⟨wanted_none rfl, fun K hK => ?_⟩
              have hB := hide left.base
              clear left
              go_simp
              exact hK _ _ rfl hB.out (setF_refl (fun _ => trivial) _ _)
            refine And.intro ?_ ?_
            · -- 6: slot 60 := Op.move (Operand.tmp 10)
              refine lstep_run fun fr wf left => ?_
              have o10 := (left.old 10 (by kernel_rfl)).trans rfl
              refine ⟨wanted_none rfl, fun K hK => ?_⟩
              have hB := hide left.base
              clear left
              go_simp
              exact hK _ _ rfl hB.out (setF_refl (fun _ => trivial) _ _)
            refine And.intro ?_ ?_
            · -- 7: slot 61 := Op.move (Operand.tmp 11)
              refine lstep_run fun fr wf left => ?_
              have o11 := (left.old 11 (by kernel_rfl)).trans rfl
              refine ⟨wanted_none rfl, fun K hK => ?_⟩
              have hB := hide left.base
              clear left
              go_simp
              exact hK _ _ rfl hB.out (setF_refl (fun _ => trivial) _ _)
            refine And.intro ?_ ?_
            · -- 8: slot 62 := Op.indexAddr 22 (Operand.tmp 60) (Operand.tmp 61)
              refine lstep_run fun fr wf left => ?_
              obtain ⟨x6, e6, r6⟩ := left.slot 125 rfl 6 60 _ rfl rfl (by decide) rfl
              have s6 := Eq.symm (show x6 = .slice (some ⟨bn, 0, none⟩) 3 3 from r6)
              subst s6
              obtain ⟨x7, e7, r7⟩ := left.slot 125 rfl 7 61 _ rfl rfl (by decide) rfl
              have s7 := Eq.symm (show x7 = .int .i64 ((0 : Nat) : Int) from r7)
              subst s7
              refine ⟨wanted_none rfl, fun K hK => ?_⟩
              have hB := hide left.base
              clear left
              go_simp
              exact hK _ _ rfl hB.out (setF_refl (fun _ => trivial) _ _)
            refine And.intro ?_ ?_
            · -- 9: slot 63 := Op.load 9 (Operand.tmp 62)
              refine lstep_run fun fr wf left => ?_
              obtain ⟨x8, e8, r8⟩ := left.slot 125 rfl 8 62 _ rfl rfl (by decide) rfl
              have s8 := Eq.symm (show x8 = .pointer (some ⟨bn, 0, none⟩) from r8)
              subst s8
              refine ⟨wanted_none rfl, fun K hK => ?_⟩
              have hB := hide left.base
              have hc := HCL.out _ hB.out
              clear left
              go_simp
              exact hK _ _ rfl hB.out (setF_refl (fun _ => trivial) _ _)
            refine And.intro ?_ ?_
            · -- 10: slot 64 := Op.call { callee := Callee.value (Operand.func 24), args := #[Operand.tmp 59, Operand.tmp 
              refine lstep_run fun fr wf left => ?_
              obtain ⟨x5, e5, r5⟩ := left.slot 125 rfl 5 59 _ rfl rfl (by decide) rfl
              have s5 := Eq.symm (show x5 = .pointer (some ⟨D0.g, 0, none⟩) from r5)
              subst s5
              obtain ⟨x9, e9, r9⟩ := left.slot 125 rfl 9 63 _ rfl rfl (by decide) rfl
              have s9 := Eq.symm (show x9 = .string ⟨#[105, 116, 101, 109, 115]⟩ from r9)
              subst s9
              refine ⟨wanted_none rfl, fun K hK => ?_⟩
              have hB := hide left.base; have hP := hide (list_pre_at left.pre rfl)
              clear left
              go_simp
              refine (diskSize_at HDG.out _ _ _ hP.out (by decide) HSI.out.1).mono ?_
              rintro e w' ⟨rfl, rfl⟩
              exact hK _ _ rfl hB.out (setF_refl (fun _ => trivial) _ _)
            refine And.intro ?_ ?_
            · -- 11: slot 65 := Op.move (Operand.tmp 12)
              refine lstep_run fun fr wf left => ?_
              have o12 := (left.old 12 (by kernel_rfl)).trans rfl
              refine ⟨wanted_none rfl, fun K hK => ?_⟩
              have hB := hide left.base
              clear left
              go_simp
              exact hK _ _ rfl hB.out (setF_refl (fun _ => trivial) _ _)
            refine And.intro ?_ ?_
            · -- 12: slot 66 := Op.call { callee := Callee.value (Operand.func 23), args := #[Operand.tmp 54, Operand.tmp 
              refine lstep_run fun fr wf left => ?_
              obtain ⟨x0, e0, r0⟩ := left.slot 125 rfl 0 54 _ rfl rfl (by decide) rfl
              have s0 := Eq.symm (show x0 = .pointer (some ⟨D0.g, 0, none⟩) from r0)
              subst s0
              obtain ⟨x4, e4, r4⟩ := left.slot 125 rfl 4 58 _ rfl rfl (by decide) rfl
              have s4 := Eq.symm (show x4 = .string ⟨#[105, 116, 101, 109, 115]⟩ from r4)
              subst s4
              obtain ⟨x10, e10, r10⟩ := left.slot 125 rfl 10 64 _ rfl rfl (by decide) rfl
              have s10 := Eq.symm (show x10 = .int .i64 (zA : Int) from r10)
              subst s10
              obtain ⟨x11, e11, r11⟩ := left.slot 125 rfl 11 65 _ rfl rfl (by decide) rfl
              have s11 := Eq.symm (show x11 = .string t0 from r11)
              subst s11
              refine ⟨wanted_none rfl, fun K hK => ?_⟩
              have hB := hide left.base; have hP := hide (list_pre_at left.pre rfl)
              clear left
              go_simp
              refine (diskWrite_at HDG.out _ _ t0 0 _ hP.out (by decide) (by omega) hoff (HDO.out 0).1 (HDO.out 0).2.1 (HDO.out 0).2.2.1 HTW.out.1).mono ?_
              rintro e w' ⟨rfl, ht⟩
              exact hK _ _ ⟨rfl, ht.at hB.out.size⟩ (hB.out.then ht.moved) (setF_at rfl trivial)
            exact trivial
          · intro fr wf hB hs hd hall hkeep
            have hw : fr.tmps.getD 66 undef = .int .i64 0 ∧ TurnAt D (dT 0) wc.heap.size wf (dT 1) := hall 12 _ rfl (by simp)
            have hfr := act_ext (frame_setL hs hkeep [54, 55, 56, 57, 58, 59, 60, 61, 62, 63, 64, 65, 66] (by kernel_rfl)) hd
            clear hall hkeep hs hd
            dsimp only [List.foldl, List.set_cons_zero, List.set_cons_succ] at hfr
            generalize fr.tmps.getD 54 undef = q54 at hfr
            generalize fr.tmps.getD 55 undef = q55 at hfr
            generalize fr.tmps.getD 56 undef = q56 at hfr
            generalize fr.tmps.getD 57 undef = q57 at hfr
            generalize fr.tmps.getD 58 undef = q58 at hfr
            generalize fr.tmps.getD 59 undef = q59 at hfr
            generalize fr.tmps.getD 60 undef = q60 at hfr
            generalize fr.tmps.getD 61 undef = q61 at hfr
            generalize fr.tmps.getD 62 undef = q62 at hfr
            generalize fr.tmps.getD 63 undef = q63 at hfr
            generalize fr.tmps.getD 64 undef = q64 at hfr
            generalize fr.tmps.getD 65 undef = q65 at hfr
            generalize fr.tmps.getD 66 undef = q66 at hfr hw
            subst hfr
            have HN8 := hide (show DiskAt wf D (dT 1) ∧ Moved (Dk.own D) WN wf from ⟨hw.2.stays (HDO.out 0).2.2.2, HL7.out.2.then hB⟩)
            have hq := hw.1
            subst hq
            clear hw hB
            go_wp2_with fail
            go_roundg (3 - 1)
            case measure => decide
            case rel => exact ⟨1, rfl, by decide, rfl, HN8.out⟩
          -- END REGION tw0
    · have hc5 : wr.cell? ⟨b5, 1, none⟩ = some (.string s1) := (cell_blk (HNO.out wr HL7.out.2).1 1).trans rfl
      go_upto_if 42 with (fail)
      obtain ⟨a1, ha1⟩ : ∃ a, a = Fl.cutTo 301 s1 300 := ⟨_, rfl⟩
      have HA1 := hide ha1
      have hza : a1.size ≤ 300 := by rw [ha1]; have := Fl.cutTo_size (n := 301) (m := 300) (s := s1) (by decide); omega
      go_cut [12] from 43 to 44 (fun v12 wx => Hid (v12 = .string a1 ∧ wx = wr))
      case first =>
        by_cases h3 : (300 : Int) < s1.size
        · have hsl := fun w => (show (Instr.slice 9 (.string s1) none (some (.int .i64 300)) none).run Tryz.prog w = .ok (.string a1) w from by
            rw [ha1]; unfold Fl.cutTo; rw [if_pos (by omega)]
            exact run_slice_string_h w 9 s1 Tryz.underlying9 .i64 300 (by decide) (by omega))
          clear ha1
          go_wp2_with fail
          go_meet
          case rel => exact ⟨rfl, rfl⟩
        · have HE := hide (show Value.string s1 = .string a1 by rw [ha1]; unfold Fl.cutTo; rw [if_neg (by omega)])
          clear ha1
          go_wp2_with fail
          go_meet
          case rel => exact ⟨HE.out, rfl⟩
      case rest =>
        obtain ⟨h12, hwx⟩ := hcut.out
        subst h12; subst hwx
        clear hcut ha1 hc5
        go_upto_if 51 with (fail)
        go_cut [12] from 47 to 53 (fun v12 wx => Hid (v12 = .string t1 ∧ wx = wc))
        case first =>
          have HE := hide (show Value.string a1 = .string t1 by rw [HA1.out, HT1.out]; rfl)
          go_wp2_with fail
          go_meet
          case rel => exact ⟨HE.out, rfl⟩
        case rest =>
          obtain ⟨h12, hwx⟩ := hcut.out
          subst h12; subst hwx
          clear hcut
          have HCL := hide (show ∀ u, Moved (Dk.own D) wc u → u.cell? ⟨bn, 1, none⟩ = some (.string ⟨#[110, 111, 100, 101, 115]⟩) from fun u hm => (cell_blk (HNO.out u (HL7.out.2.then hm)).2 1).trans rfl)
          have hoff : (Lit.int .i64 (zN : Int)).wf = true := Rec.wf_i64 (by omega) (by omega)
          have hts := HTS.out
          go_upto_region 18 with (fail)
-- REGION tw1
          
          refine wp_region_local (by kernel_rfl) (by kernel_rfl) (useList tw1U) [12] (by kernel_rfl) (spR (tw1L D0 D dT wc t1 bn zN)) (listPre [10, 12] (fun u => DiskAt u D (dT 1))) (Moved (Dk.own D) wc) (setFE [12] (fun _ _ => True)) (setF_staysL [] (by simp [tw1L]) (by kernel_rfl) (by intro x hx; cases hx)) (list_pre (fun _ _ h hb => h.past hb) (by kernel_rfl)) (setF_refl (fun _ => trivial)) (dsts_lt (N := 125) (by kernel_rfl)) ((Moved.refl _ _).drew) (fun _ _ => list_start (HL7.out.1.past ((Below.refl _ _).drew))) (all_ops ?_) ?_
          · refine And.intro ?_ ?_
            · -- 0: slot 54 := Op.move (Operand.tmp 8)
              refine lstep_run fun fr wf left => ?_
              have o8 := (left.old 8 (by kernel_rfl)).trans rfl
              refine ⟨wanted_none rfl, fun K hK => ?_⟩
              have hB := hide left.base
              clear left
              go_simp
              exact hK _ _ rfl hB.out (setF_refl (fun _ => trivial) _ _)
            refine And.intro ?_ ?_
            · -- 1: slot 55 := Op.move (Operand.tmp 10)
              refine lstep_run fun fr wf left => ?_
              have o10 := (left.old 10 (by kernel_rfl)).trans rfl
              refine ⟨wanted_none rfl, fun K hK => ?_⟩
              have hB := hide left.base
              clear left
              go_simp
              exact hK _ _ rfl hB.out (setF_refl (fun _ => trivial) _ _)
            refine And.intro ?_ ?_
            · -- 2: slot 56 := Op.move (Operand.tmp 11)
              refine lstep_run fun fr wf left => ?_
              have o11 := (left.old 11 (by kernel_rfl)).trans rfl
              refine ⟨wanted_none rfl, fun K hK => ?_⟩
              have hB := hide left.base
              clear left
              go_simp
              exact hK _ _ rfl hB.out (setF_refl (fun _ => trivial) _ _)
            refine And.intro ?_ ?_
            · -- 3: slot 57 := Op.indexAddr 22 (Operand.tmp 55) (Operand.tmp 56)
              refine lstep_run fun fr wf left => ?_
              obtain ⟨x1, e1, r1⟩ := left.slot 125 rfl 1 55 _ rfl rfl (by decide) rfl
              have s1 := Eq.symm (show x1 = .slice (some ⟨bn, 0, none⟩) 3 3 from r1)
              subst s1
              obtain ⟨x2, e2, r2⟩ := left.slot 125 rfl 2 56 _ rfl rfl (by decide) rfl
              have s2 := Eq.symm (show x2 = .int .i64 ((1 : Nat) : Int) from r2)
              subst s2
              refine ⟨wanted_none rfl, fun K hK => ?_⟩
              have hB := hide left.base
              clear left
              go_simp
              exact hK _ _ rfl hB.out (setF_refl (fun _ => trivial) _ _)
            refine And.intro ?_ ?_
            · -- 4: slot 58 := Op.load 9 (Operand.tmp 57)
              refine lstep_run fun fr wf left => ?_
              obtain ⟨x3, e3, r3⟩ := left.slot 125 rfl 3 57 _ rfl rfl (by decide) rfl
              have s3 := Eq.symm (show x3 = .pointer (some ⟨bn, 1, none⟩) from r3)
              subst s3
              refine ⟨wanted_none rfl, fun K hK => ?_⟩
              have hB := hide left.base
              have hc := HCL.out _ hB.out
              clear left
              go_simp
              exact hK _ _ rfl hB.out (setF_refl (fun _ => trivial) _ _)
            refine And.intro ?_ ?_
            · -- 5: slot 59 := Op.move (Operand.tmp 8)
              refine lstep_run fun fr wf left => ?_
              have o8 := (left.old 8 (by kernel_rfl)).trans rfl
              refine ⟨wanted_none rfl, fun K hK => ?_⟩
              have hB := hide left.base
              clear left
              go_simp
              exact hK _ _ rfl hB.out (setF_refl (fun _ => trivial) _ _)
            refine And.intro ?_ ?_
            · -- 6: slot 60 := Op.move (Operand.tmp 10)
              refine lstep_run fun fr wf left => ?_
              have o10 := (left.old 10 (by kernel_rfl)).trans rfl
              refine ⟨wanted_none rfl, fun K hK => ?_⟩
              have hB := hide left.base
              clear left
              go_simp
              exact hK _ _ rfl hB.out (setF_refl (fun _ => trivial) _ _)
            refine And.intro ?_ ?_
            · -- 7: slot 61 := Op.move (Operand.tmp 11)
              refine lstep_run fun fr wf left => ?_
              have o11 := (left.old 11 (by kernel_rfl)).trans rfl
              refine ⟨wanted_none rfl, fun K hK => ?_⟩
              have hB := hide left.base
              clear left
              go_simp
              exact hK _ _ rfl hB.out (setF_refl (fun _ => trivial) _ _)
            refine And.intro ?_ ?_
            · -- 8: slot 62 := Op.indexAddr 22 (Operand.tmp 60) (Operand.tmp 61)
              refine lstep_run fun fr wf left => ?_
              obtain ⟨x6, e6, r6⟩ := left.slot 125 rfl 6 60 _ rfl rfl (by decide) rfl
              have s6 := Eq.symm (show x6 = .slice (some ⟨bn, 0, none⟩) 3 3 from r6)
              subst s6
              obtain ⟨x7, e7, r7⟩ := left.slot 125 rfl 7 61 _ rfl rfl (by decide) rfl
              have s7 := Eq.symm (show x7 = .int .i64 ((1 : Nat) : Int) from r7)
              subst s7
              refine ⟨wanted_none rfl, fun K hK => ?_⟩
              have hB := hide left.base
              clear left
              go_simp
              exact hK _ _ rfl hB.out (setF_refl (fun _ => trivial) _ _)
            refine And.intro ?_ ?_
            · -- 9: slot 63 := Op.load 9 (Operand.tmp 62)
              refine lstep_run fun fr wf left => ?_
              obtain ⟨x8, e8, r8⟩ := left.slot 125 rfl 8 62 _ rfl rfl (by decide) rfl
              have s8 := Eq.symm (show x8 = .pointer (some ⟨bn, 1, none⟩) from r8)
              subst s8
              refine ⟨wanted_none rfl, fun K hK => ?_⟩
              have hB := hide left.base
              have hc := HCL.out _ hB.out
              clear left
              go_simp
              exact hK _ _ rfl hB.out (setF_refl (fun _ => trivial) _ _)
            refine And.intro ?_ ?_
            · -- 10: slot 64 := Op.call { callee := Callee.value (Operand.func 24), args := #[Operand.tmp 59, Operand.tmp 
              refine lstep_run fun fr wf left => ?_
              obtain ⟨x5, e5, r5⟩ := left.slot 125 rfl 5 59 _ rfl rfl (by decide) rfl
              have s5 := Eq.symm (show x5 = .pointer (some ⟨D0.g, 0, none⟩) from r5)
              subst s5
              obtain ⟨x9, e9, r9⟩ := left.slot 125 rfl 9 63 _ rfl rfl (by decide) rfl
              have s9 := Eq.symm (show x9 = .string ⟨#[110, 111, 100, 101, 115]⟩ from r9)
              subst s9
              refine ⟨wanted_none rfl, fun K hK => ?_⟩
              have hB := hide left.base; have hP := hide (list_pre_at left.pre rfl)
              clear left
              go_simp
              refine (diskSize_at HDG.out _ _ _ hP.out (by decide) HSI.out.2.1).mono ?_
              rintro e w' ⟨rfl, rfl⟩
              exact hK _ _ rfl hB.out (setF_refl (fun _ => trivial) _ _)
            refine And.intro ?_ ?_
            · -- 11: slot 65 := Op.move (Operand.tmp 12)
              refine lstep_run fun fr wf left => ?_
              have o12 := (left.old 12 (by kernel_rfl)).trans rfl
              refine ⟨wanted_none rfl, fun K hK => ?_⟩
              have hB := hide left.base
              clear left
              go_simp
              exact hK _ _ rfl hB.out (setF_refl (fun _ => trivial) _ _)
            refine And.intro ?_ ?_
            · -- 12: slot 66 := Op.call { callee := Callee.value (Operand.func 23), args := #[Operand.tmp 54, Operand.tmp 
              refine lstep_run fun fr wf left => ?_
              obtain ⟨x0, e0, r0⟩ := left.slot 125 rfl 0 54 _ rfl rfl (by decide) rfl
              have s0 := Eq.symm (show x0 = .pointer (some ⟨D0.g, 0, none⟩) from r0)
              subst s0
              obtain ⟨x4, e4, r4⟩ := left.slot 125 rfl 4 58 _ rfl rfl (by decide) rfl
              have s4 := Eq.symm (show x4 = .string ⟨#[110, 111, 100, 101, 115]⟩ from r4)
              subst s4
              obtain ⟨x10, e10, r10⟩ := left.slot 125 rfl 10 64 _ rfl rfl (by decide) rfl
              have s10 := Eq.symm (show x10 = .int .i64 (zN : Int) from r10)
              subst s10
              obtain ⟨x11, e11, r11⟩ := left.slot 125 rfl 11 65 _ rfl rfl (by decide) rfl
              have s11 := Eq.symm (show x11 = .string t1 from r11)
              subst s11
              refine ⟨wanted_none rfl, fun K hK => ?_⟩
              have hB := hide left.base; have hP := hide (list_pre_at left.pre rfl)
              clear left
              go_simp
              refine (diskWrite_at HDG.out _ _ t1 0 _ hP.out (by decide) (by omega) hoff (HDO.out 1).1 (HDO.out 1).2.1 (HDO.out 1).2.2.1 HTW.out.2.1).mono ?_
              rintro e w' ⟨rfl, ht⟩
              exact hK _ _ ⟨rfl, ht.at hB.out.size⟩ (hB.out.then ht.moved) (setF_at rfl trivial)
            exact trivial
          · intro fr wf hB hs hd hall hkeep
            have hw : fr.tmps.getD 66 undef = .int .i64 0 ∧ TurnAt D (dT 1) wc.heap.size wf (dT 2) := hall 12 _ rfl (by simp)
            have hfr := act_ext (frame_setL hs hkeep [54, 55, 56, 57, 58, 59, 60, 61, 62, 63, 64, 65, 66] (by kernel_rfl)) hd
            clear hall hkeep hs hd
            dsimp only [List.foldl, List.set_cons_zero, List.set_cons_succ] at hfr
            generalize fr.tmps.getD 54 undef = q54 at hfr
            generalize fr.tmps.getD 55 undef = q55 at hfr
            generalize fr.tmps.getD 56 undef = q56 at hfr
            generalize fr.tmps.getD 57 undef = q57 at hfr
            generalize fr.tmps.getD 58 undef = q58 at hfr
            generalize fr.tmps.getD 59 undef = q59 at hfr
            generalize fr.tmps.getD 60 undef = q60 at hfr
            generalize fr.tmps.getD 61 undef = q61 at hfr
            generalize fr.tmps.getD 62 undef = q62 at hfr
            generalize fr.tmps.getD 63 undef = q63 at hfr
            generalize fr.tmps.getD 64 undef = q64 at hfr
            generalize fr.tmps.getD 65 undef = q65 at hfr
            generalize fr.tmps.getD 66 undef = q66 at hfr hw
            subst hfr
            have HN8 := hide (show DiskAt wf D (dT 2) ∧ Moved (Dk.own D) WN wf from ⟨hw.2.stays (HDO.out 1).2.2.2, HL7.out.2.then hB⟩)
            have hq := hw.1
            subst hq
            clear hw hB
            go_wp2_with fail
            go_roundg (3 - 2)
            case measure => decide
            case rel => exact ⟨2, rfl, by decide, rfl, HN8.out⟩
          -- END REGION tw1
    · have hc5 : wr.cell? ⟨b5, 2, none⟩ = some (.string s2) := (cell_blk (HNO.out wr HL7.out.2).1 2).trans rfl
      go_upto_if 42 with (fail)
      obtain ⟨a1, ha1⟩ : ∃ a, a = Fl.cutTo 301 s2 300 := ⟨_, rfl⟩
      have HA1 := hide ha1
      have hza : a1.size ≤ 300 := by rw [ha1]; have := Fl.cutTo_size (n := 301) (m := 300) (s := s2) (by decide); omega
      go_cut [12] from 43 to 44 (fun v12 wx => Hid (v12 = .string a1 ∧ wx = wr))
      case first =>
        by_cases h3 : (300 : Int) < s2.size
        · have hsl := fun w => (show (Instr.slice 9 (.string s2) none (some (.int .i64 300)) none).run Tryz.prog w = .ok (.string a1) w from by
            rw [ha1]; unfold Fl.cutTo; rw [if_pos (by omega)]
            exact run_slice_string_h w 9 s2 Tryz.underlying9 .i64 300 (by decide) (by omega))
          clear ha1
          go_wp2_with fail
          go_meet
          case rel => exact ⟨rfl, rfl⟩
        · have HE := hide (show Value.string s2 = .string a1 by rw [ha1]; unfold Fl.cutTo; rw [if_neg (by omega)])
          clear ha1
          go_wp2_with fail
          go_meet
          case rel => exact ⟨HE.out, rfl⟩
      case rest =>
        obtain ⟨h12, hwx⟩ := hcut.out
        subst h12; subst hwx
        clear hcut ha1 hc5
        go_upto_if 51 with (fail)
        go_cut [12] from 47 to 53 (fun v12 wx => Hid (v12 = .string t2 ∧ wx = wc))
        case first =>
          by_cases h6 : (64 : Int) ≤ a1.size
          · have h6d : decide ((64 : Int) ≤ (a1.size : Int)) = true := decide_eq_true h6
            have hsl := fun w => (show (Instr.slice 9 (.string a1) none (some (.int .i64 63)) none).run Tryz.prog w = .ok (.string t2) w from by
              rw [HT2.out]; unfold Fl.tailT; rw [if_pos rfl, ← HA1.out]; unfold Fl.cutTo; rw [if_pos (by omega)]
              exact run_slice_string_h w 9 a1 Tryz.underlying9 .i64 63 (by decide) (by omega))
            go_wp2_with fail
            go_meet
            case rel => exact ⟨rfl, rfl⟩
          · have h6d : decide ((64 : Int) ≤ (a1.size : Int)) = false := decide_eq_false h6
            have HE := hide (show Value.string a1 = .string t2 by rw [HT2.out]; unfold Fl.tailT; rw [if_pos rfl, ← HA1.out]; unfold Fl.cutTo; rw [if_neg (by omega)])
            go_wp2_with fail
            go_meet
            case rel => exact ⟨HE.out, rfl⟩
        case rest =>
          obtain ⟨h12, hwx⟩ := hcut.out
          subst h12; subst hwx
          clear hcut
          have HCL := hide (show ∀ u, Moved (Dk.own D) wc u → u.cell? ⟨bn, 2, none⟩ = some (.string ⟨#[109, 97, 114, 107, 115]⟩) from fun u hm => (cell_blk (HNO.out u (HL7.out.2.then hm)).2 2).trans rfl)
          have hoff : (Lit.int .i64 (zM : Int)).wf = true := Rec.wf_i64 (by omega) (by omega)
          have hts := HTS.out
          go_upto_region 18 with (fail)
-- REGION tw2
          
          refine wp_region_local (by kernel_rfl) (by kernel_rfl) (useList tw2U) [12] (by kernel_rfl) (spR (tw2L D0 D dT wc t2 bn zM)) (listPre [10, 12] (fun u => DiskAt u D (dT 2))) (Moved (Dk.own D) wc) (setFE [12] (fun _ _ => True)) (setF_staysL [] (by simp [tw2L]) (by kernel_rfl) (by intro x hx; cases hx)) (list_pre (fun _ _ h hb => h.past hb) (by kernel_rfl)) (setF_refl (fun _ => trivial)) (dsts_lt (N := 125) (by kernel_rfl)) ((Moved.refl _ _).drew) (fun _ _ => list_start (HL7.out.1.past ((Below.refl _ _).drew))) (all_ops ?_) ?_
          · refine And.intro ?_ ?_
            · -- 0: slot 54 := Op.move (Operand.tmp 8)
              refine lstep_run fun fr wf left => ?_
              have o8 := (left.old 8 (by kernel_rfl)).trans rfl
              refine ⟨wanted_none rfl, fun K hK => ?_⟩
              have hB := hide left.base
              clear left
              go_simp
              exact hK _ _ rfl hB.out (setF_refl (fun _ => trivial) _ _)
            refine And.intro ?_ ?_
            · -- 1: slot 55 := Op.move (Operand.tmp 10)
              refine lstep_run fun fr wf left => ?_
              have o10 := (left.old 10 (by kernel_rfl)).trans rfl
              refine ⟨wanted_none rfl, fun K hK => ?_⟩
              have hB := hide left.base
              clear left
              go_simp
              exact hK _ _ rfl hB.out (setF_refl (fun _ => trivial) _ _)
            refine And.intro ?_ ?_
            · -- 2: slot 56 := Op.move (Operand.tmp 11)
              refine lstep_run fun fr wf left => ?_
              have o11 := (left.old 11 (by kernel_rfl)).trans rfl
              refine ⟨wanted_none rfl, fun K hK => ?_⟩
              have hB := hide left.base
              clear left
              go_simp
              exact hK _ _ rfl hB.out (setF_refl (fun _ => trivial) _ _)
            refine And.intro ?_ ?_
            · -- 3: slot 57 := Op.indexAddr 22 (Operand.tmp 55) (Operand.tmp 56)
              refine lstep_run fun fr wf left => ?_
              obtain ⟨x1, e1, r1⟩ := left.slot 125 rfl 1 55 _ rfl rfl (by decide) rfl
              have s1 := Eq.symm (show x1 = .slice (some ⟨bn, 0, none⟩) 3 3 from r1)
              subst s1
              obtain ⟨x2, e2, r2⟩ := left.slot 125 rfl 2 56 _ rfl rfl (by decide) rfl
              have s2 := Eq.symm (show x2 = .int .i64 ((2 : Nat) : Int) from r2)
              subst s2
              refine ⟨wanted_none rfl, fun K hK => ?_⟩
              have hB := hide left.base
              clear left
              go_simp
              exact hK _ _ rfl hB.out (setF_refl (fun _ => trivial) _ _)
            refine And.intro ?_ ?_
            · -- 4: slot 58 := Op.load 9 (Operand.tmp 57)
              refine lstep_run fun fr wf left => ?_
              obtain ⟨x3, e3, r3⟩ := left.slot 125 rfl 3 57 _ rfl rfl (by decide) rfl
              have s3 := Eq.symm (show x3 = .pointer (some ⟨bn, 2, none⟩) from r3)
              subst s3
              refine ⟨wanted_none rfl, fun K hK => ?_⟩
              have hB := hide left.base
              have hc := HCL.out _ hB.out
              clear left
              go_simp
              exact hK _ _ rfl hB.out (setF_refl (fun _ => trivial) _ _)
            refine And.intro ?_ ?_
            · -- 5: slot 59 := Op.move (Operand.tmp 8)
              refine lstep_run fun fr wf left => ?_
              have o8 := (left.old 8 (by kernel_rfl)).trans rfl
              refine ⟨wanted_none rfl, fun K hK => ?_⟩
              have hB := hide left.base
              clear left
              go_simp
              exact hK _ _ rfl hB.out (setF_refl (fun _ => trivial) _ _)
            refine And.intro ?_ ?_
            · -- 6: slot 60 := Op.move (Operand.tmp 10)
              refine lstep_run fun fr wf left => ?_
              have o10 := (left.old 10 (by kernel_rfl)).trans rfl
              refine ⟨wanted_none rfl, fun K hK => ?_⟩
              have hB := hide left.base
              clear left
              go_simp
              exact hK _ _ rfl hB.out (setF_refl (fun _ => trivial) _ _)
            refine And.intro ?_ ?_
            · -- 7: slot 61 := Op.move (Operand.tmp 11)
              refine lstep_run fun fr wf left => ?_
              have o11 := (left.old 11 (by kernel_rfl)).trans rfl
              refine ⟨wanted_none rfl, fun K hK => ?_⟩
              have hB := hide left.base
              clear left
              go_simp
              exact hK _ _ rfl hB.out (setF_refl (fun _ => trivial) _ _)
            refine And.intro ?_ ?_
            · -- 8: slot 62 := Op.indexAddr 22 (Operand.tmp 60) (Operand.tmp 61)
              refine lstep_run fun fr wf left => ?_
              obtain ⟨x6, e6, r6⟩ := left.slot 125 rfl 6 60 _ rfl rfl (by decide) rfl
              have s6 := Eq.symm (show x6 = .slice (some ⟨bn, 0, none⟩) 3 3 from r6)
              subst s6
              obtain ⟨x7, e7, r7⟩ := left.slot 125 rfl 7 61 _ rfl rfl (by decide) rfl
              have s7 := Eq.symm (show x7 = .int .i64 ((2 : Nat) : Int) from r7)
              subst s7
              refine ⟨wanted_none rfl, fun K hK => ?_⟩
              have hB := hide left.base
              clear left
              go_simp
              exact hK _ _ rfl hB.out (setF_refl (fun _ => trivial) _ _)
            refine And.intro ?_ ?_
            · -- 9: slot 63 := Op.load 9 (Operand.tmp 62)
              refine lstep_run fun fr wf left => ?_
              obtain ⟨x8, e8, r8⟩ := left.slot 125 rfl 8 62 _ rfl rfl (by decide) rfl
              have s8 := Eq.symm (show x8 = .pointer (some ⟨bn, 2, none⟩) from r8)
              subst s8
              refine ⟨wanted_none rfl, fun K hK => ?_⟩
              have hB := hide left.base
              have hc := HCL.out _ hB.out
              clear left
              go_simp
              exact hK _ _ rfl hB.out (setF_refl (fun _ => trivial) _ _)
            refine And.intro ?_ ?_
            · -- 10: slot 64 := Op.call { callee := Callee.value (Operand.func 24), args := #[Operand.tmp 59, Operand.tmp 
              refine lstep_run fun fr wf left => ?_
              obtain ⟨x5, e5, r5⟩ := left.slot 125 rfl 5 59 _ rfl rfl (by decide) rfl
              have s5 := Eq.symm (show x5 = .pointer (some ⟨D0.g, 0, none⟩) from r5)
              subst s5
              obtain ⟨x9, e9, r9⟩ := left.slot 125 rfl 9 63 _ rfl rfl (by decide) rfl
              have s9 := Eq.symm (show x9 = .string ⟨#[109, 97, 114, 107, 115]⟩ from r9)
              subst s9
              refine ⟨wanted_none rfl, fun K hK => ?_⟩
              have hB := hide left.base; have hP := hide (list_pre_at left.pre rfl)
              clear left
              go_simp
              refine (diskSize_at HDG.out _ _ _ hP.out (by decide) HSI.out.2.2).mono ?_
              rintro e w' ⟨rfl, rfl⟩
              exact hK _ _ rfl hB.out (setF_refl (fun _ => trivial) _ _)
            refine And.intro ?_ ?_
            · -- 11: slot 65 := Op.move (Operand.tmp 12)
              refine lstep_run fun fr wf left => ?_
              have o12 := (left.old 12 (by kernel_rfl)).trans rfl
              refine ⟨wanted_none rfl, fun K hK => ?_⟩
              have hB := hide left.base
              clear left
              go_simp
              exact hK _ _ rfl hB.out (setF_refl (fun _ => trivial) _ _)
            refine And.intro ?_ ?_
            · -- 12: slot 66 := Op.call { callee := Callee.value (Operand.func 23), args := #[Operand.tmp 54, Operand.tmp 
              refine lstep_run fun fr wf left => ?_
              obtain ⟨x0, e0, r0⟩ := left.slot 125 rfl 0 54 _ rfl rfl (by decide) rfl
              have s0 := Eq.symm (show x0 = .pointer (some ⟨D0.g, 0, none⟩) from r0)
              subst s0
              obtain ⟨x4, e4, r4⟩ := left.slot 125 rfl 4 58 _ rfl rfl (by decide) rfl
              have s4 := Eq.symm (show x4 = .string ⟨#[109, 97, 114, 107, 115]⟩ from r4)
              subst s4
              obtain ⟨x10, e10, r10⟩ := left.slot 125 rfl 10 64 _ rfl rfl (by decide) rfl
              have s10 := Eq.symm (show x10 = .int .i64 (zM : Int) from r10)
              subst s10
              obtain ⟨x11, e11, r11⟩ := left.slot 125 rfl 11 65 _ rfl rfl (by decide) rfl
              have s11 := Eq.symm (show x11 = .string t2 from r11)
              subst s11
              refine ⟨wanted_none rfl, fun K hK => ?_⟩
              have hB := hide left.base; have hP := hide (list_pre_at left.pre rfl)
              clear left
              go_simp
              refine (diskWrite_at HDG.out _ _ t2 0 _ hP.out (by decide) (by omega) hoff (HDO.out 2).1 (HDO.out 2).2.1 (HDO.out 2).2.2.1 HTW.out.2.2).mono ?_
              rintro e w' ⟨rfl, ht⟩
              exact hK _ _ ⟨rfl, ht.at hB.out.size⟩ (hB.out.then ht.moved) (setF_at rfl trivial)
            exact trivial
          · intro fr wf hB hs hd hall hkeep
            have hw : fr.tmps.getD 66 undef = .int .i64 0 ∧ TurnAt D (dT 2) wc.heap.size wf (dT 3) := hall 12 _ rfl (by simp)
            have hfr := act_ext (frame_setL hs hkeep [54, 55, 56, 57, 58, 59, 60, 61, 62, 63, 64, 65, 66] (by kernel_rfl)) hd
            clear hall hkeep hs hd
            dsimp only [List.foldl, List.set_cons_zero, List.set_cons_succ] at hfr
            generalize fr.tmps.getD 54 undef = q54 at hfr
            generalize fr.tmps.getD 55 undef = q55 at hfr
            generalize fr.tmps.getD 56 undef = q56 at hfr
            generalize fr.tmps.getD 57 undef = q57 at hfr
            generalize fr.tmps.getD 58 undef = q58 at hfr
            generalize fr.tmps.getD 59 undef = q59 at hfr
            generalize fr.tmps.getD 60 undef = q60 at hfr
            generalize fr.tmps.getD 61 undef = q61 at hfr
            generalize fr.tmps.getD 62 undef = q62 at hfr
            generalize fr.tmps.getD 63 undef = q63 at hfr
            generalize fr.tmps.getD 64 undef = q64 at hfr
            generalize fr.tmps.getD 65 undef = q65 at hfr
            generalize fr.tmps.getD 66 undef = q66 at hfr hw
            subst hfr
            have HN8 := hide (show DiskAt wf D (dT 3) ∧ Moved (Dk.own D) WN wf from ⟨hw.2.stays (HDO.out 2).2.2.2, HL7.out.2.then hB⟩)
            have hq := hw.1
            subst hq
            clear hw hB
            go_wp2_with fail
            go_roundg (3 - 3)
            case measure => decide
            case rel => exact ⟨3, rfl, by decide, rfl, HN8.out⟩
          -- END REGION tw2
    · obtain ⟨wp, rfl⟩ : ∃ u, u = wr := ⟨_, rfl⟩
      have HDS := hide (show DiskSt D0 w4 wp D (dT 3) from ⟨HSN.out.2.g, HSN.out.2.kv, HSN.out.2.mb, HL7.out.1, HSN.out.2.moved.trans HL7.out.2 (fun j hj => HSN.out.2.toDiskSt.own hj)⟩)
      have HWP := hide (show SlF wp (.slice wa wn wc) was from HWN.out.moved HL7.out.2 (by
        intro b hb ho
        have h1 := HW6.out.2.2 b hb
        have h2 := HS5.out.2.disk.glt
        have h3 := HS5.out.2.disk.map.lt
        rcases ho with e | e <;> omega))
      obtain ⟨d4, hd4⟩ : ∃ d, d = Fl.dOf Fl.dM kn (Fl.its kn 0 l) (Fl.dM.acts + 3 + 6 * l.length + 3 + Fl.more t0 + Fl.more t2 + Fl.more t1 + 3) := ⟨_, rfl⟩
      obtain ⟨d5, hd5⟩ : ∃ d, d = Fl.dOf Fl.dM kn (Fl.its kn 0 l) (Fl.dM.acts + 3 + 6 * l.length + 3 + Fl.more t0 + Fl.more t2 + Fl.more t1 + 3 + 3) := ⟨_, rfl⟩
      have hits := Fl.its_ok kn l 0 (by have := HN.out; omega) HSZ.out
      have hil : (Fl.its kn 0 l).length ≤ 65536 := by rw [Fl.its_len]; have := HN.out; omega
      have hia : (Fl.aF (Fl.its kn 0 l)).size < 18446744073709551616 := by have := HSZL.out.1; omega
      have HOP := hide (show Fl.openA (dT 3) (kn : Int) = (0, some (Fl.stOf kn (Fl.its kn 0 l)), d4) from by
        rw [HDT.out, hd4]
        exact Fl.open_three Fl.dM_calm hk1 hk2 _ t0 t2 t1 _ _ _ _ hits hil hia HTS.out.2.2.2)
      have HOP2 := hide (show Fl.openA d4 (kn : Int) = (0, some (Fl.stOf kn (Fl.its kn 0 l)), d5) from by
        rw [hd4, hd5]
        exact Fl.open_dOf Fl.dM_calm hk1 hk2 _ _ hits hil hia)
      have HH4 := hide (show Fl.Has d4 kn l from by rw [hd4]; exact Fl.has_dOf rfl kn l _)
      have HH5 := hide (show Fl.Has d5 kn l from by rw [hd5]; exact Fl.has_dOf rfl kn l _)
      have HF4 := hide (show Dk.files d4 = was ∧ Dk.after d4 [] = was from by
        rw [hd4, HWAS.out, HDD.out]
        exact ⟨rfl, Fl.after_dOf _ _ _ _ _⟩)
      have HF5 := hide (show Dk.files d5 = was from by rw [hd5, HWAS.out, HDD.out]; rfl)
      obtain ⟨ac, hac⟩ : ∃ a, a = d4.acts := ⟨_, rfl⟩
      have hacs : ac ≤ 1000 := by
        rw [hac, hd4]
        show 0 + 3 + 6 * l.length + 3 + Fl.more t0 + Fl.more t2 + Fl.more t1 + 3 ≤ 1000
        have h0 : ∀ t, Fl.more t ≤ 1 := by intro t; unfold Fl.more; split <;> decide
        have h1 := h0 t0; have h2 := h0 t1; have h3 := h0 t2; have h4 := HN.out
        omega
      have HAC4 := hide hac
      have HAC5 := hide (show ac + 3 = d5.acts by rw [hac, hd4, hd5]; rfl)
      have HD4B := hide (show d4.acts + 6 < 4611686018427387904 ∧ d4.files.length + 6 < 1099511627776 ∧ d4.keep.length ≤ 140737488351232 from ⟨by rw [← hac]; omega, by rw [hd4]; show 3 + 6 < 1099511627776; decide, by rw [hd4]; show 0 ≤ 140737488351232; decide⟩)
      have HD3B := hide (show (dT 3).acts + 6 < 4611686018427387904 ∧ (dT 3).files.length + 6 < 1099511627776 ∧ (dT 3).keep.length ≤ 140737488351232 from by
        rw [HDT.out]
        exact ⟨by show 0 + 3 + 6 * l.length + 3 + 6 < _; have := HN.out; omega, by show 3 + 6 < 1099511627776; decide, by show 0 ≤ 140737488351232; decide⟩)
      clear hd4 hd5 hits hil hia hac
      go_wp2_with fail
      refine (filesOpen_yes HDS.out (kn : Int) HD3B.out.1 HD3B.out.2.1 HD3B.out.2.2 HOP.out).mono ?_
      rintro e w8 ⟨tg2, T2, D2, rfl, HS8, HM8⟩
      have HWF8 := hide (show SlF w8 (.slice wa wn wc) was from HWP.out.moved HM8.out (by
        intro b hb ho
        have h1 := HW6.out.2.2 b hb
        have h2 := HS5.out.2.disk.glt
        have h3 := HS5.out.2.disk.map.lt
        rcases ho with e | e <;> omega))
      have HLV8 := hide (HL.out.1.below (HS8.out.2.toDiskSt.below HB4.out.1 HB4.out.2.1 HB4.out.2.2))
      go_wp2_with fail
      refine (has_st HS8.out HH4.out _ HLV8.out (by have := HN.out; omega) HSZ.out hk1 hk2).mono ?_
      rintro e w9 ⟨rfl, HB9⟩
      have HS9 := hide (And.intro HS8.out.1 (HS8.out.2.past HB9.out))
      have HWF9 := hide (HWF8.out.below HB9.out)
      go_wp2_with fail
      refine (diskFiles_st HS9.out.2.toDiskSt was HF4.out.1).mono ?_
      rintro e w10 ⟨xn, xa, xc, rfl, HW10, HB10⟩
      have HS10 := hide (And.intro HS9.out.1 (HS9.out.2.past HB10.out))
      have HWF10 := hide (HWF9.out.below HB10.out)
      go_wp2_with fail
      refine (same_val _ _ was _ HW10.out.2.1 HWF10.out hwl).mono ?_
      rintro e w11 ⟨rfl, HB11⟩
      have HS11 := hide (And.intro HS10.out.1 (HS10.out.2.past HB11.out))
      have HWF11 := hide (HWF10.out.below HB11.out)
      go_wp2_with fail
      refine (diskAfter_st HS11.out.2.toDiskSt _ [] was (SlV.nil _) (by decide) HF4.out.2).mono ?_
      rintro e w12 ⟨yn, ya, yc, rfl, HW12, HB12⟩
      have HS12 := hide (And.intro HS11.out.1 (HS11.out.2.past HB12.out))
      have HWF12 := hide (HWF11.out.below HB12.out)
      go_wp2_with fail
      refine (same_val _ _ was _ HW12.out.2.1 HWF12.out hwl).mono ?_
      rintro e w13 ⟨rfl, HB13⟩
      have HS13 := hide (And.intro HS12.out.1 (HS12.out.2.past HB13.out))
      have HWF13 := hide (HWF12.out.below HB13.out)
      go_wp2_with fail
      refine (diskActs_st HS13.out.2.toDiskSt ac HAC4.out).mono ?_
      rintro e w14 ⟨rfl, he⟩
      subst he
      go_wp2_with fail
      refine (filesOpen_yes HS13.out.2.toDiskSt (kn : Int) HD4B.out.1 HD4B.out.2.1 HD4B.out.2.2 HOP2.out).mono ?_
      rintro e w15 ⟨tg3, T3, D3, rfl, HS15, HM15⟩
      have HWF15 := hide (show SlF w15 (.slice wa wn wc) was from HWF13.out.moved HM15.out (by
        intro b hb ho
        obtain ⟨len, av, cap, hlen, hev, _, hj⟩ := HWF13.out.form
        cases hev
        have hlz : 0 < was.length := by
          rcases Nat.eq_zero_or_pos wn with e0 | e0
          · rw [e0] at hb
            cases wa <;> cases hb
          · omega
        obtain ⟨p0, hp0⟩ : ∃ p, was[0]? = some p := ⟨_, List.getElem?_eq_getElem hlz⟩
        obtain ⟨b', off, ha', _, hc0, _⟩ := hj 0 p0 hp0
        subst ha'
        have hbb : b' = b := by simp [Dk.slBlk] at hb; exact hb.2
        subst hbb
        have := list_away (n := 0) HS13.out.2.disk hc0
        rcases ho with e | e
        · exact this.1 e
        · exact this.2 e))
      have HLV15 := hide (HL.out.1.below (HS15.out.2.toDiskSt.below HB4.out.1 HB4.out.2.1 HB4.out.2.2))
      go_wp2_with fail
      refine (has_st HS15.out HH5.out _ HLV15.out (by have := HN.out; omega) HSZ.out hk1 hk2).mono ?_
      rintro e w16 ⟨rfl, HB16⟩
      have HS16 := hide (And.intro HS15.out.1 (HS15.out.2.past HB16.out))
      have HWF16 := hide (HWF15.out.below HB16.out)
      go_wp2_with fail
      refine (diskFiles_st HS16.out.2.toDiskSt was HF5.out).mono ?_
      rintro e w17 ⟨zn, za, zc, rfl, HW17, HB17⟩
      have HS17 := hide (And.intro HS16.out.1 (HS16.out.2.past HB17.out))
      have HWF17 := hide (HWF16.out.below HB17.out)
      go_wp2_with fail
      refine (same_val _ _ was _ HW17.out.2.1 HWF17.out hwl).mono ?_
      rintro e w18 ⟨rfl, HB18⟩
      have HS18 := hide (And.intro HS17.out.1 (HS17.out.2.past HB18.out))
      go_wp2_with fail
      refine (diskActs_st HS18.out.2.toDiskSt (ac + 3) HAC5.out).mono ?_
      rintro e w19 ⟨rfl, he⟩
      subst he
      rw [show ((ac + 3 : Nat) : Int) = (ac : Int) + 3 by omega]
      have HEND := hide (HS18.out.2.toDiskSt.below HB4.out.1 HB4.out.2.1 HB4.out.2.2)
      go_wp2_with fail
      go_ret
      exact ⟨rfl, HL.out.2.trans (HEND.out.mono HL.out.2.size)⟩
end Go.Proofs.YtbfbajfdlkgloaaGreatDoor
