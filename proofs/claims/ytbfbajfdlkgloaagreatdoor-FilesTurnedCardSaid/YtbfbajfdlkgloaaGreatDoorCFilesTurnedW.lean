/-
  massiflaw19.FilesTurned: the walk.
-/
import Derived.Test.YtbfbajfdlkgloaaGreatDoorCFilesListW
import Derived.Test.YtbfbajfdlkgloaaGreatDoorCFilesTurnP
import Derived.Test.YtbfbajfdlkgloaaGreatDoorCDiskOpen
import Derived.Test.YtbfbajfdlkgloaaGreatDoorCFilesPair
namespace Go.Proofs.YtbfbajfdlkgloaaGreatDoor
open Go Go.RowKit Go.Maps
namespace Fl
theorem files_three (b : Dk.St) (fi fm fn : Dk.F) (acts : Nat) (h1 : fi.now.size ≠ 0) (h2 : fm.now.size ≠ 0) (h3 : fn.now.size ≠ 0) : Dk.files (d3 b fi fm fn acts) = [(nItems, fi.now), (nMarks, fm.now), (nNodes, fn.now)] := by
  have hz : ∀ x : ByteArray, x.size ≠ 0 → (!decide (x = ⟨#[]⟩)) = true := by
    intro x hx
    rw [decide_eq_false (fun e => hx (by rw [e]; rfl))]; rfl
  show List.filter (fun q : ByteArray × ByteArray => !decide (q.2 = ⟨#[]⟩)) [(nItems, fi.now), (nMarks, fm.now), (nNodes, fn.now)] = _
  rw [List.filter_eq_self]
  intro q hq
  simp only [List.mem_cons, List.mem_nil_iff, or_false] at hq
  rcases hq with rfl | rfl | rfl
  · exact hz _ h1
  · exact hz _ h2
  · exact hz _ h3
theorem open_files (A M N : ByteArray) (hA : A.size ≤ 10000) (hM : M.size ≤ 10000) (hN : N.size ≤ 10000) :
    Dk.openC 1048576 [(nItems, A), (nMarks, M), (nNodes, N)] = (0, some (d3 (Dk.newSt 1048576) ⟨A, A⟩ ⟨M, M⟩ ⟨N, N⟩ 0)) := by
  have e1 : Dk.openStep (some ([], 0)) (nItems, A) = some ([(nItems, ⟨A, A⟩)], (A.size : Int)) := by
    show (if _ then none else some (_, wrap64 _)) = _
    rw [if_neg (by intro h; rcases h with h | h; exact absurd h (by show ¬ (false = true); decide); exact absurd h (by show ¬ 268435456 < A.size; omega)), IntWalk.wrap64_in _ (by show _ ≤ (0 : Int) + (A.size : Int) ∧ (0 : Int) + (A.size : Int) ≤ _; omega)]
    show some (_, (0 : Int) + (A.size : Int)) = _
    rw [Int.zero_add]; rfl
  have e2 : Dk.openStep (some ([(nItems, ⟨A, A⟩)], (A.size : Int))) (nMarks, M) = some ([(nItems, ⟨A, A⟩), (nMarks, ⟨M, M⟩)], (A.size : Int) + M.size) := by
    show (if _ then none else some (_, wrap64 _)) = _
    rw [if_neg (by intro h; rcases h with h | h; exact absurd h (by show ¬ ((decide (nItems = nMarks) || false) = true); decide); exact absurd h (by show ¬ 268435456 < M.size; omega)), IntWalk.wrap64_in _ (by show _ ≤ (A.size : Int) + (M.size : Int) ∧ (A.size : Int) + (M.size : Int) ≤ _; omega)]
    rfl
  have e3 : Dk.openStep (some ([(nItems, ⟨A, A⟩), (nMarks, ⟨M, M⟩)], (A.size : Int) + M.size)) (nNodes, N) = some ([(nItems, ⟨A, A⟩), (nMarks, ⟨M, M⟩), (nNodes, ⟨N, N⟩)], (A.size : Int) + M.size + N.size) := by
    show (if _ then none else some (_, wrap64 _)) = _
    rw [if_neg (by intro h; rcases h with h | h; exact absurd h (by show ¬ ((decide (nItems = nNodes) || (decide (nMarks = nNodes) || false)) = true); decide); exact absurd h (by show ¬ 268435456 < N.size; omega)), IntWalk.wrap64_in _ (by show _ ≤ (A.size : Int) + (M.size : Int) + (N.size : Int) ∧ (A.size : Int) + (M.size : Int) + (N.size : Int) ≤ _; omega)]
    rfl
  have e : Dk.openS [(nItems, A), (nMarks, M), (nNodes, N)] = some ([(nItems, ⟨A, A⟩), (nMarks, ⟨M, M⟩), (nNodes, ⟨N, N⟩)], (A.size : Int) + M.size + N.size) := by
    unfold Dk.openS
    rw [List.foldl_cons, e1, List.foldl_cons, e2, List.foldl_cons, e3]; rfl
  unfold Dk.openC
  rw [e]
  dsimp only
  rw [if_neg (by show ¬ max (1048576 : Int) 0 < _; omega)]
  rfl
/-- The three texts of a list of files, one of them another one. -/
def put3 (A M N t : ByteArray) (i : Nat) : List (ByteArray × ByteArray) := [(nItems, if i = 0 then t else A), (nMarks, if i = 1 then t else M), (nNodes, if i = 2 then t else N)]
def at3 (A M N : ByteArray) (i : Nat) : ByteArray := if i = 0 then A else if i = 1 then M else N
theorem flat_put (A M N t : ByteArray) {i : Nat} (h : i < 3) : (flatF [(nItems, A), (nMarks, M), (nNodes, N)]).set (i * 2 + 1) (.string t) = flatF (put3 A M N t i) := by
  match i, h with
  | 0, _ => rfl
  | 1, _ => rfl
  | 2, _ => rfl
theorem flat_data (A M N : ByteArray) {i : Nat} (h : i < 3) : (flatF [(nItems, A), (nMarks, M), (nNodes, N)])[i * 2 + 1]? = some (.string (at3 A M N i)) := by
  match i, h with
  | 0, _ => rfl
  | 1, _ => rfl
  | 2, _ => rfl
theorem turned_put {k : Nat} {L : List It} {i n : Nat} {c : UInt8} (h : i < 3) (hn : n < (at3 (aF L) (mL k L) (nF 0 L) i).size) (hc : (bytesOf (at3 (aF L) (mL k L) (nF 0 L) i))[n]? ≠ some c) :
    ∃ A M N, put3 (aF L) (mL k L) (nF 0 L) (setB (at3 (aF L) (mL k L) (nF 0 L) i) n c) i = [(nItems, A), (nMarks, M), (nNodes, N)] ∧ Turned k L A M N ∧ A.size = (aF L).size ∧ M.size = (mL k L).size ∧ N.size = (nF 0 L).size := by
  match i, h with
  | 0, _ => exact ⟨_, _, _, rfl, ⟨n, c, .inl ⟨hn, hc, rfl, rfl, rfl⟩⟩, setB_size _ _ _, rfl, rfl⟩
  | 1, _ => exact ⟨_, _, _, rfl, ⟨n, c, .inr (.inl ⟨hn, hc, rfl, rfl, rfl⟩)⟩, rfl, setB_size _ _ _, rfl⟩
  | 2, _ => exact ⟨_, _, _, rfl, ⟨n, c, .inr (.inr ⟨hn, hc, rfl, rfl, rfl⟩)⟩, rfl, rfl, setB_size _ _ _⟩
theorem xor_self_ne {a c : UInt8} (h : a = a ^^^ c) : c = 0 := by
  have h2 : a ^^^ a = a ^^^ (a ^^^ c) := by rw [← h]
  rw [← UInt8.xor_assoc, UInt8.xor_self, UInt8.zero_xor] at h2
  exact h2.symm
theorem sizes_pos {k : Nat} : ∀ {L : List It}, okL k 0 L → 0 < L.length → L.length ≤ 12 → (aF L).size ≠ 0 ∧ 0 < nodes L.length
  | x :: r, ho, _, hl => by
    have e : (aF (x :: r)).size = (Rec.payB x.1).size + (aF r).size := ByteArray.size_append ..
    have := payB_pos x ho.1.1
    have h2 := trail_nodes r.length (by simp at hl; omega)
    have h3 := nodes_mono r.length
    rw [List.length_cons]
    exact ⟨by omega, by omega⟩
end Fl
theorem slf_arr {w : World} {g e cap : Nat} {l : List (ByteArray × ByteArray)} (h : Arr w g e (flatF l)) (hc : l.length ≤ cap) (n : Nat) (hn : n = l.length) : SlF w (.slice (some ⟨g, 0, none⟩) n cap) l := by
  subst hn
  have hl := flatF_len l
  refine .inr ⟨g, 0, cap, rfl, hc, h.lt, fun j hj => ?_⟩
  obtain ⟨h1, h2⟩ := flatF_get l j hj
  rw [Nat.zero_add, Nat.zero_add, h.cell (j * 2) (by omega), h.cell (j * 2 + 1) (by omega), List.getD_eq_getElem?_getD, List.getD_eq_getElem?_getD, h1, h2]
  exact ⟨rfl, rfl⟩
theorem diskFiles_arr {D0 D : Dk.Blk} {w0 w : World} {d : Dk.St} (h : DiskSt D0 w0 w D d) (l : List (ByteArray × ByteArray)) (n : Nat) (hn : n = l.length) (hl : Dk.files d = l) (h0 : 0 < n) :
    Calls Tryz.prog 19 #[.pointer (some ⟨D0.g, 0, none⟩)] w fun e w' => ∃ g cap, e = .returned (.slice (some ⟨g, 0, none⟩) n cap) ∧ Hid (n ≤ cap ∧ w.heap.size ≤ g ∧ Arr w' g 51 (flatF l)) ∧ Hid (Below w.heap.size w w') := by
  rw [← h.g]
  refine (diskFiles_any D d w h.disk).mono ?_
  rintro e w' ⟨v, rfl, ⟨h1, h2⟩, hb⟩
  rw [hl, ← hn] at h1 h2
  rcases h2 with ⟨_, h2⟩ | ⟨g, cap, cur, rfl, hg, hh, hc, _, hcs, hcur⟩
  · omega
  · exact ⟨g, cap, rfl, ⟨hc, hg, cur, 0, 0, hh, .inr rfl, by rw [h1, hcs]; exact Nat.mul_le_mul_right 2 hc, by rw [h1]; exact hcur⟩, hb⟩
theorem diskOpen_yes (room : Int) (v : Value) (l : List (ByteArray × ByteArray)) (s : Dk.St) (w : World) (hr : (Lit.int .i64 room).wf = true) (hv : SlF w v l) (hl : l.length ≤ 1099511627776) (hn : ∀ p ∈ l, p.1.size ≤ 140737488351232 ∧ p.2.size ≤ 140737488351232) (ho : Dk.openC room l = (0, some s)) :
    Calls Tryz.prog 29 #[.int .i64 room, v] w fun e w' => ∃ (D : Dk.Blk), e = .returned (.tuple #[.pointer (some ⟨D.g, 0, none⟩), .int .i64 0]) ∧ Hid (DiskSt D w' w' D s ∧ w.heap.size ≤ D.g ∧ w.heap.size ≤ D.mb ∧ Below w.heap.size w w') := by
  refine (diskOpen_any room v l w hr hv hl hn).mono ?_
  rintro e w' ⟨hb, h⟩
  rw [ho] at h
  rcases h with ⟨h, _⟩ | ⟨s2, D, hs, he, hd, h1, h2, h3⟩
  · cases h
  · injection hs with _ hs
    injection hs with hs
    subst hs
    exact ⟨D, he, DiskSt.start hd, h1, h2, hb⟩
/-- What is left of a number, by a length. -/
theorem rest_of (q : Int) (n : Nat) (h0 : 0 < n) (hn : n ≤ 1099511627776) : ∃ i : Nat, i < n ∧ wrap64 ((IntKind.u64.wrap q).tmod (n : Int)) = (i : Int) := by
  rw [IntKind.wrap_u64, Int.tmod_eq_emod_of_nonneg (by omega)]
  have h3 := Int.emod_nonneg (q % 18446744073709551616) (show (n : Int) ≠ 0 by omega)
  have h4 := Int.emod_lt_of_pos (q % 18446744073709551616) (show 0 < (n : Int) by omega)
  obtain ⟨i, hi⟩ : ∃ i : Nat, q % 18446744073709551616 % (n : Int) = i := ⟨_, (Int.toNat_of_nonneg h3).symm⟩
  rw [hi] at h4 ⊢
  exact ⟨i, by omega, IntWalk.wrap64_in _ (by omega)⟩
/-- What a byte is turned by. -/
theorem turn_of (q n : Int) : ∃ c : UInt8, c ≠ 0 ∧ IntKind.u64.wrap (1 + (IntKind.u64.wrap ((IntKind.u64.wrap q).tdiv n)).tmod 255) % 256 = (c.toNat : Int) := by
  obtain ⟨z, hz, hz0⟩ : ∃ z, z = IntKind.u64.wrap ((IntKind.u64.wrap q).tdiv n) ∧ 0 ≤ z := ⟨_, rfl, by rw [IntKind.wrap_u64]; omega⟩
  rw [← hz, Int.tmod_eq_emod_of_nonneg hz0, IntKind.wrap_u64]
  refine ⟨UInt8.ofNat (1 + z % 255).toNat, fun h => ?_, ?_⟩
  · have h2 := congrArg UInt8.toNat h
    rw [UInt8.toNat_ofNat'] at h2
    have h3 : (0 : UInt8).toNat = 0 := rfl
    omega
  · rw [UInt8.toNat_ofNat']
    omega
set_option maxHeartbeats 3200000 in
set_option maxRecDepth 100000 in
theorem filesTurned_any (k : Int) (v : Value) (items : List ByteArray) (q0 q1 : Int) (w : World) (hk : (Lit.int .i64 k).wf = true) (hv : SlV w v (items.map Value.string)) (hl : items.length ≤ 140737488351232) (hs : ∀ s ∈ items, s.size ≤ 140737488351232) (hq0 : (Lit.int .i64 q0).wf = true) (hq1 : (Lit.int .i64 q1).wf = true) :
    Calls Tryz.prog 8 #[.int .i64 k, v, .agg #[.int .i64 q0, .int .i64 q1]] w fun e w' => e = .returned (.bool true) ∧ Below w.heap.size w w' := by
  have HV := hide hv
  have HS := hide hs
  clear hv hs 
  go_enter Tryz.func8, Tryz.ntmps8
  go_wp2_with fail
  obtain ⟨W0, hW0⟩ : ∃ u, u = w.alloc (.cells #[.int .i64 q0, .int .i64 q1] 65) := ⟨_, rfl⟩
  obtain ⟨b5, hb5⟩ : ∃ b, b = w.heap.size := ⟨_, rfl⟩
  rw [← hW0, ← hb5]
  have H0 := hide (show Below w.heap.size w W0 ∧ W0.heap[b5]? = some (.cells #[.int .i64 q0, .int .i64 q1] 65 (0, 0)) from ⟨by rw [hW0]; exact (Below.refl _ _).alloc (Nat.le_refl _) _, by rw [hW0, hb5]; exact alloc_at _ _⟩)
  clear hW0 hb5
  refine (alive_any _).mono ?_
  rintro e w1 ⟨rfl, hb1⟩
  have HB1 := hide (H0.out.1.trans (hb1.mono H0.out.1.size))
  have HC1 := hide ((hb1.block b5 (heap_lt H0.out.2)).trans H0.out.2)
  clear hb1
  go_wp2_with fail
  refine (strength_any k _ hk).mono ?_
  rintro e w2 ⟨rfl, he⟩
  subst he
  obtain ⟨kn, hkn⟩ : ∃ n, n = Fl.strN k := ⟨_, rfl⟩
  have hk1 : 1 ≤ kn := by rw [hkn]; exact (Fl.strN_le k).1
  have hk2 : kn ≤ 32 := by rw [hkn]; exact (Fl.strN_le k).2
  rw [← hkn]
  clear hkn
  go_wp2_with fail
  refine (list_any v items _ (HV.out.below HB1.out) hl HS.out).mono ?_
  rintro e w3 ⟨lv, rfl, hrow, hb3⟩
  obtain ⟨l, hle⟩ : ∃ l, l = Fl.listL items := ⟨_, rfl⟩
  rw [← hle] at hrow
  have hln : l.length ≤ 12 := by rw [hle]; exact Fl.listL_len items
  have HLS := hide (show ∀ x ∈ l, x.size ≤ 500 from fun x hx => Fl.listL_size (hle ▸ hx))
  have hsl := slv_of_owns hrow
  obtain ⟨n, la, lc, hn, rfl, hlc, _⟩ := hsl.form
  rw [List.length_map] at hn
  have HN := hide hn
  have HL := hide (And.intro hsl (HB1.out.trans (hb3.mono HB1.out.size)))
  have HC3 := hide ((hb3.block b5 (heap_lt HC1.out)).trans HC1.out)
  have hn12 : n ≤ 12 := by omega
  clear hle hrow hsl hb3 hn hln
  go_wp2_with fail
  refine (diskNew_any 1048576 _ (by decide)).mono ?_
  rintro e w4 ⟨D0, rfl, hD, hg, hmb, hkv, hb4⟩
  have HB4 := hide (And.intro hb4 (And.intro hg hmb))
  have HD4 := hide hD
  have HL4 := hide (HL.out.1.below hb4)
  clear hb4 hg hmb hkv hD
  go_wp2_with fail
  refine (made_val D0 Fl.dM kn l _ _ HD4.out Fl.dM_calm rfl Fl.dM_room (by decide) (by decide) HL4.out (by have := HN.out; omega) HLS.out hk1 hk2).mono ?_
  rintro e w5 ⟨T, D, rfl, hst⟩
  obtain ⟨tg, htg⟩ : ∃ b, b = T.g := ⟨_, rfl⟩
  obtain ⟨dd, hdd⟩ : ∃ d, d = Fl.dOf Fl.dM kn (Fl.its kn 0 l) (Fl.dM.acts + 3 + 6 * l.length) := ⟨_, rfl⟩
  rw [← hdd] at hst
  have HS5 := hide (show T.g = tg ∧ Stands D0 w4 w5 T D (Fl.stOf kn (Fl.its kn 0 l)) dd from ⟨htg.symm, hst⟩)
  rw [← htg]
  have HDD := hide hdd
  have HHAS := hide (show Fl.Has dd kn l from by rw [hdd]; exact Fl.has_dOf rfl kn l _)
  have HSZ := hide (show ∀ x ∈ l, x.size ≤ 1048576 from fun x hx => by have := HLS.out x hx; omega)
  have HLV := hide (HL.out.1.below (hst.toDiskSt.below HB4.out.1 HB4.out.2.1 HB4.out.2.2))
  have hac : (3 + 6 * n : Nat) = dd.acts := by rw [hdd]; show _ = 0 + 3 + 6 * l.length; have := HN.out; omega
  have HAC := hide hac
  have HDA := hide (show dd.acts + 6 < 4611686018427387904 by rw [← hac]; omega)
  have HDB := hide (show dd.files.length + 6 < 1099511627776 ∧ dd.keep.length ≤ 140737488351232 from by rw [hdd]; exact ⟨by show 3 + 6 < 1099511627776; decide, by show 0 ≤ 140737488351232; decide⟩)
  clear hst htg hdd hac
  rcases Nat.eq_zero_or_pos n with hn0 | hn0
  · have hl0 : l = [] := List.length_eq_zero_iff.1 (by have := HN.out; omega)
    have hfd : Dk.files dd = [] := by rw [HDD.out, hl0]; rfl
    go_wp2_with fail
    refine (diskFiles_st HS5.out.2.toDiskSt [] hfd).mono ?_
    rintro e w6 ⟨wn, wa, wc, rfl, HW6, HB6⟩
    have hwn : wn = 0 := HW6.out.1
    subst hwn
    subst hn0
    have HEND := hide (HS5.out.2.toDiskSt.past HB6.out |>.below HB4.out.1 HB4.out.2.1 HB4.out.2.2)
    go_wp2_with fail
    go_ret
    exact ⟨rfl, HL.out.2.trans (HEND.out.mono HL.out.2.size)⟩
  · obtain ⟨L, hLe⟩ : ∃ L, L = Fl.its kn 0 l := ⟨_, rfl⟩
    have hLl : 0 < L.length := by rw [hLe, Fl.its_len]; have := HN.out; omega
    have hLL : L.length ≤ 12 := by rw [hLe, Fl.its_len]; have := HN.out; omega
    have hok : Fl.okL kn 0 L := by rw [hLe]; exact Fl.its_ok kn l 0 (by have := HN.out; omega) HSZ.out
    have hAs := Fl.its_size kn l 0 HLS.out
    rw [← hLe] at hAs
    have hMs := Fl.mL_size hk1 hk2 L
    have hNs := Fl.nL_size hk2 hok
    have hN4 := Fl.nodes_twelve L.length (by omega)
    have hA0 := Fl.sizes_pos hok hLl (by omega)
    have HLB := hide (show (Fl.aF L).size ≤ 10000 ∧ (Fl.mL kn L).size ≤ 10000 ∧ (Fl.nF 0 L).size ≤ 10000 ∧ 0 < (Fl.aF L).size ∧ 0 < (Fl.mL kn L).size ∧ 0 < (Fl.nF 0 L).size from by
      have := HN.out
      have : l.length ≤ 12 := by omega
      omega)
    have HOK := hide (And.intro hok hLL)
    have HOWN := hide (show Dk.files dd = [(Fl.nItems, Fl.aF L), (Fl.nMarks, Fl.mL kn L), (Fl.nNodes, Fl.nF 0 L)] by
      rw [HDD.out, ← hLe]; exact Fl.files_three _ _ _ _ _ (by have := HLB.out; show (Fl.aF L).size ≠ 0; omega) (by have := HLB.out; show (Fl.mL kn L).size ≠ 0; omega) (by have := HLB.out; show (Fl.nF 0 L).size ≠ 0; omega))
    clear hLe hok hAs hMs hNs hN4 hA0 hLl hLL
    go_wp2_with fail
    refine (diskFiles_arr HS5.out.2.toDiskSt _ 3 rfl HOWN.out (by decide)).mono ?_
    rintro e w6 ⟨g9, c9, rfl, HA6, HB6⟩
    have HS6 := hide (HS5.out.2.toDiskSt.past HB6.out)
    have HC6 := hide (((HS6.out.below HB4.out.1 HB4.out.2.1 HB4.out.2.2).block b5 (heap_lt HC3.out)).trans HC3.out)
    have HBW := hide (HL.out.2.trans ((HS6.out.below HB4.out.1 HB4.out.2.1 HB4.out.2.2).mono HL.out.2.size))
    have hc0 : w6.cell? ⟨b5, 0, none⟩ = some (.int .i64 q0) := cell_blk HC6.out 0
    obtain ⟨i, hi3, hie⟩ := rest_of q0 3 (by decide) (by decide)
    obtain ⟨dt, hdt⟩ : ∃ x, x = Fl.at3 (Fl.aF L) (Fl.mL kn L) (Fl.nF 0 L) i := ⟨_, rfl⟩
    have hdc : w6.cell? ⟨g9, i * 2 + 1, none⟩ = some (.string dt) := by
      have h := HA6.out.2.2.cell (i * 2 + 1) (by rw [flatF_len]; show _ < 3 * 2; omega)
      rw [List.getD_eq_getElem?_getD, Fl.flat_data _ _ _ hi3, ← hdt] at h
      exact h
    have HDT := hide hdt
    have HDC := hide hdc
    have hds : 0 < dt.size ∧ dt.size ≤ 10000 := by
      have := HLB.out
      rw [hdt]; unfold Fl.at3; split
      · omega
      · split <;> omega
    clear hdt hdc
    have hcv := fun w s => run_bytes_of_string (P := Tryz.prog) w 9 46 5 s Tryz.underlying9 Tryz.underlying46 Tryz.underlying5
    go_upto_region 11 with (fail)
    go_cut [10] from 38 to 45 (fun v10 wx => v10 = .int .i64 (i : Int) ∧ wx = w6)
    case first =>
      go_wp2_with fail
      go_meet
      case rel => exact ⟨congrArg (Value.int .i64) hie, rfl⟩
    case rest =>
      obtain ⟨h10, hwx⟩ := hcut
      subst h10; subst hwx
      obtain ⟨w6, rfl⟩ : ∃ u, u = wc := ⟨_, rfl⟩
      clear hc0 hie
      have hdc := HDC.out
      go_upto_region 12 with (fail)
      go_cut [11] from 46 to 51 (fun v11 wx => Hid (∃ cb, v11 = .slice (some ⟨w6.heap.size, 0, none⟩) dt.size cb ∧ dt.size ≤ cb ∧ Arr wx w6.heap.size 5 ((bytesOf dt).map byteV) ∧ Below w6.heap.size w6 wx))
      case first =>
        go_wp2_with fail
        go_meet
        case rel => exact ⟨_, rfl, grownCap_ge .., arr_bytes .., ((Below.refl _ _).alloc (Nat.le_refl _) _).drew⟩
      case rest =>
        obtain ⟨c11, h11, hcc, har, hbb⟩ := hcut.out
        subst h11
        obtain ⟨w7, rfl⟩ : ∃ u, u = wc := ⟨_, rfl⟩
        obtain ⟨bb, hbbe⟩ : ∃ b, b = w6.heap.size := ⟨_, rfl⟩
        rw [← hbbe] at har ⊢
        have HAR := hide har
        have HBB := hide hbb
        have HBE := hide hbbe
        have HC7 := hide ((hbb.block b5 (heap_lt HC6.out)).trans HC6.out)
        have hc1 : w7.cell? ⟨b5, 1, none⟩ = some (.int .i64 q1) := cell_blk HC7.out 1
        obtain ⟨m, hm, hme⟩ := rest_of q1 dt.size hds.1 (by omega)
        have hd0 : (dt.size : Int) ≠ 0 := by omega
        clear hcut har hbb hbbe hdc hcv
        go_upto_region 13 with (fail)
        go_cut [12] from 52 to 59 (fun v12 wx => v12 = .int .i64 (m : Int) ∧ wx = w7)
        case first =>
          go_wp2_with fail
          go_meet
          case rel => exact ⟨congrArg (Value.int .i64) hme, rfl⟩
        case rest =>
          obtain ⟨h12, hwx⟩ := hcut
          subst h12; subst hwx
          obtain ⟨w7, rfl⟩ : ∃ u, u = wc := ⟨_, rfl⟩
          clear hme
          go_upto_region 14 with (fail)
          go_cut [13] from 60 to 69 (fun v13 wx => wx = w7 ∧ ∃ c : UInt8, v13 = .int .u8 (c.toNat : Int) ∧ c ≠ 0)
          case first =>
            go_wp2_with fail
            obtain ⟨c, hc0, hce⟩ := turn_of q1 (dt.size : Int)
            go_meet
            case rel => exact ⟨rfl, c, congrArg (Value.int .u8) hce, hc0⟩
          case rest =>
            obtain ⟨hwx, c, h13, hcz⟩ := hcut
            subst h13; subst hwx
            obtain ⟨w7, rfl⟩ : ∃ u, u = wc := ⟨_, rfl⟩
            obtain ⟨od, hod⟩ : ∃ o : UInt8, (bytesOf dt)[m]? = some o := ⟨_, List.getElem?_eq_getElem (by rw [Rec.bytes_length]; exact hm)⟩
            have hlm : m < ((bytesOf dt).map byteV).length := by rw [List.length_map, Rec.bytes_length]; exact hm
            have hcell : w7.cell? ⟨bb, m, none⟩ = some (.int .u8 (od.toNat : Int)) := by
              have h := HAR.out.cell m hlm
              rw [List.getD_eq_getElem?_getD, List.getElem?_map, hod] at h
              exact h
            have hfz := HAR.out.frozen m hlm
            obtain ⟨nb, hnb⟩ : ∃ b : UInt8, b = od ^^^ c := ⟨_, rfl⟩
            have hxb : bits .xor .u8 (od.toNat : Int) (c.toNat : Int) = (nb.toNat : Int) := by rw [hnb]; exact Rec.byte_xor od c
            have HNB := hide (show (bytesOf dt)[m]? ≠ some nb from by
              rw [hod, hnb]
              intro h
              injection h with h
              exact hcz (Fl.xor_self_ne h))
            obtain ⟨w8, hw8⟩ : ∃ u, u = w7.setCell ⟨bb, m, none⟩ (.int .u8 (nb.toNat : Int)) := ⟨_, rfl⟩
            have HAR8 := hide (show Arr w8 bb 5 (((bytesOf dt).set m nb).map byteV) by
              rw [hw8, List.map_set]; exact HAR.out.set m hlm _)
            have HB8 := hide (show Below w6.heap.size w6 w8 by rw [hw8]; exact HBB.out.setCell (by rw [HBE.out]; exact Nat.le_refl _) _)
            have HW8 := hide hw8
            clear hod hcz hnb hlm hw8
            go_upto_region 15 with (fail)
            go_cut [] from 70 to 78 (fun wx => wx = w8)
            case first =>
              go_wp2_with fail
              go_meet
              case rel => exact HW8.out.symm
            case rest =>
              have hwx := hcut
              subst hwx
              obtain ⟨w8, rfl⟩ : ∃ u, u = wc := ⟨_, rfl⟩
              obtain ⟨t, ht⟩ : ∃ t, t = Fl.setB dt m nb := ⟨_, rfl⟩
              have hcs := run_bytes_string (P := Tryz.prog) (w := w8) 46 9 5 Tryz.underlying46 Tryz.underlying5 Tryz.underlying9 (HAR8.out.slv (n := dt.size) (by simp [Rec.bytes_length]) hcc)
              rw [show (⟨((bytesOf dt).set m nb).toArray⟩ : ByteArray) = t from ht.symm] at hcs
              have HA8 := hide (HA6.out.2.2.past HB8.out)
              have hlf : i * 2 + 1 < (flatF [(Fl.nItems, Fl.aF L), (Fl.nMarks, Fl.mL kn L), (Fl.nNodes, Fl.nF 0 L)]).length := by rw [flatF_len]; show _ < 3 * 2; omega
              have hdc : w8.cell? ⟨g9, i * 2 + 1, none⟩ = some (.string dt) := by
                have h := HA8.out.cell (i * 2 + 1) hlf
                rw [List.getD_eq_getElem?_getD, Fl.flat_data _ _ _ hi3, ← HDT.out] at h
                exact h
              have hfd := HA8.out.frozen (i * 2 + 1) hlf
              obtain ⟨A', M', N', hput, htur, hsA, hsM, hsN⟩ := Fl.turned_put (k := kn) (L := L) (i := i) (n := m) (c := nb) hi3 (by rw [← HDT.out]; exact hm) (by rw [← HDT.out]; exact HNB.out)
              rw [← HDT.out, ← ht] at hput
              obtain ⟨w9, hw9⟩ : ∃ u, u = w8.setCell ⟨g9, i * 2 + 1, none⟩ (.string t) := ⟨_, rfl⟩
              have HA9 := hide (show Arr w9 g9 51 (flatF [(Fl.nItems, A'), (Fl.nMarks, M'), (Fl.nNodes, N')]) by
                rw [hw9, ← hput, ← Fl.flat_put _ _ _ t hi3]
                exact HA8.out.set _ hlf _)
              have hge : w.heap.size ≤ g9 := by
                have h1 := HL.out.2.size
                have h2 := HB4.out.1.size
                have h3 := HS5.out.2.moved.size
                have h4 := HA6.out.2.1
                omega
              have HB9 := hide (show Below w.heap.size w w9 by rw [hw9]; exact (HBW.out.trans (HB8.out.mono HBW.out.size)).setCell hge _)
              have HSZ3 := hide (show A'.size ≤ 10000 ∧ M'.size ≤ 10000 ∧ N'.size ≤ 10000 ∧ 0 < A'.size ∧ 0 < M'.size ∧ 0 < N'.size by rw [hsA, hsM, hsN]; exact HLB.out)
              obtain ⟨dc, hdce⟩ : ∃ d, d = Fl.d3 (Dk.newSt 1048576) ⟨A', A'⟩ ⟨M', M'⟩ ⟨N', N'⟩ 0 := ⟨_, rfl⟩
              have HOC := hide (show Dk.openC 1048576 [(Fl.nItems, A'), (Fl.nMarks, M'), (Fl.nNodes, N')] = (0, some dc) by rw [hdce]; exact Fl.open_files _ _ _ HSZ3.out.1 HSZ3.out.2.1 HSZ3.out.2.2.1)
              have HOP := hide (show Fl.openA dc (kn : Int) = (190, none, dc) by
                rw [hdce]
                exact Fl.open_turned rfl hk1 hk2 HOK.out.1 (by have := HOK.out.2; omega) (by have := HLB.out.1; omega) htur rfl rfl rfl)
              have HFI := hide (show Dk.files dc = [(Fl.nItems, A'), (Fl.nMarks, M'), (Fl.nNodes, N')] by
                have := HSZ3.out
                rw [hdce]; exact Fl.files_three _ _ _ _ _ (by show A'.size ≠ 0; omega) (by show M'.size ≠ 0; omega) (by show N'.size ≠ 0; omega))
              have HDA0 := hide (show 0 = dc.acts by rw [hdce]; rfl)
              have HDCB := hide (show dc.acts + 6 < 4611686018427387904 ∧ dc.files.length + 6 < 1099511627776 ∧ dc.keep.length ≤ 140737488351232 by
                rw [hdce]; exact ⟨by show 0 + 6 < _; decide, by show 3 + 6 < _; decide, by show 0 ≤ _; decide⟩)
              have HNM := hide (show ∀ p ∈ [(Fl.nItems, A'), (Fl.nMarks, M'), (Fl.nNodes, N')], p.1.size ≤ 140737488351232 ∧ p.2.size ≤ 140737488351232 by
                have := HSZ3.out
                intro p hp
                simp only [List.mem_cons, List.mem_nil_iff, or_false] at hp
                rcases hp with rfl | rfl | rfl
                · exact ⟨by show Fl.nItems.size ≤ 140737488351232; decide, by show A'.size ≤ _; omega⟩
                · exact ⟨by show Fl.nMarks.size ≤ 140737488351232; decide, by show M'.size ≤ _; omega⟩
                · exact ⟨by show Fl.nNodes.size ≤ 140737488351232; decide, by show N'.size ≤ _; omega⟩)
              have HSL := hide (slf_arr HA9.out HA6.out.1 3 rfl)
              have HW9 := hide hw9
              clear hput htur hsA hsM hsN hlf hdce hw9 ht hcell hfz hxb
              go_upto_region 16 with (fail)
              go_cut [] from 79 to 84 (fun wx => wx = w9)
              case first =>
                go_wp2_with fail
                go_meet
                case rel => exact HW9.out.symm
              case rest =>
                have hwx := hcut
                subst hwx
                obtain ⟨w9, rfl⟩ : ∃ u, u = wc := ⟨_, rfl⟩
                clear hcs hdc hfd hcut
                go_wp2_with fail
                refine (diskOpen_yes 1048576 _ _ dc _ (by decide) HSL.out (by show 3 ≤ 1099511627776; decide) HNM.out HOC.out).mono ?_
                rintro e w10 ⟨Dc, rfl, HO⟩
                go_wp2_with fail
                refine (filesOpen_no HO.out.1 (kn : Int) 190 HDCB.out.1 HDCB.out.2.1 HDCB.out.2.2 HOP.out).mono ?_
                rintro e w11 ⟨rfl, Df, HDf, HMf⟩
                go_wp2_with fail
                refine (diskActs_st HDf.out 0 HDA0.out).mono ?_
                rintro e w12 ⟨rfl, he⟩
                subst he
                go_wp2_with fail
                refine (diskFiles_st HDf.out _ HFI.out).mono ?_
                rintro e w13 ⟨xn, xa, xc, rfl, HW13, HB13⟩
                have HOWF := hide (((HSL.out.below HO.out.2.2.2).moved HMf.out (by
                  intro b hb ho
                  have hbe : b = g9 := by
                    rw [Dk.slBlk_some] at hb
                    simpa using hb.symm
                  have h1 := HA9.out.lt
                  have h2 := HO.out.2.1
                  have h3 := HO.out.2.2.1
                  rcases ho with e | e <;> omega)).below HB13.out)
                go_wp2_with fail
                refine (same_val _ _ _ _ HW13.out.2.1 HOWF.out (by show 3 ≤ 1099511627776; decide)).mono ?_
                rintro e w14 ⟨rfl, HB14⟩
                have HEND := hide (((HDf.out.past HB13.out).past HB14.out).below HO.out.2.2.2 HO.out.2.1 HO.out.2.2.1)
                go_wp2_with fail
                go_ret
                exact ⟨rfl, HB9.out.trans (HEND.out.mono HB9.out.size)⟩
end Go.Proofs.YtbfbajfdlkgloaaGreatDoor
