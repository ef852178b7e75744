/-
  massiflaw19's alive answers true.
-/
import Derived.Test.YtbfbajfdlkgloaaGreatDoorG34
import Derived.Test.YtbfbajfdlkgloaaGreatDoorG10

namespace Go.Proofs.YtbfbajfdlkgloaaGreatDoor
open Go Go.RowKit Go.Maps
namespace Fl
def itA : It := (⟨#[97]⟩, [⟨#[97, 97]⟩])
def itB : It := (⟨#[98]⟩, [⟨#[98, 98]⟩, ⟨#[97, 98]⟩])
theorem ok_AB : okL 2 0 [itA, itB] := by
  refine ⟨⟨by decide, by decide, ?_⟩, ⟨by decide, by decide, ?_⟩, trivial⟩
  · intro d hd; rw [List.mem_singleton.1 hd]; decide
  · intro d hd
    simp only [itB, List.mem_cons, List.mem_nil_iff, or_false] at hd
    rcases hd with rfl | rfl <;> decide
def dA : Dk.St := Dk.newSt 100000
theorem dA_calm : calm dA := ⟨rfl, rfl⟩
theorem aliveOpen : openA dA 2 = (0, some (stOf 2 []), dOf dA 2 [] 3) := open_new dA_calm rfl (k := 2) (by decide) (by decide)
theorem alive1 : addA (stOf 2 []) (dOf dA 2 [] 3) ⟨#[97]⟩ [⟨#[97, 97]⟩] = (0, stOf 2 [itA], dOf dA 2 [itA] 9) :=
  add_good dA_calm (by decide) (by decide) [] itA 3 ⟨ok_AB.1, trivial⟩ (by decide) (by decide) (by decide) (by decide)
theorem alive2 : addA (stOf 2 [itA]) (dOf dA 2 [itA] 9) ⟨#[98]⟩ [⟨#[98, 98]⟩] = (192, stOf 2 [itA], dOf dA 2 [itA] 9) := by
  have h : checkA (stOf 2 [itA]) ⟨#[98]⟩ [⟨#[98, 98]⟩] = 192 := by decide
  unfold addA
  rw [h]; rfl
theorem alive3 : addA (stOf 2 [itA]) (dOf dA 2 [itA] 9) ⟨#[98]⟩ [⟨#[98, 98]⟩, ⟨#[97, 98]⟩] = (0, stOf 2 [itA, itB], dOf dA 2 [itA, itB] 15) :=
  add_good dA_calm (by decide) (by decide) [itA] itB 9 ok_AB (by decide) (by decide) (by decide) (by decide)
theorem alive4 : itemA (stOf 2 [itA, itB]) (dOf dA 2 [itA, itB] 15) 1 = (⟨#[98]⟩, 0) :=
  item_good [itA] [] itB _ ⟨#[]⟩ rfl (by rw [apnil]; rfl) (by decide)
theorem alive5 : nodeA (stOf 2 [itA, itB]) (dOf dA 2 [itA, itB] 15) 2 = (⟨#[97, 98]⟩, 0) :=
  node_good (by decide) [itA] [] itB _ ⟨#[]⟩ rfl (by rw [apnil]; rfl) ok_AB 1 ⟨#[97, 98]⟩ rfl
theorem alive6 : itemA (stOf 2 [itA, itB]) (dOf dA 2 [itA, itB] 15) 2 = (⟨#[]⟩, 31) := item_out 2 [itA, itB] _ 2 (by decide)
theorem alive7 : openA (dOf dA 2 [itA, itB] 15) 3 = (190, none, dOf dA 2 [itA, itB] 15) :=
  open_other dA_calm (k2 := 3) (by decide) (by decide) (by decide) (by decide) (by decide) itA [itB] 15 ok_AB (by decide) (by decide)
theorem alive8 : openA (dOf dA 2 [itA, itB] 15) 0 = (70, none, dOf dA 2 [itA, itB] 15) := rfl
theorem alive9 : openA (dOf dA 2 [itA, itB] 15) 2 = (0, some (stOf 2 [itA, itB]), dOf dA 2 [itA, itB] 18) :=
  open_dOf dA_calm (by decide) (by decide) [itA, itB] 15 ok_AB (by decide) (by decide)
end Fl
theorem DiskSt.below {D0 D : Dk.Blk} {w w0 w' : World} {d : Dk.St} (h : DiskSt D0 w0 w' D d) (hb : Below w.heap.size w w0) (h1 : w.heap.size ≤ D0.g) (h2 : w.heap.size ≤ D0.mb) : Below w.heap.size w w' :=
  hb.trans (h.moved.below hb.size (fun j hj => hj.elim (fun e => by rw [e]; exact h1) (fun e => by rw [e]; exact h2)))
/-! contracts of a store at a place and of its disk -/
theorem storeItem_st {D0 D : Dk.Blk} {w0 w : World} {T : Fl.Blk} {s : Fl.St} {d : Dk.St} {tg : Nat} (h : T.g = tg ∧ Stands D0 w0 w T D s d) (i : Nat) (x : ByteArray) (r : Int) (hi : i < 18446744073709551616) (hr : Fl.itemA s d i = (x, r)) :
    Calls Tryz.prog 32 #[.pointer (some ⟨tg, 0, none⟩), .int .u64 (i : Int)] w fun e w' => e = .returned (.tuple #[.string x, .int .i64 r]) ∧ Hid (T.g = tg ∧ Stands D0 w0 w' T D s d) := by
  rw [← h.1]
  exact (storeItem_val T D s d i x r w h.2.store h.2.disk hi hr).mono fun _ _ ⟨a, b⟩ => ⟨a, rfl, h.2.past b⟩
theorem storeNode_st {D0 D : Dk.Blk} {w0 w : World} {T : Fl.Blk} {s : Fl.St} {d : Dk.St} {tg : Nat} (h : T.g = tg ∧ Stands D0 w0 w T D s d) (i : Nat) (x : ByteArray) (r : Int) (hi : i < 18446744073709551616) (hr : Fl.nodeA s d i = (x, r)) :
    Calls Tryz.prog 34 #[.pointer (some ⟨tg, 0, none⟩), .int .u64 (i : Int)] w fun e w' => e = .returned (.tuple #[.string x, .int .i64 r]) ∧ Hid (T.g = tg ∧ Stands D0 w0 w' T D s d) := by
  rw [← h.1]
  exact (storeNode_val T D s d i x r w h.2.store h.2.disk hi hr).mono fun _ _ ⟨a, b⟩ => ⟨a, rfl, h.2.past b⟩
theorem storeSize_st {D0 D : Dk.Blk} {w0 w : World} {T : Fl.Blk} {s : Fl.St} {d : Dk.St} {tg : Nat} (h : T.g = tg ∧ Stands D0 w0 w T D s d) (r : Nat) (hr : r = s.ends.length) :
    Calls Tryz.prog 27 #[.pointer (some ⟨tg, 0, none⟩)] w fun e w' => e = .returned (.int .u64 (r : Int)) ∧ w' = w := by
  rw [← h.1]; exact storeSize_val T D.g s r w h.2.store hr
theorem storeLame_st {D0 D : Dk.Blk} {w0 w : World} {T : Fl.Blk} {s : Fl.St} {d : Dk.St} {tg : Nat} (h : T.g = tg ∧ Stands D0 w0 w T D s d) (r : Bool) (hr : r = s.lame) :
    Calls Tryz.prog 18 #[.pointer (some ⟨tg, 0, none⟩)] w fun e w' => e = .returned (.bool r) ∧ w' = w := by
  rw [← h.1]; exact storeLame_val T D.g s r w h.2.store hr
/-- Add: the store's place stays. -/
theorem storeAdd_st {D0 D : Dk.Blk} {w0 w : World} {T : Fl.Blk} {s s' : Fl.St} {d d' : Dk.St} {tg : Nat} (h : T.g = tg ∧ Stands D0 w0 w T D s d) (r : Int) (item : ByteArray) (mv : Value) (made : List ByteArray) (hi : item.size ≤ 140737488351232) (hmv : SlV w mv (made.map Value.string)) (hml : made.length ≤ 140737488351232) (hms : ∀ d ∈ made, d.size ≤ 140737488351232) (hacts : d.acts + 6 < 4611686018427387904) (hmany : d.files.length + 6 < 1099511627776) (hkl : d.keep.length ≤ 140737488351232) (hr : Fl.addA s d item made = (r, s', d')) :
    Calls Tryz.prog 26 #[.pointer (some ⟨tg, 0, none⟩), .string item, mv] w fun e w' => e = .returned (.int .i64 r) ∧ ∃ T' D', Hid (T'.g = tg ∧ Stands D0 w0 w' T' D' s' d') ∧ Hid (Moved (addS T D) w w') := by
  rw [← h.1]
  exact (storeAdd_val T D s s' d d' r item mv made w h.2.store h.2.disk h.2.away hi hmv hml hms hacts hmany hkl hr).mono fun _ _ ⟨a, b⟩ => by
    obtain ⟨T', D', e, h2⟩ := h.2.add b
    exact ⟨a, T', D', ⟨e, h2⟩, (b.at (Nat.le_refl _)).2⟩
theorem diskActs_st {D0 D : Dk.Blk} {w0 w : World} {d : Dk.St} (h : DiskSt D0 w0 w D d) (r : Nat) (hr : r = d.acts) :
    Calls Tryz.prog 17 #[.pointer (some ⟨D0.g, 0, none⟩)] w fun e w' => e = .returned (.int .i64 (r : Int)) ∧ w' = w := by
  rw [← h.g, hr]; exact diskActs_any D d w h.disk
/-- Open of a disk beside which a store may stand. -/
theorem filesOpen_no {D0 D : Dk.Blk} {w0 w : World} {d d' : Dk.St} (h : DiskSt D0 w0 w D d) (k r : Int) (hacts : d.acts + 6 < 4611686018427387904) (hmany : d.files.length + 6 < 1099511627776) (hkl : d.keep.length ≤ 140737488351232) (hr : Fl.openA d k = (r, none, d')) :
    Calls Tryz.prog 20 #[.pointer (some ⟨D0.g, 0, none⟩), .int .i64 k] w fun e w' => e = .returned (.tuple #[.pointer none, .int .i64 r]) ∧ ∃ D', Hid (DiskSt D0 w0 w' D' d') ∧ Hid (Moved (Dk.own D) w w') := by
  rw [← h.g]
  exact (filesOpen_val D d d' k r none w h.disk hacts hmany hkl hr).mono fun _ _ ho => by
    obtain ⟨D', he, hD⟩ := h.of_open ho
    obtain ⟨D2, _, _, _, _, hm, _⟩ := ho
    exact ⟨he, D', hD, hm⟩
theorem filesOpen_yes {D0 D : Dk.Blk} {w0 w : World} {d d' : Dk.St} {s : Fl.St} (h : DiskSt D0 w0 w D d) (k : Int) (hacts : d.acts + 6 < 4611686018427387904) (hmany : d.files.length + 6 < 1099511627776) (hkl : d.keep.length ≤ 140737488351232) (hr : Fl.openA d k = (0, some s, d')) :
    Calls Tryz.prog 20 #[.pointer (some ⟨D0.g, 0, none⟩), .int .i64 k] w fun e w' => ∃ (tg : Nat) (T : Fl.Blk) (D' : Dk.Blk), e = .returned (.tuple #[.pointer (some ⟨tg, 0, none⟩), .int .i64 0]) ∧ Hid (T.g = tg ∧ Stands D0 w0 w' T D' s d') ∧ Hid (Moved (Dk.own D) w w') := by
  rw [← h.g]
  exact (filesOpen_val D d d' k 0 (some s) w h.disk hacts hmany hkl hr).mono fun _ _ ho => by
    obtain ⟨T, D', he, _, hS⟩ := Stands.of_open h ho
    obtain ⟨D2, _, _, _, _, hm, _⟩ := ho
    exact ⟨T.g, T, D', he, ⟨rfl, hS⟩, hm⟩
set_option maxHeartbeats 3200000 in
set_option maxRecDepth 100000 in
theorem alive_any (w : World) : Calls Tryz.prog 11 #[] w fun e w' => e = .returned (.bool true) ∧ Below w.heap.size w w' := by
  go_enter Tryz.func11, Tryz.ntmps11
  go_wp2_with fail
  refine (diskNew_any 100000 _ (by decide)).mono ?_
  rintro e w1 ⟨D0, rfl, hD, hg, hmb, hkv, hb1⟩
  have HB1 := hide (And.intro hb1 (And.intro hg hmb))
  have HS0 := hide (show DiskSt D0 w1 w1 D0 Fl.dA from DiskSt.start hD)
  clear hb1 hg hmb hkv hD
  go_wp2_with fail
  refine (filesOpen_yes HS0.out 2 (by decide) (by decide) (by decide) Fl.aliveOpen).mono ?_
  rintro e w2 ⟨tg, T1, D1, rfl, HS1, _⟩
  go_wp2_with fail
  refine (diskActs_st HS1.out.2.toDiskSt 3 rfl).mono ?_
  rintro e w3 ⟨rfl, he⟩
  subst he
  go_wp2_with fail
  refine (storeAdd_st ⟨HS1.out.1, HS1.out.2.past ((Below.refl _ _).alloc (Nat.le_refl _) _)⟩ 0 _ _ [⟨#[97, 97]⟩] (by decide) (slv_new _ [.string ⟨#[97, 97]⟩] 9 1 rfl) (by decide) (by decide) (by decide) (by decide) (by decide) Fl.alive1).mono ?_
  rintro e w4 ⟨rfl, T2, D2, HS2, _⟩
  go_wp2_with fail
  refine (storeAdd_st ⟨HS2.out.1, HS2.out.2.past ((Below.refl _ _).alloc (Nat.le_refl _) _)⟩ 192 _ _ [⟨#[98, 98]⟩] (by decide) (slv_new _ [.string ⟨#[98, 98]⟩] 9 1 rfl) (by decide) (by decide) (by decide) (by decide) (by decide) Fl.alive2).mono ?_
  rintro e w5 ⟨rfl, T3, D3, HS3, _⟩
  go_wp2_with fail
  refine (storeAdd_st ⟨HS3.out.1, HS3.out.2.past ((Below.refl _ _).alloc (Nat.le_refl _) _)⟩ 0 _ _ [⟨#[98, 98]⟩, ⟨#[97, 98]⟩] (by decide) (slv_new _ [.string ⟨#[98, 98]⟩, .string ⟨#[97, 98]⟩] 9 2 rfl) (by decide) (by decide) (by decide) (by decide) (by decide) Fl.alive3).mono ?_
  rintro e w6 ⟨rfl, T4, D4, HS4, _⟩
  go_wp2_with fail
  refine (storeItem_st HS4.out 1 _ 0 (by decide) Fl.alive4).mono ?_
  rintro e w7 ⟨rfl, HS5⟩
  go_wp2_with fail
  refine (storeNode_st HS5.out 2 _ 0 (by decide) Fl.alive5).mono ?_
  rintro e w8 ⟨rfl, HS6⟩
  go_wp2_with fail
  refine (storeItem_st HS6.out 2 _ 31 (by decide) Fl.alive6).mono ?_
  rintro e w9 ⟨rfl, HS7⟩
  go_wp2_with fail
  refine (storeSize_st HS7.out 2 rfl).mono ?_
  rintro e w10 ⟨rfl, he⟩
  subst he
  go_wp2_with fail
  refine (storeLame_st HS7.out false rfl).mono ?_
  rintro e w11 ⟨rfl, he⟩
  subst he
  go_wp2_with fail
  refine (filesOpen_no HS7.out.2.toDiskSt 3 190 (by decide) (by decide) (by decide) Fl.alive7).mono ?_
  rintro e w12 ⟨rfl, D5, HS8, _⟩
  go_wp2_with fail
  refine (filesOpen_no HS8.out 0 70 (by decide) (by decide) (by decide) Fl.alive8).mono ?_
  rintro e w13 ⟨rfl, D6, HS9, _⟩
  go_wp2_with fail
  refine (filesOpen_yes HS9.out 2 (by decide) (by decide) (by decide) Fl.alive9).mono ?_
  rintro e w14 ⟨tg2, T7, D7, rfl, HS10, _⟩
  go_wp2_with fail
  refine (storeSize_st HS10.out 2 rfl).mono ?_
  rintro e w15 ⟨rfl, he⟩
  subst he
  go_wp2_with fail
  go_ret
  exact ⟨rfl, HS10.out.2.toDiskSt.below HB1.out.1 HB1.out.2.1 HB1.out.2.2⟩
end Go.Proofs.YtbfbajfdlkgloaaGreatDoor

/-
  A disk of which all is synced: what stays is what there is; the disk's lists of files beside a store.
-/
namespace Go.Proofs.YtbfbajfdlkgloaaGreatDoor
open Go Go.RowKit Go.Maps
namespace Fl
theorem after_syncedC (x : ByteArray) (keep : List Bool) (c : Nat) : (Dk.afterF keep ⟨x, x⟩ c).1 = x := by
  have hl : Dk.stayLen keep ⟨x, x⟩ c = x.size := by unfold Dk.stayLen; split <;> rfl
  refine byt_ext (by rw [Dk.afterF_size_eq, hl]) fun i hi => ?_
  rw [Dk.afterF_size_eq] at hi
  rw [Dk.afterF_byt _ _ _ _ hi]
  split <;> rfl
theorem after_sync (d : Dk.St) (h : ∀ p ∈ d.files, p.2.was = p.2.now) (keep : List Bool) : Dk.after d keep = Dk.files d := by
  have go : ∀ (l : Dk.Fs) (c : Nat), (∀ p ∈ l, p.2.was = p.2.now) → Dk.afterL keep l c = l.map fun p => p.2.now := by
    intro l
    induction l with
    | nil => intro c _; rfl
    | cons p l ih =>
      intro c h
      obtain ⟨n, now, was⟩ := p
      have hw : was = now := h (n, ⟨now, was⟩) (by simp)
      subst hw
      show _ :: Dk.afterL keep l _ = was :: l.map _
      rw [ih _ (fun q hq => h q (by simp [hq])), after_syncedC]
  unfold Dk.after
  split
  · rfl
  · unfold Dk.files
    rw [go _ _ h]
theorem after_dOf (b : Dk.St) (k : Nat) (L : List It) (acts : Nat) (keep : List Bool) : Dk.after (dOf b k L acts) keep = Dk.files (dOf b k L acts) :=
  after_sync _ (by
    intro p hp
    have hp : p ∈ [(nItems, (⟨aF L, aF L⟩ : Dk.F)), (nMarks, ⟨mL k L, mL k L⟩), (nNodes, ⟨nF 0 L, nF 0 L⟩)] := hp
    simp only [List.mem_cons, List.mem_nil_iff, or_false] at hp
    rcases hp with rfl | rfl | rfl <;> rfl) keep
theorem files_dOf (b : Dk.St) (k : Nat) (L : List It) (a a' : Nat) : Dk.files (dOf b k L a) = Dk.files (dOf b k L a') := rfl
theorem files_len (d : Dk.St) : (Dk.files d).length ≤ d.files.length := by unfold Dk.files; exact Dk.pick_le _ _
theorem has_dOf {b : Dk.St} (hb : b.down = false) (k : Nat) (l : List ByteArray) (acts : Nat) : Has (dOf b k (its k 0 l) acts) k l :=
  ⟨hb, ⟨⟨#[]⟩, (apnil _).symm⟩, ⟨⟨#[]⟩, (apnil _).symm⟩⟩
end Fl
theorem diskFiles_st {D0 D : Dk.Blk} {w0 w : World} {d : Dk.St} (h : DiskSt D0 w0 w D d) (l : List (ByteArray × ByteArray)) (hl : Dk.files d = l) :
    Calls Tryz.prog 19 #[.pointer (some ⟨D0.g, 0, none⟩)] w fun e w' => ∃ len a cap, e = .returned (.slice a len cap) ∧ Hid (len = l.length ∧ SlF w' (.slice a len cap) l ∧ ∀ k, Dk.slBlk (.slice a len cap) = some k → w.heap.size ≤ k) ∧ Hid (Below w.heap.size w w') := by
  rw [← h.g]
  refine (diskFiles_any D d w h.disk).mono ?_
  rintro e w' ⟨v, rfl, hown, hb⟩
  rw [hl] at hown
  have hs := slf_of_owns hown
  obtain ⟨len, a, cap, hlen, rfl, _, _⟩ := hs.form
  refine ⟨len, a, cap, rfl, ⟨hlen, hs, fun k hk => ?_⟩, hb⟩
  cases a with
  | none => cases hk
  | some a =>
    rw [Dk.slBlk_some] at hk
    split at hk
    · cases hk
    · injection hk with hk
      refine (hown.lt k ?_).1
      show some a.block = some k
      rw [hk]
theorem diskAfter_st {D0 D : Dk.Blk} {w0 w : World} {d : Dk.St} (h : DiskSt D0 w0 w D d) (kv : Value) (keep : List Bool) (l : List (ByteArray × ByteArray)) (hkv : SlV w kv (keep.map Value.bool)) (hkl : keep.length ≤ 140737488351232) (hl : Dk.after d keep = l) :
    Calls Tryz.prog 22 #[.pointer (some ⟨D0.g, 0, none⟩), kv] w fun e w' => ∃ len a cap, e = .returned (.slice a len cap) ∧ Hid (len = l.length ∧ SlF w' (.slice a len cap) l ∧ ∀ k, Dk.slBlk (.slice a len cap) = some k → w.heap.size ≤ k) ∧ Hid (Below w.heap.size w w') := by
  rw [← h.g]
  refine (diskAfter_any D d kv keep w h.disk hkv hkl).mono ?_
  rintro e w' ⟨v, rfl, hown, hb⟩
  rw [hl] at hown
  have hs := slf_of_owns hown
  obtain ⟨len, a, cap, hlen, rfl, _, _⟩ := hs.form
  refine ⟨len, a, cap, rfl, ⟨hlen, hs, fun k hk => ?_⟩, hb⟩
  cases a with
  | none => cases hk
  | some a =>
    rw [Dk.slBlk_some] at hk
    split at hk
    · cases hk
    · injection hk with hk
      refine (hown.lt k ?_).1
      show some a.block = some k
      rw [hk]
theorem same_val (v1 v2 : Value) (l : List (ByteArray × ByteArray)) (w : World) (h1 : SlF w v1 l) (h2 : SlF w v2 l) (hl : l.length ≤ 1099511627776) :
    Calls Tryz.prog 21 #[v1, v2] w fun e w' => e = .returned (.bool true) ∧ Hid (Below w.heap.size w w') :=
  (same_any v1 v2 l l w h1 h2 hl hl).mono fun _ _ ⟨a, b⟩ => ⟨by rw [a, decide_eq_true rfl], b⟩
theorem SlF.stay {w w' : World} {v : Value} {l : List (ByteArray × ByteArray)} (h : SlF w v l) (hs : w.heap.size ≤ w'.heap.size) (hb : ∀ k, Dk.slBlk v = some k → k < w.heap.size → w'.heap[k]? = w.heap[k]?) : SlF w' v l := by
  rcases h with h | ⟨b, off, cap, rfl, hc, hlt, hx⟩
  · exact .inl h
  · refine .inr ⟨b, off, cap, rfl, hc, by omega, fun j hj => ?_⟩
    have e : w'.heap[b]? = w.heap[b]? := hb b (by rw [Dk.slBlk_some, if_neg (by omega)]) hlt
    exact ⟨(World.cell?_of_block (a := ⟨b, off + j * 2, none⟩) e).trans (hx j hj).1, (World.cell?_of_block (a := ⟨b, off + (j * 2 + 1), none⟩) e).trans (hx j hj).2⟩
theorem SlF.moved {S : Nat → Prop} {w w' : World} {v : Value} {l : List (ByteArray × ByteArray)} (h : SlF w v l) (hm : Moved S w w') (hn : ∀ k, Dk.slBlk v = some k → ¬ S k) : SlF w' v l :=
  h.stay hm.size fun k hk hlt => hm.block k hlt (hn k hk)
end Go.Proofs.YtbfbajfdlkgloaaGreatDoor
