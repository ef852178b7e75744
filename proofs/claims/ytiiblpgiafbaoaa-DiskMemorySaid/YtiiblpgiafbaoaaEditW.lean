/-
  massiflaw17's small functions on one file: file, at, edited.
-/
import Derived.Test.YtiiblpgiafbaoaaSecPure
import Derived.Test.YtiiblpgiafbaoaaDiskOpen
import Derived.Test.YtiiblpgiafbaoaaLawOps
import Derived.BigQuiet
import Derived.Deep.QuietTactic
namespace Go.Proofs.Ytiiblpgiafbaoaa
open Go Go.RowKit Go.Maps
set_option maxHeartbeats 1600000 in
set_option maxRecDepth 100000 in
theorem file_any (v : Value) (x : ByteArray) (w : World) (h : SlF w v (Dk.tf x)) :
    Calls Try.prog 26 #[v] w fun e w' => e = .returned (.tuple #[.string x, .bool true]) ∧ Below w.heap.size w w' := by
  obtain ⟨len, a, cap, hll, rfl, hlc, HC⟩ := h.form
  by_cases hx : x = ⟨#[]⟩
  · have hl0 : len = 0 := by rw [hll]; unfold Dk.tf; rw [if_pos hx]; rfl
    subst hl0
    subst hx
    clear HC h hll hlc
    go_enter Try.func26, Try.ntmps26
    go_wp2_with fail
    go_ret2
    exact ⟨rfl, Below.refl _ _⟩
  · have htf : Dk.tf x = [(⟨#[102]⟩, x)] := by unfold Dk.tf; rw [if_neg hx]; rfl
    rw [htf] at hll HC
    have hl1 : len = 1 := hll
    subst hl1
    obtain ⟨b, off, rfl, hb, c0, c1⟩ := HC 0 _ rfl
    have k0 : w.cell? ⟨b, off, none⟩ = some (.string ⟨#[102]⟩) := by simpa using c0
    have k1 : w.cell? ⟨b, off + 1, none⟩ = some (.string x) := by simpa using c1
    have hb0 : x.toList.isEmpty = false := by
      cases hc : x.toList with
      | nil => exact absurd ((Go.Lib.bytes_beq_iff x ⟨#[]⟩).1 (by rw [hc]; decide +kernel)) hx
      | cons y l => rfl
    clear hx htf hll HC c0 c1 hlc h hb
    go_enter Try.func26, Try.ntmps26
    go_upto_region 3 with (fail)
    go_quiet (fail)
    go_wp2_with fail
    go_ret2
    exact ⟨rfl, below_drewN (Below.refl _ _) _⟩
set_option maxRecDepth 100000 in
theorem at_any (s : ByteArray) (i : Nat) (w : World) (hs : s.size ≤ 140737488351232) (hi : i ≤ 4611686018427387904) :
    Calls Try.prog 27 #[.string s, .int .i64 (i : Int)] w fun e w' => e = .returned (byteV (byt s i)) ∧ w' = w := by
  by_cases h : i < s.size
  · have hb := byt_lt h
    obtain ⟨y, hy⟩ : ∃ y, y = byt s i := ⟨_, rfl⟩
    rw [← hy] at hb ⊢
    have HB := hide hb
    have h2 : (i : Int) < (s.size : Int) := by omega
    clear hy hb
    go_enter Try.func27, Try.ntmps27
    go_wp2_with fail
    go_ret
    exact ⟨by rw [HB.out]; rfl, rfl⟩
  · have hb := byt_ge (Nat.le_of_not_lt h)
    rw [hb]
    have h2 : ¬ (i : Int) < (s.size : Int) := by omega
    clear hb
    go_enter Try.func27, Try.ntmps27
    go_wp2_with fail
    go_ret
    exact ⟨rfl, rfl⟩
theorem at_val (s : ByteArray) (i : Nat) (y : UInt8) (w : World) (hs : s.size ≤ 140737488351232) (hi : i ≤ 4611686018427387904) (hy : byt s i = y) :
    Calls Try.prog 27 #[.string s, .int .i64 (i : Int)] w fun e w' => e = .returned (.int .u8 (y.toNat : Int)) ∧ w' = w := by
  rw [← hy]; exact at_any s i w hs hi
namespace Dk
structure EditV where
  at_ : Int
  data : ByteArray
  cut : Bool
def edCells (e : EditV) : List Value := [.int .i64 e.at_, .string e.data, .bool e.cut]
structure EditOk (e : EditV) : Prop where
  at_ : (Lit.int .i64 e.at_).wf = true
  data : e.data.size ≤ 140737488351232
def editF (now : ByteArray) (e : EditV) : ByteArray :=
  if e.cut = true then now.extract 0 (bent e.at_ now.size).toNat else over now (bent e.at_ now.size).toNat (short e.data 400)
def editAll (l : List EditV) (was : ByteArray) : ByteArray := l.foldl editF was
theorem editF_size (now : ByteArray) (e : EditV) : (editF now e).size ≤ now.size + 400 := by
  unfold editF
  have hb := bent_range (n := e.at_) (m := (now.size : Int)) (by omega)
  have hs := short_size e.data 400
  split
  · rw [ByteArray.size_extract]; omega
  · unfold over
    rw [ByteArray.size_append, ByteArray.size_append, ByteArray.size_extract, ByteArray.size_extract]
    omega
theorem editAll_snoc (l : List EditV) (e : EditV) (was : ByteArray) : editAll (l ++ [e]) was = editF (editAll l was) e := by
  unfold editAll; rw [List.foldl_append]; rfl
theorem one_open (was : ByteArray) (h : was.size ≤ 1000000) : openC 1048576 [(fN, was)] = (0, some (oneSt was was 0)) := by
  have e : openS [(fN, was)] = some ([(fN, ⟨was, was⟩)], (was.size : Int)) := by
    unfold openS openStep
    simp only [List.foldl, Option.bind_some]
    rw [if_neg (by simp [has]; omega), Int.zero_add, IntWalk.wrap64_in _ (by omega)]
    rfl
  unfold openC
  rw [e]
  dsimp only
  rw [if_neg (by omega)]
  rfl
end Dk
structure EdsAt (w : World) (v : Value) (l : List Dk.EditV) : Prop where
  ok : ∀ e ∈ l, Dk.EditOk e
  form : ∃ len a cap, len = l.length ∧ v = .slice a len cap ∧ len ≤ cap ∧ ∀ (j : Nat) (e : Dk.EditV), l[j]? = some e → ∃ b off, a = some ⟨b, off, none⟩ ∧ b < w.heap.size ∧ w.rangeAt b (off + j * 3) (Dk.edCells e)
theorem EdsAt.below {w w' : World} {v : Value} {l : List Dk.EditV} (h : EdsAt w v l) (hb : Below w.heap.size w w') : EdsAt w' v l := by
  obtain ⟨len, a, cap, h1, h2, h3, h4⟩ := h.form
  refine ⟨h.ok, len, a, cap, h1, h2, h3, fun j e he => ?_⟩
  obtain ⟨b, off, k1, k2, k3⟩ := h4 j e he
  exact ⟨b, off, k1, Nat.lt_of_lt_of_le k2 hb.size, range_below k3 k2 hb⟩
theorem open_val (room : Int) (v : Value) (l : List (ByteArray × ByteArray)) (s : Dk.St) (w : World) (hr : (Lit.int .i64 room).wf = true) (hv : SlF w v l) (hl : l.length ≤ 1099511627776) (hn : ∀ p ∈ l, p.1.size ≤ 140737488351232 ∧ p.2.size ≤ 140737488351232) (ho : Dk.openC room l = (0, some s)) :
    Calls Try.prog 33 #[.int .i64 room, v] w fun e w' => ∃ D : Dk.Blk, e = .returned (.tuple #[.pointer (some ⟨D.g, 0, none⟩), .int .i64 0]) ∧ DiskAt w' D s ∧ w.heap.size ≤ D.g ∧ w.heap.size ≤ D.mb ∧ D.kv = .slice none 0 0 ∧ Below w.heap.size w w' := by
  refine (diskOpen_any room v l w hr hv hl hn).mono ?_
  rintro e w' ⟨hb, h⟩
  rw [ho] at h
  rcases h with ⟨h, _⟩ | ⟨s2, D, hs, he, hd, h1, h2, h3⟩
  · cases h
  · injection hs with _ hs
    injection hs with hs
    subst hs
    exact ⟨D, he, hd, h1, h2, h3, hb⟩
def Edited (was : ByteArray) (l : List Dk.EditV) (w : World) (e : Ending) (w' : World) : Prop :=
  ∃ (D : Dk.Blk) (k : Nat), e = .returned (.pointer (some ⟨D.g, 0, none⟩)) ∧ k ≤ 12 ∧ DiskAt w' D (Dk.oneSt (Dk.editAll (l.take 12) was) was k) ∧ (Dk.editAll (l.take 12) was).size ≤ 6300 ∧ w.heap.size ≤ D.g ∧ w.heap.size ≤ D.mb ∧ D.kv = .slice none 0 0 ∧ Below w.heap.size w w'
theorem short_val (s : ByteArray) (n : Nat) (r : ByteArray) (w : World) (hs : s.size ≤ 140737488351232) (hn : n ≤ 140737488351232) (hr : Dk.short s n = r) :
    Calls Try.prog 13 #[.string s, .int .i64 (n : Int)] w fun e w' => e = .returned (.string r) ∧ w' = w := by
  rw [← hr]; exact short_any s n w hs hn
-- DEFS edwr
def edwrL (D : Dk.Blk) (s2 : Dk.St) (data dt : ByteArray) (at_ : Int) (b off len1 cap1 i nn z : Nat) : List Sp :=
  [.is (.pointer (some ⟨D.g, 0, none⟩)), .is (.slice (some ⟨b, off, none⟩) len1 cap1), .is (.int .i64 (i : Int)), .is (.pointer (some ⟨b, off + i * 3, none⟩)), .is (.pointer (some ⟨b, off + i * 3, none⟩)), .is (.int .i64 at_), .is (.int .i64 (nn : Int)), .is (.int .i64 (z : Int)), .is (.slice (some ⟨b, off, none⟩) len1 cap1), .is (.int .i64 (i : Int)), .is (.pointer (some ⟨b, off + i * 3, none⟩)), .is (.pointer (some ⟨b, off + i * 3 + 1, none⟩)), .is (.string data), .is (.string dt), .both (.int .i64 0) (fun u => DiskAt u D s2) (fun _ _ h hb => h.past hb)]
def edwrU : List (List Nat) := [[], [], [], [1, 2], [3], [4], [], [5, 6], [], [], [8, 9], [10], [11], [12], [0, 7, 13]]
-- END edwr
set_option maxHeartbeats 6400000 in
set_option maxRecDepth 100000 in
theorem edited_any (was : ByteArray) (v1 : Value) (l : List Dk.EditV) (w : World) (hwas : was.size ≤ 1500) (h1 : EdsAt w v1 l) (hl1 : l.length ≤ 140737488351232) :
    Calls Try.prog 25 #[.string was, v1] w (Edited was l w) := by
  obtain ⟨len1, a1, cap1, e1, rfl, hc1, HC1⟩ := h1.form
  have H1 := hide HC1
  have HOK := hide h1.ok
  have HN := hide e1
  have hn1 : len1 ≤ 140737488351232 := by omega
  clear h1 HC1 e1 hl1
  go_enter Try.func25, Try.ntmps25
  go_wp2_with fail
  have hal : Below w.heap.size w (w.alloc (.cells #[.string ⟨#[102]⟩, .string was] 42)) := (Below.refl _ _).alloc (Nat.le_refl _) _
  refine (open_val 1048576 _ [(Dk.fN, was)] (Dk.oneSt was was 0) _ (by decide) (slf_new w [(Dk.fN, was)] 1 rfl #[.string ⟨#[102]⟩, .string was] rfl 42) (by show 1 ≤ _; decide) (fun p hp => by
    rw [List.mem_singleton] at hp; subst hp; exact ⟨by show Dk.fN.size ≤ _; decide, by show was.size ≤ _; omega⟩) (Dk.one_open was (by omega))).mono ?_
  rintro e w1 ⟨D, rfl, hd, hg, hm, hkv, hb⟩
  have HD := hide (And.intro hd (And.intro hkv (hal.trans (hb.mono hal.size))))
  have HG := hide (show w.heap.size ≤ D.g ∧ w.heap.size ≤ D.mb from ⟨Nat.le_trans hal.size hg, Nat.le_trans hal.size hm⟩)
  clear hd hg hm hkv hb hal
  go_wp2_with fail
  go_loopg [7] 12 (fun g v7 wr => ∃ (i : Nat) (now : ByteArray), i ≤ 12 ∧ i ≤ len1 ∧ g = 12 - i ∧ v7 = .int .i64 i ∧ now.size ≤ 1500 + i * 400 ∧ Hid (now = Dk.editAll (l.take i) was ∧ DiskAt wr D (Dk.oneSt now was i) ∧ Below w.heap.size w wr))
  case atStart => exact ⟨0, was, by omega, by omega, rfl, rfl, by omega, rfl, HD.out.1, HD.out.2.2⟩
  case round =>
    obtain ⟨i, now, hi12, hil1, rfl, rfl, hnow, HR⟩ := hrel
    by_cases hil : i < len1
    · by_cases hi : i < 12
      · obtain ⟨o, ho⟩ : ∃ o, l[i]? = some o := ⟨_, List.getElem?_eq_getElem (by rw [← HN.out]; exact hil)⟩
        obtain ⟨b, off, rfl, hbw, hrange⟩ := H1.out i o ho
        have hok := HOK.out o (List.mem_of_getElem? ho)
        have hbel := HR.out.2.2
        have HRG := hide (show wr.rangeAt b (off + i * 3) (Dk.edCells o) from fun j v hv => by rw [hbel.cell (p := ⟨b, off + i * 3 + j, none⟩) hbw]; exact hrange j v hv)
        have HBLW := hide hbw
        have HBL := hide (show b < wr.heap.size from Nat.lt_of_lt_of_le hbw hbel.size)
        have HST := hide (show Dk.editAll (l.take (i + 1)) was = Dk.editF now o by
          rw [List.take_add_one, ho]
          show Dk.editAll (l.take i ++ [o]) was = _
          rw [Dk.editAll_snoc, ← HR.out.1])
        obtain ⟨at_, data, cut⟩ := o
        have hat := hok.at_
        have hda := hok.data
        dsimp only at hat hda
        obtain ⟨z, hz2, hz⟩ : ∃ z : Nat, z ≤ now.size ∧ Dk.bent at_ now.size = z := by
          have := Dk.bent_range (n := at_) (m := (now.size : Int)) (by omega)
          exact ⟨(Dk.bent at_ now.size).toNat, by omega, by omega⟩
        have HZ := hide (And.intro hz2 hz)
        have HWF := hide (And.intro hat hda)
        have c0 : wr.cell? ⟨b, off + i * 3, none⟩ = some (.int .i64 at_) := by have := HRG.out 0 _ rfl; simpa using this
        have c2 : wr.cell? ⟨b, off + i * 3 + 2, none⟩ = some (.bool cut) := HRG.out 2 _ rfl
        have HM := hide (show now.size ≤ 6300 by omega)
        have HI := hide (show i < 12 from hi)
        clear ho hbw hrange hok hbel hz hz2 hat hda
        go_wp2_with fail
        refine (size_val D _ Dk.fN (now.size : Int) wr HR.out.2.1 (by decide) (Dk.one_size now was i)).mono ?_
        rintro e wx ⟨rfl, he⟩
        subst he
        have hm0 : (now.size : Int) ≤ 1048576 := by have := HM.out; omega
        cases cut with
        | true =>
          go_wp2_with fail
          refine (bent_val at_ (now.size : Int) (z : Int) wx HWF.out.1 (by have := HM.out; omega) HZ.out.2).mono ?_
          rintro e wy ⟨rfl, he⟩
          subst he
          go_wp2_with fail
          refine (cut_val D _ _ Dk.fN (z : Int) 0 wy HR.out.2.1 (by decide) (Dk.wf_i64 (by have := HZ.out.1; have := HM.out; omega) (by have := HZ.out.1; have := HM.out; omega)) rfl (by show i < _; omega) (by show 1 < _; decide) (Dk.one_cut now was i z HZ.out.1)).mono ?_
          rintro e wz ⟨rfl, hd, hmv⟩
          have HQ := hide (And.intro hd (HR.out.2.2.trans ((hmv.below (B := w.heap.size) HR.out.2.2.size (fun k hk => by rcases hk with h | h; exact h ▸ HG.out.1; exact h ▸ HG.out.2)))))
          clear hd hmv
          go_wp2_with fail
          go_roundg (12 - (i + 1))
          case measure => omega
          case rel =>
            have he : Dk.editF now ⟨at_, data, true⟩ = now.extract 0 z := by unfold Dk.editF; rw [if_pos rfl]; dsimp only; rw [HZ.out.2, Int.toNat_natCast]
            have hs := Dk.editF_size now ⟨at_, data, true⟩
            rw [he] at hs
            exact ⟨i + 1, now.extract 0 z, by omega, by omega, rfl, by go_num, by omega, by rw [HST.out, he], HQ.out.1, HQ.out.2⟩
        | false =>
          obtain ⟨s0, hs0⟩ : ∃ s, s = Dk.oneSt now was i := ⟨_, rfl⟩
          obtain ⟨dt, hdt⟩ : ∃ d, d = Dk.short data 400 := ⟨_, rfl⟩
          obtain ⟨s2, hs2⟩ : ∃ s, s = Dk.oneSt (Dk.over now z dt) was (i + 1) := ⟨_, rfl⟩
          have HDR := hide (show DiskAt wx D s0 by rw [hs0]; exact HR.out.2.1)
          have hds : dt.size ≤ 400 := by rw [hdt]; exact Dk.short_size _ _
          have HW := hide (show Dk.writeC s0 Dk.fN z dt = (0, s2) by rw [hs0, hs2]; exact Dk.one_write now was dt i z HZ.out.1 (by omega) hds)
          have HDT := hide (show Dk.short data 400 = dt ∧ dt.size ≤ 400 from ⟨hdt.symm, hds⟩)
          have HS2 := hide hs2
          have HS0 := hide (show s0.left = 0 ∧ s0.acts < 4611686018427387904 ∧ s0.files.length < 1099511627776 from by rw [hs0]; exact ⟨rfl, by show i < _; omega, by show 1 < _; decide⟩)
          clear hs0 hdt hs2 hds
          go_upto_region 12 with (fail)
-- REGION edwr
          obtain ⟨nn, hnn⟩ : ∃ n, n = now.size := ⟨_, rfl⟩
          have HNN := hide hnn
          rw [← hnn]
          have HZN := hide (show (-9223372036854775808 ≤ (nn : Int) ∧ (nn : Int) < 9223372036854775807) ∧ Dk.bent at_ (nn : Int) = z ∧ (Lit.int .i64 (z : Int)).wf = true from by have h1 := HM.out; have h2 := HZ.out; rw [hnn]; exact ⟨⟨by omega, by omega⟩, h2.2, Dk.wf_i64 (by omega) (by omega)⟩)
          have HBL2 := hide (show b < wx.heap.size ∧ ¬ (Dk.own D b) from ⟨HBL.out, fun h => by rcases h with h | h <;> exact absurd HBLW.out (by have := HG.out; omega)⟩)
          have HCE := hide (show wx.cell? ⟨b, off + i * 3, none⟩ = some (.int .i64 at_) ∧ wx.cell? ⟨b, off + i * 3 + 1, none⟩ = some (.string data) from ⟨c0, HRG.out 1 _ rfl⟩)
          clear hnn c0 c2
          refine wp_region_local (by kernel_rfl) (by kernel_rfl) (useList edwrU) [14] (by kernel_rfl) (spR (edwrL D s2 data dt at_ b off len1 cap1 i nn z)) (onePre 14 (fun u => DiskAt u D s0)) (Moved (Dk.own D) wx) (oneE 14 (fun _ _ => True)) (one_stays (by simp [edwrL]) (by kernel_rfl)) (one_pre (fun _ _ h hb => h.past hb)) (one_refl (fun _ => trivial)) (dsts_lt (N := 70) (by kernel_rfl)) ((Moved.refl _ _).drew) (fun _ _ => one_start (HDR.out.past ((Below.refl _ _).drew))) (all_ops ?_) ?_
          · refine And.intro ?_ ?_
            · -- 0: slot 54 := Op.move (Operand.tmp 5)
              refine lstep_run fun fr wf left => ?_
              have o5 := (left.old 5 (by kernel_rfl)).trans rfl
              refine ⟨wanted_none rfl, fun K hK => ?_⟩
              have hB := hide left.base
              clear left
              go_simp
              exact hK _ _ rfl hB.out (one_refl (fun _ => trivial) _ _)
            refine And.intro ?_ ?_
            · -- 1: slot 55 := Op.move (Operand.tmp 1)
              refine lstep_run fun fr wf left => ?_
              have o1 := (left.old 1 (by kernel_rfl)).trans rfl
              refine ⟨wanted_none rfl, fun K hK => ?_⟩
              have hB := hide left.base
              clear left
              go_simp
              exact hK _ _ rfl hB.out (one_refl (fun _ => trivial) _ _)
            refine And.intro ?_ ?_
            · -- 2: slot 56 := Op.move (Operand.tmp 7)
              refine lstep_run fun fr wf left => ?_
              have o7 := (left.old 7 (by kernel_rfl)).trans rfl
              refine ⟨wanted_none rfl, fun K hK => ?_⟩
              have hB := hide left.base
              clear left
              go_simp
              exact hK _ _ rfl hB.out (one_refl (fun _ => trivial) _ _)
            refine And.intro ?_ ?_
            · -- 3: slot 57 := Op.indexAddr 49 (Operand.tmp 55) (Operand.tmp 56)
              refine lstep_run fun fr wf left => ?_
              obtain ⟨x1, e1, r1⟩ := left.slot 70 rfl 1 55 _ rfl rfl (by decide) rfl
              have s1 := Eq.symm (show x1 = .slice (some ⟨b, off, none⟩) len1 cap1 from r1)
              subst s1
              obtain ⟨x2, e2, r2⟩ := left.slot 70 rfl 2 56 _ rfl rfl (by decide) rfl
              have s2 := Eq.symm (show x2 = .int .i64 (i : Int) from r2)
              subst s2
              refine ⟨wanted_none rfl, fun K hK => ?_⟩
              have hB := hide left.base
              clear left
              go_simp
              exact hK _ _ rfl hB.out (one_refl (fun _ => trivial) _ _)
            refine And.intro ?_ ?_
            · -- 4: slot 58 := Op.fieldAddr 88 (Operand.tmp 57) 0
              refine lstep_run fun fr wf left => ?_
              obtain ⟨x3, e3, r3⟩ := left.slot 70 rfl 3 57 _ rfl rfl (by decide) rfl
              have s3 := Eq.symm (show x3 = .pointer (some ⟨b, off + i * 3, none⟩) from r3)
              subst s3
              refine ⟨wanted_none rfl, fun K hK => ?_⟩
              have hB := hide left.base
              clear left
              go_simp
              exact hK _ _ rfl hB.out (one_refl (fun _ => trivial) _ _)
            refine And.intro ?_ ?_
            · -- 5: slot 59 := Op.load 3 (Operand.tmp 58)
              refine lstep_run fun fr wf left => ?_
              obtain ⟨x4, e4, r4⟩ := left.slot 70 rfl 4 58 _ rfl rfl (by decide) rfl
              have s4 := Eq.symm (show x4 = .pointer (some ⟨b, off + i * 3, none⟩) from r4)
              subst s4
              refine ⟨wanted_none rfl, fun K hK => ?_⟩
              have hB := hide left.base
              have hc := (hB.out.cell (a := ⟨b, off + i * 3, none⟩) HBL2.out.1 HBL2.out.2).trans (HCE.out.1)
              clear left
              go_simp
              exact hK _ _ rfl hB.out (one_refl (fun _ => trivial) _ _)
            refine And.intro ?_ ?_
            · -- 6: slot 60 := Op.move (Operand.tmp 8)
              refine lstep_run fun fr wf left => ?_
              have o8 := (left.old 8 (by kernel_rfl)).trans rfl
              refine ⟨wanted_none rfl, fun K hK => ?_⟩
              have hB := hide left.base
              clear left
              go_simp
              exact hK _ _ rfl hB.out (one_refl (fun _ => trivial) _ _)
            refine And.intro ?_ ?_
            · -- 7: slot 61 := Op.call { callee := Callee.value (Operand.func 11), args := #[Operand.tmp 59, Operand.tmp 
              refine lstep_run fun fr wf left => ?_
              obtain ⟨x5, e5, r5⟩ := left.slot 70 rfl 5 59 _ rfl rfl (by decide) rfl
              have s5 := Eq.symm (show x5 = .int .i64 at_ from r5)
              subst s5
              obtain ⟨x6, e6, r6⟩ := left.slot 70 rfl 6 60 _ rfl rfl (by decide) rfl
              have s6 := Eq.symm (show x6 = .int .i64 (nn : Int) from r6)
              subst s6
              refine ⟨wanted_none rfl, fun K hK => ?_⟩
              have hB := hide left.base
              clear left
              go_simp
              refine (bent_val at_ (nn : Int) (z : Int) _ HWF.out.1 HZN.out.1 HZN.out.2.1).mono ?_
              rintro e w' ⟨rfl, rfl⟩
              exact hK _ _ rfl hB.out (one_refl (fun _ => trivial) _ _)
            refine And.intro ?_ ?_
            · -- 8: slot 62 := Op.move (Operand.tmp 1)
              refine lstep_run fun fr wf left => ?_
              have o1 := (left.old 1 (by kernel_rfl)).trans rfl
              refine ⟨wanted_none rfl, fun K hK => ?_⟩
              have hB := hide left.base
              clear left
              go_simp
              exact hK _ _ rfl hB.out (one_refl (fun _ => trivial) _ _)
            refine And.intro ?_ ?_
            · -- 9: slot 63 := Op.move (Operand.tmp 7)
              refine lstep_run fun fr wf left => ?_
              have o7 := (left.old 7 (by kernel_rfl)).trans rfl
              refine ⟨wanted_none rfl, fun K hK => ?_⟩
              have hB := hide left.base
              clear left
              go_simp
              exact hK _ _ rfl hB.out (one_refl (fun _ => trivial) _ _)
            refine And.intro ?_ ?_
            · -- 10: slot 64 := Op.indexAddr 49 (Operand.tmp 62) (Operand.tmp 63)
              refine lstep_run fun fr wf left => ?_
              obtain ⟨x8, e8, r8⟩ := left.slot 70 rfl 8 62 _ rfl rfl (by decide) rfl
              have s8 := Eq.symm (show x8 = .slice (some ⟨b, off, none⟩) len1 cap1 from r8)
              subst s8
              obtain ⟨x9, e9, r9⟩ := left.slot 70 rfl 9 63 _ rfl rfl (by decide) rfl
              have s9 := Eq.symm (show x9 = .int .i64 (i : Int) from r9)
              subst s9
              refine ⟨wanted_none rfl, fun K hK => ?_⟩
              have hB := hide left.base
              clear left
              go_simp
              exact hK _ _ rfl hB.out (one_refl (fun _ => trivial) _ _)
            refine And.intro ?_ ?_
            · -- 11: slot 65 := Op.fieldAddr 88 (Operand.tmp 64) 1
              refine lstep_run fun fr wf left => ?_
              obtain ⟨x10, e10, r10⟩ := left.slot 70 rfl 10 64 _ rfl rfl (by decide) rfl
              have s10 := Eq.symm (show x10 = .pointer (some ⟨b, off + i * 3, none⟩) from r10)
              subst s10
              refine ⟨wanted_none rfl, fun K hK => ?_⟩
              have hB := hide left.base
              clear left
              go_simp
              exact hK _ _ rfl hB.out (one_refl (fun _ => trivial) _ _)
            refine And.intro ?_ ?_
            · -- 12: slot 66 := Op.load 9 (Operand.tmp 65)
              refine lstep_run fun fr wf left => ?_
              obtain ⟨x11, e11, r11⟩ := left.slot 70 rfl 11 65 _ rfl rfl (by decide) rfl
              have s11 := Eq.symm (show x11 = .pointer (some ⟨b, off + i * 3 + 1, none⟩) from r11)
              subst s11
              refine ⟨wanted_none rfl, fun K hK => ?_⟩
              have hB := hide left.base
              have hc := (hB.out.cell (a := ⟨b, off + i * 3 + 1, none⟩) HBL2.out.1 HBL2.out.2).trans (HCE.out.2)
              clear left
              go_simp
              exact hK _ _ rfl hB.out (one_refl (fun _ => trivial) _ _)
            refine And.intro ?_ ?_
            · -- 13: slot 67 := Op.call { callee := Callee.value (Operand.func 13), args := #[Operand.tmp 66, Operand.cons
              refine lstep_run fun fr wf left => ?_
              obtain ⟨x12, e12, r12⟩ := left.slot 70 rfl 12 66 _ rfl rfl (by decide) rfl
              have s12 := Eq.symm (show x12 = .string data from r12)
              subst s12
              refine ⟨wanted_none rfl, fun K hK => ?_⟩
              have hB := hide left.base
              clear left
              go_simp
              refine (short_val data 400 dt _ HWF.out.2 (by decide) HDT.out.1).mono ?_
              rintro e w' ⟨rfl, rfl⟩
              exact hK _ _ rfl hB.out (one_refl (fun _ => trivial) _ _)
            refine And.intro ?_ ?_
            · -- 14: slot 68 := Op.call { callee := Callee.value (Operand.func 14), args := #[Operand.tmp 54, Operand.cons
              refine lstep_run fun fr wf left => ?_
              obtain ⟨x0, e0, r0⟩ := left.slot 70 rfl 0 54 _ rfl rfl (by decide) rfl
              have s0 := Eq.symm (show x0 = .pointer (some ⟨D.g, 0, none⟩) from r0)
              subst s0
              obtain ⟨x7, e7, r7⟩ := left.slot 70 rfl 7 61 _ rfl rfl (by decide) rfl
              have s7 := Eq.symm (show x7 = .int .i64 (z : Int) from r7)
              subst s7
              obtain ⟨x13, e13, r13⟩ := left.slot 70 rfl 13 67 _ rfl rfl (by decide) rfl
              have s13 := Eq.symm (show x13 = .string dt from r13)
              subst s13
              refine ⟨wanted_none rfl, fun K hK => ?_⟩
              have hB := hide left.base; have hP := hide (one_pre_at left.pre rfl)
              clear left
              go_simp
              refine (write_val D s0 s2 Dk.fN (z : Int) dt 0 _ hP.out (by decide) (Nat.le_trans HDT.out.2 (by decide)) HZN.out.2.2 HS0.out.1 HS0.out.2.1 HS0.out.2.2 HW.out).mono ?_
              rintro e w' ⟨rfl, hd, hm⟩
              exact hK _ _ ⟨rfl, hd⟩ (hB.out.then hm) (one_at rfl)
            exact trivial
          · intro fr wf hB hs hd hall hkeep
            have h68 : fr.tmps.getD 68 undef = .int .i64 0 ∧ DiskAt wf D s2 := hall 14 _ rfl (by simp)
            have hfr := act_ext (frame_set hs hkeep [54, 55, 56, 57, 58, 59, 60, 61, 62, 63, 64, 65, 66, 67, 68] (by kernel_rfl)) hd
            obtain ⟨q54, hq54⟩ : ∃ q, q = fr.tmps.getD 54 undef := ⟨_, rfl⟩
            obtain ⟨q55, hq55⟩ : ∃ q, q = fr.tmps.getD 55 undef := ⟨_, rfl⟩
            obtain ⟨q56, hq56⟩ : ∃ q, q = fr.tmps.getD 56 undef := ⟨_, rfl⟩
            obtain ⟨q57, hq57⟩ : ∃ q, q = fr.tmps.getD 57 undef := ⟨_, rfl⟩
            obtain ⟨q58, hq58⟩ : ∃ q, q = fr.tmps.getD 58 undef := ⟨_, rfl⟩
            obtain ⟨q59, hq59⟩ : ∃ q, q = fr.tmps.getD 59 undef := ⟨_, rfl⟩
            obtain ⟨q60, hq60⟩ : ∃ q, q = fr.tmps.getD 60 undef := ⟨_, rfl⟩
            obtain ⟨q61, hq61⟩ : ∃ q, q = fr.tmps.getD 61 undef := ⟨_, rfl⟩
            obtain ⟨q62, hq62⟩ : ∃ q, q = fr.tmps.getD 62 undef := ⟨_, rfl⟩
            obtain ⟨q63, hq63⟩ : ∃ q, q = fr.tmps.getD 63 undef := ⟨_, rfl⟩
            obtain ⟨q64, hq64⟩ : ∃ q, q = fr.tmps.getD 64 undef := ⟨_, rfl⟩
            obtain ⟨q65, hq65⟩ : ∃ q, q = fr.tmps.getD 65 undef := ⟨_, rfl⟩
            obtain ⟨q66, hq66⟩ : ∃ q, q = fr.tmps.getD 66 undef := ⟨_, rfl⟩
            obtain ⟨q67, hq67⟩ : ∃ q, q = fr.tmps.getD 67 undef := ⟨_, rfl⟩
            obtain ⟨q68, hq68⟩ : ∃ q, q = fr.tmps.getD 68 undef := ⟨_, rfl⟩
            rw [← hq68] at h68
            simp only [List.foldl, ← hq54, ← hq55, ← hq56, ← hq57, ← hq58, ← hq59, ← hq60, ← hq61, ← hq62, ← hq63, ← hq64, ← hq65, ← hq66, ← hq67, ← hq68] at hfr
            simp only [List.setIfInBounds_toArray, List.set_cons_zero, List.set_cons_succ] at hfr
            clear hall hkeep hs hd hq54 hq55 hq56 hq57 hq58 hq59 hq60 hq61 hq62 hq63 hq64 hq65 hq66 hq67 hq68
            subst hfr
            have HBF := hide (And.intro hB h68.2)
            clear hB h68
            go_wp2_with fail
            go_roundg (12 - (i + 1))
            case measure => omega
            case rel =>
              have he : Dk.editF now ⟨at_, data, false⟩ = Dk.over now z dt := by unfold Dk.editF; rw [if_neg (by simp)]; dsimp only; rw [HZ.out.2, Int.toNat_natCast, HDT.out.1]
              have hs := Dk.editF_size now ⟨at_, data, false⟩
              rw [he] at hs
              refine ⟨i + 1, Dk.over now z dt, by omega, by omega, rfl, by go_num, by omega, by rw [HST.out, he], by rw [← HS2.out]; exact HBF.out.2, HR.out.2.2.trans (HBF.out.1.below (B := w.heap.size) HR.out.2.2.size (fun k hk => by rcases hk with h | h; exact h ▸ HG.out.1; exact h ▸ HG.out.2))⟩
          -- END REGION edwr
      · have hii : decide ((i : Int) < 12) = false := decide_eq_false (by omega)
        have hi2 : ¬ (i : Int) < 12 := by omega
        have he : i = 12 := by omega
        have HE := hide he
        clear he
        go_wp2_with fail
        go_ret
        have hr := HR.out
        rw [HE.out] at hr
        exact ⟨D, 12, rfl, Nat.le_refl _, by rw [← hr.1]; exact hr.2.1, by rw [← hr.1]; omega, HG.out.1, HG.out.2, HD.out.2.1, hr.2.2⟩
    · have hii : ¬ (i : Int) < (len1 : Int) := by omega
      have he : l.take i = l.take 12 := by
        have : l.length ≤ i := by rw [← HN.out]; omega
        rw [List.take_of_length_le this, List.take_of_length_le (by omega)]
      have HE := hide he
      clear he
      go_wp2_with fail
      go_ret
      have hr := HR.out
      rw [HE.out] at hr
      exact ⟨D, i, rfl, hi12, by rw [← hr.1]; exact hr.2.1, by rw [← hr.1]; omega, HG.out.1, HG.out.2, HD.out.2.1, hr.2.2⟩
end Go.Proofs.Ytiiblpgiafbaoaa
