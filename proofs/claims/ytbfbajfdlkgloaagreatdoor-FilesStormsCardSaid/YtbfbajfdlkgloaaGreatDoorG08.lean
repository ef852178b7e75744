/-
  The program's disk: what stays of one file: After's function value.
-/
import Derived.Test.YtbfbajfdlkgloaaGreatDoorG07
import Derived.Lib.AppendStr

namespace Go.Proofs.YtbfbajfdlkgloaaGreatDoor
open Go Go.RowKit Go.Maps
namespace Dk
/-- The first k sectors of what stays, and how many choices have been taken. -/
def secs (keep : List Bool) (f : F) (e c : Nat) : Nat → ByteArray × Nat
  | 0 => (⟨#[]⟩, c)
  | k + 1 =>
    if sector f.now k e = sector f.was k e then ((secs keep f e c k).1 ++ sector f.was k e, (secs keep f e c k).2)
    else ((secs keep f e c k).1 ++ (if (choose keep (secs keep f e c k).2).1 = true then sector f.now k e else sector f.was k e), (choose keep (secs keep f e c k).2).2)
def firstQ (keep : List Bool) (f : F) (c : Nat) : Bool × Nat := if f.was.size = f.now.size then (true, c) else choose keep c
def stayLen (keep : List Bool) (f : F) (c : Nat) : Nat := if (firstQ keep f c).1 = true then f.now.size else f.was.size
def endLen (f : F) : Nat := max f.now.size f.was.size
def afterF (keep : List Bool) (f : F) (c : Nat) : ByteArray × Nat :=
  ((secs keep f (endLen f) (firstQ keep f c).2 ((endLen f + 63) / 64)).1.extract 0 (stayLen keep f c), (secs keep f (endLen f) (firstQ keep f c).2 ((endLen f + 63) / 64)).2)
def nextQ (keep : List Bool) (is wa : ByteArray) (c : Nat) : Bool × Nat := if is = wa then (false, c) else choose keep c
theorem secs_succ (keep : List Bool) (f : F) (e c k : Nat) :
    secs keep f e c (k + 1) = ((secs keep f e c k).1 ++ (if (nextQ keep (sector f.now k e) (sector f.was k e) (secs keep f e c k).2).1 = true then sector f.now k e else sector f.was k e), (nextQ keep (sector f.now k e) (sector f.was k e) (secs keep f e c k).2).2) := by
  rw [secs]
  unfold nextQ
  split
  · simp
  · rfl
theorem choose_le (keep : List Bool) (c : Nat) : (choose keep c).2 ≤ c + 1 := by
  unfold choose; split
  · exact Nat.le_succ _
  · exact Nat.le_refl _
theorem secs_le (keep : List Bool) (f : F) (e c : Nat) : ∀ k, (secs keep f e c k).2 ≤ c + k
  | 0 => Nat.le_refl _
  | k + 1 => by
    have ih := secs_le keep f e c k
    unfold secs
    split
    · exact Nat.le_trans ih (Nat.le_succ _)
    · have := choose_le keep (secs keep f e c k).2
      show (choose keep _).2 ≤ _
      omega
theorem sector_size (s : ByteArray) (k e : Nat) (hk : k * 64 < e) : (sector s k e).size = min ((k + 1) * 64) e - k * 64 := by
  unfold sector
  rw [ByteArray.size_append, zeros_size]
  have : (part s k e).size ≤ min ((k + 1) * 64) e - k * 64 := by unfold part; rw [ByteArray.size_extract]; omega
  omega
theorem secs_size (keep : List Bool) (f : F) (e c : Nat) : ∀ k, (k = 0 ∨ (k - 1) * 64 < e) → (secs keep f e c k).1.size = min (k * 64) e
  | 0, _ => by simp [secs]; rfl
  | k + 1, h => by
    have hk : k * 64 < e := by rcases h with h | h; cases h; simpa using h
    have ih := secs_size keep f e c k (by omega)
    have h1 := sector_size f.now k e hk
    have h2 := sector_size f.was k e hk
    unfold secs
    split
    · rw [ByteArray.size_append, ih, h2]; omega
    · show ((secs keep f e c k).1 ++ _).size = _
      rw [ByteArray.size_append, ih]
      split
      · rw [h1]; omega
      · rw [h2]; omega
theorem firstQ_le (keep : List Bool) (f : F) (c : Nat) : (firstQ keep f c).2 ≤ c + 1 := by
  unfold firstQ; split
  · exact Nat.le_succ _
  · exact choose_le keep c
theorem stayLen_le (keep : List Bool) (f : F) (c : Nat) : stayLen keep f c ≤ endLen f := by
  unfold stayLen endLen; split <;> omega
end Dk
/-- The choosing function's blocks: the list of choices, the count, the function. -/
structure ChAt (w : World) (b3 b5 b6 : Nat) (kv : Value) (keep : List Bool) (c : Nat) : Prop where
  h3 : w.heap[b3]? = some (.cells #[kv] 71 (0, 0))
  h5 : w.heap[b5]? = some (.cells #[.int .i64 (c : Int)] 3 (0, 0))
  h6 : w.heap[b6]? = some (.cells #[.func (.func 50) #[] #[.pointer (some ⟨b3, 0, none⟩), .pointer (some ⟨b5, 0, none⟩)]] 23 (0, 0))
  kv : SlV w kv (keep.map Value.bool)
structure ChOk (b3 b5 b6 : Nat) (kv : Value) (keep : List Bool) : Prop where
  n3 : b3 ≠ b5
  n6 : b6 ≠ b5
  nk : Dk.slBlk kv ≠ some b5
  len : keep.length ≤ 140737488351232
theorem ChAt.past {w w' : World} {b3 b5 b6 : Nat} {kv : Value} {keep : List Bool} {c : Nat} (h : ChAt w b3 b5 b6 kv keep c) (hb : Below w.heap.size w w') : ChAt w' b3 b5 b6 kv keep c :=
  ⟨(hb.block _ (heap_lt h.h3)).trans h.h3, (hb.block _ (heap_lt h.h5)).trans h.h5, (hb.block _ (heap_lt h.h6)).trans h.h6, h.kv.below hb⟩
theorem ChAt.chosen {w w' : World} {b3 b5 b6 : Nat} {kv : Value} {keep : List Bool} {c c' : Nat} (h : ChAt w b3 b5 b6 kv keep c) (hk : ChOk b3 b5 b6 kv keep) (hm : Moved (fun k => k = b5) w w') (h5 : w'.heap[b5]? = some (.cells #[.int .i64 (c' : Int)] 3 (0, 0))) : ChAt w' b3 b5 b6 kv keep c' :=
  ⟨(hm.block _ (heap_lt h.h3) hk.n3).trans h.h3, h5, (hm.block _ (heap_lt h.h6) hk.n6).trans h.h6, h.kv.stay hm.size fun k hk1 hlt => hm.block k hlt (fun e => hk.nk (by rw [hk1, e]))⟩
theorem SlV.keepB {w0 w w' : World} {v : Value} {xs : List Value} {B : Nat} (h0 : SlV w0 v xs) (hB : w0.heap.size ≤ B) (h : SlV w v xs) (hb : Below B w w') : SlV w' v xs :=
  h.stay hb.size fun k hk _ => hb.block k (Nat.lt_of_lt_of_le (h0.blk_lt hk) hB)
theorem ChAt.keepB {w0 w w' : World} {b3 b5 b6 : Nat} {kv : Value} {keep : List Bool} {c0 c B : Nat} (h0 : ChAt w0 b3 b5 b6 kv keep c0) (hB : w0.heap.size ≤ B) (h : ChAt w b3 b5 b6 kv keep c) (hb : Below B w w') : ChAt w' b3 b5 b6 kv keep c :=
  ⟨(hb.block _ (Nat.lt_of_lt_of_le (heap_lt h0.h3) hB)).trans h.h3, (hb.block _ (Nat.lt_of_lt_of_le (heap_lt h0.h5) hB)).trans h.h5, (hb.block _ (Nat.lt_of_lt_of_le (heap_lt h0.h6) hB)).trans h.h6, SlV.keepB h0.kv hB h.kv hb⟩
/-- The choosing, at its blocks. -/
theorem choose_at (b3 b5 b6 : Nat) (kv : Value) (keep : List Bool) (c : Nat) (q : Bool × Nat) (w : World) (h : ChAt w b3 b5 b6 kv keep c) (hk : ChOk b3 b5 b6 kv keep) (hc : c ≤ 9223372036854775806) (hq : q = Dk.choose keep c) :
    Calls Tryz.prog 50 #[.pointer (some ⟨b3, 0, none⟩), .pointer (some ⟨b5, 0, none⟩)] w fun e w' => e = .returned (.bool q.1) ∧ ChAt w' b3 b5 b6 kv keep q.2 ∧ Moved (fun k => k = b5) w w' := by
  rw [hq]
  refine (choose_any b3 b5 kv keep c w h.h3 h.h5 h.kv hk.nk hk.n3 hc hk.len).mono ?_
  rintro e w' ⟨he, h5, hm⟩
  exact ⟨he, h.chosen hk hm h5, hm⟩
theorem sector_val (s : ByteArray) (k e : Nat) (x : ByteArray) (w : World) (hs : s.size ≤ 268435456) (he : e ≤ 268435456) (hk : k * 64 < e) (hx : x = Dk.sector s k e) :
    Calls Tryz.prog 52 #[.string s, .int .i64 (k : Int), .int .i64 (e : Int)] w fun r w' => r = .returned (.string x) ∧ Below w.heap.size w w' := by
  rw [hx]; exact sector_any s k e w hs he hk
theorem enters_after : Enters Tryz.prog 51 := enters_of Tryz.func51 (by kernel_rfl) rfl
theorem take_extract (s : ByteArray) (n : Nat) : (⟨((bytesOf s).take n).toArray⟩ : ByteArray) = s.extract 0 n := by
  have h : (s.extract 0 n).data.toList = (bytesOf s).take n := by
    unfold bytesOf
    rw [ByteArray.data_extract, Array.toList_extract]
    simp
  rw [← h]
def aftL (f : Dk.F) (IS WA : ByteArray) (B e k : Nat) : List Sp :=
  [.is (.pointer (some ⟨B, 0, none⟩)), .is (.string f.now), .is (.int .i64 (k : Int)), .is (.int .i64 (e : Int)), .is (.string IS), .is (.pointer (some ⟨B, 1, none⟩)), .is (.string f.was), .is (.int .i64 (k : Int)), .is (.int .i64 (e : Int)), .is (.string WA), .is (.string IS), .is (.string WA)]
def aftU : List (List Nat) := [[], [0], [], [], [1, 2, 3], [], [5], [], [], [6, 7, 8], [4], [9]]
set_option maxHeartbeats 1600000 in
set_option maxRecDepth 100000 in
theorem afterFn_any (f : Dk.F) (b3 b5 b6 : Nat) (kv : Value) (keep : List Bool) (c : Nat) (w : World) (h : ChAt w b3 b5 b6 kv keep c) (hk : ChOk b3 b5 b6 kv keep) (hc : c ≤ 9223372036850000000) (hf : f.now.size ≤ 268435456 ∧ f.was.size ≤ 268435456) :
    Calls Tryz.prog 51 (#[Dk.valF f] ++ #[.pointer (some ⟨b6, 0, none⟩)]) w fun e w' => e = .returned (.string (Dk.afterF keep f c).1) ∧ ChAt w' b3 b5 b6 kv keep (Dk.afterF keep f c).2 ∧ Moved (fun k => k = b5) w w' := by
  show Calls Tryz.prog 51 #[.agg #[.string f.now, .string f.was], .pointer (some ⟨b6, 0, none⟩)] w _
  obtain ⟨ans, hans⟩ : ∃ r, r = Dk.afterF keep f c := ⟨_, rfl⟩
  rw [← hans]
  obtain ⟨q, hq⟩ : ∃ q, q = Dk.firstQ keep f c := ⟨_, rfl⟩
  obtain ⟨sz, hsz⟩ : ∃ n, n = Dk.stayLen keep f c := ⟨_, rfl⟩
  obtain ⟨e, he⟩ : ∃ n, n = Dk.endLen f := ⟨_, rfl⟩
  have HANS := hide (show ans = ((Dk.secs keep f e q.2 ((e + 63) / 64)).1.extract 0 sz, (Dk.secs keep f e q.2 ((e + 63) / 64)).2) by rw [hans, hq, hsz, he]; rfl)
  have HQ := hide hq
  have HSZ := hide (show sz ≤ e ∧ sz = if q.1 = true then f.now.size else f.was.size from ⟨by rw [hsz, he]; exact Dk.stayLen_le keep f c, by rw [hsz, hq]; rfl⟩)
  have HE := hide (show e = max f.now.size f.was.size from he)
  have HK := hide hk
  have HC := hide hc
  have hq1 : q.2 ≤ c + 1 := by rw [hq]; exact Dk.firstQ_le keep f c
  have HQ1 := hide hq1
  obtain ⟨W1, hW1⟩ : ∃ V, V = w.alloc (.cells #[.string f.now, .string f.was] 96) := ⟨_, rfl⟩
  have hb1 : Below w.heap.size w W1 := by rw [hW1]; exact (Below.refl _ _).alloc (Nat.le_refl _) _
  have HCH := hide (h.past hb1)
  have HB1 := hide hb1
  have H2 := hide (show W1.heap[w.heap.size]? = some (.cells #[.string f.now, .string f.was] 96 (0, 0)) by rw [hW1]; exact alloc_at _ _)
  have c20 : W1.cell? ⟨w.heap.size, 0, none⟩ = some (.string f.now) := (cell_blk H2.out 0).trans rfl
  have c21 : W1.cell? ⟨w.heap.size, 1, none⟩ = some (.string f.was) := (cell_blk H2.out 1).trans rfl
  have c6 : W1.cell? ⟨b6, 0, none⟩ = some (.func (.func 50) #[] #[.pointer (some ⟨b3, 0, none⟩), .pointer (some ⟨b5, 0, none⟩)]) := (cell_blk HCH.out.h6 0).trans rfl
  have H56 := hide (show b5 < w.heap.size ∧ b6 < w.heap.size from ⟨heap_lt h.h5, heap_lt h.h6⟩)
  have hfn := hf.1
  have hfw := hf.2
  clear h hk hans hq hsz he hc hq1 hb1 hf
  go_enter Tryz.func51, Tryz.ntmps51
  go_upto_region 1 with (fail)
  rw [← hW1]
  clear hW1
  go_upto_region 2 with (fail)
  obtain ⟨B, hB⟩ : ∃ B, B = w.heap.size := ⟨_, rfl⟩
  rw [← hB] at c20 c21 H2
  rw [← hB]
  have HBB := hide (show w.heap.size ≤ B ∧ B ≠ b5 from ⟨by omega, by have := H56.out.1; omega⟩)
  clear hB
  go_cut [22] from 13 to 23 (fun v22 wx => Hid (v22 = .bool (!q.1) ∧ ChAt wx b3 b5 b6 kv keep q.2 ∧ Moved (fun k => k = b5) W1 wx))
  case first =>
    by_cases hsame : f.was.size = f.now.size
    · have hq : q = (true, c) := by rw [HQ.out]; unfold Dk.firstQ; rw [if_pos hsame]
      subst hq
      have hi : ((f.was.size : Int) == (f.now.size : Int)) = true := by rw [beq_iff_eq]; omega
      have hi2 : ((f.was.size : Int) != (f.now.size : Int)) = false := by unfold bne; rw [hi]; rfl
      go_wp2_with fail
      go_meet
      case rel => exact ⟨rfl, HCH.out, Moved.refl _ _⟩
    · have hq : q = Dk.choose keep c := by rw [HQ.out]; unfold Dk.firstQ; rw [if_neg hsame]
      have HQ2 := hide hq
      have hi : ((f.was.size : Int) == (f.now.size : Int)) = false := by rw [beq_eq_false_iff_ne]; omega
      have hi2 : ((f.was.size : Int) != (f.now.size : Int)) = true := by unfold bne; rw [hi]; rfl
      have hent := enters_choose
      clear hq hsame
      go_wp2_with fail
      refine (choose_at b3 b5 b6 kv keep c q _ HCH.out HK.out (by have := HC.out; omega) HQ2.out).mono ?_
      rintro e w2 ⟨rfl, hch2, hm2⟩
      have H22 := hide (And.intro hch2 hm2)
      clear hch2 hm2
      go_wp2_with fail
      go_meet
      case rel => exact ⟨rfl, H22.out.1, H22.out.2⟩
  obtain ⟨rfl, hch2, hm2⟩ := hcut.out
  have HCH2 := hide hch2
  have HM2 := hide hm2
  have H2c := hide ((hm2.block B (heap_lt H2.out) HBB.out.2).trans H2.out)
  have d20 : wc.cell? ⟨B, 0, none⟩ = some (.string f.now) := (cell_blk H2c.out 0).trans rfl
  have d21 : wc.cell? ⟨B, 1, none⟩ = some (.string f.was) := (cell_blk H2c.out 1).trans rfl
  clear hch2 hm2 hcut c20 c21 c6
  obtain ⟨nb, hnb⟩ : ∃ b : Bool, b = !q.1 := ⟨_, rfl⟩
  rw [← hnb]
  have HNB := hide hnb
  clear hnb
  go_upto_if 22 with (fail)
  go_cut [4] from 23 to 26 (fun v4 wx => wx = wc ∧ v4 = .int .i64 (sz : Int))
  case first =>
    cases nb with
    | true =>
      have hs : sz = f.was.size := by
        have h := HNB.out
        have hq : q.1 = false := by revert h; cases q.1 <;> simp
        rw [HSZ.out.2, hq]; rfl
      go_wp2_with fail
      go_meet
      case rel => exact ⟨rfl, by rw [hs]⟩
    | false =>
      have hs : sz = f.now.size := by
        have h := HNB.out
        have hq : q.1 = true := by revert h; cases q.1 <;> simp
        rw [HSZ.out.2, hq]; rfl
      go_wp2_with fail
      go_meet
      case rel => exact ⟨rfl, by rw [hs]⟩
  obtain ⟨rfl, rfl⟩ := hcut
  have hei : max (f.now.size : Int) (f.was.size : Int) = (e : Int) := by rw [HE.out]; omega
  have he2 : e ≤ 268435456 := by rw [HE.out]; omega
  obtain ⟨B3, hB3⟩ : ∃ B, B = wc.heap.size := ⟨_, rfl⟩
  have hB3' : B3 ≤ wc.heap.size := by omega
  have HB3 := hide (And.intro hB3 hB3')
  clear hB3 hB3'
  go_wp2_with fail
  clear hei d20 d21
  obtain ⟨N, hN⟩ : ∃ n, n = (e + 63) / 64 := ⟨_, rfl⟩
  have hN2 : N ≤ 4194305 := by omega
  have HN := hide hN
  clear hN
  go_loopg [6, 7] N (fun g v6 v7 wr => ∃ k : Nat, k ≤ N ∧ g = N - k ∧ v7 = .int .i64 k ∧ Hid (wr.ownsRow B3 5 1 v6 (Dk.secs keep f e q.2 k).1.size ((bytesOf (Dk.secs keep f e q.2 k).1).map byteV) ∧ ChAt wr b3 b5 b6 kv keep (Dk.secs keep f e q.2 k).2 ∧ Moved (fun k => k = b5) wc wr ∧ B3 ≤ wr.heap.size))
  case atStart => exact ⟨0, by omega, rfl, rfl, World.ownsRow_nil _ _ _ _, HCH2.out, Moved.refl _ _, HB3.out.2⟩
  case round =>
    obtain ⟨k, hk, rfl, rfl, HR⟩ := hrel
    by_cases hkN : k < N
    · have hke : k * 64 < e := by have := HN.out; omega
      have hkei : (k : Int) * 64 < (e : Int) := by omega
      obtain ⟨IS, hIS⟩ : ∃ x, x = Dk.sector f.now k e := ⟨_, rfl⟩
      obtain ⟨WA, hWA⟩ : ∃ x, x = Dk.sector f.was k e := ⟨_, rfl⟩
      have HIS := hide (And.intro hIS hWA)
      clear hIS hWA
      obtain ⟨q2, hq2⟩ : ∃ x, x = Dk.nextQ keep IS WA (Dk.secs keep f e q.2 k).2 := ⟨_, rfl⟩
      have HQ2 := hide hq2
      clear hq2
      have H2r := hide ((HR.out.2.2.1.block B (heap_lt H2c.out) HBB.out.2).trans H2c.out)
      go_upto_region 9 with (fail)
      go_cut [8, 9] from 39 to 49 (fun v8 v9 wx => Hid (v8 = .string IS ∧ v9 = .string WA ∧ Below wr.heap.size wr wx))
      case first =>
        
        refine wp_region_local (by kernel_rfl) (by kernel_rfl) (useList aftU) [10, 11] (by kernel_rfl) (spR (aftL f IS WA B e k)) (fun _ _ => True) (Below wr.heap.size wr) (fun _ w w' => Below w.heap.size w w') spR_stays (fun _ _ _ _ _ h _ => h) (fun _ _ => Below.refl _ _) (dsts_lt (N := 64) (by kernel_rfl)) ((Below.refl _ _).drew) (fun _ _ => trivial) (all_ops ?_) ?_
        · refine And.intro ?_ ?_
          · refine lstep_run fun fr wf left => ?_
            have o2 := (left.old 2 (by kernel_rfl)).trans rfl
            refine ⟨wanted_none rfl, fun K hK => ?_⟩
            have hB := hide left.base
            clear left
            go_simp
            exact hK _ _ rfl hB.out (Below.refl _ _)
          refine And.intro ?_ ?_
          · refine lstep_run fun fr wf left => ?_
            obtain ⟨x0, e0, r0⟩ := left.slot 64 rfl 0 39 _ rfl rfl (by decide) rfl
            have s0 := Eq.symm (show x0 = .pointer (some ⟨B, 0, none⟩) from r0)
            subst s0
            refine ⟨wanted_none rfl, fun K hK => ?_⟩
            have hB := hide left.base
            have hc := (cell_blk ((hB.out.block B (heap_lt H2r.out)).trans H2r.out) 0).trans rfl
            clear left
            go_simp
            exact hK _ _ rfl hB.out (Below.refl _ _)
          refine And.intro ?_ ?_
          · refine lstep_run fun fr wf left => ?_
            have o7 := (left.old 7 (by kernel_rfl)).trans rfl
            refine ⟨wanted_none rfl, fun K hK => ?_⟩
            have hB := hide left.base
            clear left
            go_simp
            exact hK _ _ rfl hB.out (Below.refl _ _)
          refine And.intro ?_ ?_
          · refine lstep_run fun fr wf left => ?_
            have o5 := (left.old 5 (by kernel_rfl)).trans rfl
            refine ⟨wanted_none rfl, fun K hK => ?_⟩
            have hB := hide left.base
            clear left
            go_simp
            exact hK _ _ rfl hB.out (Below.refl _ _)
          refine And.intro ?_ ?_
          · refine lstep_run fun fr wf left => ?_
            obtain ⟨x1, e1, r1⟩ := left.slot 64 rfl 1 40 _ rfl rfl (by decide) rfl
            have s1 := Eq.symm (show x1 = .string f.now from r1)
            subst s1
            obtain ⟨x2, e2, r2⟩ := left.slot 64 rfl 2 41 _ rfl rfl (by decide) rfl
            have s2 := Eq.symm (show x2 = .int .i64 (k : Int) from r2)
            subst s2
            obtain ⟨x3, e3, r3⟩ := left.slot 64 rfl 3 42 _ rfl rfl (by decide) rfl
            have s3 := Eq.symm (show x3 = .int .i64 (e : Int) from r3)
            subst s3
            refine ⟨wanted_none rfl, fun K hK => ?_⟩
            have hB := hide left.base
            clear left
            go_simp
            refine (sector_val f.now k e IS _ hfn he2 hke HIS.out.1).mono ?_
            rintro e w' ⟨rfl, hb⟩
            exact hK _ _ rfl (hB.out.trans (hb.mono (le_base hB.out))) hb
          refine And.intro ?_ ?_
          · refine lstep_run fun fr wf left => ?_
            have o2 := (left.old 2 (by kernel_rfl)).trans rfl
            refine ⟨wanted_none rfl, fun K hK => ?_⟩
            have hB := hide left.base
            clear left
            go_simp
            exact hK _ _ rfl hB.out (Below.refl _ _)
          refine And.intro ?_ ?_
          · refine lstep_run fun fr wf left => ?_
            obtain ⟨x5, e5, r5⟩ := left.slot 64 rfl 5 44 _ rfl rfl (by decide) rfl
            have s5 := Eq.symm (show x5 = .pointer (some ⟨B, 1, none⟩) from r5)
            subst s5
            refine ⟨wanted_none rfl, fun K hK => ?_⟩
            have hB := hide left.base
            have hc := (cell_blk ((hB.out.block B (heap_lt H2r.out)).trans H2r.out) 1).trans rfl
            clear left
            go_simp
            exact hK _ _ rfl hB.out (Below.refl _ _)
          refine And.intro ?_ ?_
          · refine lstep_run fun fr wf left => ?_
            have o7 := (left.old 7 (by kernel_rfl)).trans rfl
            refine ⟨wanted_none rfl, fun K hK => ?_⟩
            have hB := hide left.base
            clear left
            go_simp
            exact hK _ _ rfl hB.out (Below.refl _ _)
          refine And.intro ?_ ?_
          · refine lstep_run fun fr wf left => ?_
            have o5 := (left.old 5 (by kernel_rfl)).trans rfl
            refine ⟨wanted_none rfl, fun K hK => ?_⟩
            have hB := hide left.base
            clear left
            go_simp
            exact hK _ _ rfl hB.out (Below.refl _ _)
          refine And.intro ?_ ?_
          · refine lstep_run fun fr wf left => ?_
            obtain ⟨x6, e6, r6⟩ := left.slot 64 rfl 6 45 _ rfl rfl (by decide) rfl
            have s6 := Eq.symm (show x6 = .string f.was from r6)
            subst s6
            obtain ⟨x7, e7, r7⟩ := left.slot 64 rfl 7 46 _ rfl rfl (by decide) rfl
            have s7 := Eq.symm (show x7 = .int .i64 (k : Int) from r7)
            subst s7
            obtain ⟨x8, e8, r8⟩ := left.slot 64 rfl 8 47 _ rfl rfl (by decide) rfl
            have s8 := Eq.symm (show x8 = .int .i64 (e : Int) from r8)
            subst s8
            refine ⟨wanted_none rfl, fun K hK => ?_⟩
            have hB := hide left.base
            clear left
            go_simp
            refine (sector_val f.was k e WA _ hfw he2 hke HIS.out.2).mono ?_
            rintro e w' ⟨rfl, hb⟩
            exact hK _ _ rfl (hB.out.trans (hb.mono (le_base hB.out))) hb
          refine And.intro ?_ ?_
          · refine lstep_run fun fr wf left => ?_
            obtain ⟨x4, e4, r4⟩ := left.slot 64 rfl 4 43 _ rfl rfl (by decide) rfl
            have s4 := Eq.symm (show x4 = .string IS from r4)
            subst s4
            refine ⟨wanted_none rfl, fun K hK => ?_⟩
            have hB := hide left.base
            clear left
            go_simp
            exact hK _ _ rfl hB.out (Below.refl _ _)
          refine And.intro ?_ ?_
          · refine lstep_run fun fr wf left => ?_
            obtain ⟨x9, e9, r9⟩ := left.slot 64 rfl 9 48 _ rfl rfl (by decide) rfl
            have s9 := Eq.symm (show x9 = .string WA from r9)
            subst s9
            refine ⟨wanted_none rfl, fun K hK => ?_⟩
            have hB := hide left.base
            clear left
            go_simp
            exact hK _ _ rfl hB.out (Below.refl _ _)
          exact trivial
        · intro fr wf hB hs hd hall hkeep
          have h8 : fr.tmps.getD 8 undef = .string IS := hall 10 _ rfl (by simp)
          have h9 : fr.tmps.getD 9 undef = .string WA := hall 11 _ rfl (by simp)
          have hfr := act_ext (frame_set hs hkeep [39, 40, 41, 42, 43, 44, 45, 46, 47, 48, 8, 9] (by kernel_rfl)) hd
          obtain ⟨q39, hq39⟩ : ∃ q, q = fr.tmps.getD 39 undef := ⟨_, rfl⟩
          obtain ⟨q40, hq40⟩ : ∃ q, q = fr.tmps.getD 40 undef := ⟨_, rfl⟩
          obtain ⟨q41, hq41⟩ : ∃ q, q = fr.tmps.getD 41 undef := ⟨_, rfl⟩
          obtain ⟨q42, hq42⟩ : ∃ q, q = fr.tmps.getD 42 undef := ⟨_, rfl⟩
          obtain ⟨q43, hq43⟩ : ∃ q, q = fr.tmps.getD 43 undef := ⟨_, rfl⟩
          obtain ⟨q44, hq44⟩ : ∃ q, q = fr.tmps.getD 44 undef := ⟨_, rfl⟩
          obtain ⟨q45, hq45⟩ : ∃ q, q = fr.tmps.getD 45 undef := ⟨_, rfl⟩
          obtain ⟨q46, hq46⟩ : ∃ q, q = fr.tmps.getD 46 undef := ⟨_, rfl⟩
          obtain ⟨q47, hq47⟩ : ∃ q, q = fr.tmps.getD 47 undef := ⟨_, rfl⟩
          obtain ⟨q48, hq48⟩ : ∃ q, q = fr.tmps.getD 48 undef := ⟨_, rfl⟩
          obtain ⟨q8, hq8⟩ : ∃ q, q = fr.tmps.getD 8 undef := ⟨_, rfl⟩
          obtain ⟨q9, hq9⟩ : ∃ q, q = fr.tmps.getD 9 undef := ⟨_, rfl⟩
          rw [← hq8] at h8
          rw [← hq9] at h9
          simp only [List.foldl, ← hq39, ← hq40, ← hq41, ← hq42, ← hq43, ← hq44, ← hq45, ← hq46, ← hq47, ← hq48, ← hq8, ← hq9] at hfr
          simp only [List.setIfInBounds_toArray, List.set_cons_zero, List.set_cons_succ] at hfr
          clear hall hkeep hs hd hq39 hq40 hq41 hq42 hq43 hq44 hq45 hq46 hq47 hq48 hq8 hq9
          subst hfr
          subst h8
          subst h9
          have HBF := hide hB
          clear hB
          go_wp2_with fail
          go_meet
          case rel => exact ⟨rfl, rfl, HBF.out⟩
      obtain ⟨rfl, rfl, hb9⟩ := hcut.out
      have HB9 := hide hb9
      clear hb9 hcut
      have hck : (Dk.secs keep f e q.2 k).2 ≤ 9223372036854775806 := by
        have h1 := Dk.secs_le keep f e q.2 k
        have h2 := HQ1.out
        have h3 := HC.out
        omega
      have HCK := hide hck
      have HR9 := hide (show wc.ownsRow B3 5 1 u6 (Dk.secs keep f e q.2 k).1.size ((bytesOf (Dk.secs keep f e q.2 k).1).map byteV) ∧ ChAt wc b3 b5 b6 kv keep (Dk.secs keep f e q.2 k).2 ∧ Moved (fun k => k = b5) wr wc ∧ B3 ≤ wc.heap.size from
        ⟨own_below HR.out.1 HB9.out, HR.out.2.1.past HB9.out, Moved.of_below HB9.out, Nat.le_trans HR.out.2.2.2 HB9.out.size⟩)
      have e6 : wc.cell? ⟨b6, 0, none⟩ = some (.func (.func 50) #[] #[.pointer (some ⟨b3, 0, none⟩), .pointer (some ⟨b5, 0, none⟩)]) := (cell_blk HR9.out.2.1.h6 0).trans rfl
      clear hck
      go_upto_region 10 with (fail)
      go_cut [55] from 49 to 56 (fun v55 wx => Hid (v55 = .bool q2.1 ∧ ChAt wx b3 b5 b6 kv keep q2.2 ∧ Moved (fun k => k = b5) wc wx))
      case first =>
        by_cases hsame : IS = WA
        · have hq : q2 = (false, (Dk.secs keep f e q.2 k).2) := by rw [HQ2.out]; unfold Dk.nextQ; rw [if_pos hsame]
          have HQ3 := hide hq
          have hcmp : (IS.toList == WA.toList) = true := by rw [hsame]; simp
          clear hq hsame
          go_wp2_with fail
          go_meet
          case rel => exact ⟨by rw [HQ3.out], by rw [HQ3.out]; exact HR9.out.2.1, Moved.refl _ _⟩
        · have hq : q2 = Dk.choose keep (Dk.secs keep f e q.2 k).2 := by rw [HQ2.out]; unfold Dk.nextQ; rw [if_neg hsame]
          have HQ3 := hide hq
          have hcmp : (IS.toList == WA.toList) = false := by
            rw [Bool.eq_false_iff]
            intro h
            exact hsame ((Go.Lib.bytes_beq_iff IS WA).1 h)
          have hent := enters_choose
          clear hq hsame
          go_wp2_with fail
          refine (choose_at b3 b5 b6 kv keep _ q2 _ HR9.out.2.1 HK.out HCK.out HQ3.out).mono ?_
          rintro e w2 ⟨rfl, hch2, hm2⟩
          have H22 := hide (And.intro hch2 hm2)
          clear hch2 hm2
          go_wp2_with fail
          go_meet
          case rel => exact ⟨rfl, H22.out.1, H22.out.2⟩
      obtain ⟨rfl, hch, hm⟩ := hcut.out
      have H10 := hide (And.intro hch (HR9.out.2.2.1.then hm))
      have hown10 := own_moved HR9.out.1 hm (fun j hj _ hS => by have := HB3.out.1; have h2 := H56.out.1; have h3 := HM2.out.size; have h4 := HB1.out.size; subst hS; omega)
      have hsz10 : B3 ≤ wc.heap.size := Nat.le_trans HR9.out.2.2.2 hm.size
      have HO10 := hide (And.intro hown10 hsz10)
      clear hch hm hown10 hsz10 hcut e6
      obtain ⟨X, hX⟩ : ∃ X, X = if q2.1 = true then IS else WA := ⟨_, rfl⟩
      have HX := hide hX
      have hstep := Dk.secs_succ keep f e q.2 k
      rw [← HIS.out.1, ← HIS.out.2, ← HQ2.out, ← hX] at hstep
      have hXs : X.size ≤ 64 := by
        have h1 := Dk.sector_size f.now k e hke
        have h2 := Dk.sector_size f.was k e hke
        rw [← HIS.out.1] at h1
        rw [← HIS.out.2] at h2
        rw [hX]; split <;> omega
      have hAs : (Dk.secs keep f e q.2 k).1.size ≤ 268435456 := by
        rw [Dk.secs_size keep f e q.2 k (by omega)]; omega
      have HSTEP := hide hstep
      have HAS := hide (And.intro hAs hXs)
      clear hX hstep hXs hAs
      obtain ⟨g2, hg2⟩ : ∃ g : Bool, g = q2.1 := ⟨_, rfl⟩
      rw [← hg2]
      have HG2 := hide hg2
      clear hg2
      go_upto_if 55 with (fail)
      go_cut [9] from 56 to 57 (fun v9 wx => wx = wc ∧ v9 = .string X)
      case first =>
        cases g2 with
        | true =>
          have hs : X = IS := by rw [HX.out, ← HG2.out]; rfl
          have HS := hide hs
          clear hs
          go_wp2_with fail
          go_meet
          case rel => exact ⟨rfl, by rw [HS.out]⟩
        | false =>
          have hs : X = WA := by rw [HX.out, ← HG2.out]; rfl
          have HS := hide hs
          clear hs
          go_wp2_with fail
          go_meet
          case rel => exact ⟨rfl, by rw [HS.out]⟩
      obtain ⟨rfl, rfl⟩ := hcut
      obtain ⟨i0, hi0, hz0, hz1, hz2⟩ := info_parts dk_u8
      go_wp2_with (at_builtin; refine Go.Lib.wpList_append_own_string _ rfl _ _ 46 9 rfl B3 5 i0 Tryz.underlying46 Tryz.underlying9 hi0 hz0 hz1 hz2 u6 _ _ rfl HO10.out.1 X rfl ?_ ?_ ?_ ?_)
      · unfold maxLen; have := HAS.out.1; have := HAS.out.2; omega
      · have := HAS.out.1; have := HAS.out.2; omega
      · exact HO10.out.2
      · intro v7 w7 hown hgr _
        have hb7 : Below B3 wc w7 := below_grown ((Below.refl _ wc).mono HO10.out.2) HO10.out.1 hgr (Nat.le_refl _) HO10.out.2
        have hcb : B3 ≤ w7.heap.size := Nat.le_trans HO10.out.2 hb7.size
        have hch7 : ChAt w7 b3 b5 b6 kv keep q2.2 := ChAt.keepB HCH.out (by have := HB3.out.1; have := HM2.out.size; omega) H10.out.1 hb7
        have hown7 : w7.ownsRow B3 5 1 v7 (Dk.secs keep f e q.2 (k + 1)).1.size ((bytesOf (Dk.secs keep f e q.2 (k + 1)).1).map byteV) := by
          rw [HSTEP.out]
          show w7.ownsRow B3 5 1 v7 ((Dk.secs keep f e q.2 k).1 ++ X).size ((bytesOf ((Dk.secs keep f e q.2 k).1 ++ X)).map byteV)
          have e2 : (bytesOf ((Dk.secs keep f e q.2 k).1 ++ X)).map byteV = (bytesOf (Dk.secs keep f e q.2 k).1).map byteV ++ Go.Lib.strCells X := by
            unfold bytesOf Go.Lib.strCells
            rw [ByteArray.data_append, Array.toList_append, List.map_append]
            rfl
          rw [e2, ByteArray.size_append]; exact hown
        have hch8 : ChAt w7 b3 b5 b6 kv keep (Dk.secs keep f e q.2 (k + 1)).2 := by rw [HSTEP.out]; exact hch7
        have HM7 := hide ((HR.out.2.2.1.then H10.out.2).trans (Moved.of_belowB hb7) (fun j hj => .inr (by have := HB3.out.1; omega)))
        have HR7 := hide (And.intro hown7 (And.intro hch8 hcb))
        clear hown hgr hb7 hcb hch7 hown7 hch8
        go_wp2_with fail
        go_roundg (N - (k + 1))
        case measure => omega
        case rel => exact ⟨k + 1, by omega, rfl, by go_num, HR7.out.1, HR7.out.2.1, HM7.out, HR7.out.2.2⟩
    · have hk' : k = N := by omega
      have HKN := hide hk'
      clear hk' hkN
      have hke : ¬ (k : Int) * 64 < (e : Int) := by have := HN.out; have := HKN.out; omega
      have hacc : (Dk.secs keep f e q.2 k).1.size = e := by
        rw [Dk.secs_size keep f e q.2 k (by have := HN.out; have := HKN.out; omega)]
        have := HN.out; have := HKN.out; omega
      have hans : ans = ((Dk.secs keep f e q.2 k).1.extract 0 sz, (Dk.secs keep f e q.2 k).2) := by rw [HKN.out, HN.out]; exact HANS.out
      obtain ⟨acc, hac⟩ : ∃ a, a = (Dk.secs keep f e q.2 k).1 := ⟨_, rfl⟩
      rw [← hac] at hacc hans
      have hszl : sz ≤ e := HSZ.out.1
      have HA := hide hans
      have HF := hide (show ChAt wr b3 b5 b6 kv keep ans.2 ∧ Moved (fun j => j = b5) w wr from
        ⟨by rw [hans]; exact HR.out.2.1, (Moved.of_below HB1.out).then (HM2.out.then HR.out.2.2.1)⟩)
      have hown := HR.out.1
      rw [← hac] at hown
      have HTK := hide (take_extract acc sz)
      obtain ⟨hl, hcase⟩ := hown
      rcases hcase with ⟨hv, hn0⟩ | ⟨g, cap, cur, hv, hg, hh, hnc, hm, hcs, htk⟩
      · have he0 : e = 0 := by omega
        have hs0 : sz = 0 := by omega
        have hsl : SlV wr (.slice none 0 0) (([] : List UInt8).map byteV) := SlV.nil _
        have hcv := run_bytes_string (P := Tryz.prog) (w := wr) 46 9 5 Tryz.underlying46 Tryz.underlying5 Tryz.underlying9 hsl
        have hr0 : acc.extract 0 sz = ⟨#[]⟩ := by
          rw [← HTK.out, hs0]; simp
        have HR0 := hide hr0
        subst hv
        clear hac hans hl hn0 hacc he0 hszl hsl hr0
        subst hs0
        go_wp2_with fail
        go_ret
        exact ⟨by rw [HA.out, HR0.out]; rfl, HF.out⟩
      · have hsl : SlV wr (.slice (some ⟨g, 0, none⟩) sz cap) (((bytesOf acc).take sz).map byteV) := by
          have h0 : SlV wr u6 ((bytesOf acc).map byteV) := slv_of_owns ⟨hl, .inr ⟨g, cap, cur, hv, hg, hh, hnc, hm, hcs, htk⟩⟩
          rw [hv] at h0
          have h1 := h0.take sz (by rw [List.length_map]; show sz ≤ acc.data.toList.length; rw [Array.length_toList]; show sz ≤ acc.size; omega)
          rw [← List.map_take] at h1
          exact h1
        have hcv := run_bytes_string (P := Tryz.prog) (w := wr) 46 9 5 Tryz.underlying46 Tryz.underlying5 Tryz.underlying9 hsl
        rw [HTK.out] at hcv
        have hsc : sz ≤ cap := by omega
        subst hv
        clear hac hans hl hg hh hm hcs htk hsl
        go_wp2_with fail
        go_ret
        exact ⟨by rw [HA.out]; rfl, HF.out⟩
end Go.Proofs.YtbfbajfdlkgloaaGreatDoor
