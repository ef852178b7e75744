/-
  record.sealed, whole, Payload, ReadPayload: the walks.
-/
import Derived.Test.YtbfbajfdlkgloaaGreatDoorG13
import Derived.Laws.Strings2

namespace Go.Proofs.YtbfbajfdlkgloaaGreatDoor
open Go.RowKit
namespace Rec
def wholeB (s : ByteArray) : Bool := (sealB (s.extract 0 (s.size - 4))).toList == s.toList
def payB (item : ByteArray) : ByteArray := if 1048576 < item.size then ⟨#[]⟩ else sealB (numB item.size 4 ++ item)
/-- What is read of a payload's record: the item and how long the record is. -/
def readPayB (s : ByteArray) : Option (ByteArray × Nat) :=
  if s.size < 4 then none
  else if 1048576 < small (bytesOf (s.extract 0 4)) ∨ s.size < small (bytesOf (s.extract 0 4)) + 8 then none
  else if wholeB (s.extract 0 (small (bytesOf (s.extract 0 4)) + 8)) then some (s.extract 4 (small (bytesOf (s.extract 0 4)) + 4), small (bytesOf (s.extract 0 4)) + 8) else none
def payV : Option (ByteArray × Nat) → Value
  | none => .tuple #[.string ⟨#[]⟩, .int .i64 0, .int .i64 180]
  | some (x, n) => .tuple #[.string x, .int .i64 n, .int .i64 0]
end Rec
theorem of_one (v : Value) (s : ByteArray) (w : World) (hv : SlV w v [.string s]) (hs : s.size ≤ 9223372036854775807) :
    Calls Tryz.prog 101 #[v] w fun e w' => e = .returned (.int .u32 (Rec.sumB s : Int)) ∧ Below w.heap.size w w' :=
  of_any v [s] w hv (by simp) (by intro p hp; rw [List.mem_singleton.1 hp]; exact hs)
theorem below_new {w w1 : World} (h : Below w.heap.size w w1) {w2 : World} (o : Obj) (h2 : Below (w1.alloc o).heap.size (w1.alloc o) w2) : Below w.heap.size w w2 :=
  (h.alloc h.size o).trans (h2.mono (by simp; have := h.size; omega))
theorem below_bytes {w w1 : World} (h : Below w.heap.size w w1) {w2 : World} (o : Obj) (h2 : Below (w1.alloc o).drew.heap.size (w1.alloc o).drew w2) : Below w.heap.size w w2 :=
  (h.alloc h.size o).drew.trans (h2.mono (by show w.heap.size ≤ (w1.alloc o).heap.size; simp; have := h.size; omega))
theorem below_next {w w1 w2 : World} (h : Below w.heap.size w w1) (h2 : Below w1.heap.size w1 w2) : Below w.heap.size w w2 := h.trans (h2.mono h.size)
set_option maxHeartbeats 1600000 in
set_option maxRecDepth 100000 in
theorem sealed_any (s : ByteArray) (w : World) (hs : s.size ≤ 4611686018427387904) :
    Calls Tryz.prog 99 #[.string s] w fun e w' => e = .returned (.string (Rec.sealB s)) ∧ Below w.heap.size w w' := by
  obtain ⟨n, hn⟩ : ∃ n, n = Rec.sumB s := ⟨_, rfl⟩
  have hlt : n < 4294967296 := hn ▸ Rec.sumB_lt s
  have HN := hide hn
  clear hn
  obtain ⟨m, hm⟩ : ∃ m, m = Rec.numB n 4 := ⟨_, rfl⟩
  have hms : m.size = 4 := by rw [hm, Rec.numB_size]
  have HM := hide hm
  clear hm
  have hsum : s.size + m.size ≤ 9223372036854775807 := by omega
  go_enter Tryz.func99, Tryz.ntmps99
  go_wp2_with fail
  refine (of_one _ s _ (slv_new _ _ _ _ rfl) (by omega)).mono ?_
  rw [← HN.out]
  rintro e w1 ⟨rfl, hb1⟩
  have HB1 := hide (below_new (Below.refl _ w) _ hb1)
  clear hb1
  go_wp2_with fail
  refine (number_any n 4 _ (by omega) (by omega)).mono ?_
  rw [← HM.out]
  rintro e w2 ⟨rfl, hb2⟩
  have HB2 := hide (below_next HB1.out hb2)
  clear hb2
  go_wp2
  go_ret
  refine ⟨?_, HB2.out⟩
  rw [HM.out, HN.out]; rfl
set_option maxHeartbeats 1600000 in
set_option maxRecDepth 100000 in
theorem whole_any (s : ByteArray) (w : World) (hs : s.size ≤ 4611686018427387904) (h4 : 4 ≤ s.size) :
    Calls Tryz.prog 114 #[.string s] w fun e w' => e = .returned (.bool (Rec.wholeB s)) ∧ Below w.heap.size w w' := by
  have q0 : (0 : Int) ≤ (s.size : Int) - 4 := by omega
  have q1 : ((s.size : Int) - 4).toNat = s.size - 4 := by omega
  go_enter Tryz.func114, Tryz.ntmps114
  go_wp2_with fail
  refine (sealed_any _ _ (by rw [ByteArray.size_extract]; omega)).mono ?_
  rintro e w1 ⟨rfl, hb1⟩
  obtain ⟨m, hm⟩ : ∃ m, m = Rec.sealB (s.extract 0 (s.size - 4)) := ⟨_, rfl⟩
  rw [← hm]
  have HM := hide hm
  clear hm
  have HB1 := hide hb1
  clear hb1
  go_wp2
  go_ret
  refine ⟨?_, HB1.out⟩
  rw [HM.out]; rfl
set_option maxHeartbeats 1600000 in
set_option maxRecDepth 100000 in
theorem payload_any (s : ByteArray) (w : World) (hs : s.size ≤ 140737488351232) :
    Calls Tryz.prog 59 #[.string s] w fun e w' => e = .returned (.string (Rec.payB s)) ∧ Below w.heap.size w w' := by
  obtain ⟨m, hm⟩ : ∃ m, m = Rec.numB s.size 4 := ⟨_, rfl⟩
  have hms : m.size = 4 := by rw [hm, Rec.numB_size]
  have HM := hide hm
  clear hm
  have hsum : m.size + s.size ≤ 9223372036854775807 := by omega
  have hsum2 : (m ++ s).size ≤ 4611686018427387904 := by rw [ByteArray.size_append]; omega
  have HS := hide hsum2
  clear hsum2
  go_enter Tryz.func59, Tryz.ntmps59
  go_wp2_with fail
  · have h1 := (by assumption : 1048576 < (s.size : Int))
    go_ret
    refine ⟨?_, Below.refl _ _⟩
    unfold Rec.payB
    rw [if_pos (by omega)]
    rfl
  · have h1 := (by assumption : (s.size : Int) ≤ 1048576)
    refine (number_any s.size 4 _ (by omega) (by omega)).mono ?_
    rw [← HM.out]
    rintro e w1 ⟨rfl, hb1⟩
    have HB1 := hide hb1
    clear hb1
    go_wp2_with fail
    refine (sealed_any (m ++ s) _ HS.out).mono ?_
    rintro e w2 ⟨rfl, hb2⟩
    have HB2 := hide (below_next HB1.out hb2)
    clear hb2
    go_wp2_with fail
    go_ret
    refine ⟨?_, HB2.out⟩
    unfold Rec.payB
    rw [if_neg (by omega), ← HM.out]; rfl
set_option maxHeartbeats 1600000 in
set_option maxRecDepth 100000 in
theorem readPayload_any (s : ByteArray) (w : World) (hs : s.size ≤ 4611686018427387904) :
    Calls Tryz.prog 75 #[.string s] w fun e w' => e = .returned (Rec.payV (Rec.readPayB s)) ∧ Below w.heap.size w w' := by
  have hcv := fun w s => run_bytes_of_string (P := Tryz.prog) w 9 46 5 s Tryz.underlying9 Tryz.underlying46 Tryz.underlying5
  obtain ⟨r, hr⟩ : ∃ r, r = Rec.readPayB s := ⟨_, rfl⟩
  rw [← hr]
  have HR := hide hr
  clear hr
  go_enter Tryz.func75, Tryz.ntmps75
  by_cases h4 : s.size < 4
  · go_wp2_with fail
    go_ret3
    refine ⟨?_, Below.refl _ _⟩
    rw [HR.out]; unfold Rec.readPayB; rw [if_pos h4]; rfl
  · obtain ⟨k, hk⟩ : ∃ k, k = Rec.small (bytesOf (s.extract 0 4)) := ⟨_, rfl⟩
    have hklt : k < 4294967296 := by
      rw [hk]
      have h1 := Rec.small_lt (bytesOf (s.extract 0 4))
      have h2 : (bytesOf (s.extract 0 4)).length = 4 := by show (s.extract 0 4).data.toList.length = 4; simp; omega
      rw [h2] at h1
      exact h1
    have HK := hide hk
    clear hk
    have h4' : 4 ≤ s.size := by omega
    have hes : (s.extract 0 4).size = 4 := by rw [ByteArray.size_extract]; omega
    have HSL := hide (show ∀ cap : Nat, SlV ((w.alloc (Obj.cells (bytesRow (s.extract 0 4) cap) 5 ((bytesRow (s.extract 0 4) cap).size, (bytesRow (s.extract 0 4) cap).size + 1))).drew) (.slice (some ⟨w.heap.size, 0, none⟩) 4 4) ((bytesOf (s.extract 0 4)).map byteV) from fun cap =>
      Arr.slv (arr_bytes w (s.extract 0 4) cap 5) (by simp [bytesOf]; omega) (Nat.le_refl _))
    have HBL := hide (show (bytesOf (s.extract 0 4)).length ≤ 8 by simp [bytesOf]; omega)
    go_wp2_with fail
    · refine (value_any _ _ _ (HSL.out _) HBL.out).mono ?_
      rw [← HK.out]
      rintro e w1 ⟨rfl, hb1⟩
      have HB1 := hide (show Below w.heap.size w w1 from below_bytes (Below.refl _ w) _ hb1)
      clear hb1 hcv
      go_wp2_with fail
      · have h1 := (by assumption : 1048576 < (k : Int) ∨ (s.size : Int) < k + 8)
        go_ret3
        refine ⟨?_, HB1.out⟩
        rw [HR.out]; unfold Rec.readPayB
        rw [if_neg h4, ← HK.out, if_pos (by omega)]; rfl
      · have h1 := (by assumption : (k : Int) ≤ 1048576 ∧ (k : Int) + 8 ≤ s.size)
        refine (whole_any _ _ (by rw [ByteArray.size_extract]; omega) (by rw [ByteArray.size_extract]; omega)).mono ?_
        rintro e w2 ⟨rfl, hb2⟩
        have HB2 := hide (below_next HB1.out hb2)
        clear hb2
        obtain ⟨b, hb⟩ : ∃ b, b = Rec.wholeB (s.extract 0 (k + 8)) := ⟨_, rfl⟩
        rw [← hb]
        have HW := hide hb
        clear hb
        have hn4 : (k : Int) + 8 - 4 = (k : Int) + 4 := by omega
        have hsl := fun w => run_slice_string (P := Tryz.prog) w 9 s .i64 .i64 4 ((k : Int) + 4) Tryz.underlying9 (by omega) (by omega) (by omega)
        cases b with
        | false =>
          go_wp2_with fail
          go_ret3
          refine ⟨?_, HB2.out⟩
          rw [HR.out]; unfold Rec.readPayB
          rw [if_neg h4, ← HK.out, if_neg (by omega), ← HW.out]; rfl
        | true =>
          go_wp2_with fail
          go_ret3
          refine ⟨?_, HB2.out⟩
          rw [HR.out]; unfold Rec.readPayB
          rw [if_neg h4, ← HK.out, if_neg (by omega), ← HW.out]; rfl
      · have h1 := (by assumption : 1048576 < (k : Int))
        go_ret3
        refine ⟨?_, HB1.out⟩
        rw [HR.out]; unfold Rec.readPayB
        rw [if_neg h4, ← HK.out, if_pos (by omega)]; rfl
    · have := grownCap_ge w 4 0 5
      omega
end Go.Proofs.YtbfbajfdlkgloaaGreatDoor
