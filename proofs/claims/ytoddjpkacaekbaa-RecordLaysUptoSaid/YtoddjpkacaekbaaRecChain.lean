/-
  The chain of package record and that of massifref18: the sum of the number ahead, the payload's record and the nodes' records.
-/
import Derived.Test.YtoddjpkacaekbaaRecFixed
import Derived.Deep.CutRange
namespace Go.Proofs.Ytoddjpkacaekbaa
open Go.RowKit
namespace Rec
theorem fold_app (x : BitVec 32) (a b : List UInt8) : Crc.fold x (a ++ b) = Crc.fold (Crc.fold x a) b := List.foldl_append
theorem more_app (c : BitVec 32) (a b : List UInt8) : Crc.more c (a ++ b) = Crc.more (Crc.more c a) b := by
  unfold Crc.more; rw [fold_app, BitVec.not_not]
def catB (s : ByteArray) (xs : List ByteArray) : ByteArray := xs.foldl (· ++ ·) s
def chainB (c : Nat) (item : ByteArray) (xs : List ByteArray) : Nat := sumB (catB (numB c 4 ++ item) xs)
def sizes (xs : List ByteArray) : Nat := (xs.map ByteArray.size).sum
theorem catB_take (s : ByteArray) (xs : List ByteArray) (j : Nat) (x : ByteArray) (hj : j < xs.length) (hx : x = xs.getD j ByteArray.empty) : catB s (xs.take (j + 1)) = catB s (xs.take j) ++ x := by
  have hq : x = xs[j] := by rw [hx]; simp [List.getD, hj]
  rw [List.take_succ_eq_append_getElem hj, ← hq]
  unfold catB
  rw [List.foldl_append]; rfl
theorem catB_size : ∀ (xs : List ByteArray) (s : ByteArray), (catB s xs).size = s.size + sizes xs
  | [], s => by simp [catB, sizes]
  | x :: xs, s => by
    have h := catB_size xs (s ++ x)
    unfold catB sizes at h ⊢
    rw [List.foldl_cons, h, ByteArray.size_append, List.map_cons, List.sum_cons]; omega
theorem sizes_take (xs : List ByteArray) (j : Nat) : sizes (xs.take j) ≤ sizes xs := by
  have h : sizes xs = sizes (xs.take j) + sizes (xs.drop j) := by
    unfold sizes
    rw [← List.sum_append, ← List.map_append, List.take_append_drop]
  omega
theorem size_le_sizes {xs : List ByteArray} {x : ByteArray} (h : x ∈ xs) : x.size ≤ sizes xs := by
  induction xs with
  | nil => cases h
  | cons y ys ih =>
    have e : sizes (y :: ys) = y.size + sizes ys := by simp [sizes]
    rw [e]
    rcases List.mem_cons.1 h with rfl | h
    · omega
    · have := ih h; omega
theorem sum_more (s x : ByteArray) (b : BitVec 32) (hb : b = Crc.more 0#32 s.data.toList) : Crc.more b x.data.toList = Crc.more 0#32 (s ++ x).data.toList := by
  rw [hb, ← more_app]; simp
end Rec
theorem more_sum (a x t : ByteArray) (n : Nat) (w : World) (ha : n = Rec.sumB a) (hs : x.size ≤ 9223372036854775807) (ht : t = a ++ x) :
    Calls Try.prog 32 #[.int .u32 (n : Int), .string x] w fun e w' => e = .returned (.int .u32 (Rec.sumB t : Int)) ∧ Below w.heap.size w w' := by
  subst ha; subst ht
  have h := more_any (Crc.more 0#32 a.data.toList) x w hs
  rw [Rec.sum_more a x _ rfl] at h
  exact h
theorem of_two (v : Value) (s x : ByteArray) (w : World) (hv : SlV w v [.string s, .string x]) (hs : s.size ≤ 9223372036854775807) (hx : x.size ≤ 9223372036854775807) :
    Calls Try.prog 31 #[v] w fun e w' => e = .returned (.int .u32 (Rec.sumB (s ++ x) : Int)) ∧ Below w.heap.size w w' := by
  have h := of_any v [s, x] w hv (by simp) (by intro p hp; rcases List.mem_cons.1 hp with rfl | hp; exact hs; rw [List.mem_singleton.1 hp]; exact hx)
  have e : Crc.ofParts 0#32 ([s, x].map bytesOf) = Crc.more 0#32 (s ++ x).data.toList := by
    rw [← Rec.sum_more s x _ rfl]; rfl
  rw [e] at h
  exact h
set_option maxHeartbeats 1600000 in
set_option maxRecDepth 100000 in
theorem chain_any (c : Nat) (item : ByteArray) (v : Value) (xs : List ByteArray) (w : World) (hc : c < 4294967296) (hi : item.size ≤ 140737488351232) (hv : SlV w v (xs.map Value.string)) (hn : xs.length ≤ 140737488351232) (hxs : Rec.sizes xs ≤ 140737488351232) :
    Calls Try.prog 21 #[.int .u32 (c : Int), .string item, v] w fun e w' => e = .returned (.int .u32 (Rec.chainB c item xs : Int)) ∧ Below w.heap.size w w' := by
  obtain ⟨len, a, cap, hlen, rfl, _, HC⟩ := hv.form
  rw [List.length_map] at hlen
  have HL := hide hlen
  have HV := hide hv
  have HCC := hide HC
  have HXS := hide hxs
  have hl : len ≤ 140737488351232 := by rw [hlen]; exact hn
  clear hv hlen HC hn hxs
  obtain ⟨m, hm⟩ : ∃ m, m = Rec.numB c 4 := ⟨_, rfl⟩
  have hms : m.size = 4 := by rw [hm, Rec.numB_size]
  have HM := hide hm
  clear hm
  obtain ⟨n0, hn0⟩ : ∃ n, n = Rec.sumB (m ++ item) := ⟨_, rfl⟩
  have HN0 := hide hn0
  clear hn0
  go_enter Try.func21, Try.ntmps21
  go_wp2_with fail
  refine (number_any c 4 _ (by omega) (by omega)).mono ?_
  rw [← HM.out]
  rintro e w1 ⟨rfl, hb1⟩
  have HB1 := hide (below_next (Below.refl _ w) hb1)
  clear hb1
  go_wp2_with fail
  refine (of_two _ m item _ (slv_new _ _ _ _ rfl) (by omega) (by omega)).mono ?_
  rw [← HN0.out]
  rintro e w2 ⟨rfl, hb2⟩
  have HB2 := hide (below_new HB1.out _ hb2)
  clear hb2
  go_wp2_with fail
  go_loopg [7, 18] len (fun g v7 v18 wr => ∃ (j n : Nat), j ≤ len ∧ g = len - j ∧ v18 = .int .i64 j ∧ v7 = .int .u32 (n : Int) ∧ Hid (n = Rec.sumB (Rec.catB (m ++ item) (xs.take j)) ∧ Below w.heap.size w wr))
  case atStart => exact ⟨0, n0, by omega, rfl, rfl, rfl, HN0.out, HB2.out⟩
  case round =>
    obtain ⟨j, n, hj, rfl, rfl, rfl, HR⟩ := hrel
    by_cases hlt : j < len
    · obtain ⟨b, off, rfl, hbw, hcell⟩ := HCC.out j hlt
      have hjl : j < xs.length := by rw [← HL.out]; exact hlt
      have hcell : wr.cell? ⟨b, off + j, none⟩ = some (.string (xs.getD j ByteArray.empty)) := by rw [HR.out.2.cell (p := ⟨b, off + j, none⟩) hbw, hcell, getD_map _ _ _ _ hjl]
      obtain ⟨s, hsk⟩ : ∃ s, s = xs.getD j ByteArray.empty := ⟨_, rfl⟩
      rw [← hsk] at hcell
      have hss : s.size ≤ 9223372036854775807 := by
        have h1 := Rec.size_le_sizes (x := s) (xs := xs) (by rw [hsk]; simp [List.getD, hjl])
        have := HXS.out
        omega
      have HS := hide (Rec.catB_take (m ++ item) xs j s hjl hsk)
      clear hsk hjl
      go_wp2_with fail
      refine (more_sum (Rec.catB (m ++ item) (xs.take j)) s _ n _ HR.out.1 hss HS.out).mono ?_
      rintro e w3 ⟨rfl, hb3⟩
      have HB3 := hide (below_next HR.out.2 hb3)
      clear hb3
      go_wp2_with fail
      go_roundg (len - (j + 1))
      case measure => omega
      case rel => exact ⟨j + 1, _, by omega, rfl, by go_num, rfl, rfl, HB3.out⟩
    · have hj' : j = len := by omega
      have HJ := hide hj'
      clear hj'
      go_wp2_with fail
      go_ret
      refine ⟨congrArg (fun k : Nat => Ending.returned (.int .u32 (k : Int))) ?_, HR.out.2⟩
      rw [HR.out.1, HJ.out, HL.out, List.take_length]
      unfold Rec.chainB
      rw [HM.out]
set_option maxHeartbeats 1600000 in
set_option maxRecDepth 100000 in
theorem refChain_any (c : Nat) (item : ByteArray) (v : Value) (xs : List ByteArray) (w : World) (hc : c < 4294967296) (hi : item.size ≤ 140737488351232) (hv : SlV w v (xs.map Value.string)) (hn : xs.length ≤ 140737488351232) (hxs : Rec.sizes xs ≤ 140737488351232) :
    Calls Try.prog 22 #[.int .u32 (c : Int), .string item, v] w fun e w' => e = .returned (.int .u32 (Rec.chainB c item xs : Int)) ∧ Below w.heap.size w w' := by
  obtain ⟨len, a, cap, hlen, rfl, _, HC⟩ := hv.form
  rw [List.length_map] at hlen
  have HL := hide hlen
  have HV := hide hv
  have HCC := hide HC
  have HXS := hide hxs
  have hl : len ≤ 140737488351232 := by rw [hlen]; exact hn
  clear hv hlen HC hn hxs
  obtain ⟨m, hm⟩ : ∃ m, m = Rec.numB c 4 := ⟨_, rfl⟩
  have hms : m.size = 4 := by rw [hm, Rec.numB_size]
  have HM := hide hm
  clear hm
  have hmi : m.size + item.size ≤ 9223372036854775807 := by omega
  go_enter Try.func22, Try.ntmps22
  go_wp2_with fail
  refine (big_any c 4 _ (by omega) (by omega)).mono ?_
  rw [← HM.out]
  rintro e w1 ⟨rfl, hb1⟩
  have HB1 := hide (below_next (Below.refl _ w) hb1)
  clear hb1
  go_wp2_with fail
  go_loopg [7, 8] len (fun g v7 v8 wr => ∃ (j : Nat) (s : ByteArray), j ≤ len ∧ g = len - j ∧ v8 = .int .i64 j ∧ v7 = .string s ∧ Hid (s = Rec.catB (m ++ item) (xs.take j) ∧ Below w.heap.size w wr))
  case atStart => exact ⟨0, m ++ item, by omega, rfl, rfl, rfl, rfl, HB1.out⟩
  case round =>
    obtain ⟨j, t, hj, rfl, rfl, rfl, HR⟩ := hrel
    have hts : t.size ≤ 281474976702472 := by
      rw [HR.out.1, Rec.catB_size, ByteArray.size_append]
      have := Rec.sizes_take xs j
      have := HXS.out
      omega
    by_cases hlt : j < len
    · obtain ⟨b, off, rfl, hbw, hcell⟩ := HCC.out j hlt
      have hjl : j < xs.length := by rw [← HL.out]; exact hlt
      have hcell : wr.cell? ⟨b, off + j, none⟩ = some (.string (xs.getD j ByteArray.empty)) := by rw [HR.out.2.cell (p := ⟨b, off + j, none⟩) hbw, hcell, getD_map _ _ _ _ hjl]
      obtain ⟨s, hsk⟩ : ∃ s, s = xs.getD j ByteArray.empty := ⟨_, rfl⟩
      rw [← hsk] at hcell
      have hss : t.size + s.size ≤ 9223372036854775807 := by
        have h1 := Rec.size_le_sizes (x := s) (xs := xs) (by rw [hsk]; simp [List.getD, hjl])
        have := HXS.out
        omega
      have HS := hide (Rec.catB_take (m ++ item) xs j s hjl hsk)
      clear hsk hjl
      go_wp2_with fail
      go_roundg (len - (j + 1))
      case measure => omega
      case rel => exact ⟨j + 1, _, by omega, rfl, by go_num, rfl, by rw [HR.out.1]; exact HS.out.symm, HR.out.2⟩
    · have hj' : j = len := by omega
      have HJ := hide hj'
      clear hj'
      go_wp2_with fail
      refine (refSum_any t _ (by omega)).mono ?_
      rintro e w3 ⟨rfl, rfl⟩
      go_wp2_with fail
      go_ret
      refine ⟨congrArg (fun k : Nat => Ending.returned (.int .u32 (k : Int))) ?_, HR.out.2⟩
      rw [HR.out.1, HJ.out, HL.out, List.take_length]
      unfold Rec.chainB
      rw [HM.out]
#print axioms chain_any
#print axioms refChain_any
end Go.Proofs.Ytoddjpkacaekbaa
