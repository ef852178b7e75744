/-
  The program's disk: a sector of a text, with zero bytes for what lacks.
-/
import Derived.Test.YtiiblpgiafbaoaaDiskFiles
import Derived.Test.YtiiblpgiafbaoaaMem
namespace Go.Proofs.Ytiiblpgiafbaoaa
open Go Go.RowKit Go.Maps
theorem dk_u8 : (Try.prog.info? 5).map (fun i => (i.zero, i.size, i.bytes)) = some (some (.int .u8 0), 1, 1) := by kernel_rfl
namespace Dk
def zeros (n : Nat) : ByteArray := ⟨(List.replicate n (0 : UInt8)).toArray⟩
theorem zeros_size (n : Nat) : (zeros n).size = n := by show (List.replicate n (0 : UInt8)).toArray.size = n; simp
def part (s : ByteArray) (k e : Nat) : ByteArray := s.extract (k * 64) (min (min ((k + 1) * 64) e) s.size)
def sector (s : ByteArray) (k e : Nat) : ByteArray := part s k e ++ zeros (min ((k + 1) * 64) e - k * 64 - (part s k e).size)
end Dk
set_option maxHeartbeats 1600000 in
set_option maxRecDepth 100000 in
theorem sector_any (s : ByteArray) (k e : Nat) (w : World) (hs : s.size ≤ 268435456) (he : e ≤ 268435456) (hk : k * 64 < e) :
    Calls Try.prog 43 #[.string s, .int .i64 (k : Int), .int .i64 (e : Int)] w fun r w' => r = .returned (.string (Dk.sector s k e)) ∧ Below w.heap.size w w' := by
  go_enter Try.func43, Try.ntmps43
  obtain ⟨tt, hto⟩ : ∃ t, t = min ((k + 1) * 64) e := ⟨_, rfl⟩
  have htoi : min (((k : Int) + 1) * 64) (e : Int) = (tt : Int) := by omega
  obtain ⟨lo, hlo⟩ : ∃ t, t = k * 64 := ⟨_, rfl⟩
  have hloi : (k : Int) * 64 = (lo : Int) := by omega
  have hlt : lo < tt := by omega
  have htt : tt ≤ 268435456 := by omega
  obtain ⟨m, hm⟩ : ∃ m, m = min tt s.size := ⟨_, rfl⟩
  have hmi : min (tt : Int) (s.size : Int) = (m : Int) := by omega
  obtain ⟨P, hP⟩ : ∃ P, P = s.extract lo m := ⟨_, rfl⟩
  have hPs : P.size ≤ tt - lo := by rw [hP, ByteArray.size_extract]; omega
  have hPP : Dk.part s k e = P := by unfold Dk.part; rw [hP, hm, hto, hlo]
  obtain ⟨z, hz⟩ : ∃ z, z = tt - lo - P.size := ⟨_, rfl⟩
  have hzi : (tt : Int) - (lo : Int) - (P.size : Int) = (z : Int) := by omega
  have HR := hide (show Dk.sector s k e = P ++ Dk.zeros z by unfold Dk.sector; rw [hPP, hz, hto, hlo])
  have hz47 : z ≤ 268435456 := by omega
  have HPX := hide hP
  have HMI := hide (And.intro hmi hzi)
  have HLT := hide (And.intro hlt (And.intro htt (And.intro hm (And.intro hPs (And.intro hz hz47)))))
  clear hmi hzi hlt htt hm hPs hz hz47 hPP hP hto hlo
  go_upto_region 3 with (fail)
  clear htoi hloi hk he
  obtain ⟨hlt, htt, hm, hPs, hz, hz47⟩ := HLT.out
  obtain ⟨hmi, hzi⟩ := HMI.out
  have hml : lo < s.size → lo ≤ m := fun h => by omega
  have hms : m ≤ s.size := by omega
  have hP0 : ¬ lo < s.size → P = ⟨#[]⟩ := fun h => by
    have h1 : P.size = 0 := by rw [HPX.out, ByteArray.size_extract]; omega
    exact ByteArray.size_eq_zero_iff.1 h1
  have hz2 : z ≤ tt := by omega
  clear hm hz
  obtain ⟨g, hg⟩ : ∃ g : Bool, g = decide (lo < s.size) := ⟨_, rfl⟩
  have HG := hide hg
  clear hg
  go_cut [20] from 17 to 21 (fun v20 wx => wx = w ∧ v20 = .bool g)
  case first =>
    go_wp2_with fail
    go_meet
    case rel => exact ⟨rfl, by rw [HG.out]⟩
  obtain ⟨rfl, rfl⟩ := hcut
  go_upto_if 20 with (fail)
  go_cut [9] from 21 to 28 (fun v9 wx => wx = wc ∧ v9 = .string P)
  case first =>
    cases g with
    | true =>
      have h0 := of_decide_eq_true HG.out.symm
      have hlm := hml h0
      have hsl := fun u => run_slice_string (P := Try.prog) u 9 s .i64 .i64 (lo : Int) (m : Int) Try.underlying9 (by omega) (by omega) (by omega)
      go_wp2_with fail
      go_meet
      case rel => exact ⟨rfl, by rw [HPX.out]⟩
    | false =>
      have hPe : P = ⟨#[]⟩ := hP0 (of_decide_eq_false HG.out.symm)
      subst hPe
      go_wp2_with fail
      go_meet
      case rel => exact ⟨rfl, rfl⟩
  case rest =>
    obtain ⟨rfl, rfl⟩ := hcut
    have hsum : P.size + z ≤ 9223372036854775807 := by omega
    clear hml hP0 hmi HPX HMI HLT
    go_wp2_with (at_make; refine wpList_make_arr rfl _ _ 56 rfl 5 _ 1 Try.underlying56 dk_u8 rfl .i64 .i64 _ _ z rfl rfl ?_ ?_ ?_ ?_ ?_)
    · omega
    · omega
    · omega
    · unfold maxLen; omega
    · intro w1 HA hb1
      have HB := hide hb1
      clear hb1
      have hs2 := HA.out.slv (n := z) (cap := z) (by simp) (Nat.le_refl _)
      rw [show List.replicate z (Value.int .u8 0) = (List.replicate z (0 : UInt8)).map byteV by rw [List.map_replicate]; rfl] at hs2
      have hcs := run_bytes_string (P := Try.prog) (w := w1) 56 9 5 Try.underlying56 Try.underlying5 Try.underlying9 hs2
      go_wp2_with fail
      go_ret
      refine ⟨?_, HB.out⟩
      rw [HR.out]
      unfold Dk.zeros
      rw [List.toArray_replicate]
      rfl
end Go.Proofs.Ytiiblpgiafbaoaa
