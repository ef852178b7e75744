/-
  The program's disk: used: the sum over the map, in whatever order.
-/
import Derived.Test.YtiiblpgiafbaoaaDiskNew
namespace Go.Proofs.Ytiiblpgiafbaoaa
open Go Go.RowKit Go.Maps
theorem wrap64_add (a b : Int) : wrap64 (wrap64 a + b) = wrap64 (a + b) := by unfold wrap64; omega
set_option maxHeartbeats 1600000 in
set_option maxRecDepth 100000 in
theorem diskUsed_any (D : Dk.Blk) (s : Dk.St) (w : World) (h : DiskAt w D s) :
    Calls Try.prog 34 #[.pointer (some ⟨D.g, 0, none⟩)] w fun e w' => e = .returned (.int .i64 (wrap64 (Dk.used s.files : Int))) ∧ Below w.heap.size w w' := by
  have h1 := h.c1
  have HD := hide h
  have hmap := h.map
  clear h
  go_enter Try.func34, Try.ntmps34
  go_wp2_with (first
    | (at_range; refine wpList_range_own _ rfl _ 77 rfl 9 81 strK Try.underlying77 Dk.R D.mb s.files.length _ rfl hmap ?_; intro w0 hrg0 hg0 hs0)
    | fail)
  go_frame
  have hb0 : Below w.heap.size w w0 := ⟨hg0.os, hg0.tape, hg0.output, hg0.size, fun k hk => hg0.block k hk (by simp)⟩
  have HR0 := hide hrg0
  have HB0 := hide hb0
  have huq := Dk.up_unique HD.out.ok.up
  have hstart : Dk.met (Maps.has (Dk.dat s.files)) s.files = 0 := Dk.met_start fun p hp => by
    show (s.files.map Dk.litF).any (fun q => q.1.sameKey (.string (Dk.key p.1))) = true
    rw [List.any_eq_true]
    exact ⟨Dk.litF p, List.mem_map_of_mem hp, by show (Dk.key p.1 == Dk.key p.1) = true; simp⟩
  have HS := hide hstart
  have HU := hide huq
  have HSZ := hide HD.out.ok.sizes
  clear hrg0 hb0 hg0 hmap huq hstart HD h1
  go_loopg [3] (Maps.size (Dk.dat s.files)) (fun g v3 wr => ∃ (left : Lit → Bool) (cnt : Nat) (acc : Int), g = cnt ∧ v3 = .int .i64 acc ∧ -9223372036854775808 ≤ acc ∧ acc ≤ 9223372036854775807 ∧ Hid (wr.ranges Try.prog 9 Dk.R D.mb w.heap.size s.files.length (Dk.dat s.files) left cnt ∧ acc = wrap64 (Dk.met left s.files : Int) ∧ Below w.heap.size w wr))
  case atStart => exact ⟨_, _, 0, rfl, rfl, by decide, by decide, HR0.out, by rw [HS.out]; unfold wrap64; decide, HB0.out⟩
  case round =>
    obtain ⟨left, cnt, acc, rfl, rfl, ha0, ha1, HR⟩ := hrel
    have hrg := HR.out.1
    go_wp2_with (first
      | (at_next; refine wpList_next_ranges _ rfl _ rfl 9 strK Dk.R Value.string Dk.valF (fun key kl hk => by obtain ⟨x, hx, _⟩ := Go.WideMaps.string_of_keyOf Try.underlying9 hk; exact ⟨x, hx⟩) (fun v y hv => by obtain ⟨f, hf, _⟩ := Dk.R_inv (d := y.1) (ps := y.2) hv; exact ⟨f, hf⟩) D.mb w.heap.size s.files.length (Dk.dat s.files) left _ rfl hrg ?_ ?_)
      | fail)
    · intro hc0 hl0
      have HE := hide (show acc = wrap64 (Dk.used s.files : Int) by rw [HR.out.2.1, Dk.met_end hl0])
      clear hrg
      go_wp2_with fail
      go_ret
      exact ⟨by rw [← HE.out]; rfl, HR.out.2.2⟩
    · intro x f kl y ps w1 cnt1 hkey hlk hRv hat hrg1 hlt hg1 hs1 hen
      have hkl : kl = .string (Dk.key x) := by
        obtain ⟨x', hx', hkl, _⟩ := Go.WideMaps.string_of_keyOf Try.underlying9 hkey
        injection hx' with hx'
        subst hx'
        exact hkl
      subst hkl
      obtain ⟨p, hp, hpx, hyp⟩ := Dk.at_mem hat
      have hfp : f = p.2 := by
        rw [Dk.R_val] at hRv
        injection hRv with e
        injection e with e _
        exact Dk.datF_inj (by rw [← hyp, ← e])
      have hst := Dk.met_step (left := left) HU.out hp (by rw [hpx]; exact hlk)
      rw [hpx, ← hfp] at hst
      have hfs : f.now.size ≤ 268435456 := by rw [hfp]; exact (HSZ.out p hp).1
      have HST := hide hst
      have HR1 := hide hrg1
      have hb1 : Below w.heap.size w w1 := HR.out.2.2.grown hg1 HR.out.2.2.size (fun k hk => by cases hk; exact Nat.le_refl _)
      have HB1 := hide hb1
      have HLT := hide hlt
      unfold Dk.valF at hen
      clear hrg hkey hlk hRv hat hrg1 hg1 hpx hyp hp hfp hst hb1 hlt
      go_wp2_with fail
      go_roundg cnt1
      case measure => exact HLT.out
      case rel =>
        refine ⟨_, cnt1, _, rfl, rfl, ?_, ?_, HR1.out.alloc _, ?_, HB1.out.alloc HB1.out.size _⟩
        · unfold wrap64; omega
        · unfold wrap64; omega
        · rw [HST.out, HR.out.2.1, wrap64_add]; simp
#print axioms diskUsed_any
end Go.Proofs.Ytiiblpgiafbaoaa
