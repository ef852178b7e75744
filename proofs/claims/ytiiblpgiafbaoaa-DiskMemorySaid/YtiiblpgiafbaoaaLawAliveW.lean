/-
  massiflaw17.alive answers true: the walk.
-/
import Derived.Test.YtiiblpgiafbaoaaLawAlive
namespace Go.Proofs.Ytiiblpgiafbaoaa
open Go Go.RowKit Go.Maps
set_option maxHeartbeats 1600000 in
set_option maxRecDepth 100000 in
theorem alive_any (w : World) : Calls Try.prog 10 #[] w fun e w' => e = .returned (.bool true) ∧ Below w.heap.size w w' := by
  go_enter Try.func10, Try.ntmps10
  go_wp2_with fail
  refine (diskNew_any 200 w (by decide)).mono ?_
  rintro e w1 ⟨D, rfl, hD, hg, hm, hkv, hb⟩
  have H1 := hide (show DiskAt w1 D (Dk.newSt 200) ∧ Below w.heap.size w w1 from ⟨hD, hb⟩)
  have HG := hide (And.intro hg hm)
  clear hD hg hm hkv hb
  go_wp2_with fail
  refine (write_val D (Dk.newSt 200) Dk.al1 ⟨#[97]⟩ 0 ⟨#[120, 121, 122]⟩ 0 _ H1.out.1 (by decide) (by decide) (by decide) rfl (by decide) (by decide) Dk.al_1).mono ?_
  rintro e w2 ⟨rfl, hD, hm⟩
  have H2 := hide (show DiskAt w2 D Dk.al1 ∧ Below w.heap.size w w2 from ⟨hD, H1.out.2.trans (hm.below H1.out.2.size (fun j hj => by rcases hj with h | h; exact h ▸ HG.out.1; exact h ▸ HG.out.2))⟩)
  clear hD hm
  go_wp2_with fail
  refine (write_val D Dk.al1 Dk.al1 ⟨#[97]⟩ 5 ⟨#[113]⟩ 173 _ H2.out.1 (by decide) (by decide) (by decide) rfl (by decide) (by decide) Dk.al_1b).mono ?_
  rintro e w3 ⟨rfl, hD, hm⟩
  have H3 := hide (show DiskAt w3 D Dk.al1 ∧ Below w.heap.size w w3 from ⟨hD, H2.out.2.trans (hm.below H2.out.2.size (fun j hj => by rcases hj with h | h; exact h ▸ HG.out.1; exact h ▸ HG.out.2))⟩)
  clear hD hm
  go_wp2_with fail
  refine (write_val D Dk.al1 Dk.al2 ⟨#[97]⟩ 3 ⟨#[113]⟩ 0 _ H3.out.1 (by decide) (by decide) (by decide) rfl (by decide) (by decide) Dk.al_2).mono ?_
  rintro e w4 ⟨rfl, hD, hm⟩
  have H4 := hide (show DiskAt w4 D Dk.al2 ∧ Below w.heap.size w w4 from ⟨hD, H3.out.2.trans (hm.below H3.out.2.size (fun j hj => by rcases hj with h | h; exact h ▸ HG.out.1; exact h ▸ HG.out.2))⟩)
  clear hD hm
  go_wp2_with fail
  refine (read_val D Dk.al2 ⟨#[97]⟩ 1 3 ⟨#[121, 122, 113]⟩ 0 _ H4.out.1 (by decide) (by decide) (by decide) Dk.al_r).mono ?_
  rintro e w' ⟨rfl, rfl⟩
  go_wp2_with fail
  refine (size_val D Dk.al2 ⟨#[97]⟩ 4 _ H4.out.1 (by decide) Dk.al_z).mono ?_
  rintro e w' ⟨rfl, rfl⟩
  go_wp2_with fail
  refine (after_val D Dk.al2 (.slice none 0 0) [] [] _ H4.out.1 (SlV.nil _) (by decide) Dk.al_a).mono ?_
  rintro e w5 ⟨len0, a0, cap0, rfl, hlen, hs, hb⟩
  have H5 := hide (show DiskAt w5 D Dk.al2 ∧ Below w.heap.size w w5 from ⟨H4.out.1.past hb, H4.out.2.trans (hb.mono H4.out.2.size)⟩)
  have HS0 := hide hs
  have hlen0 : len0 = 0 := hlen
  subst hlen0
  clear hlen hs hb
  go_wp2_with fail
  refine (sync_val D Dk.al2 Dk.al3 ⟨#[97]⟩ 0 _ H5.out.1 (by decide) rfl (by decide) (by decide) Dk.al_3).mono ?_
  rintro e w6 ⟨rfl, hD, hm⟩
  have H6 := hide (show DiskAt w6 D Dk.al3 ∧ Below w.heap.size w w6 from ⟨hD, H5.out.2.trans (hm.below H5.out.2.size (fun j hj => by rcases hj with h | h; exact h ▸ HG.out.1; exact h ▸ HG.out.2))⟩)
  clear hD hm
  go_wp2_with fail
  refine (acts_val D Dk.al3 3 _ H6.out.1  rfl).mono ?_
  rintro e w' ⟨rfl, rfl⟩
  go_wp2_with fail
  refine (write_val D Dk.al3 Dk.al4 ⟨#[97]⟩ 0 ⟨#[88]⟩ 0 _ H6.out.1 (by decide) (by decide) (by decide) rfl (by decide) (by decide) Dk.al_4).mono ?_
  rintro e w7 ⟨rfl, hD, hm⟩
  have H7 := hide (show DiskAt w7 D Dk.al4 ∧ Below w.heap.size w w7 from ⟨hD, H6.out.2.trans (hm.below H6.out.2.size (fun j hj => by rcases hj with h | h; exact h ▸ HG.out.1; exact h ▸ HG.out.2))⟩)
  clear hD hm
  go_wp2_with fail
  refine (cut_val D Dk.al4 Dk.al5 ⟨#[97]⟩ 2 0 _ H7.out.1 (by decide) (by decide) rfl (by decide) (by decide) Dk.al_5).mono ?_
  rintro e w8 ⟨rfl, hD, hm⟩
  have H8 := hide (show DiskAt w8 D Dk.al5 ∧ Below w.heap.size w w8 from ⟨hD, H7.out.2.trans (hm.below H7.out.2.size (fun j hj => by rcases hj with h | h; exact h ▸ HG.out.1; exact h ▸ HG.out.2))⟩)
  clear hD hm
  go_wp2_with fail
  refine (after_val D Dk.al5 _ [false, true] [(⟨#[97]⟩, ⟨#[88, 121, 0, 0]⟩)] _ (H8.out.1.past ((Below.refl _ _).alloc (Nat.le_refl _) _)) (slv_new _ _ _ _ rfl) (by decide) Dk.al_b).mono ?_
  rintro e w9 ⟨len1, a1, cap1, rfl, hlen1, hs, hb⟩
  obtain rfl : len1 = 1 := hlen1
  have hb2 := (((Below.refl _ _).alloc (Nat.le_refl _) _) : Below w8.heap.size w8 _).trans (hb.mono (by simp))
  have H9 := hide (show DiskAt w9 D Dk.al5 ∧ Below w.heap.size w w9 from ⟨H8.out.1.past hb2, H8.out.2.trans (hb2.mono H8.out.2.size)⟩)
  have HS1 := hide hs
  clear hs hb hb2
  go_wp2_with fail
  refine (after_val D Dk.al5 _ [true, false] [(⟨#[97]⟩, ⟨#[120, 121]⟩)] _ (H9.out.1.past ((Below.refl _ _).alloc (Nat.le_refl _) _)) (slv_new _ _ _ _ rfl) (by decide) Dk.al_c).mono ?_
  rintro e w10 ⟨len2, a2, cap2, rfl, hlen2, hs, hb⟩
  obtain rfl : len2 = 1 := hlen2
  have hb2 := (((Below.refl _ _).alloc (Nat.le_refl _) _) : Below w9.heap.size w9 _).trans (hb.mono (by simp))
  have H10 := hide (show DiskAt w10 D Dk.al5 ∧ Below w.heap.size w w10 from ⟨H9.out.1.past hb2, H9.out.2.trans (hb2.mono H9.out.2.size)⟩)
  have HS2 := hide hs
  have HS1b := hide (HS1.out.below hb2)
  clear hs hb hb2
  go_wp2_with fail
  refine (same_val _ _ [(⟨#[97]⟩, ⟨#[88, 121, 0, 0]⟩)] [(⟨#[97]⟩, ⟨#[88, 121, 0, 0]⟩)] true _ (HS1b.out.below ((Below.refl _ _).alloc (Nat.le_refl _) _)) (slf_new _ [(⟨#[97]⟩, ⟨#[88, 121, 0, 0]⟩)] 1 rfl #[.string ⟨#[97]⟩, .string ⟨#[88, 121, 0, 0]⟩] rfl _) (by simp) (by simp) (decide_eq_true rfl)).mono ?_
  rintro e w11 ⟨rfl, hb⟩
  have hb2 := (((Below.refl _ _).alloc (Nat.le_refl _) _) : Below w10.heap.size w10 _).trans (hb.mono (by simp))
  have H11 := hide (show DiskAt w11 D Dk.al5 ∧ Below w.heap.size w w11 from ⟨H10.out.1.past hb2, H10.out.2.trans (hb2.mono H10.out.2.size)⟩)
  have HS2b := hide (HS2.out.below hb2)
  clear hb hb2
  go_wp2_with fail
  refine (same_val _ _ [(⟨#[97]⟩, ⟨#[120, 121]⟩)] [(⟨#[97]⟩, ⟨#[120, 121]⟩)] true _ (HS2b.out.below ((Below.refl _ _).alloc (Nat.le_refl _) _)) (slf_new _ [(⟨#[97]⟩, ⟨#[120, 121]⟩)] 1 rfl #[.string ⟨#[97]⟩, .string ⟨#[120, 121]⟩] rfl _) (by simp) (by simp) (decide_eq_true rfl)).mono ?_
  rintro e w12 ⟨rfl, hb⟩
  have hb2 := (((Below.refl _ _).alloc (Nat.le_refl _) _) : Below w11.heap.size w11 _).trans (hb.mono (by simp))
  have H12 := hide (show DiskAt w12 D Dk.al5 ∧ Below w.heap.size w w12 from ⟨H11.out.1.past hb2, H11.out.2.trans (hb2.mono H11.out.2.size)⟩)
  clear hb hb2
  go_wp2_with fail
  refine (files_val D Dk.al5  [(⟨#[97]⟩, ⟨#[88, 121]⟩)] _ H12.out.1  Dk.al_d).mono ?_
  rintro e w13 ⟨len3, a3, cap3, rfl, hlen, hs, hb⟩
  have H13 := hide (show DiskAt w13 D Dk.al5 ∧ Below w.heap.size w w13 from ⟨H12.out.1.past hb, H12.out.2.trans (hb.mono H12.out.2.size)⟩)
  have HS3 := hide hs
  obtain rfl : len3 = 1 := hlen
  clear hs hb
  go_wp2_with fail
  refine (same_val _ _ [(⟨#[97]⟩, ⟨#[88, 121]⟩)] [(⟨#[97]⟩, ⟨#[88, 121]⟩)] true _ (HS3.out.below ((Below.refl _ _).alloc (Nat.le_refl _) _)) (slf_new _ [(⟨#[97]⟩, ⟨#[88, 121]⟩)] 1 rfl #[.string ⟨#[97]⟩, .string ⟨#[88, 121]⟩] rfl _) (by simp) (by simp) (decide_eq_true rfl)).mono ?_
  rintro e w14 ⟨rfl, hb⟩
  have hb2 := (((Below.refl _ _).alloc (Nat.le_refl _) _) : Below w13.heap.size w13 _).trans (hb.mono (by simp))
  have H14 := hide (show DiskAt w14 D Dk.al5 ∧ Below w.heap.size w w14 from ⟨H13.out.1.past hb2, H13.out.2.trans (hb2.mono H13.out.2.size)⟩)
  clear hb hb2
  go_wp2_with fail
  refine (down_val D Dk.al5 false _ H14.out.1 rfl).mono ?_
  rintro e w' ⟨rfl, rfl⟩
  go_wp2_with fail
  go_ret
  exact ⟨rfl, H14.out.2⟩
end Go.Proofs.Ytiiblpgiafbaoaa
