/-
  The program's disk: told: the walk, for whatever function value is handed in.
-/
import Derived.Test.YtiiblpgiafbaoaaDiskTold
import Derived.Lib.SlicesS
namespace Go.Proofs.Ytiiblpgiafbaoaa
open Go Go.RowKit Go.Maps
namespace Dk
/-- What is told where the files' texts are R. -/
def pick (l : Fs) (R : List ByteArray) : List (ByteArray × ByteArray) := ((l.map Prod.fst).zip R).filter fun q => !decide (q.2 = ⟨#[]⟩)
theorem pick_step {l : Fs} {R : List ByteArray} {j : Nat} {p : ByteArray × F} {r : ByteArray} (hp : l[j]? = some p) (hr : R[j]? = some r) :
    pick (l.take (j + 1)) (R.take (j + 1)) = pick (l.take j) (R.take j) ++ if r = ⟨#[]⟩ then [] else [(p.1, r)] := by
  obtain ⟨hj, rfl⟩ := List.getElem?_eq_some_iff.1 hp
  obtain ⟨hj2, rfl⟩ := List.getElem?_eq_some_iff.1 hr
  unfold pick
  rw [List.take_succ_eq_append_getElem hj, List.take_succ_eq_append_getElem hj2, List.map_append, List.zip_append (by simp; omega), List.filter_append]
  congr 1
  by_cases h : R[j] = ⟨#[]⟩
  · simp [h]
  · simp [h]
theorem get_at {l : Fs} (h : Up l) {p : ByteArray × F} (hp : p ∈ l) : get l p.1 = p.2 := by
  have hu := up_unique h
  unfold get
  induction l with
  | nil => cases hp
  | cons q l ih =>
    obtain ⟨h1, h2⟩ := List.pairwise_cons.1 hu
    rw [List.find?_cons]
    rcases List.mem_cons.1 hp with rfl | hp
    · simp
    · rw [decide_eq_false (h1 p hp)]
      exact ih (List.pairwise_cons.1 h).2 hp h2
theorem pick_le (l : Fs) (R : List ByteArray) : (pick l R).length ≤ l.length := by
  unfold pick
  refine Nat.le_trans (List.length_filter_le _ _) ?_
  rw [List.length_zip, List.length_map]; omega
end Dk
set_option maxHeartbeats 1600000 in
set_option maxRecDepth 100000 in
theorem diskTold_any {I : Nat → World → Prop} {S : Nat → Prop} (D : Dk.Blk) (s : Dk.St) (cf : Nat) (caps : Array Value) (R : List ByteArray) (w : World) (h : DiskAt w D s) (hRl : R.length = s.files.length)
    (hent : ∀ (args : Array Value) (u : World), (callFunc cf args).run Try.prog u = .ok (.enter cf args) u) (haway : Dk.Away D S) (hSlt : ∀ k, S k → k < w.heap.size)
    (hI0 : I 0 w) (hst : ∀ j u u', I j u → Below w.heap.size u u' → I j u')
    (hof : ∀ j p r u, s.files[j]? = some p → R[j]? = some r → I j u → Calls Try.prog cf (#[Dk.valF p.2] ++ caps) u fun e u' => e = .returned (.string r) ∧ I (j + 1) u' ∧ Moved S u u') :
    Calls Try.prog 39 #[.pointer (some ⟨D.g, 0, none⟩), .func (.func cf) #[] caps] w fun e w' => ∃ v, e = .returned v ∧ w'.ownsRow w.heap.size 42 2 v (Dk.pick s.files R).length (flatF (Dk.pick s.files R)) ∧ I s.files.length w' ∧ Moved S w w' := by
  have c1 := h.c1
  have HD := hide h
  have HOF := hide hof
  have HST := hide hst
  clear h hof hst
  go_enter Try.func39, Try.ntmps39
  go_wp2_with fail
  refine (callsIn_wide.1 (Try.maps_Keys_57 (some D.mb) w)).mono ?_
  rintro e w1 ⟨rfl, rfl⟩
  go_wp2_with fail
  refine (callsIn_wide.1 (Try.slices_Sorted_keys_56_57 D.mb s.files.length (Dk.dat s.files) Dk.R w HD.out.map ?_ ?_)).mono ?_
  · have := HD.out.ok.many
    show (s.files.map Dk.litF).length ≤ maxLen
    rw [List.length_map]; unfold maxLen; omega
  · have := HD.out.ok.many
    show (s.files.map Dk.litF).length * 16 ≤ _
    rw [List.length_map]; omega
  rintro e w2 ⟨v, ss, rfl, hperm, hrow, hnil, hb⟩
  rw [Dk.sorted_keys HD.out.ok.up hperm, Dk.enc_key] at hrow
  have hlen : ss.length = s.files.length := by rw [hperm.length_eq, Dk.strKeys_dat, List.length_map]
  rw [hlen] at hrow
  have hbw : Below w.heap.size w w2 := ((Below.refl _ _).alloc (Nat.le_refl _) _).trans (hb.mono (by simp))
  have hblk := hrow.lt
  obtain ⟨len, a, cap, hll, rfl, hlc, HCv⟩ := (slv_of_owns hrow).form
  have HBK := hide (show ∀ k, Value.ownBlock (.slice a len cap) = some k → w.heap.size ≤ k from fun k hk => by have := (hblk k hk).1; simp at this; omega)
  clear hblk
  rw [List.length_map] at hll
  have HCC := hide HCv
  have HL := hide hll
  have hmany : len ≤ 1099511627776 := by rw [hll]; exact HD.out.ok.many
  obtain ⟨B2, hB2⟩ : ∃ B, B = w2.heap.size := ⟨_, rfl⟩
  have HB2 := hide (show w.heap.size ≤ B2 ∧ B2 ≤ w2.heap.size from ⟨by rw [hB2]; exact hbw.size, by omega⟩)
  have HBW := hide hbw
  have HI := hide (HST.out 0 w w2 hI0 hbw)
  have HE2 := hide (show B2 = w2.heap.size from hB2)
  have HRL := hide hRl
  clear hperm hrow hnil hb hlen hbw HCv hll hI0 hB2 hRl
  go_wp2_with fail
  go_loopg [5, 16] len (fun q v5 v16 wr => ∃ j : Nat, j ≤ len ∧ q = len - j ∧ v16 = .int .i64 j ∧ Hid (wr.ownsRow B2 42 2 v5 (Dk.pick (s.files.take j) (R.take j)).length (flatF (Dk.pick (s.files.take j) (R.take j))) ∧ I j wr ∧ Moved S w wr ∧ Moved S w2 wr ∧ B2 ≤ wr.heap.size))
  case atStart => exact ⟨0, by omega, rfl, rfl, World.ownsRow_nil _ _ _ _, HI.out, Moved.of_below HBW.out, Moved.refl _ _, HB2.out.2⟩
  case round =>
    obtain ⟨j, hj, rfl, rfl, HQ⟩ := hrel
    by_cases hjl : j < len
    · have hjf : j < s.files.length := by rw [← HL.out]; exact hjl
      obtain ⟨p, hp⟩ : ∃ p, s.files[j]? = some p := ⟨_, List.getElem?_eq_getElem hjf⟩
      obtain ⟨r, hr⟩ : ∃ r, R[j]? = some r := ⟨_, List.getElem?_eq_getElem (by rw [HRL.out]; exact hjf)⟩
      obtain ⟨b, off, rfl, hbw, hcell⟩ := HCC.out j hjl
      have hbS : ¬ S b := fun hS => by
        have h1 := HBK.out b rfl
        have h2 := hSlt b hS
        omega
      have hc0 : wr.cell? ⟨b, off + j, none⟩ = some (.string p.1) := by
        rw [World.cell?_of_block (a := ⟨b, off + j, none⟩) (HQ.out.2.2.2.1.block b hbw hbS), hcell, getD_map _ _ _ p hjf]
        simp [List.getD, hp]
      have HDr := hide (HD.out.stay HQ.out.2.2.1 haway)
      have d1 := HDr.out.c1
      have hpm := List.mem_of_getElem? hp
      have hps := HD.out.ok.names p hpm
      have hlk := HDr.out.look p.1 hps
      rw [Dk.get_at HD.out.ok.up hpm] at hlk
      have HPR := hide (And.intro hp hr)
      have HC := hide (HOF.out j p r wr hp hr HQ.out.2.1)
      obtain ⟨nm, fo⟩ := p
      dsimp only at hc0 hlk hps HC
      unfold Dk.valF at HC
      clear hp hr hcell hbw hbS hpm
      go_wp2_with fail
      refine HC.out.mono ?_
      rintro e w3 ⟨rfl, hI3, hM3⟩
      have hown3 := own_moved HQ.out.1 hM3 (fun k hk _ hS => by have := hSlt k hS; have := HB2.out.1; omega)
      have HQ3 := hide (show w3.ownsRow B2 42 2 u5 (Dk.pick (s.files.take j) (R.take j)).length (flatF (Dk.pick (s.files.take j) (R.take j))) ∧ I (j + 1) w3 ∧ Moved S w w3 ∧ Moved S w2 w3 ∧ B2 ≤ w3.heap.size from
        ⟨hown3, hI3, HQ.out.2.2.1.then hM3, HQ.out.2.2.2.1.then hM3, Nat.le_trans HQ.out.2.2.2.2 hM3.size⟩)
      clear hown3 hI3 hM3
      by_cases hr0 : r = ⟨#[]⟩
      · have hst0 := Dk.pick_step HPR.out.1 HPR.out.2
        rw [if_pos hr0, List.append_nil] at hst0
        have HSTP := hide hst0
        subst hr0
        clear hst0
        go_wp2_with fail
        go_roundg (len - (j + 1))
        case measure => omega
        case rel => exact ⟨j + 1, by omega, rfl, by go_num, by rw [HSTP.out]; exact HQ3.out.1, HQ3.out.2⟩
      · have hst0 := Dk.pick_step HPR.out.1 HPR.out.2
        rw [if_neg hr0] at hst0
        have HSTP := hide hst0
        have hb0 : r.toList.isEmpty = false := by
          cases hc : r.toList with
          | nil => exact absurd ((Go.Lib.bytes_beq_iff r ⟨#[]⟩).1 (by rw [hc]; decide +kernel)) hr0
          | cons x l => rfl
        have hm0 : (Dk.pick (s.files.take j) (R.take j)).length ≤ j := Nat.le_trans (Dk.pick_le _ _) (by rw [List.length_take]; omega)
        have HM0 := hide hm0
        clear hst0 hr0 hm0
        go_wp2_with (at_builtin; refine wpList_append_file rfl _ _ rfl B2 u5 (Dk.pick (s.files.take j) (R.take j)).length _ rfl (own_below HQ3.out.1 (Below.alloc (Below.refl _ _) (Nat.le_refl _) _)) w3.heap.size nm r rfl (alloc_at _ _) ?_ ?_ ?_)
        · have := HM0.out; omega
        · have := HQ3.out.2.2.2.2; simp; omega
        · intro v7 w7 hown hgr
          have hal : Below w3.heap.size w3 (w3.alloc (.cells #[.string nm, .string r] 42)) := (Below.refl _ _).alloc (Nat.le_refl _) _
          have hb7 : Below B2 w3 w7 := below_grown (hal.mono HQ3.out.2.2.2.2) (own_below HQ3.out.1 hal) hgr (Nat.le_refl _) (by have := HQ3.out.2.2.2.2; simp; omega)
          have hm7 : Moved (fun k => B2 ≤ k) w3 w7 := Moved.of_belowB hb7
          have HQ7 := hide (show w7.ownsRow B2 42 2 v7 (Dk.pick (s.files.take (j + 1)) (R.take (j + 1))).length (flatF (Dk.pick (s.files.take (j + 1)) (R.take (j + 1)))) ∧ I (j + 1) w7 ∧ Moved S w w7 ∧ Moved S w2 w7 ∧ B2 ≤ w7.heap.size from
            ⟨by rw [HSTP.out, flatF_snoc, List.length_append]; exact hown, HST.out _ _ _ HQ3.out.2.1 (hb7.mono HB2.out.1), HQ3.out.2.2.1.trans hm7 (fun k hk => .inr (Nat.le_trans HB2.out.1 hk)), HQ3.out.2.2.2.1.trans hm7 (fun k hk => .inr (by rw [← HE2.out]; exact hk)), Nat.le_trans HQ3.out.2.2.2.2 hb7.size⟩)
          clear hown hgr hal hb7 hm7
          go_wp2_with fail
          go_roundg (len - (j + 1))
          case measure => omega
          case rel => exact ⟨j + 1, by omega, rfl, by go_num, HQ7.out⟩
    · have hj' : j = len := by omega
      have HJ := hide hj'
      clear hj'
      go_wp2_with fail
      go_ret
      have hq := HQ.out
      rw [show s.files.take j = s.files by rw [HJ.out, HL.out, List.take_length], show R.take j = R by rw [HJ.out, HL.out, ← HRL.out, List.take_length]] at hq
      exact ⟨_, rfl, own_base hq.1 HB2.out.1, by rw [← HL.out, ← HJ.out]; exact hq.2.1, hq.2.2.1⟩
end Go.Proofs.Ytiiblpgiafbaoaa
