/-
  massiflaw05.CrcMemory: the walk.
-/
import Derived.Test.YtholbjclfkdgbaaCrcParts
import Derived.Test.YtholbjclfkdgbaaArr
import Derived.BigQuiet
import Derived.WalkSmall
import Derived.Test.YtholbjclfkdgbaaCrcLinear
namespace Go.Proofs.Ytholbjclfkdgbaa
open Go.RowKit
def room : Value := .string ⟨#[114, 111, 111, 109]⟩
theorem fill_set (xs : List Value) (v : Value) (j : Nat) (h : j < xs.length) : (List.replicate j v ++ xs.drop j).set j v = List.replicate (j + 1) v ++ xs.drop (j + 1) := by
  rw [List.set_append_right _ _ (by simp), List.replicate_succ', List.length_replicate, Nat.sub_self, List.drop_eq_getElem_cons h, List.set_cons_zero, List.append_assoc]
  rfl
theorem ofParts_take (qs : List ByteArray) (j : Nat) (p : ByteArray) (h : j < qs.length) (hp : p = qs.getD j ByteArray.empty) : Crc.ofParts 0#32 ((qs.take (j + 1)).map bytesOf) = Crc.more (Crc.ofParts 0#32 ((qs.take j).map bytesOf)) p.data.toList := by
  have hq : p = qs[j] := by rw [hp]; simp [List.getD, h]
  rw [List.take_succ_eq_append_getElem h, ← hq]
  rw [List.map_append]
  generalize 0#32 = x
  induction (qs.take j).map bytesOf generalizing x with
  | nil => rfl
  | cons q l ih => exact ih _
theorem arr_drewN {w : World} {g e : Nat} {xs : List Value} (h : Arr w g e xs) {m : Nat} : Arr (w.drewN m) g e xs := by
  obtain ⟨C, lo, hi, h1, h2⟩ := h
  exact ⟨C, lo, hi, by simpa using h1, h2⟩
set_option maxHeartbeats 1600000 in
set_option maxRecDepth 100000 in
theorem memory_any (v : Value) (ps : List ByteArray) (s : ByteArray) (w : World) (hv : SlV w v (ps.map Value.string)) (hn : ps.length * 16 ≤ 140737488351232) (hps : ∀ p ∈ ps, p.size ≤ 140737488351232) (hs : s.size ≤ 140737488351232) :
    Calls Try.prog 8 #[v, .string s] w fun e w' => e = .returned (.bool true) ∧ Below w.heap.size w w' := by
  obtain ⟨qs, hqs⟩ : ∃ qs, qs = ps.take 40 := ⟨_, rfl⟩
  have hps2 : ∀ p ∈ qs, p.size ≤ 140737488351232 := fun p h => hps p (List.mem_of_mem_take (hqs ▸ h))
  have hps3 : ∀ p ∈ qs, p.size ≤ 9223372036854775807 := fun p h => Nat.le_trans (hps2 p h) (by decide)
  have hlen : qs.length ≤ 40 := by rw [hqs]; simp; omega
  have hs1 : s.size ≤ 9223372036854775807 := by omega
  obtain ⟨len, a, cap, hl, rfl, hc, hjunk⟩ := hv.form
  clear hjunk
  rw [List.length_map] at hl
  have hl2 : len ≤ 140737488351232 := by omega
  have HF := hide (And.intro hv (And.intro hps2 (And.intro hps3 hqs)))
  have HL := hide hl
  clear hv hn hps hps2 hps3 hqs hl
  go_enter Try.func8, Try.ntmps8
  go_wp2_with fail
  refine (alive_any _).mono ?_
  rintro e w1 ⟨rfl, hb1⟩
  have HB1 := hide hb1
  clear hb1
  go_upto_if 16 with (fail)
  go_cut [0] from 12 (fun v0 wc => wc = w1 ∧ ∃ n a' cap', n = qs.length ∧ n ≤ cap' ∧ v0 = .slice a' n cap' ∧ Hid (SlV w1 v0 (qs.map Value.string)))
  case first =>
    go_wp2
    · have h40 := (by assumption : 40 < (len : Int))
      go_meet
      case rel =>
        have hq : 40 = qs.length := by rw [HF.out.2.2.2]; simp; have := HL.out; omega
        refine ⟨rfl, 40, a, cap, hq, by omega, rfl, ?_⟩
        have := (HF.out.1.below HB1.out).take 40 (by simp; have := HL.out; omega)
        rw [← List.map_take, ← HF.out.2.2.2] at this
        exact this
    · have h40 := (by assumption : (len : Int) ≤ 40)
      go_meet
      case rel =>
        have hq : qs = ps := by rw [HF.out.2.2.2]; exact List.take_of_length_le (by have := HL.out; omega)
        refine ⟨rfl, len, a, cap, by rw [hq]; exact HL.out, hc, rfl, ?_⟩
        rw [hq]; exact HF.out.1.below HB1.out
  case rest =>
    obtain ⟨rfl, n, a', cap', hn, hnc, rfl, HV⟩ := hcut
    have HN := hide hn
    have hn40 : n ≤ 40 := by omega
    clear hn
    obtain ⟨B, hBd⟩ : ∃ B, B = wc.heap.size := ⟨_, rfl⟩
    have HBD := hide hBd
    go_wp2_with (at_builtin; refine wpList_append_slv rfl _ _ 22 rfl wc.heap.size 9 _ 16 Try.underlying22 info_str rfl _ 0 [] rfl (owns_empty _ _) _ (qs.map Value.string) rfl (HV.out.below (Below.alloc (Below.refl _ _) (Nat.le_refl _) _)) (ones_str _) ?_ ?_ (by simp) ?_)
    · unfold maxLen; simp; omega
    · simp; omega
    · intro v2 w2 hown hgr
      have hown2 : w2.ownsRow B 9 1 v2 n (qs.map Value.string) := by rw [hBd, HN.out]; exact hown
      have hb2 : Below B wc w2 := by
        rw [hBd]
        exact ((Below.refl _ _).alloc (Nat.le_refl _) _).grown hgr (by simp) (fun k hk => by cases hk; exact Nat.le_refl _)
      have HO := hide hown2
      have HB2 := hide hb2
      clear hown hgr hown2 hb2 hBd
      go_wp2_with fail
      go_loopg [5, 6] 30 (fun g v5 v6 wr => ∃ k : Nat, k ≤ 30 ∧ g = 30 - k ∧ v6 = .int .i64 k ∧ Hid (wr.ownsRow B 9 1 v5 (n + k) (qs.map Value.string ++ List.replicate k room) ∧ Below B wc wr))
      case atStart => exact ⟨0, by omega, rfl, rfl, by rw [List.replicate_zero, List.append_nil]; exact HO.out, HB2.out⟩
      case round =>
        obtain ⟨k, hk, rfl, rfl, HR⟩ := hrel
        by_cases hk30 : k < 30
        · rename_i v5 _ _
          go_wp2_with (at_builtin; refine wpList_append_slv rfl _ _ 22 rfl B 9 _ 16 Try.underlying22 info_str rfl u5 (n + k) (qs.map Value.string ++ List.replicate k room) rfl (own_below HR.out.1 (Below.alloc (Below.refl _ _) (Nat.le_refl _) _)) _ [room] rfl (slv_new _ _ _ _ rfl) (by simp [room, Value.oneCell']) ?_ ?_ ?_ ?_)
          · unfold maxLen; simp; omega
          · simp; omega
          · have := HR.out.2.size; have := HBD.out; simp; omega
          · intro v7 w7 hown hgr
            have hown2 : w7.ownsRow B 9 1 v7 (n + (k + 1)) (qs.map Value.string ++ List.replicate (k + 1) room) := by
              rw [List.replicate_succ']; exact hown
            have hb7 : Below B wc w7 := below_grown (HR.out.2.alloc (by have := HR.out.2.size; have := HBD.out; omega) _) (own_below HR.out.1 (Below.alloc (Below.refl _ _) (Nat.le_refl _) _)) hgr (Nat.le_refl _) (by have := HR.out.2.size; have := HBD.out; simp; omega)
            have HR7 := hide (And.intro hown2 hb7)
            clear hown hgr hown2 hb7
            go_wp2_with fail
            go_roundg (30 - (k + 1))
            case measure => omega
            case rel => exact ⟨k + 1, by omega, rfl, by go_num, HR7.out⟩
        · have hk' : k = 30 := by omega
          subst hk'
          obtain ⟨g, cw, rfl, hgB, hcw, hcm, harr⟩ := arr_of_owns HR.out.1 (by omega)
          obtain ⟨xs, hxs⟩ : ∃ xs, xs = qs.map Value.string ++ List.replicate 30 room := ⟨_, rfl⟩
          rw [← hxs] at harr
          obtain ⟨A, hA⟩ : ∃ A : Int, ((Crc.ofParts 0#32 (qs.map bytesOf)).toNat : Int) = A := ⟨_, rfl⟩
          have hxl : xs.length = n + 30 := by rw [hxs, HN.out]; simp
          have hsl : SlV wr (.slice (some ⟨g, 0, none⟩) n cw) (qs.map Value.string) := by
            have h1 := (harr.slv (n := n + 30) (cap := cw) hxl.symm hcw).take n (by omega)
            rw [hxs, List.take_append_of_le_length (by simp; exact Nat.le_of_eq HN.out), List.take_of_length_le (by simp; exact Nat.le_of_eq HN.out.symm)] at h1
            exact h1
          have HBr := hide HR.out.2
          have HX := hide (And.intro hxs hA)
          have HAr := hide harr
          have HS := hide hsl
          have hncw : n ≤ cw := by omega
          clear hxs hA harr hsl HR
          go_wp2_with fail
          refine (of_val _ qs A _ HS.out (by omega) HF.out.2.2.1 HX.out.2).mono ?_
          rintro e w3 ⟨rfl, hb3⟩
          have HA3 := hide (HAr.out.past hb3)
          have HB3 := hide (HBr.out.trans (hb3.mono (by rw [HBD.out]; exact HBr.out.size)))
          have HS3 := hide (HS.out.below hb3)
          clear hb3
          go_wp2_with fail
          go_loopg [8] (n + 30) (fun g' v8 wr => ∃ k : Nat, k ≤ n + 30 ∧ g' = n + 30 - k ∧ v8 = .int .i64 k ∧ Hid (Arr wr g 9 xs ∧ Below B wc wr))
          case atStart => exact ⟨0, by omega, rfl, rfl, HA3.out, HB3.out⟩
          case round =>
            obtain ⟨k, hk, rfl, rfl, HW⟩ := hrel
            by_cases hkn : k < n + 30
            · have hc5 := HW.out.1.cell k (by rw [hxl]; exact hkn)
              by_cases hkl : k < n
              · obtain ⟨len0, a0, cap0, hl0, hv0, _, hcl⟩ := HV.out.form
                injection hv0 with e1 e2 e3
                subst e1; subst e2; subst e3
                obtain ⟨b, off, rfl, hbw, hcell⟩ := hcl k hkl
                have hc0 : wr.cell? ⟨b, off + k, none⟩ = some ((qs.map Value.string).getD k undef) := by rw [HW.out.2.cell (p := ⟨b, off + k, none⟩) (by rw [HBD.out]; exact hbw)]; exact hcell
                have hkq : k < qs.length := by rw [← HN.out]; exact hkl
                have hx5 : xs.getD k undef = (qs.map Value.string).getD k undef := by
                  rw [HX.out.1]; simp [List.getD, List.getElem?_append_left, hkq]
                rw [hx5] at hc5
                rw [getD_map _ _ _ ByteArray.empty hkq] at hc5 hc0
                generalize qs.getD k ByteArray.empty = p at hc5 hc0
                clear hcell hcl hx5 hl0 hkq
                have hpe : (p.toList == p.toList) = true := by simp
                have hpn : (p.toList != p.toList) = false := by simp
                have hd1 : decide ((k : Int) < (n : Int)) = true := decide_eq_true (by omega)
                have hd2 : decide (n ≤ k) = false := decide_eq_false (by omega)
                go_wp2
                go_quiet (fail)
                go_wp2
                go_roundg (n + 30 - (k + 1))
                case measure => omega
                case rel => exact ⟨k + 1, by omega, rfl, by go_num, arr_drewN HW.out.1, below_drewN HW.out.2 _⟩
              · have hr5 : xs.getD k undef = room := by
                  rw [HX.out.1]
                  have : (qs.map Value.string).length ≤ k := by simp; have := HN.out; omega
                  simp only [List.getD, List.getElem?_append_right this]
                  rw [List.getElem?_replicate]
                  have hk3 : k - (qs.map Value.string).length < 30 := by simp; have := HN.out; omega
                  rw [if_pos hk3]; rfl
                rw [hr5] at hc5
                unfold room at hc5
                clear hr5
                have hd1 : decide ((k : Int) < (n : Int)) = false := decide_eq_false (by omega)
                have hd2 : decide (n ≤ k) = true := decide_eq_true (by omega)
                go_wp2
                go_quiet (fail)
                go_wp2
                go_roundg (n + 30 - (k + 1))
                case measure => omega
                case rel => exact ⟨k + 1, by omega, rfl, by go_num, arr_drewN HW.out.1, below_drewN HW.out.2 _⟩
            · have hk' : k = n + 30 := by omega
              subst hk'
              have hsl : SlV wr (.slice (some ⟨g, 0, none⟩) n cw) (qs.map Value.string) := by
                have h1 := (HW.out.1.slv (n := n + 30) (cap := cw) hxl.symm hcw).take n (by omega)
                rw [HX.out.1, List.take_append_of_le_length (by simp; exact Nat.le_of_eq HN.out), List.take_of_length_le (by simp; exact Nat.le_of_eq HN.out.symm)] at h1
                exact h1
              have HS4 := hide hsl
              clear hsl
              go_wp2_with fail
              refine (of_val _ qs A _ HS4.out (by have := HN.out; omega) HF.out.2.2.1 HX.out.2).mono ?_
              rintro e w4 ⟨rfl, hb4⟩
              have HA4 := hide (HW.out.1.past hb4)
              have HB4 := hide (HW.out.2.trans (hb4.mono (by rw [HBD.out]; exact HW.out.2.size)))
              clear hb4
              go_wp2_with fail
              go_loopg [10, 11] n (fun g' v10 v11 wr => ∃ (j : Nat) (all : ByteArray), j ≤ n ∧ g' = n - j ∧ v11 = .int .i64 j ∧ v10 = .string all ∧ all.size ≤ j * 140737488351232 ∧ Hid (Crc.more 0#32 all.data.toList = Crc.ofParts 0#32 ((qs.take j).map bytesOf)) ∧ Hid (Arr wr g 9 (List.replicate j (.string s) ++ xs.drop j) ∧ Below B wc wr))
              case atStart => exact ⟨0, ⟨#[]⟩, by omega, rfl, rfl, rfl, Nat.zero_le _, Crc.more_nil _, HA4.out, HB4.out⟩
              case round =>
                obtain ⟨j, all, hj, rfl, rfl, rfl, hall, HC, HW5⟩ := hrel
                by_cases hjn : j < n
                · have hln : (List.replicate j (Value.string s) ++ xs.drop j).length = n + 30 := by simp; omega
                  have hc5 := HW5.out.1.cell j (by rw [hln]; omega)
                  have hf5 := HW5.out.1.frozen j (by rw [hln]; omega)
                  generalize (List.replicate j (Value.string s) ++ xs.drop j).getD j undef = was at hc5
                  obtain ⟨len0, a0, cap0, hl0, hv0, _, hcl⟩ := HV.out.form
                  injection hv0 with e1 e2 e3
                  subst e1; subst e2; subst e3
                  obtain ⟨b, off, rfl, hbw, hcell⟩ := hcl j hjn
                  have hc0 : wr.cell? ⟨b, off + j, none⟩ = some ((qs.map Value.string).getD j undef) := by rw [HW5.out.2.cell (p := ⟨b, off + j, none⟩) (by rw [HBD.out]; exact hbw)]; exact hcell
                  have hkq : j < qs.length := by rw [← HN.out]; exact hjn
                  rw [getD_map _ _ _ ByteArray.empty hkq] at hc0
                  obtain ⟨p, hp⟩ : ∃ p, p = qs.getD j ByteArray.empty := ⟨_, rfl⟩
                  rw [← hp] at hc0
                  have hps : p.size ≤ 140737488351232 := HF.out.2.1 p (by rw [hp]; simp [List.getD, hkq])
                  have HP := hide hp
                  have HQ := hide hkq
                  have hsum : all.size + p.size ≤ 9223372036854775807 := by
                    have : j * 140737488351232 ≤ 40 * 140737488351232 := Nat.mul_le_mul_right _ (by omega)
                    omega
                  clear hcell hcl hl0 hkq hp hln
                  go_wp2
                  go_roundg (n - (j + 1))
                  case measure => omega
                  case rel =>
                    refine ⟨j + 1, all ++ p, by omega, rfl, by go_num, rfl, by rw [ByteArray.size_append]; omega, ?_, ?_, HW5.out.2.setCell hgB _⟩
                    · show Crc.more 0#32 (all ++ p).data.toList = _
                      rw [bytes_append, Crc.more_append, HC.out]
                      exact (ofParts_take qs j p HQ.out HP.out).symm
                    · rw [← fill_set xs _ j (by omega)]
                      exact HW5.out.1.set j (by simp; omega) _
                · have hj' : j = n := by omega
                  subst hj'
                  obtain ⟨C, hC⟩ : ∃ A : Int, ((Crc.ofParts 0#32 ([s].map bytesOf)).toNat : Int) = A := ⟨_, rfl⟩
                  have hall2 : ((Crc.ofParts 0#32 ([all].map bytesOf)).toNat : Int) = A := by
                    rw [← HX.out.2]
                    have h1 : Crc.more 0#32 all.data.toList = _ := HC.out
                    rw [List.take_of_length_le (by rw [HN.out]; exact Nat.le_refl _)] at h1
                    rw [← h1]; rfl
                  have hall3 : all.size ≤ 9223372036854775807 := by
                    have : j * 140737488351232 ≤ 40 * 140737488351232 := Nat.mul_le_mul_right _ (by omega)
                    omega
                  have HC2 := hide hC
                  have HL2 := hide hall2
                  clear hC hall2 hall
                  by_cases hj0 : j = 0
                  · have hi0 : ((j : Int) == 0) = true := by rw [hj0]; rfl
                    go_wp2_with fail
                    refine (of_val _ [all] A _ (slv_new _ _ _ _ rfl) (by simp) (by intro p hp; rw [List.mem_singleton.1 hp]; exact hall3) HL2.out).mono ?_
                    rintro e w5 ⟨rfl, hb5⟩
                    have HB5 := hide ((HW5.out.2.alloc (by have := HW5.out.2.size; have := HBD.out; omega) _).trans (hb5.mono (by have := HW5.out.2.size; have := HBD.out; simp; omega)))
                    clear hb5
                    go_wp2_with fail
                    go_ret
                    exact ⟨rfl, HB1.out.trans (HB5.out.mono (by rw [HBD.out]; exact HB1.out.size))⟩
                  · have hi0 : ((j : Int) == 0) = false := by
                      rw [beq_eq_false_iff_ne]; omega
                    go_wp2_with fail
                    refine (of_val _ [all] A _ (slv_new _ _ _ _ rfl) (by simp) (by intro p hp; rw [List.mem_singleton.1 hp]; exact hall3) HL2.out).mono ?_
                    rintro e w5 ⟨rfl, hb5⟩
                    have HB5 := hide ((HW5.out.2.alloc (by have := HW5.out.2.size; have := HBD.out; omega) _).trans (hb5.mono (by have := HW5.out.2.size; have := HBD.out; simp; omega)))
                    have HA5 := hide ((HW5.out.1.past (Below.alloc (Below.refl _ _) (Nat.le_refl _) _)).past hb5)
                    clear hb5
                    have hsl : SlV w5 (.slice (some ⟨g, 0, none⟩) 1 cw) ([s].map Value.string) := by
                      have h1 := (HA5.out.slv (n := j + 30) (cap := cw) (by simp; omega) hcw).take 1 (by simp; omega)
                      obtain ⟨j', rfl⟩ : ∃ j', j = j' + 1 := ⟨j - 1, by omega⟩
                      exact h1
                    have HS5 := hide hsl
                    clear hsl
                    go_wp2_with fail
                    refine (of_val _ [s] C _ HS5.out (by simp) (by simpa using hs1) HC2.out).mono ?_
                    rintro e w6 ⟨rfl, hb6⟩
                    have HB6 := hide (HB5.out.trans (hb6.mono (by have := HB5.out.size; have := HBD.out; omega)))
                    clear hb6
                    go_wp2_with fail
                    refine (of_val _ [s] C _ (slv_new _ _ _ _ rfl) (by simp) (by simpa using hs1) HC2.out).mono ?_
                    rintro e w7 ⟨rfl, hb7⟩
                    have HB7 := hide ((HB6.out.alloc (by have := HB6.out.size; have := HBD.out; omega) _).trans (hb7.mono (by have := HB6.out.size; have := HBD.out; simp; omega)))
                    clear hb7
                    go_wp2_with fail
                    go_ret
                    exact ⟨rfl, HB1.out.trans (HB7.out.mono (by rw [HBD.out]; exact HB1.out.size))⟩
#print axioms memory_any
end Go.Proofs.Ytholbjclfkdgbaa
