/-
  The walks of the laws of chapter 05.
-/
import Derived.Test.YtholbjclfkdgbaaCrcRef
namespace Go.Proofs.Ytholbjclfkdgbaa
open Go.RowKit
open Crc (bv_lt int_u32 ret_u32)
theorem few_any (v : Value) (xs : List Value) (w : World) (hv : SlV w v xs) (hn : xs.length ≤ 140737488351232) :
    Calls Try.prog 10 #[v, .int .i64 40] w fun e w' => ∃ v', e = .returned v' ∧ SlV w v' (xs.take 40) ∧ w = w' := by
  obtain ⟨len, a, cap, hlen, rfl, hc, _⟩ := hv.form
  rw [← hlen] at hn
  have HV := hide hv
  have HL := hide hlen
  clear hv hlen
  by_cases h : 40 < len
  · have HT := hide (SlV.take HV.out 40 (by rw [← HL.out]; omega))
    have hcap : (40 : Int) ≤ cap := by omega
    go_enter Try.func10, Try.ntmps10
    go_wp2
    go_ret
    exact ⟨_, rfl, HT.out, rfl⟩
  · have HT := hide (show SlV w (.slice a len cap) (xs.take 40) by rw [List.take_of_length_le (by rw [← HL.out]; omega)]; exact HV.out)
    go_enter Try.func10, Try.ntmps10
    go_wp2
    go_ret
    exact ⟨_, rfl, HT.out, rfl⟩
theorem info_str : (Try.prog.info? 9).map (fun i => (i.zero, i.size, i.bytes)) = some (some (.string ByteArray.empty), 1, 16) := by kernel_rfl
theorem below_new {w w1 : World} (h : Below w.heap.size w w1) {w2 : World} (o : Obj) (h2 : Below (w1.alloc o).heap.size (w1.alloc o) w2) : Below w.heap.size w w2 :=
  (h.alloc h.size o).trans (h2.mono (by simp; have := h.size; omega))
theorem below_next {w w1 w2 : World} (h : Below w.heap.size w w1) (h2 : Below w1.heap.size w1 w2) : Below w.heap.size w w2 := h.trans (h2.mono h.size)
theorem ones_str (ps : List ByteArray) : ∀ u ∈ ps.map Value.string, u.oneCell' = true := by
  intro u hu
  obtain ⟨p, _, rfl⟩ := List.mem_map.1 hu
  rfl
theorem ofParts_one (x : BitVec 32) (s : ByteArray) : Crc.ofParts x ([s].map bytesOf) = Crc.more x s.data.toList := rfl
/-- append([]string{}, ..): a row of the call's own, new. -/
theorem owns_empty (w : World) (T : Nat) : (w.alloc (.cells #[] T)).ownsRow w.heap.size T 1 (.slice (some ⟨w.heap.size, 0, none⟩) 0 0) 0 [] := World.ownsRow_lit _ #[] 0 (Nat.le_refl _) (Nat.zero_le _) rfl
set_option maxHeartbeats 1600000 in
set_option maxRecDepth 100000 in
theorem sums_any (v : Value) (ps : List ByteArray) (c : BitVec 32) (s : ByteArray) (w : World) (hv : SlV w v (ps.map Value.string)) (hn : ps.length * 16 ≤ 140737488351232) (hps : ∀ p ∈ ps, p.size ≤ 140737488351232) (hs : s.size ≤ 140737488351232) :
    Calls Try.prog 3 #[v, .int .u32 (c.toNat : Int), .string s] w fun e w' => e = .returned (.bool true) ∧ Below w.heap.size w w' := by
  obtain ⟨qs, hqs⟩ : ∃ qs, qs = ps.take 40 := ⟨_, rfl⟩
  have hps2 : ∀ p ∈ qs, p.size ≤ 9223372036854775807 := fun p h => Nat.le_trans (hps p (List.mem_of_mem_take (hqs ▸ h))) (by decide)
  have hlen : qs.length ≤ 40 := by rw [hqs]; simp; omega
  have HF := hide (And.intro hv (And.intro hn (And.intro hps2 (And.intro hlen hqs))))
  clear hv hn hps hps2 hlen hqs
  have hs1 : s.size ≤ 9223372036854775807 := by omega
  go_enter Try.func3, Try.ntmps3
  go_wp2_with fail
  refine (alive_any _).mono ?_
  rintro e w1 ⟨rfl, hb1⟩
  have HB1 := hide hb1
  clear hb1
  go_wp2_with fail
  refine (few_any v _ _ (HF.out.1.below HB1.out) (by have := HF.out.2.1; simp; omega)).mono ?_
  rintro e w' ⟨v', rfl, hv', rfl⟩
  rw [← List.map_take, ← HF.out.2.2.2.2] at hv'
  have HV := hide hv'
  clear hv'
  go_wp2_with (at_builtin; refine wpList_append_slv rfl _ _ 22 rfl w1.heap.size 9 _ 16 Try.underlying22 info_str rfl _ 0 [] rfl (owns_empty _ _) _ (qs.map Value.string) rfl (HV.out.below (Below.alloc (Below.refl _ _) (Nat.le_refl _) _)) (ones_str _) ?_ ?_ (by simp) ?_)
  · have := HF.out.2.2.2.1; unfold maxLen; simp; omega
  · have := HF.out.2.2.2.1; simp; omega
  · intro v2 w2 hown hgr
    have HB2 := hide ((HB1.out.alloc HB1.out.size _).grown hgr (by simp; have := HB1.out.size; omega) (fun k hk => by cases hk; exact HB1.out.size))
    have HV2 := hide (show SlV w2 v2 (qs.map Value.string) by have := slv_of_owns hown; simpa using this)
    have HV1 := hide (show SlV w2 v' (qs.map Value.string) from HV.out.below (((Below.refl _ _).alloc (Nat.le_refl _) _).grown hgr (by simp) (fun k hk => by cases hk; exact Nat.le_refl _)))
    clear hown hgr
    go_wp2_with fail
    refine (refOf_any v2 qs _ HV2.out (by have := HF.out.2.2.2.1; omega) HF.out.2.2.1).mono ?_
    rintro e w3 ⟨rfl, hb3⟩
    have HB3 := hide (below_next HB2.out hb3)
    have HV3 := hide (HV1.out.below hb3)
    clear hb3
    go_wp2_with fail
    refine (of_any v' qs _ HV3.out (by have := HF.out.2.2.2.1; omega) HF.out.2.2.1).mono ?_
    rintro e w4 ⟨rfl, hb4⟩
    have HB4 := hide (below_next HB3.out hb4)
    clear hb4
    go_wp2_with fail
    refine (of_any _ [s] _ (slv_new _ _ _ _ rfl) (by simp) (by simpa using hs1)).mono ?_
    rintro e w5 ⟨rfl, hb5⟩
    have HB5 := hide (below_new HB4.out _ hb5)
    clear hb5
    go_wp2_with fail
    refine (refOf_any _ [s] _ (slv_new _ _ _ _ rfl) (by simp) (by simpa using hs1)).mono ?_
    rintro e w6 ⟨rfl, hb6⟩
    have HB6 := hide (below_new HB5.out _ hb6)
    clear hb6
    go_wp2_with fail
    refine (more_any c s _ hs1).mono ?_
    rintro e w7 ⟨rfl, hb7⟩
    have HB7 := hide (below_next HB6.out hb7)
    clear hb7
    go_wp2_with fail
    refine (refMore_any c s _ hs1).mono ?_
    rintro e w8 ⟨rfl, hb8⟩
    have HB8 := hide (below_next HB7.out hb8)
    clear hb8
    go_wp2
    go_ret
    exact ⟨rfl, HB8.out⟩
#print axioms sums_any
end Go.Proofs.Ytholbjclfkdgbaa
