/-
  massiflaw05.alive answers true.
-/
import Derived.Test.YtholbjclfkdgbaaCrcWalk
import Derived.WalkLawsBesides
namespace Go.Proofs.Ytholbjclfkdgbaa
open Go.RowKit
theorem of_lit (v : Value) (ps : List ByteArray) (n : Int) (w : World) (hv : SlV w v (ps.map Value.string)) (hn : (ps.length ≤ 1000 ∧ ∀ p ∈ ps, p.size ≤ 1000) ∧ ((Crc.ofParts 0#32 (ps.map bytesOf)).toNat : Int) = n) :
    Calls Try.prog 12 #[v] w fun e w' => e = .returned (.int .u32 n) ∧ Below w.heap.size w w' := by
  rw [← hn.2]
  exact of_any v ps w hv (by omega) (fun p h => Nat.le_trans (hn.1.2 p h) (by decide))
theorem more_lit (c : Int) (s : ByteArray) (n : Int) (w : World) (x : BitVec 32) (hx : c = x.toNat) (hs : s.size ≤ 1000 ∧ ((Crc.more x s.data.toList).toNat : Int) = n) :
    Calls Try.prog 13 #[.int .u32 c, .string s] w fun e w' => e = .returned (.int .u32 n) ∧ Below w.heap.size w w' := by
  rw [hx, ← hs.2]
  exact more_any x s w (by omega)

abbrev LitOk (ps : List ByteArray) (n : Int) : Prop := (ps.length ≤ 1000 ∧ ∀ p ∈ ps, p.size ≤ 1000) ∧ ((Crc.ofParts 0#32 (ps.map bytesOf)).toNat : Int) = n
theorem lit1 : LitOk [⟨#[49, 50, 51, 52]⟩, ⟨#[]⟩, ⟨#[53, 54, 55, 56, 57]⟩] 3808858755 := by decide +kernel
theorem lit2 : LitOk [] 0 := by decide +kernel
theorem lit3 : LitOk [⟨#[]⟩] 0 := by decide +kernel
theorem lit4 : LitOk [⟨#[0]⟩] 1383945041 := by decide +kernel
theorem lit5 : LitOk [⟨#[49, 50, 51, 52, 53]⟩] 416359221 := by decide +kernel
theorem lit7 : (⟨#[54, 55, 56, 57]⟩ : ByteArray).size ≤ 1000 ∧ ((Crc.more 416359221#32 (⟨#[54, 55, 56, 57]⟩ : ByteArray).data.toList).toNat : Int) = 3808858755 := by decide +kernel
theorem lit8 : (⟨#[]⟩ : ByteArray).size ≤ 1000 ∧ ((Crc.more 4294967295#32 (⟨#[]⟩ : ByteArray).data.toList).toNat : Int) = 4294967295 := by decide +kernel
theorem lit6 : LitOk [⟨#[97]⟩] 3251651376 := by decide +kernel
set_option maxHeartbeats 1600000 in
set_option maxRecDepth 100000 in
theorem alive_any (w : World) : Calls Try.prog 9 #[] w fun e w' => e = .returned (.bool true) ∧ Below w.heap.size w w' := by
  go_enter Try.func9, Try.ntmps9
  go_wp2_with fail
  refine (of_lit _ [⟨#[49, 50, 51, 52]⟩, ⟨#[]⟩, ⟨#[53, 54, 55, 56, 57]⟩] 3808858755 _ (slv_new _ _ _ _ rfl) lit1).mono ?_
  rintro e w1 ⟨rfl, hb1⟩
  go_wp2_with fail
  refine (of_lit _ [] 0 _ (SlV.nil _) lit2).mono ?_
  rintro e w2 ⟨rfl, hb2⟩
  go_wp2_with fail
  refine (of_lit _ [⟨#[]⟩] 0 _ (slv_new _ _ _ _ rfl) lit3).mono ?_
  rintro e w3 ⟨rfl, hb3⟩
  go_wp2_with fail
  refine (of_lit _ [⟨#[0]⟩] 1383945041 _ (slv_new _ _ _ _ rfl) lit4).mono ?_
  rintro e w4 ⟨rfl, hb4⟩
  go_wp2_with fail
  refine (of_lit _ [⟨#[49, 50, 51, 52, 53]⟩] 416359221 _ (slv_new _ _ _ _ rfl) lit5).mono ?_
  rintro e w5 ⟨rfl, hb5⟩
  go_wp2_with fail
  refine (more_lit _ _ 3808858755 _ 416359221#32 rfl lit7).mono ?_
  rintro e w6 ⟨rfl, hb6⟩
  go_wp2_with fail
  refine (more_lit _ _ 4294967295 _ 4294967295#32 rfl lit8).mono ?_
  rintro e w7 ⟨rfl, hb7⟩
  go_wp2_with fail
  refine (of_lit _ [⟨#[97]⟩] 3251651376 _ (slv_new _ _ _ _ rfl) lit6).mono ?_
  rintro e w8 ⟨rfl, hb8⟩
  go_wp2
  go_ret
  refine ⟨rfl, ?_⟩
  have h1 : Below w.heap.size w w1 := ((Below.refl _ _).alloc (Nat.le_refl _) _).trans (hb1.mono (by simp))
  have h2 := h1.trans (hb2.mono h1.size)
  have h3 := (h2.alloc h2.size _).trans (hb3.mono (by simp; have := h2.size; omega))
  have h4 := (h3.alloc h3.size _).trans (hb4.mono (by simp; have := h3.size; omega))
  have h5 := (h4.alloc h4.size _).trans (hb5.mono (by simp; have := h4.size; omega))
  have h6 := h5.trans (hb6.mono h5.size)
  have h7 := h6.trans (hb7.mono h6.size)
  exact (h7.alloc h7.size _).trans (hb8.mono (by simp; have := h7.size; omega))
#print axioms alive_any
end Go.Proofs.Ytholbjclfkdgbaa
