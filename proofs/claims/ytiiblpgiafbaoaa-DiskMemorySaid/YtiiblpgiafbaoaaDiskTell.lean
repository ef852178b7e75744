/-
  The program's disk: the contracts of New and of the calls that only tell: Acts, Down, Size, Read.
-/
import Derived.Test.YtiiblpgiafbaoaaDiskOwn
namespace Go.Proofs.Ytiiblpgiafbaoaa
open Go Go.RowKit Go.Maps
namespace Dk
def newSt (room : Int) : St := ⟨max room 0, [], 0, 0, 0, [], 0, false⟩
/-- What Read answers. -/
def read (s : St) (n : ByteArray) (off len : Int) : ByteArray × Int :=
  if s.down = true then (⟨#[]⟩, 170)
  else if off < 0 ∨ len < 0 ∨ ((get s.files n).now.size : Int) < off ∨ ((get s.files n).now.size : Int) - off < len then (⟨#[]⟩, 173)
  else ((get s.files n).now.extract off.toNat (off + len).toNat, 0)
def size (s : St) (n : ByteArray) : Int := if s.down = true then 0 else ((get s.files n).now.size : Int)
end Dk
set_option maxRecDepth 100000 in
theorem diskActs_any (D : Dk.Blk) (s : Dk.St) (w : World) (h : DiskAt w D s) :
    Calls Try.prog 19 #[.pointer (some ⟨D.g, 0, none⟩)] w fun e w' => e = .returned (.int .i64 (s.acts : Int)) ∧ w' = w := by
  have h2 := h.c2
  go_enter Try.func19, Try.ntmps19
  go_wp2_with fail
  go_ret
  exact ⟨rfl, rfl⟩
set_option maxRecDepth 100000 in
theorem diskDown_any (D : Dk.Blk) (s : Dk.St) (w : World) (h : DiskAt w D s) :
    Calls Try.prog 20 #[.pointer (some ⟨D.g, 0, none⟩)] w fun e w' => e = .returned (.bool s.down) ∧ w' = w := by
  have h7 := h.c7
  go_enter Try.func20, Try.ntmps20
  go_wp2_with fail
  go_ret
  exact ⟨rfl, rfl⟩
set_option maxRecDepth 100000 in
theorem diskSize_any (D : Dk.Blk) (s : Dk.St) (n : ByteArray) (w : World) (h : DiskAt w D s) (hn : n.size ≤ 140737488351232) :
    Calls Try.prog 18 #[.pointer (some ⟨D.g, 0, none⟩), .string n] w fun e w' => e = .returned (.int .i64 (Dk.size s n)) ∧ w' = w := by
  have h1 := h.c1
  have h7 := h.c7
  have hlk := h.look n hn
  have hf0 := fld0
  have hsz := (Dk.get_sizes h.ok n).1
  obtain ⟨f, hf⟩ : ∃ f, f = Dk.get s.files n := ⟨_, rfl⟩
  rw [← hf] at hlk hsz
  obtain ⟨dn, hd⟩ : ∃ d, d = s.down := ⟨_, rfl⟩
  rw [← hd] at h7
  have HS := hide (show Dk.size s n = if dn = true then 0 else (f.now.size : Int) by unfold Dk.size; rw [hd, hf])
  clear h hf hd
  go_enter Try.func18, Try.ntmps18
  rw [HS.out]
  cases dn with
  | true =>
    go_wp2_with fail
    go_ret
    exact ⟨rfl, rfl⟩
  | false =>
    go_wp2_with fail
    go_ret
    exact ⟨rfl, rfl⟩
set_option maxHeartbeats 1600000 in
set_option maxRecDepth 100000 in
theorem diskRead_any (D : Dk.Blk) (s : Dk.St) (n : ByteArray) (off len : Int) (w : World) (h : DiskAt w D s) (hn : n.size ≤ 140737488351232) (ho : (Lit.int .i64 off).wf = true) (hl : (Lit.int .i64 len).wf = true) :
    Calls Try.prog 17 #[.pointer (some ⟨D.g, 0, none⟩), .string n, .int .i64 off, .int .i64 len] w
      fun e w' => e = .returned (.tuple #[.string (Dk.read s n off len).1, .int .i64 (Dk.read s n off len).2]) ∧ w' = w := by
  have h1 := h.c1
  have h7 := h.c7
  have hlk := h.look n hn
  have hf0 := fld0
  have hsz := (Dk.get_sizes h.ok n).1
  obtain ⟨f, hf⟩ : ∃ f, f = Dk.get s.files n := ⟨_, rfl⟩
  rw [← hf] at hlk hsz
  obtain ⟨dn, hd⟩ : ∃ d, d = s.down := ⟨_, rfl⟩
  rw [← hd] at h7
  obtain ⟨r, hr⟩ : ∃ r, r = Dk.read s n off len := ⟨_, rfl⟩
  have HR := hide (show r = if dn = true then (⟨#[]⟩, 170) else if off < 0 ∨ len < 0 ∨ (f.now.size : Int) < off ∨ (f.now.size : Int) - off < len then (⟨#[]⟩, 173) else (f.now.extract off.toNat (off + len).toNat, 0) by rw [hr, hd, hf]; rfl)
  rw [← hr]
  have hob : -9223372036854775808 ≤ off ∧ off ≤ 9223372036854775807 := by
    have h : IntKind.i64.min ≤ off ∧ off ≤ IntKind.i64.max := by simpa [Lit.wf] using ho
    exact h
  have hlb : -9223372036854775808 ≤ len ∧ len ≤ 9223372036854775807 := by
    have h : IntKind.i64.min ≤ len ∧ len ≤ IntKind.i64.max := by simpa [Lit.wf] using hl
    exact h
  clear h hf hd hr ho hl
  go_enter Try.func17, Try.ntmps17
  cases dn with
  | true =>
    have e := HR.out
    rw [if_pos rfl] at e
    subst e
    go_wp2_with fail
    go_ret2
    exact ⟨rfl, rfl⟩
  | false =>
    have e := HR.out
    rw [if_neg (by decide)] at e
    by_cases c1 : off < 0
    · rw [if_pos (.inl c1)] at e
      subst e
      go_wp2_with fail
      go_ret2
      exact ⟨rfl, rfl⟩
    · by_cases c2 : len < 0
      · rw [if_pos (.inr (.inl c2))] at e
        subst e
        go_wp2_with fail
        go_ret2
        exact ⟨rfl, rfl⟩
      · by_cases c3 : (f.now.size : Int) < off
        · rw [if_pos (.inr (.inr (.inl c3)))] at e
          subst e
          go_wp2_with fail
          go_ret2
          exact ⟨rfl, rfl⟩
        · by_cases c4 : (f.now.size : Int) - off < len
          · rw [if_pos (.inr (.inr (.inr c4)))] at e
            subst e
            go_wp2_with fail
            go_ret2
            exact ⟨rfl, rfl⟩
          · rw [if_neg (by omega)] at e
            obtain ⟨o, rfl⟩ : ∃ o : Nat, off = (o : Int) := ⟨off.toNat, by omega⟩
            obtain ⟨k, rfl⟩ : ∃ k : Nat, len = (k : Int) := ⟨len.toNat, by omega⟩
            have e2 : r = (f.now.extract o (o + k), 0) := by rw [e]; congr 2
            clear e HR
            subst e2
            have hsl := fun w => run_slice_string (P := Try.prog) w 9 f.now .i64 .i64 (o : Int) ((o : Int) + (k : Int)) Try.underlying9 (by omega) (by omega) (by omega)
            go_wp2_with fail
            go_ret2
            exact ⟨rfl, rfl⟩
end Go.Proofs.Ytiiblpgiafbaoaa
