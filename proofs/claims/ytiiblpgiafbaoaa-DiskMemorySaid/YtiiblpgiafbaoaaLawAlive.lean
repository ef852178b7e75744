/-
  massiflaw17.alive: the chapter's first two examples; the disk's calls with their answers named.
-/
import Derived.Test.YtiiblpgiafbaoaaLawSmall
namespace Go.Proofs.Ytiiblpgiafbaoaa
open Go Go.RowKit Go.Maps
theorem write_val (D : Dk.Blk) (s s' : Dk.St) (n : ByteArray) (off : Int) (x : ByteArray) (r : Int) (w : World) (h : DiskAt w D s) (hn : n.size ≤ 140737488351232) (hx : x.size ≤ 140737488351232) (hk : (Lit.int .i64 off).wf = true) (hleft : s.left = 0) (hacts : s.acts < 4611686018427387904) (hmany : s.files.length < 1099511627776) (hr : Dk.writeC s n off x = (r, s')) :
    Calls Try.prog 14 #[.pointer (some ⟨D.g, 0, none⟩), .string n, .int .i64 off, .string x] w fun e w' => e = .returned (.int .i64 r) ∧ DiskAt w' D s' ∧ Moved (Dk.own D) w w' := by
  have h := diskWrite_calm D s n off x w h hn hx hk hleft hacts hmany
  rw [hr] at h; exact h
theorem cut_val (D : Dk.Blk) (s s' : Dk.St) (n : ByteArray) (k : Int) (r : Int) (w : World) (h : DiskAt w D s) (hn : n.size ≤ 140737488351232) (hk : (Lit.int .i64 k).wf = true) (hleft : s.left = 0) (hacts : s.acts < 4611686018427387904) (hmany : s.files.length < 1099511627776) (hr : Dk.cutC s n k = (r, s')) :
    Calls Try.prog 15 #[.pointer (some ⟨D.g, 0, none⟩), .string n, .int .i64 k] w fun e w' => e = .returned (.int .i64 r) ∧ DiskAt w' D s' ∧ Moved (Dk.own D) w w' := by
  have h := diskCut_calm D s n k w h hn hk hleft hacts hmany
  rw [hr] at h; exact h
theorem sync_val (D : Dk.Blk) (s s' : Dk.St) (n : ByteArray) (r : Int) (w : World) (h : DiskAt w D s) (hn : n.size ≤ 140737488351232) (hleft : s.left = 0) (hacts : s.acts < 4611686018427387904) (hmany : s.files.length < 1099511627776) (hr : Dk.syncC s n = (r, s')) :
    Calls Try.prog 16 #[.pointer (some ⟨D.g, 0, none⟩), .string n] w fun e w' => e = .returned (.int .i64 r) ∧ DiskAt w' D s' ∧ Moved (Dk.own D) w w' := by
  have h := diskSync_calm D s n w h hn hleft hacts hmany
  rw [hr] at h; exact h
theorem read_val (D : Dk.Blk) (s : Dk.St) (n : ByteArray) (off len : Int) (x : ByteArray) (r : Int) (w : World) (h : DiskAt w D s) (hn : n.size ≤ 140737488351232) (ho : (Lit.int .i64 off).wf = true) (hl : (Lit.int .i64 len).wf = true) (hr : Dk.read s n off len = (x, r)) :
    Calls Try.prog 17 #[.pointer (some ⟨D.g, 0, none⟩), .string n, .int .i64 off, .int .i64 len] w fun e w' => e = .returned (.tuple #[.string x, .int .i64 r]) ∧ w' = w := by
  have h := diskRead_any D s n off len w h hn ho hl
  rw [hr] at h; exact h
theorem size_val (D : Dk.Blk) (s : Dk.St) (n : ByteArray) (r : Int) (w : World) (h : DiskAt w D s) (hn : n.size ≤ 140737488351232) (hr : Dk.size s n = r) :
    Calls Try.prog 18 #[.pointer (some ⟨D.g, 0, none⟩), .string n] w fun e w' => e = .returned (.int .i64 r) ∧ w' = w := by
  have h := diskSize_any D s n w h hn
  rw [hr] at h; exact h
theorem acts_val (D : Dk.Blk) (s : Dk.St) (r : Nat) (w : World) (h : DiskAt w D s) (hr : s.acts = r) :
    Calls Try.prog 19 #[.pointer (some ⟨D.g, 0, none⟩)] w fun e w' => e = .returned (.int .i64 (r : Int)) ∧ w' = w := by
  rw [← hr]; exact diskActs_any D s w h
theorem down_val (D : Dk.Blk) (s : Dk.St) (r : Bool) (w : World) (h : DiskAt w D s) (hr : s.down = r) :
    Calls Try.prog 20 #[.pointer (some ⟨D.g, 0, none⟩)] w fun e w' => e = .returned (.bool r) ∧ w' = w := by
  rw [← hr]; exact diskDown_any D s w h
theorem files_val (D : Dk.Blk) (s : Dk.St) (l : List (ByteArray × ByteArray)) (w : World) (h : DiskAt w D s) (hl : Dk.files s = l) :
    Calls Try.prog 22 #[.pointer (some ⟨D.g, 0, none⟩)] w fun e w' => ∃ len a cap, e = .returned (.slice a len cap) ∧ len = l.length ∧ SlF w' (.slice a len cap) l ∧ Below w.heap.size w w' := by
  refine (diskFiles_any D s w h).mono ?_
  rintro e w' ⟨v, rfl, hown, hb⟩
  rw [hl] at hown
  have hs := slf_of_owns hown
  obtain ⟨len, a, cap, hlen, rfl, _, _⟩ := hs.form
  exact ⟨len, a, cap, rfl, hlen, hs, hb⟩
theorem after_val (D : Dk.Blk) (s : Dk.St) (kv : Value) (keep : List Bool) (l : List (ByteArray × ByteArray)) (w : World) (h : DiskAt w D s) (hkv : SlV w kv (keep.map Value.bool)) (hkl : keep.length ≤ 140737488351232) (hl : Dk.after s keep = l) :
    Calls Try.prog 23 #[.pointer (some ⟨D.g, 0, none⟩), kv] w fun e w' => ∃ len a cap, e = .returned (.slice a len cap) ∧ len = l.length ∧ SlF w' (.slice a len cap) l ∧ Below w.heap.size w w' := by
  refine (diskAfter_any D s kv keep w h hkv hkl).mono ?_
  rintro e w' ⟨v, rfl, hown, hb⟩
  rw [hl] at hown
  have hs := slf_of_owns hown
  obtain ⟨len, a, cap, hlen, rfl, _, _⟩ := hs.form
  exact ⟨len, a, cap, rfl, hlen, hs, hb⟩
theorem same_val (v1 v2 : Value) (l1 l2 : List (ByteArray × ByteArray)) (r : Bool) (w : World) (h1 : SlF w v1 l1) (h2 : SlF w v2 l2) (hl : l1.length ≤ 1099511627776) (hl2 : l2.length ≤ 1099511627776) (hr : decide (l1 = l2) = r) :
    Calls Try.prog 21 #[v1, v2] w fun e w' => e = .returned (.bool r) ∧ Below w.heap.size w w' := by
  rw [← hr]; exact same_any v1 v2 l1 l2 w h1 h2 hl hl2
namespace Dk
def sA : ByteArray := ⟨#[97]⟩
def xyz : ByteArray := ⟨#[120, 121, 122]⟩
def al1 : St := ⟨200, [(⟨#[97]⟩, ⟨⟨#[120, 121, 122]⟩, ⟨#[]⟩⟩)], 1, 0, 0, [], 0, false⟩
def al2 : St := ⟨200, [(⟨#[97]⟩, ⟨⟨#[120, 121, 122, 113]⟩, ⟨#[]⟩⟩)], 2, 0, 0, [], 0, false⟩
def al3 : St := ⟨200, [(⟨#[97]⟩, ⟨⟨#[120, 121, 122, 113]⟩, ⟨#[120, 121, 122, 113]⟩⟩)], 3, 0, 0, [], 0, false⟩
def al4 : St := ⟨200, [(⟨#[97]⟩, ⟨⟨#[88, 121, 122, 113]⟩, ⟨#[120, 121, 122, 113]⟩⟩)], 4, 0, 0, [], 0, false⟩
def al5 : St := ⟨200, [(⟨#[97]⟩, ⟨⟨#[88, 121]⟩, ⟨#[120, 121, 122, 113]⟩⟩)], 5, 0, 0, [], 0, false⟩
theorem al_1 : writeC (newSt 200) ⟨#[97]⟩ 0 ⟨#[120, 121, 122]⟩ = (0, al1) := by decide +kernel
theorem al_1b : writeC al1 ⟨#[97]⟩ 5 ⟨#[113]⟩ = (173, al1) := by decide +kernel
theorem al_2 : writeC al1 ⟨#[97]⟩ 3 ⟨#[113]⟩ = (0, al2) := by decide +kernel
theorem al_r : read al2 ⟨#[97]⟩ 1 3 = (⟨#[121, 122, 113]⟩, 0) := by decide +kernel
theorem al_z : size al2 ⟨#[97]⟩ = 4 := by decide +kernel
theorem al_a : after al2 [] = [] := by decide +kernel
theorem al_3 : syncC al2 ⟨#[97]⟩ = (0, al3) := by decide +kernel
theorem al_4 : writeC al3 ⟨#[97]⟩ 0 ⟨#[88]⟩ = (0, al4) := by decide +kernel
theorem al_5 : cutC al4 ⟨#[97]⟩ 2 = (0, al5) := by decide +kernel
theorem al_b : after al5 [false, true] = [(⟨#[97]⟩, ⟨#[88, 121, 0, 0]⟩)] := by decide +kernel
theorem al_c : after al5 [true, false] = [(⟨#[97]⟩, ⟨#[120, 121]⟩)] := by decide +kernel
theorem al_d : files al5 = [(⟨#[97]⟩, ⟨#[88, 121]⟩)] := by decide +kernel
end Dk
end Go.Proofs.Ytiiblpgiafbaoaa
