/-
  The program's disk in memory: what blocks it has, what they hold; the contracts of New and of the calls that only tell (Size, Acts, Down, Read).
-/
import Derived.Test.YtbfbajfdlkgloaaGreatDoorProg
import Derived.Test.YtbfbajfdlkgloaaGreatDoorG00
import Derived.Test.YtbfbajfdlkgloaaGreatDoorG01
import Derived.Deep.CutRange
import Derived.Carry

namespace Go.Proofs.YtbfbajfdlkgloaaGreatDoor
open Go Go.RowKit Go.Maps
/-! ### what has turned: the blocks of S, and no other -/
structure Moved (S : Nat → Prop) (w w' : World) : Prop where
  os : w'.os = w.os
  tape : w'.tape = w.tape
  output : w'.output = w.output
  size : w.heap.size ≤ w'.heap.size
  block : ∀ k, k < w.heap.size → ¬ S k → w'.heap[k]? = w.heap[k]?
theorem Moved.refl (S : Nat → Prop) (w : World) : Moved S w w := ⟨rfl, rfl, rfl, Nat.le_refl _, fun _ _ _ => rfl⟩
theorem Moved.trans {S S' : Nat → Prop} {a b c : World} (h : Moved S a b) (k : Moved S' b c) (hs : ∀ j, S' j → S j ∨ a.heap.size ≤ j) : Moved S a c :=
  ⟨k.os.trans h.os, k.tape.trans h.tape, k.output.trans h.output, Nat.le_trans h.size k.size, fun j hj hn => (k.block j (Nat.lt_of_lt_of_le hj h.size) (fun hs' => (hs j hs').elim hn (fun hle => by omega))).trans (h.block j hj hn)⟩
theorem Moved.mono {S S' : Nat → Prop} {a b : World} (h : Moved S a b) (hs : ∀ j, S j → S' j) : Moved S' a b := ⟨h.os, h.tape, h.output, h.size, fun j hj hn => h.block j hj (fun x => hn (hs j x))⟩
theorem Moved.then {S : Nat → Prop} {a b c : World} (h : Moved S a b) (k : Moved S b c) : Moved S a c := h.trans k fun _ => .inl
theorem Moved.of_below {S : Nat → Prop} {w w' : World} (h : Below w.heap.size w w') : Moved S w w' := ⟨h.os, h.tape, h.output, h.size, fun j hj _ => h.block j hj⟩
theorem Moved.of_belowB {B : Nat} {w w' : World} (h : Below B w w') : Moved (fun k => B ≤ k) w w' := ⟨h.os, h.tape, h.output, h.size, fun j _ hn => h.block j (Nat.lt_of_not_le hn)⟩
theorem Moved.below {S : Nat → Prop} {w w' : World} (h : Moved S w w') {B : Nat} (hB : B ≤ w.heap.size) (hs : ∀ j, S j → B ≤ j) : Below B w w' := ⟨h.os, h.tape, h.output, h.size, fun j hj => h.block j (by omega) (fun hS => by have := hs j hS; omega)⟩
theorem Moved.of_grown {S : Nat → Prop} {w w' : World} {row : Option Nat} (h : w.grownBy w' row) (hs : ∀ j, row = some j → S j) : Moved S w w' := ⟨h.os, h.tape, h.output, h.size, fun j hj hn => h.block j hj (fun e => hn (hs j e.symm))⟩
theorem Moved.setCell {S : Nat → Prop} {w w' : World} (h : Moved S w w') {a : Addr} (ha : S a.block) (v : Value) : Moved S w (w'.setCell a v) := by
  have hb := Below.setCell (B := 0) (Below.refl 0 w') (Nat.zero_le a.block) v
  refine h.then ⟨hb.os, hb.tape, hb.output, hb.size, fun j _ hn => ?_⟩
  exact Below.heap_setCell w' a v j (fun e => hn (e ▸ ha))
theorem Moved.alloc {S : Nat → Prop} {w w' : World} (h : Moved S w w') (o : Obj) : Moved S w (w'.alloc o) := h.then (Moved.of_below ((Below.refl _ _).alloc (Nat.le_refl _) _))
theorem Moved.drew {S : Nat → Prop} {w w' : World} (h : Moved S w w') : Moved S w w'.drew := h.then (Moved.of_below (Below.refl _ _).drew)
/-! ### the disk -/
namespace Dk
structure St where
  room : Int
  files : Fs
  acts : Nat
  fat : Int
  kind : Int
  keep : List Bool
  left : Int
  down : Bool
deriving DecidableEq
structure Blk where
  g : Nat
  mb : Nat
  kv : Value
def cells (D : Blk) (s : St) : Array Value := #[.int .i64 s.room, .map (some D.mb), .int .i64 (s.acts : Int), .int .i64 s.fat, .int .i64 s.kind, D.kv, .int .i64 s.left, .bool s.down]
def slBlk : Value → Option Nat
  | .slice (some a) len _ => if len = 0 then none else some a.block
  | _ => none
theorem slBlk_some (a : Addr) (len cap : Nat) : slBlk (.slice (some a) len cap) = if len = 0 then none else some a.block := rfl
/-- Numbers and lengths are within what memory bears. -/
structure Ok (s : St) : Prop where
  room : 0 ≤ s.room ∧ s.room ≤ 9223372036854775807
  acts : s.acts ≤ 4611686018427387904
  left : 0 ≤ s.left ∧ s.left ≤ 9223372036854775807
  names : ∀ p ∈ s.files, p.1.size ≤ 140737488351232
  many : s.files.length ≤ 1099511627776
  sizes : ∀ p ∈ s.files, p.2.now.size ≤ 268435456 ∧ p.2.was.size ≤ 268435456
  up : Up s.files
theorem get_mem {l : Fs} {n : ByteArray} : get l n = F.none ∨ ∃ p ∈ l, p.1 = n ∧ get l n = p.2 := by
  unfold get
  cases h : l.find? (fun p => decide (p.1 = n)) with
  | none => exact .inl rfl
  | some p => exact .inr ⟨p, List.mem_of_find?_eq_some h, by have := List.find?_some h; simpa using this, rfl⟩
theorem get_sizes {s : St} (h : Ok s) (n : ByteArray) : (get s.files n).now.size ≤ 268435456 ∧ (get s.files n).was.size ≤ 268435456 := by
  rcases get_mem (l := s.files) (n := n) with e | ⟨p, hp, _, e⟩
  · rw [e]; exact ⟨by decide, by decide⟩
  · rw [e]; exact h.sizes p hp
end Dk
theorem strK : Keyed Tryz.prog 9 := string_keyed Tryz.underlying9
theorem zeroFile (w : World) : (zeroValue 96).run Tryz.prog w = .ok (Dk.valF Dk.F.none) w := by kernel_rfl
theorem fld0 (a b : ByteArray) (w : World) : (Instr.field 96 (.agg #[.string a, .string b]) 0).run Tryz.prog w = .ok (.string a) w := by kernel_rfl
theorem fld1 (a b : ByteArray) (w : World) : (Instr.field 96 (.agg #[.string a, .string b]) 1).run Tryz.prog w = .ok (.string b) w := by kernel_rfl
structure DiskAt (w : World) (D : Dk.Blk) (s : Dk.St) : Prop where
  ok : Dk.Ok s
  cells : w.heap[D.g]? = some (.cells (Dk.cells D s) 87 (0, 0))
  map : w.ownsMap Tryz.prog 9 Dk.R D.mb s.files.length (Dk.dat s.files)
  keep : SlV w D.kv (s.keep.map Value.bool)
  apart : Dk.slBlk D.kv ≠ some D.g ∧ Dk.slBlk D.kv ≠ some D.mb
theorem DiskAt.ne {w : World} {D : Dk.Blk} {s : Dk.St} (h : DiskAt w D s) : D.g ≠ D.mb := by
  intro e
  obtain ⟨es, clock, hb, _⟩ := h.map
  have := h.cells
  rw [e, hb] at this
  cases this
theorem DiskAt.glt {w : World} {D : Dk.Blk} {s : Dk.St} (h : DiskAt w D s) : D.g < w.heap.size := heap_lt h.cells
theorem SlV.blk_lt {w : World} {v : Value} {xs : List Value} (h : SlV w v xs) {k : Nat} (hk : Dk.slBlk v = some k) : k < w.heap.size := by
  rcases h with ⟨rfl, a, cap, rfl, _⟩ | ⟨b, off, cap, rfl, hc, hlt, hx⟩
  · cases a <;> simp [Dk.slBlk] at hk
  · rw [Dk.slBlk_some] at hk
    by_cases h0 : xs.length = 0
    · rw [if_pos h0] at hk; cases hk
    · rw [if_neg h0] at hk
      injection hk with hk
      rw [← hk]; exact hlt
theorem SlV.stay {w w' : World} {v : Value} {xs : List Value} (h : SlV w v xs) (hs : w.heap.size ≤ w'.heap.size) (hb : ∀ k, Dk.slBlk v = some k → k < w.heap.size → w'.heap[k]? = w.heap[k]?) : SlV w' v xs := by
  rcases h with h | ⟨b, off, cap, rfl, hc, hlt, hx⟩
  · exact .inl h
  · refine .inr ⟨b, off, cap, rfl, hc, by omega, fun j hj => ?_⟩
    rw [World.cell?_of_block (a := ⟨b, off + j, none⟩) (hb b (by rw [Dk.slBlk_some, if_neg (by omega)]) hlt)]
    exact hx j hj
/-- What the disk's blocks have to stay: neither its struct, nor its map, nor its list of choices is among those that turn. -/
def Dk.Away (D : Dk.Blk) (S : Nat → Prop) : Prop := ¬ S D.g ∧ ¬ S D.mb ∧ ∀ k, Dk.slBlk D.kv = some k → ¬ S k
theorem DiskAt.stay {w w' : World} {D : Dk.Blk} {s : Dk.St} {S : Nat → Prop} (h : DiskAt w D s) (hm : Moved S w w') (ha : Dk.Away D S) : DiskAt w' D s := by
  refine ⟨h.ok, (hm.block D.g h.glt ha.1).trans h.cells, ?_, ?_, h.apart⟩
  · obtain ⟨es, clock, hb, F, hs, hD⟩ := h.map
    exact ⟨es, clock, (hm.block D.mb h.map.lt ha.2.1).trans hb, F, hs, hD⟩
  · exact h.keep.stay hm.size fun k hk hlt => hm.block k hlt (ha.2.2 k hk)
theorem DiskAt.past {w w' : World} {D : Dk.Blk} {s : Dk.St} (h : DiskAt w D s) (hb : Below w.heap.size w w') : DiskAt w' D s :=
  h.stay (S := fun _ => False) (Moved.of_below hb) ⟨id, id, fun _ _ => id⟩
theorem look_map {w : World} {l : Dk.Fs} {mb nn : Nat} (h : w.ownsMap Tryz.prog 9 Dk.R mb nn (Dk.dat l)) (n : ByteArray) (hn : n.size ≤ 140737488351232) :
    (Instr.lookup 85 (.map (some mb)) (.string n) false).run Tryz.prog w = .ok (.agg #[.string (Dk.get l n).now, .string (Dk.get l n).was]) w := by
  obtain ⟨v, ps, hrun, hv⟩ := h.lookup strK Tryz.underlying85 (zeroFile w) (Dk.R_val Dk.F.none) (Go.WideMaps.keyOf_string_mk Tryz.underlying9 (s := n) (by unfold maxLen; omega))
  have e : (Dk.dat l).atKey (.string n.data.toList) (Dk.datF Dk.F.none) = Dk.datF (Dk.get l n) := Dk.get_dat l n
  rw [e] at hv
  obtain ⟨f, hf, hd⟩ := Dk.R_inv hv
  have := Dk.datF_inj hd
  subst hf
  rw [hrun, this]; rfl
theorem DiskAt.look {w : World} {D : Dk.Blk} {s : Dk.St} (h : DiskAt w D s) (n : ByteArray) (hn : n.size ≤ 140737488351232) :
    (Instr.lookup 85 (.map (some D.mb)) (.string n) false).run Tryz.prog w = .ok (.agg #[.string (Dk.get s.files n).now, .string (Dk.get s.files n).was]) w := look_map h.map n hn
theorem DiskAt.cell {w : World} {D : Dk.Blk} {s : Dk.St} (h : DiskAt w D s) (i : Nat) : w.cell? ⟨D.g, i, none⟩ = (Dk.cells D s)[i]? := cell_blk h.cells i
theorem DiskAt.c0 {w : World} {D : Dk.Blk} {s : Dk.St} (h : DiskAt w D s) : w.cell? ⟨D.g, 0, none⟩ = some (.int .i64 s.room) := h.cell 0
theorem DiskAt.c1 {w : World} {D : Dk.Blk} {s : Dk.St} (h : DiskAt w D s) : w.cell? ⟨D.g, 1, none⟩ = some (.map (some D.mb)) := h.cell 1
theorem DiskAt.c2 {w : World} {D : Dk.Blk} {s : Dk.St} (h : DiskAt w D s) : w.cell? ⟨D.g, 2, none⟩ = some (.int .i64 (s.acts : Int)) := h.cell 2
theorem DiskAt.c3 {w : World} {D : Dk.Blk} {s : Dk.St} (h : DiskAt w D s) : w.cell? ⟨D.g, 3, none⟩ = some (.int .i64 s.fat) := h.cell 3
theorem DiskAt.c4 {w : World} {D : Dk.Blk} {s : Dk.St} (h : DiskAt w D s) : w.cell? ⟨D.g, 4, none⟩ = some (.int .i64 s.kind) := h.cell 4
theorem DiskAt.c5 {w : World} {D : Dk.Blk} {s : Dk.St} (h : DiskAt w D s) : w.cell? ⟨D.g, 5, none⟩ = some (D.kv) := h.cell 5
theorem DiskAt.c6 {w : World} {D : Dk.Blk} {s : Dk.St} (h : DiskAt w D s) : w.cell? ⟨D.g, 6, none⟩ = some (.int .i64 s.left) := h.cell 6
theorem DiskAt.c7 {w : World} {D : Dk.Blk} {s : Dk.St} (h : DiskAt w D s) : w.cell? ⟨D.g, 7, none⟩ = some (.bool s.down) := h.cell 7
theorem DiskAt.free {w : World} {D : Dk.Blk} {s : Dk.St} (h : DiskAt w D s) (i : Nat) : w.frozen? ⟨D.g, i, none⟩ = false := frozen_blk h.cells i
end Go.Proofs.YtbfbajfdlkgloaaGreatDoor

/-
  The program's disk: the contracts of New and of the calls that only tell: Acts, Down, Size, Read.
-/
namespace Go.Proofs.YtbfbajfdlkgloaaGreatDoor
open Go Go.RowKit Go.Maps
namespace Dk
def newSt (room : Int) : St := ⟨max room 0, [], 0, 0, 0, [], 0, false⟩
/-- What Read answers. -/
def read (s : St) (n : ByteArray) (off len : Int) : ByteArray × Int :=
  if s.down = true then (⟨#[]⟩, 170)
  else if off < 0 ∨ len < 0 ∨ ((get s.files n).now.size : Int) < off ∨ ((get s.files n).now.size : Int) - off < len then (⟨#[]⟩, 173)
  else ((get s.files n).now.extract off.toNat (off + len).toNat, 0)
def size (s : St) (n : ByteArray) : Int := if s.down = true then 0 else ((get s.files n).now.size : Int)
end Dk
set_option maxRecDepth 100000 in
theorem diskActs_any (D : Dk.Blk) (s : Dk.St) (w : World) (h : DiskAt w D s) :
    Calls Tryz.prog 17 #[.pointer (some ⟨D.g, 0, none⟩)] w fun e w' => e = .returned (.int .i64 (s.acts : Int)) ∧ w' = w := by
  have h2 := h.c2
  go_enter Tryz.func17, Tryz.ntmps17
  go_wp2_with fail
  go_ret
  exact ⟨rfl, rfl⟩
set_option maxRecDepth 100000 in
theorem diskDown_any (D : Dk.Blk) (s : Dk.St) (w : World) (h : DiskAt w D s) :
    Calls Tryz.prog 41 #[.pointer (some ⟨D.g, 0, none⟩)] w fun e w' => e = .returned (.bool s.down) ∧ w' = w := by
  have h7 := h.c7
  go_enter Tryz.func41, Tryz.ntmps41
  go_wp2_with fail
  go_ret
  exact ⟨rfl, rfl⟩
set_option maxRecDepth 100000 in
theorem diskSize_any (D : Dk.Blk) (s : Dk.St) (n : ByteArray) (w : World) (h : DiskAt w D s) (hn : n.size ≤ 140737488351232) :
    Calls Tryz.prog 24 #[.pointer (some ⟨D.g, 0, none⟩), .string n] w fun e w' => e = .returned (.int .i64 (Dk.size s n)) ∧ w' = w := by
  have h1 := h.c1
  have h7 := h.c7
  have hlk := h.look n hn
  have hf0 := fld0
  have hsz := (Dk.get_sizes h.ok n).1
  obtain ⟨f, hf⟩ : ∃ f, f = Dk.get s.files n := ⟨_, rfl⟩
  rw [← hf] at hlk hsz
  obtain ⟨dn, hd⟩ : ∃ d, d = s.down := ⟨_, rfl⟩
  rw [← hd] at h7
  have HS := hide (show Dk.size s n = if dn = true then 0 else (f.now.size : Int) by unfold Dk.size; rw [hd, hf])
  clear h hf hd
  go_enter Tryz.func24, Tryz.ntmps24
  rw [HS.out]
  cases dn with
  | true =>
    go_wp2_with fail
    go_ret
    exact ⟨rfl, rfl⟩
  | false =>
    go_wp2_with fail
    go_ret
    exact ⟨rfl, rfl⟩
set_option maxHeartbeats 1600000 in
set_option maxRecDepth 100000 in
theorem diskRead_any (D : Dk.Blk) (s : Dk.St) (n : ByteArray) (off len : Int) (w : World) (h : DiskAt w D s) (hn : n.size ≤ 140737488351232) (ho : (Lit.int .i64 off).wf = true) (hl : (Lit.int .i64 len).wf = true) :
    Calls Tryz.prog 95 #[.pointer (some ⟨D.g, 0, none⟩), .string n, .int .i64 off, .int .i64 len] w
      fun e w' => e = .returned (.tuple #[.string (Dk.read s n off len).1, .int .i64 (Dk.read s n off len).2]) ∧ w' = w := by
  have h1 := h.c1
  have h7 := h.c7
  have hlk := h.look n hn
  have hf0 := fld0
  have hsz := (Dk.get_sizes h.ok n).1
  obtain ⟨f, hf⟩ : ∃ f, f = Dk.get s.files n := ⟨_, rfl⟩
  rw [← hf] at hlk hsz
  obtain ⟨dn, hd⟩ : ∃ d, d = s.down := ⟨_, rfl⟩
  rw [← hd] at h7
  obtain ⟨r, hr⟩ : ∃ r, r = Dk.read s n off len := ⟨_, rfl⟩
  have HR := hide (show r = if dn = true then (⟨#[]⟩, 170) else if off < 0 ∨ len < 0 ∨ (f.now.size : Int) < off ∨ (f.now.size : Int) - off < len then (⟨#[]⟩, 173) else (f.now.extract off.toNat (off + len).toNat, 0) by rw [hr, hd, hf]; rfl)
  rw [← hr]
  have hob : -9223372036854775808 ≤ off ∧ off ≤ 9223372036854775807 := by
    have h : IntKind.i64.min ≤ off ∧ off ≤ IntKind.i64.max := by simpa [Lit.wf] using ho
    exact h
  have hlb : -9223372036854775808 ≤ len ∧ len ≤ 9223372036854775807 := by
    have h : IntKind.i64.min ≤ len ∧ len ≤ IntKind.i64.max := by simpa [Lit.wf] using hl
    exact h
  clear h hf hd hr ho hl
  go_enter Tryz.func95, Tryz.ntmps95
  cases dn with
  | true =>
    have e := HR.out
    rw [if_pos rfl] at e
    subst e
    go_wp2_with fail
    go_ret2
    exact ⟨rfl, rfl⟩
  | false =>
    have e := HR.out
    rw [if_neg (by decide)] at e
    by_cases c1 : off < 0
    · rw [if_pos (.inl c1)] at e
      subst e
      go_wp2_with fail
      go_ret2
      exact ⟨rfl, rfl⟩
    · by_cases c2 : len < 0
      · rw [if_pos (.inr (.inl c2))] at e
        subst e
        go_wp2_with fail
        go_ret2
        exact ⟨rfl, rfl⟩
      · by_cases c3 : (f.now.size : Int) < off
        · rw [if_pos (.inr (.inr (.inl c3)))] at e
          subst e
          go_wp2_with fail
          go_ret2
          exact ⟨rfl, rfl⟩
        · by_cases c4 : (f.now.size : Int) - off < len
          · rw [if_pos (.inr (.inr (.inr c4)))] at e
            subst e
            go_wp2_with fail
            go_ret2
            exact ⟨rfl, rfl⟩
          · rw [if_neg (by omega)] at e
            obtain ⟨o, rfl⟩ : ∃ o : Nat, off = (o : Int) := ⟨off.toNat, by omega⟩
            obtain ⟨k, rfl⟩ : ∃ k : Nat, len = (k : Int) := ⟨len.toNat, by omega⟩
            have e2 : r = (f.now.extract o (o + k), 0) := by rw [e]; congr 2
            clear e HR
            subst e2
            have hsl := fun w => run_slice_string (P := Tryz.prog) w 9 f.now .i64 .i64 (o : Int) ((o : Int) + (k : Int)) Tryz.underlying9 (by omega) (by omega) (by omega)
            go_wp2_with fail
            go_ret2
            exact ⟨rfl, rfl⟩
end Go.Proofs.YtbfbajfdlkgloaaGreatDoor

/-
  The program's disk: New; used (the sum over the map, in whatever order).
-/
namespace Go.Proofs.YtbfbajfdlkgloaaGreatDoor
open Go Go.RowKit Go.Maps
theorem Dk.newOk (r : Int) (h0 : 0 ≤ r) (hr : r ≤ 9223372036854775807) : Dk.Ok ⟨r, [], 0, 0, 0, [], 0, false⟩ :=
  ⟨⟨h0, hr⟩, Nat.zero_le _, ⟨Int.le_refl _, by show (0 : Int) ≤ _; decide⟩, (by intro p hp; cases hp), Nat.zero_le _, (by intro p hp; cases hp), List.Pairwise.nil⟩
theorem new_at (r : Int) (w : World) (h0 : 0 ≤ r) (hr : r ≤ 9223372036854775807) :
    DiskAt ((w.alloc (.map #[] 0)).alloc (.cells #[.int .i64 r, .map (some w.heap.size), .int .i64 0, .int .i64 0, .int .i64 0, .slice none 0 0, .int .i64 0, .bool false] 87)) ⟨w.heap.size + 1, w.heap.size, .slice none 0 0⟩ ⟨r, [], 0, 0, 0, [], 0, false⟩ := by
  refine ⟨Dk.newOk r h0 hr, ?_, ?_, SlV.nil _, (by simp [Dk.slBlk]), (by simp [Dk.slBlk])⟩
  · have := alloc_at (w.alloc (.map #[] 0)) (.cells #[.int .i64 r, .map (some w.heap.size), .int .i64 0, .int .i64 0, .int .i64 0, .slice none 0 0, .int .i64 0, .bool false] 87)
    simpa [Dk.cells] using this
  · exact (World.ownsMap_made w _ _ _).alloc _
set_option maxHeartbeats 1600000 in
set_option maxRecDepth 100000 in
theorem diskNew_any (room : Int) (w : World) (hr : (Lit.int .i64 room).wf = true) :
    Calls Tryz.prog 14 #[.int .i64 room] w fun e w' => ∃ D : Dk.Blk, e = .returned (.pointer (some ⟨D.g, 0, none⟩)) ∧ DiskAt w' D (Dk.newSt room) ∧ w.heap.size ≤ D.g ∧ w.heap.size ≤ D.mb ∧ D.kv = .slice none 0 0 ∧ Below w.heap.size w w' := by
  have hmm := @run_makeMap Tryz.prog
  have hrb : -9223372036854775808 ≤ room ∧ room ≤ 9223372036854775807 := by
    have h : IntKind.i64.min ≤ room ∧ room ≤ IntKind.i64.max := by simpa [Lit.wf] using hr
    exact h
  go_enter Tryz.func14, Tryz.ntmps14
  go_wp2_with fail
  · have h := (by assumption : room < 0)
    go_ret
    refine ⟨⟨w.heap.size + 1, w.heap.size, .slice none 0 0⟩, rfl, ?_, by show w.heap.size ≤ w.heap.size + 1; omega, Nat.le_refl _, rfl, ?_⟩
    · have e : Dk.newSt room = ⟨0, [], 0, 0, 0, [], 0, false⟩ := by unfold Dk.newSt; congr 1; omega
      rw [e]; exact new_at 0 w (Int.le_refl _) (by decide)
    · exact ((Below.refl _ _).alloc (Nat.le_refl _) _).alloc (by simp) _
  · have h := (by assumption : 0 ≤ room)
    go_ret
    refine ⟨⟨w.heap.size + 1, w.heap.size, .slice none 0 0⟩, rfl, ?_, by show w.heap.size ≤ w.heap.size + 1; omega, Nat.le_refl _, rfl, ?_⟩
    · have e : Dk.newSt room = ⟨room, [], 0, 0, 0, [], 0, false⟩ := by unfold Dk.newSt; congr 1; omega
      rw [e]; exact new_at room w h hrb.2
    · exact ((Below.refl _ _).alloc (Nat.le_refl _) _).alloc (by simp) _
/-! ### used -/
namespace Dk
theorem before_irrefl : ∀ a : List UInt8, bytesBefore a a = false
  | [] => rfl
  | x :: r => by
    unfold bytesBefore
    simp [before_irrefl r]
theorem up_unique {l : Fs} (h : Up l) : l.Pairwise (fun p q => p.1 ≠ q.1) :=
  List.Pairwise.imp (fun {p q} hb e => by rw [e, before_irrefl] at hb; cases hb) h
/-- The sizes of the files that have been met. -/
def met (left : Lit → Bool) (l : Fs) : Nat := (l.map fun p => if left (.string (key p.1)) = true then 0 else p.2.now.size).sum
theorem met_cons (left : Lit → Bool) (q : ByteArray × F) (l : Fs) : met left (q :: l) = (if left (.string (key q.1)) = true then 0 else q.2.now.size) + met left l := rfl
theorem met_start {left : Lit → Bool} : ∀ {l : Fs}, (∀ p ∈ l, left (.string (key p.1)) = true) → met left l = 0
  | [], _ => rfl
  | q :: l, h => by rw [met_cons, if_pos (h q (by simp)), met_start fun p hp => h p (by simp [hp])]
theorem met_end {left : Lit → Bool} (h : ∀ kl, left kl = false) : ∀ l : Fs, met left l = used l
  | [] => rfl
  | q :: l => by
    rw [met_cons, h, if_neg (by decide), met_end h l]; rfl
theorem met_same {left left' : Lit → Bool} : ∀ {l : Fs}, (∀ p ∈ l, left (.string (key p.1)) = left' (.string (key p.1))) → met left l = met left' l
  | [], _ => rfl
  | q :: l, h => by rw [met_cons, met_cons, h q (by simp), met_same fun p hp => h p (by simp [hp])]
theorem met_step {left : Lit → Bool} : ∀ {l : Fs} {p : ByteArray × F}, l.Pairwise (fun p q => p.1 ≠ q.1) → p ∈ l → left (.string (key p.1)) = true →
    met (fun z => left z && !z.sameKey (.string (key p.1))) l = met left l + p.2.now.size
  | [], p, _, hp, _ => by cases hp
  | q :: l, p, hu, hp, hl => by
    obtain ⟨h1, h2⟩ := List.pairwise_cons.1 hu
    have same : ∀ r : ByteArray × F, Lit.sameKey (.string (key r.1)) (.string (key p.1)) = decide (r.1 = p.1) := fun r => key_beq r.1 p.1
    rw [met_cons, met_cons]
    rcases List.mem_cons.1 hp with rfl | hp
    · have hrest : met (fun z => left z && !z.sameKey (.string (key p.1))) l = met left l := met_same fun r hr => by
        show (left _ && !Lit.sameKey _ _) = _
        rw [same, decide_eq_false (fun e => h1 r hr e.symm)]; simp
      rw [hrest]
      have e : (left (.string (key p.1)) && !Lit.sameKey (.string (key p.1)) (.string (key p.1))) = false := by rw [same, decide_eq_true rfl]; simp
      rw [if_neg (by show ¬ (left _ && !Lit.sameKey _ _) = true; rw [e]; decide), if_pos hl]
      omega
    · have ih := met_step h2 hp hl
      have hqp : q.1 ≠ p.1 := h1 p hp
      have e : (left (.string (key q.1)) && !Lit.sameKey (.string (key q.1)) (.string (key p.1))) = left (.string (key q.1)) := by rw [same, decide_eq_false hqp]; simp
      rw [ih]
      show (if (left _ && !Lit.sameKey _ _) = true then _ else _) + _ = _
      rw [e]; omega
theorem at_mem {l : Fs} {x : ByteArray} {y : DataW Unit} (h : ∀ zd, (dat l).atKey (.string (key x)) zd = y) : ∃ p ∈ l, p.1 = x ∧ y = datF p.2 := by
  have h1 := h .nil
  have h2 := h (.lit (.bool false))
  unfold dat DataW.atKey at h1 h2
  dsimp only at h1 h2
  rw [List.find?_map] at h1 h2
  have e : ((fun p : Lit × DataW Unit => p.1.sameKey (.string (key x))) ∘ litF) = fun p => decide (p.1 = x) := by
    funext p
    show (key p.1 == key x) = _
    rw [key_beq]
  rw [e] at h1 h2
  cases hf : l.find? (fun p => decide (p.1 = x)) with
  | none =>
    rw [hf] at h1 h2
    simp only [Option.map_none] at h1 h2
    rw [← h1] at h2
    cases h2
  | some p =>
    rw [hf] at h1
    exact ⟨p, List.mem_of_find?_eq_some hf, by have := List.find?_some hf; simpa using this, h1.symm⟩
end Dk
end Go.Proofs.YtbfbajfdlkgloaaGreatDoor

/-
  The program's disk: used: the sum over the map, in whatever order.
-/
namespace Go.Proofs.YtbfbajfdlkgloaaGreatDoor
open Go Go.RowKit Go.Maps
theorem wrap64_add (a b : Int) : wrap64 (wrap64 a + b) = wrap64 (a + b) := by unfold wrap64; omega
set_option maxHeartbeats 1600000 in
set_option maxRecDepth 100000 in
theorem diskUsed_any (D : Dk.Blk) (s : Dk.St) (w : World) (h : DiskAt w D s) :
    Calls Tryz.prog 53 #[.pointer (some ⟨D.g, 0, none⟩)] w fun e w' => e = .returned (.int .i64 (wrap64 (Dk.used s.files : Int))) ∧ Below w.heap.size w w' := by
  have h1 := h.c1
  have HD := hide h
  have hmap := h.map
  clear h
  go_enter Tryz.func53, Tryz.ntmps53
  go_wp2_with (first
    | (at_range; refine wpList_range_own _ rfl _ 85 rfl 9 96 strK Tryz.underlying85 Dk.R D.mb s.files.length _ rfl hmap ?_; intro w0 hrg0 hg0 hs0)
    | fail)
  go_frame
  have hb0 : Below w.heap.size w w0 := ⟨hg0.os, hg0.tape, hg0.output, hg0.size, fun k hk => hg0.block k hk (by simp)⟩
  have HR0 := hide hrg0
  have HB0 := hide hb0
  have huq := Dk.up_unique HD.out.ok.up
  have hstart : Dk.met (Maps.has (Dk.dat s.files)) s.files = 0 := Dk.met_start fun p hp => by
    show (s.files.map Dk.litF).any (fun q => q.1.sameKey (.string (Dk.key p.1))) = true
    rw [List.any_eq_true]
    exact ⟨Dk.litF p, List.mem_map_of_mem hp, by show (Dk.key p.1 == Dk.key p.1) = true; simp⟩
  have HS := hide hstart
  have HU := hide huq
  have HSZ := hide HD.out.ok.sizes
  clear hrg0 hb0 hg0 hmap huq hstart HD h1
  go_loopg [3] (Maps.size (Dk.dat s.files)) (fun g v3 wr => ∃ (left : Lit → Bool) (cnt : Nat) (acc : Int), g = cnt ∧ v3 = .int .i64 acc ∧ -9223372036854775808 ≤ acc ∧ acc ≤ 9223372036854775807 ∧ Hid (wr.ranges Tryz.prog 9 Dk.R D.mb w.heap.size s.files.length (Dk.dat s.files) left cnt ∧ acc = wrap64 (Dk.met left s.files : Int) ∧ Below w.heap.size w wr))
  case atStart => exact ⟨_, _, 0, rfl, rfl, by decide, by decide, HR0.out, by rw [HS.out]; unfold wrap64; decide, HB0.out⟩
  case round =>
    obtain ⟨left, cnt, acc, rfl, rfl, ha0, ha1, HR⟩ := hrel
    have hrg := HR.out.1
    go_wp2_with (first
      | (at_next; refine wpList_next_ranges _ rfl _ rfl 9 strK Dk.R Value.string Dk.valF (fun key kl hk => by obtain ⟨x, hx, _⟩ := Go.WideMaps.string_of_keyOf Tryz.underlying9 hk; exact ⟨x, hx⟩) (fun v y hv => by obtain ⟨f, hf, _⟩ := Dk.R_inv (d := y.1) (ps := y.2) hv; exact ⟨f, hf⟩) D.mb w.heap.size s.files.length (Dk.dat s.files) left _ rfl hrg ?_ ?_)
      | fail)
    · intro hc0 hl0
      have HE := hide (show acc = wrap64 (Dk.used s.files : Int) by rw [HR.out.2.1, Dk.met_end hl0])
      clear hrg
      go_wp2_with fail
      go_ret
      exact ⟨by rw [← HE.out]; rfl, HR.out.2.2⟩
    · intro x f kl y ps w1 cnt1 hkey hlk hRv hat hrg1 hlt hg1 hs1 hen
      have hkl : kl = .string (Dk.key x) := by
        obtain ⟨x', hx', hkl, _⟩ := Go.WideMaps.string_of_keyOf Tryz.underlying9 hkey
        injection hx' with hx'
        subst hx'
        exact hkl
      subst hkl
      obtain ⟨p, hp, hpx, hyp⟩ := Dk.at_mem hat
      have hfp : f = p.2 := by
        rw [Dk.R_val] at hRv
        injection hRv with e
        injection e with e _
        exact Dk.datF_inj (by rw [← hyp, ← e])
      have hst := Dk.met_step (left := left) HU.out hp (by rw [hpx]; exact hlk)
      rw [hpx, ← hfp] at hst
      have hfs : f.now.size ≤ 268435456 := by rw [hfp]; exact (HSZ.out p hp).1
      have HST := hide hst
      have HR1 := hide hrg1
      have hb1 : Below w.heap.size w w1 := HR.out.2.2.grown hg1 HR.out.2.2.size (fun k hk => by cases hk; exact Nat.le_refl _)
      have HB1 := hide hb1
      have HLT := hide hlt
      unfold Dk.valF at hen
      clear hrg hkey hlk hRv hat hrg1 hg1 hpx hyp hp hfp hst hb1 hlt
      go_wp2_with fail
      go_roundg cnt1
      case measure => exact HLT.out
      case rel =>
        refine ⟨_, cnt1, _, rfl, rfl, ?_, ?_, HR1.out.alloc _, ?_, HB1.out.alloc HB1.out.size _⟩
        · unfold wrap64; omega
        · unfold wrap64; omega
        · rw [HST.out, HR.out.2.1, wrap64_add]; simp
end Go.Proofs.YtbfbajfdlkgloaaGreatDoor
