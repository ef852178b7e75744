/-
  The program's disk in memory: what blocks it has, what they hold; the contracts of New and of the calls that only tell (Size, Acts, Down, Read).
-/
import Derived.Test.YtiiblpgiafbaoaaProg
import Derived.Test.YtiiblpgiafbaoaaDiskPure
import Derived.Test.YtiiblpgiafbaoaaArr
import Derived.Test.YtiiblpgiafbaoaaRegion
import Derived.Deep.CutRange
import Derived.Carry
namespace Go.Proofs.Ytiiblpgiafbaoaa
open Go Go.RowKit Go.Maps
/-! ### what has turned: the blocks of S, and no other -/
structure Moved (S : Nat → Prop) (w w' : World) : Prop where
  os : w'.os = w.os
  tape : w'.tape = w.tape
  output : w'.output = w.output
  size : w.heap.size ≤ w'.heap.size
  block : ∀ k, k < w.heap.size → ¬ S k → w'.heap[k]? = w.heap[k]?
theorem Moved.refl (S : Nat → Prop) (w : World) : Moved S w w := ⟨rfl, rfl, rfl, Nat.le_refl _, fun _ _ _ => rfl⟩
theorem Moved.trans {S S' : Nat → Prop} {a b c : World} (h : Moved S a b) (k : Moved S' b c) (hs : ∀ j, S' j → S j ∨ a.heap.size ≤ j) : Moved S a c :=
  ⟨k.os.trans h.os, k.tape.trans h.tape, k.output.trans h.output, Nat.le_trans h.size k.size, fun j hj hn => (k.block j (Nat.lt_of_lt_of_le hj h.size) (fun hs' => (hs j hs').elim hn (fun hle => by omega))).trans (h.block j hj hn)⟩
theorem Moved.mono {S S' : Nat → Prop} {a b : World} (h : Moved S a b) (hs : ∀ j, S j → S' j) : Moved S' a b := ⟨h.os, h.tape, h.output, h.size, fun j hj hn => h.block j hj (fun x => hn (hs j x))⟩
theorem Moved.then {S : Nat → Prop} {a b c : World} (h : Moved S a b) (k : Moved S b c) : Moved S a c := h.trans k fun _ => .inl
theorem Moved.of_below {S : Nat → Prop} {w w' : World} (h : Below w.heap.size w w') : Moved S w w' := ⟨h.os, h.tape, h.output, h.size, fun j hj _ => h.block j hj⟩
theorem Moved.of_belowB {B : Nat} {w w' : World} (h : Below B w w') : Moved (fun k => B ≤ k) w w' := ⟨h.os, h.tape, h.output, h.size, fun j _ hn => h.block j (Nat.lt_of_not_le hn)⟩
theorem Moved.below {S : Nat → Prop} {w w' : World} (h : Moved S w w') {B : Nat} (hB : B ≤ w.heap.size) (hs : ∀ j, S j → B ≤ j) : Below B w w' := ⟨h.os, h.tape, h.output, h.size, fun j hj => h.block j (by omega) (fun hS => by have := hs j hS; omega)⟩
theorem Moved.of_grown {S : Nat → Prop} {w w' : World} {row : Option Nat} (h : w.grownBy w' row) (hs : ∀ j, row = some j → S j) : Moved S w w' := ⟨h.os, h.tape, h.output, h.size, fun j hj hn => h.block j hj (fun e => hn (hs j e.symm))⟩
theorem Moved.setCell {S : Nat → Prop} {w w' : World} (h : Moved S w w') {a : Addr} (ha : S a.block) (v : Value) : Moved S w (w'.setCell a v) := by
  have hb := Below.setCell (B := 0) (Below.refl 0 w') (Nat.zero_le a.block) v
  refine h.then ⟨hb.os, hb.tape, hb.output, hb.size, fun j _ hn => ?_⟩
  exact Below.heap_setCell w' a v j (fun e => hn (e ▸ ha))
theorem Moved.alloc {S : Nat → Prop} {w w' : World} (h : Moved S w w') (o : Obj) : Moved S w (w'.alloc o) := h.then (Moved.of_below ((Below.refl _ _).alloc (Nat.le_refl _) _))
theorem Moved.drew {S : Nat → Prop} {w w' : World} (h : Moved S w w') : Moved S w w'.drew := h.then (Moved.of_below (Below.refl _ _).drew)
/-! ### the disk -/
namespace Dk
structure St where
  room : Int
  files : Fs
  acts : Nat
  fat : Int
  kind : Int
  keep : List Bool
  left : Int
  down : Bool
deriving DecidableEq
structure Blk where
  g : Nat
  mb : Nat
  kv : Value
def cells (D : Blk) (s : St) : Array Value := #[.int .i64 s.room, .map (some D.mb), .int .i64 (s.acts : Int), .int .i64 s.fat, .int .i64 s.kind, D.kv, .int .i64 s.left, .bool s.down]
def slBlk : Value → Option Nat
  | .slice (some a) len _ => if len = 0 then none else some a.block
  | _ => none
theorem slBlk_some (a : Addr) (len cap : Nat) : slBlk (.slice (some a) len cap) = if len = 0 then none else some a.block := rfl
/-- Numbers and lengths are within what memory bears. -/
structure Ok (s : St) : Prop where
  room : 0 ≤ s.room ∧ s.room ≤ 9223372036854775807
  acts : s.acts ≤ 4611686018427387904
  left : 0 ≤ s.left ∧ s.left ≤ 9223372036854775807
  names : ∀ p ∈ s.files, p.1.size ≤ 140737488351232
  many : s.files.length ≤ 1099511627776
  sizes : ∀ p ∈ s.files, p.2.now.size ≤ 268435456 ∧ p.2.was.size ≤ 268435456
  up : Up s.files
theorem get_mem {l : Fs} {n : ByteArray} : get l n = F.none ∨ ∃ p ∈ l, p.1 = n ∧ get l n = p.2 := by
  unfold get
  cases h : l.find? (fun p => decide (p.1 = n)) with
  | none => exact .inl rfl
  | some p => exact .inr ⟨p, List.mem_of_find?_eq_some h, by have := List.find?_some h; simpa using this, rfl⟩
theorem get_sizes {s : St} (h : Ok s) (n : ByteArray) : (get s.files n).now.size ≤ 268435456 ∧ (get s.files n).was.size ≤ 268435456 := by
  rcases get_mem (l := s.files) (n := n) with e | ⟨p, hp, _, e⟩
  · rw [e]; exact ⟨by decide, by decide⟩
  · rw [e]; exact h.sizes p hp
end Dk
theorem strK : Keyed Try.prog 9 := string_keyed Try.underlying9
theorem zeroFile (w : World) : (zeroValue 81).run Try.prog w = .ok (Dk.valF Dk.F.none) w := by kernel_rfl
theorem fld0 (a b : ByteArray) (w : World) : (Instr.field 81 (.agg #[.string a, .string b]) 0).run Try.prog w = .ok (.string a) w := by kernel_rfl
theorem fld1 (a b : ByteArray) (w : World) : (Instr.field 81 (.agg #[.string a, .string b]) 1).run Try.prog w = .ok (.string b) w := by kernel_rfl
structure DiskAt (w : World) (D : Dk.Blk) (s : Dk.St) : Prop where
  ok : Dk.Ok s
  cells : w.heap[D.g]? = some (.cells (Dk.cells D s) 79 (0, 0))
  map : w.ownsMap Try.prog 9 Dk.R D.mb s.files.length (Dk.dat s.files)
  keep : SlV w D.kv (s.keep.map Value.bool)
  apart : Dk.slBlk D.kv ≠ some D.g ∧ Dk.slBlk D.kv ≠ some D.mb
theorem DiskAt.ne {w : World} {D : Dk.Blk} {s : Dk.St} (h : DiskAt w D s) : D.g ≠ D.mb := by
  intro e
  obtain ⟨es, clock, hb, _⟩ := h.map
  have := h.cells
  rw [e, hb] at this
  cases this
theorem DiskAt.glt {w : World} {D : Dk.Blk} {s : Dk.St} (h : DiskAt w D s) : D.g < w.heap.size := heap_lt h.cells
theorem SlV.blk_lt {w : World} {v : Value} {xs : List Value} (h : SlV w v xs) {k : Nat} (hk : Dk.slBlk v = some k) : k < w.heap.size := by
  rcases h with ⟨rfl, a, cap, rfl, _⟩ | ⟨b, off, cap, rfl, hc, hlt, hx⟩
  · cases a <;> simp [Dk.slBlk] at hk
  · rw [Dk.slBlk_some] at hk
    by_cases h0 : xs.length = 0
    · rw [if_pos h0] at hk; cases hk
    · rw [if_neg h0] at hk
      injection hk with hk
      rw [← hk]; exact hlt
theorem SlV.stay {w w' : World} {v : Value} {xs : List Value} (h : SlV w v xs) (hs : w.heap.size ≤ w'.heap.size) (hb : ∀ k, Dk.slBlk v = some k → k < w.heap.size → w'.heap[k]? = w.heap[k]?) : SlV w' v xs := by
  rcases h with h | ⟨b, off, cap, rfl, hc, hlt, hx⟩
  · exact .inl h
  · refine .inr ⟨b, off, cap, rfl, hc, by omega, fun j hj => ?_⟩
    rw [World.cell?_of_block (a := ⟨b, off + j, none⟩) (hb b (by rw [Dk.slBlk_some, if_neg (by omega)]) hlt)]
    exact hx j hj
/-- What the disk's blocks have to stay: neither its struct, nor its map, nor its list of choices is among those that turn. -/
def Dk.Away (D : Dk.Blk) (S : Nat → Prop) : Prop := ¬ S D.g ∧ ¬ S D.mb ∧ ∀ k, Dk.slBlk D.kv = some k → ¬ S k
theorem DiskAt.stay {w w' : World} {D : Dk.Blk} {s : Dk.St} {S : Nat → Prop} (h : DiskAt w D s) (hm : Moved S w w') (ha : Dk.Away D S) : DiskAt w' D s := by
  refine ⟨h.ok, (hm.block D.g h.glt ha.1).trans h.cells, ?_, ?_, h.apart⟩
  · obtain ⟨es, clock, hb, F, hs, hD⟩ := h.map
    exact ⟨es, clock, (hm.block D.mb h.map.lt ha.2.1).trans hb, F, hs, hD⟩
  · exact h.keep.stay hm.size fun k hk hlt => hm.block k hlt (ha.2.2 k hk)
theorem DiskAt.past {w w' : World} {D : Dk.Blk} {s : Dk.St} (h : DiskAt w D s) (hb : Below w.heap.size w w') : DiskAt w' D s :=
  h.stay (S := fun _ => False) (Moved.of_below hb) ⟨id, id, fun _ _ => id⟩
theorem look_map {w : World} {l : Dk.Fs} {mb nn : Nat} (h : w.ownsMap Try.prog 9 Dk.R mb nn (Dk.dat l)) (n : ByteArray) (hn : n.size ≤ 140737488351232) :
    (Instr.lookup 77 (.map (some mb)) (.string n) false).run Try.prog w = .ok (.agg #[.string (Dk.get l n).now, .string (Dk.get l n).was]) w := by
  obtain ⟨v, ps, hrun, hv⟩ := h.lookup strK Try.underlying77 (zeroFile w) (Dk.R_val Dk.F.none) (Go.WideMaps.keyOf_string_mk Try.underlying9 (s := n) (by unfold maxLen; omega))
  have e : (Dk.dat l).atKey (.string n.data.toList) (Dk.datF Dk.F.none) = Dk.datF (Dk.get l n) := Dk.get_dat l n
  rw [e] at hv
  obtain ⟨f, hf, hd⟩ := Dk.R_inv hv
  have := Dk.datF_inj hd
  subst hf
  rw [hrun, this]; rfl
theorem DiskAt.look {w : World} {D : Dk.Blk} {s : Dk.St} (h : DiskAt w D s) (n : ByteArray) (hn : n.size ≤ 140737488351232) :
    (Instr.lookup 77 (.map (some D.mb)) (.string n) false).run Try.prog w = .ok (.agg #[.string (Dk.get s.files n).now, .string (Dk.get s.files n).was]) w := look_map h.map n hn
theorem DiskAt.cell {w : World} {D : Dk.Blk} {s : Dk.St} (h : DiskAt w D s) (i : Nat) : w.cell? ⟨D.g, i, none⟩ = (Dk.cells D s)[i]? := cell_blk h.cells i
theorem DiskAt.c0 {w : World} {D : Dk.Blk} {s : Dk.St} (h : DiskAt w D s) : w.cell? ⟨D.g, 0, none⟩ = some (.int .i64 s.room) := h.cell 0
theorem DiskAt.c1 {w : World} {D : Dk.Blk} {s : Dk.St} (h : DiskAt w D s) : w.cell? ⟨D.g, 1, none⟩ = some (.map (some D.mb)) := h.cell 1
theorem DiskAt.c2 {w : World} {D : Dk.Blk} {s : Dk.St} (h : DiskAt w D s) : w.cell? ⟨D.g, 2, none⟩ = some (.int .i64 (s.acts : Int)) := h.cell 2
theorem DiskAt.c3 {w : World} {D : Dk.Blk} {s : Dk.St} (h : DiskAt w D s) : w.cell? ⟨D.g, 3, none⟩ = some (.int .i64 s.fat) := h.cell 3
theorem DiskAt.c4 {w : World} {D : Dk.Blk} {s : Dk.St} (h : DiskAt w D s) : w.cell? ⟨D.g, 4, none⟩ = some (.int .i64 s.kind) := h.cell 4
theorem DiskAt.c5 {w : World} {D : Dk.Blk} {s : Dk.St} (h : DiskAt w D s) : w.cell? ⟨D.g, 5, none⟩ = some (D.kv) := h.cell 5
theorem DiskAt.c6 {w : World} {D : Dk.Blk} {s : Dk.St} (h : DiskAt w D s) : w.cell? ⟨D.g, 6, none⟩ = some (.int .i64 s.left) := h.cell 6
theorem DiskAt.c7 {w : World} {D : Dk.Blk} {s : Dk.St} (h : DiskAt w D s) : w.cell? ⟨D.g, 7, none⟩ = some (.bool s.down) := h.cell 7
theorem DiskAt.free {w : World} {D : Dk.Blk} {s : Dk.St} (h : DiskAt w D s) (i : Nat) : w.frozen? ⟨D.g, i, none⟩ = false := frozen_blk h.cells i
#print axioms DiskAt.look
end Go.Proofs.Ytiiblpgiafbaoaa
