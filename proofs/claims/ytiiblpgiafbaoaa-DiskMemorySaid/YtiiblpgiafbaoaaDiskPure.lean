/-
  The disk as plain data: files by their names, rising; what is read, put, told; how it reads as a map's datum. No program in sight.
-/
import Derived.Test.YtiiblpgiafbaoaaBase
import Derived.Maps.OwnOps
import Derived.Maps.Views
import Derived.Maps.RangeWalk
import Derived.Sort.KeysCollected
namespace Go.Proofs.Ytiiblpgiafbaoaa
open Go Go.RowKit
namespace Dk
/-- A file's bytes as they are, and the synced ones. -/
structure F where
  now : ByteArray
  was : ByteArray
deriving DecidableEq
def F.none : F := ⟨⟨#[]⟩, ⟨#[]⟩⟩
abbrev Fs := List (ByteArray × F)
def key (n : ByteArray) : List UInt8 := n.data.toList
def get (l : Fs) (n : ByteArray) : F := ((l.find? (fun p => decide (p.1 = n))).map Prod.snd).getD F.none
def ins (x : ByteArray × F) : Fs → Fs
  | [] => [x]
  | y :: r => if bytesBefore (key x.1) (key y.1) then x :: y :: r else y :: ins x r
def put (l : Fs) (n : ByteArray) (f : F) : Fs := ins (n, f) (l.filter fun p => !decide (p.1 = n))
/-- The datum. -/
def datF (f : F) : DataW Unit := .agg [.lit (.string f.now.data.toList), .lit (.string f.was.data.toList)]
def litF (p : ByteArray × F) : Lit × DataW Unit := (.string (key p.1), datF p.2)
def dat (l : Fs) : DataW Unit := .map (l.map litF)
theorem key_inj {a b : ByteArray} (h : key a = key b) : a = b := by
  cases a; cases b
  simp only [key] at h
  rw [Array.toList_inj.1 h]
theorem key_beq (a b : ByteArray) : (key a == key b) = decide (a = b) := by
  rw [Bool.eq_iff_iff, beq_iff_eq, decide_eq_true_iff]
  exact ⟨key_inj, fun h => by rw [h]⟩
theorem ins_dat (x : ByteArray × F) : ∀ l : Fs, (ins x l).map litF = DataW.insert (litF x) (l.map litF)
  | [] => rfl
  | y :: r => by
    unfold ins
    rw [List.map_cons, DataW.insert]
    show _ = if Lit.before (.string (key x.1)) (.string (key y.1)) = true then _ else _
    unfold Lit.before
    split
    · rfl
    · rw [List.map_cons, ins_dat x r]
theorem put_dat (l : Fs) (n : ByteArray) (f : F) : dat (put l n f) = (dat l).put (.string (key n)) (datF f) := by
  show DataW.map ((ins (n, f) (l.filter fun p => !decide (p.1 = n))).map litF) = DataW.map (DataW.insert (litF (n, f)) ((l.map litF).filter fun p => !p.1.sameKey (.string (key n))))
  rw [ins_dat, List.filter_map]
  congr 2
  congr 1
  apply List.filter_congr
  intro p _
  show (!decide (p.1 = n)) = !(key p.1 == key n)
  rw [key_beq]
theorem get_dat (l : Fs) (n : ByteArray) : (dat l).atKey (.string (key n)) (datF F.none) = datF (get l n) := by
  unfold dat DataW.atKey
  dsimp only
  rw [List.find?_map]
  have e : ((fun p : Lit × DataW Unit => p.1.sameKey (.string (key n))) ∘ litF) = fun p => decide (p.1 = n) := by
    funext p
    show (key p.1 == key n) = _
    rw [key_beq]
  rw [e]
  unfold get
  cases l.find? (fun p => decide (p.1 = n)) with
  | none => rfl
  | some p => rfl
/-- How an element's value reads. -/
def R (v : Value) : Option (DataW Unit × List MemPlace) := match v with
  | .agg cs => match cs.toList with
    | [.string a, .string b] => some (.agg [.lit (.string a.data.toList), .lit (.string b.data.toList)], [])
    | _ => none
  | _ => none
def valF (f : F) : Value := .agg #[.string f.now, .string f.was]
theorem R_val (f : F) : R (valF f) = some (datF f, []) := rfl
theorem R_inv {v : Value} {d : DataW Unit} {ps : List MemPlace} (h : R v = some (d, ps)) : ∃ f, v = valF f ∧ d = datF f := by
  cases v with
  | agg cs =>
    change (match cs.toList with
      | [.string a, .string b] => some (DataW.agg [.lit (.string a.data.toList), .lit (.string b.data.toList)], ([] : List MemPlace))
      | _ => none) = some (d, ps) at h
    split at h
    · rename_i a b hc
      injection h with h
      injection h with h1 h2
      refine ⟨⟨a, b⟩, ?_, h1.symm⟩
      show Value.agg cs = .agg #[.string a, .string b]
      congr 1
      apply Array.toList_inj.1
      rw [hc]
    · cases h
  | _ => cases h
theorem datF_inj {f g : F} (h : datF f = datF g) : f = g := by
  unfold datF at h
  injection h with h
  injection h with h1 h2
  injection h2 with h2 _
  injection h1 with h1; injection h1 with h1
  injection h2 with h2; injection h2 with h2
  obtain ⟨⟨a⟩, ⟨b⟩⟩ := f
  obtain ⟨⟨c⟩, ⟨d⟩⟩ := g
  simp only at h1 h2
  rw [Array.toList_inj.1 h1, Array.toList_inj.1 h2]
/-! rising -/
def Up (l : Fs) : Prop := l.Pairwise (fun p q => bytesBefore (key p.1) (key q.1) = true)
/-- What is told: the files of which a function makes a text with bytes. -/
def told (of : F → ByteArray) (l : Fs) : List (ByteArray × ByteArray) := (l.map fun p => (p.1, of p.2)).filter fun q => !decide (q.2 = ⟨#[]⟩)
def used (l : Fs) : Nat := (l.map fun p => p.2.now.size).sum
end Dk
#print axioms Dk.put_dat
#print axioms Dk.get_dat
end Go.Proofs.Ytiiblpgiafbaoaa
