/-
  No cell of these rows narrows 'for every input' (looked for: loops, veiled, ifaces, maps, wideKeys, modest, calm, conditions, laid).
  DERIVED. THE GIVEN ROWS OF THIS SEAT. 6 by the template 'for every input the law returns true; each argument reads behind the call as it read before'; 0 by the template 'total and deterministic' (their statements: YtholbjclfkdgbaaTotals.lean).
  GIVEN WITH THE SEED: the statements are not yours to turn. If you find one false, say at which input.
  Laid BY PROGRAM, IN A SANDBOX (cutbox-rows.mjs): the forced cells as the released guide's own fill.sh prints them over the translation 0a667c4f0519bf11… (all of the seat's roots in one cut). By AI agents, Wed Nov 11 2026. No macro, syntax, notation, axiom, sorry.
-/
import Derived.Test.YtholbjclfkdgbaaChecked
import GoSem.Claim
import GoSem.ClaimJoined
import GoSem.ClaimMapViews
import Derived.JoinedTies
import Derived.KernelRfl
namespace Go.Proofs.Ytholbjclfkdgbaa
/- THE CELL 'sum', in the pinned program and in every row, IS THE sha256 OF THE DUMP (.gsa) THAT YtholbjclfkdgbaaProg.lean LOADS. Nothing in Lean hashes anything: it is a label: what it is worth is what the hold of that sum in a sandbox is worth. -/
noncomputable def Try.pinned : Pinned := { name := "ytholbjclfkdgbaa", sum := "0a667c4f0519bf11c0ac81fb40f0b62b9cf02cf3c26637b9c35921925c3d6588", checked := Try.checked }
namespace Rows
def none {H : Type} : Left H := { results := [], args := [] }

/-- 'massiflaw05.CrcSums': WHATEVER THE INPUT: true; the input reads as it did. -/
def crcSumsSpec : ChangeSpec := { name := "crcSums", fn := fun _ => fun
  | [d1, d2, d3] => { results := [.lit (.bool true)], args := [d1, d2, d3] }
  | _ => none }
def crcSumsRow : OpenClaim := { program := "ytholbjclfkdgbaa", sum := "0a667c4f0519bf11c0ac81fb40f0b62b9cf02cf3c26637b9c35921925c3d6588", func := "massif/massiflaw05.CrcSums", spec := "crcSums", apart := false }
def CrcSumsSaid : Prop := crcSumsRow.holds Try.pinned (OpenSpec.ofChange crcSumsSpec)

/-- ITS FALSE NEIGHBOUR: 'it returns false'. Refute it at one input. -/
def crcSumsWrong : ChangeSpec := { name := "crcSums", fn := fun _ => fun
  | [d1, d2, d3] => { results := [.lit (.bool false)], args := [d1, d2, d3] }
  | _ => none }
def CrcSumsWrongFalsely : Prop := crcSumsRow.holds Try.pinned (OpenSpec.ofChange crcSumsWrong)

/-- 'massiflaw05.CrcParts': WHATEVER THE INPUT: true; the input reads as it did. -/
def crcPartsSpec : ChangeSpec := { name := "crcParts", fn := fun _ => fun
  | [d1, d2, d3] => { results := [.lit (.bool true)], args := [d1, d2, d3] }
  | _ => none }
def crcPartsRow : OpenClaim := { program := "ytholbjclfkdgbaa", sum := "0a667c4f0519bf11c0ac81fb40f0b62b9cf02cf3c26637b9c35921925c3d6588", func := "massif/massiflaw05.CrcParts", spec := "crcParts", apart := false }
def CrcPartsSaid : Prop := crcPartsRow.holds Try.pinned (OpenSpec.ofChange crcPartsSpec)

/-- ITS FALSE NEIGHBOUR: 'it returns false'. Refute it at one input. -/
def crcPartsWrong : ChangeSpec := { name := "crcParts", fn := fun _ => fun
  | [d1, d2, d3] => { results := [.lit (.bool false)], args := [d1, d2, d3] }
  | _ => none }
def CrcPartsWrongFalsely : Prop := crcPartsRow.holds Try.pinned (OpenSpec.ofChange crcPartsWrong)

/-- 'massiflaw05.CrcBurst': WHATEVER THE INPUT: true; the input reads as it did. -/
def crcBurstSpec : ChangeSpec := { name := "crcBurst", fn := fun _ => fun
  | [d1, d2, d3] => { results := [.lit (.bool true)], args := [d1, d2, d3] }
  | _ => none }
def crcBurstRow : OpenClaim := { program := "ytholbjclfkdgbaa", sum := "0a667c4f0519bf11c0ac81fb40f0b62b9cf02cf3c26637b9c35921925c3d6588", func := "massif/massiflaw05.CrcBurst", spec := "crcBurst", apart := false }
def CrcBurstSaid : Prop := crcBurstRow.holds Try.pinned (OpenSpec.ofChange crcBurstSpec)

/-- ITS FALSE NEIGHBOUR: 'it returns false'. Refute it at one input. -/
def crcBurstWrong : ChangeSpec := { name := "crcBurst", fn := fun _ => fun
  | [d1, d2, d3] => { results := [.lit (.bool false)], args := [d1, d2, d3] }
  | _ => none }
def CrcBurstWrongFalsely : Prop := crcBurstRow.holds Try.pinned (OpenSpec.ofChange crcBurstWrong)

/-- 'massiflaw05.CrcLinear': WHATEVER THE INPUT: true; the input reads as it did. -/
def crcLinearSpec : ChangeSpec := { name := "crcLinear", fn := fun _ => fun
  | [d1, d2, d3] => { results := [.lit (.bool true)], args := [d1, d2, d3] }
  | _ => none }
def crcLinearRow : OpenClaim := { program := "ytholbjclfkdgbaa", sum := "0a667c4f0519bf11c0ac81fb40f0b62b9cf02cf3c26637b9c35921925c3d6588", func := "massif/massiflaw05.CrcLinear", spec := "crcLinear", apart := false }
def CrcLinearSaid : Prop := crcLinearRow.holds Try.pinned (OpenSpec.ofChange crcLinearSpec)

/-- ITS FALSE NEIGHBOUR: 'it returns false'. Refute it at one input. -/
def crcLinearWrong : ChangeSpec := { name := "crcLinear", fn := fun _ => fun
  | [d1, d2, d3] => { results := [.lit (.bool false)], args := [d1, d2, d3] }
  | _ => none }
def CrcLinearWrongFalsely : Prop := crcLinearRow.holds Try.pinned (OpenSpec.ofChange crcLinearWrong)

/-- 'massiflaw05.CrcBack': WHATEVER THE INPUT: true; the input reads as it did. -/
def crcBackSpec : ChangeSpec := { name := "crcBack", fn := fun _ => fun
  | [d1, d2, d3] => { results := [.lit (.bool true)], args := [d1, d2, d3] }
  | _ => none }
def crcBackRow : OpenClaim := { program := "ytholbjclfkdgbaa", sum := "0a667c4f0519bf11c0ac81fb40f0b62b9cf02cf3c26637b9c35921925c3d6588", func := "massif/massiflaw05.CrcBack", spec := "crcBack", apart := false }
def CrcBackSaid : Prop := crcBackRow.holds Try.pinned (OpenSpec.ofChange crcBackSpec)

/-- ITS FALSE NEIGHBOUR: 'it returns false'. Refute it at one input. -/
def crcBackWrong : ChangeSpec := { name := "crcBack", fn := fun _ => fun
  | [d1, d2, d3] => { results := [.lit (.bool false)], args := [d1, d2, d3] }
  | _ => none }
def CrcBackWrongFalsely : Prop := crcBackRow.holds Try.pinned (OpenSpec.ofChange crcBackWrong)

/-- 'massiflaw05.CrcMemory': WHATEVER THE INPUT: true; the input reads as it did. -/
def crcMemorySpec : ChangeSpec := { name := "crcMemory", fn := fun _ => fun
  | [d1, d2] => { results := [.lit (.bool true)], args := [d1, d2] }
  | _ => none }
def crcMemoryRow : OpenClaim := { program := "ytholbjclfkdgbaa", sum := "0a667c4f0519bf11c0ac81fb40f0b62b9cf02cf3c26637b9c35921925c3d6588", func := "massif/massiflaw05.CrcMemory", spec := "crcMemory", apart := false }
def CrcMemorySaid : Prop := crcMemoryRow.holds Try.pinned (OpenSpec.ofChange crcMemorySpec)

/-- ITS FALSE NEIGHBOUR: 'it returns false'. Refute it at one input. -/
def crcMemoryWrong : ChangeSpec := { name := "crcMemory", fn := fun _ => fun
  | [d1, d2] => { results := [.lit (.bool false)], args := [d1, d2] }
  | _ => none }
def CrcMemoryWrongFalsely : Prop := crcMemoryRow.holds Try.pinned (OpenSpec.ofChange crcMemoryWrong)

/- THE SECOND FORM. 'bulk': how many values and letters a reading holds, each counted each time it is reached (what is shared counts as often as it is met; a slice's spare places count too). A statement '..UptoSaid' is the law's where the arguments, and the package variables that the reading takes, are together of bulk at most 1048576: NARROWER than '..Said'. Prove '..Said' where nothing that the law and all that it calls make is longer than what came in: it says more and counts as full. Else prove '..UptoSaid'. A law counts once. -/
mutual
def uptoBulk {H : Type} : DataW H → Nat
  | .lit (.string bytes) => bytes.length + 1
  | .lit _ => 1
  | .nil => 1
  | .ptr d => uptoBulk d + 1
  | .slice elems spare => uptoBulkAll elems + uptoBulkAll spare + 1
  | .agg parts => uptoBulkAll parts + 1
  | .iface _ d => uptoBulk d + 1
  | .map entries => uptoBulkEntries entries + 1
  | .held _ => 1
def uptoBulkAll {H : Type} : List (DataW H) → Nat
  | [] => 0
  | d :: r => uptoBulk d + uptoBulkAll r
def uptoBulkEntries {H : Type} : List (Lit × DataW H) → Nat
  | [] => 0
  | x :: r => uptoBulkEntry x + uptoBulkEntries r
def uptoBulkEntry {H : Type} : Lit × DataW H → Nat
  | (.string bytes, d) => bytes.length + uptoBulk d + 1
  | (_, d) => uptoBulk d + 1
 end
def uptoSmall : (H : Type) → List (DataW H) → Bool := fun _ ds => decide (uptoBulkAll ds ≤ 1048576)
def OpenSpec.upto (s : _root_.Go.ChangeSpec) : _root_.Go.OpenSpec := { _root_.Go.OpenSpec.ofChange s with cond := some uptoSmall }

/-- 'massiflaw05.CrcSums', WHERE WHAT IT READS IS OF BULK AT MOST 1048576: true; the input reads as it did. -/
def crcSumsUptoRow : OpenClaim := { program := "ytholbjclfkdgbaa", sum := "0a667c4f0519bf11c0ac81fb40f0b62b9cf02cf3c26637b9c35921925c3d6588", func := "massif/massiflaw05.CrcSums", spec := "crcSums", apart := false, narrowed := true }
def CrcSumsUptoSaid : Prop := crcSumsUptoRow.holds Try.pinned (OpenSpec.upto crcSumsSpec)

/-- 'massiflaw05.CrcParts', WHERE WHAT IT READS IS OF BULK AT MOST 1048576: true; the input reads as it did. -/
def crcPartsUptoRow : OpenClaim := { program := "ytholbjclfkdgbaa", sum := "0a667c4f0519bf11c0ac81fb40f0b62b9cf02cf3c26637b9c35921925c3d6588", func := "massif/massiflaw05.CrcParts", spec := "crcParts", apart := false, narrowed := true }
def CrcPartsUptoSaid : Prop := crcPartsUptoRow.holds Try.pinned (OpenSpec.upto crcPartsSpec)

/-- 'massiflaw05.CrcBurst', WHERE WHAT IT READS IS OF BULK AT MOST 1048576: true; the input reads as it did. -/
def crcBurstUptoRow : OpenClaim := { program := "ytholbjclfkdgbaa", sum := "0a667c4f0519bf11c0ac81fb40f0b62b9cf02cf3c26637b9c35921925c3d6588", func := "massif/massiflaw05.CrcBurst", spec := "crcBurst", apart := false, narrowed := true }
def CrcBurstUptoSaid : Prop := crcBurstUptoRow.holds Try.pinned (OpenSpec.upto crcBurstSpec)

/-- 'massiflaw05.CrcLinear', WHERE WHAT IT READS IS OF BULK AT MOST 1048576: true; the input reads as it did. -/
def crcLinearUptoRow : OpenClaim := { program := "ytholbjclfkdgbaa", sum := "0a667c4f0519bf11c0ac81fb40f0b62b9cf02cf3c26637b9c35921925c3d6588", func := "massif/massiflaw05.CrcLinear", spec := "crcLinear", apart := false, narrowed := true }
def CrcLinearUptoSaid : Prop := crcLinearUptoRow.holds Try.pinned (OpenSpec.upto crcLinearSpec)

/-- 'massiflaw05.CrcBack', WHERE WHAT IT READS IS OF BULK AT MOST 1048576: true; the input reads as it did. -/
def crcBackUptoRow : OpenClaim := { program := "ytholbjclfkdgbaa", sum := "0a667c4f0519bf11c0ac81fb40f0b62b9cf02cf3c26637b9c35921925c3d6588", func := "massif/massiflaw05.CrcBack", spec := "crcBack", apart := false, narrowed := true }
def CrcBackUptoSaid : Prop := crcBackUptoRow.holds Try.pinned (OpenSpec.upto crcBackSpec)

/-- 'massiflaw05.CrcMemory', WHERE WHAT IT READS IS OF BULK AT MOST 1048576: true; the input reads as it did. -/
def crcMemoryUptoRow : OpenClaim := { program := "ytholbjclfkdgbaa", sum := "0a667c4f0519bf11c0ac81fb40f0b62b9cf02cf3c26637b9c35921925c3d6588", func := "massif/massiflaw05.CrcMemory", spec := "crcMemory", apart := false, narrowed := true }
def CrcMemoryUptoSaid : Prop := crcMemoryUptoRow.holds Try.pinned (OpenSpec.upto crcMemorySpec)

end Rows
end Go.Proofs.Ytholbjclfkdgbaa
