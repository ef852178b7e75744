/-
  No cell of these rows narrows 'for every input' (looked for: loops, veiled, ifaces, maps, wideKeys, modest, calm, conditions, laid).
  DERIVED. THE GIVEN ROWS OF THIS SEAT. 7 by the template 'for every input the law returns true; each argument reads behind the call as it read before'; 0 by the template 'total and deterministic' (their statements: YtiiblpgiafbaoaaTotals.lean).
  GIVEN WITH THE SEED: the statements are not yours to turn. If you find one false, say at which input.
  Laid BY PROGRAM, IN A SANDBOX (cutbox-rows.mjs): the forced cells as the released guide's own fill.sh prints them over the translation 782179fe1905dda4… (all of the seat's roots in one cut). By AI agents, Wed Nov 11 2026. No macro, syntax, notation, axiom, sorry.
-/
import Derived.Test.YtiiblpgiafbaoaaChecked
import GoSem.Claim
import GoSem.ClaimJoined
import GoSem.ClaimMapViews
import Derived.JoinedTies
import Derived.KernelRfl
namespace Go.Proofs.Ytiiblpgiafbaoaa
/- THE CELL 'sum', in the pinned program and in every row, IS THE sha256 OF THE DUMP (.gsa) THAT YtiiblpgiafbaoaaProg.lean LOADS. Nothing in Lean hashes anything: it is a label: what it is worth is what the hold of that sum in a sandbox is worth. -/
noncomputable def Try.pinned : Pinned := { name := "ytiiblpgiafbaoaa", sum := "782179fe1905dda4080c727aa2f9b9adc00164a5c9727884bb70985f3f10dca3", checked := Try.checked }
namespace Rows
def none {H : Type} : Left H := { results := [], args := [] }

/-- 'massiflaw17.DiskPlain': WHATEVER THE INPUT: true; the input reads as it did. -/
def diskPlainSpec : ChangeSpec := { name := "diskPlain", fn := fun _ => fun
  | [d1, d2] => { results := [.lit (.bool true)], args := [d1, d2] }
  | _ => none }
def diskPlainRow : OpenClaim := { program := "ytiiblpgiafbaoaa", sum := "782179fe1905dda4080c727aa2f9b9adc00164a5c9727884bb70985f3f10dca3", func := "massif/massiflaw17.DiskPlain", spec := "diskPlain", unfollowed := true, recurses := true, apart := false }
def DiskPlainSaid : Prop := diskPlainRow.holds Try.pinned (OpenSpec.ofChange diskPlainSpec)

/-- ITS FALSE NEIGHBOUR: 'it returns false'. Refute it at one input. -/
def diskPlainWrong : ChangeSpec := { name := "diskPlain", fn := fun _ => fun
  | [d1, d2] => { results := [.lit (.bool false)], args := [d1, d2] }
  | _ => none }
def DiskPlainWrongFalsely : Prop := diskPlainRow.holds Try.pinned (OpenSpec.ofChange diskPlainWrong)

/-- 'massiflaw17.DiskLooks': WHATEVER THE INPUT: true; the input reads as it did. -/
def diskLooksSpec : ChangeSpec := { name := "diskLooks", fn := fun _ => fun
  | [d1, d2] => { results := [.lit (.bool true)], args := [d1, d2] }
  | _ => none }
def diskLooksRow : OpenClaim := { program := "ytiiblpgiafbaoaa", sum := "782179fe1905dda4080c727aa2f9b9adc00164a5c9727884bb70985f3f10dca3", func := "massif/massiflaw17.DiskLooks", spec := "diskLooks", unfollowed := true, recurses := true, apart := false }
def DiskLooksSaid : Prop := diskLooksRow.holds Try.pinned (OpenSpec.ofChange diskLooksSpec)

/-- ITS FALSE NEIGHBOUR: 'it returns false'. Refute it at one input. -/
def diskLooksWrong : ChangeSpec := { name := "diskLooks", fn := fun _ => fun
  | [d1, d2] => { results := [.lit (.bool false)], args := [d1, d2] }
  | _ => none }
def DiskLooksWrongFalsely : Prop := diskLooksRow.holds Try.pinned (OpenSpec.ofChange diskLooksWrong)

/-- 'massiflaw17.DiskSectors': WHATEVER THE INPUT: true; the input reads as it did. -/
def diskSectorsSpec : ChangeSpec := { name := "diskSectors", fn := fun _ => fun
  | [d1, d2, d3] => { results := [.lit (.bool true)], args := [d1, d2, d3] }
  | _ => none }
def diskSectorsRow : OpenClaim := { program := "ytiiblpgiafbaoaa", sum := "782179fe1905dda4080c727aa2f9b9adc00164a5c9727884bb70985f3f10dca3", func := "massif/massiflaw17.DiskSectors", spec := "diskSectors", unfollowed := true, recurses := true, apart := false }
def DiskSectorsSaid : Prop := diskSectorsRow.holds Try.pinned (OpenSpec.ofChange diskSectorsSpec)

/-- ITS FALSE NEIGHBOUR: 'it returns false'. Refute it at one input. -/
def diskSectorsWrong : ChangeSpec := { name := "diskSectors", fn := fun _ => fun
  | [d1, d2, d3] => { results := [.lit (.bool false)], args := [d1, d2, d3] }
  | _ => none }
def DiskSectorsWrongFalsely : Prop := diskSectorsRow.holds Try.pinned (OpenSpec.ofChange diskSectorsWrong)

/-- 'massiflaw17.DiskChosen': WHATEVER THE INPUT: true; the input reads as it did. -/
def diskChosenSpec : ChangeSpec := { name := "diskChosen", fn := fun _ => fun
  | [d1, d2, d3] => { results := [.lit (.bool true)], args := [d1, d2, d3] }
  | _ => none }
def diskChosenRow : OpenClaim := { program := "ytiiblpgiafbaoaa", sum := "782179fe1905dda4080c727aa2f9b9adc00164a5c9727884bb70985f3f10dca3", func := "massif/massiflaw17.DiskChosen", spec := "diskChosen", unfollowed := true, recurses := true, apart := false }
def DiskChosenSaid : Prop := diskChosenRow.holds Try.pinned (OpenSpec.ofChange diskChosenSpec)

/-- ITS FALSE NEIGHBOUR: 'it returns false'. Refute it at one input. -/
def diskChosenWrong : ChangeSpec := { name := "diskChosen", fn := fun _ => fun
  | [d1, d2, d3] => { results := [.lit (.bool false)], args := [d1, d2, d3] }
  | _ => none }
def DiskChosenWrongFalsely : Prop := diskChosenRow.holds Try.pinned (OpenSpec.ofChange diskChosenWrong)

/-- 'massiflaw17.DiskFates': WHATEVER THE INPUT: true; the input reads as it did. -/
def diskFatesSpec : ChangeSpec := { name := "diskFates", fn := fun _ => fun
  | [d1, d2] => { results := [.lit (.bool true)], args := [d1, d2] }
  | _ => none }
def diskFatesRow : OpenClaim := { program := "ytiiblpgiafbaoaa", sum := "782179fe1905dda4080c727aa2f9b9adc00164a5c9727884bb70985f3f10dca3", func := "massif/massiflaw17.DiskFates", spec := "diskFates", unfollowed := true, recurses := true, apart := false }
def DiskFatesSaid : Prop := diskFatesRow.holds Try.pinned (OpenSpec.ofChange diskFatesSpec)

/-- ITS FALSE NEIGHBOUR: 'it returns false'. Refute it at one input. -/
def diskFatesWrong : ChangeSpec := { name := "diskFates", fn := fun _ => fun
  | [d1, d2] => { results := [.lit (.bool false)], args := [d1, d2] }
  | _ => none }
def DiskFatesWrongFalsely : Prop := diskFatesRow.holds Try.pinned (OpenSpec.ofChange diskFatesWrong)

/-- 'massiflaw17.DiskPlays': WHATEVER THE INPUT: true; the input reads as it did. -/
def diskPlaysSpec : ChangeSpec := { name := "diskPlays", fn := fun _ => fun
  | [d1, d2, d3] => { results := [.lit (.bool true)], args := [d1, d2, d3] }
  | _ => none }
def diskPlaysRow : OpenClaim := { program := "ytiiblpgiafbaoaa", sum := "782179fe1905dda4080c727aa2f9b9adc00164a5c9727884bb70985f3f10dca3", func := "massif/massiflaw17.DiskPlays", spec := "diskPlays", unfollowed := true, recurses := true, apart := false }
def DiskPlaysSaid : Prop := diskPlaysRow.holds Try.pinned (OpenSpec.ofChange diskPlaysSpec)

/-- ITS FALSE NEIGHBOUR: 'it returns false'. Refute it at one input. -/
def diskPlaysWrong : ChangeSpec := { name := "diskPlays", fn := fun _ => fun
  | [d1, d2, d3] => { results := [.lit (.bool false)], args := [d1, d2, d3] }
  | _ => none }
def DiskPlaysWrongFalsely : Prop := diskPlaysRow.holds Try.pinned (OpenSpec.ofChange diskPlaysWrong)

/-- 'massiflaw17.DiskMemory': WHATEVER THE INPUT: true; the input reads as it did. -/
def diskMemorySpec : ChangeSpec := { name := "diskMemory", fn := fun _ => fun
  | [d1, d2] => { results := [.lit (.bool true)], args := [d1, d2] }
  | _ => none }
def diskMemoryRow : OpenClaim := { program := "ytiiblpgiafbaoaa", sum := "782179fe1905dda4080c727aa2f9b9adc00164a5c9727884bb70985f3f10dca3", func := "massif/massiflaw17.DiskMemory", spec := "diskMemory", unfollowed := true, recurses := true, apart := false }
def DiskMemorySaid : Prop := diskMemoryRow.holds Try.pinned (OpenSpec.ofChange diskMemorySpec)

/-- ITS FALSE NEIGHBOUR: 'it returns false'. Refute it at one input. -/
def diskMemoryWrong : ChangeSpec := { name := "diskMemory", fn := fun _ => fun
  | [d1, d2] => { results := [.lit (.bool false)], args := [d1, d2] }
  | _ => none }
def DiskMemoryWrongFalsely : Prop := diskMemoryRow.holds Try.pinned (OpenSpec.ofChange diskMemoryWrong)

/- THE SECOND FORM. 'bulk': how many values and letters a reading holds, each counted each time it is reached (what is shared counts as often as it is met; a slice's spare places count too). A statement '..UptoSaid' is the law's where the arguments, and the package variables that the reading takes, are together of bulk at most 1048576: NARROWER than '..Said'. Prove '..Said' where nothing that the law and all that it calls make is longer than what came in: it says more and counts as full. Else prove '..UptoSaid'. A law counts once. -/
mutual
def uptoBulk {H : Type} : DataW H → Nat
  | .lit (.string bytes) => bytes.length + 1
  | .lit _ => 1
  | .nil => 1
  | .ptr d => uptoBulk d + 1
  | .slice elems spare => uptoBulkAll elems + uptoBulkAll spare + 1
  | .agg parts => uptoBulkAll parts + 1
  | .iface _ d => uptoBulk d + 1
  | .map entries => uptoBulkEntries entries + 1
  | .held _ => 1
def uptoBulkAll {H : Type} : List (DataW H) → Nat
  | [] => 0
  | d :: r => uptoBulk d + uptoBulkAll r
def uptoBulkEntries {H : Type} : List (Lit × DataW H) → Nat
  | [] => 0
  | x :: r => uptoBulkEntry x + uptoBulkEntries r
def uptoBulkEntry {H : Type} : Lit × DataW H → Nat
  | (.string bytes, d) => bytes.length + uptoBulk d + 1
  | (_, d) => uptoBulk d + 1
 end
def uptoSmall : (H : Type) → List (DataW H) → Bool := fun _ ds => decide (uptoBulkAll ds ≤ 1048576)
def OpenSpec.upto (s : _root_.Go.ChangeSpec) : _root_.Go.OpenSpec := { _root_.Go.OpenSpec.ofChange s with cond := some uptoSmall }

/-- 'massiflaw17.DiskPlain', WHERE WHAT IT READS IS OF BULK AT MOST 1048576: true; the input reads as it did. -/
def diskPlainUptoRow : OpenClaim := { program := "ytiiblpgiafbaoaa", sum := "782179fe1905dda4080c727aa2f9b9adc00164a5c9727884bb70985f3f10dca3", func := "massif/massiflaw17.DiskPlain", spec := "diskPlain", unfollowed := true, recurses := true, apart := false, narrowed := true }
def DiskPlainUptoSaid : Prop := diskPlainUptoRow.holds Try.pinned (OpenSpec.upto diskPlainSpec)

/-- 'massiflaw17.DiskLooks', WHERE WHAT IT READS IS OF BULK AT MOST 1048576: true; the input reads as it did. -/
def diskLooksUptoRow : OpenClaim := { program := "ytiiblpgiafbaoaa", sum := "782179fe1905dda4080c727aa2f9b9adc00164a5c9727884bb70985f3f10dca3", func := "massif/massiflaw17.DiskLooks", spec := "diskLooks", unfollowed := true, recurses := true, apart := false, narrowed := true }
def DiskLooksUptoSaid : Prop := diskLooksUptoRow.holds Try.pinned (OpenSpec.upto diskLooksSpec)

/-- 'massiflaw17.DiskSectors', WHERE WHAT IT READS IS OF BULK AT MOST 1048576: true; the input reads as it did. -/
def diskSectorsUptoRow : OpenClaim := { program := "ytiiblpgiafbaoaa", sum := "782179fe1905dda4080c727aa2f9b9adc00164a5c9727884bb70985f3f10dca3", func := "massif/massiflaw17.DiskSectors", spec := "diskSectors", unfollowed := true, recurses := true, apart := false, narrowed := true }
def DiskSectorsUptoSaid : Prop := diskSectorsUptoRow.holds Try.pinned (OpenSpec.upto diskSectorsSpec)

/-- 'massiflaw17.DiskChosen', WHERE WHAT IT READS IS OF BULK AT MOST 1048576: true; the input reads as it did. -/
def diskChosenUptoRow : OpenClaim := { program := "ytiiblpgiafbaoaa", sum := "782179fe1905dda4080c727aa2f9b9adc00164a5c9727884bb70985f3f10dca3", func := "massif/massiflaw17.DiskChosen", spec := "diskChosen", unfollowed := true, recurses := true, apart := false, narrowed := true }
def DiskChosenUptoSaid : Prop := diskChosenUptoRow.holds Try.pinned (OpenSpec.upto diskChosenSpec)

/-- 'massiflaw17.DiskFates', WHERE WHAT IT READS IS OF BULK AT MOST 1048576: true; the input reads as it did. -/
def diskFatesUptoRow : OpenClaim := { program := "ytiiblpgiafbaoaa", sum := "782179fe1905dda4080c727aa2f9b9adc00164a5c9727884bb70985f3f10dca3", func := "massif/massiflaw17.DiskFates", spec := "diskFates", unfollowed := true, recurses := true, apart := false, narrowed := true }
def DiskFatesUptoSaid : Prop := diskFatesUptoRow.holds Try.pinned (OpenSpec.upto diskFatesSpec)

/-- 'massiflaw17.DiskPlays', WHERE WHAT IT READS IS OF BULK AT MOST 1048576: true; the input reads as it did. -/
def diskPlaysUptoRow : OpenClaim := { program := "ytiiblpgiafbaoaa", sum := "782179fe1905dda4080c727aa2f9b9adc00164a5c9727884bb70985f3f10dca3", func := "massif/massiflaw17.DiskPlays", spec := "diskPlays", unfollowed := true, recurses := true, apart := false, narrowed := true }
def DiskPlaysUptoSaid : Prop := diskPlaysUptoRow.holds Try.pinned (OpenSpec.upto diskPlaysSpec)

/-- 'massiflaw17.DiskMemory', WHERE WHAT IT READS IS OF BULK AT MOST 1048576: true; the input reads as it did. -/
def diskMemoryUptoRow : OpenClaim := { program := "ytiiblpgiafbaoaa", sum := "782179fe1905dda4080c727aa2f9b9adc00164a5c9727884bb70985f3f10dca3", func := "massif/massiflaw17.DiskMemory", spec := "diskMemory", unfollowed := true, recurses := true, apart := false, narrowed := true }
def DiskMemoryUptoSaid : Prop := diskMemoryUptoRow.holds Try.pinned (OpenSpec.upto diskMemorySpec)

end Rows
end Go.Proofs.Ytiiblpgiafbaoaa
