/-
  NARROWER THAN 'FOR EVERY INPUT', by the rows' own cells (each row's printed sentence says how): FilesList: laid · FilesTwice: laid · FilesRefused: laid · FilesMemory: laid · FilesOpens: laid · FilesTurned: laid · FilesPlays: laid · FilesStorms: laid.
  DERIVED. THE GIVEN ROWS OF THIS SEAT. 8 by the template 'for every input the law returns true; each argument reads behind the call as it read before'; 0 by the template 'total and deterministic' (their statements: YtbfbajfdlkgloaaGreatDoorTotals.lean).
  GIVEN WITH THE SEED: the statements are not yours to turn. If you find one false, say at which input.
  Laid BY PROGRAM, IN A SANDBOX (cutbox-rows.mjs): the forced cells as the released guide's own fill.sh prints them over the translation b43fee3917d1e9bb… (all of the seat's roots in one cut). By AI agents, Wed Nov 11 2026. No macro, syntax, notation, axiom, sorry.
-/
import Derived.Test.YtbfbajfdlkgloaaGreatDoorChecked
import GoSem.PinnedTables
import GoSem.Claim
import GoSem.ClaimJoined
import GoSem.ClaimMapViews
import Derived.JoinedTies
import Derived.KernelRfl
namespace Go.Proofs.YtbfbajfdlkgloaaGreatDoor
/- THE CELL 'sum', in the pinned program and in every row, IS THE sha256 OF THE DUMP (.gsa) THAT YtbfbajfdlkgloaaGreatDoorProg.lean LOADS. Nothing in Lean hashes anything: it is a label: what it is worth is what the hold of that sum in a sandbox is worth. -/
noncomputable def Tryz.pinned : Pinned := { name := "ytbfbajfdlkgloaagreatdoor", sum := "b43fee3917d1e9bb7f5f3cb954af41be21d0a2d768fc1aaa0a5c4be1258480fa", checked := Tryz.checked }
namespace Rows
def none {H : Type} : Left H := { results := [], args := [] }

/- WHAT THE LISTED PACKAGE-LEVEL VARIABLES READ AS WHEN THE CALL BEGINS. Each datum BY PROGRAM (the guide's laid-datum.mjs) off the statement by which the dump's own 'gosem.cut.vars' lays the variable. In a bare row this is a premise. The card (YtbfbajfdlkgloaaGreatDoorCards.lean) ties it to the program's text. -/
def laid_unicode_utf8_acceptRanges {H : Type} : DataW H := .agg [.agg [.lit (.int .u8 128), .lit (.int .u8 191)], .agg [.lit (.int .u8 160), .lit (.int .u8 191)], .agg [.lit (.int .u8 128), .lit (.int .u8 159)], .agg [.lit (.int .u8 144), .lit (.int .u8 191)], .agg [.lit (.int .u8 128), .lit (.int .u8 143)], .agg [.lit (.int .u8 0), .lit (.int .u8 0)], .agg [.lit (.int .u8 0), .lit (.int .u8 0)], .agg [.lit (.int .u8 0), .lit (.int .u8 0)], .agg [.lit (.int .u8 0), .lit (.int .u8 0)], .agg [.lit (.int .u8 0), .lit (.int .u8 0)], .agg [.lit (.int .u8 0), .lit (.int .u8 0)], .agg [.lit (.int .u8 0), .lit (.int .u8 0)], .agg [.lit (.int .u8 0), .lit (.int .u8 0)], .agg [.lit (.int .u8 0), .lit (.int .u8 0)], .agg [.lit (.int .u8 0), .lit (.int .u8 0)], .agg [.lit (.int .u8 0), .lit (.int .u8 0)]]
/-- One of Go's own tables, pinned by name: the form's constant. -/
def laid_unicode_utf8_first : DataW Unit := Go.Pinned.utf8First

/-- 'massiflaw19.FilesList': WHATEVER THE INPUT: true; the input reads as it did. -/
def filesListSpec : ChangeSpec := { name := "filesList", fn := fun _ => fun
  | [d1, d2] => { results := [.lit (.bool true)], args := [d1, d2] }
  | _ => none }
def filesListRow : OpenClaim := { program := "ytbfbajfdlkgloaagreatdoor", sum := "b43fee3917d1e9bb7f5f3cb954af41be21d0a2d768fc1aaa0a5c4be1258480fa", func := "massif/massiflaw19.FilesList", spec := "filesList", inPlace := ["internal/bytealg.IndexByteString", "internal/bytealg.IndexString", "internal/abi.NoEscape", "internal/bytealg.MakeNoZero"], unfollowed := true, recurses := true, named := ["unicode/utf8.first", "unicode/utf8.acceptRanges", "internal/bytealg.MaxLen"], apart := false, laid := [("unicode/utf8.acceptRanges", laid_unicode_utf8_acceptRanges), ("unicode/utf8.first", laid_unicode_utf8_first)] }
def FilesListSaid : Prop := filesListRow.holds Tryz.pinned (OpenSpec.ofChange filesListSpec)

/-- ITS FALSE NEIGHBOUR: 'it returns false'. Refute it at one input. -/
def filesListWrong : ChangeSpec := { name := "filesList", fn := fun _ => fun
  | [d1, d2] => { results := [.lit (.bool false)], args := [d1, d2] }
  | _ => none }
def FilesListWrongFalsely : Prop := filesListRow.holds Tryz.pinned (OpenSpec.ofChange filesListWrong)

/-- 'massiflaw19.FilesTwice': WHATEVER THE INPUT: true; the input reads as it did. -/
def filesTwiceSpec : ChangeSpec := { name := "filesTwice", fn := fun _ => fun
  | [d1, d2, d3] => { results := [.lit (.bool true)], args := [d1, d2, d3] }
  | _ => none }
def filesTwiceRow : OpenClaim := { program := "ytbfbajfdlkgloaagreatdoor", sum := "b43fee3917d1e9bb7f5f3cb954af41be21d0a2d768fc1aaa0a5c4be1258480fa", func := "massif/massiflaw19.FilesTwice", spec := "filesTwice", inPlace := ["internal/bytealg.IndexByteString", "internal/bytealg.IndexString", "internal/abi.NoEscape", "internal/bytealg.MakeNoZero"], unfollowed := true, recurses := true, named := ["unicode/utf8.first", "unicode/utf8.acceptRanges", "internal/bytealg.MaxLen"], apart := false, laid := [("unicode/utf8.acceptRanges", laid_unicode_utf8_acceptRanges), ("unicode/utf8.first", laid_unicode_utf8_first)] }
def FilesTwiceSaid : Prop := filesTwiceRow.holds Tryz.pinned (OpenSpec.ofChange filesTwiceSpec)

/-- ITS FALSE NEIGHBOUR: 'it returns false'. Refute it at one input. -/
def filesTwiceWrong : ChangeSpec := { name := "filesTwice", fn := fun _ => fun
  | [d1, d2, d3] => { results := [.lit (.bool false)], args := [d1, d2, d3] }
  | _ => none }
def FilesTwiceWrongFalsely : Prop := filesTwiceRow.holds Tryz.pinned (OpenSpec.ofChange filesTwiceWrong)

/-- 'massiflaw19.FilesRefused': WHATEVER THE INPUT: true; the input reads as it did. -/
def filesRefusedSpec : ChangeSpec := { name := "filesRefused", fn := fun _ => fun
  | [d1, d2, d3] => { results := [.lit (.bool true)], args := [d1, d2, d3] }
  | _ => none }
def filesRefusedRow : OpenClaim := { program := "ytbfbajfdlkgloaagreatdoor", sum := "b43fee3917d1e9bb7f5f3cb954af41be21d0a2d768fc1aaa0a5c4be1258480fa", func := "massif/massiflaw19.FilesRefused", spec := "filesRefused", inPlace := ["internal/bytealg.IndexByteString", "internal/bytealg.IndexString", "internal/abi.NoEscape", "internal/bytealg.MakeNoZero"], unfollowed := true, recurses := true, named := ["unicode/utf8.first", "unicode/utf8.acceptRanges", "internal/bytealg.MaxLen"], apart := false, laid := [("unicode/utf8.acceptRanges", laid_unicode_utf8_acceptRanges), ("unicode/utf8.first", laid_unicode_utf8_first)] }
def FilesRefusedSaid : Prop := filesRefusedRow.holds Tryz.pinned (OpenSpec.ofChange filesRefusedSpec)

/-- ITS FALSE NEIGHBOUR: 'it returns false'. Refute it at one input. -/
def filesRefusedWrong : ChangeSpec := { name := "filesRefused", fn := fun _ => fun
  | [d1, d2, d3] => { results := [.lit (.bool false)], args := [d1, d2, d3] }
  | _ => none }
def FilesRefusedWrongFalsely : Prop := filesRefusedRow.holds Tryz.pinned (OpenSpec.ofChange filesRefusedWrong)

/-- 'massiflaw19.FilesMemory': WHATEVER THE INPUT: true; the input reads as it did. -/
def filesMemorySpec : ChangeSpec := { name := "filesMemory", fn := fun _ => fun
  | [d1, d2, d3] => { results := [.lit (.bool true)], args := [d1, d2, d3] }
  | _ => none }
def filesMemoryRow : OpenClaim := { program := "ytbfbajfdlkgloaagreatdoor", sum := "b43fee3917d1e9bb7f5f3cb954af41be21d0a2d768fc1aaa0a5c4be1258480fa", func := "massif/massiflaw19.FilesMemory", spec := "filesMemory", inPlace := ["internal/bytealg.IndexByteString", "internal/bytealg.IndexString", "internal/abi.NoEscape", "internal/bytealg.MakeNoZero"], unfollowed := true, recurses := true, named := ["unicode/utf8.first", "unicode/utf8.acceptRanges", "internal/bytealg.MaxLen"], apart := false, laid := [("unicode/utf8.acceptRanges", laid_unicode_utf8_acceptRanges), ("unicode/utf8.first", laid_unicode_utf8_first)] }
def FilesMemorySaid : Prop := filesMemoryRow.holds Tryz.pinned (OpenSpec.ofChange filesMemorySpec)

/-- ITS FALSE NEIGHBOUR: 'it returns false'. Refute it at one input. -/
def filesMemoryWrong : ChangeSpec := { name := "filesMemory", fn := fun _ => fun
  | [d1, d2, d3] => { results := [.lit (.bool false)], args := [d1, d2, d3] }
  | _ => none }
def FilesMemoryWrongFalsely : Prop := filesMemoryRow.holds Tryz.pinned (OpenSpec.ofChange filesMemoryWrong)

/-- 'massiflaw19.FilesOpens': WHATEVER THE INPUT: true; the input reads as it did. -/
def filesOpensSpec : ChangeSpec := { name := "filesOpens", fn := fun _ => fun
  | [d1, d2] => { results := [.lit (.bool true)], args := [d1, d2] }
  | _ => none }
def filesOpensRow : OpenClaim := { program := "ytbfbajfdlkgloaagreatdoor", sum := "b43fee3917d1e9bb7f5f3cb954af41be21d0a2d768fc1aaa0a5c4be1258480fa", func := "massif/massiflaw19.FilesOpens", spec := "filesOpens", inPlace := ["internal/bytealg.IndexByteString", "internal/bytealg.IndexString", "internal/abi.NoEscape", "internal/bytealg.MakeNoZero"], unfollowed := true, recurses := true, named := ["unicode/utf8.first", "unicode/utf8.acceptRanges", "internal/bytealg.MaxLen"], apart := false, laid := [("unicode/utf8.acceptRanges", laid_unicode_utf8_acceptRanges), ("unicode/utf8.first", laid_unicode_utf8_first)] }
def FilesOpensSaid : Prop := filesOpensRow.holds Tryz.pinned (OpenSpec.ofChange filesOpensSpec)

/-- ITS FALSE NEIGHBOUR: 'it returns false'. Refute it at one input. -/
def filesOpensWrong : ChangeSpec := { name := "filesOpens", fn := fun _ => fun
  | [d1, d2] => { results := [.lit (.bool false)], args := [d1, d2] }
  | _ => none }
def FilesOpensWrongFalsely : Prop := filesOpensRow.holds Tryz.pinned (OpenSpec.ofChange filesOpensWrong)

/-- 'massiflaw19.FilesTurned': WHATEVER THE INPUT: true; the input reads as it did. -/
def filesTurnedSpec : ChangeSpec := { name := "filesTurned", fn := fun _ => fun
  | [d1, d2, d3] => { results := [.lit (.bool true)], args := [d1, d2, d3] }
  | _ => none }
def filesTurnedRow : OpenClaim := { program := "ytbfbajfdlkgloaagreatdoor", sum := "b43fee3917d1e9bb7f5f3cb954af41be21d0a2d768fc1aaa0a5c4be1258480fa", func := "massif/massiflaw19.FilesTurned", spec := "filesTurned", inPlace := ["internal/bytealg.IndexByteString", "internal/bytealg.IndexString", "internal/abi.NoEscape", "internal/bytealg.MakeNoZero"], unfollowed := true, recurses := true, named := ["unicode/utf8.first", "unicode/utf8.acceptRanges", "internal/bytealg.MaxLen"], apart := false, laid := [("unicode/utf8.acceptRanges", laid_unicode_utf8_acceptRanges), ("unicode/utf8.first", laid_unicode_utf8_first)] }
def FilesTurnedSaid : Prop := filesTurnedRow.holds Tryz.pinned (OpenSpec.ofChange filesTurnedSpec)

/-- ITS FALSE NEIGHBOUR: 'it returns false'. Refute it at one input. -/
def filesTurnedWrong : ChangeSpec := { name := "filesTurned", fn := fun _ => fun
  | [d1, d2, d3] => { results := [.lit (.bool false)], args := [d1, d2, d3] }
  | _ => none }
def FilesTurnedWrongFalsely : Prop := filesTurnedRow.holds Tryz.pinned (OpenSpec.ofChange filesTurnedWrong)

/-- 'massiflaw19.FilesPlays': WHATEVER THE INPUT: true; the input reads as it did. -/
def filesPlaysSpec : ChangeSpec := { name := "filesPlays", fn := fun _ => fun
  | [d1, d2] => { results := [.lit (.bool true)], args := [d1, d2] }
  | _ => none }
def filesPlaysRow : OpenClaim := { program := "ytbfbajfdlkgloaagreatdoor", sum := "b43fee3917d1e9bb7f5f3cb954af41be21d0a2d768fc1aaa0a5c4be1258480fa", func := "massif/massiflaw19.FilesPlays", spec := "filesPlays", inPlace := ["internal/bytealg.IndexByteString", "internal/bytealg.IndexString", "internal/abi.NoEscape", "internal/bytealg.MakeNoZero"], unfollowed := true, recurses := true, named := ["unicode/utf8.first", "unicode/utf8.acceptRanges", "internal/bytealg.MaxLen"], apart := false, laid := [("unicode/utf8.acceptRanges", laid_unicode_utf8_acceptRanges), ("unicode/utf8.first", laid_unicode_utf8_first)] }
def FilesPlaysSaid : Prop := filesPlaysRow.holds Tryz.pinned (OpenSpec.ofChange filesPlaysSpec)

/-- ITS FALSE NEIGHBOUR: 'it returns false'. Refute it at one input. -/
def filesPlaysWrong : ChangeSpec := { name := "filesPlays", fn := fun _ => fun
  | [d1, d2] => { results := [.lit (.bool false)], args := [d1, d2] }
  | _ => none }
def FilesPlaysWrongFalsely : Prop := filesPlaysRow.holds Tryz.pinned (OpenSpec.ofChange filesPlaysWrong)

/-- 'massiflaw19.FilesStorms': WHATEVER THE INPUT: true; the input reads as it did. -/
def filesStormsSpec : ChangeSpec := { name := "filesStorms", fn := fun _ => fun
  | [d1, d2, d3] => { results := [.lit (.bool true)], args := [d1, d2, d3] }
  | _ => none }
def filesStormsRow : OpenClaim := { program := "ytbfbajfdlkgloaagreatdoor", sum := "b43fee3917d1e9bb7f5f3cb954af41be21d0a2d768fc1aaa0a5c4be1258480fa", func := "massif/massiflaw19.FilesStorms", spec := "filesStorms", inPlace := ["internal/bytealg.IndexByteString", "internal/bytealg.IndexString", "internal/abi.NoEscape", "internal/bytealg.MakeNoZero"], unfollowed := true, recurses := true, named := ["unicode/utf8.first", "unicode/utf8.acceptRanges", "internal/bytealg.MaxLen"], apart := false, laid := [("unicode/utf8.acceptRanges", laid_unicode_utf8_acceptRanges), ("unicode/utf8.first", laid_unicode_utf8_first)] }
def FilesStormsSaid : Prop := filesStormsRow.holds Tryz.pinned (OpenSpec.ofChange filesStormsSpec)

/-- ITS FALSE NEIGHBOUR: 'it returns false'. Refute it at one input. -/
def filesStormsWrong : ChangeSpec := { name := "filesStorms", fn := fun _ => fun
  | [d1, d2, d3] => { results := [.lit (.bool false)], args := [d1, d2, d3] }
  | _ => none }
def FilesStormsWrongFalsely : Prop := filesStormsRow.holds Tryz.pinned (OpenSpec.ofChange filesStormsWrong)

/- THE SECOND FORM. 'bulk': how many values and letters a reading holds, each counted each time it is reached (what is shared counts as often as it is met; a slice's spare places count too). A statement '..UptoSaid' is the law's where the arguments, and the package variables that the reading takes, are together of bulk at most 1048576: NARROWER than '..Said'. Prove '..Said' where nothing that the law and all that it calls make is longer than what came in: it says more and counts as full. Else prove '..UptoSaid'. A law counts once. -/
mutual
def uptoBulk {H : Type} : DataW H → Nat
  | .lit (.string bytes) => bytes.length + 1
  | .lit _ => 1
  | .nil => 1
  | .ptr d => uptoBulk d + 1
  | .slice elems spare => uptoBulkAll elems + uptoBulkAll spare + 1
  | .agg parts => uptoBulkAll parts + 1
  | .iface _ d => uptoBulk d + 1
  | .map entries => uptoBulkEntries entries + 1
  | .held _ => 1
def uptoBulkAll {H : Type} : List (DataW H) → Nat
  | [] => 0
  | d :: r => uptoBulk d + uptoBulkAll r
def uptoBulkEntries {H : Type} : List (Lit × DataW H) → Nat
  | [] => 0
  | x :: r => uptoBulkEntry x + uptoBulkEntries r
def uptoBulkEntry {H : Type} : Lit × DataW H → Nat
  | (.string bytes, d) => bytes.length + uptoBulk d + 1
  | (_, d) => uptoBulk d + 1
 end
def uptoSmall : (H : Type) → List (DataW H) → Bool := fun _ ds => decide (uptoBulkAll ds ≤ 1048576)
def OpenSpec.upto (s : _root_.Go.ChangeSpec) : _root_.Go.OpenSpec := { _root_.Go.OpenSpec.ofChange s with cond := some uptoSmall }

/-- 'massiflaw19.FilesList', WHERE WHAT IT READS IS OF BULK AT MOST 1048576: true; the input reads as it did. -/
def filesListUptoRow : OpenClaim := { program := "ytbfbajfdlkgloaagreatdoor", sum := "b43fee3917d1e9bb7f5f3cb954af41be21d0a2d768fc1aaa0a5c4be1258480fa", func := "massif/massiflaw19.FilesList", spec := "filesList", inPlace := ["internal/bytealg.IndexByteString", "internal/bytealg.IndexString", "internal/abi.NoEscape", "internal/bytealg.MakeNoZero"], unfollowed := true, recurses := true, named := ["unicode/utf8.first", "unicode/utf8.acceptRanges", "internal/bytealg.MaxLen"], apart := false, laid := [("unicode/utf8.acceptRanges", laid_unicode_utf8_acceptRanges), ("unicode/utf8.first", laid_unicode_utf8_first)], narrowed := true }
def FilesListUptoSaid : Prop := filesListUptoRow.holds Tryz.pinned (OpenSpec.upto filesListSpec)

/-- 'massiflaw19.FilesTwice', WHERE WHAT IT READS IS OF BULK AT MOST 1048576: true; the input reads as it did. -/
def filesTwiceUptoRow : OpenClaim := { program := "ytbfbajfdlkgloaagreatdoor", sum := "b43fee3917d1e9bb7f5f3cb954af41be21d0a2d768fc1aaa0a5c4be1258480fa", func := "massif/massiflaw19.FilesTwice", spec := "filesTwice", inPlace := ["internal/bytealg.IndexByteString", "internal/bytealg.IndexString", "internal/abi.NoEscape", "internal/bytealg.MakeNoZero"], unfollowed := true, recurses := true, named := ["unicode/utf8.first", "unicode/utf8.acceptRanges", "internal/bytealg.MaxLen"], apart := false, laid := [("unicode/utf8.acceptRanges", laid_unicode_utf8_acceptRanges), ("unicode/utf8.first", laid_unicode_utf8_first)], narrowed := true }
def FilesTwiceUptoSaid : Prop := filesTwiceUptoRow.holds Tryz.pinned (OpenSpec.upto filesTwiceSpec)

/-- 'massiflaw19.FilesRefused', WHERE WHAT IT READS IS OF BULK AT MOST 1048576: true; the input reads as it did. -/
def filesRefusedUptoRow : OpenClaim := { program := "ytbfbajfdlkgloaagreatdoor", sum := "b43fee3917d1e9bb7f5f3cb954af41be21d0a2d768fc1aaa0a5c4be1258480fa", func := "massif/massiflaw19.FilesRefused", spec := "filesRefused", inPlace := ["internal/bytealg.IndexByteString", "internal/bytealg.IndexString", "internal/abi.NoEscape", "internal/bytealg.MakeNoZero"], unfollowed := true, recurses := true, named := ["unicode/utf8.first", "unicode/utf8.acceptRanges", "internal/bytealg.MaxLen"], apart := false, laid := [("unicode/utf8.acceptRanges", laid_unicode_utf8_acceptRanges), ("unicode/utf8.first", laid_unicode_utf8_first)], narrowed := true }
def FilesRefusedUptoSaid : Prop := filesRefusedUptoRow.holds Tryz.pinned (OpenSpec.upto filesRefusedSpec)

/-- 'massiflaw19.FilesMemory', WHERE WHAT IT READS IS OF BULK AT MOST 1048576: true; the input reads as it did. -/
def filesMemoryUptoRow : OpenClaim := { program := "ytbfbajfdlkgloaagreatdoor", sum := "b43fee3917d1e9bb7f5f3cb954af41be21d0a2d768fc1aaa0a5c4be1258480fa", func := "massif/massiflaw19.FilesMemory", spec := "filesMemory", inPlace := ["internal/bytealg.IndexByteString", "internal/bytealg.IndexString", "internal/abi.NoEscape", "internal/bytealg.MakeNoZero"], unfollowed := true, recurses := true, named := ["unicode/utf8.first", "unicode/utf8.acceptRanges", "internal/bytealg.MaxLen"], apart := false, laid := [("unicode/utf8.acceptRanges", laid_unicode_utf8_acceptRanges), ("unicode/utf8.first", laid_unicode_utf8_first)], narrowed := true }
def FilesMemoryUptoSaid : Prop := filesMemoryUptoRow.holds Tryz.pinned (OpenSpec.upto filesMemorySpec)

/-- 'massiflaw19.FilesOpens', WHERE WHAT IT READS IS OF BULK AT MOST 1048576: true; the input reads as it did. -/
def filesOpensUptoRow : OpenClaim := { program := "ytbfbajfdlkgloaagreatdoor", sum := "b43fee3917d1e9bb7f5f3cb954af41be21d0a2d768fc1aaa0a5c4be1258480fa", func := "massif/massiflaw19.FilesOpens", spec := "filesOpens", inPlace := ["internal/bytealg.IndexByteString", "internal/bytealg.IndexString", "internal/abi.NoEscape", "internal/bytealg.MakeNoZero"], unfollowed := true, recurses := true, named := ["unicode/utf8.first", "unicode/utf8.acceptRanges", "internal/bytealg.MaxLen"], apart := false, laid := [("unicode/utf8.acceptRanges", laid_unicode_utf8_acceptRanges), ("unicode/utf8.first", laid_unicode_utf8_first)], narrowed := true }
def FilesOpensUptoSaid : Prop := filesOpensUptoRow.holds Tryz.pinned (OpenSpec.upto filesOpensSpec)

/-- 'massiflaw19.FilesTurned', WHERE WHAT IT READS IS OF BULK AT MOST 1048576: true; the input reads as it did. -/
def filesTurnedUptoRow : OpenClaim := { program := "ytbfbajfdlkgloaagreatdoor", sum := "b43fee3917d1e9bb7f5f3cb954af41be21d0a2d768fc1aaa0a5c4be1258480fa", func := "massif/massiflaw19.FilesTurned", spec := "filesTurned", inPlace := ["internal/bytealg.IndexByteString", "internal/bytealg.IndexString", "internal/abi.NoEscape", "internal/bytealg.MakeNoZero"], unfollowed := true, recurses := true, named := ["unicode/utf8.first", "unicode/utf8.acceptRanges", "internal/bytealg.MaxLen"], apart := false, laid := [("unicode/utf8.acceptRanges", laid_unicode_utf8_acceptRanges), ("unicode/utf8.first", laid_unicode_utf8_first)], narrowed := true }
def FilesTurnedUptoSaid : Prop := filesTurnedUptoRow.holds Tryz.pinned (OpenSpec.upto filesTurnedSpec)

/-- 'massiflaw19.FilesPlays', WHERE WHAT IT READS IS OF BULK AT MOST 1048576: true; the input reads as it did. -/
def filesPlaysUptoRow : OpenClaim := { program := "ytbfbajfdlkgloaagreatdoor", sum := "b43fee3917d1e9bb7f5f3cb954af41be21d0a2d768fc1aaa0a5c4be1258480fa", func := "massif/massiflaw19.FilesPlays", spec := "filesPlays", inPlace := ["internal/bytealg.IndexByteString", "internal/bytealg.IndexString", "internal/abi.NoEscape", "internal/bytealg.MakeNoZero"], unfollowed := true, recurses := true, named := ["unicode/utf8.first", "unicode/utf8.acceptRanges", "internal/bytealg.MaxLen"], apart := false, laid := [("unicode/utf8.acceptRanges", laid_unicode_utf8_acceptRanges), ("unicode/utf8.first", laid_unicode_utf8_first)], narrowed := true }
def FilesPlaysUptoSaid : Prop := filesPlaysUptoRow.holds Tryz.pinned (OpenSpec.upto filesPlaysSpec)

/-- 'massiflaw19.FilesStorms', WHERE WHAT IT READS IS OF BULK AT MOST 1048576: true; the input reads as it did. -/
def filesStormsUptoRow : OpenClaim := { program := "ytbfbajfdlkgloaagreatdoor", sum := "b43fee3917d1e9bb7f5f3cb954af41be21d0a2d768fc1aaa0a5c4be1258480fa", func := "massif/massiflaw19.FilesStorms", spec := "filesStorms", inPlace := ["internal/bytealg.IndexByteString", "internal/bytealg.IndexString", "internal/abi.NoEscape", "internal/bytealg.MakeNoZero"], unfollowed := true, recurses := true, named := ["unicode/utf8.first", "unicode/utf8.acceptRanges", "internal/bytealg.MaxLen"], apart := false, laid := [("unicode/utf8.acceptRanges", laid_unicode_utf8_acceptRanges), ("unicode/utf8.first", laid_unicode_utf8_first)], narrowed := true }
def FilesStormsUptoSaid : Prop := filesStormsUptoRow.holds Tryz.pinned (OpenSpec.upto filesStormsSpec)

end Rows
end Go.Proofs.YtbfbajfdlkgloaaGreatDoor
