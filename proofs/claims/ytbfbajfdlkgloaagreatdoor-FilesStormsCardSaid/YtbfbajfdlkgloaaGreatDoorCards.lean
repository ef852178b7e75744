/-
  DERIVED. GIVEN WITH THE SEED: THE CARDS: each row of YtbfbajfdlkgloaaGreatDoorRows.lean that lists a variable, with what it lists TIED to the program's text (the seventh form; the later family's looks); each row that meets fmt, with fmt's text TOLD by the authors' own Lean function (tested against real Go, not proved from fmt's source: count such statements apart). THE CARD IS WHAT COUNTS. Prove the row's statement (the work); the ties are given (YtbfbajfdlkgloaaGreatDoorTie.lean); close each card by the builder's one call (the guide's Derived/Test/ToyasCard.lean, 'card_holds'). Laid BY PROGRAM, IN A SANDBOX (cutbox-door.mjs). By AI agents, Wed Nov 11 2026. No macro, syntax, notation, axiom, sorry.
-/
import Derived.Test.YtbfbajfdlkgloaaGreatDoorRows
import GoSem.ClaimSeven
namespace Go.Proofs.YtbfbajfdlkgloaaGreatDoor
namespace Rows

/-- THE TIED CARD OF 'massiflaw19.FilesList'. -/
def filesListCard : Claim7 := { stood := { row := filesListRow, standIns := [], harness := (true, "759a65f105a2099a25e04b46863193b1d2c4776014f2d4a935e1410f4eb2a1f3"), looks := false }, kinds := [], alts := [], laidByText := true, laidKinds := [.data, .pinned], laidTests := true, laidLooks := .later }
def FilesListCardSaid : Prop := Claim7.holds Tryz.pinned (.plain (OpenSpec.ofChange filesListSpec)) filesListCard

/-- THE TIED CARD OF 'massiflaw19.FilesTwice'. -/
def filesTwiceCard : Claim7 := { stood := { row := filesTwiceRow, standIns := [], harness := (true, "759a65f105a2099a25e04b46863193b1d2c4776014f2d4a935e1410f4eb2a1f3"), looks := false }, kinds := [], alts := [], laidByText := true, laidKinds := [.data, .pinned], laidTests := true, laidLooks := .later }
def FilesTwiceCardSaid : Prop := Claim7.holds Tryz.pinned (.plain (OpenSpec.ofChange filesTwiceSpec)) filesTwiceCard

/-- THE TIED CARD OF 'massiflaw19.FilesRefused'. -/
def filesRefusedCard : Claim7 := { stood := { row := filesRefusedRow, standIns := [], harness := (true, "759a65f105a2099a25e04b46863193b1d2c4776014f2d4a935e1410f4eb2a1f3"), looks := false }, kinds := [], alts := [], laidByText := true, laidKinds := [.data, .pinned], laidTests := true, laidLooks := .later }
def FilesRefusedCardSaid : Prop := Claim7.holds Tryz.pinned (.plain (OpenSpec.ofChange filesRefusedSpec)) filesRefusedCard

/-- THE TIED CARD OF 'massiflaw19.FilesMemory'. -/
def filesMemoryCard : Claim7 := { stood := { row := filesMemoryRow, standIns := [], harness := (true, "759a65f105a2099a25e04b46863193b1d2c4776014f2d4a935e1410f4eb2a1f3"), looks := false }, kinds := [], alts := [], laidByText := true, laidKinds := [.data, .pinned], laidTests := true, laidLooks := .later }
def FilesMemoryCardSaid : Prop := Claim7.holds Tryz.pinned (.plain (OpenSpec.ofChange filesMemorySpec)) filesMemoryCard

/-- THE TIED CARD OF 'massiflaw19.FilesOpens'. -/
def filesOpensCard : Claim7 := { stood := { row := filesOpensRow, standIns := [], harness := (true, "759a65f105a2099a25e04b46863193b1d2c4776014f2d4a935e1410f4eb2a1f3"), looks := false }, kinds := [], alts := [], laidByText := true, laidKinds := [.data, .pinned], laidTests := true, laidLooks := .later }
def FilesOpensCardSaid : Prop := Claim7.holds Tryz.pinned (.plain (OpenSpec.ofChange filesOpensSpec)) filesOpensCard

/-- THE TIED CARD OF 'massiflaw19.FilesTurned'. -/
def filesTurnedCard : Claim7 := { stood := { row := filesTurnedRow, standIns := [], harness := (true, "759a65f105a2099a25e04b46863193b1d2c4776014f2d4a935e1410f4eb2a1f3"), looks := false }, kinds := [], alts := [], laidByText := true, laidKinds := [.data, .pinned], laidTests := true, laidLooks := .later }
def FilesTurnedCardSaid : Prop := Claim7.holds Tryz.pinned (.plain (OpenSpec.ofChange filesTurnedSpec)) filesTurnedCard

/-- THE TIED CARD OF 'massiflaw19.FilesPlays'. -/
def filesPlaysCard : Claim7 := { stood := { row := filesPlaysRow, standIns := [], harness := (true, "759a65f105a2099a25e04b46863193b1d2c4776014f2d4a935e1410f4eb2a1f3"), looks := false }, kinds := [], alts := [], laidByText := true, laidKinds := [.data, .pinned], laidTests := true, laidLooks := .later }
def FilesPlaysCardSaid : Prop := Claim7.holds Tryz.pinned (.plain (OpenSpec.ofChange filesPlaysSpec)) filesPlaysCard

/-- THE TIED CARD OF 'massiflaw19.FilesStorms'. -/
def filesStormsCard : Claim7 := { stood := { row := filesStormsRow, standIns := [], harness := (true, "759a65f105a2099a25e04b46863193b1d2c4776014f2d4a935e1410f4eb2a1f3"), looks := false }, kinds := [], alts := [], laidByText := true, laidKinds := [.data, .pinned], laidTests := true, laidLooks := .later }
def FilesStormsCardSaid : Prop := Claim7.holds Tryz.pinned (.plain (OpenSpec.ofChange filesStormsSpec)) filesStormsCard

/-- THE SECOND FORM's CARD OF 'massiflaw19.FilesList'. -/
def filesListUptoCard : Claim7 := { stood := { row := filesListUptoRow, standIns := [], harness := (true, "759a65f105a2099a25e04b46863193b1d2c4776014f2d4a935e1410f4eb2a1f3"), looks := false }, kinds := [], alts := [], laidByText := true, laidKinds := [.data, .pinned], laidTests := true, laidLooks := .later }
def FilesListUptoCardSaid : Prop := Claim7.holds Tryz.pinned (.plain (OpenSpec.upto filesListSpec)) filesListUptoCard

/-- THE SECOND FORM's CARD OF 'massiflaw19.FilesTwice'. -/
def filesTwiceUptoCard : Claim7 := { stood := { row := filesTwiceUptoRow, standIns := [], harness := (true, "759a65f105a2099a25e04b46863193b1d2c4776014f2d4a935e1410f4eb2a1f3"), looks := false }, kinds := [], alts := [], laidByText := true, laidKinds := [.data, .pinned], laidTests := true, laidLooks := .later }
def FilesTwiceUptoCardSaid : Prop := Claim7.holds Tryz.pinned (.plain (OpenSpec.upto filesTwiceSpec)) filesTwiceUptoCard

/-- THE SECOND FORM's CARD OF 'massiflaw19.FilesRefused'. -/
def filesRefusedUptoCard : Claim7 := { stood := { row := filesRefusedUptoRow, standIns := [], harness := (true, "759a65f105a2099a25e04b46863193b1d2c4776014f2d4a935e1410f4eb2a1f3"), looks := false }, kinds := [], alts := [], laidByText := true, laidKinds := [.data, .pinned], laidTests := true, laidLooks := .later }
def FilesRefusedUptoCardSaid : Prop := Claim7.holds Tryz.pinned (.plain (OpenSpec.upto filesRefusedSpec)) filesRefusedUptoCard

/-- THE SECOND FORM's CARD OF 'massiflaw19.FilesMemory'. -/
def filesMemoryUptoCard : Claim7 := { stood := { row := filesMemoryUptoRow, standIns := [], harness := (true, "759a65f105a2099a25e04b46863193b1d2c4776014f2d4a935e1410f4eb2a1f3"), looks := false }, kinds := [], alts := [], laidByText := true, laidKinds := [.data, .pinned], laidTests := true, laidLooks := .later }
def FilesMemoryUptoCardSaid : Prop := Claim7.holds Tryz.pinned (.plain (OpenSpec.upto filesMemorySpec)) filesMemoryUptoCard

/-- THE SECOND FORM's CARD OF 'massiflaw19.FilesOpens'. -/
def filesOpensUptoCard : Claim7 := { stood := { row := filesOpensUptoRow, standIns := [], harness := (true, "759a65f105a2099a25e04b46863193b1d2c4776014f2d4a935e1410f4eb2a1f3"), looks := false }, kinds := [], alts := [], laidByText := true, laidKinds := [.data, .pinned], laidTests := true, laidLooks := .later }
def FilesOpensUptoCardSaid : Prop := Claim7.holds Tryz.pinned (.plain (OpenSpec.upto filesOpensSpec)) filesOpensUptoCard

/-- THE SECOND FORM's CARD OF 'massiflaw19.FilesTurned'. -/
def filesTurnedUptoCard : Claim7 := { stood := { row := filesTurnedUptoRow, standIns := [], harness := (true, "759a65f105a2099a25e04b46863193b1d2c4776014f2d4a935e1410f4eb2a1f3"), looks := false }, kinds := [], alts := [], laidByText := true, laidKinds := [.data, .pinned], laidTests := true, laidLooks := .later }
def FilesTurnedUptoCardSaid : Prop := Claim7.holds Tryz.pinned (.plain (OpenSpec.upto filesTurnedSpec)) filesTurnedUptoCard

/-- THE SECOND FORM's CARD OF 'massiflaw19.FilesPlays'. -/
def filesPlaysUptoCard : Claim7 := { stood := { row := filesPlaysUptoRow, standIns := [], harness := (true, "759a65f105a2099a25e04b46863193b1d2c4776014f2d4a935e1410f4eb2a1f3"), looks := false }, kinds := [], alts := [], laidByText := true, laidKinds := [.data, .pinned], laidTests := true, laidLooks := .later }
def FilesPlaysUptoCardSaid : Prop := Claim7.holds Tryz.pinned (.plain (OpenSpec.upto filesPlaysSpec)) filesPlaysUptoCard

/-- THE SECOND FORM's CARD OF 'massiflaw19.FilesStorms'. -/
def filesStormsUptoCard : Claim7 := { stood := { row := filesStormsUptoRow, standIns := [], harness := (true, "759a65f105a2099a25e04b46863193b1d2c4776014f2d4a935e1410f4eb2a1f3"), looks := false }, kinds := [], alts := [], laidByText := true, laidKinds := [.data, .pinned], laidTests := true, laidLooks := .later }
def FilesStormsUptoCardSaid : Prop := Claim7.holds Tryz.pinned (.plain (OpenSpec.upto filesStormsSpec)) filesStormsUptoCard
end Rows
end Go.Proofs.YtbfbajfdlkgloaaGreatDoor
