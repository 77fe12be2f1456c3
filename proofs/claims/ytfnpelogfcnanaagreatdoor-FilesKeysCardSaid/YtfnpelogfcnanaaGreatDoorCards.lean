/-
  DERIVED. GIVEN WITH THE SEED: THE CARDS: each row of YtfnpelogfcnanaaGreatDoorRows.lean that lists a variable, with what it lists TIED to the program's text (the seventh form; the later family's looks); each row that meets fmt, with fmt's text TOLD by the authors' own Lean function (tested against real Go, not proved from fmt's source: count such statements apart). THE CARD IS WHAT COUNTS. Prove the row's statement (the work); the ties are given (YtfnpelogfcnanaaGreatDoorTie.lean); close each card by the builder's one call (the guide's Derived/Test/ToyasCard.lean, 'card_holds'). Laid BY PROGRAM, IN A SANDBOX (cutbox-door.mjs). By AI agents, Wed Nov 11 2026. No macro, syntax, notation, axiom, sorry.
-/
import Derived.Test.YtfnpelogfcnanaaGreatDoorRows
import GoSem.ClaimSeven
namespace Go.Proofs.YtfnpelogfcnanaaGreatDoor
namespace Rows

/-- THE TIED CARD OF 'flintlaw18.DirsPlays'. -/
def dirsPlaysCard : Claim7 := { stood := { row := dirsPlaysRow, standIns := [], harness := (true, "29a4fbbeffa2385ed27a558e843ebe693ce6b990bcc15f0cb7e0a5fe1e3b211d"), looks := false }, kinds := [], alts := [], laidByText := true, laidKinds := [.data, .pinned], laidTests := true, laidLooks := .later }
def DirsPlaysCardSaid : Prop := Claim7.holds Tryz.pinned (.plain (OpenSpec.ofChange dirsPlaysSpec)) dirsPlaysCard

/-- THE TIED CARD OF 'flintlaw18.DirsTree'. -/
def dirsTreeCard : Claim7 := { stood := { row := dirsTreeRow, standIns := [], harness := (true, "29a4fbbeffa2385ed27a558e843ebe693ce6b990bcc15f0cb7e0a5fe1e3b211d"), looks := false }, kinds := [], alts := [], laidByText := true, laidKinds := [.data, .pinned], laidTests := true, laidLooks := .later }
def DirsTreeCardSaid : Prop := Claim7.holds Tryz.pinned (.plain (OpenSpec.ofChange dirsTreeSpec)) dirsTreeCard

/-- THE TIED CARD OF 'flintlaw18.DirsThere'. -/
def dirsThereCard : Claim7 := { stood := { row := dirsThereRow, standIns := [], harness := (true, "29a4fbbeffa2385ed27a558e843ebe693ce6b990bcc15f0cb7e0a5fe1e3b211d"), looks := false }, kinds := [], alts := [], laidByText := true, laidKinds := [.data, .pinned], laidTests := true, laidLooks := .later }
def DirsThereCardSaid : Prop := Claim7.holds Tryz.pinned (.plain (OpenSpec.ofChange dirsThereSpec)) dirsThereCard

/-- THE TIED CARD OF 'flintlaw18.DirsRefuse'. -/
def dirsRefuseCard : Claim7 := { stood := { row := dirsRefuseRow, standIns := [], harness := (true, "29a4fbbeffa2385ed27a558e843ebe693ce6b990bcc15f0cb7e0a5fe1e3b211d"), looks := false }, kinds := [], alts := [], laidByText := true, laidKinds := [.data, .pinned], laidTests := true, laidLooks := .later }
def DirsRefuseCardSaid : Prop := Claim7.holds Tryz.pinned (.plain (OpenSpec.ofChange dirsRefuseSpec)) dirsRefuseCard

/-- THE TIED CARD OF 'flintlaw19.FilesPlays'. -/
def filesPlaysCard : Claim7 := { stood := { row := filesPlaysRow, standIns := [], harness := (true, "29a4fbbeffa2385ed27a558e843ebe693ce6b990bcc15f0cb7e0a5fe1e3b211d"), looks := false }, kinds := [], alts := [], laidByText := true, laidKinds := [.data, .pinned], laidTests := true, laidLooks := .later }
def FilesPlaysCardSaid : Prop := Claim7.holds Tryz.pinned (.plain (OpenSpec.ofChange filesPlaysSpec)) filesPlaysCard

/-- THE TIED CARD OF 'flintlaw19.FilesKeys'. -/
def filesKeysCard : Claim7 := { stood := { row := filesKeysRow, standIns := [], harness := (true, "29a4fbbeffa2385ed27a558e843ebe693ce6b990bcc15f0cb7e0a5fe1e3b211d"), looks := false }, kinds := [], alts := [], laidByText := true, laidKinds := [.data, .pinned], laidTests := true, laidLooks := .later }
def FilesKeysCardSaid : Prop := Claim7.holds Tryz.pinned (.plain (OpenSpec.ofChange filesKeysSpec)) filesKeysCard

/-- THE TIED CARD OF 'flintlaw19.FilesBack'. -/
def filesBackCard : Claim7 := { stood := { row := filesBackRow, standIns := [], harness := (true, "29a4fbbeffa2385ed27a558e843ebe693ce6b990bcc15f0cb7e0a5fe1e3b211d"), looks := false }, kinds := [], alts := [], laidByText := true, laidKinds := [.data, .pinned], laidTests := true, laidLooks := .later }
def FilesBackCardSaid : Prop := Claim7.holds Tryz.pinned (.plain (OpenSpec.ofChange filesBackSpec)) filesBackCard

/-- THE TIED CARD OF 'flintlaw19.FilesShrink'. -/
def filesShrinkCard : Claim7 := { stood := { row := filesShrinkRow, standIns := [], harness := (true, "29a4fbbeffa2385ed27a558e843ebe693ce6b990bcc15f0cb7e0a5fe1e3b211d"), looks := false }, kinds := [], alts := [], laidByText := true, laidKinds := [.data, .pinned], laidTests := true, laidLooks := .later }
def FilesShrinkCardSaid : Prop := Claim7.holds Tryz.pinned (.plain (OpenSpec.ofChange filesShrinkSpec)) filesShrinkCard

/-- THE SECOND FORM's CARD OF 'flintlaw18.DirsPlays'. -/
def dirsPlaysUptoCard : Claim7 := { stood := { row := dirsPlaysUptoRow, standIns := [], harness := (true, "29a4fbbeffa2385ed27a558e843ebe693ce6b990bcc15f0cb7e0a5fe1e3b211d"), looks := false }, kinds := [], alts := [], laidByText := true, laidKinds := [.data, .pinned], laidTests := true, laidLooks := .later }
def DirsPlaysUptoCardSaid : Prop := Claim7.holds Tryz.pinned (.plain (OpenSpec.upto dirsPlaysSpec)) dirsPlaysUptoCard

/-- THE SECOND FORM's CARD OF 'flintlaw18.DirsTree'. -/
def dirsTreeUptoCard : Claim7 := { stood := { row := dirsTreeUptoRow, standIns := [], harness := (true, "29a4fbbeffa2385ed27a558e843ebe693ce6b990bcc15f0cb7e0a5fe1e3b211d"), looks := false }, kinds := [], alts := [], laidByText := true, laidKinds := [.data, .pinned], laidTests := true, laidLooks := .later }
def DirsTreeUptoCardSaid : Prop := Claim7.holds Tryz.pinned (.plain (OpenSpec.upto dirsTreeSpec)) dirsTreeUptoCard

/-- THE SECOND FORM's CARD OF 'flintlaw18.DirsThere'. -/
def dirsThereUptoCard : Claim7 := { stood := { row := dirsThereUptoRow, standIns := [], harness := (true, "29a4fbbeffa2385ed27a558e843ebe693ce6b990bcc15f0cb7e0a5fe1e3b211d"), looks := false }, kinds := [], alts := [], laidByText := true, laidKinds := [.data, .pinned], laidTests := true, laidLooks := .later }
def DirsThereUptoCardSaid : Prop := Claim7.holds Tryz.pinned (.plain (OpenSpec.upto dirsThereSpec)) dirsThereUptoCard

/-- THE SECOND FORM's CARD OF 'flintlaw18.DirsRefuse'. -/
def dirsRefuseUptoCard : Claim7 := { stood := { row := dirsRefuseUptoRow, standIns := [], harness := (true, "29a4fbbeffa2385ed27a558e843ebe693ce6b990bcc15f0cb7e0a5fe1e3b211d"), looks := false }, kinds := [], alts := [], laidByText := true, laidKinds := [.data, .pinned], laidTests := true, laidLooks := .later }
def DirsRefuseUptoCardSaid : Prop := Claim7.holds Tryz.pinned (.plain (OpenSpec.upto dirsRefuseSpec)) dirsRefuseUptoCard

/-- THE SECOND FORM's CARD OF 'flintlaw19.FilesPlays'. -/
def filesPlaysUptoCard : Claim7 := { stood := { row := filesPlaysUptoRow, standIns := [], harness := (true, "29a4fbbeffa2385ed27a558e843ebe693ce6b990bcc15f0cb7e0a5fe1e3b211d"), looks := false }, kinds := [], alts := [], laidByText := true, laidKinds := [.data, .pinned], laidTests := true, laidLooks := .later }
def FilesPlaysUptoCardSaid : Prop := Claim7.holds Tryz.pinned (.plain (OpenSpec.upto filesPlaysSpec)) filesPlaysUptoCard

/-- THE SECOND FORM's CARD OF 'flintlaw19.FilesKeys'. -/
def filesKeysUptoCard : Claim7 := { stood := { row := filesKeysUptoRow, standIns := [], harness := (true, "29a4fbbeffa2385ed27a558e843ebe693ce6b990bcc15f0cb7e0a5fe1e3b211d"), looks := false }, kinds := [], alts := [], laidByText := true, laidKinds := [.data, .pinned], laidTests := true, laidLooks := .later }
def FilesKeysUptoCardSaid : Prop := Claim7.holds Tryz.pinned (.plain (OpenSpec.upto filesKeysSpec)) filesKeysUptoCard

/-- THE SECOND FORM's CARD OF 'flintlaw19.FilesBack'. -/
def filesBackUptoCard : Claim7 := { stood := { row := filesBackUptoRow, standIns := [], harness := (true, "29a4fbbeffa2385ed27a558e843ebe693ce6b990bcc15f0cb7e0a5fe1e3b211d"), looks := false }, kinds := [], alts := [], laidByText := true, laidKinds := [.data, .pinned], laidTests := true, laidLooks := .later }
def FilesBackUptoCardSaid : Prop := Claim7.holds Tryz.pinned (.plain (OpenSpec.upto filesBackSpec)) filesBackUptoCard

/-- THE SECOND FORM's CARD OF 'flintlaw19.FilesShrink'. -/
def filesShrinkUptoCard : Claim7 := { stood := { row := filesShrinkUptoRow, standIns := [], harness := (true, "29a4fbbeffa2385ed27a558e843ebe693ce6b990bcc15f0cb7e0a5fe1e3b211d"), looks := false }, kinds := [], alts := [], laidByText := true, laidKinds := [.data, .pinned], laidTests := true, laidLooks := .later }
def FilesShrinkUptoCardSaid : Prop := Claim7.holds Tryz.pinned (.plain (OpenSpec.upto filesShrinkSpec)) filesShrinkUptoCard
end Rows
end Go.Proofs.YtfnpelogfcnanaaGreatDoor
