/-
  DERIVED. GIVEN WITH THE SEED: THE CARDS: each row of YtdnpkgakpiopgaaGreatDoorRows.lean that lists a variable, with what it lists TIED to the program's text (the seventh form; the later family's looks); each row that meets fmt, with fmt's text TOLD by the authors' own Lean function (tested against real Go, not proved from fmt's source: count such statements apart). THE CARD IS WHAT COUNTS. Prove the row's statement (the work); the ties are given (YtdnpkgakpiopgaaGreatDoorTie.lean); close each card by the builder's one call (the guide's Derived/Test/ToyasCard.lean, 'card_holds'). Laid BY PROGRAM, IN A SANDBOX (cutbox-door.mjs). By AI agents, Wed Nov 11 2026. No macro, syntax, notation, axiom, sorry.
-/
import Derived.Test.YtdnpkgakpiopgaaGreatDoorRows
import GoSem.ClaimSeven
namespace Go.Proofs.YtdnpkgakpiopgaaGreatDoor
namespace Rows

/-- THE TIED CARD OF 'flintlaw28.ArkSaves'. -/
def arkSavesCard : Claim7 := { stood := { row := arkSavesRow, standIns := [], harness := (true, "795f4a2e3cedda4fde097e88b58c534b05b7c4c5ae92649fe4b8f9666602d10e"), looks := false }, kinds := [], alts := [], laidByText := true, laidKinds := [.data, .pinned], laidTests := true, laidLooks := .later }
def ArkSavesCardSaid : Prop := Claim7.holds Tryz.pinned (.plain (OpenSpec.ofChange arkSavesSpec)) arkSavesCard

/-- THE TIED CARD OF 'flintlaw28.ArkBack'. -/
def arkBackCard : Claim7 := { stood := { row := arkBackRow, standIns := [], harness := (true, "795f4a2e3cedda4fde097e88b58c534b05b7c4c5ae92649fe4b8f9666602d10e"), looks := false }, kinds := [], alts := [], laidByText := true, laidKinds := [.data, .pinned], laidTests := true, laidLooks := .later }
def ArkBackCardSaid : Prop := Claim7.holds Tryz.pinned (.plain (OpenSpec.ofChange arkBackSpec)) arkBackCard

/-- THE TIED CARD OF 'flintlaw29.DiffIs'. -/
def diffIsCard : Claim7 := { stood := { row := diffIsRow, standIns := [], harness := (true, "795f4a2e3cedda4fde097e88b58c534b05b7c4c5ae92649fe4b8f9666602d10e"), looks := false }, kinds := [], alts := [], laidByText := true, laidKinds := [.data, .pinned], laidTests := true, laidLooks := .later }
def DiffIsCardSaid : Prop := Claim7.holds Tryz.pinned (.plain (OpenSpec.ofChange diffIsSpec)) diffIsCard

/-- THE TIED CARD OF 'flintlaw29.DiffOn'. -/
def diffOnCard : Claim7 := { stood := { row := diffOnRow, standIns := [], harness := (true, "795f4a2e3cedda4fde097e88b58c534b05b7c4c5ae92649fe4b8f9666602d10e"), looks := false }, kinds := [], alts := [], laidByText := true, laidKinds := [.data, .pinned], laidTests := true, laidLooks := .later }
def DiffOnCardSaid : Prop := Claim7.holds Tryz.pinned (.plain (OpenSpec.ofChange diffOnSpec)) diffOnCard

/-- THE TIED CARD OF 'flintlaw29.DiffTurned'. -/
def diffTurnedCard : Claim7 := { stood := { row := diffTurnedRow, standIns := [], harness := (true, "795f4a2e3cedda4fde097e88b58c534b05b7c4c5ae92649fe4b8f9666602d10e"), looks := false }, kinds := [], alts := [], laidByText := true, laidKinds := [.data, .pinned], laidTests := true, laidLooks := .later }
def DiffTurnedCardSaid : Prop := Claim7.holds Tryz.pinned (.plain (OpenSpec.ofChange diffTurnedSpec)) diffTurnedCard

/-- THE TIED CARD OF 'flintlaw29.DiffNone'. -/
def diffNoneCard : Claim7 := { stood := { row := diffNoneRow, standIns := [], harness := (true, "795f4a2e3cedda4fde097e88b58c534b05b7c4c5ae92649fe4b8f9666602d10e"), looks := false }, kinds := [], alts := [], laidByText := true, laidKinds := [.data, .pinned], laidTests := true, laidLooks := .later }
def DiffNoneCardSaid : Prop := Claim7.holds Tryz.pinned (.plain (OpenSpec.ofChange diffNoneSpec)) diffNoneCard

/-- THE SECOND FORM's CARD OF 'flintlaw28.ArkSaves'. -/
def arkSavesUptoCard : Claim7 := { stood := { row := arkSavesUptoRow, standIns := [], harness := (true, "795f4a2e3cedda4fde097e88b58c534b05b7c4c5ae92649fe4b8f9666602d10e"), looks := false }, kinds := [], alts := [], laidByText := true, laidKinds := [.data, .pinned], laidTests := true, laidLooks := .later }
def ArkSavesUptoCardSaid : Prop := Claim7.holds Tryz.pinned (.plain (OpenSpec.upto arkSavesSpec)) arkSavesUptoCard

/-- THE SECOND FORM's CARD OF 'flintlaw28.ArkBack'. -/
def arkBackUptoCard : Claim7 := { stood := { row := arkBackUptoRow, standIns := [], harness := (true, "795f4a2e3cedda4fde097e88b58c534b05b7c4c5ae92649fe4b8f9666602d10e"), looks := false }, kinds := [], alts := [], laidByText := true, laidKinds := [.data, .pinned], laidTests := true, laidLooks := .later }
def ArkBackUptoCardSaid : Prop := Claim7.holds Tryz.pinned (.plain (OpenSpec.upto arkBackSpec)) arkBackUptoCard

/-- THE SECOND FORM's CARD OF 'flintlaw29.DiffIs'. -/
def diffIsUptoCard : Claim7 := { stood := { row := diffIsUptoRow, standIns := [], harness := (true, "795f4a2e3cedda4fde097e88b58c534b05b7c4c5ae92649fe4b8f9666602d10e"), looks := false }, kinds := [], alts := [], laidByText := true, laidKinds := [.data, .pinned], laidTests := true, laidLooks := .later }
def DiffIsUptoCardSaid : Prop := Claim7.holds Tryz.pinned (.plain (OpenSpec.upto diffIsSpec)) diffIsUptoCard

/-- THE SECOND FORM's CARD OF 'flintlaw29.DiffOn'. -/
def diffOnUptoCard : Claim7 := { stood := { row := diffOnUptoRow, standIns := [], harness := (true, "795f4a2e3cedda4fde097e88b58c534b05b7c4c5ae92649fe4b8f9666602d10e"), looks := false }, kinds := [], alts := [], laidByText := true, laidKinds := [.data, .pinned], laidTests := true, laidLooks := .later }
def DiffOnUptoCardSaid : Prop := Claim7.holds Tryz.pinned (.plain (OpenSpec.upto diffOnSpec)) diffOnUptoCard

/-- THE SECOND FORM's CARD OF 'flintlaw29.DiffTurned'. -/
def diffTurnedUptoCard : Claim7 := { stood := { row := diffTurnedUptoRow, standIns := [], harness := (true, "795f4a2e3cedda4fde097e88b58c534b05b7c4c5ae92649fe4b8f9666602d10e"), looks := false }, kinds := [], alts := [], laidByText := true, laidKinds := [.data, .pinned], laidTests := true, laidLooks := .later }
def DiffTurnedUptoCardSaid : Prop := Claim7.holds Tryz.pinned (.plain (OpenSpec.upto diffTurnedSpec)) diffTurnedUptoCard

/-- THE SECOND FORM's CARD OF 'flintlaw29.DiffNone'. -/
def diffNoneUptoCard : Claim7 := { stood := { row := diffNoneUptoRow, standIns := [], harness := (true, "795f4a2e3cedda4fde097e88b58c534b05b7c4c5ae92649fe4b8f9666602d10e"), looks := false }, kinds := [], alts := [], laidByText := true, laidKinds := [.data, .pinned], laidTests := true, laidLooks := .later }
def DiffNoneUptoCardSaid : Prop := Claim7.holds Tryz.pinned (.plain (OpenSpec.upto diffNoneSpec)) diffNoneUptoCard
end Rows
end Go.Proofs.YtdnpkgakpiopgaaGreatDoor
