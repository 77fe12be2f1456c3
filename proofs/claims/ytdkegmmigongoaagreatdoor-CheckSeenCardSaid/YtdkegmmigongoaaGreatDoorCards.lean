/-
  DERIVED. GIVEN WITH THE SEED: THE CARDS: each row of YtdkegmmigongoaaGreatDoorRows.lean that lists a variable, with what it lists TIED to the program's text (the seventh form; the later family's looks); each row that meets fmt, with fmt's text TOLD by the authors' own Lean function (tested against real Go, not proved from fmt's source: count such statements apart). THE CARD IS WHAT COUNTS. Prove the row's statement (the work); the ties are given (YtdkegmmigongoaaGreatDoorTie.lean); close each card by the builder's one call (the guide's Derived/Test/ToyasCard.lean, 'card_holds'). Laid BY PROGRAM, IN A SANDBOX (cutbox-door.mjs). By AI agents, Wed Nov 11 2026. No macro, syntax, notation, axiom, sorry.
-/
import Derived.Test.YtdkegmmigongoaaGreatDoorRows
import GoSem.ClaimSeven
namespace Go.Proofs.YtdkegmmigongoaaGreatDoor
namespace Rows

/-- THE TIED CARD OF 'flintlaw20.OpsNumbers'. -/
def opsNumbersCard : Claim7 := { stood := { row := opsNumbersRow, standIns := [], harness := (true, "04d18abcdb851e53f844472ad932dc631d9bc1e64e50bf42fc7066355803b565"), looks := false }, kinds := [], alts := [], laidByText := true, laidKinds := [.data, .pinned], laidTests := true, laidLooks := .later }
def OpsNumbersCardSaid : Prop := Claim7.holds Tryz.pinned (.plain (OpenSpec.ofChange opsNumbersSpec)) opsNumbersCard

/-- THE TIED CARD OF 'flintlaw20.OpsParts'. -/
def opsPartsCard : Claim7 := { stood := { row := opsPartsRow, standIns := [], harness := (true, "04d18abcdb851e53f844472ad932dc631d9bc1e64e50bf42fc7066355803b565"), looks := false }, kinds := [], alts := [], laidByText := true, laidKinds := [.data, .pinned], laidTests := true, laidLooks := .later }
def OpsPartsCardSaid : Prop := Claim7.holds Tryz.pinned (.plain (OpenSpec.ofChange opsPartsSpec)) opsPartsCard

/-- THE TIED CARD OF 'flintlaw20.OpsPlays'. -/
def opsPlaysCard : Claim7 := { stood := { row := opsPlaysRow, standIns := [], harness := (true, "04d18abcdb851e53f844472ad932dc631d9bc1e64e50bf42fc7066355803b565"), looks := false }, kinds := [], alts := [], laidByText := true, laidKinds := [.data, .pinned], laidTests := true, laidLooks := .later }
def OpsPlaysCardSaid : Prop := Claim7.holds Tryz.pinned (.plain (OpenSpec.ofChange opsPlaysSpec)) opsPlaysCard

/-- THE TIED CARD OF 'flintlaw20.OpsMakes'. -/
def opsMakesCard : Claim7 := { stood := { row := opsMakesRow, standIns := [], harness := (true, "04d18abcdb851e53f844472ad932dc631d9bc1e64e50bf42fc7066355803b565"), looks := false }, kinds := [], alts := [], laidByText := true, laidKinds := [.data, .pinned], laidTests := true, laidLooks := .later }
def OpsMakesCardSaid : Prop := Claim7.holds Tryz.pinned (.plain (OpenSpec.ofChange opsMakesSpec)) opsMakesCard

/-- THE TIED CARD OF 'flintlaw20.OpsLooks'. -/
def opsLooksCard : Claim7 := { stood := { row := opsLooksRow, standIns := [], harness := (true, "04d18abcdb851e53f844472ad932dc631d9bc1e64e50bf42fc7066355803b565"), looks := false }, kinds := [], alts := [], laidByText := true, laidKinds := [.data, .pinned], laidTests := true, laidLooks := .later }
def OpsLooksCardSaid : Prop := Claim7.holds Tryz.pinned (.plain (OpenSpec.ofChange opsLooksSpec)) opsLooksCard

/-- THE TIED CARD OF 'flintlaw23.PriceEnough'. -/
def priceEnoughCard : Claim7 := { stood := { row := priceEnoughRow, standIns := [], harness := (true, "04d18abcdb851e53f844472ad932dc631d9bc1e64e50bf42fc7066355803b565"), looks := false }, kinds := [], alts := [], laidByText := true, laidKinds := [.data, .pinned], laidTests := true, laidLooks := .later }
def PriceEnoughCardSaid : Prop := Claim7.holds Tryz.pinned (.plain (OpenSpec.ofChange priceEnoughSpec)) priceEnoughCard

/-- THE TIED CARD OF 'flintlaw27.CheckClean'. -/
def checkCleanCard : Claim7 := { stood := { row := checkCleanRow, standIns := [], harness := (true, "04d18abcdb851e53f844472ad932dc631d9bc1e64e50bf42fc7066355803b565"), looks := false }, kinds := [], alts := [], laidByText := true, laidKinds := [.data, .pinned], laidTests := true, laidLooks := .later }
def CheckCleanCardSaid : Prop := Claim7.holds Tryz.pinned (.plain (OpenSpec.ofChange checkCleanSpec)) checkCleanCard

/-- THE TIED CARD OF 'flintlaw27.CheckSeen'. -/
def checkSeenCard : Claim7 := { stood := { row := checkSeenRow, standIns := [], harness := (true, "04d18abcdb851e53f844472ad932dc631d9bc1e64e50bf42fc7066355803b565"), looks := false }, kinds := [], alts := [], laidByText := true, laidKinds := [.data, .pinned], laidTests := true, laidLooks := .later }
def CheckSeenCardSaid : Prop := Claim7.holds Tryz.pinned (.plain (OpenSpec.ofChange checkSeenSpec)) checkSeenCard

/-- THE SECOND FORM's CARD OF 'flintlaw20.OpsNumbers'. -/
def opsNumbersUptoCard : Claim7 := { stood := { row := opsNumbersUptoRow, standIns := [], harness := (true, "04d18abcdb851e53f844472ad932dc631d9bc1e64e50bf42fc7066355803b565"), looks := false }, kinds := [], alts := [], laidByText := true, laidKinds := [.data, .pinned], laidTests := true, laidLooks := .later }
def OpsNumbersUptoCardSaid : Prop := Claim7.holds Tryz.pinned (.plain (OpenSpec.upto opsNumbersSpec)) opsNumbersUptoCard

/-- THE SECOND FORM's CARD OF 'flintlaw20.OpsParts'. -/
def opsPartsUptoCard : Claim7 := { stood := { row := opsPartsUptoRow, standIns := [], harness := (true, "04d18abcdb851e53f844472ad932dc631d9bc1e64e50bf42fc7066355803b565"), looks := false }, kinds := [], alts := [], laidByText := true, laidKinds := [.data, .pinned], laidTests := true, laidLooks := .later }
def OpsPartsUptoCardSaid : Prop := Claim7.holds Tryz.pinned (.plain (OpenSpec.upto opsPartsSpec)) opsPartsUptoCard

/-- THE SECOND FORM's CARD OF 'flintlaw20.OpsPlays'. -/
def opsPlaysUptoCard : Claim7 := { stood := { row := opsPlaysUptoRow, standIns := [], harness := (true, "04d18abcdb851e53f844472ad932dc631d9bc1e64e50bf42fc7066355803b565"), looks := false }, kinds := [], alts := [], laidByText := true, laidKinds := [.data, .pinned], laidTests := true, laidLooks := .later }
def OpsPlaysUptoCardSaid : Prop := Claim7.holds Tryz.pinned (.plain (OpenSpec.upto opsPlaysSpec)) opsPlaysUptoCard

/-- THE SECOND FORM's CARD OF 'flintlaw20.OpsMakes'. -/
def opsMakesUptoCard : Claim7 := { stood := { row := opsMakesUptoRow, standIns := [], harness := (true, "04d18abcdb851e53f844472ad932dc631d9bc1e64e50bf42fc7066355803b565"), looks := false }, kinds := [], alts := [], laidByText := true, laidKinds := [.data, .pinned], laidTests := true, laidLooks := .later }
def OpsMakesUptoCardSaid : Prop := Claim7.holds Tryz.pinned (.plain (OpenSpec.upto opsMakesSpec)) opsMakesUptoCard

/-- THE SECOND FORM's CARD OF 'flintlaw20.OpsLooks'. -/
def opsLooksUptoCard : Claim7 := { stood := { row := opsLooksUptoRow, standIns := [], harness := (true, "04d18abcdb851e53f844472ad932dc631d9bc1e64e50bf42fc7066355803b565"), looks := false }, kinds := [], alts := [], laidByText := true, laidKinds := [.data, .pinned], laidTests := true, laidLooks := .later }
def OpsLooksUptoCardSaid : Prop := Claim7.holds Tryz.pinned (.plain (OpenSpec.upto opsLooksSpec)) opsLooksUptoCard

/-- THE SECOND FORM's CARD OF 'flintlaw23.PriceEnough'. -/
def priceEnoughUptoCard : Claim7 := { stood := { row := priceEnoughUptoRow, standIns := [], harness := (true, "04d18abcdb851e53f844472ad932dc631d9bc1e64e50bf42fc7066355803b565"), looks := false }, kinds := [], alts := [], laidByText := true, laidKinds := [.data, .pinned], laidTests := true, laidLooks := .later }
def PriceEnoughUptoCardSaid : Prop := Claim7.holds Tryz.pinned (.plain (OpenSpec.upto priceEnoughSpec)) priceEnoughUptoCard

/-- THE SECOND FORM's CARD OF 'flintlaw27.CheckClean'. -/
def checkCleanUptoCard : Claim7 := { stood := { row := checkCleanUptoRow, standIns := [], harness := (true, "04d18abcdb851e53f844472ad932dc631d9bc1e64e50bf42fc7066355803b565"), looks := false }, kinds := [], alts := [], laidByText := true, laidKinds := [.data, .pinned], laidTests := true, laidLooks := .later }
def CheckCleanUptoCardSaid : Prop := Claim7.holds Tryz.pinned (.plain (OpenSpec.upto checkCleanSpec)) checkCleanUptoCard

/-- THE SECOND FORM's CARD OF 'flintlaw27.CheckSeen'. -/
def checkSeenUptoCard : Claim7 := { stood := { row := checkSeenUptoRow, standIns := [], harness := (true, "04d18abcdb851e53f844472ad932dc631d9bc1e64e50bf42fc7066355803b565"), looks := false }, kinds := [], alts := [], laidByText := true, laidKinds := [.data, .pinned], laidTests := true, laidLooks := .later }
def CheckSeenUptoCardSaid : Prop := Claim7.holds Tryz.pinned (.plain (OpenSpec.upto checkSeenSpec)) checkSeenUptoCard
end Rows
end Go.Proofs.YtdkegmmigongoaaGreatDoor
