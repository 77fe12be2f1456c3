/-
  DERIVED. GIVEN WITH THE SEED: THE CARDS: each row of YtjibchohkeljkaaDoorRows.lean that lists a variable, with what it lists TIED to the program's text (the seventh form; the later family's looks); each row that meets fmt, with fmt's text TOLD by the authors' own Lean function (tested against real Go, not proved from fmt's source: count such statements apart). THE CARD IS WHAT COUNTS. Prove the row's statement (the work); the ties are given (YtjibchohkeljkaaDoorTie.lean); close each card by the builder's one call (the guide's Derived/Test/ToyasCard.lean, 'card_holds'). Laid BY PROGRAM, IN A SANDBOX (cutbox-door.mjs). By AI agents, Wed Nov 11 2026. No macro, syntax, notation, axiom, sorry.
-/
import Derived.Test.YtjibchohkeljkaaDoorRows
import GoSem.ClaimSeven
namespace Go.Proofs.YtjibchohkeljkaaDoor
namespace Rows

/-- THE TIED CARD OF 'flintlaw16.NamesUnder'. -/
def namesUnderCard : Claim7 := { stood := { row := namesUnderRow, standIns := [], harness := (true, "224bcd6e47639eb01fb6312b8e03260cc5d740e25099b30cc81ecbb04b5be130"), looks := false }, kinds := [], alts := [], laidByText := true, laidKinds := [.data, .pinned], laidTests := true, laidLooks := .later }
def NamesUnderCardSaid : Prop := Claim7.holds Tryd.pinned (.plain (OpenSpec.ofChange namesUnderSpec)) namesUnderCard

/-- THE TIED CARD OF 'flintlaw16.NamesSplit'. -/
def namesSplitCard : Claim7 := { stood := { row := namesSplitRow, standIns := [], harness := (true, "224bcd6e47639eb01fb6312b8e03260cc5d740e25099b30cc81ecbb04b5be130"), looks := false }, kinds := [], alts := [], laidByText := true, laidKinds := [.data, .pinned], laidTests := true, laidLooks := .later }
def NamesSplitCardSaid : Prop := Claim7.holds Tryd.pinned (.plain (OpenSpec.ofChange namesSplitSpec)) namesSplitCard

/-- THE TIED CARD OF 'flintlaw16.NamesJoin'. -/
def namesJoinCard : Claim7 := { stood := { row := namesJoinRow, standIns := [], harness := (true, "224bcd6e47639eb01fb6312b8e03260cc5d740e25099b30cc81ecbb04b5be130"), looks := false }, kinds := [], alts := [], laidByText := true, laidKinds := [.data, .pinned], laidTests := true, laidLooks := .later }
def NamesJoinCardSaid : Prop := Claim7.holds Tryd.pinned (.plain (OpenSpec.ofChange namesJoinSpec)) namesJoinCard

/-- THE TIED CARD OF 'flintlaw17.WalkReads'. -/
def walkReadsCard : Claim7 := { stood := { row := walkReadsRow, standIns := [], harness := (true, "224bcd6e47639eb01fb6312b8e03260cc5d740e25099b30cc81ecbb04b5be130"), looks := false }, kinds := [], alts := [], laidByText := true, laidKinds := [.data, .pinned], laidTests := true, laidLooks := .later }
def WalkReadsCardSaid : Prop := Claim7.holds Tryd.pinned (.plain (OpenSpec.ofChange walkReadsSpec)) walkReadsCard

/-- THE TIED CARD OF 'flintlaw17.WalkHangs'. -/
def walkHangsCard : Claim7 := { stood := { row := walkHangsRow, standIns := [], harness := (true, "224bcd6e47639eb01fb6312b8e03260cc5d740e25099b30cc81ecbb04b5be130"), looks := false }, kinds := [], alts := [], laidByText := true, laidKinds := [.data, .pinned], laidTests := true, laidLooks := .later }
def WalkHangsCardSaid : Prop := Claim7.holds Tryd.pinned (.plain (OpenSpec.ofChange walkHangsSpec)) walkHangsCard

/-- THE SECOND FORM's CARD OF 'flintlaw16.NamesUnder'. -/
def namesUnderUptoCard : Claim7 := { stood := { row := namesUnderUptoRow, standIns := [], harness := (true, "224bcd6e47639eb01fb6312b8e03260cc5d740e25099b30cc81ecbb04b5be130"), looks := false }, kinds := [], alts := [], laidByText := true, laidKinds := [.data, .pinned], laidTests := true, laidLooks := .later }
def NamesUnderUptoCardSaid : Prop := Claim7.holds Tryd.pinned (.plain (OpenSpec.upto namesUnderSpec)) namesUnderUptoCard

/-- THE SECOND FORM's CARD OF 'flintlaw16.NamesSplit'. -/
def namesSplitUptoCard : Claim7 := { stood := { row := namesSplitUptoRow, standIns := [], harness := (true, "224bcd6e47639eb01fb6312b8e03260cc5d740e25099b30cc81ecbb04b5be130"), looks := false }, kinds := [], alts := [], laidByText := true, laidKinds := [.data, .pinned], laidTests := true, laidLooks := .later }
def NamesSplitUptoCardSaid : Prop := Claim7.holds Tryd.pinned (.plain (OpenSpec.upto namesSplitSpec)) namesSplitUptoCard

/-- THE SECOND FORM's CARD OF 'flintlaw16.NamesJoin'. -/
def namesJoinUptoCard : Claim7 := { stood := { row := namesJoinUptoRow, standIns := [], harness := (true, "224bcd6e47639eb01fb6312b8e03260cc5d740e25099b30cc81ecbb04b5be130"), looks := false }, kinds := [], alts := [], laidByText := true, laidKinds := [.data, .pinned], laidTests := true, laidLooks := .later }
def NamesJoinUptoCardSaid : Prop := Claim7.holds Tryd.pinned (.plain (OpenSpec.upto namesJoinSpec)) namesJoinUptoCard

/-- THE SECOND FORM's CARD OF 'flintlaw17.WalkReads'. -/
def walkReadsUptoCard : Claim7 := { stood := { row := walkReadsUptoRow, standIns := [], harness := (true, "224bcd6e47639eb01fb6312b8e03260cc5d740e25099b30cc81ecbb04b5be130"), looks := false }, kinds := [], alts := [], laidByText := true, laidKinds := [.data, .pinned], laidTests := true, laidLooks := .later }
def WalkReadsUptoCardSaid : Prop := Claim7.holds Tryd.pinned (.plain (OpenSpec.upto walkReadsSpec)) walkReadsUptoCard

/-- THE SECOND FORM's CARD OF 'flintlaw17.WalkHangs'. -/
def walkHangsUptoCard : Claim7 := { stood := { row := walkHangsUptoRow, standIns := [], harness := (true, "224bcd6e47639eb01fb6312b8e03260cc5d740e25099b30cc81ecbb04b5be130"), looks := false }, kinds := [], alts := [], laidByText := true, laidKinds := [.data, .pinned], laidTests := true, laidLooks := .later }
def WalkHangsUptoCardSaid : Prop := Claim7.holds Tryd.pinned (.plain (OpenSpec.upto walkHangsSpec)) walkHangsUptoCard
end Rows
end Go.Proofs.YtjibchohkeljkaaDoor
