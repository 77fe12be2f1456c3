/-
  NARROWER THAN 'FOR EVERY INPUT', by the rows' own cells (each row's printed sentence says how): NamesUnder: laid · NamesSplit: laid · NamesJoin: laid · WalkReads: laid · WalkHangs: laid.
  DERIVED. THE GIVEN ROWS OF THIS SEAT. 5 by the template 'for every input the law returns true; each argument reads behind the call as it read before'; 0 by the template 'total and deterministic' (their statements: YtjibchohkeljkaaDoorTotals.lean).
  GIVEN WITH THE SEED: the statements are not yours to turn. If you find one false, say at which input.
  Laid BY PROGRAM, IN A SANDBOX (cutbox-rows.mjs): the forced cells as the released guide's own fill.sh prints them over the translation 3f8016e2e0e31388… (all of the seat's roots in one cut). By AI agents, Wed Nov 11 2026. No macro, syntax, notation, axiom, sorry.
-/
import Derived.Test.YtjibchohkeljkaaDoorChecked
import GoSem.PinnedTables
import GoSem.Claim
import GoSem.ClaimJoined
import GoSem.ClaimMapViews
import Derived.JoinedTies
import Derived.KernelRfl
namespace Go.Proofs.YtjibchohkeljkaaDoor
/- THE CELL 'sum', in the pinned program and in every row, IS THE sha256 OF THE DUMP (.gsa) THAT YtjibchohkeljkaaDoorProg.lean LOADS. Nothing in Lean hashes anything: it is a label: what it is worth is what the hold of that sum in a sandbox is worth. -/
noncomputable def Tryd.pinned : Pinned := { name := "ytjibchohkeljkaadoor", sum := "3f8016e2e0e31388682f2c6b8be723581ccfe07f165b269b61b219f2f6179555", checked := Tryd.checked }
namespace Rows
def none {H : Type} : Left H := { results := [], args := [] }

/- WHAT THE LISTED PACKAGE-LEVEL VARIABLES READ AS WHEN THE CALL BEGINS. Each datum BY PROGRAM (the guide's laid-datum.mjs) off the statement by which the dump's own 'gosem.cut.vars' lays the variable. In a bare row this is a premise. The card (YtjibchohkeljkaaDoorCards.lean) ties it to the program's text. -/
def laid_unicode_utf8_acceptRanges {H : Type} : DataW H := .agg [.agg [.lit (.int .u8 128), .lit (.int .u8 191)], .agg [.lit (.int .u8 160), .lit (.int .u8 191)], .agg [.lit (.int .u8 128), .lit (.int .u8 159)], .agg [.lit (.int .u8 144), .lit (.int .u8 191)], .agg [.lit (.int .u8 128), .lit (.int .u8 143)], .agg [.lit (.int .u8 0), .lit (.int .u8 0)], .agg [.lit (.int .u8 0), .lit (.int .u8 0)], .agg [.lit (.int .u8 0), .lit (.int .u8 0)], .agg [.lit (.int .u8 0), .lit (.int .u8 0)], .agg [.lit (.int .u8 0), .lit (.int .u8 0)], .agg [.lit (.int .u8 0), .lit (.int .u8 0)], .agg [.lit (.int .u8 0), .lit (.int .u8 0)], .agg [.lit (.int .u8 0), .lit (.int .u8 0)], .agg [.lit (.int .u8 0), .lit (.int .u8 0)], .agg [.lit (.int .u8 0), .lit (.int .u8 0)], .agg [.lit (.int .u8 0), .lit (.int .u8 0)]]
/-- One of Go's own tables, pinned by name: the form's constant. -/
def laid_unicode_utf8_first : DataW Unit := Go.Pinned.utf8First

/-- 'flintlaw16.NamesUnder': WHATEVER THE INPUT: true; the input reads as it did. -/
def namesUnderSpec : ChangeSpec := { name := "namesUnder", fn := fun _ => fun
  | [d1, d2] => { results := [.lit (.bool true)], args := [d1, d2] }
  | _ => none }
def namesUnderRow : OpenClaim := { program := "ytjibchohkeljkaadoor", sum := "3f8016e2e0e31388682f2c6b8be723581ccfe07f165b269b61b219f2f6179555", func := "flint/flintlaw16.NamesUnder", spec := "namesUnder", inPlace := ["internal/bytealg.CountString", "internal/bytealg.IndexByteString", "internal/bytealg.IndexString"], unfollowed := true, recurses := true, named := ["unicode/utf8.first", "unicode/utf8.acceptRanges", "internal/bytealg.MaxLen"], apart := false, laid := [("unicode/utf8.acceptRanges", laid_unicode_utf8_acceptRanges), ("unicode/utf8.first", laid_unicode_utf8_first)] }
def NamesUnderSaid : Prop := namesUnderRow.holds Tryd.pinned (OpenSpec.ofChange namesUnderSpec)

/-- ITS FALSE NEIGHBOUR: 'it returns false'. Refute it at one input. -/
def namesUnderWrong : ChangeSpec := { name := "namesUnder", fn := fun _ => fun
  | [d1, d2] => { results := [.lit (.bool false)], args := [d1, d2] }
  | _ => none }
def NamesUnderWrongFalsely : Prop := namesUnderRow.holds Tryd.pinned (OpenSpec.ofChange namesUnderWrong)

/-- 'flintlaw16.NamesSplit': WHATEVER THE INPUT: true; the input reads as it did. -/
def namesSplitSpec : ChangeSpec := { name := "namesSplit", fn := fun _ => fun
  | [d] => { results := [.lit (.bool true)], args := [d] }
  | _ => none }
def namesSplitRow : OpenClaim := { program := "ytjibchohkeljkaadoor", sum := "3f8016e2e0e31388682f2c6b8be723581ccfe07f165b269b61b219f2f6179555", func := "flint/flintlaw16.NamesSplit", spec := "namesSplit", inPlace := ["internal/bytealg.CountString", "internal/bytealg.IndexByteString", "internal/bytealg.IndexString", "internal/abi.NoEscape", "internal/bytealg.MakeNoZero"], unfollowed := true, recurses := true, named := ["unicode/utf8.first", "unicode/utf8.acceptRanges", "internal/bytealg.MaxLen"], apart := false, laid := [("unicode/utf8.acceptRanges", laid_unicode_utf8_acceptRanges), ("unicode/utf8.first", laid_unicode_utf8_first)] }
def NamesSplitSaid : Prop := namesSplitRow.holds Tryd.pinned (OpenSpec.ofChange namesSplitSpec)

/-- ITS FALSE NEIGHBOUR: 'it returns false'. Refute it at one input. -/
def namesSplitWrong : ChangeSpec := { name := "namesSplit", fn := fun _ => fun
  | [d] => { results := [.lit (.bool false)], args := [d] }
  | _ => none }
def NamesSplitWrongFalsely : Prop := namesSplitRow.holds Tryd.pinned (OpenSpec.ofChange namesSplitWrong)

/-- 'flintlaw16.NamesJoin': WHATEVER THE INPUT: true; the input reads as it did. -/
def namesJoinSpec : ChangeSpec := { name := "namesJoin", fn := fun _ => fun
  | [d] => { results := [.lit (.bool true)], args := [d] }
  | _ => none }
def namesJoinRow : OpenClaim := { program := "ytjibchohkeljkaadoor", sum := "3f8016e2e0e31388682f2c6b8be723581ccfe07f165b269b61b219f2f6179555", func := "flint/flintlaw16.NamesJoin", spec := "namesJoin", inPlace := ["internal/bytealg.CountString", "internal/bytealg.IndexByteString", "internal/bytealg.IndexString", "internal/abi.NoEscape", "internal/bytealg.MakeNoZero"], unfollowed := true, recurses := true, named := ["unicode/utf8.first", "unicode/utf8.acceptRanges", "internal/bytealg.MaxLen"], apart := false, laid := [("unicode/utf8.acceptRanges", laid_unicode_utf8_acceptRanges), ("unicode/utf8.first", laid_unicode_utf8_first)] }
def NamesJoinSaid : Prop := namesJoinRow.holds Tryd.pinned (OpenSpec.ofChange namesJoinSpec)

/-- ITS FALSE NEIGHBOUR: 'it returns false'. Refute it at one input. -/
def namesJoinWrong : ChangeSpec := { name := "namesJoin", fn := fun _ => fun
  | [d] => { results := [.lit (.bool false)], args := [d] }
  | _ => none }
def NamesJoinWrongFalsely : Prop := namesJoinRow.holds Tryd.pinned (OpenSpec.ofChange namesJoinWrong)

/-- 'flintlaw17.WalkReads': WHATEVER THE INPUT: true; the input reads as it did. -/
def walkReadsSpec : ChangeSpec := { name := "walkReads", fn := fun _ => fun
  | [d1, d2] => { results := [.lit (.bool true)], args := [d1, d2] }
  | _ => none }
def walkReadsRow : OpenClaim := { program := "ytjibchohkeljkaadoor", sum := "3f8016e2e0e31388682f2c6b8be723581ccfe07f165b269b61b219f2f6179555", func := "flint/flintlaw17.WalkReads", spec := "walkReads", inPlace := ["internal/bytealg.CountString", "internal/bytealg.IndexByteString", "internal/bytealg.IndexString"], unfollowed := true, recurses := true, named := ["unicode/utf8.first", "unicode/utf8.acceptRanges", "internal/bytealg.MaxLen"], apart := false, laid := [("unicode/utf8.acceptRanges", laid_unicode_utf8_acceptRanges), ("unicode/utf8.first", laid_unicode_utf8_first)] }
def WalkReadsSaid : Prop := walkReadsRow.holds Tryd.pinned (OpenSpec.ofChange walkReadsSpec)

/-- ITS FALSE NEIGHBOUR: 'it returns false'. Refute it at one input. -/
def walkReadsWrong : ChangeSpec := { name := "walkReads", fn := fun _ => fun
  | [d1, d2] => { results := [.lit (.bool false)], args := [d1, d2] }
  | _ => none }
def WalkReadsWrongFalsely : Prop := walkReadsRow.holds Tryd.pinned (OpenSpec.ofChange walkReadsWrong)

/-- 'flintlaw17.WalkHangs': WHATEVER THE INPUT: true; the input reads as it did. -/
def walkHangsSpec : ChangeSpec := { name := "walkHangs", fn := fun _ => fun
  | [d1, d2, d3, d4] => { results := [.lit (.bool true)], args := [d1, d2, d3, d4] }
  | _ => none }
def walkHangsRow : OpenClaim := { program := "ytjibchohkeljkaadoor", sum := "3f8016e2e0e31388682f2c6b8be723581ccfe07f165b269b61b219f2f6179555", func := "flint/flintlaw17.WalkHangs", spec := "walkHangs", inPlace := ["internal/bytealg.CountString", "internal/bytealg.IndexByteString", "internal/bytealg.IndexString"], unfollowed := true, recurses := true, named := ["unicode/utf8.first", "unicode/utf8.acceptRanges", "internal/bytealg.MaxLen"], apart := false, laid := [("unicode/utf8.acceptRanges", laid_unicode_utf8_acceptRanges), ("unicode/utf8.first", laid_unicode_utf8_first)] }
def WalkHangsSaid : Prop := walkHangsRow.holds Tryd.pinned (OpenSpec.ofChange walkHangsSpec)

/-- ITS FALSE NEIGHBOUR: 'it returns false'. Refute it at one input. -/
def walkHangsWrong : ChangeSpec := { name := "walkHangs", fn := fun _ => fun
  | [d1, d2, d3, d4] => { results := [.lit (.bool false)], args := [d1, d2, d3, d4] }
  | _ => none }
def WalkHangsWrongFalsely : Prop := walkHangsRow.holds Tryd.pinned (OpenSpec.ofChange walkHangsWrong)

/- THE SECOND FORM. 'bulk': how many values and letters a reading holds, each counted each time it is reached (what is shared counts as often as it is met; a slice's spare places count too). A statement '..UptoSaid' is the law's where the arguments, and the package variables that the reading takes, are together of bulk at most 1048576: NARROWER than '..Said'. Prove '..Said' where nothing that the law and all that it calls make is longer than what came in: it says more and counts as full. Else prove '..UptoSaid'. A law counts once. -/
mutual
def uptoBulk {H : Type} : DataW H → Nat
  | .lit (.string bytes) => bytes.length + 1
  | .lit _ => 1
  | .nil => 1
  | .ptr d => uptoBulk d + 1
  | .slice elems spare => uptoBulkAll elems + uptoBulkAll spare + 1
  | .agg parts => uptoBulkAll parts + 1
  | .iface _ d => uptoBulk d + 1
  | .map entries => uptoBulkEntries entries + 1
  | .held _ => 1
def uptoBulkAll {H : Type} : List (DataW H) → Nat
  | [] => 0
  | d :: r => uptoBulk d + uptoBulkAll r
def uptoBulkEntries {H : Type} : List (Lit × DataW H) → Nat
  | [] => 0
  | x :: r => uptoBulkEntry x + uptoBulkEntries r
def uptoBulkEntry {H : Type} : Lit × DataW H → Nat
  | (.string bytes, d) => bytes.length + uptoBulk d + 1
  | (_, d) => uptoBulk d + 1
 end
def uptoSmall : (H : Type) → List (DataW H) → Bool := fun _ ds => decide (uptoBulkAll ds ≤ 1048576)
def OpenSpec.upto (s : _root_.Go.ChangeSpec) : _root_.Go.OpenSpec := { _root_.Go.OpenSpec.ofChange s with cond := some uptoSmall }

/-- 'flintlaw16.NamesUnder', WHERE WHAT IT READS IS OF BULK AT MOST 1048576: true; the input reads as it did. -/
def namesUnderUptoRow : OpenClaim := { program := "ytjibchohkeljkaadoor", sum := "3f8016e2e0e31388682f2c6b8be723581ccfe07f165b269b61b219f2f6179555", func := "flint/flintlaw16.NamesUnder", spec := "namesUnder", inPlace := ["internal/bytealg.CountString", "internal/bytealg.IndexByteString", "internal/bytealg.IndexString"], unfollowed := true, recurses := true, named := ["unicode/utf8.first", "unicode/utf8.acceptRanges", "internal/bytealg.MaxLen"], apart := false, laid := [("unicode/utf8.acceptRanges", laid_unicode_utf8_acceptRanges), ("unicode/utf8.first", laid_unicode_utf8_first)], narrowed := true }
def NamesUnderUptoSaid : Prop := namesUnderUptoRow.holds Tryd.pinned (OpenSpec.upto namesUnderSpec)

/-- 'flintlaw16.NamesSplit', WHERE WHAT IT READS IS OF BULK AT MOST 1048576: true; the input reads as it did. -/
def namesSplitUptoRow : OpenClaim := { program := "ytjibchohkeljkaadoor", sum := "3f8016e2e0e31388682f2c6b8be723581ccfe07f165b269b61b219f2f6179555", func := "flint/flintlaw16.NamesSplit", spec := "namesSplit", inPlace := ["internal/bytealg.CountString", "internal/bytealg.IndexByteString", "internal/bytealg.IndexString", "internal/abi.NoEscape", "internal/bytealg.MakeNoZero"], unfollowed := true, recurses := true, named := ["unicode/utf8.first", "unicode/utf8.acceptRanges", "internal/bytealg.MaxLen"], apart := false, laid := [("unicode/utf8.acceptRanges", laid_unicode_utf8_acceptRanges), ("unicode/utf8.first", laid_unicode_utf8_first)], narrowed := true }
def NamesSplitUptoSaid : Prop := namesSplitUptoRow.holds Tryd.pinned (OpenSpec.upto namesSplitSpec)

/-- 'flintlaw16.NamesJoin', WHERE WHAT IT READS IS OF BULK AT MOST 1048576: true; the input reads as it did. -/
def namesJoinUptoRow : OpenClaim := { program := "ytjibchohkeljkaadoor", sum := "3f8016e2e0e31388682f2c6b8be723581ccfe07f165b269b61b219f2f6179555", func := "flint/flintlaw16.NamesJoin", spec := "namesJoin", inPlace := ["internal/bytealg.CountString", "internal/bytealg.IndexByteString", "internal/bytealg.IndexString", "internal/abi.NoEscape", "internal/bytealg.MakeNoZero"], unfollowed := true, recurses := true, named := ["unicode/utf8.first", "unicode/utf8.acceptRanges", "internal/bytealg.MaxLen"], apart := false, laid := [("unicode/utf8.acceptRanges", laid_unicode_utf8_acceptRanges), ("unicode/utf8.first", laid_unicode_utf8_first)], narrowed := true }
def NamesJoinUptoSaid : Prop := namesJoinUptoRow.holds Tryd.pinned (OpenSpec.upto namesJoinSpec)

/-- 'flintlaw17.WalkReads', WHERE WHAT IT READS IS OF BULK AT MOST 1048576: true; the input reads as it did. -/
def walkReadsUptoRow : OpenClaim := { program := "ytjibchohkeljkaadoor", sum := "3f8016e2e0e31388682f2c6b8be723581ccfe07f165b269b61b219f2f6179555", func := "flint/flintlaw17.WalkReads", spec := "walkReads", inPlace := ["internal/bytealg.CountString", "internal/bytealg.IndexByteString", "internal/bytealg.IndexString"], unfollowed := true, recurses := true, named := ["unicode/utf8.first", "unicode/utf8.acceptRanges", "internal/bytealg.MaxLen"], apart := false, laid := [("unicode/utf8.acceptRanges", laid_unicode_utf8_acceptRanges), ("unicode/utf8.first", laid_unicode_utf8_first)], narrowed := true }
def WalkReadsUptoSaid : Prop := walkReadsUptoRow.holds Tryd.pinned (OpenSpec.upto walkReadsSpec)

/-- 'flintlaw17.WalkHangs', WHERE WHAT IT READS IS OF BULK AT MOST 1048576: true; the input reads as it did. -/
def walkHangsUptoRow : OpenClaim := { program := "ytjibchohkeljkaadoor", sum := "3f8016e2e0e31388682f2c6b8be723581ccfe07f165b269b61b219f2f6179555", func := "flint/flintlaw17.WalkHangs", spec := "walkHangs", inPlace := ["internal/bytealg.CountString", "internal/bytealg.IndexByteString", "internal/bytealg.IndexString"], unfollowed := true, recurses := true, named := ["unicode/utf8.first", "unicode/utf8.acceptRanges", "internal/bytealg.MaxLen"], apart := false, laid := [("unicode/utf8.acceptRanges", laid_unicode_utf8_acceptRanges), ("unicode/utf8.first", laid_unicode_utf8_first)], narrowed := true }
def WalkHangsUptoSaid : Prop := walkHangsUptoRow.holds Tryd.pinned (OpenSpec.upto walkHangsSpec)

end Rows
end Go.Proofs.YtjibchohkeljkaaDoor
