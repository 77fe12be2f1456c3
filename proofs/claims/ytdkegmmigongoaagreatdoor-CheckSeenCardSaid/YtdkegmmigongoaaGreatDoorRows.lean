/-
  NARROWER THAN 'FOR EVERY INPUT', by the rows' own cells (each row's printed sentence says how): OpsNumbers: laid · OpsParts: laid · OpsPlays: laid · OpsMakes: laid · OpsLooks: laid · PriceEnough: laid · CheckClean: laid · CheckSeen: laid.
  DERIVED. THE GIVEN ROWS OF THIS SEAT. 8 by the template 'for every input the law returns true; each argument reads behind the call as it read before'; 0 by the template 'total and deterministic' (their statements: YtdkegmmigongoaaGreatDoorTotals.lean).
  GIVEN WITH THE SEED: the statements are not yours to turn. If you find one false, say at which input.
  Laid BY PROGRAM, IN A SANDBOX (cutbox-rows.mjs): the forced cells as the released guide's own fill.sh prints them over the translation f142271425cd2a41… (all of the seat's roots in one cut). By AI agents, Wed Nov 11 2026. No macro, syntax, notation, axiom, sorry.
-/
import Derived.Test.YtdkegmmigongoaaGreatDoorChecked
import GoSem.PinnedTables
import GoSem.Claim
import GoSem.ClaimJoined
import GoSem.ClaimMapViews
import Derived.JoinedTies
import Derived.KernelRfl
namespace Go.Proofs.YtdkegmmigongoaaGreatDoor
/- THE CELL 'sum', in the pinned program and in every row, IS THE sha256 OF THE DUMP (.gsa) THAT YtdkegmmigongoaaGreatDoorProg.lean LOADS. Nothing in Lean hashes anything: it is a label: what it is worth is what the hold of that sum in a sandbox is worth. -/
noncomputable def Tryz.pinned : Pinned := { name := "ytdkegmmigongoaagreatdoor", sum := "f142271425cd2a41460ac56b77a3651bc3f1180a8d99dbace633f9dcf6780ec2", checked := Tryz.checked }
namespace Rows
def none {H : Type} : Left H := { results := [], args := [] }

/- WHAT THE LISTED PACKAGE-LEVEL VARIABLES READ AS WHEN THE CALL BEGINS. Each datum BY PROGRAM (the guide's laid-datum.mjs) off the statement by which the dump's own 'gosem.cut.vars' lays the variable. In a bare row this is a premise. The card (YtdkegmmigongoaaGreatDoorCards.lean) ties it to the program's text. -/
def laid_unicode_utf8_acceptRanges {H : Type} : DataW H := .agg [.agg [.lit (.int .u8 128), .lit (.int .u8 191)], .agg [.lit (.int .u8 160), .lit (.int .u8 191)], .agg [.lit (.int .u8 128), .lit (.int .u8 159)], .agg [.lit (.int .u8 144), .lit (.int .u8 191)], .agg [.lit (.int .u8 128), .lit (.int .u8 143)], .agg [.lit (.int .u8 0), .lit (.int .u8 0)], .agg [.lit (.int .u8 0), .lit (.int .u8 0)], .agg [.lit (.int .u8 0), .lit (.int .u8 0)], .agg [.lit (.int .u8 0), .lit (.int .u8 0)], .agg [.lit (.int .u8 0), .lit (.int .u8 0)], .agg [.lit (.int .u8 0), .lit (.int .u8 0)], .agg [.lit (.int .u8 0), .lit (.int .u8 0)], .agg [.lit (.int .u8 0), .lit (.int .u8 0)], .agg [.lit (.int .u8 0), .lit (.int .u8 0)], .agg [.lit (.int .u8 0), .lit (.int .u8 0)], .agg [.lit (.int .u8 0), .lit (.int .u8 0)]]
/-- One of Go's own tables, pinned by name: the form's constant. -/
def laid_unicode_utf8_first : DataW Unit := Go.Pinned.utf8First

/-- 'flintlaw20.OpsNumbers': WHATEVER THE INPUT: true; the input reads as it did. -/
def opsNumbersSpec : ChangeSpec := { name := "opsNumbers", fn := fun _ => fun
  | [d1, d2] => { results := [.lit (.bool true)], args := [d1, d2] }
  | _ => none }
def opsNumbersRow : OpenClaim := { program := "ytdkegmmigongoaagreatdoor", sum := "f142271425cd2a41460ac56b77a3651bc3f1180a8d99dbace633f9dcf6780ec2", func := "flint/flintlaw20.OpsNumbers", spec := "opsNumbers", inPlace := ["internal/bytealg.CountString", "internal/bytealg.IndexByteString", "internal/bytealg.IndexString"], unfollowed := true, recurses := true, named := ["unicode/utf8.first", "unicode/utf8.acceptRanges", "internal/bytealg.MaxLen"], apart := false, laid := [("unicode/utf8.acceptRanges", laid_unicode_utf8_acceptRanges), ("unicode/utf8.first", laid_unicode_utf8_first)] }
def OpsNumbersSaid : Prop := opsNumbersRow.holds Tryz.pinned (OpenSpec.ofChange opsNumbersSpec)

/-- ITS FALSE NEIGHBOUR: 'it returns false'. Refute it at one input. -/
def opsNumbersWrong : ChangeSpec := { name := "opsNumbers", fn := fun _ => fun
  | [d1, d2] => { results := [.lit (.bool false)], args := [d1, d2] }
  | _ => none }
def OpsNumbersWrongFalsely : Prop := opsNumbersRow.holds Tryz.pinned (OpenSpec.ofChange opsNumbersWrong)

/-- 'flintlaw20.OpsParts': WHATEVER THE INPUT: true; the input reads as it did. -/
def opsPartsSpec : ChangeSpec := { name := "opsParts", fn := fun _ => fun
  | [d1, d2, d3, d4] => { results := [.lit (.bool true)], args := [d1, d2, d3, d4] }
  | _ => none }
def opsPartsRow : OpenClaim := { program := "ytdkegmmigongoaagreatdoor", sum := "f142271425cd2a41460ac56b77a3651bc3f1180a8d99dbace633f9dcf6780ec2", func := "flint/flintlaw20.OpsParts", spec := "opsParts", inPlace := ["internal/bytealg.CountString", "internal/bytealg.IndexByteString", "internal/bytealg.IndexString"], unfollowed := true, recurses := true, named := ["unicode/utf8.first", "unicode/utf8.acceptRanges", "internal/bytealg.MaxLen"], apart := false, laid := [("unicode/utf8.acceptRanges", laid_unicode_utf8_acceptRanges), ("unicode/utf8.first", laid_unicode_utf8_first)] }
def OpsPartsSaid : Prop := opsPartsRow.holds Tryz.pinned (OpenSpec.ofChange opsPartsSpec)

/-- ITS FALSE NEIGHBOUR: 'it returns false'. Refute it at one input. -/
def opsPartsWrong : ChangeSpec := { name := "opsParts", fn := fun _ => fun
  | [d1, d2, d3, d4] => { results := [.lit (.bool false)], args := [d1, d2, d3, d4] }
  | _ => none }
def OpsPartsWrongFalsely : Prop := opsPartsRow.holds Tryz.pinned (OpenSpec.ofChange opsPartsWrong)

/-- 'flintlaw20.OpsPlays': WHATEVER THE INPUT: true; the input reads as it did. -/
def opsPlaysSpec : ChangeSpec := { name := "opsPlays", fn := fun _ => fun
  | [d] => { results := [.lit (.bool true)], args := [d] }
  | _ => none }
def opsPlaysRow : OpenClaim := { program := "ytdkegmmigongoaagreatdoor", sum := "f142271425cd2a41460ac56b77a3651bc3f1180a8d99dbace633f9dcf6780ec2", func := "flint/flintlaw20.OpsPlays", spec := "opsPlays", inPlace := ["internal/bytealg.CountString", "internal/bytealg.IndexByteString", "internal/bytealg.IndexString"], unfollowed := true, recurses := true, named := ["unicode/utf8.first", "unicode/utf8.acceptRanges", "internal/bytealg.MaxLen"], apart := false, laid := [("unicode/utf8.acceptRanges", laid_unicode_utf8_acceptRanges), ("unicode/utf8.first", laid_unicode_utf8_first)] }
def OpsPlaysSaid : Prop := opsPlaysRow.holds Tryz.pinned (OpenSpec.ofChange opsPlaysSpec)

/-- ITS FALSE NEIGHBOUR: 'it returns false'. Refute it at one input. -/
def opsPlaysWrong : ChangeSpec := { name := "opsPlays", fn := fun _ => fun
  | [d] => { results := [.lit (.bool false)], args := [d] }
  | _ => none }
def OpsPlaysWrongFalsely : Prop := opsPlaysRow.holds Tryz.pinned (OpenSpec.ofChange opsPlaysWrong)

/-- 'flintlaw20.OpsMakes': WHATEVER THE INPUT: true; the input reads as it did. -/
def opsMakesSpec : ChangeSpec := { name := "opsMakes", fn := fun _ => fun
  | [d] => { results := [.lit (.bool true)], args := [d] }
  | _ => none }
def opsMakesRow : OpenClaim := { program := "ytdkegmmigongoaagreatdoor", sum := "f142271425cd2a41460ac56b77a3651bc3f1180a8d99dbace633f9dcf6780ec2", func := "flint/flintlaw20.OpsMakes", spec := "opsMakes", inPlace := ["internal/bytealg.CountString", "internal/bytealg.IndexByteString", "internal/bytealg.IndexString"], unfollowed := true, recurses := true, named := ["unicode/utf8.first", "unicode/utf8.acceptRanges", "internal/bytealg.MaxLen"], apart := false, laid := [("unicode/utf8.acceptRanges", laid_unicode_utf8_acceptRanges), ("unicode/utf8.first", laid_unicode_utf8_first)] }
def OpsMakesSaid : Prop := opsMakesRow.holds Tryz.pinned (OpenSpec.ofChange opsMakesSpec)

/-- ITS FALSE NEIGHBOUR: 'it returns false'. Refute it at one input. -/
def opsMakesWrong : ChangeSpec := { name := "opsMakes", fn := fun _ => fun
  | [d] => { results := [.lit (.bool false)], args := [d] }
  | _ => none }
def OpsMakesWrongFalsely : Prop := opsMakesRow.holds Tryz.pinned (OpenSpec.ofChange opsMakesWrong)

/-- 'flintlaw20.OpsLooks': WHATEVER THE INPUT: true; the input reads as it did. -/
def opsLooksSpec : ChangeSpec := { name := "opsLooks", fn := fun _ => fun
  | [d1, d2] => { results := [.lit (.bool true)], args := [d1, d2] }
  | _ => none }
def opsLooksRow : OpenClaim := { program := "ytdkegmmigongoaagreatdoor", sum := "f142271425cd2a41460ac56b77a3651bc3f1180a8d99dbace633f9dcf6780ec2", func := "flint/flintlaw20.OpsLooks", spec := "opsLooks", inPlace := ["internal/bytealg.CountString", "internal/bytealg.IndexByteString", "internal/bytealg.IndexString"], unfollowed := true, recurses := true, named := ["unicode/utf8.first", "unicode/utf8.acceptRanges", "internal/bytealg.MaxLen"], apart := false, laid := [("unicode/utf8.acceptRanges", laid_unicode_utf8_acceptRanges), ("unicode/utf8.first", laid_unicode_utf8_first)] }
def OpsLooksSaid : Prop := opsLooksRow.holds Tryz.pinned (OpenSpec.ofChange opsLooksSpec)

/-- ITS FALSE NEIGHBOUR: 'it returns false'. Refute it at one input. -/
def opsLooksWrong : ChangeSpec := { name := "opsLooks", fn := fun _ => fun
  | [d1, d2] => { results := [.lit (.bool false)], args := [d1, d2] }
  | _ => none }
def OpsLooksWrongFalsely : Prop := opsLooksRow.holds Tryz.pinned (OpenSpec.ofChange opsLooksWrong)

/-- 'flintlaw23.PriceEnough': WHATEVER THE INPUT: true; the input reads as it did. -/
def priceEnoughSpec : ChangeSpec := { name := "priceEnough", fn := fun _ => fun
  | [d] => { results := [.lit (.bool true)], args := [d] }
  | _ => none }
def priceEnoughRow : OpenClaim := { program := "ytdkegmmigongoaagreatdoor", sum := "f142271425cd2a41460ac56b77a3651bc3f1180a8d99dbace633f9dcf6780ec2", func := "flint/flintlaw23.PriceEnough", spec := "priceEnough", inPlace := ["internal/bytealg.CountString", "internal/bytealg.IndexByteString", "internal/bytealg.IndexString"], unfollowed := true, recurses := true, named := ["unicode/utf8.first", "unicode/utf8.acceptRanges", "internal/bytealg.MaxLen"], apart := false, laid := [("unicode/utf8.acceptRanges", laid_unicode_utf8_acceptRanges), ("unicode/utf8.first", laid_unicode_utf8_first)] }
def PriceEnoughSaid : Prop := priceEnoughRow.holds Tryz.pinned (OpenSpec.ofChange priceEnoughSpec)

/-- ITS FALSE NEIGHBOUR: 'it returns false'. Refute it at one input. -/
def priceEnoughWrong : ChangeSpec := { name := "priceEnough", fn := fun _ => fun
  | [d] => { results := [.lit (.bool false)], args := [d] }
  | _ => none }
def PriceEnoughWrongFalsely : Prop := priceEnoughRow.holds Tryz.pinned (OpenSpec.ofChange priceEnoughWrong)

/-- 'flintlaw27.CheckClean': WHATEVER THE INPUT: true; the input reads as it did. -/
def checkCleanSpec : ChangeSpec := { name := "checkClean", fn := fun _ => fun
  | [d] => { results := [.lit (.bool true)], args := [d] }
  | _ => none }
def checkCleanRow : OpenClaim := { program := "ytdkegmmigongoaagreatdoor", sum := "f142271425cd2a41460ac56b77a3651bc3f1180a8d99dbace633f9dcf6780ec2", func := "flint/flintlaw27.CheckClean", spec := "checkClean", inPlace := ["internal/bytealg.CountString", "internal/bytealg.IndexByteString", "internal/bytealg.IndexString"], unfollowed := true, recurses := true, named := ["unicode/utf8.first", "unicode/utf8.acceptRanges", "internal/bytealg.MaxLen"], apart := false, laid := [("unicode/utf8.acceptRanges", laid_unicode_utf8_acceptRanges), ("unicode/utf8.first", laid_unicode_utf8_first)] }
def CheckCleanSaid : Prop := checkCleanRow.holds Tryz.pinned (OpenSpec.ofChange checkCleanSpec)

/-- ITS FALSE NEIGHBOUR: 'it returns false'. Refute it at one input. -/
def checkCleanWrong : ChangeSpec := { name := "checkClean", fn := fun _ => fun
  | [d] => { results := [.lit (.bool false)], args := [d] }
  | _ => none }
def CheckCleanWrongFalsely : Prop := checkCleanRow.holds Tryz.pinned (OpenSpec.ofChange checkCleanWrong)

/-- 'flintlaw27.CheckSeen': WHATEVER THE INPUT: true; the input reads as it did. -/
def checkSeenSpec : ChangeSpec := { name := "checkSeen", fn := fun _ => fun
  | [d1, d2] => { results := [.lit (.bool true)], args := [d1, d2] }
  | _ => none }
def checkSeenRow : OpenClaim := { program := "ytdkegmmigongoaagreatdoor", sum := "f142271425cd2a41460ac56b77a3651bc3f1180a8d99dbace633f9dcf6780ec2", func := "flint/flintlaw27.CheckSeen", spec := "checkSeen", inPlace := ["internal/bytealg.CountString", "internal/bytealg.IndexByteString", "internal/bytealg.IndexString"], unfollowed := true, recurses := true, named := ["unicode/utf8.first", "unicode/utf8.acceptRanges", "internal/bytealg.MaxLen"], apart := false, laid := [("unicode/utf8.acceptRanges", laid_unicode_utf8_acceptRanges), ("unicode/utf8.first", laid_unicode_utf8_first)] }
def CheckSeenSaid : Prop := checkSeenRow.holds Tryz.pinned (OpenSpec.ofChange checkSeenSpec)

/-- ITS FALSE NEIGHBOUR: 'it returns false'. Refute it at one input. -/
def checkSeenWrong : ChangeSpec := { name := "checkSeen", fn := fun _ => fun
  | [d1, d2] => { results := [.lit (.bool false)], args := [d1, d2] }
  | _ => none }
def CheckSeenWrongFalsely : Prop := checkSeenRow.holds Tryz.pinned (OpenSpec.ofChange checkSeenWrong)

/- THE SECOND FORM. 'bulk': how many values and letters a reading holds, each counted each time it is reached (what is shared counts as often as it is met; a slice's spare places count too). A statement '..UptoSaid' is the law's where the arguments, and the package variables that the reading takes, are together of bulk at most 1048576: NARROWER than '..Said'. Prove '..Said' where nothing that the law and all that it calls make is longer than what came in: it says more and counts as full. Else prove '..UptoSaid'. A law counts once. -/
mutual
def uptoBulk {H : Type} : DataW H → Nat
  | .lit (.string bytes) => bytes.length + 1
  | .lit _ => 1
  | .nil => 1
  | .ptr d => uptoBulk d + 1
  | .slice elems spare => uptoBulkAll elems + uptoBulkAll spare + 1
  | .agg parts => uptoBulkAll parts + 1
  | .iface _ d => uptoBulk d + 1
  | .map entries => uptoBulkEntries entries + 1
  | .held _ => 1
def uptoBulkAll {H : Type} : List (DataW H) → Nat
  | [] => 0
  | d :: r => uptoBulk d + uptoBulkAll r
def uptoBulkEntries {H : Type} : List (Lit × DataW H) → Nat
  | [] => 0
  | x :: r => uptoBulkEntry x + uptoBulkEntries r
def uptoBulkEntry {H : Type} : Lit × DataW H → Nat
  | (.string bytes, d) => bytes.length + uptoBulk d + 1
  | (_, d) => uptoBulk d + 1
 end
def uptoSmall : (H : Type) → List (DataW H) → Bool := fun _ ds => decide (uptoBulkAll ds ≤ 1048576)
def OpenSpec.upto (s : _root_.Go.ChangeSpec) : _root_.Go.OpenSpec := { _root_.Go.OpenSpec.ofChange s with cond := some uptoSmall }

/-- 'flintlaw20.OpsNumbers', WHERE WHAT IT READS IS OF BULK AT MOST 1048576: true; the input reads as it did. -/
def opsNumbersUptoRow : OpenClaim := { program := "ytdkegmmigongoaagreatdoor", sum := "f142271425cd2a41460ac56b77a3651bc3f1180a8d99dbace633f9dcf6780ec2", func := "flint/flintlaw20.OpsNumbers", spec := "opsNumbers", inPlace := ["internal/bytealg.CountString", "internal/bytealg.IndexByteString", "internal/bytealg.IndexString"], unfollowed := true, recurses := true, named := ["unicode/utf8.first", "unicode/utf8.acceptRanges", "internal/bytealg.MaxLen"], apart := false, laid := [("unicode/utf8.acceptRanges", laid_unicode_utf8_acceptRanges), ("unicode/utf8.first", laid_unicode_utf8_first)], narrowed := true }
def OpsNumbersUptoSaid : Prop := opsNumbersUptoRow.holds Tryz.pinned (OpenSpec.upto opsNumbersSpec)

/-- 'flintlaw20.OpsParts', WHERE WHAT IT READS IS OF BULK AT MOST 1048576: true; the input reads as it did. -/
def opsPartsUptoRow : OpenClaim := { program := "ytdkegmmigongoaagreatdoor", sum := "f142271425cd2a41460ac56b77a3651bc3f1180a8d99dbace633f9dcf6780ec2", func := "flint/flintlaw20.OpsParts", spec := "opsParts", inPlace := ["internal/bytealg.CountString", "internal/bytealg.IndexByteString", "internal/bytealg.IndexString"], unfollowed := true, recurses := true, named := ["unicode/utf8.first", "unicode/utf8.acceptRanges", "internal/bytealg.MaxLen"], apart := false, laid := [("unicode/utf8.acceptRanges", laid_unicode_utf8_acceptRanges), ("unicode/utf8.first", laid_unicode_utf8_first)], narrowed := true }
def OpsPartsUptoSaid : Prop := opsPartsUptoRow.holds Tryz.pinned (OpenSpec.upto opsPartsSpec)

/-- 'flintlaw20.OpsPlays', WHERE WHAT IT READS IS OF BULK AT MOST 1048576: true; the input reads as it did. -/
def opsPlaysUptoRow : OpenClaim := { program := "ytdkegmmigongoaagreatdoor", sum := "f142271425cd2a41460ac56b77a3651bc3f1180a8d99dbace633f9dcf6780ec2", func := "flint/flintlaw20.OpsPlays", spec := "opsPlays", inPlace := ["internal/bytealg.CountString", "internal/bytealg.IndexByteString", "internal/bytealg.IndexString"], unfollowed := true, recurses := true, named := ["unicode/utf8.first", "unicode/utf8.acceptRanges", "internal/bytealg.MaxLen"], apart := false, laid := [("unicode/utf8.acceptRanges", laid_unicode_utf8_acceptRanges), ("unicode/utf8.first", laid_unicode_utf8_first)], narrowed := true }
def OpsPlaysUptoSaid : Prop := opsPlaysUptoRow.holds Tryz.pinned (OpenSpec.upto opsPlaysSpec)

/-- 'flintlaw20.OpsMakes', WHERE WHAT IT READS IS OF BULK AT MOST 1048576: true; the input reads as it did. -/
def opsMakesUptoRow : OpenClaim := { program := "ytdkegmmigongoaagreatdoor", sum := "f142271425cd2a41460ac56b77a3651bc3f1180a8d99dbace633f9dcf6780ec2", func := "flint/flintlaw20.OpsMakes", spec := "opsMakes", inPlace := ["internal/bytealg.CountString", "internal/bytealg.IndexByteString", "internal/bytealg.IndexString"], unfollowed := true, recurses := true, named := ["unicode/utf8.first", "unicode/utf8.acceptRanges", "internal/bytealg.MaxLen"], apart := false, laid := [("unicode/utf8.acceptRanges", laid_unicode_utf8_acceptRanges), ("unicode/utf8.first", laid_unicode_utf8_first)], narrowed := true }
def OpsMakesUptoSaid : Prop := opsMakesUptoRow.holds Tryz.pinned (OpenSpec.upto opsMakesSpec)

/-- 'flintlaw20.OpsLooks', WHERE WHAT IT READS IS OF BULK AT MOST 1048576: true; the input reads as it did. -/
def opsLooksUptoRow : OpenClaim := { program := "ytdkegmmigongoaagreatdoor", sum := "f142271425cd2a41460ac56b77a3651bc3f1180a8d99dbace633f9dcf6780ec2", func := "flint/flintlaw20.OpsLooks", spec := "opsLooks", inPlace := ["internal/bytealg.CountString", "internal/bytealg.IndexByteString", "internal/bytealg.IndexString"], unfollowed := true, recurses := true, named := ["unicode/utf8.first", "unicode/utf8.acceptRanges", "internal/bytealg.MaxLen"], apart := false, laid := [("unicode/utf8.acceptRanges", laid_unicode_utf8_acceptRanges), ("unicode/utf8.first", laid_unicode_utf8_first)], narrowed := true }
def OpsLooksUptoSaid : Prop := opsLooksUptoRow.holds Tryz.pinned (OpenSpec.upto opsLooksSpec)

/-- 'flintlaw23.PriceEnough', WHERE WHAT IT READS IS OF BULK AT MOST 1048576: true; the input reads as it did. -/
def priceEnoughUptoRow : OpenClaim := { program := "ytdkegmmigongoaagreatdoor", sum := "f142271425cd2a41460ac56b77a3651bc3f1180a8d99dbace633f9dcf6780ec2", func := "flint/flintlaw23.PriceEnough", spec := "priceEnough", inPlace := ["internal/bytealg.CountString", "internal/bytealg.IndexByteString", "internal/bytealg.IndexString"], unfollowed := true, recurses := true, named := ["unicode/utf8.first", "unicode/utf8.acceptRanges", "internal/bytealg.MaxLen"], apart := false, laid := [("unicode/utf8.acceptRanges", laid_unicode_utf8_acceptRanges), ("unicode/utf8.first", laid_unicode_utf8_first)], narrowed := true }
def PriceEnoughUptoSaid : Prop := priceEnoughUptoRow.holds Tryz.pinned (OpenSpec.upto priceEnoughSpec)

/-- 'flintlaw27.CheckClean', WHERE WHAT IT READS IS OF BULK AT MOST 1048576: true; the input reads as it did. -/
def checkCleanUptoRow : OpenClaim := { program := "ytdkegmmigongoaagreatdoor", sum := "f142271425cd2a41460ac56b77a3651bc3f1180a8d99dbace633f9dcf6780ec2", func := "flint/flintlaw27.CheckClean", spec := "checkClean", inPlace := ["internal/bytealg.CountString", "internal/bytealg.IndexByteString", "internal/bytealg.IndexString"], unfollowed := true, recurses := true, named := ["unicode/utf8.first", "unicode/utf8.acceptRanges", "internal/bytealg.MaxLen"], apart := false, laid := [("unicode/utf8.acceptRanges", laid_unicode_utf8_acceptRanges), ("unicode/utf8.first", laid_unicode_utf8_first)], narrowed := true }
def CheckCleanUptoSaid : Prop := checkCleanUptoRow.holds Tryz.pinned (OpenSpec.upto checkCleanSpec)

/-- 'flintlaw27.CheckSeen', WHERE WHAT IT READS IS OF BULK AT MOST 1048576: true; the input reads as it did. -/
def checkSeenUptoRow : OpenClaim := { program := "ytdkegmmigongoaagreatdoor", sum := "f142271425cd2a41460ac56b77a3651bc3f1180a8d99dbace633f9dcf6780ec2", func := "flint/flintlaw27.CheckSeen", spec := "checkSeen", inPlace := ["internal/bytealg.CountString", "internal/bytealg.IndexByteString", "internal/bytealg.IndexString"], unfollowed := true, recurses := true, named := ["unicode/utf8.first", "unicode/utf8.acceptRanges", "internal/bytealg.MaxLen"], apart := false, laid := [("unicode/utf8.acceptRanges", laid_unicode_utf8_acceptRanges), ("unicode/utf8.first", laid_unicode_utf8_first)], narrowed := true }
def CheckSeenUptoSaid : Prop := checkSeenUptoRow.holds Tryz.pinned (OpenSpec.upto checkSeenSpec)

end Rows
end Go.Proofs.YtdkegmmigongoaaGreatDoor
