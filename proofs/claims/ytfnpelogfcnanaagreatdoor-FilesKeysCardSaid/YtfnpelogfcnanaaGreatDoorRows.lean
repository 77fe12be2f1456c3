/-
  NARROWER THAN 'FOR EVERY INPUT', by the rows' own cells (each row's printed sentence says how): DirsPlays: laid · DirsTree: laid · DirsThere: laid · DirsRefuse: laid · FilesPlays: laid · FilesKeys: laid · FilesBack: laid · FilesShrink: laid.
  DERIVED. THE GIVEN ROWS OF THIS SEAT. 8 by the template 'for every input the law returns true; each argument reads behind the call as it read before'; 0 by the template 'total and deterministic' (their statements: YtfnpelogfcnanaaGreatDoorTotals.lean).
  GIVEN WITH THE SEED: the statements are not yours to turn. If you find one false, say at which input.
  Laid BY PROGRAM, IN A SANDBOX (cutbox-rows.mjs): the forced cells as the released guide's own fill.sh prints them over the translation 4bb36f3e44f1deb3… (all of the seat's roots in one cut). By AI agents, Wed Nov 11 2026. No macro, syntax, notation, axiom, sorry.
-/
import Derived.Test.YtfnpelogfcnanaaGreatDoorChecked
import GoSem.PinnedTables
import GoSem.Claim
import GoSem.ClaimJoined
import GoSem.ClaimMapViews
import Derived.JoinedTies
import Derived.KernelRfl
namespace Go.Proofs.YtfnpelogfcnanaaGreatDoor
/- THE CELL 'sum', in the pinned program and in every row, IS THE sha256 OF THE DUMP (.gsa) THAT YtfnpelogfcnanaaGreatDoorProg.lean LOADS. Nothing in Lean hashes anything: it is a label: what it is worth is what the hold of that sum in a sandbox is worth. -/
noncomputable def Tryz.pinned : Pinned := { name := "ytfnpelogfcnanaagreatdoor", sum := "4bb36f3e44f1deb37e770bacf1aa625b0115f9afafccc3858e1f92385dbea7bf", checked := Tryz.checked }
namespace Rows
def none {H : Type} : Left H := { results := [], args := [] }

/- WHAT THE LISTED PACKAGE-LEVEL VARIABLES READ AS WHEN THE CALL BEGINS. Each datum BY PROGRAM (the guide's laid-datum.mjs) off the statement by which the dump's own 'gosem.cut.vars' lays the variable. In a bare row this is a premise. The card (YtfnpelogfcnanaaGreatDoorCards.lean) ties it to the program's text. -/
def laid_unicode_utf8_acceptRanges {H : Type} : DataW H := .agg [.agg [.lit (.int .u8 128), .lit (.int .u8 191)], .agg [.lit (.int .u8 160), .lit (.int .u8 191)], .agg [.lit (.int .u8 128), .lit (.int .u8 159)], .agg [.lit (.int .u8 144), .lit (.int .u8 191)], .agg [.lit (.int .u8 128), .lit (.int .u8 143)], .agg [.lit (.int .u8 0), .lit (.int .u8 0)], .agg [.lit (.int .u8 0), .lit (.int .u8 0)], .agg [.lit (.int .u8 0), .lit (.int .u8 0)], .agg [.lit (.int .u8 0), .lit (.int .u8 0)], .agg [.lit (.int .u8 0), .lit (.int .u8 0)], .agg [.lit (.int .u8 0), .lit (.int .u8 0)], .agg [.lit (.int .u8 0), .lit (.int .u8 0)], .agg [.lit (.int .u8 0), .lit (.int .u8 0)], .agg [.lit (.int .u8 0), .lit (.int .u8 0)], .agg [.lit (.int .u8 0), .lit (.int .u8 0)], .agg [.lit (.int .u8 0), .lit (.int .u8 0)]]
/-- One of Go's own tables, pinned by name: the form's constant. -/
def laid_unicode_utf8_first : DataW Unit := Go.Pinned.utf8First

/-- 'flintlaw18.DirsPlays': WHATEVER THE INPUT: true; the input reads as it did. -/
def dirsPlaysSpec : ChangeSpec := { name := "dirsPlays", fn := fun _ => fun
  | [d1, d2] => { results := [.lit (.bool true)], args := [d1, d2] }
  | _ => none }
def dirsPlaysRow : OpenClaim := { program := "ytfnpelogfcnanaagreatdoor", sum := "4bb36f3e44f1deb37e770bacf1aa625b0115f9afafccc3858e1f92385dbea7bf", func := "flint/flintlaw18.DirsPlays", spec := "dirsPlays", inPlace := ["internal/bytealg.CountString", "internal/bytealg.IndexByteString", "internal/bytealg.IndexString"], unfollowed := true, recurses := true, named := ["unicode/utf8.first", "unicode/utf8.acceptRanges", "internal/bytealg.MaxLen"], apart := false, laid := [("unicode/utf8.acceptRanges", laid_unicode_utf8_acceptRanges), ("unicode/utf8.first", laid_unicode_utf8_first)] }
def DirsPlaysSaid : Prop := dirsPlaysRow.holds Tryz.pinned (OpenSpec.ofChange dirsPlaysSpec)

/-- ITS FALSE NEIGHBOUR: 'it returns false'. Refute it at one input. -/
def dirsPlaysWrong : ChangeSpec := { name := "dirsPlays", fn := fun _ => fun
  | [d1, d2] => { results := [.lit (.bool false)], args := [d1, d2] }
  | _ => none }
def DirsPlaysWrongFalsely : Prop := dirsPlaysRow.holds Tryz.pinned (OpenSpec.ofChange dirsPlaysWrong)

/-- 'flintlaw18.DirsTree': WHATEVER THE INPUT: true; the input reads as it did. -/
def dirsTreeSpec : ChangeSpec := { name := "dirsTree", fn := fun _ => fun
  | [d] => { results := [.lit (.bool true)], args := [d] }
  | _ => none }
def dirsTreeRow : OpenClaim := { program := "ytfnpelogfcnanaagreatdoor", sum := "4bb36f3e44f1deb37e770bacf1aa625b0115f9afafccc3858e1f92385dbea7bf", func := "flint/flintlaw18.DirsTree", spec := "dirsTree", inPlace := ["internal/bytealg.CountString", "internal/bytealg.IndexByteString", "internal/bytealg.IndexString"], unfollowed := true, recurses := true, named := ["unicode/utf8.first", "unicode/utf8.acceptRanges", "internal/bytealg.MaxLen"], apart := false, laid := [("unicode/utf8.acceptRanges", laid_unicode_utf8_acceptRanges), ("unicode/utf8.first", laid_unicode_utf8_first)] }
def DirsTreeSaid : Prop := dirsTreeRow.holds Tryz.pinned (OpenSpec.ofChange dirsTreeSpec)

/-- ITS FALSE NEIGHBOUR: 'it returns false'. Refute it at one input. -/
def dirsTreeWrong : ChangeSpec := { name := "dirsTree", fn := fun _ => fun
  | [d] => { results := [.lit (.bool false)], args := [d] }
  | _ => none }
def DirsTreeWrongFalsely : Prop := dirsTreeRow.holds Tryz.pinned (OpenSpec.ofChange dirsTreeWrong)

/-- 'flintlaw18.DirsThere': WHATEVER THE INPUT: true; the input reads as it did. -/
def dirsThereSpec : ChangeSpec := { name := "dirsThere", fn := fun _ => fun
  | [d1, d2, d3] => { results := [.lit (.bool true)], args := [d1, d2, d3] }
  | _ => none }
def dirsThereRow : OpenClaim := { program := "ytfnpelogfcnanaagreatdoor", sum := "4bb36f3e44f1deb37e770bacf1aa625b0115f9afafccc3858e1f92385dbea7bf", func := "flint/flintlaw18.DirsThere", spec := "dirsThere", inPlace := ["internal/bytealg.CountString", "internal/bytealg.IndexByteString", "internal/bytealg.IndexString"], unfollowed := true, recurses := true, named := ["unicode/utf8.first", "unicode/utf8.acceptRanges", "internal/bytealg.MaxLen"], apart := false, laid := [("unicode/utf8.acceptRanges", laid_unicode_utf8_acceptRanges), ("unicode/utf8.first", laid_unicode_utf8_first)] }
def DirsThereSaid : Prop := dirsThereRow.holds Tryz.pinned (OpenSpec.ofChange dirsThereSpec)

/-- ITS FALSE NEIGHBOUR: 'it returns false'. Refute it at one input. -/
def dirsThereWrong : ChangeSpec := { name := "dirsThere", fn := fun _ => fun
  | [d1, d2, d3] => { results := [.lit (.bool false)], args := [d1, d2, d3] }
  | _ => none }
def DirsThereWrongFalsely : Prop := dirsThereRow.holds Tryz.pinned (OpenSpec.ofChange dirsThereWrong)

/-- 'flintlaw18.DirsRefuse': WHATEVER THE INPUT: true; the input reads as it did. -/
def dirsRefuseSpec : ChangeSpec := { name := "dirsRefuse", fn := fun _ => fun
  | [d1, d2] => { results := [.lit (.bool true)], args := [d1, d2] }
  | _ => none }
def dirsRefuseRow : OpenClaim := { program := "ytfnpelogfcnanaagreatdoor", sum := "4bb36f3e44f1deb37e770bacf1aa625b0115f9afafccc3858e1f92385dbea7bf", func := "flint/flintlaw18.DirsRefuse", spec := "dirsRefuse", inPlace := ["internal/bytealg.CountString", "internal/bytealg.IndexByteString", "internal/bytealg.IndexString"], unfollowed := true, recurses := true, named := ["unicode/utf8.first", "unicode/utf8.acceptRanges", "internal/bytealg.MaxLen"], apart := false, laid := [("unicode/utf8.acceptRanges", laid_unicode_utf8_acceptRanges), ("unicode/utf8.first", laid_unicode_utf8_first)] }
def DirsRefuseSaid : Prop := dirsRefuseRow.holds Tryz.pinned (OpenSpec.ofChange dirsRefuseSpec)

/-- ITS FALSE NEIGHBOUR: 'it returns false'. Refute it at one input. -/
def dirsRefuseWrong : ChangeSpec := { name := "dirsRefuse", fn := fun _ => fun
  | [d1, d2] => { results := [.lit (.bool false)], args := [d1, d2] }
  | _ => none }
def DirsRefuseWrongFalsely : Prop := dirsRefuseRow.holds Tryz.pinned (OpenSpec.ofChange dirsRefuseWrong)

/-- 'flintlaw19.FilesPlays': WHATEVER THE INPUT: true; the input reads as it did. -/
def filesPlaysSpec : ChangeSpec := { name := "filesPlays", fn := fun _ => fun
  | [d1, d2] => { results := [.lit (.bool true)], args := [d1, d2] }
  | _ => none }
def filesPlaysRow : OpenClaim := { program := "ytfnpelogfcnanaagreatdoor", sum := "4bb36f3e44f1deb37e770bacf1aa625b0115f9afafccc3858e1f92385dbea7bf", func := "flint/flintlaw19.FilesPlays", spec := "filesPlays", inPlace := ["internal/bytealg.CountString", "internal/bytealg.IndexByteString", "internal/bytealg.IndexString"], unfollowed := true, recurses := true, named := ["unicode/utf8.first", "unicode/utf8.acceptRanges", "internal/bytealg.MaxLen"], apart := false, laid := [("unicode/utf8.acceptRanges", laid_unicode_utf8_acceptRanges), ("unicode/utf8.first", laid_unicode_utf8_first)] }
def FilesPlaysSaid : Prop := filesPlaysRow.holds Tryz.pinned (OpenSpec.ofChange filesPlaysSpec)

/-- ITS FALSE NEIGHBOUR: 'it returns false'. Refute it at one input. -/
def filesPlaysWrong : ChangeSpec := { name := "filesPlays", fn := fun _ => fun
  | [d1, d2] => { results := [.lit (.bool false)], args := [d1, d2] }
  | _ => none }
def FilesPlaysWrongFalsely : Prop := filesPlaysRow.holds Tryz.pinned (OpenSpec.ofChange filesPlaysWrong)

/-- 'flintlaw19.FilesKeys': WHATEVER THE INPUT: true; the input reads as it did. -/
def filesKeysSpec : ChangeSpec := { name := "filesKeys", fn := fun _ => fun
  | [d] => { results := [.lit (.bool true)], args := [d] }
  | _ => none }
def filesKeysRow : OpenClaim := { program := "ytfnpelogfcnanaagreatdoor", sum := "4bb36f3e44f1deb37e770bacf1aa625b0115f9afafccc3858e1f92385dbea7bf", func := "flint/flintlaw19.FilesKeys", spec := "filesKeys", inPlace := ["internal/bytealg.CountString", "internal/bytealg.IndexByteString", "internal/bytealg.IndexString"], unfollowed := true, recurses := true, named := ["unicode/utf8.first", "unicode/utf8.acceptRanges", "internal/bytealg.MaxLen"], apart := false, laid := [("unicode/utf8.acceptRanges", laid_unicode_utf8_acceptRanges), ("unicode/utf8.first", laid_unicode_utf8_first)] }
def FilesKeysSaid : Prop := filesKeysRow.holds Tryz.pinned (OpenSpec.ofChange filesKeysSpec)

/-- ITS FALSE NEIGHBOUR: 'it returns false'. Refute it at one input. -/
def filesKeysWrong : ChangeSpec := { name := "filesKeys", fn := fun _ => fun
  | [d] => { results := [.lit (.bool false)], args := [d] }
  | _ => none }
def FilesKeysWrongFalsely : Prop := filesKeysRow.holds Tryz.pinned (OpenSpec.ofChange filesKeysWrong)

/-- 'flintlaw19.FilesBack': WHATEVER THE INPUT: true; the input reads as it did. -/
def filesBackSpec : ChangeSpec := { name := "filesBack", fn := fun _ => fun
  | [d1, d2, d3] => { results := [.lit (.bool true)], args := [d1, d2, d3] }
  | _ => none }
def filesBackRow : OpenClaim := { program := "ytfnpelogfcnanaagreatdoor", sum := "4bb36f3e44f1deb37e770bacf1aa625b0115f9afafccc3858e1f92385dbea7bf", func := "flint/flintlaw19.FilesBack", spec := "filesBack", inPlace := ["internal/bytealg.CountString", "internal/bytealg.IndexByteString", "internal/bytealg.IndexString"], unfollowed := true, recurses := true, named := ["unicode/utf8.first", "unicode/utf8.acceptRanges", "internal/bytealg.MaxLen"], apart := false, laid := [("unicode/utf8.acceptRanges", laid_unicode_utf8_acceptRanges), ("unicode/utf8.first", laid_unicode_utf8_first)] }
def FilesBackSaid : Prop := filesBackRow.holds Tryz.pinned (OpenSpec.ofChange filesBackSpec)

/-- ITS FALSE NEIGHBOUR: 'it returns false'. Refute it at one input. -/
def filesBackWrong : ChangeSpec := { name := "filesBack", fn := fun _ => fun
  | [d1, d2, d3] => { results := [.lit (.bool false)], args := [d1, d2, d3] }
  | _ => none }
def FilesBackWrongFalsely : Prop := filesBackRow.holds Tryz.pinned (OpenSpec.ofChange filesBackWrong)

/-- 'flintlaw19.FilesShrink': WHATEVER THE INPUT: true; the input reads as it did. -/
def filesShrinkSpec : ChangeSpec := { name := "filesShrink", fn := fun _ => fun
  | [d1, d2, d3] => { results := [.lit (.bool true)], args := [d1, d2, d3] }
  | _ => none }
def filesShrinkRow : OpenClaim := { program := "ytfnpelogfcnanaagreatdoor", sum := "4bb36f3e44f1deb37e770bacf1aa625b0115f9afafccc3858e1f92385dbea7bf", func := "flint/flintlaw19.FilesShrink", spec := "filesShrink", inPlace := ["internal/bytealg.CountString", "internal/bytealg.IndexByteString", "internal/bytealg.IndexString"], unfollowed := true, recurses := true, named := ["unicode/utf8.first", "unicode/utf8.acceptRanges", "internal/bytealg.MaxLen"], apart := false, laid := [("unicode/utf8.acceptRanges", laid_unicode_utf8_acceptRanges), ("unicode/utf8.first", laid_unicode_utf8_first)] }
def FilesShrinkSaid : Prop := filesShrinkRow.holds Tryz.pinned (OpenSpec.ofChange filesShrinkSpec)

/-- ITS FALSE NEIGHBOUR: 'it returns false'. Refute it at one input. -/
def filesShrinkWrong : ChangeSpec := { name := "filesShrink", fn := fun _ => fun
  | [d1, d2, d3] => { results := [.lit (.bool false)], args := [d1, d2, d3] }
  | _ => none }
def FilesShrinkWrongFalsely : Prop := filesShrinkRow.holds Tryz.pinned (OpenSpec.ofChange filesShrinkWrong)

/- THE SECOND FORM. 'bulk': how many values and letters a reading holds, each counted each time it is reached (what is shared counts as often as it is met; a slice's spare places count too). A statement '..UptoSaid' is the law's where the arguments, and the package variables that the reading takes, are together of bulk at most 1048576: NARROWER than '..Said'. Prove '..Said' where nothing that the law and all that it calls make is longer than what came in: it says more and counts as full. Else prove '..UptoSaid'. A law counts once. -/
mutual
def uptoBulk {H : Type} : DataW H → Nat
  | .lit (.string bytes) => bytes.length + 1
  | .lit _ => 1
  | .nil => 1
  | .ptr d => uptoBulk d + 1
  | .slice elems spare => uptoBulkAll elems + uptoBulkAll spare + 1
  | .agg parts => uptoBulkAll parts + 1
  | .iface _ d => uptoBulk d + 1
  | .map entries => uptoBulkEntries entries + 1
  | .held _ => 1
def uptoBulkAll {H : Type} : List (DataW H) → Nat
  | [] => 0
  | d :: r => uptoBulk d + uptoBulkAll r
def uptoBulkEntries {H : Type} : List (Lit × DataW H) → Nat
  | [] => 0
  | x :: r => uptoBulkEntry x + uptoBulkEntries r
def uptoBulkEntry {H : Type} : Lit × DataW H → Nat
  | (.string bytes, d) => bytes.length + uptoBulk d + 1
  | (_, d) => uptoBulk d + 1
 end
def uptoSmall : (H : Type) → List (DataW H) → Bool := fun _ ds => decide (uptoBulkAll ds ≤ 1048576)
def OpenSpec.upto (s : _root_.Go.ChangeSpec) : _root_.Go.OpenSpec := { _root_.Go.OpenSpec.ofChange s with cond := some uptoSmall }

/-- 'flintlaw18.DirsPlays', WHERE WHAT IT READS IS OF BULK AT MOST 1048576: true; the input reads as it did. -/
def dirsPlaysUptoRow : OpenClaim := { program := "ytfnpelogfcnanaagreatdoor", sum := "4bb36f3e44f1deb37e770bacf1aa625b0115f9afafccc3858e1f92385dbea7bf", func := "flint/flintlaw18.DirsPlays", spec := "dirsPlays", inPlace := ["internal/bytealg.CountString", "internal/bytealg.IndexByteString", "internal/bytealg.IndexString"], unfollowed := true, recurses := true, named := ["unicode/utf8.first", "unicode/utf8.acceptRanges", "internal/bytealg.MaxLen"], apart := false, laid := [("unicode/utf8.acceptRanges", laid_unicode_utf8_acceptRanges), ("unicode/utf8.first", laid_unicode_utf8_first)], narrowed := true }
def DirsPlaysUptoSaid : Prop := dirsPlaysUptoRow.holds Tryz.pinned (OpenSpec.upto dirsPlaysSpec)

/-- 'flintlaw18.DirsTree', WHERE WHAT IT READS IS OF BULK AT MOST 1048576: true; the input reads as it did. -/
def dirsTreeUptoRow : OpenClaim := { program := "ytfnpelogfcnanaagreatdoor", sum := "4bb36f3e44f1deb37e770bacf1aa625b0115f9afafccc3858e1f92385dbea7bf", func := "flint/flintlaw18.DirsTree", spec := "dirsTree", inPlace := ["internal/bytealg.CountString", "internal/bytealg.IndexByteString", "internal/bytealg.IndexString"], unfollowed := true, recurses := true, named := ["unicode/utf8.first", "unicode/utf8.acceptRanges", "internal/bytealg.MaxLen"], apart := false, laid := [("unicode/utf8.acceptRanges", laid_unicode_utf8_acceptRanges), ("unicode/utf8.first", laid_unicode_utf8_first)], narrowed := true }
def DirsTreeUptoSaid : Prop := dirsTreeUptoRow.holds Tryz.pinned (OpenSpec.upto dirsTreeSpec)

/-- 'flintlaw18.DirsThere', WHERE WHAT IT READS IS OF BULK AT MOST 1048576: true; the input reads as it did. -/
def dirsThereUptoRow : OpenClaim := { program := "ytfnpelogfcnanaagreatdoor", sum := "4bb36f3e44f1deb37e770bacf1aa625b0115f9afafccc3858e1f92385dbea7bf", func := "flint/flintlaw18.DirsThere", spec := "dirsThere", inPlace := ["internal/bytealg.CountString", "internal/bytealg.IndexByteString", "internal/bytealg.IndexString"], unfollowed := true, recurses := true, named := ["unicode/utf8.first", "unicode/utf8.acceptRanges", "internal/bytealg.MaxLen"], apart := false, laid := [("unicode/utf8.acceptRanges", laid_unicode_utf8_acceptRanges), ("unicode/utf8.first", laid_unicode_utf8_first)], narrowed := true }
def DirsThereUptoSaid : Prop := dirsThereUptoRow.holds Tryz.pinned (OpenSpec.upto dirsThereSpec)

/-- 'flintlaw18.DirsRefuse', WHERE WHAT IT READS IS OF BULK AT MOST 1048576: true; the input reads as it did. -/
def dirsRefuseUptoRow : OpenClaim := { program := "ytfnpelogfcnanaagreatdoor", sum := "4bb36f3e44f1deb37e770bacf1aa625b0115f9afafccc3858e1f92385dbea7bf", func := "flint/flintlaw18.DirsRefuse", spec := "dirsRefuse", inPlace := ["internal/bytealg.CountString", "internal/bytealg.IndexByteString", "internal/bytealg.IndexString"], unfollowed := true, recurses := true, named := ["unicode/utf8.first", "unicode/utf8.acceptRanges", "internal/bytealg.MaxLen"], apart := false, laid := [("unicode/utf8.acceptRanges", laid_unicode_utf8_acceptRanges), ("unicode/utf8.first", laid_unicode_utf8_first)], narrowed := true }
def DirsRefuseUptoSaid : Prop := dirsRefuseUptoRow.holds Tryz.pinned (OpenSpec.upto dirsRefuseSpec)

/-- 'flintlaw19.FilesPlays', WHERE WHAT IT READS IS OF BULK AT MOST 1048576: true; the input reads as it did. -/
def filesPlaysUptoRow : OpenClaim := { program := "ytfnpelogfcnanaagreatdoor", sum := "4bb36f3e44f1deb37e770bacf1aa625b0115f9afafccc3858e1f92385dbea7bf", func := "flint/flintlaw19.FilesPlays", spec := "filesPlays", inPlace := ["internal/bytealg.CountString", "internal/bytealg.IndexByteString", "internal/bytealg.IndexString"], unfollowed := true, recurses := true, named := ["unicode/utf8.first", "unicode/utf8.acceptRanges", "internal/bytealg.MaxLen"], apart := false, laid := [("unicode/utf8.acceptRanges", laid_unicode_utf8_acceptRanges), ("unicode/utf8.first", laid_unicode_utf8_first)], narrowed := true }
def FilesPlaysUptoSaid : Prop := filesPlaysUptoRow.holds Tryz.pinned (OpenSpec.upto filesPlaysSpec)

/-- 'flintlaw19.FilesKeys', WHERE WHAT IT READS IS OF BULK AT MOST 1048576: true; the input reads as it did. -/
def filesKeysUptoRow : OpenClaim := { program := "ytfnpelogfcnanaagreatdoor", sum := "4bb36f3e44f1deb37e770bacf1aa625b0115f9afafccc3858e1f92385dbea7bf", func := "flint/flintlaw19.FilesKeys", spec := "filesKeys", inPlace := ["internal/bytealg.CountString", "internal/bytealg.IndexByteString", "internal/bytealg.IndexString"], unfollowed := true, recurses := true, named := ["unicode/utf8.first", "unicode/utf8.acceptRanges", "internal/bytealg.MaxLen"], apart := false, laid := [("unicode/utf8.acceptRanges", laid_unicode_utf8_acceptRanges), ("unicode/utf8.first", laid_unicode_utf8_first)], narrowed := true }
def FilesKeysUptoSaid : Prop := filesKeysUptoRow.holds Tryz.pinned (OpenSpec.upto filesKeysSpec)

/-- 'flintlaw19.FilesBack', WHERE WHAT IT READS IS OF BULK AT MOST 1048576: true; the input reads as it did. -/
def filesBackUptoRow : OpenClaim := { program := "ytfnpelogfcnanaagreatdoor", sum := "4bb36f3e44f1deb37e770bacf1aa625b0115f9afafccc3858e1f92385dbea7bf", func := "flint/flintlaw19.FilesBack", spec := "filesBack", inPlace := ["internal/bytealg.CountString", "internal/bytealg.IndexByteString", "internal/bytealg.IndexString"], unfollowed := true, recurses := true, named := ["unicode/utf8.first", "unicode/utf8.acceptRanges", "internal/bytealg.MaxLen"], apart := false, laid := [("unicode/utf8.acceptRanges", laid_unicode_utf8_acceptRanges), ("unicode/utf8.first", laid_unicode_utf8_first)], narrowed := true }
def FilesBackUptoSaid : Prop := filesBackUptoRow.holds Tryz.pinned (OpenSpec.upto filesBackSpec)

/-- 'flintlaw19.FilesShrink', WHERE WHAT IT READS IS OF BULK AT MOST 1048576: true; the input reads as it did. -/
def filesShrinkUptoRow : OpenClaim := { program := "ytfnpelogfcnanaagreatdoor", sum := "4bb36f3e44f1deb37e770bacf1aa625b0115f9afafccc3858e1f92385dbea7bf", func := "flint/flintlaw19.FilesShrink", spec := "filesShrink", inPlace := ["internal/bytealg.CountString", "internal/bytealg.IndexByteString", "internal/bytealg.IndexString"], unfollowed := true, recurses := true, named := ["unicode/utf8.first", "unicode/utf8.acceptRanges", "internal/bytealg.MaxLen"], apart := false, laid := [("unicode/utf8.acceptRanges", laid_unicode_utf8_acceptRanges), ("unicode/utf8.first", laid_unicode_utf8_first)], narrowed := true }
def FilesShrinkUptoSaid : Prop := filesShrinkUptoRow.holds Tryz.pinned (OpenSpec.upto filesShrinkSpec)

end Rows
end Go.Proofs.YtfnpelogfcnanaaGreatDoor
