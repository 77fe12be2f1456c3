/-
  NARROWER THAN 'FOR EVERY INPUT', by the rows' own cells (each row's printed sentence says how): ArkSaves: laid · ArkBack: laid · DiffIs: laid · DiffOn: laid · DiffTurned: laid · DiffNone: laid.
  DERIVED. THE GIVEN ROWS OF THIS SEAT. 6 by the template 'for every input the law returns true; each argument reads behind the call as it read before'; 0 by the template 'total and deterministic' (their statements: YtdnpkgakpiopgaaGreatDoorTotals.lean).
  GIVEN WITH THE SEED: the statements are not yours to turn. If you find one false, say at which input.
  Laid BY PROGRAM, IN A SANDBOX (cutbox-rows.mjs): the forced cells as the released guide's own fill.sh prints them over the translation 64a2f9a012325da8… (all of the seat's roots in one cut). By AI agents, Wed Nov 11 2026. No macro, syntax, notation, axiom, sorry.
-/
import Derived.Test.YtdnpkgakpiopgaaGreatDoorChecked
import GoSem.PinnedTables
import GoSem.Claim
import GoSem.ClaimJoined
import GoSem.ClaimMapViews
import Derived.JoinedTies
import Derived.KernelRfl
namespace Go.Proofs.YtdnpkgakpiopgaaGreatDoor
/- THE CELL 'sum', in the pinned program and in every row, IS THE sha256 OF THE DUMP (.gsa) THAT YtdnpkgakpiopgaaGreatDoorProg.lean LOADS. Nothing in Lean hashes anything: it is a label: what it is worth is what the hold of that sum in a sandbox is worth. -/
noncomputable def Tryz.pinned : Pinned := { name := "ytdnpkgakpiopgaagreatdoor", sum := "64a2f9a012325da870353acb12fc855fdab3eb5fbeab8cb252710a6872776c04", checked := Tryz.checked }
namespace Rows
def none {H : Type} : Left H := { results := [], args := [] }

/- WHAT THE LISTED PACKAGE-LEVEL VARIABLES READ AS WHEN THE CALL BEGINS. Each datum BY PROGRAM (the guide's laid-datum.mjs) off the statement by which the dump's own 'gosem.cut.vars' lays the variable. In a bare row this is a premise. The card (YtdnpkgakpiopgaaGreatDoorCards.lean) ties it to the program's text. -/
def laid_unicode_utf8_acceptRanges {H : Type} : DataW H := .agg [.agg [.lit (.int .u8 128), .lit (.int .u8 191)], .agg [.lit (.int .u8 160), .lit (.int .u8 191)], .agg [.lit (.int .u8 128), .lit (.int .u8 159)], .agg [.lit (.int .u8 144), .lit (.int .u8 191)], .agg [.lit (.int .u8 128), .lit (.int .u8 143)], .agg [.lit (.int .u8 0), .lit (.int .u8 0)], .agg [.lit (.int .u8 0), .lit (.int .u8 0)], .agg [.lit (.int .u8 0), .lit (.int .u8 0)], .agg [.lit (.int .u8 0), .lit (.int .u8 0)], .agg [.lit (.int .u8 0), .lit (.int .u8 0)], .agg [.lit (.int .u8 0), .lit (.int .u8 0)], .agg [.lit (.int .u8 0), .lit (.int .u8 0)], .agg [.lit (.int .u8 0), .lit (.int .u8 0)], .agg [.lit (.int .u8 0), .lit (.int .u8 0)], .agg [.lit (.int .u8 0), .lit (.int .u8 0)], .agg [.lit (.int .u8 0), .lit (.int .u8 0)]]
/-- One of Go's own tables, pinned by name: the form's constant. -/
def laid_unicode_utf8_first : DataW Unit := Go.Pinned.utf8First

/-- 'flintlaw28.ArkSaves': WHATEVER THE INPUT: true; the input reads as it did. -/
def arkSavesSpec : ChangeSpec := { name := "arkSaves", fn := fun _ => fun
  | [d] => { results := [.lit (.bool true)], args := [d] }
  | _ => none }
def arkSavesRow : OpenClaim := { program := "ytdnpkgakpiopgaagreatdoor", sum := "64a2f9a012325da870353acb12fc855fdab3eb5fbeab8cb252710a6872776c04", func := "flint/flintlaw28.ArkSaves", spec := "arkSaves", inPlace := ["internal/bytealg.CountString", "internal/bytealg.IndexByteString", "internal/bytealg.IndexString"], unfollowed := true, recurses := true, named := ["unicode/utf8.first", "unicode/utf8.acceptRanges", "internal/bytealg.MaxLen"], apart := false, laid := [("unicode/utf8.acceptRanges", laid_unicode_utf8_acceptRanges), ("unicode/utf8.first", laid_unicode_utf8_first)] }
def ArkSavesSaid : Prop := arkSavesRow.holds Tryz.pinned (OpenSpec.ofChange arkSavesSpec)

/-- ITS FALSE NEIGHBOUR: 'it returns false'. Refute it at one input. -/
def arkSavesWrong : ChangeSpec := { name := "arkSaves", fn := fun _ => fun
  | [d] => { results := [.lit (.bool false)], args := [d] }
  | _ => none }
def ArkSavesWrongFalsely : Prop := arkSavesRow.holds Tryz.pinned (OpenSpec.ofChange arkSavesWrong)

/-- 'flintlaw28.ArkBack': WHATEVER THE INPUT: true; the input reads as it did. -/
def arkBackSpec : ChangeSpec := { name := "arkBack", fn := fun _ => fun
  | [d] => { results := [.lit (.bool true)], args := [d] }
  | _ => none }
def arkBackRow : OpenClaim := { program := "ytdnpkgakpiopgaagreatdoor", sum := "64a2f9a012325da870353acb12fc855fdab3eb5fbeab8cb252710a6872776c04", func := "flint/flintlaw28.ArkBack", spec := "arkBack", inPlace := ["internal/bytealg.CountString", "internal/bytealg.IndexByteString", "internal/bytealg.IndexString"], unfollowed := true, recurses := true, named := ["unicode/utf8.first", "unicode/utf8.acceptRanges", "internal/bytealg.MaxLen"], apart := false, laid := [("unicode/utf8.acceptRanges", laid_unicode_utf8_acceptRanges), ("unicode/utf8.first", laid_unicode_utf8_first)] }
def ArkBackSaid : Prop := arkBackRow.holds Tryz.pinned (OpenSpec.ofChange arkBackSpec)

/-- ITS FALSE NEIGHBOUR: 'it returns false'. Refute it at one input. -/
def arkBackWrong : ChangeSpec := { name := "arkBack", fn := fun _ => fun
  | [d] => { results := [.lit (.bool false)], args := [d] }
  | _ => none }
def ArkBackWrongFalsely : Prop := arkBackRow.holds Tryz.pinned (OpenSpec.ofChange arkBackWrong)

/-- 'flintlaw29.DiffIs': WHATEVER THE INPUT: true; the input reads as it did. -/
def diffIsSpec : ChangeSpec := { name := "diffIs", fn := fun _ => fun
  | [d1, d2] => { results := [.lit (.bool true)], args := [d1, d2] }
  | _ => none }
def diffIsRow : OpenClaim := { program := "ytdnpkgakpiopgaagreatdoor", sum := "64a2f9a012325da870353acb12fc855fdab3eb5fbeab8cb252710a6872776c04", func := "flint/flintlaw29.DiffIs", spec := "diffIs", inPlace := ["internal/bytealg.CountString", "internal/bytealg.IndexByteString", "internal/bytealg.IndexString", "internal/bytealg.abigen_runtime_cmpstring", "internal/abi.NoEscape"], unfollowed := true, recurses := true, named := ["unicode/utf8.first", "unicode/utf8.acceptRanges", "internal/bytealg.MaxLen"], apart := false, laid := [("unicode/utf8.acceptRanges", laid_unicode_utf8_acceptRanges), ("unicode/utf8.first", laid_unicode_utf8_first)] }
def DiffIsSaid : Prop := diffIsRow.holds Tryz.pinned (OpenSpec.ofChange diffIsSpec)

/-- ITS FALSE NEIGHBOUR: 'it returns false'. Refute it at one input. -/
def diffIsWrong : ChangeSpec := { name := "diffIs", fn := fun _ => fun
  | [d1, d2] => { results := [.lit (.bool false)], args := [d1, d2] }
  | _ => none }
def DiffIsWrongFalsely : Prop := diffIsRow.holds Tryz.pinned (OpenSpec.ofChange diffIsWrong)

/-- 'flintlaw29.DiffOn': WHATEVER THE INPUT: true; the input reads as it did. -/
def diffOnSpec : ChangeSpec := { name := "diffOn", fn := fun _ => fun
  | [d1, d2] => { results := [.lit (.bool true)], args := [d1, d2] }
  | _ => none }
def diffOnRow : OpenClaim := { program := "ytdnpkgakpiopgaagreatdoor", sum := "64a2f9a012325da870353acb12fc855fdab3eb5fbeab8cb252710a6872776c04", func := "flint/flintlaw29.DiffOn", spec := "diffOn", inPlace := ["internal/bytealg.abigen_runtime_cmpstring", "internal/abi.NoEscape", "internal/bytealg.CountString", "internal/bytealg.IndexByteString", "internal/bytealg.IndexString"], unfollowed := true, recurses := true, named := ["unicode/utf8.first", "unicode/utf8.acceptRanges", "internal/bytealg.MaxLen"], apart := false, laid := [("unicode/utf8.acceptRanges", laid_unicode_utf8_acceptRanges), ("unicode/utf8.first", laid_unicode_utf8_first)] }
def DiffOnSaid : Prop := diffOnRow.holds Tryz.pinned (OpenSpec.ofChange diffOnSpec)

/-- ITS FALSE NEIGHBOUR: 'it returns false'. Refute it at one input. -/
def diffOnWrong : ChangeSpec := { name := "diffOn", fn := fun _ => fun
  | [d1, d2] => { results := [.lit (.bool false)], args := [d1, d2] }
  | _ => none }
def DiffOnWrongFalsely : Prop := diffOnRow.holds Tryz.pinned (OpenSpec.ofChange diffOnWrong)

/-- 'flintlaw29.DiffTurned': WHATEVER THE INPUT: true; the input reads as it did. -/
def diffTurnedSpec : ChangeSpec := { name := "diffTurned", fn := fun _ => fun
  | [d1, d2] => { results := [.lit (.bool true)], args := [d1, d2] }
  | _ => none }
def diffTurnedRow : OpenClaim := { program := "ytdnpkgakpiopgaagreatdoor", sum := "64a2f9a012325da870353acb12fc855fdab3eb5fbeab8cb252710a6872776c04", func := "flint/flintlaw29.DiffTurned", spec := "diffTurned", inPlace := ["internal/bytealg.CountString", "internal/bytealg.IndexByteString", "internal/bytealg.IndexString", "internal/bytealg.abigen_runtime_cmpstring", "internal/abi.NoEscape"], unfollowed := true, recurses := true, named := ["unicode/utf8.first", "unicode/utf8.acceptRanges", "internal/bytealg.MaxLen"], apart := false, laid := [("unicode/utf8.acceptRanges", laid_unicode_utf8_acceptRanges), ("unicode/utf8.first", laid_unicode_utf8_first)] }
def DiffTurnedSaid : Prop := diffTurnedRow.holds Tryz.pinned (OpenSpec.ofChange diffTurnedSpec)

/-- ITS FALSE NEIGHBOUR: 'it returns false'. Refute it at one input. -/
def diffTurnedWrong : ChangeSpec := { name := "diffTurned", fn := fun _ => fun
  | [d1, d2] => { results := [.lit (.bool false)], args := [d1, d2] }
  | _ => none }
def DiffTurnedWrongFalsely : Prop := diffTurnedRow.holds Tryz.pinned (OpenSpec.ofChange diffTurnedWrong)

/-- 'flintlaw29.DiffNone': WHATEVER THE INPUT: true; the input reads as it did. -/
def diffNoneSpec : ChangeSpec := { name := "diffNone", fn := fun _ => fun
  | [d] => { results := [.lit (.bool true)], args := [d] }
  | _ => none }
def diffNoneRow : OpenClaim := { program := "ytdnpkgakpiopgaagreatdoor", sum := "64a2f9a012325da870353acb12fc855fdab3eb5fbeab8cb252710a6872776c04", func := "flint/flintlaw29.DiffNone", spec := "diffNone", inPlace := ["internal/bytealg.CountString", "internal/bytealg.IndexByteString", "internal/bytealg.IndexString", "internal/bytealg.abigen_runtime_cmpstring", "internal/abi.NoEscape"], unfollowed := true, recurses := true, named := ["unicode/utf8.first", "unicode/utf8.acceptRanges", "internal/bytealg.MaxLen"], apart := false, laid := [("unicode/utf8.acceptRanges", laid_unicode_utf8_acceptRanges), ("unicode/utf8.first", laid_unicode_utf8_first)] }
def DiffNoneSaid : Prop := diffNoneRow.holds Tryz.pinned (OpenSpec.ofChange diffNoneSpec)

/-- ITS FALSE NEIGHBOUR: 'it returns false'. Refute it at one input. -/
def diffNoneWrong : ChangeSpec := { name := "diffNone", fn := fun _ => fun
  | [d] => { results := [.lit (.bool false)], args := [d] }
  | _ => none }
def DiffNoneWrongFalsely : Prop := diffNoneRow.holds Tryz.pinned (OpenSpec.ofChange diffNoneWrong)

/- THE SECOND FORM. 'bulk': how many values and letters a reading holds, each counted each time it is reached (what is shared counts as often as it is met; a slice's spare places count too). A statement '..UptoSaid' is the law's where the arguments, and the package variables that the reading takes, are together of bulk at most 1048576: NARROWER than '..Said'. Prove '..Said' where nothing that the law and all that it calls make is longer than what came in: it says more and counts as full. Else prove '..UptoSaid'. A law counts once. -/
mutual
def uptoBulk {H : Type} : DataW H → Nat
  | .lit (.string bytes) => bytes.length + 1
  | .lit _ => 1
  | .nil => 1
  | .ptr d => uptoBulk d + 1
  | .slice elems spare => uptoBulkAll elems + uptoBulkAll spare + 1
  | .agg parts => uptoBulkAll parts + 1
  | .iface _ d => uptoBulk d + 1
  | .map entries => uptoBulkEntries entries + 1
  | .held _ => 1
def uptoBulkAll {H : Type} : List (DataW H) → Nat
  | [] => 0
  | d :: r => uptoBulk d + uptoBulkAll r
def uptoBulkEntries {H : Type} : List (Lit × DataW H) → Nat
  | [] => 0
  | x :: r => uptoBulkEntry x + uptoBulkEntries r
def uptoBulkEntry {H : Type} : Lit × DataW H → Nat
  | (.string bytes, d) => bytes.length + uptoBulk d + 1
  | (_, d) => uptoBulk d + 1
 end
def uptoSmall : (H : Type) → List (DataW H) → Bool := fun _ ds => decide (uptoBulkAll ds ≤ 1048576)
def OpenSpec.upto (s : _root_.Go.ChangeSpec) : _root_.Go.OpenSpec := { _root_.Go.OpenSpec.ofChange s with cond := some uptoSmall }

/-- 'flintlaw28.ArkSaves', WHERE WHAT IT READS IS OF BULK AT MOST 1048576: true; the input reads as it did. -/
def arkSavesUptoRow : OpenClaim := { program := "ytdnpkgakpiopgaagreatdoor", sum := "64a2f9a012325da870353acb12fc855fdab3eb5fbeab8cb252710a6872776c04", func := "flint/flintlaw28.ArkSaves", spec := "arkSaves", inPlace := ["internal/bytealg.CountString", "internal/bytealg.IndexByteString", "internal/bytealg.IndexString"], unfollowed := true, recurses := true, named := ["unicode/utf8.first", "unicode/utf8.acceptRanges", "internal/bytealg.MaxLen"], apart := false, laid := [("unicode/utf8.acceptRanges", laid_unicode_utf8_acceptRanges), ("unicode/utf8.first", laid_unicode_utf8_first)], narrowed := true }
def ArkSavesUptoSaid : Prop := arkSavesUptoRow.holds Tryz.pinned (OpenSpec.upto arkSavesSpec)

/-- 'flintlaw28.ArkBack', WHERE WHAT IT READS IS OF BULK AT MOST 1048576: true; the input reads as it did. -/
def arkBackUptoRow : OpenClaim := { program := "ytdnpkgakpiopgaagreatdoor", sum := "64a2f9a012325da870353acb12fc855fdab3eb5fbeab8cb252710a6872776c04", func := "flint/flintlaw28.ArkBack", spec := "arkBack", inPlace := ["internal/bytealg.CountString", "internal/bytealg.IndexByteString", "internal/bytealg.IndexString"], unfollowed := true, recurses := true, named := ["unicode/utf8.first", "unicode/utf8.acceptRanges", "internal/bytealg.MaxLen"], apart := false, laid := [("unicode/utf8.acceptRanges", laid_unicode_utf8_acceptRanges), ("unicode/utf8.first", laid_unicode_utf8_first)], narrowed := true }
def ArkBackUptoSaid : Prop := arkBackUptoRow.holds Tryz.pinned (OpenSpec.upto arkBackSpec)

/-- 'flintlaw29.DiffIs', WHERE WHAT IT READS IS OF BULK AT MOST 1048576: true; the input reads as it did. -/
def diffIsUptoRow : OpenClaim := { program := "ytdnpkgakpiopgaagreatdoor", sum := "64a2f9a012325da870353acb12fc855fdab3eb5fbeab8cb252710a6872776c04", func := "flint/flintlaw29.DiffIs", spec := "diffIs", inPlace := ["internal/bytealg.CountString", "internal/bytealg.IndexByteString", "internal/bytealg.IndexString", "internal/bytealg.abigen_runtime_cmpstring", "internal/abi.NoEscape"], unfollowed := true, recurses := true, named := ["unicode/utf8.first", "unicode/utf8.acceptRanges", "internal/bytealg.MaxLen"], apart := false, laid := [("unicode/utf8.acceptRanges", laid_unicode_utf8_acceptRanges), ("unicode/utf8.first", laid_unicode_utf8_first)], narrowed := true }
def DiffIsUptoSaid : Prop := diffIsUptoRow.holds Tryz.pinned (OpenSpec.upto diffIsSpec)

/-- 'flintlaw29.DiffOn', WHERE WHAT IT READS IS OF BULK AT MOST 1048576: true; the input reads as it did. -/
def diffOnUptoRow : OpenClaim := { program := "ytdnpkgakpiopgaagreatdoor", sum := "64a2f9a012325da870353acb12fc855fdab3eb5fbeab8cb252710a6872776c04", func := "flint/flintlaw29.DiffOn", spec := "diffOn", inPlace := ["internal/bytealg.abigen_runtime_cmpstring", "internal/abi.NoEscape", "internal/bytealg.CountString", "internal/bytealg.IndexByteString", "internal/bytealg.IndexString"], unfollowed := true, recurses := true, named := ["unicode/utf8.first", "unicode/utf8.acceptRanges", "internal/bytealg.MaxLen"], apart := false, laid := [("unicode/utf8.acceptRanges", laid_unicode_utf8_acceptRanges), ("unicode/utf8.first", laid_unicode_utf8_first)], narrowed := true }
def DiffOnUptoSaid : Prop := diffOnUptoRow.holds Tryz.pinned (OpenSpec.upto diffOnSpec)

/-- 'flintlaw29.DiffTurned', WHERE WHAT IT READS IS OF BULK AT MOST 1048576: true; the input reads as it did. -/
def diffTurnedUptoRow : OpenClaim := { program := "ytdnpkgakpiopgaagreatdoor", sum := "64a2f9a012325da870353acb12fc855fdab3eb5fbeab8cb252710a6872776c04", func := "flint/flintlaw29.DiffTurned", spec := "diffTurned", inPlace := ["internal/bytealg.CountString", "internal/bytealg.IndexByteString", "internal/bytealg.IndexString", "internal/bytealg.abigen_runtime_cmpstring", "internal/abi.NoEscape"], unfollowed := true, recurses := true, named := ["unicode/utf8.first", "unicode/utf8.acceptRanges", "internal/bytealg.MaxLen"], apart := false, laid := [("unicode/utf8.acceptRanges", laid_unicode_utf8_acceptRanges), ("unicode/utf8.first", laid_unicode_utf8_first)], narrowed := true }
def DiffTurnedUptoSaid : Prop := diffTurnedUptoRow.holds Tryz.pinned (OpenSpec.upto diffTurnedSpec)

/-- 'flintlaw29.DiffNone', WHERE WHAT IT READS IS OF BULK AT MOST 1048576: true; the input reads as it did. -/
def diffNoneUptoRow : OpenClaim := { program := "ytdnpkgakpiopgaagreatdoor", sum := "64a2f9a012325da870353acb12fc855fdab3eb5fbeab8cb252710a6872776c04", func := "flint/flintlaw29.DiffNone", spec := "diffNone", inPlace := ["internal/bytealg.CountString", "internal/bytealg.IndexByteString", "internal/bytealg.IndexString", "internal/bytealg.abigen_runtime_cmpstring", "internal/abi.NoEscape"], unfollowed := true, recurses := true, named := ["unicode/utf8.first", "unicode/utf8.acceptRanges", "internal/bytealg.MaxLen"], apart := false, laid := [("unicode/utf8.acceptRanges", laid_unicode_utf8_acceptRanges), ("unicode/utf8.first", laid_unicode_utf8_first)], narrowed := true }
def DiffNoneUptoSaid : Prop := diffNoneUptoRow.holds Tryz.pinned (OpenSpec.upto diffNoneSpec)

end Rows
end Go.Proofs.YtdnpkgakpiopgaaGreatDoor
