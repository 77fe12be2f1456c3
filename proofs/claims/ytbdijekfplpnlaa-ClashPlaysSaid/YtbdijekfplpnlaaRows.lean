/-
  No cell of these rows narrows 'for every input' (looked for: loops, veiled, ifaces, maps, wideKeys, modest, calm, conditions, laid).
  DERIVED. THE GIVEN ROWS OF THIS SEAT. 12 by the template 'for every input the law returns true; each argument reads behind the call as it read before'; 0 by the template 'total and deterministic' (their statements: YtbdijekfplpnlaaTotals.lean).
  GIVEN WITH THE SEED: the statements are not yours to turn. If you find one false, say at which input.
  Laid BY PROGRAM, IN A SANDBOX (cutbox-rows.mjs): the forced cells as the released guide's own fill.sh prints them over the translation 03be118b2fc9d795… (all of the seat's roots in one cut). By AI agents, Wed Nov 11 2026. No macro, syntax, notation, axiom, sorry.
-/
import Derived.Test.YtbdijekfplpnlaaChecked
import GoSem.Claim
import GoSem.ClaimJoined
import GoSem.ClaimMapViews
import Derived.JoinedTies
import Derived.KernelRfl
namespace Go.Proofs.Ytbdijekfplpnlaa
/- THE CELL 'sum', in the pinned program and in every row, IS THE sha256 OF THE DUMP (.gsa) THAT YtbdijekfplpnlaaProg.lean LOADS. Nothing in Lean hashes anything: it is a label: what it is worth is what the hold of that sum in a sandbox is worth. -/
noncomputable def Try.pinned : Pinned := { name := "ytbdijekfplpnlaa", sum := "03be118b2fc9d795b68eef3cc1b4ea3dee49a612a4a7c0219a1395b8a92552a9", checked := Try.checked }
namespace Rows
def none {H : Type} : Left H := { results := [], args := [] }

/-- 'flintlaw10.TreeLow': WHATEVER THE INPUT: true; the input reads as it did. -/
def treeLowSpec : ChangeSpec := { name := "treeLow", fn := fun _ => fun
  | [d1, d2] => { results := [.lit (.bool true)], args := [d1, d2] }
  | _ => none }
def treeLowRow : OpenClaim := { program := "ytbdijekfplpnlaa", sum := "03be118b2fc9d795b68eef3cc1b4ea3dee49a612a4a7c0219a1395b8a92552a9", func := "flint/flintlaw10.TreeLow", spec := "treeLow", recurses := true, apart := false }
def TreeLowSaid : Prop := treeLowRow.holds Try.pinned (OpenSpec.ofChange treeLowSpec)

/-- ITS FALSE NEIGHBOUR: 'it returns false'. Refute it at one input. -/
def treeLowWrong : ChangeSpec := { name := "treeLow", fn := fun _ => fun
  | [d1, d2] => { results := [.lit (.bool false)], args := [d1, d2] }
  | _ => none }
def TreeLowWrongFalsely : Prop := treeLowRow.holds Try.pinned (OpenSpec.ofChange treeLowWrong)

/-- 'flintlaw10.TreeStays': WHATEVER THE INPUT: true; the input reads as it did. -/
def treeStaysSpec : ChangeSpec := { name := "treeStays", fn := fun _ => fun
  | [d1, d2] => { results := [.lit (.bool true)], args := [d1, d2] }
  | _ => none }
def treeStaysRow : OpenClaim := { program := "ytbdijekfplpnlaa", sum := "03be118b2fc9d795b68eef3cc1b4ea3dee49a612a4a7c0219a1395b8a92552a9", func := "flint/flintlaw10.TreeStays", spec := "treeStays", recurses := true, apart := false }
def TreeStaysSaid : Prop := treeStaysRow.holds Try.pinned (OpenSpec.ofChange treeStaysSpec)

/-- ITS FALSE NEIGHBOUR: 'it returns false'. Refute it at one input. -/
def treeStaysWrong : ChangeSpec := { name := "treeStays", fn := fun _ => fun
  | [d1, d2] => { results := [.lit (.bool false)], args := [d1, d2] }
  | _ => none }
def TreeStaysWrongFalsely : Prop := treeStaysRow.holds Try.pinned (OpenSpec.ofChange treeStaysWrong)

/-- 'flintlaw10.TreeOrder': WHATEVER THE INPUT: true; the input reads as it did. -/
def treeOrderSpec : ChangeSpec := { name := "treeOrder", fn := fun _ => fun
  | [d1, d2] => { results := [.lit (.bool true)], args := [d1, d2] }
  | _ => none }
def treeOrderRow : OpenClaim := { program := "ytbdijekfplpnlaa", sum := "03be118b2fc9d795b68eef3cc1b4ea3dee49a612a4a7c0219a1395b8a92552a9", func := "flint/flintlaw10.TreeOrder", spec := "treeOrder", recurses := true, apart := false }
def TreeOrderSaid : Prop := treeOrderRow.holds Try.pinned (OpenSpec.ofChange treeOrderSpec)

/-- ITS FALSE NEIGHBOUR: 'it returns false'. Refute it at one input. -/
def treeOrderWrong : ChangeSpec := { name := "treeOrder", fn := fun _ => fun
  | [d1, d2] => { results := [.lit (.bool false)], args := [d1, d2] }
  | _ => none }
def TreeOrderWrongFalsely : Prop := treeOrderRow.holds Try.pinned (OpenSpec.ofChange treeOrderWrong)

/-- 'flintlaw10.TreePlays': WHATEVER THE INPUT: true; the input reads as it did. -/
def treePlaysSpec : ChangeSpec := { name := "treePlays", fn := fun _ => fun
  | [d1, d2, d3] => { results := [.lit (.bool true)], args := [d1, d2, d3] }
  | _ => none }
def treePlaysRow : OpenClaim := { program := "ytbdijekfplpnlaa", sum := "03be118b2fc9d795b68eef3cc1b4ea3dee49a612a4a7c0219a1395b8a92552a9", func := "flint/flintlaw10.TreePlays", spec := "treePlays", recurses := true, apart := false }
def TreePlaysSaid : Prop := treePlaysRow.holds Try.pinned (OpenSpec.ofChange treePlaysSpec)

/-- ITS FALSE NEIGHBOUR: 'it returns false'. Refute it at one input. -/
def treePlaysWrong : ChangeSpec := { name := "treePlays", fn := fun _ => fun
  | [d1, d2, d3] => { results := [.lit (.bool false)], args := [d1, d2, d3] }
  | _ => none }
def TreePlaysWrongFalsely : Prop := treePlaysRow.holds Try.pinned (OpenSpec.ofChange treePlaysWrong)

/-- 'flintlaw14.ViewFull': WHATEVER THE INPUT: true; the input reads as it did. -/
def viewFullSpec : ChangeSpec := { name := "viewFull", fn := fun _ => fun
  | [d1, d2] => { results := [.lit (.bool true)], args := [d1, d2] }
  | _ => none }
def viewFullRow : OpenClaim := { program := "ytbdijekfplpnlaa", sum := "03be118b2fc9d795b68eef3cc1b4ea3dee49a612a4a7c0219a1395b8a92552a9", func := "flint/flintlaw14.ViewFull", spec := "viewFull", recurses := true, apart := false }
def ViewFullSaid : Prop := viewFullRow.holds Try.pinned (OpenSpec.ofChange viewFullSpec)

/-- ITS FALSE NEIGHBOUR: 'it returns false'. Refute it at one input. -/
def viewFullWrong : ChangeSpec := { name := "viewFull", fn := fun _ => fun
  | [d1, d2] => { results := [.lit (.bool false)], args := [d1, d2] }
  | _ => none }
def ViewFullWrongFalsely : Prop := viewFullRow.holds Try.pinned (OpenSpec.ofChange viewFullWrong)

/-- 'flintlaw14.ViewOrder': WHATEVER THE INPUT: true; the input reads as it did. -/
def viewOrderSpec : ChangeSpec := { name := "viewOrder", fn := fun _ => fun
  | [d1, d2] => { results := [.lit (.bool true)], args := [d1, d2] }
  | _ => none }
def viewOrderRow : OpenClaim := { program := "ytbdijekfplpnlaa", sum := "03be118b2fc9d795b68eef3cc1b4ea3dee49a612a4a7c0219a1395b8a92552a9", func := "flint/flintlaw14.ViewOrder", spec := "viewOrder", recurses := true, apart := false }
def ViewOrderSaid : Prop := viewOrderRow.holds Try.pinned (OpenSpec.ofChange viewOrderSpec)

/-- ITS FALSE NEIGHBOUR: 'it returns false'. Refute it at one input. -/
def viewOrderWrong : ChangeSpec := { name := "viewOrder", fn := fun _ => fun
  | [d1, d2] => { results := [.lit (.bool false)], args := [d1, d2] }
  | _ => none }
def ViewOrderWrongFalsely : Prop := viewOrderRow.holds Try.pinned (OpenSpec.ofChange viewOrderWrong)

/-- 'flintlaw14.ViewPlays': WHATEVER THE INPUT: true; the input reads as it did. -/
def viewPlaysSpec : ChangeSpec := { name := "viewPlays", fn := fun _ => fun
  | [d1, d2] => { results := [.lit (.bool true)], args := [d1, d2] }
  | _ => none }
def viewPlaysRow : OpenClaim := { program := "ytbdijekfplpnlaa", sum := "03be118b2fc9d795b68eef3cc1b4ea3dee49a612a4a7c0219a1395b8a92552a9", func := "flint/flintlaw14.ViewPlays", spec := "viewPlays", recurses := true, apart := false }
def ViewPlaysSaid : Prop := viewPlaysRow.holds Try.pinned (OpenSpec.ofChange viewPlaysSpec)

/-- ITS FALSE NEIGHBOUR: 'it returns false'. Refute it at one input. -/
def viewPlaysWrong : ChangeSpec := { name := "viewPlays", fn := fun _ => fun
  | [d1, d2] => { results := [.lit (.bool false)], args := [d1, d2] }
  | _ => none }
def ViewPlaysWrongFalsely : Prop := viewPlaysRow.holds Try.pinned (OpenSpec.ofChange viewPlaysWrong)

/-- 'flintlaw14.ViewCopies': WHATEVER THE INPUT: true; the input reads as it did. -/
def viewCopiesSpec : ChangeSpec := { name := "viewCopies", fn := fun _ => fun
  | [d1, d2, d3] => { results := [.lit (.bool true)], args := [d1, d2, d3] }
  | _ => none }
def viewCopiesRow : OpenClaim := { program := "ytbdijekfplpnlaa", sum := "03be118b2fc9d795b68eef3cc1b4ea3dee49a612a4a7c0219a1395b8a92552a9", func := "flint/flintlaw14.ViewCopies", spec := "viewCopies", recurses := true, apart := false }
def ViewCopiesSaid : Prop := viewCopiesRow.holds Try.pinned (OpenSpec.ofChange viewCopiesSpec)

/-- ITS FALSE NEIGHBOUR: 'it returns false'. Refute it at one input. -/
def viewCopiesWrong : ChangeSpec := { name := "viewCopies", fn := fun _ => fun
  | [d1, d2, d3] => { results := [.lit (.bool false)], args := [d1, d2, d3] }
  | _ => none }
def ViewCopiesWrongFalsely : Prop := viewCopiesRow.holds Try.pinned (OpenSpec.ofChange viewCopiesWrong)

/-- 'flintlaw14.ViewNil': WHATEVER THE INPUT: true; the input reads as it did. -/
def viewNilSpec : ChangeSpec := { name := "viewNil", fn := fun _ => fun
  | [d] => { results := [.lit (.bool true)], args := [d] }
  | _ => none }
def viewNilRow : OpenClaim := { program := "ytbdijekfplpnlaa", sum := "03be118b2fc9d795b68eef3cc1b4ea3dee49a612a4a7c0219a1395b8a92552a9", func := "flint/flintlaw14.ViewNil", spec := "viewNil", recurses := true, apart := false }
def ViewNilSaid : Prop := viewNilRow.holds Try.pinned (OpenSpec.ofChange viewNilSpec)

/-- ITS FALSE NEIGHBOUR: 'it returns false'. Refute it at one input. -/
def viewNilWrong : ChangeSpec := { name := "viewNil", fn := fun _ => fun
  | [d] => { results := [.lit (.bool false)], args := [d] }
  | _ => none }
def ViewNilWrongFalsely : Prop := viewNilRow.holds Try.pinned (OpenSpec.ofChange viewNilWrong)

/-- 'flintlaw21.ClashIs': WHATEVER THE INPUT: true; the input reads as it did. -/
def clashIsSpec : ChangeSpec := { name := "clashIs", fn := fun _ => fun
  | [d1, d2, d3] => { results := [.lit (.bool true)], args := [d1, d2, d3] }
  | _ => none }
def clashIsRow : OpenClaim := { program := "ytbdijekfplpnlaa", sum := "03be118b2fc9d795b68eef3cc1b4ea3dee49a612a4a7c0219a1395b8a92552a9", func := "flint/flintlaw21.ClashIs", spec := "clashIs", unfollowed := true, recurses := true, apart := false }
def ClashIsSaid : Prop := clashIsRow.holds Try.pinned (OpenSpec.ofChange clashIsSpec)

/-- ITS FALSE NEIGHBOUR: 'it returns false'. Refute it at one input. -/
def clashIsWrong : ChangeSpec := { name := "clashIs", fn := fun _ => fun
  | [d1, d2, d3] => { results := [.lit (.bool false)], args := [d1, d2, d3] }
  | _ => none }
def ClashIsWrongFalsely : Prop := clashIsRow.holds Try.pinned (OpenSpec.ofChange clashIsWrong)

/-- 'flintlaw21.ClashMore': WHATEVER THE INPUT: true; the input reads as it did. -/
def clashMoreSpec : ChangeSpec := { name := "clashMore", fn := fun _ => fun
  | [d1, d2, d3, d4, d5] => { results := [.lit (.bool true)], args := [d1, d2, d3, d4, d5] }
  | _ => none }
def clashMoreRow : OpenClaim := { program := "ytbdijekfplpnlaa", sum := "03be118b2fc9d795b68eef3cc1b4ea3dee49a612a4a7c0219a1395b8a92552a9", func := "flint/flintlaw21.ClashMore", spec := "clashMore", unfollowed := true, recurses := true, apart := false }
def ClashMoreSaid : Prop := clashMoreRow.holds Try.pinned (OpenSpec.ofChange clashMoreSpec)

/-- ITS FALSE NEIGHBOUR: 'it returns false'. Refute it at one input. -/
def clashMoreWrong : ChangeSpec := { name := "clashMore", fn := fun _ => fun
  | [d1, d2, d3, d4, d5] => { results := [.lit (.bool false)], args := [d1, d2, d3, d4, d5] }
  | _ => none }
def ClashMoreWrongFalsely : Prop := clashMoreRow.holds Try.pinned (OpenSpec.ofChange clashMoreWrong)

/-- 'flintlaw21.ClashPlays': WHATEVER THE INPUT: true; the input reads as it did. -/
def clashPlaysSpec : ChangeSpec := { name := "clashPlays", fn := fun _ => fun
  | [d1, d2, d3] => { results := [.lit (.bool true)], args := [d1, d2, d3] }
  | _ => none }
def clashPlaysRow : OpenClaim := { program := "ytbdijekfplpnlaa", sum := "03be118b2fc9d795b68eef3cc1b4ea3dee49a612a4a7c0219a1395b8a92552a9", func := "flint/flintlaw21.ClashPlays", spec := "clashPlays", unfollowed := true, recurses := true, apart := false }
def ClashPlaysSaid : Prop := clashPlaysRow.holds Try.pinned (OpenSpec.ofChange clashPlaysSpec)

/-- ITS FALSE NEIGHBOUR: 'it returns false'. Refute it at one input. -/
def clashPlaysWrong : ChangeSpec := { name := "clashPlays", fn := fun _ => fun
  | [d1, d2, d3] => { results := [.lit (.bool false)], args := [d1, d2, d3] }
  | _ => none }
def ClashPlaysWrongFalsely : Prop := clashPlaysRow.holds Try.pinned (OpenSpec.ofChange clashPlaysWrong)

/- THE SECOND FORM. 'bulk': how many values and letters a reading holds, each counted each time it is reached (what is shared counts as often as it is met; a slice's spare places count too). A statement '..UptoSaid' is the law's where the arguments, and the package variables that the reading takes, are together of bulk at most 1048576: NARROWER than '..Said'. Prove '..Said' where nothing that the law and all that it calls make is longer than what came in: it says more and counts as full. Else prove '..UptoSaid'. A law counts once. -/
mutual
def uptoBulk {H : Type} : DataW H → Nat
  | .lit (.string bytes) => bytes.length + 1
  | .lit _ => 1
  | .nil => 1
  | .ptr d => uptoBulk d + 1
  | .slice elems spare => uptoBulkAll elems + uptoBulkAll spare + 1
  | .agg parts => uptoBulkAll parts + 1
  | .iface _ d => uptoBulk d + 1
  | .map entries => uptoBulkEntries entries + 1
  | .held _ => 1
def uptoBulkAll {H : Type} : List (DataW H) → Nat
  | [] => 0
  | d :: r => uptoBulk d + uptoBulkAll r
def uptoBulkEntries {H : Type} : List (Lit × DataW H) → Nat
  | [] => 0
  | x :: r => uptoBulkEntry x + uptoBulkEntries r
def uptoBulkEntry {H : Type} : Lit × DataW H → Nat
  | (.string bytes, d) => bytes.length + uptoBulk d + 1
  | (_, d) => uptoBulk d + 1
 end
def uptoSmall : (H : Type) → List (DataW H) → Bool := fun _ ds => decide (uptoBulkAll ds ≤ 1048576)
def OpenSpec.upto (s : _root_.Go.ChangeSpec) : _root_.Go.OpenSpec := { _root_.Go.OpenSpec.ofChange s with cond := some uptoSmall }

/-- 'flintlaw10.TreeLow', WHERE WHAT IT READS IS OF BULK AT MOST 1048576: true; the input reads as it did. -/
def treeLowUptoRow : OpenClaim := { program := "ytbdijekfplpnlaa", sum := "03be118b2fc9d795b68eef3cc1b4ea3dee49a612a4a7c0219a1395b8a92552a9", func := "flint/flintlaw10.TreeLow", spec := "treeLow", recurses := true, apart := false, narrowed := true }
def TreeLowUptoSaid : Prop := treeLowUptoRow.holds Try.pinned (OpenSpec.upto treeLowSpec)

/-- 'flintlaw10.TreeStays', WHERE WHAT IT READS IS OF BULK AT MOST 1048576: true; the input reads as it did. -/
def treeStaysUptoRow : OpenClaim := { program := "ytbdijekfplpnlaa", sum := "03be118b2fc9d795b68eef3cc1b4ea3dee49a612a4a7c0219a1395b8a92552a9", func := "flint/flintlaw10.TreeStays", spec := "treeStays", recurses := true, apart := false, narrowed := true }
def TreeStaysUptoSaid : Prop := treeStaysUptoRow.holds Try.pinned (OpenSpec.upto treeStaysSpec)

/-- 'flintlaw10.TreeOrder', WHERE WHAT IT READS IS OF BULK AT MOST 1048576: true; the input reads as it did. -/
def treeOrderUptoRow : OpenClaim := { program := "ytbdijekfplpnlaa", sum := "03be118b2fc9d795b68eef3cc1b4ea3dee49a612a4a7c0219a1395b8a92552a9", func := "flint/flintlaw10.TreeOrder", spec := "treeOrder", recurses := true, apart := false, narrowed := true }
def TreeOrderUptoSaid : Prop := treeOrderUptoRow.holds Try.pinned (OpenSpec.upto treeOrderSpec)

/-- 'flintlaw10.TreePlays', WHERE WHAT IT READS IS OF BULK AT MOST 1048576: true; the input reads as it did. -/
def treePlaysUptoRow : OpenClaim := { program := "ytbdijekfplpnlaa", sum := "03be118b2fc9d795b68eef3cc1b4ea3dee49a612a4a7c0219a1395b8a92552a9", func := "flint/flintlaw10.TreePlays", spec := "treePlays", recurses := true, apart := false, narrowed := true }
def TreePlaysUptoSaid : Prop := treePlaysUptoRow.holds Try.pinned (OpenSpec.upto treePlaysSpec)

/-- 'flintlaw14.ViewFull', WHERE WHAT IT READS IS OF BULK AT MOST 1048576: true; the input reads as it did. -/
def viewFullUptoRow : OpenClaim := { program := "ytbdijekfplpnlaa", sum := "03be118b2fc9d795b68eef3cc1b4ea3dee49a612a4a7c0219a1395b8a92552a9", func := "flint/flintlaw14.ViewFull", spec := "viewFull", recurses := true, apart := false, narrowed := true }
def ViewFullUptoSaid : Prop := viewFullUptoRow.holds Try.pinned (OpenSpec.upto viewFullSpec)

/-- 'flintlaw14.ViewOrder', WHERE WHAT IT READS IS OF BULK AT MOST 1048576: true; the input reads as it did. -/
def viewOrderUptoRow : OpenClaim := { program := "ytbdijekfplpnlaa", sum := "03be118b2fc9d795b68eef3cc1b4ea3dee49a612a4a7c0219a1395b8a92552a9", func := "flint/flintlaw14.ViewOrder", spec := "viewOrder", recurses := true, apart := false, narrowed := true }
def ViewOrderUptoSaid : Prop := viewOrderUptoRow.holds Try.pinned (OpenSpec.upto viewOrderSpec)

/-- 'flintlaw14.ViewPlays', WHERE WHAT IT READS IS OF BULK AT MOST 1048576: true; the input reads as it did. -/
def viewPlaysUptoRow : OpenClaim := { program := "ytbdijekfplpnlaa", sum := "03be118b2fc9d795b68eef3cc1b4ea3dee49a612a4a7c0219a1395b8a92552a9", func := "flint/flintlaw14.ViewPlays", spec := "viewPlays", recurses := true, apart := false, narrowed := true }
def ViewPlaysUptoSaid : Prop := viewPlaysUptoRow.holds Try.pinned (OpenSpec.upto viewPlaysSpec)

/-- 'flintlaw14.ViewCopies', WHERE WHAT IT READS IS OF BULK AT MOST 1048576: true; the input reads as it did. -/
def viewCopiesUptoRow : OpenClaim := { program := "ytbdijekfplpnlaa", sum := "03be118b2fc9d795b68eef3cc1b4ea3dee49a612a4a7c0219a1395b8a92552a9", func := "flint/flintlaw14.ViewCopies", spec := "viewCopies", recurses := true, apart := false, narrowed := true }
def ViewCopiesUptoSaid : Prop := viewCopiesUptoRow.holds Try.pinned (OpenSpec.upto viewCopiesSpec)

/-- 'flintlaw14.ViewNil', WHERE WHAT IT READS IS OF BULK AT MOST 1048576: true; the input reads as it did. -/
def viewNilUptoRow : OpenClaim := { program := "ytbdijekfplpnlaa", sum := "03be118b2fc9d795b68eef3cc1b4ea3dee49a612a4a7c0219a1395b8a92552a9", func := "flint/flintlaw14.ViewNil", spec := "viewNil", recurses := true, apart := false, narrowed := true }
def ViewNilUptoSaid : Prop := viewNilUptoRow.holds Try.pinned (OpenSpec.upto viewNilSpec)

/-- 'flintlaw21.ClashIs', WHERE WHAT IT READS IS OF BULK AT MOST 1048576: true; the input reads as it did. -/
def clashIsUptoRow : OpenClaim := { program := "ytbdijekfplpnlaa", sum := "03be118b2fc9d795b68eef3cc1b4ea3dee49a612a4a7c0219a1395b8a92552a9", func := "flint/flintlaw21.ClashIs", spec := "clashIs", unfollowed := true, recurses := true, apart := false, narrowed := true }
def ClashIsUptoSaid : Prop := clashIsUptoRow.holds Try.pinned (OpenSpec.upto clashIsSpec)

/-- 'flintlaw21.ClashMore', WHERE WHAT IT READS IS OF BULK AT MOST 1048576: true; the input reads as it did. -/
def clashMoreUptoRow : OpenClaim := { program := "ytbdijekfplpnlaa", sum := "03be118b2fc9d795b68eef3cc1b4ea3dee49a612a4a7c0219a1395b8a92552a9", func := "flint/flintlaw21.ClashMore", spec := "clashMore", unfollowed := true, recurses := true, apart := false, narrowed := true }
def ClashMoreUptoSaid : Prop := clashMoreUptoRow.holds Try.pinned (OpenSpec.upto clashMoreSpec)

/-- 'flintlaw21.ClashPlays', WHERE WHAT IT READS IS OF BULK AT MOST 1048576: true; the input reads as it did. -/
def clashPlaysUptoRow : OpenClaim := { program := "ytbdijekfplpnlaa", sum := "03be118b2fc9d795b68eef3cc1b4ea3dee49a612a4a7c0219a1395b8a92552a9", func := "flint/flintlaw21.ClashPlays", spec := "clashPlays", unfollowed := true, recurses := true, apart := false, narrowed := true }
def ClashPlaysUptoSaid : Prop := clashPlaysUptoRow.holds Try.pinned (OpenSpec.upto clashPlaysSpec)

end Rows
end Go.Proofs.Ytbdijekfplpnlaa
