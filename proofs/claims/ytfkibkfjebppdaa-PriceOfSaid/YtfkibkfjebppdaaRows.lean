/-
  No cell of these rows narrows 'for every input' (looked for: loops, veiled, ifaces, maps, wideKeys, modest, calm, conditions, laid).
  DERIVED. THE GIVEN ROWS OF THIS SEAT. 12 by the template 'for every input the law returns true; each argument reads behind the call as it read before'; 0 by the template 'total and deterministic' (their statements: YtfkibkfjebppdaaTotals.lean).
  GIVEN WITH THE SEED: the statements are not yours to turn. If you find one false, say at which input.
  Laid BY PROGRAM, IN A SANDBOX (cutbox-rows.mjs): the forced cells as the released guide's own fill.sh prints them over the translation f34306a6efab2ee1… (all of the seat's roots in one cut). By AI agents, Wed Nov 11 2026. No macro, syntax, notation, axiom, sorry.
-/
import Derived.Test.YtfkibkfjebppdaaChecked
import GoSem.Claim
import GoSem.ClaimJoined
import GoSem.ClaimMapViews
import Derived.JoinedTies
import Derived.KernelRfl
namespace Go.Proofs.Ytfkibkfjebppdaa
/- THE CELL 'sum', in the pinned program and in every row, IS THE sha256 OF THE DUMP (.gsa) THAT YtfkibkfjebppdaaProg.lean LOADS. Nothing in Lean hashes anything: it is a label: what it is worth is what the hold of that sum in a sandbox is worth. -/
noncomputable def Try.pinned : Pinned := { name := "ytfkibkfjebppdaa", sum := "f34306a6efab2ee1977a070061448f7efd97913927536a26cba2387beff3edd6", checked := Try.checked }
namespace Rows
def none {H : Type} : Left H := { results := [], args := [] }

/-- 'flintlaw15.NodeCuts': WHATEVER THE INPUT: true; the input reads as it did. -/
def nodeCutsSpec : ChangeSpec := { name := "nodeCuts", fn := fun _ => fun
  | [d1, d2] => { results := [.lit (.bool true)], args := [d1, d2] }
  | _ => none }
def nodeCutsRow : OpenClaim := { program := "ytfkibkfjebppdaa", sum := "f34306a6efab2ee1977a070061448f7efd97913927536a26cba2387beff3edd6", func := "flint/flintlaw15.NodeCuts", spec := "nodeCuts", apart := false }
def NodeCutsSaid : Prop := nodeCutsRow.holds Try.pinned (OpenSpec.ofChange nodeCutsSpec)

/-- ITS FALSE NEIGHBOUR: 'it returns false'. Refute it at one input. -/
def nodeCutsWrong : ChangeSpec := { name := "nodeCuts", fn := fun _ => fun
  | [d1, d2] => { results := [.lit (.bool false)], args := [d1, d2] }
  | _ => none }
def NodeCutsWrongFalsely : Prop := nodeCutsRow.holds Try.pinned (OpenSpec.ofChange nodeCutsWrong)

/-- 'flintlaw15.NodeBlocks': WHATEVER THE INPUT: true; the input reads as it did. -/
def nodeBlocksSpec : ChangeSpec := { name := "nodeBlocks", fn := fun _ => fun
  | [d] => { results := [.lit (.bool true)], args := [d] }
  | _ => none }
def nodeBlocksRow : OpenClaim := { program := "ytfkibkfjebppdaa", sum := "f34306a6efab2ee1977a070061448f7efd97913927536a26cba2387beff3edd6", func := "flint/flintlaw15.NodeBlocks", spec := "nodeBlocks", apart := false }
def NodeBlocksSaid : Prop := nodeBlocksRow.holds Try.pinned (OpenSpec.ofChange nodeBlocksSpec)

/-- ITS FALSE NEIGHBOUR: 'it returns false'. Refute it at one input. -/
def nodeBlocksWrong : ChangeSpec := { name := "nodeBlocks", fn := fun _ => fun
  | [d] => { results := [.lit (.bool false)], args := [d] }
  | _ => none }
def NodeBlocksWrongFalsely : Prop := nodeBlocksRow.holds Try.pinned (OpenSpec.ofChange nodeBlocksWrong)

/-- 'flintlaw15.NodeNew': WHATEVER THE INPUT: true; the input reads as it did. -/
def nodeNewSpec : ChangeSpec := { name := "nodeNew", fn := fun _ => fun
  | [d1, d2] => { results := [.lit (.bool true)], args := [d1, d2] }
  | _ => none }
def nodeNewRow : OpenClaim := { program := "ytfkibkfjebppdaa", sum := "f34306a6efab2ee1977a070061448f7efd97913927536a26cba2387beff3edd6", func := "flint/flintlaw15.NodeNew", spec := "nodeNew", apart := false }
def NodeNewSaid : Prop := nodeNewRow.holds Try.pinned (OpenSpec.ofChange nodeNewSpec)

/-- ITS FALSE NEIGHBOUR: 'it returns false'. Refute it at one input. -/
def nodeNewWrong : ChangeSpec := { name := "nodeNew", fn := fun _ => fun
  | [d1, d2] => { results := [.lit (.bool false)], args := [d1, d2] }
  | _ => none }
def NodeNewWrongFalsely : Prop := nodeNewRow.holds Try.pinned (OpenSpec.ofChange nodeNewWrong)

/-- 'flintlaw15.NodePuts': WHATEVER THE INPUT: true; the input reads as it did. -/
def nodePutsSpec : ChangeSpec := { name := "nodePuts", fn := fun _ => fun
  | [d] => { results := [.lit (.bool true)], args := [d] }
  | _ => none }
def nodePutsRow : OpenClaim := { program := "ytfkibkfjebppdaa", sum := "f34306a6efab2ee1977a070061448f7efd97913927536a26cba2387beff3edd6", func := "flint/flintlaw15.NodePuts", spec := "nodePuts", apart := false }
def NodePutsSaid : Prop := nodePutsRow.holds Try.pinned (OpenSpec.ofChange nodePutsSpec)

/-- ITS FALSE NEIGHBOUR: 'it returns false'. Refute it at one input. -/
def nodePutsWrong : ChangeSpec := { name := "nodePuts", fn := fun _ => fun
  | [d] => { results := [.lit (.bool false)], args := [d] }
  | _ => none }
def NodePutsWrongFalsely : Prop := nodePutsRow.holds Try.pinned (OpenSpec.ofChange nodePutsWrong)

/-- 'flintlaw15.NodeGets': WHATEVER THE INPUT: true; the input reads as it did. -/
def nodeGetsSpec : ChangeSpec := { name := "nodeGets", fn := fun _ => fun
  | [d] => { results := [.lit (.bool true)], args := [d] }
  | _ => none }
def nodeGetsRow : OpenClaim := { program := "ytfkibkfjebppdaa", sum := "f34306a6efab2ee1977a070061448f7efd97913927536a26cba2387beff3edd6", func := "flint/flintlaw15.NodeGets", spec := "nodeGets", apart := false }
def NodeGetsSaid : Prop := nodeGetsRow.holds Try.pinned (OpenSpec.ofChange nodeGetsSpec)

/-- ITS FALSE NEIGHBOUR: 'it returns false'. Refute it at one input. -/
def nodeGetsWrong : ChangeSpec := { name := "nodeGets", fn := fun _ => fun
  | [d] => { results := [.lit (.bool false)], args := [d] }
  | _ => none }
def NodeGetsWrongFalsely : Prop := nodeGetsRow.holds Try.pinned (OpenSpec.ofChange nodeGetsWrong)

/-- 'flintlaw03.PackGets': WHATEVER THE INPUT: true; the input reads as it did. -/
def packGetsSpec : ChangeSpec := { name := "packGets", fn := fun _ => fun
  | [d1, d2, d3, d4] => { results := [.lit (.bool true)], args := [d1, d2, d3, d4] }
  | _ => none }
def packGetsRow : OpenClaim := { program := "ytfkibkfjebppdaa", sum := "f34306a6efab2ee1977a070061448f7efd97913927536a26cba2387beff3edd6", func := "flint/flintlaw03.PackGets", spec := "packGets", apart := false }
def PackGetsSaid : Prop := packGetsRow.holds Try.pinned (OpenSpec.ofChange packGetsSpec)

/-- ITS FALSE NEIGHBOUR: 'it returns false'. Refute it at one input. -/
def packGetsWrong : ChangeSpec := { name := "packGets", fn := fun _ => fun
  | [d1, d2, d3, d4] => { results := [.lit (.bool false)], args := [d1, d2, d3, d4] }
  | _ => none }
def PackGetsWrongFalsely : Prop := packGetsRow.holds Try.pinned (OpenSpec.ofChange packGetsWrong)

/-- 'flintlaw03.PackPuts': WHATEVER THE INPUT: true; the input reads as it did. -/
def packPutsSpec : ChangeSpec := { name := "packPuts", fn := fun _ => fun
  | [d1, d2, d3, d4] => { results := [.lit (.bool true)], args := [d1, d2, d3, d4] }
  | _ => none }
def packPutsRow : OpenClaim := { program := "ytfkibkfjebppdaa", sum := "f34306a6efab2ee1977a070061448f7efd97913927536a26cba2387beff3edd6", func := "flint/flintlaw03.PackPuts", spec := "packPuts", apart := false }
def PackPutsSaid : Prop := packPutsRow.holds Try.pinned (OpenSpec.ofChange packPutsSpec)

/-- ITS FALSE NEIGHBOUR: 'it returns false'. Refute it at one input. -/
def packPutsWrong : ChangeSpec := { name := "packPuts", fn := fun _ => fun
  | [d1, d2, d3, d4] => { results := [.lit (.bool false)], args := [d1, d2, d3, d4] }
  | _ => none }
def PackPutsWrongFalsely : Prop := packPutsRow.holds Try.pinned (OpenSpec.ofChange packPutsWrong)

/-- 'flintlaw03.PackBack': WHATEVER THE INPUT: true; the input reads as it did. -/
def packBackSpec : ChangeSpec := { name := "packBack", fn := fun _ => fun
  | [d1, d2, d3, d4] => { results := [.lit (.bool true)], args := [d1, d2, d3, d4] }
  | _ => none }
def packBackRow : OpenClaim := { program := "ytfkibkfjebppdaa", sum := "f34306a6efab2ee1977a070061448f7efd97913927536a26cba2387beff3edd6", func := "flint/flintlaw03.PackBack", spec := "packBack", apart := false }
def PackBackSaid : Prop := packBackRow.holds Try.pinned (OpenSpec.ofChange packBackSpec)

/-- ITS FALSE NEIGHBOUR: 'it returns false'. Refute it at one input. -/
def packBackWrong : ChangeSpec := { name := "packBack", fn := fun _ => fun
  | [d1, d2, d3, d4] => { results := [.lit (.bool false)], args := [d1, d2, d3, d4] }
  | _ => none }
def PackBackWrongFalsely : Prop := packBackRow.holds Try.pinned (OpenSpec.ofChange packBackWrong)

/-- 'flintlaw09.KeysRanges': WHATEVER THE INPUT: true; the input reads as it did. -/
def keysRangesSpec : ChangeSpec := { name := "keysRanges", fn := fun _ => fun
  | [d1, d2, d3] => { results := [.lit (.bool true)], args := [d1, d2, d3] }
  | _ => none }
def keysRangesRow : OpenClaim := { program := "ytfkibkfjebppdaa", sum := "f34306a6efab2ee1977a070061448f7efd97913927536a26cba2387beff3edd6", func := "flint/flintlaw09.KeysRanges", spec := "keysRanges", apart := false }
def KeysRangesSaid : Prop := keysRangesRow.holds Try.pinned (OpenSpec.ofChange keysRangesSpec)

/-- ITS FALSE NEIGHBOUR: 'it returns false'. Refute it at one input. -/
def keysRangesWrong : ChangeSpec := { name := "keysRanges", fn := fun _ => fun
  | [d1, d2, d3] => { results := [.lit (.bool false)], args := [d1, d2, d3] }
  | _ => none }
def KeysRangesWrongFalsely : Prop := keysRangesRow.holds Try.pinned (OpenSpec.ofChange keysRangesWrong)

/-- 'flintlaw09.KeysMade': WHATEVER THE INPUT: true; the input reads as it did. -/
def keysMadeSpec : ChangeSpec := { name := "keysMade", fn := fun _ => fun
  | [d1, d2, d3] => { results := [.lit (.bool true)], args := [d1, d2, d3] }
  | _ => none }
def keysMadeRow : OpenClaim := { program := "ytfkibkfjebppdaa", sum := "f34306a6efab2ee1977a070061448f7efd97913927536a26cba2387beff3edd6", func := "flint/flintlaw09.KeysMade", spec := "keysMade", apart := false }
def KeysMadeSaid : Prop := keysMadeRow.holds Try.pinned (OpenSpec.ofChange keysMadeSpec)

/-- ITS FALSE NEIGHBOUR: 'it returns false'. Refute it at one input. -/
def keysMadeWrong : ChangeSpec := { name := "keysMade", fn := fun _ => fun
  | [d1, d2, d3] => { results := [.lit (.bool false)], args := [d1, d2, d3] }
  | _ => none }
def KeysMadeWrongFalsely : Prop := keysMadeRow.holds Try.pinned (OpenSpec.ofChange keysMadeWrong)

/-- 'flintlaw09.KeysSplit': WHATEVER THE INPUT: true; the input reads as it did. -/
def keysSplitSpec : ChangeSpec := { name := "keysSplit", fn := fun _ => fun
  | [d] => { results := [.lit (.bool true)], args := [d] }
  | _ => none }
def keysSplitRow : OpenClaim := { program := "ytfkibkfjebppdaa", sum := "f34306a6efab2ee1977a070061448f7efd97913927536a26cba2387beff3edd6", func := "flint/flintlaw09.KeysSplit", spec := "keysSplit", apart := false }
def KeysSplitSaid : Prop := keysSplitRow.holds Try.pinned (OpenSpec.ofChange keysSplitSpec)

/-- ITS FALSE NEIGHBOUR: 'it returns false'. Refute it at one input. -/
def keysSplitWrong : ChangeSpec := { name := "keysSplit", fn := fun _ => fun
  | [d] => { results := [.lit (.bool false)], args := [d] }
  | _ => none }
def KeysSplitWrongFalsely : Prop := keysSplitRow.holds Try.pinned (OpenSpec.ofChange keysSplitWrong)

/-- 'flintlaw23.PriceOf': WHATEVER THE INPUT: true; the input reads as it did. -/
def priceOfSpec : ChangeSpec := { name := "priceOf", fn := fun _ => fun
  | [d1, d2, d3, d4] => { results := [.lit (.bool true)], args := [d1, d2, d3, d4] }
  | _ => none }
def priceOfRow : OpenClaim := { program := "ytfkibkfjebppdaa", sum := "f34306a6efab2ee1977a070061448f7efd97913927536a26cba2387beff3edd6", func := "flint/flintlaw23.PriceOf", spec := "priceOf", apart := false }
def PriceOfSaid : Prop := priceOfRow.holds Try.pinned (OpenSpec.ofChange priceOfSpec)

/-- ITS FALSE NEIGHBOUR: 'it returns false'. Refute it at one input. -/
def priceOfWrong : ChangeSpec := { name := "priceOf", fn := fun _ => fun
  | [d1, d2, d3, d4] => { results := [.lit (.bool false)], args := [d1, d2, d3, d4] }
  | _ => none }
def PriceOfWrongFalsely : Prop := priceOfRow.holds Try.pinned (OpenSpec.ofChange priceOfWrong)

/- THE SECOND FORM. 'bulk': how many values and letters a reading holds, each counted each time it is reached (what is shared counts as often as it is met; a slice's spare places count too). A statement '..UptoSaid' is the law's where the arguments, and the package variables that the reading takes, are together of bulk at most 1048576: NARROWER than '..Said'. Prove '..Said' where nothing that the law and all that it calls make is longer than what came in: it says more and counts as full. Else prove '..UptoSaid'. A law counts once. -/
mutual
def uptoBulk {H : Type} : DataW H → Nat
  | .lit (.string bytes) => bytes.length + 1
  | .lit _ => 1
  | .nil => 1
  | .ptr d => uptoBulk d + 1
  | .slice elems spare => uptoBulkAll elems + uptoBulkAll spare + 1
  | .agg parts => uptoBulkAll parts + 1
  | .iface _ d => uptoBulk d + 1
  | .map entries => uptoBulkEntries entries + 1
  | .held _ => 1
def uptoBulkAll {H : Type} : List (DataW H) → Nat
  | [] => 0
  | d :: r => uptoBulk d + uptoBulkAll r
def uptoBulkEntries {H : Type} : List (Lit × DataW H) → Nat
  | [] => 0
  | x :: r => uptoBulkEntry x + uptoBulkEntries r
def uptoBulkEntry {H : Type} : Lit × DataW H → Nat
  | (.string bytes, d) => bytes.length + uptoBulk d + 1
  | (_, d) => uptoBulk d + 1
 end
def uptoSmall : (H : Type) → List (DataW H) → Bool := fun _ ds => decide (uptoBulkAll ds ≤ 1048576)
def OpenSpec.upto (s : _root_.Go.ChangeSpec) : _root_.Go.OpenSpec := { _root_.Go.OpenSpec.ofChange s with cond := some uptoSmall }

/-- 'flintlaw15.NodeCuts', WHERE WHAT IT READS IS OF BULK AT MOST 1048576: true; the input reads as it did. -/
def nodeCutsUptoRow : OpenClaim := { program := "ytfkibkfjebppdaa", sum := "f34306a6efab2ee1977a070061448f7efd97913927536a26cba2387beff3edd6", func := "flint/flintlaw15.NodeCuts", spec := "nodeCuts", apart := false, narrowed := true }
def NodeCutsUptoSaid : Prop := nodeCutsUptoRow.holds Try.pinned (OpenSpec.upto nodeCutsSpec)

/-- 'flintlaw15.NodeBlocks', WHERE WHAT IT READS IS OF BULK AT MOST 1048576: true; the input reads as it did. -/
def nodeBlocksUptoRow : OpenClaim := { program := "ytfkibkfjebppdaa", sum := "f34306a6efab2ee1977a070061448f7efd97913927536a26cba2387beff3edd6", func := "flint/flintlaw15.NodeBlocks", spec := "nodeBlocks", apart := false, narrowed := true }
def NodeBlocksUptoSaid : Prop := nodeBlocksUptoRow.holds Try.pinned (OpenSpec.upto nodeBlocksSpec)

/-- 'flintlaw15.NodeNew', WHERE WHAT IT READS IS OF BULK AT MOST 1048576: true; the input reads as it did. -/
def nodeNewUptoRow : OpenClaim := { program := "ytfkibkfjebppdaa", sum := "f34306a6efab2ee1977a070061448f7efd97913927536a26cba2387beff3edd6", func := "flint/flintlaw15.NodeNew", spec := "nodeNew", apart := false, narrowed := true }
def NodeNewUptoSaid : Prop := nodeNewUptoRow.holds Try.pinned (OpenSpec.upto nodeNewSpec)

/-- 'flintlaw15.NodePuts', WHERE WHAT IT READS IS OF BULK AT MOST 1048576: true; the input reads as it did. -/
def nodePutsUptoRow : OpenClaim := { program := "ytfkibkfjebppdaa", sum := "f34306a6efab2ee1977a070061448f7efd97913927536a26cba2387beff3edd6", func := "flint/flintlaw15.NodePuts", spec := "nodePuts", apart := false, narrowed := true }
def NodePutsUptoSaid : Prop := nodePutsUptoRow.holds Try.pinned (OpenSpec.upto nodePutsSpec)

/-- 'flintlaw15.NodeGets', WHERE WHAT IT READS IS OF BULK AT MOST 1048576: true; the input reads as it did. -/
def nodeGetsUptoRow : OpenClaim := { program := "ytfkibkfjebppdaa", sum := "f34306a6efab2ee1977a070061448f7efd97913927536a26cba2387beff3edd6", func := "flint/flintlaw15.NodeGets", spec := "nodeGets", apart := false, narrowed := true }
def NodeGetsUptoSaid : Prop := nodeGetsUptoRow.holds Try.pinned (OpenSpec.upto nodeGetsSpec)

/-- 'flintlaw03.PackGets', WHERE WHAT IT READS IS OF BULK AT MOST 1048576: true; the input reads as it did. -/
def packGetsUptoRow : OpenClaim := { program := "ytfkibkfjebppdaa", sum := "f34306a6efab2ee1977a070061448f7efd97913927536a26cba2387beff3edd6", func := "flint/flintlaw03.PackGets", spec := "packGets", apart := false, narrowed := true }
def PackGetsUptoSaid : Prop := packGetsUptoRow.holds Try.pinned (OpenSpec.upto packGetsSpec)

/-- 'flintlaw03.PackPuts', WHERE WHAT IT READS IS OF BULK AT MOST 1048576: true; the input reads as it did. -/
def packPutsUptoRow : OpenClaim := { program := "ytfkibkfjebppdaa", sum := "f34306a6efab2ee1977a070061448f7efd97913927536a26cba2387beff3edd6", func := "flint/flintlaw03.PackPuts", spec := "packPuts", apart := false, narrowed := true }
def PackPutsUptoSaid : Prop := packPutsUptoRow.holds Try.pinned (OpenSpec.upto packPutsSpec)

/-- 'flintlaw03.PackBack', WHERE WHAT IT READS IS OF BULK AT MOST 1048576: true; the input reads as it did. -/
def packBackUptoRow : OpenClaim := { program := "ytfkibkfjebppdaa", sum := "f34306a6efab2ee1977a070061448f7efd97913927536a26cba2387beff3edd6", func := "flint/flintlaw03.PackBack", spec := "packBack", apart := false, narrowed := true }
def PackBackUptoSaid : Prop := packBackUptoRow.holds Try.pinned (OpenSpec.upto packBackSpec)

/-- 'flintlaw09.KeysRanges', WHERE WHAT IT READS IS OF BULK AT MOST 1048576: true; the input reads as it did. -/
def keysRangesUptoRow : OpenClaim := { program := "ytfkibkfjebppdaa", sum := "f34306a6efab2ee1977a070061448f7efd97913927536a26cba2387beff3edd6", func := "flint/flintlaw09.KeysRanges", spec := "keysRanges", apart := false, narrowed := true }
def KeysRangesUptoSaid : Prop := keysRangesUptoRow.holds Try.pinned (OpenSpec.upto keysRangesSpec)

/-- 'flintlaw09.KeysMade', WHERE WHAT IT READS IS OF BULK AT MOST 1048576: true; the input reads as it did. -/
def keysMadeUptoRow : OpenClaim := { program := "ytfkibkfjebppdaa", sum := "f34306a6efab2ee1977a070061448f7efd97913927536a26cba2387beff3edd6", func := "flint/flintlaw09.KeysMade", spec := "keysMade", apart := false, narrowed := true }
def KeysMadeUptoSaid : Prop := keysMadeUptoRow.holds Try.pinned (OpenSpec.upto keysMadeSpec)

/-- 'flintlaw09.KeysSplit', WHERE WHAT IT READS IS OF BULK AT MOST 1048576: true; the input reads as it did. -/
def keysSplitUptoRow : OpenClaim := { program := "ytfkibkfjebppdaa", sum := "f34306a6efab2ee1977a070061448f7efd97913927536a26cba2387beff3edd6", func := "flint/flintlaw09.KeysSplit", spec := "keysSplit", apart := false, narrowed := true }
def KeysSplitUptoSaid : Prop := keysSplitUptoRow.holds Try.pinned (OpenSpec.upto keysSplitSpec)

/-- 'flintlaw23.PriceOf', WHERE WHAT IT READS IS OF BULK AT MOST 1048576: true; the input reads as it did. -/
def priceOfUptoRow : OpenClaim := { program := "ytfkibkfjebppdaa", sum := "f34306a6efab2ee1977a070061448f7efd97913927536a26cba2387beff3edd6", func := "flint/flintlaw23.PriceOf", spec := "priceOf", apart := false, narrowed := true }
def PriceOfUptoSaid : Prop := priceOfUptoRow.holds Try.pinned (OpenSpec.upto priceOfSpec)

end Rows
end Go.Proofs.Ytfkibkfjebppdaa
