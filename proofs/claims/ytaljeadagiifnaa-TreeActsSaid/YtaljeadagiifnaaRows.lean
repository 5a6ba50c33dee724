/-
  No cell of these rows narrows 'for every input' (looked for: loops, veiled, ifaces, maps, wideKeys, modest, calm, conditions, laid).
  DERIVED. THE GIVEN ROWS OF THIS SEAT. 6 by the template 'for every input the law returns true; each argument reads behind the call as it read before'; 0 by the template 'total and deterministic' (their statements: YtaljeadagiifnaaTotals.lean).
  GIVEN WITH THE SEED: the statements are not yours to turn. If you find one false, say at which input.
  Laid BY PROGRAM, IN A SANDBOX (cutbox-rows.mjs): the forced cells as the released guide's own fill.sh prints them over the translation aadbdf2cdac43711… (all of the seat's roots in one cut). By AI agents, Wed Nov 11 2026. No macro, syntax, notation, axiom, sorry.
-/
import Derived.Test.YtaljeadagiifnaaChecked
import GoSem.Claim
import GoSem.ClaimJoined
import GoSem.ClaimMapViews
import Derived.JoinedTies
import Derived.KernelRfl
namespace Go.Proofs.Ytaljeadagiifnaa
/- THE CELL 'sum', in the pinned program and in every row, IS THE sha256 OF THE DUMP (.gsa) THAT YtaljeadagiifnaaProg.lean LOADS. Nothing in Lean hashes anything: it is a label: what it is worth is what the hold of that sum in a sandbox is worth. -/
noncomputable def Try.pinned : Pinned := { name := "ytaljeadagiifnaa", sum := "aadbdf2cdac437119aa1c0fb07362212ec84eda6d7f90fb417caddb9c1025c1e", checked := Try.checked }
namespace Rows
def none {H : Type} : Left H := { results := [], args := [] }

/-- 'turnrowlaw10.TreeMerges': WHATEVER THE INPUT: true; the input reads as it did. -/
def treeMergesSpec : ChangeSpec := { name := "treeMerges", fn := fun _ => fun
  | [d1, d2] => { results := [.lit (.bool true)], args := [d1, d2] }
  | _ => none }
def treeMergesRow : OpenClaim := { program := "ytaljeadagiifnaa", sum := "aadbdf2cdac437119aa1c0fb07362212ec84eda6d7f90fb417caddb9c1025c1e", func := "turnrow/turnrowlaw10.TreeMerges", spec := "treeMerges", unfollowed := true, recurses := true, apart := false }
def TreeMergesSaid : Prop := treeMergesRow.holds Try.pinned (OpenSpec.ofChange treeMergesSpec)

/-- ITS FALSE NEIGHBOUR: 'it returns false'. Refute it at one input. -/
def treeMergesWrong : ChangeSpec := { name := "treeMerges", fn := fun _ => fun
  | [d1, d2] => { results := [.lit (.bool false)], args := [d1, d2] }
  | _ => none }
def TreeMergesWrongFalsely : Prop := treeMergesRow.holds Try.pinned (OpenSpec.ofChange treeMergesWrong)

/-- 'turnrowlaw10.TreeWays': WHATEVER THE INPUT: true; the input reads as it did. -/
def treeWaysSpec : ChangeSpec := { name := "treeWays", fn := fun _ => fun
  | [d1, d2] => { results := [.lit (.bool true)], args := [d1, d2] }
  | _ => none }
def treeWaysRow : OpenClaim := { program := "ytaljeadagiifnaa", sum := "aadbdf2cdac437119aa1c0fb07362212ec84eda6d7f90fb417caddb9c1025c1e", func := "turnrow/turnrowlaw10.TreeWays", spec := "treeWays", unfollowed := true, recurses := true, apart := false }
def TreeWaysSaid : Prop := treeWaysRow.holds Try.pinned (OpenSpec.ofChange treeWaysSpec)

/-- ITS FALSE NEIGHBOUR: 'it returns false'. Refute it at one input. -/
def treeWaysWrong : ChangeSpec := { name := "treeWays", fn := fun _ => fun
  | [d1, d2] => { results := [.lit (.bool false)], args := [d1, d2] }
  | _ => none }
def TreeWaysWrongFalsely : Prop := treeWaysRow.holds Try.pinned (OpenSpec.ofChange treeWaysWrong)

/-- 'turnrowlaw10.TreeActs': WHATEVER THE INPUT: true; the input reads as it did. -/
def treeActsSpec : ChangeSpec := { name := "treeActs", fn := fun _ => fun
  | [d1, d2] => { results := [.lit (.bool true)], args := [d1, d2] }
  | _ => none }
def treeActsRow : OpenClaim := { program := "ytaljeadagiifnaa", sum := "aadbdf2cdac437119aa1c0fb07362212ec84eda6d7f90fb417caddb9c1025c1e", func := "turnrow/turnrowlaw10.TreeActs", spec := "treeActs", unfollowed := true, recurses := true, apart := false }
def TreeActsSaid : Prop := treeActsRow.holds Try.pinned (OpenSpec.ofChange treeActsSpec)

/-- ITS FALSE NEIGHBOUR: 'it returns false'. Refute it at one input. -/
def treeActsWrong : ChangeSpec := { name := "treeActs", fn := fun _ => fun
  | [d1, d2] => { results := [.lit (.bool false)], args := [d1, d2] }
  | _ => none }
def TreeActsWrongFalsely : Prop := treeActsRow.holds Try.pinned (OpenSpec.ofChange treeActsWrong)

/-- 'turnrowlaw10.TreeShape': WHATEVER THE INPUT: true; the input reads as it did. -/
def treeShapeSpec : ChangeSpec := { name := "treeShape", fn := fun _ => fun
  | [d] => { results := [.lit (.bool true)], args := [d] }
  | _ => none }
def treeShapeRow : OpenClaim := { program := "ytaljeadagiifnaa", sum := "aadbdf2cdac437119aa1c0fb07362212ec84eda6d7f90fb417caddb9c1025c1e", func := "turnrow/turnrowlaw10.TreeShape", spec := "treeShape", unfollowed := true, recurses := true, apart := false }
def TreeShapeSaid : Prop := treeShapeRow.holds Try.pinned (OpenSpec.ofChange treeShapeSpec)

/-- ITS FALSE NEIGHBOUR: 'it returns false'. Refute it at one input. -/
def treeShapeWrong : ChangeSpec := { name := "treeShape", fn := fun _ => fun
  | [d] => { results := [.lit (.bool false)], args := [d] }
  | _ => none }
def TreeShapeWrongFalsely : Prop := treeShapeRow.holds Try.pinned (OpenSpec.ofChange treeShapeWrong)

/-- 'turnrowlaw10.TreeFrees': WHATEVER THE INPUT: true; the input reads as it did. -/
def treeFreesSpec : ChangeSpec := { name := "treeFrees", fn := fun _ => fun
  | [d1, d2] => { results := [.lit (.bool true)], args := [d1, d2] }
  | _ => none }
def treeFreesRow : OpenClaim := { program := "ytaljeadagiifnaa", sum := "aadbdf2cdac437119aa1c0fb07362212ec84eda6d7f90fb417caddb9c1025c1e", func := "turnrow/turnrowlaw10.TreeFrees", spec := "treeFrees", unfollowed := true, recurses := true, apart := false }
def TreeFreesSaid : Prop := treeFreesRow.holds Try.pinned (OpenSpec.ofChange treeFreesSpec)

/-- ITS FALSE NEIGHBOUR: 'it returns false'. Refute it at one input. -/
def treeFreesWrong : ChangeSpec := { name := "treeFrees", fn := fun _ => fun
  | [d1, d2] => { results := [.lit (.bool false)], args := [d1, d2] }
  | _ => none }
def TreeFreesWrongFalsely : Prop := treeFreesRow.holds Try.pinned (OpenSpec.ofChange treeFreesWrong)

/-- 'turnrowlaw10.TreeNumbers': WHATEVER THE INPUT: true; the input reads as it did. -/
def treeNumbersSpec : ChangeSpec := { name := "treeNumbers", fn := fun _ => fun
  | [d] => { results := [.lit (.bool true)], args := [d] }
  | _ => none }
def treeNumbersRow : OpenClaim := { program := "ytaljeadagiifnaa", sum := "aadbdf2cdac437119aa1c0fb07362212ec84eda6d7f90fb417caddb9c1025c1e", func := "turnrow/turnrowlaw10.TreeNumbers", spec := "treeNumbers", unfollowed := true, recurses := true, apart := false }
def TreeNumbersSaid : Prop := treeNumbersRow.holds Try.pinned (OpenSpec.ofChange treeNumbersSpec)

/-- ITS FALSE NEIGHBOUR: 'it returns false'. Refute it at one input. -/
def treeNumbersWrong : ChangeSpec := { name := "treeNumbers", fn := fun _ => fun
  | [d] => { results := [.lit (.bool false)], args := [d] }
  | _ => none }
def TreeNumbersWrongFalsely : Prop := treeNumbersRow.holds Try.pinned (OpenSpec.ofChange treeNumbersWrong)

/- THE SECOND FORM. 'bulk': how many values and letters a reading holds, each counted each time it is reached (what is shared counts as often as it is met; a slice's spare places count too). A statement '..UptoSaid' is the law's where the arguments, and the package variables that the reading takes, are together of bulk at most 1048576: NARROWER than '..Said'. Prove '..Said' where nothing that the law and all that it calls make is longer than what came in: it says more and counts as full. Else prove '..UptoSaid'. A law counts once. -/
mutual
def uptoBulk {H : Type} : DataW H → Nat
  | .lit (.string bytes) => bytes.length + 1
  | .lit _ => 1
  | .nil => 1
  | .ptr d => uptoBulk d + 1
  | .slice elems spare => uptoBulkAll elems + uptoBulkAll spare + 1
  | .agg parts => uptoBulkAll parts + 1
  | .iface _ d => uptoBulk d + 1
  | .map entries => uptoBulkEntries entries + 1
  | .held _ => 1
def uptoBulkAll {H : Type} : List (DataW H) → Nat
  | [] => 0
  | d :: r => uptoBulk d + uptoBulkAll r
def uptoBulkEntries {H : Type} : List (Lit × DataW H) → Nat
  | [] => 0
  | x :: r => uptoBulkEntry x + uptoBulkEntries r
def uptoBulkEntry {H : Type} : Lit × DataW H → Nat
  | (.string bytes, d) => bytes.length + uptoBulk d + 1
  | (_, d) => uptoBulk d + 1
 end
def uptoSmall : (H : Type) → List (DataW H) → Bool := fun _ ds => decide (uptoBulkAll ds ≤ 1048576)
def OpenSpec.upto (s : _root_.Go.ChangeSpec) : _root_.Go.OpenSpec := { _root_.Go.OpenSpec.ofChange s with cond := some uptoSmall }

/-- 'turnrowlaw10.TreeMerges', WHERE WHAT IT READS IS OF BULK AT MOST 1048576: true; the input reads as it did. -/
def treeMergesUptoRow : OpenClaim := { program := "ytaljeadagiifnaa", sum := "aadbdf2cdac437119aa1c0fb07362212ec84eda6d7f90fb417caddb9c1025c1e", func := "turnrow/turnrowlaw10.TreeMerges", spec := "treeMerges", unfollowed := true, recurses := true, apart := false, narrowed := true }
def TreeMergesUptoSaid : Prop := treeMergesUptoRow.holds Try.pinned (OpenSpec.upto treeMergesSpec)

/-- 'turnrowlaw10.TreeWays', WHERE WHAT IT READS IS OF BULK AT MOST 1048576: true; the input reads as it did. -/
def treeWaysUptoRow : OpenClaim := { program := "ytaljeadagiifnaa", sum := "aadbdf2cdac437119aa1c0fb07362212ec84eda6d7f90fb417caddb9c1025c1e", func := "turnrow/turnrowlaw10.TreeWays", spec := "treeWays", unfollowed := true, recurses := true, apart := false, narrowed := true }
def TreeWaysUptoSaid : Prop := treeWaysUptoRow.holds Try.pinned (OpenSpec.upto treeWaysSpec)

/-- 'turnrowlaw10.TreeActs', WHERE WHAT IT READS IS OF BULK AT MOST 1048576: true; the input reads as it did. -/
def treeActsUptoRow : OpenClaim := { program := "ytaljeadagiifnaa", sum := "aadbdf2cdac437119aa1c0fb07362212ec84eda6d7f90fb417caddb9c1025c1e", func := "turnrow/turnrowlaw10.TreeActs", spec := "treeActs", unfollowed := true, recurses := true, apart := false, narrowed := true }
def TreeActsUptoSaid : Prop := treeActsUptoRow.holds Try.pinned (OpenSpec.upto treeActsSpec)

/-- 'turnrowlaw10.TreeShape', WHERE WHAT IT READS IS OF BULK AT MOST 1048576: true; the input reads as it did. -/
def treeShapeUptoRow : OpenClaim := { program := "ytaljeadagiifnaa", sum := "aadbdf2cdac437119aa1c0fb07362212ec84eda6d7f90fb417caddb9c1025c1e", func := "turnrow/turnrowlaw10.TreeShape", spec := "treeShape", unfollowed := true, recurses := true, apart := false, narrowed := true }
def TreeShapeUptoSaid : Prop := treeShapeUptoRow.holds Try.pinned (OpenSpec.upto treeShapeSpec)

/-- 'turnrowlaw10.TreeFrees', WHERE WHAT IT READS IS OF BULK AT MOST 1048576: true; the input reads as it did. -/
def treeFreesUptoRow : OpenClaim := { program := "ytaljeadagiifnaa", sum := "aadbdf2cdac437119aa1c0fb07362212ec84eda6d7f90fb417caddb9c1025c1e", func := "turnrow/turnrowlaw10.TreeFrees", spec := "treeFrees", unfollowed := true, recurses := true, apart := false, narrowed := true }
def TreeFreesUptoSaid : Prop := treeFreesUptoRow.holds Try.pinned (OpenSpec.upto treeFreesSpec)

/-- 'turnrowlaw10.TreeNumbers', WHERE WHAT IT READS IS OF BULK AT MOST 1048576: true; the input reads as it did. -/
def treeNumbersUptoRow : OpenClaim := { program := "ytaljeadagiifnaa", sum := "aadbdf2cdac437119aa1c0fb07362212ec84eda6d7f90fb417caddb9c1025c1e", func := "turnrow/turnrowlaw10.TreeNumbers", spec := "treeNumbers", unfollowed := true, recurses := true, apart := false, narrowed := true }
def TreeNumbersUptoSaid : Prop := treeNumbersUptoRow.holds Try.pinned (OpenSpec.upto treeNumbersSpec)

end Rows
end Go.Proofs.Ytaljeadagiifnaa
