/-
  No cell of these rows narrows 'for every input' (looked for: loops, veiled, ifaces, maps, wideKeys, modest, calm, conditions, laid).
  DERIVED. THE GIVEN ROWS OF THIS SEAT. 11 by the template 'for every input the law returns true; each argument reads behind the call as it read before'; 0 by the template 'total and deterministic' (their statements: YtcfapidalngebaaTotals.lean).
  GIVEN WITH THE SEED: the statements are not yours to turn. If you find one false, say at which input.
  Laid BY PROGRAM, IN A SANDBOX (cutbox-rows.mjs): the forced cells as the released guide's own fill.sh prints them over the translation 59548ab80eff9ef2… (all of the seat's roots in one cut). By AI agents, Wed Nov 11 2026. No macro, syntax, notation, axiom, sorry.
-/
import Derived.Test.YtcfapidalngebaaChecked
import GoSem.Claim
import GoSem.ClaimJoined
import GoSem.ClaimMapViews
import Derived.JoinedTies
import Derived.KernelRfl
namespace Go.Proofs.Ytcfapidalngebaa
/- THE CELL 'sum', in the pinned program and in every row, IS THE sha256 OF THE DUMP (.gsa) THAT YtcfapidalngebaaProg.lean LOADS. Nothing in Lean hashes anything: it is a label: what it is worth is what the hold of that sum in a sandbox is worth. -/
noncomputable def Try.pinned : Pinned := { name := "ytcfapidalngebaa", sum := "59548ab80eff9ef2cb2b1a992f2f2c6dd25ab587b754d77646a9aa3e8099c7da", checked := Try.checked }
namespace Rows
def none {H : Type} : Left H := { results := [], args := [] }

/-- 'turnrowlaw13.GraphCloses': WHATEVER THE INPUT: true; the input reads as it did. -/
def graphClosesSpec : ChangeSpec := { name := "graphCloses", fn := fun _ => fun
  | [d1, d2] => { results := [.lit (.bool true)], args := [d1, d2] }
  | _ => none }
def graphClosesRow : OpenClaim := { program := "ytcfapidalngebaa", sum := "59548ab80eff9ef2cb2b1a992f2f2c6dd25ab587b754d77646a9aa3e8099c7da", func := "turnrow/turnrowlaw13.GraphCloses", spec := "graphCloses", apart := false }
def GraphClosesSaid : Prop := graphClosesRow.holds Try.pinned (OpenSpec.ofChange graphClosesSpec)

/-- ITS FALSE NEIGHBOUR: 'it returns false'. Refute it at one input. -/
def graphClosesWrong : ChangeSpec := { name := "graphCloses", fn := fun _ => fun
  | [d1, d2] => { results := [.lit (.bool false)], args := [d1, d2] }
  | _ => none }
def GraphClosesWrongFalsely : Prop := graphClosesRow.holds Try.pinned (OpenSpec.ofChange graphClosesWrong)

/-- 'turnrowlaw13.GraphLoose': WHATEVER THE INPUT: true; the input reads as it did. -/
def graphLooseSpec : ChangeSpec := { name := "graphLoose", fn := fun _ => fun
  | [d1, d2, d3] => { results := [.lit (.bool true)], args := [d1, d2, d3] }
  | _ => none }
def graphLooseRow : OpenClaim := { program := "ytcfapidalngebaa", sum := "59548ab80eff9ef2cb2b1a992f2f2c6dd25ab587b754d77646a9aa3e8099c7da", func := "turnrow/turnrowlaw13.GraphLoose", spec := "graphLoose", apart := false }
def GraphLooseSaid : Prop := graphLooseRow.holds Try.pinned (OpenSpec.ofChange graphLooseSpec)

/-- ITS FALSE NEIGHBOUR: 'it returns false'. Refute it at one input. -/
def graphLooseWrong : ChangeSpec := { name := "graphLoose", fn := fun _ => fun
  | [d1, d2, d3] => { results := [.lit (.bool false)], args := [d1, d2, d3] }
  | _ => none }
def GraphLooseWrongFalsely : Prop := graphLooseRow.holds Try.pinned (OpenSpec.ofChange graphLooseWrong)

/-- 'turnrowlaw14.GrayWalks': WHATEVER THE INPUT: true; the input reads as it did. -/
def grayWalksSpec : ChangeSpec := { name := "grayWalks", fn := fun _ => fun
  | [d1, d2] => { results := [.lit (.bool true)], args := [d1, d2] }
  | _ => none }
def grayWalksRow : OpenClaim := { program := "ytcfapidalngebaa", sum := "59548ab80eff9ef2cb2b1a992f2f2c6dd25ab587b754d77646a9aa3e8099c7da", func := "turnrow/turnrowlaw14.GrayWalks", spec := "grayWalks", apart := false }
def GrayWalksSaid : Prop := grayWalksRow.holds Try.pinned (OpenSpec.ofChange grayWalksSpec)

/-- ITS FALSE NEIGHBOUR: 'it returns false'. Refute it at one input. -/
def grayWalksWrong : ChangeSpec := { name := "grayWalks", fn := fun _ => fun
  | [d1, d2] => { results := [.lit (.bool false)], args := [d1, d2] }
  | _ => none }
def GrayWalksWrongFalsely : Prop := grayWalksRow.holds Try.pinned (OpenSpec.ofChange grayWalksWrong)

/-- 'turnrowlaw14.GrayAgain': WHATEVER THE INPUT: true; the input reads as it did. -/
def grayAgainSpec : ChangeSpec := { name := "grayAgain", fn := fun _ => fun
  | [d1, d2] => { results := [.lit (.bool true)], args := [d1, d2] }
  | _ => none }
def grayAgainRow : OpenClaim := { program := "ytcfapidalngebaa", sum := "59548ab80eff9ef2cb2b1a992f2f2c6dd25ab587b754d77646a9aa3e8099c7da", func := "turnrow/turnrowlaw14.GrayAgain", spec := "grayAgain", apart := false }
def GrayAgainSaid : Prop := grayAgainRow.holds Try.pinned (OpenSpec.ofChange grayAgainSpec)

/-- ITS FALSE NEIGHBOUR: 'it returns false'. Refute it at one input. -/
def grayAgainWrong : ChangeSpec := { name := "grayAgain", fn := fun _ => fun
  | [d1, d2] => { results := [.lit (.bool false)], args := [d1, d2] }
  | _ => none }
def GrayAgainWrongFalsely : Prop := grayAgainRow.holds Try.pinned (OpenSpec.ofChange grayAgainWrong)

/-- 'turnrowlaw13.GraphGrows': WHATEVER THE INPUT: true; the input reads as it did. -/
def graphGrowsSpec : ChangeSpec := { name := "graphGrows", fn := fun _ => fun
  | [d1, d2, d3] => { results := [.lit (.bool true)], args := [d1, d2, d3] }
  | _ => none }
def graphGrowsRow : OpenClaim := { program := "ytcfapidalngebaa", sum := "59548ab80eff9ef2cb2b1a992f2f2c6dd25ab587b754d77646a9aa3e8099c7da", func := "turnrow/turnrowlaw13.GraphGrows", spec := "graphGrows", recurses := true, apart := false }
def GraphGrowsSaid : Prop := graphGrowsRow.holds Try.pinned (OpenSpec.ofChange graphGrowsSpec)

/-- ITS FALSE NEIGHBOUR: 'it returns false'. Refute it at one input. -/
def graphGrowsWrong : ChangeSpec := { name := "graphGrows", fn := fun _ => fun
  | [d1, d2, d3] => { results := [.lit (.bool false)], args := [d1, d2, d3] }
  | _ => none }
def GraphGrowsWrongFalsely : Prop := graphGrowsRow.holds Try.pinned (OpenSpec.ofChange graphGrowsWrong)

/-- 'turnrowlaw14.GrayActs': WHATEVER THE INPUT: true; the input reads as it did. -/
def grayActsSpec : ChangeSpec := { name := "grayActs", fn := fun _ => fun
  | [d1, d2] => { results := [.lit (.bool true)], args := [d1, d2] }
  | _ => none }
def grayActsRow : OpenClaim := { program := "ytcfapidalngebaa", sum := "59548ab80eff9ef2cb2b1a992f2f2c6dd25ab587b754d77646a9aa3e8099c7da", func := "turnrow/turnrowlaw14.GrayActs", spec := "grayActs", recurses := true, apart := false }
def GrayActsSaid : Prop := grayActsRow.holds Try.pinned (OpenSpec.ofChange grayActsSpec)

/-- ITS FALSE NEIGHBOUR: 'it returns false'. Refute it at one input. -/
def grayActsWrong : ChangeSpec := { name := "grayActs", fn := fun _ => fun
  | [d1, d2] => { results := [.lit (.bool false)], args := [d1, d2] }
  | _ => none }
def GrayActsWrongFalsely : Prop := grayActsRow.holds Try.pinned (OpenSpec.ofChange grayActsWrong)

/-- 'turnrowlaw14.GrayOnce': WHATEVER THE INPUT: true; the input reads as it did. -/
def grayOnceSpec : ChangeSpec := { name := "grayOnce", fn := fun _ => fun
  | [d1, d2] => { results := [.lit (.bool true)], args := [d1, d2] }
  | _ => none }
def grayOnceRow : OpenClaim := { program := "ytcfapidalngebaa", sum := "59548ab80eff9ef2cb2b1a992f2f2c6dd25ab587b754d77646a9aa3e8099c7da", func := "turnrow/turnrowlaw14.GrayOnce", spec := "grayOnce", recurses := true, apart := false }
def GrayOnceSaid : Prop := grayOnceRow.holds Try.pinned (OpenSpec.ofChange grayOnceSpec)

/-- ITS FALSE NEIGHBOUR: 'it returns false'. Refute it at one input. -/
def grayOnceWrong : ChangeSpec := { name := "grayOnce", fn := fun _ => fun
  | [d1, d2] => { results := [.lit (.bool false)], args := [d1, d2] }
  | _ => none }
def GrayOnceWrongFalsely : Prop := grayOnceRow.holds Try.pinned (OpenSpec.ofChange grayOnceWrong)

/-- 'turnrowlaw14.GrayPaints': WHATEVER THE INPUT: true; the input reads as it did. -/
def grayPaintsSpec : ChangeSpec := { name := "grayPaints", fn := fun _ => fun
  | [d1, d2] => { results := [.lit (.bool true)], args := [d1, d2] }
  | _ => none }
def grayPaintsRow : OpenClaim := { program := "ytcfapidalngebaa", sum := "59548ab80eff9ef2cb2b1a992f2f2c6dd25ab587b754d77646a9aa3e8099c7da", func := "turnrow/turnrowlaw14.GrayPaints", spec := "grayPaints", recurses := true, apart := false }
def GrayPaintsSaid : Prop := grayPaintsRow.holds Try.pinned (OpenSpec.ofChange grayPaintsSpec)

/-- ITS FALSE NEIGHBOUR: 'it returns false'. Refute it at one input. -/
def grayPaintsWrong : ChangeSpec := { name := "grayPaints", fn := fun _ => fun
  | [d1, d2] => { results := [.lit (.bool false)], args := [d1, d2] }
  | _ => none }
def GrayPaintsWrongFalsely : Prop := grayPaintsRow.holds Try.pinned (OpenSpec.ofChange grayPaintsWrong)

/-- 'turnrowlaw13.GraphActs': WHATEVER THE INPUT: true; the input reads as it did. -/
def graphActsSpec : ChangeSpec := { name := "graphActs", fn := fun _ => fun
  | [d1, d2, d3] => { results := [.lit (.bool true)], args := [d1, d2, d3] }
  | _ => none }
def graphActsRow : OpenClaim := { program := "ytcfapidalngebaa", sum := "59548ab80eff9ef2cb2b1a992f2f2c6dd25ab587b754d77646a9aa3e8099c7da", func := "turnrow/turnrowlaw13.GraphActs", spec := "graphActs", recurses := true, apart := false }
def GraphActsSaid : Prop := graphActsRow.holds Try.pinned (OpenSpec.ofChange graphActsSpec)

/-- ITS FALSE NEIGHBOUR: 'it returns false'. Refute it at one input. -/
def graphActsWrong : ChangeSpec := { name := "graphActs", fn := fun _ => fun
  | [d1, d2, d3] => { results := [.lit (.bool false)], args := [d1, d2, d3] }
  | _ => none }
def GraphActsWrongFalsely : Prop := graphActsRow.holds Try.pinned (OpenSpec.ofChange graphActsWrong)

/-- 'turnrowlaw13.GraphJoins': WHATEVER THE INPUT: true; the input reads as it did. -/
def graphJoinsSpec : ChangeSpec := { name := "graphJoins", fn := fun _ => fun
  | [d1, d2, d3] => { results := [.lit (.bool true)], args := [d1, d2, d3] }
  | _ => none }
def graphJoinsRow : OpenClaim := { program := "ytcfapidalngebaa", sum := "59548ab80eff9ef2cb2b1a992f2f2c6dd25ab587b754d77646a9aa3e8099c7da", func := "turnrow/turnrowlaw13.GraphJoins", spec := "graphJoins", recurses := true, apart := false }
def GraphJoinsSaid : Prop := graphJoinsRow.holds Try.pinned (OpenSpec.ofChange graphJoinsSpec)

/-- ITS FALSE NEIGHBOUR: 'it returns false'. Refute it at one input. -/
def graphJoinsWrong : ChangeSpec := { name := "graphJoins", fn := fun _ => fun
  | [d1, d2, d3] => { results := [.lit (.bool false)], args := [d1, d2, d3] }
  | _ => none }
def GraphJoinsWrongFalsely : Prop := graphJoinsRow.holds Try.pinned (OpenSpec.ofChange graphJoinsWrong)

/-- 'turnrowlaw13.GraphParts': WHATEVER THE INPUT: true; the input reads as it did. -/
def graphPartsSpec : ChangeSpec := { name := "graphParts", fn := fun _ => fun
  | [d1, d2, d3] => { results := [.lit (.bool true)], args := [d1, d2, d3] }
  | _ => none }
def graphPartsRow : OpenClaim := { program := "ytcfapidalngebaa", sum := "59548ab80eff9ef2cb2b1a992f2f2c6dd25ab587b754d77646a9aa3e8099c7da", func := "turnrow/turnrowlaw13.GraphParts", spec := "graphParts", recurses := true, apart := false }
def GraphPartsSaid : Prop := graphPartsRow.holds Try.pinned (OpenSpec.ofChange graphPartsSpec)

/-- ITS FALSE NEIGHBOUR: 'it returns false'. Refute it at one input. -/
def graphPartsWrong : ChangeSpec := { name := "graphParts", fn := fun _ => fun
  | [d1, d2, d3] => { results := [.lit (.bool false)], args := [d1, d2, d3] }
  | _ => none }
def GraphPartsWrongFalsely : Prop := graphPartsRow.holds Try.pinned (OpenSpec.ofChange graphPartsWrong)

/- THE SECOND FORM. 'bulk': how many values and letters a reading holds, each counted each time it is reached (what is shared counts as often as it is met; a slice's spare places count too). A statement '..UptoSaid' is the law's where the arguments, and the package variables that the reading takes, are together of bulk at most 1048576: NARROWER than '..Said'. Prove '..Said' where nothing that the law and all that it calls make is longer than what came in: it says more and counts as full. Else prove '..UptoSaid'. A law counts once. -/
mutual
def uptoBulk {H : Type} : DataW H → Nat
  | .lit (.string bytes) => bytes.length + 1
  | .lit _ => 1
  | .nil => 1
  | .ptr d => uptoBulk d + 1
  | .slice elems spare => uptoBulkAll elems + uptoBulkAll spare + 1
  | .agg parts => uptoBulkAll parts + 1
  | .iface _ d => uptoBulk d + 1
  | .map entries => uptoBulkEntries entries + 1
  | .held _ => 1
def uptoBulkAll {H : Type} : List (DataW H) → Nat
  | [] => 0
  | d :: r => uptoBulk d + uptoBulkAll r
def uptoBulkEntries {H : Type} : List (Lit × DataW H) → Nat
  | [] => 0
  | x :: r => uptoBulkEntry x + uptoBulkEntries r
def uptoBulkEntry {H : Type} : Lit × DataW H → Nat
  | (.string bytes, d) => bytes.length + uptoBulk d + 1
  | (_, d) => uptoBulk d + 1
 end
def uptoSmall : (H : Type) → List (DataW H) → Bool := fun _ ds => decide (uptoBulkAll ds ≤ 1048576)
def OpenSpec.upto (s : _root_.Go.ChangeSpec) : _root_.Go.OpenSpec := { _root_.Go.OpenSpec.ofChange s with cond := some uptoSmall }

/-- 'turnrowlaw13.GraphCloses', WHERE WHAT IT READS IS OF BULK AT MOST 1048576: true; the input reads as it did. -/
def graphClosesUptoRow : OpenClaim := { program := "ytcfapidalngebaa", sum := "59548ab80eff9ef2cb2b1a992f2f2c6dd25ab587b754d77646a9aa3e8099c7da", func := "turnrow/turnrowlaw13.GraphCloses", spec := "graphCloses", apart := false, narrowed := true }
def GraphClosesUptoSaid : Prop := graphClosesUptoRow.holds Try.pinned (OpenSpec.upto graphClosesSpec)

/-- 'turnrowlaw13.GraphLoose', WHERE WHAT IT READS IS OF BULK AT MOST 1048576: true; the input reads as it did. -/
def graphLooseUptoRow : OpenClaim := { program := "ytcfapidalngebaa", sum := "59548ab80eff9ef2cb2b1a992f2f2c6dd25ab587b754d77646a9aa3e8099c7da", func := "turnrow/turnrowlaw13.GraphLoose", spec := "graphLoose", apart := false, narrowed := true }
def GraphLooseUptoSaid : Prop := graphLooseUptoRow.holds Try.pinned (OpenSpec.upto graphLooseSpec)

/-- 'turnrowlaw14.GrayWalks', WHERE WHAT IT READS IS OF BULK AT MOST 1048576: true; the input reads as it did. -/
def grayWalksUptoRow : OpenClaim := { program := "ytcfapidalngebaa", sum := "59548ab80eff9ef2cb2b1a992f2f2c6dd25ab587b754d77646a9aa3e8099c7da", func := "turnrow/turnrowlaw14.GrayWalks", spec := "grayWalks", apart := false, narrowed := true }
def GrayWalksUptoSaid : Prop := grayWalksUptoRow.holds Try.pinned (OpenSpec.upto grayWalksSpec)

/-- 'turnrowlaw14.GrayAgain', WHERE WHAT IT READS IS OF BULK AT MOST 1048576: true; the input reads as it did. -/
def grayAgainUptoRow : OpenClaim := { program := "ytcfapidalngebaa", sum := "59548ab80eff9ef2cb2b1a992f2f2c6dd25ab587b754d77646a9aa3e8099c7da", func := "turnrow/turnrowlaw14.GrayAgain", spec := "grayAgain", apart := false, narrowed := true }
def GrayAgainUptoSaid : Prop := grayAgainUptoRow.holds Try.pinned (OpenSpec.upto grayAgainSpec)

/-- 'turnrowlaw13.GraphGrows', WHERE WHAT IT READS IS OF BULK AT MOST 1048576: true; the input reads as it did. -/
def graphGrowsUptoRow : OpenClaim := { program := "ytcfapidalngebaa", sum := "59548ab80eff9ef2cb2b1a992f2f2c6dd25ab587b754d77646a9aa3e8099c7da", func := "turnrow/turnrowlaw13.GraphGrows", spec := "graphGrows", recurses := true, apart := false, narrowed := true }
def GraphGrowsUptoSaid : Prop := graphGrowsUptoRow.holds Try.pinned (OpenSpec.upto graphGrowsSpec)

/-- 'turnrowlaw14.GrayActs', WHERE WHAT IT READS IS OF BULK AT MOST 1048576: true; the input reads as it did. -/
def grayActsUptoRow : OpenClaim := { program := "ytcfapidalngebaa", sum := "59548ab80eff9ef2cb2b1a992f2f2c6dd25ab587b754d77646a9aa3e8099c7da", func := "turnrow/turnrowlaw14.GrayActs", spec := "grayActs", recurses := true, apart := false, narrowed := true }
def GrayActsUptoSaid : Prop := grayActsUptoRow.holds Try.pinned (OpenSpec.upto grayActsSpec)

/-- 'turnrowlaw14.GrayOnce', WHERE WHAT IT READS IS OF BULK AT MOST 1048576: true; the input reads as it did. -/
def grayOnceUptoRow : OpenClaim := { program := "ytcfapidalngebaa", sum := "59548ab80eff9ef2cb2b1a992f2f2c6dd25ab587b754d77646a9aa3e8099c7da", func := "turnrow/turnrowlaw14.GrayOnce", spec := "grayOnce", recurses := true, apart := false, narrowed := true }
def GrayOnceUptoSaid : Prop := grayOnceUptoRow.holds Try.pinned (OpenSpec.upto grayOnceSpec)

/-- 'turnrowlaw14.GrayPaints', WHERE WHAT IT READS IS OF BULK AT MOST 1048576: true; the input reads as it did. -/
def grayPaintsUptoRow : OpenClaim := { program := "ytcfapidalngebaa", sum := "59548ab80eff9ef2cb2b1a992f2f2c6dd25ab587b754d77646a9aa3e8099c7da", func := "turnrow/turnrowlaw14.GrayPaints", spec := "grayPaints", recurses := true, apart := false, narrowed := true }
def GrayPaintsUptoSaid : Prop := grayPaintsUptoRow.holds Try.pinned (OpenSpec.upto grayPaintsSpec)

/-- 'turnrowlaw13.GraphActs', WHERE WHAT IT READS IS OF BULK AT MOST 1048576: true; the input reads as it did. -/
def graphActsUptoRow : OpenClaim := { program := "ytcfapidalngebaa", sum := "59548ab80eff9ef2cb2b1a992f2f2c6dd25ab587b754d77646a9aa3e8099c7da", func := "turnrow/turnrowlaw13.GraphActs", spec := "graphActs", recurses := true, apart := false, narrowed := true }
def GraphActsUptoSaid : Prop := graphActsUptoRow.holds Try.pinned (OpenSpec.upto graphActsSpec)

/-- 'turnrowlaw13.GraphJoins', WHERE WHAT IT READS IS OF BULK AT MOST 1048576: true; the input reads as it did. -/
def graphJoinsUptoRow : OpenClaim := { program := "ytcfapidalngebaa", sum := "59548ab80eff9ef2cb2b1a992f2f2c6dd25ab587b754d77646a9aa3e8099c7da", func := "turnrow/turnrowlaw13.GraphJoins", spec := "graphJoins", recurses := true, apart := false, narrowed := true }
def GraphJoinsUptoSaid : Prop := graphJoinsUptoRow.holds Try.pinned (OpenSpec.upto graphJoinsSpec)

/-- 'turnrowlaw13.GraphParts', WHERE WHAT IT READS IS OF BULK AT MOST 1048576: true; the input reads as it did. -/
def graphPartsUptoRow : OpenClaim := { program := "ytcfapidalngebaa", sum := "59548ab80eff9ef2cb2b1a992f2f2c6dd25ab587b754d77646a9aa3e8099c7da", func := "turnrow/turnrowlaw13.GraphParts", spec := "graphParts", recurses := true, apart := false, narrowed := true }
def GraphPartsUptoSaid : Prop := graphPartsUptoRow.holds Try.pinned (OpenSpec.upto graphPartsSpec)

end Rows
end Go.Proofs.Ytcfapidalngebaa
