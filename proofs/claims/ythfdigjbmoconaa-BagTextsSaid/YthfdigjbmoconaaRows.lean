/-
  No cell of these rows narrows 'for every input' (looked for: loops, veiled, ifaces, maps, wideKeys, modest, calm, conditions, laid).
  DERIVED. THE GIVEN ROWS OF THIS SEAT. 6 by the template 'for every input the law returns true; each argument reads behind the call as it read before'; 0 by the template 'total and deterministic' (their statements: YthfdigjbmoconaaTotals.lean).
  GIVEN WITH THE SEED: the statements are not yours to turn. If you find one false, say at which input.
  Laid BY PROGRAM, IN A SANDBOX (cutbox-rows.mjs): the forced cells as the released guide's own fill.sh prints them over the translation d8b881e1d0105377… (all of the seat's roots in one cut). By AI agents, Wed Nov 11 2026. No macro, syntax, notation, axiom, sorry.
-/
import Derived.Test.YthfdigjbmoconaaChecked
import GoSem.Claim
import GoSem.ClaimJoined
import GoSem.ClaimMapViews
import Derived.JoinedTies
import Derived.KernelRfl
namespace Go.Proofs.Ythfdigjbmoconaa
/- THE CELL 'sum', in the pinned program and in every row, IS THE sha256 OF THE DUMP (.gsa) THAT YthfdigjbmoconaaProg.lean LOADS. Nothing in Lean hashes anything: it is a label: what it is worth is what the hold of that sum in a sandbox is worth. -/
noncomputable def Try.pinned : Pinned := { name := "ythfdigjbmoconaa", sum := "d8b881e1d0105377d69e33942bb339d2fb9e2ce6f4e181794168789bc0952622", checked := Try.checked }
namespace Rows
def none {H : Type} : Left H := { results := [], args := [] }

/-- 'turnrowlaw08.BagWalks': WHATEVER THE INPUT: true; the input reads as it did. -/
def bagWalksSpec : ChangeSpec := { name := "bagWalks", fn := fun _ => fun
  | [d] => { results := [.lit (.bool true)], args := [d] }
  | _ => none }
def bagWalksRow : OpenClaim := { program := "ythfdigjbmoconaa", sum := "d8b881e1d0105377d69e33942bb339d2fb9e2ce6f4e181794168789bc0952622", func := "turnrow/turnrowlaw08.BagWalks", spec := "bagWalks", unfollowed := true, recurses := true, apart := false }
def BagWalksSaid : Prop := bagWalksRow.holds Try.pinned (OpenSpec.ofChange bagWalksSpec)

/-- ITS FALSE NEIGHBOUR: 'it returns false'. Refute it at one input. -/
def bagWalksWrong : ChangeSpec := { name := "bagWalks", fn := fun _ => fun
  | [d] => { results := [.lit (.bool false)], args := [d] }
  | _ => none }
def BagWalksWrongFalsely : Prop := bagWalksRow.holds Try.pinned (OpenSpec.ofChange bagWalksWrong)

/-- 'turnrowlaw08.BagRises': WHATEVER THE INPUT: true; the input reads as it did. -/
def bagRisesSpec : ChangeSpec := { name := "bagRises", fn := fun _ => fun
  | [d1, d2] => { results := [.lit (.bool true)], args := [d1, d2] }
  | _ => none }
def bagRisesRow : OpenClaim := { program := "ythfdigjbmoconaa", sum := "d8b881e1d0105377d69e33942bb339d2fb9e2ce6f4e181794168789bc0952622", func := "turnrow/turnrowlaw08.BagRises", spec := "bagRises", unfollowed := true, recurses := true, apart := false }
def BagRisesSaid : Prop := bagRisesRow.holds Try.pinned (OpenSpec.ofChange bagRisesSpec)

/-- ITS FALSE NEIGHBOUR: 'it returns false'. Refute it at one input. -/
def bagRisesWrong : ChangeSpec := { name := "bagRises", fn := fun _ => fun
  | [d1, d2] => { results := [.lit (.bool false)], args := [d1, d2] }
  | _ => none }
def BagRisesWrongFalsely : Prop := bagRisesRow.holds Try.pinned (OpenSpec.ofChange bagRisesWrong)

/-- 'turnrowlaw08.BagJoins': WHATEVER THE INPUT: true; the input reads as it did. -/
def bagJoinsSpec : ChangeSpec := { name := "bagJoins", fn := fun _ => fun
  | [d1, d2] => { results := [.lit (.bool true)], args := [d1, d2] }
  | _ => none }
def bagJoinsRow : OpenClaim := { program := "ythfdigjbmoconaa", sum := "d8b881e1d0105377d69e33942bb339d2fb9e2ce6f4e181794168789bc0952622", func := "turnrow/turnrowlaw08.BagJoins", spec := "bagJoins", unfollowed := true, recurses := true, apart := false }
def BagJoinsSaid : Prop := bagJoinsRow.holds Try.pinned (OpenSpec.ofChange bagJoinsSpec)

/-- ITS FALSE NEIGHBOUR: 'it returns false'. Refute it at one input. -/
def bagJoinsWrong : ChangeSpec := { name := "bagJoins", fn := fun _ => fun
  | [d1, d2] => { results := [.lit (.bool false)], args := [d1, d2] }
  | _ => none }
def BagJoinsWrongFalsely : Prop := bagJoinsRow.holds Try.pinned (OpenSpec.ofChange bagJoinsWrong)

/-- 'turnrowlaw08.BagOrders': WHATEVER THE INPUT: true; the input reads as it did. -/
def bagOrdersSpec : ChangeSpec := { name := "bagOrders", fn := fun _ => fun
  | [d1, d2] => { results := [.lit (.bool true)], args := [d1, d2] }
  | _ => none }
def bagOrdersRow : OpenClaim := { program := "ythfdigjbmoconaa", sum := "d8b881e1d0105377d69e33942bb339d2fb9e2ce6f4e181794168789bc0952622", func := "turnrow/turnrowlaw08.BagOrders", spec := "bagOrders", inPlace := ["slices.overlaps[int]"], unfollowed := true, recurses := true, apart := false }
def BagOrdersSaid : Prop := bagOrdersRow.holds Try.pinned (OpenSpec.ofChange bagOrdersSpec)

/-- ITS FALSE NEIGHBOUR: 'it returns false'. Refute it at one input. -/
def bagOrdersWrong : ChangeSpec := { name := "bagOrders", fn := fun _ => fun
  | [d1, d2] => { results := [.lit (.bool false)], args := [d1, d2] }
  | _ => none }
def BagOrdersWrongFalsely : Prop := bagOrdersRow.holds Try.pinned (OpenSpec.ofChange bagOrdersWrong)

/-- 'turnrowlaw08.BagTexts': WHATEVER THE INPUT: true; the input reads as it did. -/
def bagTextsSpec : ChangeSpec := { name := "bagTexts", fn := fun _ => fun
  | [d] => { results := [.lit (.bool true)], args := [d] }
  | _ => none }
def bagTextsRow : OpenClaim := { program := "ythfdigjbmoconaa", sum := "d8b881e1d0105377d69e33942bb339d2fb9e2ce6f4e181794168789bc0952622", func := "turnrow/turnrowlaw08.BagTexts", spec := "bagTexts", inPlace := ["slices.overlaps[string]", "slices.overlaps[int]"], unfollowed := true, recurses := true, apart := false }
def BagTextsSaid : Prop := bagTextsRow.holds Try.pinned (OpenSpec.ofChange bagTextsSpec)

/-- ITS FALSE NEIGHBOUR: 'it returns false'. Refute it at one input. -/
def bagTextsWrong : ChangeSpec := { name := "bagTexts", fn := fun _ => fun
  | [d] => { results := [.lit (.bool false)], args := [d] }
  | _ => none }
def BagTextsWrongFalsely : Prop := bagTextsRow.holds Try.pinned (OpenSpec.ofChange bagTextsWrong)

/-- 'turnrowlaw08.BagActs': WHATEVER THE INPUT: true; the input reads as it did. -/
def bagActsSpec : ChangeSpec := { name := "bagActs", fn := fun _ => fun
  | [d1, d2, d3] => { results := [.lit (.bool true)], args := [d1, d2, d3] }
  | _ => none }
def bagActsRow : OpenClaim := { program := "ythfdigjbmoconaa", sum := "d8b881e1d0105377d69e33942bb339d2fb9e2ce6f4e181794168789bc0952622", func := "turnrow/turnrowlaw08.BagActs", spec := "bagActs", inPlace := ["slices.overlaps[int]"], unfollowed := true, recurses := true, apart := false }
def BagActsSaid : Prop := bagActsRow.holds Try.pinned (OpenSpec.ofChange bagActsSpec)

/-- ITS FALSE NEIGHBOUR: 'it returns false'. Refute it at one input. -/
def bagActsWrong : ChangeSpec := { name := "bagActs", fn := fun _ => fun
  | [d1, d2, d3] => { results := [.lit (.bool false)], args := [d1, d2, d3] }
  | _ => none }
def BagActsWrongFalsely : Prop := bagActsRow.holds Try.pinned (OpenSpec.ofChange bagActsWrong)

/- THE SECOND FORM. 'bulk': how many values and letters a reading holds, each counted each time it is reached (what is shared counts as often as it is met; a slice's spare places count too). A statement '..UptoSaid' is the law's where the arguments, and the package variables that the reading takes, are together of bulk at most 1048576: NARROWER than '..Said'. Prove '..Said' where nothing that the law and all that it calls make is longer than what came in: it says more and counts as full. Else prove '..UptoSaid'. A law counts once. -/
mutual
def uptoBulk {H : Type} : DataW H → Nat
  | .lit (.string bytes) => bytes.length + 1
  | .lit _ => 1
  | .nil => 1
  | .ptr d => uptoBulk d + 1
  | .slice elems spare => uptoBulkAll elems + uptoBulkAll spare + 1
  | .agg parts => uptoBulkAll parts + 1
  | .iface _ d => uptoBulk d + 1
  | .map entries => uptoBulkEntries entries + 1
  | .held _ => 1
def uptoBulkAll {H : Type} : List (DataW H) → Nat
  | [] => 0
  | d :: r => uptoBulk d + uptoBulkAll r
def uptoBulkEntries {H : Type} : List (Lit × DataW H) → Nat
  | [] => 0
  | x :: r => uptoBulkEntry x + uptoBulkEntries r
def uptoBulkEntry {H : Type} : Lit × DataW H → Nat
  | (.string bytes, d) => bytes.length + uptoBulk d + 1
  | (_, d) => uptoBulk d + 1
 end
def uptoSmall : (H : Type) → List (DataW H) → Bool := fun _ ds => decide (uptoBulkAll ds ≤ 1048576)
def OpenSpec.upto (s : _root_.Go.ChangeSpec) : _root_.Go.OpenSpec := { _root_.Go.OpenSpec.ofChange s with cond := some uptoSmall }

/-- 'turnrowlaw08.BagWalks', WHERE WHAT IT READS IS OF BULK AT MOST 1048576: true; the input reads as it did. -/
def bagWalksUptoRow : OpenClaim := { program := "ythfdigjbmoconaa", sum := "d8b881e1d0105377d69e33942bb339d2fb9e2ce6f4e181794168789bc0952622", func := "turnrow/turnrowlaw08.BagWalks", spec := "bagWalks", unfollowed := true, recurses := true, apart := false, narrowed := true }
def BagWalksUptoSaid : Prop := bagWalksUptoRow.holds Try.pinned (OpenSpec.upto bagWalksSpec)

/-- 'turnrowlaw08.BagRises', WHERE WHAT IT READS IS OF BULK AT MOST 1048576: true; the input reads as it did. -/
def bagRisesUptoRow : OpenClaim := { program := "ythfdigjbmoconaa", sum := "d8b881e1d0105377d69e33942bb339d2fb9e2ce6f4e181794168789bc0952622", func := "turnrow/turnrowlaw08.BagRises", spec := "bagRises", unfollowed := true, recurses := true, apart := false, narrowed := true }
def BagRisesUptoSaid : Prop := bagRisesUptoRow.holds Try.pinned (OpenSpec.upto bagRisesSpec)

/-- 'turnrowlaw08.BagJoins', WHERE WHAT IT READS IS OF BULK AT MOST 1048576: true; the input reads as it did. -/
def bagJoinsUptoRow : OpenClaim := { program := "ythfdigjbmoconaa", sum := "d8b881e1d0105377d69e33942bb339d2fb9e2ce6f4e181794168789bc0952622", func := "turnrow/turnrowlaw08.BagJoins", spec := "bagJoins", unfollowed := true, recurses := true, apart := false, narrowed := true }
def BagJoinsUptoSaid : Prop := bagJoinsUptoRow.holds Try.pinned (OpenSpec.upto bagJoinsSpec)

/-- 'turnrowlaw08.BagOrders', WHERE WHAT IT READS IS OF BULK AT MOST 1048576: true; the input reads as it did. -/
def bagOrdersUptoRow : OpenClaim := { program := "ythfdigjbmoconaa", sum := "d8b881e1d0105377d69e33942bb339d2fb9e2ce6f4e181794168789bc0952622", func := "turnrow/turnrowlaw08.BagOrders", spec := "bagOrders", inPlace := ["slices.overlaps[int]"], unfollowed := true, recurses := true, apart := false, narrowed := true }
def BagOrdersUptoSaid : Prop := bagOrdersUptoRow.holds Try.pinned (OpenSpec.upto bagOrdersSpec)

/-- 'turnrowlaw08.BagTexts', WHERE WHAT IT READS IS OF BULK AT MOST 1048576: true; the input reads as it did. -/
def bagTextsUptoRow : OpenClaim := { program := "ythfdigjbmoconaa", sum := "d8b881e1d0105377d69e33942bb339d2fb9e2ce6f4e181794168789bc0952622", func := "turnrow/turnrowlaw08.BagTexts", spec := "bagTexts", inPlace := ["slices.overlaps[string]", "slices.overlaps[int]"], unfollowed := true, recurses := true, apart := false, narrowed := true }
def BagTextsUptoSaid : Prop := bagTextsUptoRow.holds Try.pinned (OpenSpec.upto bagTextsSpec)

/-- 'turnrowlaw08.BagActs', WHERE WHAT IT READS IS OF BULK AT MOST 1048576: true; the input reads as it did. -/
def bagActsUptoRow : OpenClaim := { program := "ythfdigjbmoconaa", sum := "d8b881e1d0105377d69e33942bb339d2fb9e2ce6f4e181794168789bc0952622", func := "turnrow/turnrowlaw08.BagActs", spec := "bagActs", inPlace := ["slices.overlaps[int]"], unfollowed := true, recurses := true, apart := false, narrowed := true }
def BagActsUptoSaid : Prop := bagActsUptoRow.holds Try.pinned (OpenSpec.upto bagActsSpec)

end Rows
end Go.Proofs.Ythfdigjbmoconaa
