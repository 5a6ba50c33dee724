/-
  DERIVED. GIVEN WITH THE SEED: THE CARDS: each row of YtcdpnfchmpncjaaGreatDoorRows.lean that lists a variable, with what it lists TIED to the program's text (the seventh form; the later family's looks); each row that meets fmt, with fmt's text TOLD by the authors' own Lean function (tested against real Go, not proved from fmt's source: count such statements apart). THE CARD IS WHAT COUNTS. Prove the row's statement (the work); the ties are given (YtcdpnfchmpncjaaGreatDoorTie.lean); close each card by the builder's one call (the guide's Derived/Test/ToyasCard.lean, 'card_holds'). Laid BY PROGRAM, IN A SANDBOX (cutbox-door.mjs). By AI agents, Wed Nov 11 2026. No macro, syntax, notation, axiom, sorry.
-/
import Derived.Test.YtcdpnfchmpncjaaGreatDoorRows
import GoSem.ClaimSeven
namespace Go.Proofs.YtcdpnfchmpncjaaGreatDoor
namespace Rows

/-- THE TIED CARD OF 'turnrowtop.TopCycles'. -/
def topCyclesCard : Claim7 := { stood := { row := topCyclesRow, standIns := [], harness := (true, "ce4f7ac395743fc01522a43a614f783031b3aae40ec839a5c7975a4adb70583a"), looks := false }, kinds := [], alts := [], laidByText := true, laidKinds := [.data], laidTests := true, laidLooks := .later }
def TopCyclesCardSaid : Prop := Claim7.holds Tryz.pinned (.plain (OpenSpec.ofChange topCyclesSpec)) topCyclesCard

/-- THE TIED CARD OF 'turnrowtop.TopRecords'. -/
def topRecordsCard : Claim7 := { stood := { row := topRecordsRow, standIns := [], harness := (true, "ce4f7ac395743fc01522a43a614f783031b3aae40ec839a5c7975a4adb70583a"), looks := false }, kinds := [], alts := [], laidByText := true, laidKinds := [.data], laidTests := true, laidLooks := .later }
def TopRecordsCardSaid : Prop := Claim7.holds Tryz.pinned (.plain (OpenSpec.ofChange topRecordsSpec)) topRecordsCard

/-- THE TIED CARD OF 'turnrowtop.TopChain'. -/
def topChainCard : Claim7 := { stood := { row := topChainRow, standIns := [], harness := (true, "ce4f7ac395743fc01522a43a614f783031b3aae40ec839a5c7975a4adb70583a"), looks := false }, kinds := [], alts := [], laidByText := true, laidKinds := [.data], laidTests := true, laidLooks := .later }
def TopChainCardSaid : Prop := Claim7.holds Tryz.pinned (.plain (OpenSpec.ofChange topChainSpec)) topChainCard

/-- THE SECOND FORM's CARD OF 'turnrowtop.TopCycles'. -/
def topCyclesUptoCard : Claim7 := { stood := { row := topCyclesUptoRow, standIns := [], harness := (true, "ce4f7ac395743fc01522a43a614f783031b3aae40ec839a5c7975a4adb70583a"), looks := false }, kinds := [], alts := [], laidByText := true, laidKinds := [.data], laidTests := true, laidLooks := .later }
def TopCyclesUptoCardSaid : Prop := Claim7.holds Tryz.pinned (.plain (OpenSpec.upto topCyclesSpec)) topCyclesUptoCard

/-- THE SECOND FORM's CARD OF 'turnrowtop.TopRecords'. -/
def topRecordsUptoCard : Claim7 := { stood := { row := topRecordsUptoRow, standIns := [], harness := (true, "ce4f7ac395743fc01522a43a614f783031b3aae40ec839a5c7975a4adb70583a"), looks := false }, kinds := [], alts := [], laidByText := true, laidKinds := [.data], laidTests := true, laidLooks := .later }
def TopRecordsUptoCardSaid : Prop := Claim7.holds Tryz.pinned (.plain (OpenSpec.upto topRecordsSpec)) topRecordsUptoCard

/-- THE SECOND FORM's CARD OF 'turnrowtop.TopChain'. -/
def topChainUptoCard : Claim7 := { stood := { row := topChainUptoRow, standIns := [], harness := (true, "ce4f7ac395743fc01522a43a614f783031b3aae40ec839a5c7975a4adb70583a"), looks := false }, kinds := [], alts := [], laidByText := true, laidKinds := [.data], laidTests := true, laidLooks := .later }
def TopChainUptoCardSaid : Prop := Claim7.holds Tryz.pinned (.plain (OpenSpec.upto topChainSpec)) topChainUptoCard
end Rows
end Go.Proofs.YtcdpnfchmpncjaaGreatDoor
