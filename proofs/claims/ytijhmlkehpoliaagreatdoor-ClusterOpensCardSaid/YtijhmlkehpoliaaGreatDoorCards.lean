/-
  DERIVED. GIVEN WITH THE SEED: THE CARDS: each row of YtijhmlkehpoliaaGreatDoorRows.lean that lists a variable, with what it lists TIED to the program's text (the seventh form; the later family's looks); each row that meets fmt, with fmt's text TOLD by the authors' own Lean function (tested against real Go, not proved from fmt's source: count such statements apart). THE CARD IS WHAT COUNTS. Prove the row's statement (the work); the ties are given (YtijhmlkehpoliaaGreatDoorTie.lean); close each card by the builder's one call (the guide's Derived/Test/ToyasCard.lean, 'card_holds'). Laid BY PROGRAM, IN A SANDBOX (cutbox-door.mjs). By AI agents, Wed Nov 11 2026. No macro, syntax, notation, axiom, sorry.
-/
import Derived.Test.YtijhmlkehpoliaaGreatDoorRows
import GoSem.ClaimSeven
namespace Go.Proofs.YtijhmlkehpoliaaGreatDoor
namespace Rows

/-- THE TIED CARD OF 'thermographlaw22.ClusterOpens'. -/
def clusterOpensCard : Claim7 := { stood := { row := clusterOpensRow, standIns := [], harness := (true, "5e6ccbcc6803591a35f62a64e4391ad39f36db9e6a95675dff43673dd888846c"), looks := true }, kinds := [], alts := [], laidByText := true, laidKinds := [.data, .data, .data, .data, .sentinel, .sentinel, .data, .data, .pinned], laidTests := true, laidLooks := .later }
def ClusterOpensCardSaid : Prop := Claim7.holds Tryz.pinned (.plain (OpenSpec.ofChange clusterOpensSpec)) clusterOpensCard

/-- THE SECOND FORM's CARD OF 'thermographlaw22.ClusterOpens'. -/
def clusterOpensUptoCard : Claim7 := { stood := { row := clusterOpensUptoRow, standIns := [], harness := (true, "5e6ccbcc6803591a35f62a64e4391ad39f36db9e6a95675dff43673dd888846c"), looks := true }, kinds := [], alts := [], laidByText := true, laidKinds := [.data, .data, .data, .data, .sentinel, .sentinel, .data, .data, .pinned], laidTests := true, laidLooks := .later }
def ClusterOpensUptoCardSaid : Prop := Claim7.holds Tryz.pinned (.plain (OpenSpec.upto clusterOpensSpec)) clusterOpensUptoCard
end Rows
end Go.Proofs.YtijhmlkehpoliaaGreatDoor
