/-
  DERIVED. GIVEN WITH THE SEED: THE CARDS: each row of YtkjpnmodlmlhdaaGreatDoorRows.lean that lists a variable, with what it lists TIED to the program's text (the seventh form; the later family's looks); each row that meets fmt, with fmt's text TOLD by the authors' own Lean function (tested against real Go, not proved from fmt's source: count such statements apart). THE CARD IS WHAT COUNTS. Prove the row's statement (the work); the ties are given (YtkjpnmodlmlhdaaGreatDoorTie.lean); close each card by the builder's one call (the guide's Derived/Test/ToyasCard.lean, 'card_holds'). Laid BY PROGRAM, IN A SANDBOX (cutbox-door.mjs). By AI agents, Wed Nov 11 2026. No macro, syntax, notation, axiom, sorry.
-/
import Derived.Test.YtkjpnmodlmlhdaaGreatDoorRows
import GoSem.ClaimSeven
namespace Go.Proofs.YtkjpnmodlmlhdaaGreatDoor
namespace Rows

/-- THE TIED CARD OF 'trustquorumtop.TopGossip'. -/
def topGossipCard : Claim7 := { stood := { row := topGossipRow, standIns := [], harness := (true, "549fce49e1a0e19f3f513ad24918616ee5017bf9b4f15bc8e500a2051d1bb2a3"), looks := true }, kinds := [], alts := [], laidByText := true, laidKinds := [.data, .data, .data, .data, .sentinel, .sentinel, .pinned], laidTests := true, laidLooks := .later }
def TopGossipCardSaid : Prop := Claim7.holds Tryz.pinned (.plain (OpenSpec.ofChange topGossipSpec)) topGossipCard

/-- THE SECOND FORM's CARD OF 'trustquorumtop.TopGossip'. -/
def topGossipUptoCard : Claim7 := { stood := { row := topGossipUptoRow, standIns := [], harness := (true, "549fce49e1a0e19f3f513ad24918616ee5017bf9b4f15bc8e500a2051d1bb2a3"), looks := true }, kinds := [], alts := [], laidByText := true, laidKinds := [.data, .data, .data, .data, .sentinel, .sentinel, .pinned], laidTests := true, laidLooks := .later }
def TopGossipUptoCardSaid : Prop := Claim7.holds Tryz.pinned (.plain (OpenSpec.upto topGossipSpec)) topGossipUptoCard
end Rows
end Go.Proofs.YtkjpnmodlmlhdaaGreatDoor
