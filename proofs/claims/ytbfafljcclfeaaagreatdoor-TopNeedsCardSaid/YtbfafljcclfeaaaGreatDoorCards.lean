/-
  DERIVED. GIVEN WITH THE SEED: THE CARDS: each row of YtbfafljcclfeaaaGreatDoorRows.lean that lists a variable, with what it lists TIED to the program's text (the seventh form; the later family's looks); each row that meets fmt, with fmt's text TOLD by the authors' own Lean function (tested against real Go, not proved from fmt's source: count such statements apart). THE CARD IS WHAT COUNTS. Prove the row's statement (the work); the ties are given (YtbfafljcclfeaaaGreatDoorTie.lean); close each card by the builder's one call (the guide's Derived/Test/ToyasCard.lean, 'card_holds'). Laid BY PROGRAM, IN A SANDBOX (cutbox-door.mjs). By AI agents, Wed Nov 11 2026. No macro, syntax, notation, axiom, sorry.
-/
import Derived.Test.YtbfafljcclfeaaaGreatDoorRows
import GoSem.ClaimSeven
namespace Go.Proofs.YtbfafljcclfeaaaGreatDoor
namespace Rows

/-- THE TIED CARD OF 'trustquorumtop.TopNeeds'. -/
def topNeedsCard : Claim7 := { stood := { row := topNeedsRow, standIns := [], harness := (true, "3a011dccd74b20a40a45f86029a378478dde6523b1297944956ceda361fa4d50"), looks := true }, kinds := [], alts := [], laidByText := true, laidKinds := [.data, .data, .data, .data, .sentinel, .sentinel, .pinned], laidTests := true, laidLooks := .later }
def TopNeedsCardSaid : Prop := Claim7.holds Tryz.pinned (.plain (OpenSpec.ofChange topNeedsSpec)) topNeedsCard

/-- THE SECOND FORM's CARD OF 'trustquorumtop.TopNeeds'. -/
def topNeedsUptoCard : Claim7 := { stood := { row := topNeedsUptoRow, standIns := [], harness := (true, "3a011dccd74b20a40a45f86029a378478dde6523b1297944956ceda361fa4d50"), looks := true }, kinds := [], alts := [], laidByText := true, laidKinds := [.data, .data, .data, .data, .sentinel, .sentinel, .pinned], laidTests := true, laidLooks := .later }
def TopNeedsUptoCardSaid : Prop := Claim7.holds Tryz.pinned (.plain (OpenSpec.upto topNeedsSpec)) topNeedsUptoCard
end Rows
end Go.Proofs.YtbfafljcclfeaaaGreatDoor
