/-
  DERIVED. GIVEN WITH THE SEED: THE CARDS: each row of YtdhogcklnehdhaaGreatDoorRows.lean that lists a variable, with what it lists TIED to the program's text (the seventh form; the later family's looks); each row that meets fmt, with fmt's text TOLD by the authors' own Lean function (tested against real Go, not proved from fmt's source: count such statements apart). THE CARD IS WHAT COUNTS. Prove the row's statement (the work); the ties are given (YtdhogcklnehdhaaGreatDoorTie.lean); close each card by the builder's one call (the guide's Derived/Test/ToyasCard.lean, 'card_holds'). Laid BY PROGRAM, IN A SANDBOX (cutbox-door.mjs). By AI agents, Wed Nov 11 2026. No macro, syntax, notation, axiom, sorry.
-/
import Derived.Test.YtdhogcklnehdhaaGreatDoorRows
import GoSem.ClaimSeven
namespace Go.Proofs.YtdhogcklnehdhaaGreatDoor
namespace Rows

/-- THE TIED CARD OF 'trustquorumtop.TopHeard'. -/
def topHeardCard : Claim7 := { stood := { row := topHeardRow, standIns := [], harness := (true, "e55579a60c9e7c183b8a413f497aa8348d71953f780317d8793630781681356d"), looks := true }, kinds := [], alts := [], laidByText := true, laidKinds := [.data, .data, .data, .data, .sentinel, .sentinel, .pinned], laidTests := true, laidLooks := .later }
def TopHeardCardSaid : Prop := Claim7.holds Tryz.pinned (.plain (OpenSpec.ofChange topHeardSpec)) topHeardCard

/-- THE TIED CARD OF 'trustquorumtop.TopCertified'. -/
def topCertifiedCard : Claim7 := { stood := { row := topCertifiedRow, standIns := [], harness := (true, "e55579a60c9e7c183b8a413f497aa8348d71953f780317d8793630781681356d"), looks := true }, kinds := [], alts := [], laidByText := true, laidKinds := [.data, .data, .data, .data, .sentinel, .sentinel, .pinned], laidTests := true, laidLooks := .later }
def TopCertifiedCardSaid : Prop := Claim7.holds Tryz.pinned (.plain (OpenSpec.ofChange topCertifiedSpec)) topCertifiedCard

/-- THE SECOND FORM's CARD OF 'trustquorumtop.TopHeard'. -/
def topHeardUptoCard : Claim7 := { stood := { row := topHeardUptoRow, standIns := [], harness := (true, "e55579a60c9e7c183b8a413f497aa8348d71953f780317d8793630781681356d"), looks := true }, kinds := [], alts := [], laidByText := true, laidKinds := [.data, .data, .data, .data, .sentinel, .sentinel, .pinned], laidTests := true, laidLooks := .later }
def TopHeardUptoCardSaid : Prop := Claim7.holds Tryz.pinned (.plain (OpenSpec.upto topHeardSpec)) topHeardUptoCard

/-- THE SECOND FORM's CARD OF 'trustquorumtop.TopCertified'. -/
def topCertifiedUptoCard : Claim7 := { stood := { row := topCertifiedUptoRow, standIns := [], harness := (true, "e55579a60c9e7c183b8a413f497aa8348d71953f780317d8793630781681356d"), looks := true }, kinds := [], alts := [], laidByText := true, laidKinds := [.data, .data, .data, .data, .sentinel, .sentinel, .pinned], laidTests := true, laidLooks := .later }
def TopCertifiedUptoCardSaid : Prop := Claim7.holds Tryz.pinned (.plain (OpenSpec.upto topCertifiedSpec)) topCertifiedUptoCard
end Rows
end Go.Proofs.YtdhogcklnehdhaaGreatDoor
