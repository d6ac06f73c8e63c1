/-
  No cell of these rows narrows 'for every input' (looked for: loops, veiled, ifaces, maps, wideKeys, modest, calm, conditions, laid).
  DERIVED. THE GIVEN ROWS OF THIS SEAT. 9 by the template 'for every input the law returns true; each argument reads behind the call as it read before'; 0 by the template 'total and deterministic' (their statements: YteppnjgobaggaaaTotals.lean).
  GIVEN WITH THE SEED: the statements are not yours to turn. If you find one false, say at which input.
  Laid BY PROGRAM, IN A SANDBOX (cutbox-rows.mjs): the forced cells as the released guide's own fill.sh prints them over the translation 19d46d875fbeb7a0… (all of the seat's roots in one cut). By AI agents, Wed Nov 11 2026. No macro, syntax, notation, axiom, sorry.
-/
import Derived.Test.YteppnjgobaggaaaChecked
import GoSem.Claim
import GoSem.ClaimJoined
import GoSem.ClaimMapViews
import Derived.JoinedTies
import Derived.KernelRfl
namespace Go.Proofs.Yteppnjgobaggaaa
/- THE CELL 'sum', in the pinned program and in every row, IS THE sha256 OF THE DUMP (.gsa) THAT YteppnjgobaggaaaProg.lean LOADS. Nothing in Lean hashes anything: it is a label: what it is worth is what the hold of that sum in a sandbox is worth. -/
noncomputable def Try.pinned : Pinned := { name := "yteppnjgobaggaaa", sum := "19d46d875fbeb7a08a807fdd6d6787cae56e83d5c28a1e97a3afc39bff776657", checked := Try.checked }
namespace Rows
def none {H : Type} : Left H := { results := [], args := [] }

/-- 'trustquorumlaw36.AccountsBegin': WHATEVER THE INPUT: true; the input reads as it did. -/
def accountsBeginSpec : ChangeSpec := { name := "accountsBegin", fn := fun _ => fun
  | [d1, d2] => { results := [.lit (.bool true)], args := [d1, d2] }
  | _ => none }
def accountsBeginRow : OpenClaim := { program := "yteppnjgobaggaaa", sum := "19d46d875fbeb7a08a807fdd6d6787cae56e83d5c28a1e97a3afc39bff776657", func := "trustquorum/trustquorumlaw36.AccountsBegin", spec := "accountsBegin", unfollowed := true, recurses := true, apart := false }
def AccountsBeginSaid : Prop := accountsBeginRow.holds Try.pinned (OpenSpec.ofChange accountsBeginSpec)

/-- ITS FALSE NEIGHBOUR: 'it returns false'. Refute it at one input. -/
def accountsBeginWrong : ChangeSpec := { name := "accountsBegin", fn := fun _ => fun
  | [d1, d2] => { results := [.lit (.bool false)], args := [d1, d2] }
  | _ => none }
def AccountsBeginWrongFalsely : Prop := accountsBeginRow.holds Try.pinned (OpenSpec.ofChange accountsBeginWrong)

/-- 'trustquorumlaw37.TrustlinesRoom': WHATEVER THE INPUT: true; the input reads as it did. -/
def trustlinesRoomSpec : ChangeSpec := { name := "trustlinesRoom", fn := fun _ => fun
  | [d] => { results := [.lit (.bool true)], args := [d] }
  | _ => none }
def trustlinesRoomRow : OpenClaim := { program := "yteppnjgobaggaaa", sum := "19d46d875fbeb7a08a807fdd6d6787cae56e83d5c28a1e97a3afc39bff776657", func := "trustquorum/trustquorumlaw37.TrustlinesRoom", spec := "trustlinesRoom", unfollowed := true, recurses := true, apart := false }
def TrustlinesRoomSaid : Prop := trustlinesRoomRow.holds Try.pinned (OpenSpec.ofChange trustlinesRoomSpec)

/-- ITS FALSE NEIGHBOUR: 'it returns false'. Refute it at one input. -/
def trustlinesRoomWrong : ChangeSpec := { name := "trustlinesRoom", fn := fun _ => fun
  | [d] => { results := [.lit (.bool false)], args := [d] }
  | _ => none }
def TrustlinesRoomWrongFalsely : Prop := trustlinesRoomRow.holds Try.pinned (OpenSpec.ofChange trustlinesRoomWrong)

/-- 'trustquorumlaw37.TrustlinesKeep': WHATEVER THE INPUT: true; the input reads as it did. -/
def trustlinesKeepSpec : ChangeSpec := { name := "trustlinesKeep", fn := fun _ => fun
  | [d1, d2] => { results := [.lit (.bool true)], args := [d1, d2] }
  | _ => none }
def trustlinesKeepRow : OpenClaim := { program := "yteppnjgobaggaaa", sum := "19d46d875fbeb7a08a807fdd6d6787cae56e83d5c28a1e97a3afc39bff776657", func := "trustquorum/trustquorumlaw37.TrustlinesKeep", spec := "trustlinesKeep", unfollowed := true, recurses := true, apart := false }
def TrustlinesKeepSaid : Prop := trustlinesKeepRow.holds Try.pinned (OpenSpec.ofChange trustlinesKeepSpec)

/-- ITS FALSE NEIGHBOUR: 'it returns false'. Refute it at one input. -/
def trustlinesKeepWrong : ChangeSpec := { name := "trustlinesKeep", fn := fun _ => fun
  | [d1, d2] => { results := [.lit (.bool false)], args := [d1, d2] }
  | _ => none }
def TrustlinesKeepWrongFalsely : Prop := trustlinesKeepRow.holds Try.pinned (OpenSpec.ofChange trustlinesKeepWrong)

/-- 'trustquorumlaw37.TrustlinesMove': WHATEVER THE INPUT: true; the input reads as it did. -/
def trustlinesMoveSpec : ChangeSpec := { name := "trustlinesMove", fn := fun _ => fun
  | [d1, d2] => { results := [.lit (.bool true)], args := [d1, d2] }
  | _ => none }
def trustlinesMoveRow : OpenClaim := { program := "yteppnjgobaggaaa", sum := "19d46d875fbeb7a08a807fdd6d6787cae56e83d5c28a1e97a3afc39bff776657", func := "trustquorum/trustquorumlaw37.TrustlinesMove", spec := "trustlinesMove", unfollowed := true, recurses := true, apart := false }
def TrustlinesMoveSaid : Prop := trustlinesMoveRow.holds Try.pinned (OpenSpec.ofChange trustlinesMoveSpec)

/-- ITS FALSE NEIGHBOUR: 'it returns false'. Refute it at one input. -/
def trustlinesMoveWrong : ChangeSpec := { name := "trustlinesMove", fn := fun _ => fun
  | [d1, d2] => { results := [.lit (.bool false)], args := [d1, d2] }
  | _ => none }
def TrustlinesMoveWrongFalsely : Prop := trustlinesMoveRow.holds Try.pinned (OpenSpec.ofChange trustlinesMoveWrong)

/-- 'trustquorumlaw36.AccountsOrder': WHATEVER THE INPUT: true; the input reads as it did. -/
def accountsOrderSpec : ChangeSpec := { name := "accountsOrder", fn := fun _ => fun
  | [d1, d2] => { results := [.lit (.bool true)], args := [d1, d2] }
  | _ => none }
def accountsOrderRow : OpenClaim := { program := "yteppnjgobaggaaa", sum := "19d46d875fbeb7a08a807fdd6d6787cae56e83d5c28a1e97a3afc39bff776657", func := "trustquorum/trustquorumlaw36.AccountsOrder", spec := "accountsOrder", inPlace := ["slices.overlaps[trustquorum/api.Account]"], unfollowed := true, recurses := true, apart := false }
def AccountsOrderSaid : Prop := accountsOrderRow.holds Try.pinned (OpenSpec.ofChange accountsOrderSpec)

/-- ITS FALSE NEIGHBOUR: 'it returns false'. Refute it at one input. -/
def accountsOrderWrong : ChangeSpec := { name := "accountsOrder", fn := fun _ => fun
  | [d1, d2] => { results := [.lit (.bool false)], args := [d1, d2] }
  | _ => none }
def AccountsOrderWrongFalsely : Prop := accountsOrderRow.holds Try.pinned (OpenSpec.ofChange accountsOrderWrong)

/-- 'trustquorumlaw36.AccountsExact': WHATEVER THE INPUT: true; the input reads as it did. -/
def accountsExactSpec : ChangeSpec := { name := "accountsExact", fn := fun _ => fun
  | [d1, d2, d3, d4, d5] => { results := [.lit (.bool true)], args := [d1, d2, d3, d4, d5] }
  | _ => none }
def accountsExactRow : OpenClaim := { program := "yteppnjgobaggaaa", sum := "19d46d875fbeb7a08a807fdd6d6787cae56e83d5c28a1e97a3afc39bff776657", func := "trustquorum/trustquorumlaw36.AccountsExact", spec := "accountsExact", inPlace := ["slices.overlaps[trustquorum/api.Account]"], unfollowed := true, recurses := true, apart := false }
def AccountsExactSaid : Prop := accountsExactRow.holds Try.pinned (OpenSpec.ofChange accountsExactSpec)

/-- ITS FALSE NEIGHBOUR: 'it returns false'. Refute it at one input. -/
def accountsExactWrong : ChangeSpec := { name := "accountsExact", fn := fun _ => fun
  | [d1, d2, d3, d4, d5] => { results := [.lit (.bool false)], args := [d1, d2, d3, d4, d5] }
  | _ => none }
def AccountsExactWrongFalsely : Prop := accountsExactRow.holds Try.pinned (OpenSpec.ofChange accountsExactWrong)

/-- 'trustquorumlaw36.AccountsKeep': WHATEVER THE INPUT: true; the input reads as it did. -/
def accountsKeepSpec : ChangeSpec := { name := "accountsKeep", fn := fun _ => fun
  | [d1, d2] => { results := [.lit (.bool true)], args := [d1, d2] }
  | _ => none }
def accountsKeepRow : OpenClaim := { program := "yteppnjgobaggaaa", sum := "19d46d875fbeb7a08a807fdd6d6787cae56e83d5c28a1e97a3afc39bff776657", func := "trustquorum/trustquorumlaw36.AccountsKeep", spec := "accountsKeep", inPlace := ["slices.overlaps[trustquorum/api.Account]"], unfollowed := true, recurses := true, apart := false }
def AccountsKeepSaid : Prop := accountsKeepRow.holds Try.pinned (OpenSpec.ofChange accountsKeepSpec)

/-- ITS FALSE NEIGHBOUR: 'it returns false'. Refute it at one input. -/
def accountsKeepWrong : ChangeSpec := { name := "accountsKeep", fn := fun _ => fun
  | [d1, d2] => { results := [.lit (.bool false)], args := [d1, d2] }
  | _ => none }
def AccountsKeepWrongFalsely : Prop := accountsKeepRow.holds Try.pinned (OpenSpec.ofChange accountsKeepWrong)

/-- 'trustquorumlaw37.TrustlinesLimits': WHATEVER THE INPUT: true; the input reads as it did. -/
def trustlinesLimitsSpec : ChangeSpec := { name := "trustlinesLimits", fn := fun _ => fun
  | [d1, d2] => { results := [.lit (.bool true)], args := [d1, d2] }
  | _ => none }
def trustlinesLimitsRow : OpenClaim := { program := "yteppnjgobaggaaa", sum := "19d46d875fbeb7a08a807fdd6d6787cae56e83d5c28a1e97a3afc39bff776657", func := "trustquorum/trustquorumlaw37.TrustlinesLimits", spec := "trustlinesLimits", inPlace := ["slices.overlaps[trustquorum/api.Line]"], unfollowed := true, recurses := true, apart := false }
def TrustlinesLimitsSaid : Prop := trustlinesLimitsRow.holds Try.pinned (OpenSpec.ofChange trustlinesLimitsSpec)

/-- ITS FALSE NEIGHBOUR: 'it returns false'. Refute it at one input. -/
def trustlinesLimitsWrong : ChangeSpec := { name := "trustlinesLimits", fn := fun _ => fun
  | [d1, d2] => { results := [.lit (.bool false)], args := [d1, d2] }
  | _ => none }
def TrustlinesLimitsWrongFalsely : Prop := trustlinesLimitsRow.holds Try.pinned (OpenSpec.ofChange trustlinesLimitsWrong)

/-- 'trustquorumlaw37.TrustlinesExact': WHATEVER THE INPUT: true; the input reads as it did. -/
def trustlinesExactSpec : ChangeSpec := { name := "trustlinesExact", fn := fun _ => fun
  | [d1, d2, d3, d4, d5] => { results := [.lit (.bool true)], args := [d1, d2, d3, d4, d5] }
  | _ => none }
def trustlinesExactRow : OpenClaim := { program := "yteppnjgobaggaaa", sum := "19d46d875fbeb7a08a807fdd6d6787cae56e83d5c28a1e97a3afc39bff776657", func := "trustquorum/trustquorumlaw37.TrustlinesExact", spec := "trustlinesExact", inPlace := ["slices.overlaps[trustquorum/api.Line]"], unfollowed := true, recurses := true, apart := false }
def TrustlinesExactSaid : Prop := trustlinesExactRow.holds Try.pinned (OpenSpec.ofChange trustlinesExactSpec)

/-- ITS FALSE NEIGHBOUR: 'it returns false'. Refute it at one input. -/
def trustlinesExactWrong : ChangeSpec := { name := "trustlinesExact", fn := fun _ => fun
  | [d1, d2, d3, d4, d5] => { results := [.lit (.bool false)], args := [d1, d2, d3, d4, d5] }
  | _ => none }
def TrustlinesExactWrongFalsely : Prop := trustlinesExactRow.holds Try.pinned (OpenSpec.ofChange trustlinesExactWrong)

/- THE SECOND FORM. 'bulk': how many values and letters a reading holds, each counted each time it is reached (what is shared counts as often as it is met; a slice's spare places count too). A statement '..UptoSaid' is the law's where the arguments, and the package variables that the reading takes, are together of bulk at most 1048576: NARROWER than '..Said'. Prove '..Said' where nothing that the law and all that it calls make is longer than what came in: it says more and counts as full. Else prove '..UptoSaid'. A law counts once. -/
mutual
def uptoBulk {H : Type} : DataW H → Nat
  | .lit (.string bytes) => bytes.length + 1
  | .lit _ => 1
  | .nil => 1
  | .ptr d => uptoBulk d + 1
  | .slice elems spare => uptoBulkAll elems + uptoBulkAll spare + 1
  | .agg parts => uptoBulkAll parts + 1
  | .iface _ d => uptoBulk d + 1
  | .map entries => uptoBulkEntries entries + 1
  | .held _ => 1
def uptoBulkAll {H : Type} : List (DataW H) → Nat
  | [] => 0
  | d :: r => uptoBulk d + uptoBulkAll r
def uptoBulkEntries {H : Type} : List (Lit × DataW H) → Nat
  | [] => 0
  | x :: r => uptoBulkEntry x + uptoBulkEntries r
def uptoBulkEntry {H : Type} : Lit × DataW H → Nat
  | (.string bytes, d) => bytes.length + uptoBulk d + 1
  | (_, d) => uptoBulk d + 1
 end
def uptoSmall : (H : Type) → List (DataW H) → Bool := fun _ ds => decide (uptoBulkAll ds ≤ 1048576)
def OpenSpec.upto (s : _root_.Go.ChangeSpec) : _root_.Go.OpenSpec := { _root_.Go.OpenSpec.ofChange s with cond := some uptoSmall }

/-- 'trustquorumlaw36.AccountsBegin', WHERE WHAT IT READS IS OF BULK AT MOST 1048576: true; the input reads as it did. -/
def accountsBeginUptoRow : OpenClaim := { program := "yteppnjgobaggaaa", sum := "19d46d875fbeb7a08a807fdd6d6787cae56e83d5c28a1e97a3afc39bff776657", func := "trustquorum/trustquorumlaw36.AccountsBegin", spec := "accountsBegin", unfollowed := true, recurses := true, apart := false, narrowed := true }
def AccountsBeginUptoSaid : Prop := accountsBeginUptoRow.holds Try.pinned (OpenSpec.upto accountsBeginSpec)

/-- 'trustquorumlaw37.TrustlinesRoom', WHERE WHAT IT READS IS OF BULK AT MOST 1048576: true; the input reads as it did. -/
def trustlinesRoomUptoRow : OpenClaim := { program := "yteppnjgobaggaaa", sum := "19d46d875fbeb7a08a807fdd6d6787cae56e83d5c28a1e97a3afc39bff776657", func := "trustquorum/trustquorumlaw37.TrustlinesRoom", spec := "trustlinesRoom", unfollowed := true, recurses := true, apart := false, narrowed := true }
def TrustlinesRoomUptoSaid : Prop := trustlinesRoomUptoRow.holds Try.pinned (OpenSpec.upto trustlinesRoomSpec)

/-- 'trustquorumlaw37.TrustlinesKeep', WHERE WHAT IT READS IS OF BULK AT MOST 1048576: true; the input reads as it did. -/
def trustlinesKeepUptoRow : OpenClaim := { program := "yteppnjgobaggaaa", sum := "19d46d875fbeb7a08a807fdd6d6787cae56e83d5c28a1e97a3afc39bff776657", func := "trustquorum/trustquorumlaw37.TrustlinesKeep", spec := "trustlinesKeep", unfollowed := true, recurses := true, apart := false, narrowed := true }
def TrustlinesKeepUptoSaid : Prop := trustlinesKeepUptoRow.holds Try.pinned (OpenSpec.upto trustlinesKeepSpec)

/-- 'trustquorumlaw37.TrustlinesMove', WHERE WHAT IT READS IS OF BULK AT MOST 1048576: true; the input reads as it did. -/
def trustlinesMoveUptoRow : OpenClaim := { program := "yteppnjgobaggaaa", sum := "19d46d875fbeb7a08a807fdd6d6787cae56e83d5c28a1e97a3afc39bff776657", func := "trustquorum/trustquorumlaw37.TrustlinesMove", spec := "trustlinesMove", unfollowed := true, recurses := true, apart := false, narrowed := true }
def TrustlinesMoveUptoSaid : Prop := trustlinesMoveUptoRow.holds Try.pinned (OpenSpec.upto trustlinesMoveSpec)

/-- 'trustquorumlaw36.AccountsOrder', WHERE WHAT IT READS IS OF BULK AT MOST 1048576: true; the input reads as it did. -/
def accountsOrderUptoRow : OpenClaim := { program := "yteppnjgobaggaaa", sum := "19d46d875fbeb7a08a807fdd6d6787cae56e83d5c28a1e97a3afc39bff776657", func := "trustquorum/trustquorumlaw36.AccountsOrder", spec := "accountsOrder", inPlace := ["slices.overlaps[trustquorum/api.Account]"], unfollowed := true, recurses := true, apart := false, narrowed := true }
def AccountsOrderUptoSaid : Prop := accountsOrderUptoRow.holds Try.pinned (OpenSpec.upto accountsOrderSpec)

/-- 'trustquorumlaw36.AccountsExact', WHERE WHAT IT READS IS OF BULK AT MOST 1048576: true; the input reads as it did. -/
def accountsExactUptoRow : OpenClaim := { program := "yteppnjgobaggaaa", sum := "19d46d875fbeb7a08a807fdd6d6787cae56e83d5c28a1e97a3afc39bff776657", func := "trustquorum/trustquorumlaw36.AccountsExact", spec := "accountsExact", inPlace := ["slices.overlaps[trustquorum/api.Account]"], unfollowed := true, recurses := true, apart := false, narrowed := true }
def AccountsExactUptoSaid : Prop := accountsExactUptoRow.holds Try.pinned (OpenSpec.upto accountsExactSpec)

/-- 'trustquorumlaw36.AccountsKeep', WHERE WHAT IT READS IS OF BULK AT MOST 1048576: true; the input reads as it did. -/
def accountsKeepUptoRow : OpenClaim := { program := "yteppnjgobaggaaa", sum := "19d46d875fbeb7a08a807fdd6d6787cae56e83d5c28a1e97a3afc39bff776657", func := "trustquorum/trustquorumlaw36.AccountsKeep", spec := "accountsKeep", inPlace := ["slices.overlaps[trustquorum/api.Account]"], unfollowed := true, recurses := true, apart := false, narrowed := true }
def AccountsKeepUptoSaid : Prop := accountsKeepUptoRow.holds Try.pinned (OpenSpec.upto accountsKeepSpec)

/-- 'trustquorumlaw37.TrustlinesLimits', WHERE WHAT IT READS IS OF BULK AT MOST 1048576: true; the input reads as it did. -/
def trustlinesLimitsUptoRow : OpenClaim := { program := "yteppnjgobaggaaa", sum := "19d46d875fbeb7a08a807fdd6d6787cae56e83d5c28a1e97a3afc39bff776657", func := "trustquorum/trustquorumlaw37.TrustlinesLimits", spec := "trustlinesLimits", inPlace := ["slices.overlaps[trustquorum/api.Line]"], unfollowed := true, recurses := true, apart := false, narrowed := true }
def TrustlinesLimitsUptoSaid : Prop := trustlinesLimitsUptoRow.holds Try.pinned (OpenSpec.upto trustlinesLimitsSpec)

/-- 'trustquorumlaw37.TrustlinesExact', WHERE WHAT IT READS IS OF BULK AT MOST 1048576: true; the input reads as it did. -/
def trustlinesExactUptoRow : OpenClaim := { program := "yteppnjgobaggaaa", sum := "19d46d875fbeb7a08a807fdd6d6787cae56e83d5c28a1e97a3afc39bff776657", func := "trustquorum/trustquorumlaw37.TrustlinesExact", spec := "trustlinesExact", inPlace := ["slices.overlaps[trustquorum/api.Line]"], unfollowed := true, recurses := true, apart := false, narrowed := true }
def TrustlinesExactUptoSaid : Prop := trustlinesExactUptoRow.holds Try.pinned (OpenSpec.upto trustlinesExactSpec)

end Rows
end Go.Proofs.Yteppnjgobaggaaa
