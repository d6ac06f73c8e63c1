/-
  No cell of these rows narrows 'for every input' (looked for: loops, veiled, ifaces, maps, wideKeys, modest, calm, conditions, laid).
  DERIVED. THE GIVEN ROWS OF THIS SEAT. 12 by the template 'for every input the law returns true; each argument reads behind the call as it read before'; 0 by the template 'total and deterministic' (their statements: YteppnjgobaggaaaGreatTotals.lean).
  GIVEN WITH THE SEED: the statements are not yours to turn. If you find one false, say at which input.
  Laid BY PROGRAM, IN A SANDBOX (cutbox-rows.mjs): the forced cells as the released guide's own fill.sh prints them over the translation 1d3bc8807bde494b… (all of the seat's roots in one cut). By AI agents, Wed Nov 11 2026. No macro, syntax, notation, axiom, sorry.
-/
import Derived.Test.YteppnjgobaggaaaGreatChecked
import GoSem.Claim
import GoSem.ClaimJoined
import GoSem.ClaimMapViews
import Derived.JoinedTies
import Derived.KernelRfl
namespace Go.Proofs.YteppnjgobaggaaaGreat
/- THE CELL 'sum', in the pinned program and in every row, IS THE sha256 OF THE DUMP (.gsa) THAT YteppnjgobaggaaaGreatProg.lean LOADS. Nothing in Lean hashes anything: it is a label: what it is worth is what the hold of that sum in a sandbox is worth. -/
noncomputable def Tryz.pinned : Pinned := { name := "yteppnjgobaggaaagreat", sum := "1d3bc8807bde494bdceed4f8d7a3fae953c86aad24fc5a34930a4b45646d0e9e", checked := Tryz.checked }
namespace Rows
def none {H : Type} : Left H := { results := [], args := [] }

/-- 'trustquorumlaw38.OffersKeep': WHATEVER THE INPUT: true; the input reads as it did. -/
def offersKeepSpec : ChangeSpec := { name := "offersKeep", fn := fun _ => fun
  | [d1, d2] => { results := [.lit (.bool true)], args := [d1, d2] }
  | _ => none }
def offersKeepRow : OpenClaim := { program := "yteppnjgobaggaaagreat", sum := "1d3bc8807bde494bdceed4f8d7a3fae953c86aad24fc5a34930a4b45646d0e9e", func := "trustquorum/trustquorumlaw38.OffersKeep", spec := "offersKeep", unfollowed := true, recurses := true, apart := false }
def OffersKeepSaid : Prop := offersKeepRow.holds Tryz.pinned (OpenSpec.ofChange offersKeepSpec)

/-- ITS FALSE NEIGHBOUR: 'it returns false'. Refute it at one input. -/
def offersKeepWrong : ChangeSpec := { name := "offersKeep", fn := fun _ => fun
  | [d1, d2] => { results := [.lit (.bool false)], args := [d1, d2] }
  | _ => none }
def OffersKeepWrongFalsely : Prop := offersKeepRow.holds Tryz.pinned (OpenSpec.ofChange offersKeepWrong)

/-- 'trustquorumlaw38.OffersPrice': WHATEVER THE INPUT: true; the input reads as it did. -/
def offersPriceSpec : ChangeSpec := { name := "offersPrice", fn := fun _ => fun
  | [d1, d2] => { results := [.lit (.bool true)], args := [d1, d2] }
  | _ => none }
def offersPriceRow : OpenClaim := { program := "yteppnjgobaggaaagreat", sum := "1d3bc8807bde494bdceed4f8d7a3fae953c86aad24fc5a34930a4b45646d0e9e", func := "trustquorum/trustquorumlaw38.OffersPrice", spec := "offersPrice", unfollowed := true, recurses := true, apart := false }
def OffersPriceSaid : Prop := offersPriceRow.holds Tryz.pinned (OpenSpec.ofChange offersPriceSpec)

/-- ITS FALSE NEIGHBOUR: 'it returns false'. Refute it at one input. -/
def offersPriceWrong : ChangeSpec := { name := "offersPrice", fn := fun _ => fun
  | [d1, d2] => { results := [.lit (.bool false)], args := [d1, d2] }
  | _ => none }
def OffersPriceWrongFalsely : Prop := offersPriceRow.holds Tryz.pinned (OpenSpec.ofChange offersPriceWrong)

/-- 'trustquorumlaw38.OffersBook': WHATEVER THE INPUT: true; the input reads as it did. -/
def offersBookSpec : ChangeSpec := { name := "offersBook", fn := fun _ => fun
  | [d] => { results := [.lit (.bool true)], args := [d] }
  | _ => none }
def offersBookRow : OpenClaim := { program := "yteppnjgobaggaaagreat", sum := "1d3bc8807bde494bdceed4f8d7a3fae953c86aad24fc5a34930a4b45646d0e9e", func := "trustquorum/trustquorumlaw38.OffersBook", spec := "offersBook", unfollowed := true, recurses := true, apart := false }
def OffersBookSaid : Prop := offersBookRow.holds Tryz.pinned (OpenSpec.ofChange offersBookSpec)

/-- ITS FALSE NEIGHBOUR: 'it returns false'. Refute it at one input. -/
def offersBookWrong : ChangeSpec := { name := "offersBook", fn := fun _ => fun
  | [d] => { results := [.lit (.bool false)], args := [d] }
  | _ => none }
def OffersBookWrongFalsely : Prop := offersBookRow.holds Tryz.pinned (OpenSpec.ofChange offersBookWrong)

/-- 'trustquorumlaw38.OffersParts': WHATEVER THE INPUT: true; the input reads as it did. -/
def offersPartsSpec : ChangeSpec := { name := "offersParts", fn := fun _ => fun
  | [d1, d2, d3] => { results := [.lit (.bool true)], args := [d1, d2, d3] }
  | _ => none }
def offersPartsRow : OpenClaim := { program := "yteppnjgobaggaaagreat", sum := "1d3bc8807bde494bdceed4f8d7a3fae953c86aad24fc5a34930a4b45646d0e9e", func := "trustquorum/trustquorumlaw38.OffersParts", spec := "offersParts", unfollowed := true, recurses := true, apart := false }
def OffersPartsSaid : Prop := offersPartsRow.holds Tryz.pinned (OpenSpec.ofChange offersPartsSpec)

/-- ITS FALSE NEIGHBOUR: 'it returns false'. Refute it at one input. -/
def offersPartsWrong : ChangeSpec := { name := "offersParts", fn := fun _ => fun
  | [d1, d2, d3] => { results := [.lit (.bool false)], args := [d1, d2, d3] }
  | _ => none }
def OffersPartsWrongFalsely : Prop := offersPartsRow.holds Tryz.pinned (OpenSpec.ofChange offersPartsWrong)

/-- 'trustquorumlaw38.OffersAble': WHATEVER THE INPUT: true; the input reads as it did. -/
def offersAbleSpec : ChangeSpec := { name := "offersAble", fn := fun _ => fun
  | [d] => { results := [.lit (.bool true)], args := [d] }
  | _ => none }
def offersAbleRow : OpenClaim := { program := "yteppnjgobaggaaagreat", sum := "1d3bc8807bde494bdceed4f8d7a3fae953c86aad24fc5a34930a4b45646d0e9e", func := "trustquorum/trustquorumlaw38.OffersAble", spec := "offersAble", unfollowed := true, recurses := true, apart := false }
def OffersAbleSaid : Prop := offersAbleRow.holds Tryz.pinned (OpenSpec.ofChange offersAbleSpec)

/-- ITS FALSE NEIGHBOUR: 'it returns false'. Refute it at one input. -/
def offersAbleWrong : ChangeSpec := { name := "offersAble", fn := fun _ => fun
  | [d] => { results := [.lit (.bool false)], args := [d] }
  | _ => none }
def OffersAbleWrongFalsely : Prop := offersAbleRow.holds Tryz.pinned (OpenSpec.ofChange offersAbleWrong)

/-- 'trustquorumlaw38.OffersAdd': WHATEVER THE INPUT: true; the input reads as it did. -/
def offersAddSpec : ChangeSpec := { name := "offersAdd", fn := fun _ => fun
  | [d] => { results := [.lit (.bool true)], args := [d] }
  | _ => none }
def offersAddRow : OpenClaim := { program := "yteppnjgobaggaaagreat", sum := "1d3bc8807bde494bdceed4f8d7a3fae953c86aad24fc5a34930a4b45646d0e9e", func := "trustquorum/trustquorumlaw38.OffersAdd", spec := "offersAdd", unfollowed := true, recurses := true, apart := false }
def OffersAddSaid : Prop := offersAddRow.holds Tryz.pinned (OpenSpec.ofChange offersAddSpec)

/-- ITS FALSE NEIGHBOUR: 'it returns false'. Refute it at one input. -/
def offersAddWrong : ChangeSpec := { name := "offersAdd", fn := fun _ => fun
  | [d] => { results := [.lit (.bool false)], args := [d] }
  | _ => none }
def OffersAddWrongFalsely : Prop := offersAddRow.holds Tryz.pinned (OpenSpec.ofChange offersAddWrong)

/-- 'trustquorumlaw38.OffersExact': WHATEVER THE INPUT: true; the input reads as it did. -/
def offersExactSpec : ChangeSpec := { name := "offersExact", fn := fun _ => fun
  | [d1, d2, d3, d4, d5, d6, d7, d8, d9] => { results := [.lit (.bool true)], args := [d1, d2, d3, d4, d5, d6, d7, d8, d9] }
  | _ => none }
def offersExactRow : OpenClaim := { program := "yteppnjgobaggaaagreat", sum := "1d3bc8807bde494bdceed4f8d7a3fae953c86aad24fc5a34930a4b45646d0e9e", func := "trustquorum/trustquorumlaw38.OffersExact", spec := "offersExact", unfollowed := true, recurses := true, apart := false }
def OffersExactSaid : Prop := offersExactRow.holds Tryz.pinned (OpenSpec.ofChange offersExactSpec)

/-- ITS FALSE NEIGHBOUR: 'it returns false'. Refute it at one input. -/
def offersExactWrong : ChangeSpec := { name := "offersExact", fn := fun _ => fun
  | [d1, d2, d3, d4, d5, d6, d7, d8, d9] => { results := [.lit (.bool false)], args := [d1, d2, d3, d4, d5, d6, d7, d8, d9] }
  | _ => none }
def OffersExactWrongFalsely : Prop := offersExactRow.holds Tryz.pinned (OpenSpec.ofChange offersExactWrong)

/-- 'trustquorumlaw39.PathsDeliver': WHATEVER THE INPUT: true; the input reads as it did. -/
def pathsDeliverSpec : ChangeSpec := { name := "pathsDeliver", fn := fun _ => fun
  | [d1, d2] => { results := [.lit (.bool true)], args := [d1, d2] }
  | _ => none }
def pathsDeliverRow : OpenClaim := { program := "yteppnjgobaggaaagreat", sum := "1d3bc8807bde494bdceed4f8d7a3fae953c86aad24fc5a34930a4b45646d0e9e", func := "trustquorum/trustquorumlaw39.PathsDeliver", spec := "pathsDeliver", unfollowed := true, recurses := true, apart := false }
def PathsDeliverSaid : Prop := pathsDeliverRow.holds Tryz.pinned (OpenSpec.ofChange pathsDeliverSpec)

/-- ITS FALSE NEIGHBOUR: 'it returns false'. Refute it at one input. -/
def pathsDeliverWrong : ChangeSpec := { name := "pathsDeliver", fn := fun _ => fun
  | [d1, d2] => { results := [.lit (.bool false)], args := [d1, d2] }
  | _ => none }
def PathsDeliverWrongFalsely : Prop := pathsDeliverRow.holds Tryz.pinned (OpenSpec.ofChange pathsDeliverWrong)

/-- 'trustquorumlaw39.PathsChain': WHATEVER THE INPUT: true; the input reads as it did. -/
def pathsChainSpec : ChangeSpec := { name := "pathsChain", fn := fun _ => fun
  | [d1, d2] => { results := [.lit (.bool true)], args := [d1, d2] }
  | _ => none }
def pathsChainRow : OpenClaim := { program := "yteppnjgobaggaaagreat", sum := "1d3bc8807bde494bdceed4f8d7a3fae953c86aad24fc5a34930a4b45646d0e9e", func := "trustquorum/trustquorumlaw39.PathsChain", spec := "pathsChain", unfollowed := true, recurses := true, apart := false }
def PathsChainSaid : Prop := pathsChainRow.holds Tryz.pinned (OpenSpec.ofChange pathsChainSpec)

/-- ITS FALSE NEIGHBOUR: 'it returns false'. Refute it at one input. -/
def pathsChainWrong : ChangeSpec := { name := "pathsChain", fn := fun _ => fun
  | [d1, d2] => { results := [.lit (.bool false)], args := [d1, d2] }
  | _ => none }
def PathsChainWrongFalsely : Prop := pathsChainRow.holds Tryz.pinned (OpenSpec.ofChange pathsChainWrong)

/-- 'trustquorumlaw39.PathsPay': WHATEVER THE INPUT: true; the input reads as it did. -/
def pathsPaySpec : ChangeSpec := { name := "pathsPay", fn := fun _ => fun
  | [d1, d2] => { results := [.lit (.bool true)], args := [d1, d2] }
  | _ => none }
def pathsPayRow : OpenClaim := { program := "yteppnjgobaggaaagreat", sum := "1d3bc8807bde494bdceed4f8d7a3fae953c86aad24fc5a34930a4b45646d0e9e", func := "trustquorum/trustquorumlaw39.PathsPay", spec := "pathsPay", unfollowed := true, recurses := true, apart := false }
def PathsPaySaid : Prop := pathsPayRow.holds Tryz.pinned (OpenSpec.ofChange pathsPaySpec)

/-- ITS FALSE NEIGHBOUR: 'it returns false'. Refute it at one input. -/
def pathsPayWrong : ChangeSpec := { name := "pathsPay", fn := fun _ => fun
  | [d1, d2] => { results := [.lit (.bool false)], args := [d1, d2] }
  | _ => none }
def PathsPayWrongFalsely : Prop := pathsPayRow.holds Tryz.pinned (OpenSpec.ofChange pathsPayWrong)

/-- 'trustquorumlaw39.PathsBest': WHATEVER THE INPUT: true; the input reads as it did. -/
def pathsBestSpec : ChangeSpec := { name := "pathsBest", fn := fun _ => fun
  | [d1, d2] => { results := [.lit (.bool true)], args := [d1, d2] }
  | _ => none }
def pathsBestRow : OpenClaim := { program := "yteppnjgobaggaaagreat", sum := "1d3bc8807bde494bdceed4f8d7a3fae953c86aad24fc5a34930a4b45646d0e9e", func := "trustquorum/trustquorumlaw39.PathsBest", spec := "pathsBest", unfollowed := true, recurses := true, apart := false }
def PathsBestSaid : Prop := pathsBestRow.holds Tryz.pinned (OpenSpec.ofChange pathsBestSpec)

/-- ITS FALSE NEIGHBOUR: 'it returns false'. Refute it at one input. -/
def pathsBestWrong : ChangeSpec := { name := "pathsBest", fn := fun _ => fun
  | [d1, d2] => { results := [.lit (.bool false)], args := [d1, d2] }
  | _ => none }
def PathsBestWrongFalsely : Prop := pathsBestRow.holds Tryz.pinned (OpenSpec.ofChange pathsBestWrong)

/-- 'trustquorumlaw39.PathsExact': WHATEVER THE INPUT: true; the input reads as it did. -/
def pathsExactSpec : ChangeSpec := { name := "pathsExact", fn := fun _ => fun
  | [d1, d2, d3, d4, d5, d6, d7, d8, d9] => { results := [.lit (.bool true)], args := [d1, d2, d3, d4, d5, d6, d7, d8, d9] }
  | _ => none }
def pathsExactRow : OpenClaim := { program := "yteppnjgobaggaaagreat", sum := "1d3bc8807bde494bdceed4f8d7a3fae953c86aad24fc5a34930a4b45646d0e9e", func := "trustquorum/trustquorumlaw39.PathsExact", spec := "pathsExact", unfollowed := true, recurses := true, apart := false }
def PathsExactSaid : Prop := pathsExactRow.holds Tryz.pinned (OpenSpec.ofChange pathsExactSpec)

/-- ITS FALSE NEIGHBOUR: 'it returns false'. Refute it at one input. -/
def pathsExactWrong : ChangeSpec := { name := "pathsExact", fn := fun _ => fun
  | [d1, d2, d3, d4, d5, d6, d7, d8, d9] => { results := [.lit (.bool false)], args := [d1, d2, d3, d4, d5, d6, d7, d8, d9] }
  | _ => none }
def PathsExactWrongFalsely : Prop := pathsExactRow.holds Tryz.pinned (OpenSpec.ofChange pathsExactWrong)

/- THE SECOND FORM. 'bulk': how many values and letters a reading holds, each counted each time it is reached (what is shared counts as often as it is met; a slice's spare places count too). A statement '..UptoSaid' is the law's where the arguments, and the package variables that the reading takes, are together of bulk at most 1048576: NARROWER than '..Said'. Prove '..Said' where nothing that the law and all that it calls make is longer than what came in: it says more and counts as full. Else prove '..UptoSaid'. A law counts once. -/
mutual
def uptoBulk {H : Type} : DataW H → Nat
  | .lit (.string bytes) => bytes.length + 1
  | .lit _ => 1
  | .nil => 1
  | .ptr d => uptoBulk d + 1
  | .slice elems spare => uptoBulkAll elems + uptoBulkAll spare + 1
  | .agg parts => uptoBulkAll parts + 1
  | .iface _ d => uptoBulk d + 1
  | .map entries => uptoBulkEntries entries + 1
  | .held _ => 1
def uptoBulkAll {H : Type} : List (DataW H) → Nat
  | [] => 0
  | d :: r => uptoBulk d + uptoBulkAll r
def uptoBulkEntries {H : Type} : List (Lit × DataW H) → Nat
  | [] => 0
  | x :: r => uptoBulkEntry x + uptoBulkEntries r
def uptoBulkEntry {H : Type} : Lit × DataW H → Nat
  | (.string bytes, d) => bytes.length + uptoBulk d + 1
  | (_, d) => uptoBulk d + 1
 end
def uptoSmall : (H : Type) → List (DataW H) → Bool := fun _ ds => decide (uptoBulkAll ds ≤ 1048576)
def OpenSpec.upto (s : _root_.Go.ChangeSpec) : _root_.Go.OpenSpec := { _root_.Go.OpenSpec.ofChange s with cond := some uptoSmall }

/-- 'trustquorumlaw38.OffersKeep', WHERE WHAT IT READS IS OF BULK AT MOST 1048576: true; the input reads as it did. -/
def offersKeepUptoRow : OpenClaim := { program := "yteppnjgobaggaaagreat", sum := "1d3bc8807bde494bdceed4f8d7a3fae953c86aad24fc5a34930a4b45646d0e9e", func := "trustquorum/trustquorumlaw38.OffersKeep", spec := "offersKeep", unfollowed := true, recurses := true, apart := false, narrowed := true }
def OffersKeepUptoSaid : Prop := offersKeepUptoRow.holds Tryz.pinned (OpenSpec.upto offersKeepSpec)

/-- 'trustquorumlaw38.OffersPrice', WHERE WHAT IT READS IS OF BULK AT MOST 1048576: true; the input reads as it did. -/
def offersPriceUptoRow : OpenClaim := { program := "yteppnjgobaggaaagreat", sum := "1d3bc8807bde494bdceed4f8d7a3fae953c86aad24fc5a34930a4b45646d0e9e", func := "trustquorum/trustquorumlaw38.OffersPrice", spec := "offersPrice", unfollowed := true, recurses := true, apart := false, narrowed := true }
def OffersPriceUptoSaid : Prop := offersPriceUptoRow.holds Tryz.pinned (OpenSpec.upto offersPriceSpec)

/-- 'trustquorumlaw38.OffersBook', WHERE WHAT IT READS IS OF BULK AT MOST 1048576: true; the input reads as it did. -/
def offersBookUptoRow : OpenClaim := { program := "yteppnjgobaggaaagreat", sum := "1d3bc8807bde494bdceed4f8d7a3fae953c86aad24fc5a34930a4b45646d0e9e", func := "trustquorum/trustquorumlaw38.OffersBook", spec := "offersBook", unfollowed := true, recurses := true, apart := false, narrowed := true }
def OffersBookUptoSaid : Prop := offersBookUptoRow.holds Tryz.pinned (OpenSpec.upto offersBookSpec)

/-- 'trustquorumlaw38.OffersParts', WHERE WHAT IT READS IS OF BULK AT MOST 1048576: true; the input reads as it did. -/
def offersPartsUptoRow : OpenClaim := { program := "yteppnjgobaggaaagreat", sum := "1d3bc8807bde494bdceed4f8d7a3fae953c86aad24fc5a34930a4b45646d0e9e", func := "trustquorum/trustquorumlaw38.OffersParts", spec := "offersParts", unfollowed := true, recurses := true, apart := false, narrowed := true }
def OffersPartsUptoSaid : Prop := offersPartsUptoRow.holds Tryz.pinned (OpenSpec.upto offersPartsSpec)

/-- 'trustquorumlaw38.OffersAble', WHERE WHAT IT READS IS OF BULK AT MOST 1048576: true; the input reads as it did. -/
def offersAbleUptoRow : OpenClaim := { program := "yteppnjgobaggaaagreat", sum := "1d3bc8807bde494bdceed4f8d7a3fae953c86aad24fc5a34930a4b45646d0e9e", func := "trustquorum/trustquorumlaw38.OffersAble", spec := "offersAble", unfollowed := true, recurses := true, apart := false, narrowed := true }
def OffersAbleUptoSaid : Prop := offersAbleUptoRow.holds Tryz.pinned (OpenSpec.upto offersAbleSpec)

/-- 'trustquorumlaw38.OffersAdd', WHERE WHAT IT READS IS OF BULK AT MOST 1048576: true; the input reads as it did. -/
def offersAddUptoRow : OpenClaim := { program := "yteppnjgobaggaaagreat", sum := "1d3bc8807bde494bdceed4f8d7a3fae953c86aad24fc5a34930a4b45646d0e9e", func := "trustquorum/trustquorumlaw38.OffersAdd", spec := "offersAdd", unfollowed := true, recurses := true, apart := false, narrowed := true }
def OffersAddUptoSaid : Prop := offersAddUptoRow.holds Tryz.pinned (OpenSpec.upto offersAddSpec)

/-- 'trustquorumlaw38.OffersExact', WHERE WHAT IT READS IS OF BULK AT MOST 1048576: true; the input reads as it did. -/
def offersExactUptoRow : OpenClaim := { program := "yteppnjgobaggaaagreat", sum := "1d3bc8807bde494bdceed4f8d7a3fae953c86aad24fc5a34930a4b45646d0e9e", func := "trustquorum/trustquorumlaw38.OffersExact", spec := "offersExact", unfollowed := true, recurses := true, apart := false, narrowed := true }
def OffersExactUptoSaid : Prop := offersExactUptoRow.holds Tryz.pinned (OpenSpec.upto offersExactSpec)

/-- 'trustquorumlaw39.PathsDeliver', WHERE WHAT IT READS IS OF BULK AT MOST 1048576: true; the input reads as it did. -/
def pathsDeliverUptoRow : OpenClaim := { program := "yteppnjgobaggaaagreat", sum := "1d3bc8807bde494bdceed4f8d7a3fae953c86aad24fc5a34930a4b45646d0e9e", func := "trustquorum/trustquorumlaw39.PathsDeliver", spec := "pathsDeliver", unfollowed := true, recurses := true, apart := false, narrowed := true }
def PathsDeliverUptoSaid : Prop := pathsDeliverUptoRow.holds Tryz.pinned (OpenSpec.upto pathsDeliverSpec)

/-- 'trustquorumlaw39.PathsChain', WHERE WHAT IT READS IS OF BULK AT MOST 1048576: true; the input reads as it did. -/
def pathsChainUptoRow : OpenClaim := { program := "yteppnjgobaggaaagreat", sum := "1d3bc8807bde494bdceed4f8d7a3fae953c86aad24fc5a34930a4b45646d0e9e", func := "trustquorum/trustquorumlaw39.PathsChain", spec := "pathsChain", unfollowed := true, recurses := true, apart := false, narrowed := true }
def PathsChainUptoSaid : Prop := pathsChainUptoRow.holds Tryz.pinned (OpenSpec.upto pathsChainSpec)

/-- 'trustquorumlaw39.PathsPay', WHERE WHAT IT READS IS OF BULK AT MOST 1048576: true; the input reads as it did. -/
def pathsPayUptoRow : OpenClaim := { program := "yteppnjgobaggaaagreat", sum := "1d3bc8807bde494bdceed4f8d7a3fae953c86aad24fc5a34930a4b45646d0e9e", func := "trustquorum/trustquorumlaw39.PathsPay", spec := "pathsPay", unfollowed := true, recurses := true, apart := false, narrowed := true }
def PathsPayUptoSaid : Prop := pathsPayUptoRow.holds Tryz.pinned (OpenSpec.upto pathsPaySpec)

/-- 'trustquorumlaw39.PathsBest', WHERE WHAT IT READS IS OF BULK AT MOST 1048576: true; the input reads as it did. -/
def pathsBestUptoRow : OpenClaim := { program := "yteppnjgobaggaaagreat", sum := "1d3bc8807bde494bdceed4f8d7a3fae953c86aad24fc5a34930a4b45646d0e9e", func := "trustquorum/trustquorumlaw39.PathsBest", spec := "pathsBest", unfollowed := true, recurses := true, apart := false, narrowed := true }
def PathsBestUptoSaid : Prop := pathsBestUptoRow.holds Tryz.pinned (OpenSpec.upto pathsBestSpec)

/-- 'trustquorumlaw39.PathsExact', WHERE WHAT IT READS IS OF BULK AT MOST 1048576: true; the input reads as it did. -/
def pathsExactUptoRow : OpenClaim := { program := "yteppnjgobaggaaagreat", sum := "1d3bc8807bde494bdceed4f8d7a3fae953c86aad24fc5a34930a4b45646d0e9e", func := "trustquorum/trustquorumlaw39.PathsExact", spec := "pathsExact", unfollowed := true, recurses := true, apart := false, narrowed := true }
def PathsExactUptoSaid : Prop := pathsExactUptoRow.holds Tryz.pinned (OpenSpec.upto pathsExactSpec)

end Rows
end Go.Proofs.YteppnjgobaggaaaGreat
