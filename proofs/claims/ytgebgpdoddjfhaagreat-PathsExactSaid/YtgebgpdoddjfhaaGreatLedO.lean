/- Plain functions on offers, as the program and the reference compute them. No program stands here. -/
import Derived.Test.YtgebgpdoddjfhaaGreatLedL
namespace Go.Proofs.YtgebgpdoddjfhaaGreat
set_option linter.unusedSimpArgs false
set_option linter.unusedVariables false
set_option linter.unnecessarySimpa false
set_option linter.unusedSectionVars false
set_option maxRecDepth 100000
open Go.RowKit Go.Proofs.Grow Go.Sort

def leP : Option Off → Int → Bool
  | none, _ => false
  | some q, n => decide (n ≤ q.id)
def offOk (g : Led) (p : Option Off) (x : Off) : Bool :=
  (findA g.accs x.seller).2 && (!decide (x.id < 1) && (!decide (g.nid ≤ x.id) && (!leP p x.id && (assetB x.sc x.si && (assetB x.bc x.bi && (!eqT x.sc x.si x.bc x.bi && (!decide (x.amt < 1) && (okA x.amt &&
    (!((redF x.num x.den).1 == 0) && (!((redF x.num x.den).1 != x.num) && !((redF x.num x.den).2 != x.den)))))))))))
def offsOk (g : Led) : Option Off → List Off → Bool
  | _, [] => true
  | p, x :: r => offOk g p x && offsOk g (some x) r
def headOk (g : Led) : Bool := !decide (g.nid < 1) && (!decide (1000000 < g.nid) && (okA g.fees && (!decide (g.num < 0) && !decide (1000000 < g.num))))
def chkO (g : Led) : Int := if ¬ chkL g.lins g.accs = 0 then chkL g.lins g.accs else if 40 < g.offs.length then 3 else if headOk g = true ∧ offsOk g none g.offs = true then 0 else 74
def betO (x y : Off) : Bool := decide (cmpP x.num x.den y.num y.den < 0) || (cmpP x.num x.den y.num y.den == 0 && decide (x.id < y.id))
def pairO (u : ByteArray) (i : Int) (v : ByteArray) (j : Int) (x : Off) : Bool := eqT x.sc x.si u i && eqT x.bc x.bi v j
/-- Put into a list, behind all that are not worse. -/
def putO (y : Off) : List Off → List Off
  | [] => [y]
  | x :: r => if betO y x = true then y :: x :: r else x :: putO y r
def bookF (u : ByteArray) (i : Int) (v : ByteArray) (j : Int) : List Off → List Off → List Off
  | o, [] => o
  | o, x :: r => bookF u i v j (if pairO u i v j x = true then putO x o else o) r
def bookO (g : Led) (u : ByteArray) (i : Int) (v : ByteArray) (j : Int) : List Off := bookF u i v j [] g.offs
def bookI (g : Led) (u : ByteArray) (i : Int) (v : ByteArray) (j : Int) : List Int := if chkO g = 0 then (bookO g u i v j).map Off.id else []
def costF (x : Off) (n : Int) : Int × Int := upF n x.num x.den
/-- The greatest amount, up to a most, whose cost is at most some money. -/
def affF (x : Off) (most money : Int) : Int := max 0 (min most (money * x.den / x.num))
def ableF (g : Led) (x : Off) : Int :=
  if ¬ chkO g = 0 ∨ priceB x.num x.den = false then 0 else max 0 (min (min x.amt (heldF g x.seller x.sc x.si)) (roomF g x.seller x.bc x.bi * x.den / x.num))
def holdsF (g : Led) (a : Int) (u : ByteArray) (i : Int) : Bool := (findL g.lins a u i).2 || (nativeB u i || i == a)
def addO (g : Led) (a : Int) (u : ByteArray) (i : Int) (v : ByteArray) (j n p q : Int) : Led × Int × Int :=
  if ¬ chkO g = 0 then (led0, 0, chkO g) else if (findA g.accs a).2 = false then (led0, 0, 67) else
  if assetB u i = false ∨ assetB v j = false ∨ eqT u i v j = true then (led0, 0, 71) else
  if n < 1 ∨ okA n = false ∨ priceB p q = false then (led0, 0, 72) else
  if holdsF g a u i = false ∨ holdsF g a v j = false then (led0, 0, 70) else
  if heldF g a u i = 0 then (led0, 0, 66) else
  if g.offs.length = 40 ∨ g.nid = 1000000 then (led0, 0, 3) else
  ({ g with offs := g.offs ++ [⟨g.nid, a, u, i, v, j, n, (redF p q).1, (redF p q).2⟩], nid := g.nid + 1 }, g.nid, 0)
def hasOff (i : Int) (x : Off) : Bool := x.id == i
def idxO (l : List Off) (i : Int) : Int := idxF (hasOff i) 0 l
def cancelF (g : Led) (a i : Int) : Led × Int :=
  if ¬ chkO g = 0 then (led0, chkO g) else if idxO g.offs i < 0 ∨ ¬ (nth g.offs (idxO g.offs i).toNat).seller = a then (led0, 72) else ({ g with offs := g.offs.eraseIdx (idxO g.offs i).toNat }, 0)
end Go.Proofs.YtgebgpdoddjfhaaGreat
