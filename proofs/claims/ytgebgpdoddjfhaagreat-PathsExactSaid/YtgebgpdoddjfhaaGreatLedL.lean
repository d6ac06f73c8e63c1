/- Plain functions on trust lines and on ledgers' holdings, as the program and the reference compute them, and laws on them. No program stands here. -/
import Derived.Test.YtgebgpdoddjfhaaGreatLedA
namespace Go.Proofs.YtgebgpdoddjfhaaGreat
set_option linter.unusedSimpArgs false
set_option linter.unusedVariables false
set_option linter.unnecessarySimpa false
set_option linter.unusedSectionVars false
set_option maxRecDepth 100000
open Go.RowKit Go.Proofs.Grow Go.Sort

structure Lin where
  acc : Int
  code : ByteArray
  iss : Int
  bal : Int
  lim : Int
instance : Inhabited Lin := ⟨⟨0, ⟨#[]⟩, 0, 0, 0⟩⟩
def encL (x : Lin) : List Value := [.int .i64 x.acc, .string x.code, .int .i64 x.iss, .int .i64 x.bal, .int .i64 x.lim]

def eqS (u v : ByteArray) : Bool := u.toList == v.toList
theorem eqS_iff {u v : ByteArray} : eqS u v = true ↔ u = v := by
  simp only [eqS, beq_iff_eq]
  constructor
  · intro h
    have : u.data.toList = v.data.toList := by simpa [ByteArray.toList_eq] using h
    cases u; cases v; simp only [Array.toList_inj] at this; rw [this]
  · rintro rfl; rfl
/-- Two assets are equal. -/
def eqT (u : ByteArray) (i : Int) (v : ByteArray) (j : Int) : Bool := eqS u v && i == j
theorem eqT_iff {u v : ByteArray} {i j : Int} : eqT u i v j = true ↔ u = v ∧ i = j := by simp [eqT, eqS_iff]

/-- A line comes before a key. -/
def befL (x : Lin) (a : Int) (u : ByteArray) (i : Int) : Bool := decide (x.acc < a) || (x.acc == a && lessA x.code x.iss u i)
def ordL (x : Lin) (a : Int) (u : ByteArray) (i : Int) : Int := orI [cmpI x.acc a, ordA x.code x.iss u i]
def befO : Option Lin → Lin → Bool
  | none, _ => true
  | some q, x => befL q x.acc x.code x.iss
def linOk (all : List Acc) (p : Option Lin) (x : Lin) : Bool :=
  (findA all x.acc).2 && (assetB x.code x.iss && (!nativeB x.code x.iss && (!(x.iss == x.acc) && (okA x.lim && (!decide (x.bal < 0) && (!decide (x.lim < x.bal) && befO p x))))))
def linsOk (all : List Acc) : Option Lin → List Lin → Bool
  | _, [] => true
  | p, x :: r => linOk all p x && linsOk all (some x) r
def chkL (l : List Lin) (all : List Acc) : Int := if ¬ chkA all = 0 then chkA all else if 60 < l.length then 3 else if linsOk all none l = true then 0 else 74
def prevL {α : Type} [Inhabited α] (l : List α) (k : Nat) : Option α := if k = 0 then none else some (nth l (k - 1))
def hasKey (a : Int) (u : ByteArray) (i : Int) (x : Lin) : Bool := x.acc == a && eqT x.code x.iss u i
def idxL (l : List Lin) (a : Int) (u : ByteArray) (i : Int) : Int := idxF (hasKey a u i) 0 l
def findL (l : List Lin) (a : Int) (u : ByteArray) (i : Int) : Lin × Bool :=
  if idxL l a u i < 0 then (⟨0, ⟨#[]⟩, 0, 0, 0⟩, false) else (nth l (idxL l a u i).toNat, true)
/-- The sum of the balances of an asset, as it is computed, with wrapping. -/
def issF (u : ByteArray) (i : Int) : Int → List Lin → Int
  | s, [] => s
  | s, x :: r => issF u i (if eqT x.code x.iss u i = true then wrap64 (s + x.bal) else s) r
def issued (l : List Lin) (u : ByteArray) (i : Int) : Int := issF u i 0 l
def insL (y : Lin) : List Lin → List Lin
  | [] => [y]
  | x :: r => if befL x y.acc y.code y.iss = true then x :: insL y r else y :: x :: r
def limitF (l : List Lin) (a : Int) (u : ByteArray) (i n : Int) : List Lin × Int :=
  if assetB u i = false ∨ nativeB u i = true ∨ i = a ∨ a < 1 ∨ 1000 < a then ([], 71) else if okA n = false then ([], 65) else
  if idxL l a u i < 0 then
    (if n = 0 then (l, 0) else if 60 ≤ l.length then ([], 3) else (insL ⟨a, u, i, 0, n⟩ l, 0))
  else
    (if n < (nth l (idxL l a u i).toNat).bal then ([], 70) else if n = 0 ∧ (nth l (idxL l a u i).toNat).bal = 0 then (l.eraseIdx (idxL l a u i).toNat, 0) else
      (l.set (idxL l a u i).toNat { nth l (idxL l a u i).toNat with lim := n }, 0))

structure Off where
  id : Int
  seller : Int
  sc : ByteArray
  si : Int
  bc : ByteArray
  bi : Int
  amt : Int
  num : Int
  den : Int
instance : Inhabited Off := ⟨⟨0, 0, ⟨#[]⟩, 0, ⟨#[]⟩, 0, 0, 0, 0⟩⟩
def encO (x : Off) : List Value := [.int .i64 x.id, .int .i64 x.seller, .string x.sc, .int .i64 x.si, .string x.bc, .int .i64 x.bi, .int .i64 x.amt, .int .i64 x.num, .int .i64 x.den]
structure Led where
  num : Int
  accs : List Acc
  lins : List Lin
  offs : List Off
  nid : Int
  fees : Int
  link : Int
def led0 : Led := ⟨0, [], [], [], 0, 0, 0⟩

def rightL (g : Led) : Bool := chkL g.lins g.accs == 0
/-- What an account holds of an asset, how much more it can get, and whether it has a place for it. -/
def lookF (g : Led) (a : Int) (u : ByteArray) (i : Int) : Int × Int × Bool :=
  if (findA g.accs a).2 = false ∨ assetB u i = false then (0, 0, false) else
  if nativeB u i = true then ((findA g.accs a).1.bal, 1000000000000 - (findA g.accs a).1.bal, true) else
  if i = a then (1000000000000, 1000000000000, true) else
    ((findL g.lins a u i).1.bal, (findL g.lins a u i).1.lim - (findL g.lins a u i).1.bal, (findL g.lins a u i).2)
def heldF (g : Led) (a : Int) (u : ByteArray) (i : Int) : Int := if rightL g = true then (lookF g a u i).1 else 0
def roomF (g : Led) (a : Int) (u : ByteArray) (i : Int) : Int := if rightL g = true then (lookF g a u i).2.1 else 0
def firstF (g : Led) (a : Int) (u : ByteArray) (i n : Int) : Int :=
  if rightL g = false then 74 else if assetB u i = false then 71 else if (findA g.accs a).2 = false then 67 else if okA n = false then 65 else 0
/-- A number, which may be negative, is added to what an account holds. -/
def addL (g : Led) (a : Int) (u : ByteArray) (i n : Int) : Led :=
  if nativeB u i = true then { g with accs := g.accs.set (idxA g.accs a).toNat { nth g.accs (idxA g.accs a).toNat with bal := (nth g.accs (idxA g.accs a).toNat).bal + n } } else
  if i = a then g else { g with lins := g.lins.set (idxL g.lins a u i).toNat { nth g.lins (idxL g.lins a u i).toNat with bal := (nth g.lins (idxL g.lins a u i).toNat).bal + n } }
def creditF (g : Led) (a : Int) (u : ByteArray) (i n : Int) : Led × Int :=
  if ¬ firstF g a u i n = 0 then (led0, firstF g a u i n) else
  if nativeB u i = true then (if (lookF g a u i).2.1 < n then (led0, 65) else (addL g a u i n, 0)) else
  if (lookF g a u i).2.2 = false ∨ (lookF g a u i).2.1 < n then (led0, 70) else (addL g a u i n, 0)
def debitF (g : Led) (a : Int) (u : ByteArray) (i n : Int) : Led × Int :=
  if ¬ firstF g a u i n = 0 then (led0, firstF g a u i n) else
  if (lookF g a u i).2.2 = false then (led0, 70) else if (lookF g a u i).1 < n then (led0, 66) else (addL g a u i (-n), 0)
def eqLin (x y : Lin) : Bool := x.acc == y.acc && (eqS x.code y.code && (x.iss == y.iss && (x.bal == y.bal && x.lim == y.lim)))
def eqLins : List Lin → List Lin → Bool
  | [], [] => true
  | x :: r, y :: s => eqLin x y && eqLins r s
  | _, _ => false
def eqOff (x y : Off) : Bool := x.id == y.id && (x.seller == y.seller && (eqS x.sc y.sc && (x.si == y.si && (eqS x.bc y.bc && (x.bi == y.bi && (x.amt == y.amt && (x.num == y.num && x.den == y.den)))))))
def eqOffs : List Off → List Off → Bool
  | [], [] => true
  | x :: r, y :: s => eqOff x y && eqOffs r s
  | _, _ => false
def eqLed (g h : Led) : Bool := g.num == h.num && (g.nid == h.nid && (g.fees == h.fees && (g.link == h.link && (eqAccs g.accs h.accs && (eqLins g.lins h.lins && eqOffs g.offs h.offs)))))
end Go.Proofs.YtgebgpdoddjfhaaGreat
