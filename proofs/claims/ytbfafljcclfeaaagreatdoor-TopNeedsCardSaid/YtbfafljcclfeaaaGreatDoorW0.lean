/- Nothing is claimed here: how accounts, lines, offers and ledgers are seen; contracts on plain values seen so. -/
import Derived.Test.YtbfafljcclfeaaaGreatDoorAmD
import Derived.Test.YtbfafljcclfeaaaGreatDoorLedX
namespace Go.Proofs.YtbfafljcclfeaaaGreatDoor
set_option linter.unusedSimpArgs false
set_option linter.unusedVariables false
set_option linter.unnecessarySimpa false
set_option linter.unusedSectionVars false
set_option maxRecDepth 100000
open Go Go.RowKit Go.Am Go.Proofs.Grow

abbrev vI (n : Int) : AV := .d (.v (.int .i64 n))
abbrev vB (b : Bool) : AV := .d (.v (.bool b))
abbrev vS (u : ByteArray) : AV := .d (.v (.string u))
abbrev vU (n : Int) : AV := .d (.v (.int .u64 n))
abbrev dI (n : Int) : D := .v (.int .i64 n)
abbrev dS (u : ByteArray) : D := .v (.string u)
def rI (n : Int) : List D := [dI n]
def rA (x : Acc) : List D := [dI x.id, dI x.bal, dI x.seq]
def rL (x : Lin) : List D := [dI x.acc, dS x.code, dI x.iss, dI x.bal, dI x.lim]
def rO (x : Off) : List D := [dI x.id, dI x.seller, dS x.sc, dI x.si, dS x.bc, dI x.bi, dI x.amt, dI x.num, dI x.den]
abbrev lI (l : List Int) : AV := .d (.rows 1 (l.map rI))
abbrev lA (l : List Acc) : AV := .d (.rows 3 (l.map rA))
abbrev lL (l : List Lin) : AV := .d (.rows 5 (l.map rL))
abbrev lO (l : List Off) : AV := .d (.rows 9 (l.map rO))
abbrev aA (x : Acc) : AV := .agg [vI x.id, vI x.bal, vI x.seq]
abbrev aL (x : Lin) : AV := .agg [vI x.acc, vS x.code, vI x.iss, vI x.bal, vI x.lim]
abbrev aO (x : Off) : AV := .agg [vI x.id, vI x.seller, vS x.sc, vI x.si, vS x.bc, vI x.bi, vI x.amt, vI x.num, vI x.den]
abbrev aT (u : ByteArray) (i : Int) : AV := .agg [vS u, vI i]
abbrev aG (g : Led) : AV := .agg [vI g.num, lA g.accs, lL g.lins, lO g.offs, vI g.nid, vI g.fees, vU g.link]

theorem cmp_pm (a b : Int) : FnM Tryz.prog 80 [] [vI a, vI b] (vI (cmpI a b)) [] := FnM.wrap' rfl rfl fun w => cmp_int a b w
end Go.Proofs.YtbfafljcclfeaaaGreatDoor
