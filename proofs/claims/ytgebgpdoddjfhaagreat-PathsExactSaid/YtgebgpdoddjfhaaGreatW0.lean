/- Nothing is claimed here: how accounts, lines, offers and ledgers are seen; contracts on plain values seen so. -/
import Derived.Test.YtgebgpdoddjfhaaGreatAmD
import Derived.Test.YtgebgpdoddjfhaaGreatLedO
namespace Go.Proofs.YtgebgpdoddjfhaaGreat
set_option linter.unusedSimpArgs false
set_option linter.unusedVariables false
set_option linter.unnecessarySimpa false
set_option linter.unusedSectionVars false
set_option maxRecDepth 100000
open Go Go.RowKit Go.Am Go.Proofs.Grow

abbrev vI (n : Int) : AV := .d (.v (.int .i64 n))
abbrev vB (b : Bool) : AV := .d (.v (.bool b))
abbrev vS (u : ByteArray) : AV := .d (.v (.string u))
abbrev vU (n : Int) : AV := .d (.v (.int .u64 n))
abbrev dI (n : Int) : D := .v (.int .i64 n)
abbrev dS (u : ByteArray) : D := .v (.string u)
def rI (n : Int) : List D := [dI n]
def rA (x : Acc) : List D := [dI x.id, dI x.bal, dI x.seq]
def rL (x : Lin) : List D := [dI x.acc, dS x.code, dI x.iss, dI x.bal, dI x.lim]
def rO (x : Off) : List D := [dI x.id, dI x.seller, dS x.sc, dI x.si, dS x.bc, dI x.bi, dI x.amt, dI x.num, dI x.den]
abbrev lI (l : List Int) : AV := .d (.rows 1 (l.map rI))
abbrev lA (l : List Acc) : AV := .d (.rows 3 (l.map rA))
abbrev lL (l : List Lin) : AV := .d (.rows 5 (l.map rL))
abbrev lO (l : List Off) : AV := .d (.rows 9 (l.map rO))
abbrev aA (x : Acc) : AV := .agg [vI x.id, vI x.bal, vI x.seq]
abbrev aL (x : Lin) : AV := .agg [vI x.acc, vS x.code, vI x.iss, vI x.bal, vI x.lim]
abbrev aO (x : Off) : AV := .agg [vI x.id, vI x.seller, vS x.sc, vI x.si, vS x.bc, vI x.bi, vI x.amt, vI x.num, vI x.den]
abbrev aT (u : ByteArray) (i : Int) : AV := .agg [vS u, vI i]
abbrev aG (g : Led) : AV := .agg [vI g.num, lA g.accs, lL g.lins, lO g.offs, vI g.nid, vI g.fees, vU g.link]

theorem okA_pm (n : Int) : FnM Tryz.prog 64 [] [vI n] (vB (okA n)) [] := FnM.wrap' rfl rfl fun w => okA_p n w
theorem okA_rm (n : Int) : FnM Tryz.prog 42 [] [vI n] (vB (okA n)) [] := FnM.wrap' rfl rfl fun w => okA_r n w
theorem price_rm (n d : Int) : FnM Tryz.prog 56 [] [vI n, vI d] (vB (priceB n d)) [] := FnM.wrap' rfl rfl fun w => price_r n d w
theorem price_pm (n d : Int) : FnM Tryz.prog 113 [] [vI n, vI d] (vB (priceB n d)) [] := FnM.wrap' rfl rfl fun w => price_p n d w
theorem red_rm (n d : Int) : FnM Tryz.prog 59 [] [vI n, vI d] (.tup [vI (redF n d).1, vI (redF n d).2]) [] := FnM.wrap rfl rfl fun w => red_r n d w
theorem red_pm (n d : Int) : FnM Tryz.prog 88 [] [vI n, vI d] (.tup [vI (redF n d).1, vI (redF n d).2]) [] := FnM.wrap rfl rfl fun w => red_p n d w
theorem cmpP_pm (a b c d : Int) : FnM Tryz.prog 145 [] [vI a, vI b, vI c, vI d] (vI (cmpP a b c d)) [] := FnM.wrap' rfl rfl fun w => cmpP_p a b c d w
theorem cmpP_rm (a b c d : Int) : FnM Tryz.prog 171 [] [vI a, vI b, vI c, vI d] (vI (cmpP a b c d)) [] := FnM.wrap' rfl rfl fun w => cmpP_r a b c d w
theorem up_pm (a n d : Int) : FnM Tryz.prog 149 [] [vI a, vI n, vI d] (.tup [vI (upF a n d).1, vI (upF a n d).2]) [] := FnM.wrap rfl rfl fun w => up_p a n d w
theorem up_rm (a n d : Int) : FnM Tryz.prog 135 [] [vI a, vI n, vI d] (.tup [vI (upF a n d).1, vI (upF a n d).2]) [] := FnM.wrap rfl rfl fun w => up_r a n d w
theorem native_pm (u : ByteArray) (i : Int) : FnM Tryz.prog 61 [] [aT u i] (vB (nativeB u i)) [] := FnM.wrap rfl rfl fun w => native_p u i w
theorem native_rm (u : ByteArray) (i : Int) : FnM Tryz.prog 62 [] [aT u i] (vB (nativeB u i)) [] := FnM.wrap rfl rfl fun w => native_r u i w
theorem asset_pm (u : ByteArray) (i : Int) : FnM Tryz.prog 34 [] [aT u i] (vB (assetB u i)) [] := FnM.wrap rfl rfl fun w => asset_p u i w
theorem asset_rm (u : ByteArray) (i : Int) : FnM Tryz.prog 35 [] [aT u i] (vB (assetB u i)) [] := FnM.wrap rfl rfl fun w => asset_r u i w
theorem ordA_pm (u : ByteArray) (i : Int) (v : ByteArray) (j : Int) : FnM Tryz.prog 108 [] [aT u i, aT v j] (vI (ordA u i v j)) [] := FnM.wrap rfl rfl fun w => ordA_p u v i j w
theorem lessA_rm (u : ByteArray) (i : Int) (v : ByteArray) (j : Int) : FnM Tryz.prog 53 [] [aT u i, aT v j] (vB (lessA u i v j)) [] := FnM.wrap rfl rfl fun w => lessA_r u v i j w
theorem cmp_pm (a b : Int) : FnM Tryz.prog 112 [] [vI a, vI b] (vI (cmpI a b)) [] := FnM.wrap' rfl rfl fun w => cmp_int a b w
end Go.Proofs.YtgebgpdoddjfhaaGreat
