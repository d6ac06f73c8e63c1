/- Nothing is claimed here: structs compared, in the abstract view. -/
import Derived.Test.YtgebgpdoddjfhaaGreatPW
namespace Go.Proofs.YtgebgpdoddjfhaaGreat
set_option linter.unusedSimpArgs false
set_option linter.unusedVariables false
set_option linter.unnecessarySimpa false
set_option linter.unusedSectionVars false
set_option maxRecDepth 100000
open Go Go.RowKit Go.Am Go.Proofs.Grow

section
variable {o : Oper} {T : Nat → Option AV} {M : Nat → Option AO} {x y : Operand} {t' : TypeId}
theorem eqT_step {u v : ByteArray} {i j : Int} (ho : o.op = .binOp .eql 30 x y t') (hx : evA T x = some (aT u i)) (hy : evA T y = some (aT v j)) : StepOK Tryz.prog o T M ⟨vB (eqT u i v j), [], []⟩ :=
  step_eq (us := [.string u, .int .i64 i]) (vs := [.string v, .int .i64 j]) ho hx hy rfl rfl fun x y w => by
    by_cases h : u.toList = v.toList <;> by_cases k : i = j <;> simp [eqGuard, go_sem, eqT, eqS, h, k]
theorem neT_step {u v : ByteArray} {i j : Int} (ho : o.op = .binOp .neq 30 x y t') (hx : evA T x = some (aT u i)) (hy : evA T y = some (aT v j)) : StepOK Tryz.prog o T M ⟨vB (!eqT u i v j), [], []⟩ :=
  step_neq (us := [.string u, .int .i64 i]) (vs := [.string v, .int .i64 j]) ho hx hy rfl rfl fun x y w => by
    by_cases h : u.toList = v.toList <;> by_cases k : i = j <;> simp [eqGuard, go_sem, eqT, eqS, h, k]
theorem neB_step {a b : Bool} (ho : o.op = .binOp .neq 4 x y t') (hx : evA T x = some (vB a)) (hy : evA T y = some (vB b)) : StepOK Tryz.prog o T M ⟨vB (a != b), [], []⟩ :=
  step_read [] fun cx μ T' M' ac w h hT _ => by
    have h1 := (h.ev (x := x) hT (by simp [ho, Op.operands]) hx).val
    have h2 := (h.ev (x := y) hT (by simp [ho, Op.operands]) hy).val
    refine ⟨.bool (a != b), ?_, .d (.v _)⟩
    simp only [execOp, ho, h1, h2]
    cases a <;> cases b <;> simp [eqGuard, go_sem]
theorem neA_step {a b : Acc} (ho : o.op = .binOp .neq 63 x y t') (hx : evA T x = some (aA a)) (hy : evA T y = some (aA b)) : StepOK Tryz.prog o T M ⟨vB (!eqAcc a b), [], []⟩ :=
  step_neq (us := [.int .i64 a.id, .int .i64 a.bal, .int .i64 a.seq]) (vs := [.int .i64 b.id, .int .i64 b.bal, .int .i64 b.seq]) ho hx hy rfl rfl fun x y w => by
    by_cases h1 : a.id = b.id <;> by_cases h2 : a.bal = b.bal <;> by_cases h3 : a.seq = b.seq <;> simp [eqGuard, go_sem, eqAcc, h1, h2, h3]
end
end Go.Proofs.YtgebgpdoddjfhaaGreat
