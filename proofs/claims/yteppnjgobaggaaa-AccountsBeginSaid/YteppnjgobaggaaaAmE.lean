/- Nothing is claimed here: the rules by which a region is walked, operation by operation. -/
import Derived.Test.YteppnjgobaggaaaAmC
namespace Go.Am
set_option linter.unusedSimpArgs false
set_option linter.unusedVariables false
set_option linter.unnecessarySimpa false
set_option linter.unusedSectionVars false
set_option maxRecDepth 100000
open Go Go.RowKit Go.Proofs.Grow

section
variable {P : Program} {ops r : List Oper} {o : Oper} {fin : List (List Nat × List Nat) → List (Nat × AV) → List (Nat × AO) → Prop} {acc : List (List Nat × List Nat)} {T : List (Nat × AV)} {M : List (Nat × AO)}
/-- An operation that gives a value, and changes no object. -/
theorem WD_v {d : Tmp} {v : AV} {tch : List Nat} (hg : o.guard = none) (hd : o.dst = some d) (h : StepOK P o (lk T) (lk M) ⟨v, tch, []⟩) (k : WD P ops fin r ((tch, []) :: acc) ((d, v) :: T) M) : WD P ops fin (o :: r) acc T M :=
  ⟨⟨v, tch, []⟩, ⟨.inl ⟨hg, h⟩, h.1⟩, by rw [hd]; exact k⟩
/-- One that makes or changes one object, and gives a value. -/
theorem WD_w {d : Tmp} {v : AV} {tch : List Nat} {g : Nat} {x : AO} (hg : o.guard = none) (hd : o.dst = some d) (h : StepOK P o (lk T) (lk M) ⟨v, tch, [(g, x)]⟩) (k : WD P ops fin r ((tch, [g]) :: acc) ((d, v) :: T) ((g, x) :: M)) : WD P ops fin (o :: r) acc T M :=
  ⟨⟨v, tch, [(g, x)]⟩, ⟨.inl ⟨hg, h⟩, h.1⟩, by rw [hd]; exact k⟩
/-- One that changes one object, and gives none. -/
theorem WD_s {v : AV} {tch : List Nat} {g : Nat} {x : AO} (hg : o.guard = none) (hd : o.dst = none) (h : StepOK P o (lk T) (lk M) ⟨v, tch, [(g, x)]⟩) (k : WD P ops fin r ((tch, [g]) :: acc) T ((g, x) :: M)) : WD P ops fin (o :: r) acc T M :=
  ⟨⟨v, tch, [(g, x)]⟩, ⟨.inl ⟨hg, h⟩, h.1⟩, by rw [hd]; exact k⟩
/-- Any, with a value. -/
theorem WD_g {d : Tmp} {v : AV} {tch : List Nat} {wr : List (Nat × AO)} (hg : o.guard = none) (hd : o.dst = some d) (h : StepOK P o (lk T) (lk M) ⟨v, tch, wr⟩) (k : WD P ops fin r ((tch, wr.map (·.1)) :: acc) ((d, v) :: T) (wr ++ M)) : WD P ops fin (o :: r) acc T M :=
  ⟨⟨v, tch, wr⟩, ⟨.inl ⟨hg, h⟩, h.1⟩, by rw [hd]; exact k⟩
/-- Any, without. -/
theorem WD_n {v : AV} {tch : List Nat} {wr : List (Nat × AO)} (hg : o.guard = none) (hd : o.dst = none) (h : StepOK P o (lk T) (lk M) ⟨v, tch, wr⟩) (k : WD P ops fin r ((tch, wr.map (·.1)) :: acc) T (wr ++ M)) : WD P ops fin (o :: r) acc T M :=
  ⟨⟨v, tch, wr⟩, ⟨.inl ⟨hg, h⟩, h.1⟩, by rw [hd]; exact k⟩
/-- What stands behind a test that came out so. -/
theorem WD_on {j : Nat} {want b : Bool} {q : Oper} {tj : Tmp} {d : Tmp} {v : AV} {tch : List Nat} {wr : List (Nat × AO)} (hg : o.guard = some (j, want)) (hq : ops[j]? = some q) (hqd : q.dst = some tj) (hb : lk T tj = some (.d (.v (.bool b)))) (hw : b = want) (hd : o.dst = some d)
    (h : StepOK P o (lk T) (lk M) ⟨v, tch, wr⟩) (k : WD P ops fin r ((tch, wr.map (·.1)) :: acc) ((d, v) :: T) (wr ++ M)) : WD P ops fin (o :: r) acc T M :=
  ⟨⟨v, tch, wr⟩, ⟨.inr (.inl ⟨j, want, q, tj, b, hg, hq, hqd, hb, .inl ⟨hw, h⟩⟩), h.1⟩, by rw [hd]; exact k⟩
/-- What stands behind a test that came out otherwise. -/
theorem WD_off {j : Nat} {want b : Bool} {q : Oper} {tj : Tmp} {d : Tmp} (hg : o.guard = some (j, want)) (hq : ops[j]? = some q) (hqd : q.dst = some tj) (hb : lk T tj = some (.d (.v (.bool b)))) (hw : b = !want) (hd : o.dst = some d)
    (k : WD P ops fin r (([], []) :: acc) ((d, .d (.v undef)) :: T) M) : WD P ops fin (o :: r) acc T M :=
  ⟨⟨.d (.v undef), [], []⟩, ⟨.inr (.inl ⟨j, want, q, tj, b, hg, hq, hqd, hb, .inr ⟨by rw [hw]; cases want <;> simp, rfl⟩⟩), by simp⟩, by rw [hd]; exact k⟩
/-- A test that is not decided yet. -/
theorem WD_split {j : Nat} {want b : Bool} {q : Oper} {tj : Tmp} (hg : o.guard = some (j, want)) (hq : ops[j]? = some q) (hqd : q.dst = some tj) (hb : lk T tj = some (.d (.v (.bool b)))) (h1 : b = true → WD P ops fin (o :: r) acc T M) (h2 : b = false → WD P ops fin (o :: r) acc T M) : WD P ops fin (o :: r) acc T M := by
  cases b
  · exact h2 rfl
  · exact h1 rfl
theorem WD_end {draw : Bool} {Q : Exit → St → Prop} (h1 : draw = true → (backB ops.toArray && indepB ops acc.reverse) = true) (h2 : Q .normal ⟨T, M⟩) : WD P ops (fun fs T M => (draw = true → (backB ops.toArray && indepB ops fs) = true) ∧ Q .normal ⟨T, M⟩) [] acc T M := ⟨h1, h2⟩
theorem no_draw {p : Prop} : false = true → p := fun h => by cases h
theorem RetE {tbl : List (Nat × TI)} {fn : Func} {res : AV} {Mo : List (Nat × AO)} {cx : Cx} {e : Exit} {s : St} {ys : List AV} (he : e = .normal ∨ e = .ret) (hr : resAll tbl (lk s.T) (lk s.M) fn.results.toList = some ys) (hy : tupOf ys = res) (hM : SubM (lk s.M) Mo) : Ret tbl fn res Mo cx e s :=
  ⟨he, s, ys, Le.refl, hr, hy, hM⟩
theorem RetL {tbl : List (Nat × TI)} {fn : Func} {res : AV} {Mo : List (Nat × AO)} {cx : Cx} {e : Exit} {s s' : St} {ys : List AV} (he : e = .normal ∨ e = .ret) (hl : Le cx s s') (hr : resAll tbl (lk s'.T) (lk s'.M) fn.results.toList = some ys) (hy : tupOf ys = res) (hM : SubM (lk s'.M) Mo) : Ret tbl fn res Mo cx e s :=
  ⟨he, s', ys, hl, hr, hy, hM⟩
end

section
variable {P : Program} {cx : Cx} {Q : Exit → St → Prop} {T : List (Nat × AV)} {M : List (Nat × AO)}
theorem gR {id n : Nat} {ops : List Oper} {draw : Bool} (hm : P.follows .mixedOrders = true) (hn : cx.N = n) (hN : dstsB n ops = true)
    (h : WD P ops (fun fs T M => (draw = true → (backB ops.toArray && indepB ops fs) = true) ∧ Q .normal ⟨T, M⟩) ops [] T M) : WA P cx (.region id ops.toArray draw) Q ⟨T, M⟩ := WA_region hm hn hN h
theorem gC {c : Operand} {x y : Code} {b : Bool} (hc : evA (lk T) c = some (.d (.v (.bool b)))) (ht : b = true → WA P cx x Q ⟨T, M⟩) (hf : b = false → WA P cx y Q ⟨T, M⟩) : WA P cx (.cond c x y) Q ⟨T, M⟩ := WA_cond hc ht hf
theorem gCt {c : Operand} {x y : Code} {b : Bool} (hc : evA (lk T) c = some (.d (.v (.bool b)))) (hb : b = true) (h : WA P cx x Q ⟨T, M⟩) : WA P cx (.cond c x y) Q ⟨T, M⟩ := WA_cond hc (fun _ => h) (fun e => by rw [hb] at e; cases e)
theorem gCf {c : Operand} {x y : Code} {b : Bool} (hc : evA (lk T) c = some (.d (.v (.bool b)))) (hb : b = false) (h : WA P cx y Q ⟨T, M⟩) : WA P cx (.cond c x y) Q ⟨T, M⟩ := WA_cond hc (fun e => by rw [hb] at e; cases e) (fun _ => h)
theorem gE {tbl : List (Nat × TI)} {fn : Func} {res : AV} {Mo : List (Nat × AO)} {e : Exit} {ys : List AV} (he : e = .normal ∨ e = .ret) (hr : resAll tbl (lk T) (lk M) fn.results.toList = some ys) (hy : tupOf ys = res) (hM : SubM (lk M) Mo) : Ret tbl fn res Mo cx e ⟨T, M⟩ := RetE he hr hy hM
theorem gL {tbl : List (Nat × TI)} {fn : Func} {res : AV} {Mo : List (Nat × AO)} {e : Exit} {s : St} {T' : List (Nat × AV)} {M' : List (Nat × AO)} {ys : List AV} (he : e = .normal ∨ e = .ret) (hl : Le cx s ⟨T', M'⟩) (hr : resAll tbl (lk T') (lk M') fn.results.toList = some ys) (hy : tupOf ys = res) (hM : SubM (lk M') Mo) : Ret tbl fn res Mo cx e s := RetL he hl hr hy hM
end
end Go.Am
