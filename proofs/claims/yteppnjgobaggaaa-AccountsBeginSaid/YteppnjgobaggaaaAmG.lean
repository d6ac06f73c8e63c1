/- Nothing is claimed here: the rules by which the walk goes on where a test is not known, where something is asked besides, and at calls. -/
import Derived.Test.YteppnjgobaggaaaAmF
namespace Go.Am
set_option linter.unusedSimpArgs false
set_option linter.unusedVariables false
set_option linter.unnecessarySimpa false
set_option linter.unusedSectionVars false
set_option maxRecDepth 100000
open Go Go.RowKit Go.Proofs.Grow

/-- Whether an operation is wanted. -/
def gd (ops : List Oper) (T : List (Nat × AV)) (o : Oper) : Option Bool := match o.guard with
  | none => some true
  | some (j, want) => match ops[j]? with
    | some q => match q.dst with
      | some tj => match lk T tj with
        | some (.d (.v (.bool true))) => some want
        | some (.d (.v (.bool false))) => some (!want)
        | _ => none
      | none => none
    | none => none
section
variable {P : Program} {ops r : List Oper} {o : Oper} {fin : List (List Nat × List Nat) → List (Nat × AV) → List (Nat × AO) → Prop} {acc : List (List Nat × List Nat)} {T : List (Nat × AV)} {M : List (Nat × AO)}
theorem gd_step {e : En} (hg : gd ops T o = some true) (h : StepOK P o (lk T) (lk M) e) : StepG P ops o (lk T) (lk M) e := by
  unfold gd at hg
  split at hg
  · rename_i hgn; exact .inl ⟨hgn, h⟩
  · rename_i j want hgu
    split at hg
    · rename_i q hq
      split at hg
      · rename_i tj hqd
        split at hg
        · rename_i hb; exact .inr (.inl ⟨j, want, q, tj, true, hgu, hq, hqd, hb, .inl ⟨(Option.some.inj hg).symm, h⟩⟩)
        · rename_i hb
          refine .inr (.inl ⟨j, want, q, tj, false, hgu, hq, hqd, hb, .inl ⟨?_, h⟩⟩)
          have := Option.some.inj hg
          cases want <;> simp_all
        · cases hg
      · cases hg
    · cases hg
theorem WD_do {d : Tmp} {v : AV} {tch : List Nat} {wr : List (Nat × AO)} (hg : gd ops T o = some true) (hd : o.dst = some d) (h : StepOK P o (lk T) (lk M) ⟨v, tch, wr⟩) (k : WD P ops fin r ((tch, wr.map (·.1)) :: acc) ((d, v) :: T) (wr ++ M)) : WD P ops fin (o :: r) acc T M :=
  ⟨⟨v, tch, wr⟩, ⟨gd_step hg h, h.1⟩, by rw [hd]; exact k⟩
theorem WD_dn {v : AV} {tch : List Nat} {wr : List (Nat × AO)} (hg : gd ops T o = some true) (hd : o.dst = none) (h : StepOK P o (lk T) (lk M) ⟨v, tch, wr⟩) (k : WD P ops fin r ((tch, wr.map (·.1)) :: acc) T (wr ++ M)) : WD P ops fin (o :: r) acc T M :=
  ⟨⟨v, tch, wr⟩, ⟨gd_step hg h, h.1⟩, by rw [hd]; exact k⟩
theorem WD_dv {d : Tmp} {v : AV} {tch : List Nat} (hg : gd ops T o = some true) (hd : o.dst = some d) (h : StepOK P o (lk T) (lk M) ⟨v, tch, []⟩) (k : WD P ops fin r ((tch, []) :: acc) ((d, v) :: T) M) : WD P ops fin (o :: r) acc T M :=
  ⟨⟨v, tch, []⟩, ⟨gd_step hg h, h.1⟩, by rw [hd]; exact k⟩
/-- A test in the region that is not told yet: the slot that is asked. -/
def asks (ops : List Oper) (o : Oper) : Option Tmp := match o.guard with
  | some (j, _) => match ops[j]? with
    | some q => q.dst
    | none => none
  | none => match o.op with
    | .pick (.tmp t) _ _ => some t
    | _ => none
theorem WD_t {t : Tmp} {b : Bool} (ha : asks ops o = some t) (hb : lk T t = some (.d (.v (.bool b)))) (h : b = true) (k : b = true → WD P ops fin (o :: r) acc T M) : WD P ops fin (o :: r) acc T M := k h
theorem WD_f {t : Tmp} {b : Bool} (ha : asks ops o = some t) (hb : lk T t = some (.d (.v (.bool b)))) (h : b = false) (k : b = false → WD P ops fin (o :: r) acc T M) : WD P ops fin (o :: r) acc T M := k h
theorem WD_tf {t : Tmp} {b : Bool} (ha : asks ops o = some t) (hb : lk T t = some (.d (.v (.bool b)))) (k1 : b = true → WD P ops fin (o :: r) acc T M) (k2 : b = false → WD P ops fin (o :: r) acc T M) : WD P ops fin (o :: r) acc T M := by
  cases h : b
  · exact k2 h
  · exact k1 h

/-- A call that makes and changes no object. -/
theorem call0 {fo : Operand} {args : Array Operand} {tys : Array TypeId} {f : FuncId} {caps xs ys : List AV} {res : AV} (ho : o.op = .call { callee := .value fo, args := args, argTypes := tys }) (hfo : evA (lk T) fo = some (.clo f caps)) (hxs : evs (lk T) args.toList = some xs) (hfn : FnM P f [] ys res [])
    (hc : callB P f = some (false, false)) (hoy : AV.oks (fun _ => false) ys = true) (hor : res.ok (fun _ => false) = true) (hcv : Cvs (fun _ => none) (xs ++ caps) ys ∨ (Cvs (lk M) (xs ++ caps) ys ∧ res.noRows = true)) : StepOK P o (lk T) (lk M) ⟨res, AV.idls (xs ++ caps), []⟩ := by
  refine step_call_core ho hfo hxs hfn hc trivial rfl rfl hoy rfl hor rfl ?_
  rcases hcv with h | ⟨h1, h2⟩
  · exact .inl h
  · exact .inr ⟨h1, h2, trivial⟩
/-- Rows of a list, told by the list. -/
theorem rowGet {α : Type} [Inhabited α] (enc : α → List D) (l : List α) {n : Nat} (h : n < l.length) : (l.map enc)[n]? = some (enc (nth l n)) := by
  rw [List.getElem?_map, List.getElem?_eq_getElem h, nth_getElem l n h]; rfl
end
section
variable {P : Program} {cx : Cx} {Q : Exit → St → Prop} {T : List (Nat × AV)} {M : List (Nat × AO)}
theorem gCk {c : Operand} {x y : Code} {b : Bool} (hc : evA (lk T) c = some (.d (.v (.bool b)))) (h : b = true) (k : b = true → WA P cx (.cond c x y) Q ⟨T, M⟩) : WA P cx (.cond c x y) Q ⟨T, M⟩ := k h
theorem gCn {c : Operand} {x y : Code} {b : Bool} (hc : evA (lk T) c = some (.d (.v (.bool b)))) (h : b = false) (k : b = false → WA P cx (.cond c x y) Q ⟨T, M⟩) : WA P cx (.cond c x y) Q ⟨T, M⟩ := k h
theorem gC2 {c : Operand} {x y : Code} {b : Bool} (hc : evA (lk T) c = some (.d (.v (.bool b)))) (k1 : b = true → WA P cx (.cond c x y) Q ⟨T, M⟩) (k2 : b = false → WA P cx (.cond c x y) Q ⟨T, M⟩) : WA P cx (.cond c x y) Q ⟨T, M⟩ := by
  cases h : b
  · exact k2 h
  · exact k1 h
end
end Go.Am
