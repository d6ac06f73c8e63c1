import Derived.Test.YtdhogcklnehdhaaGreatDoorRAD
import Derived.Laws.MakeOwn
import Derived.Lib.ConvBytes
namespace Go.Am
set_option linter.unusedSimpArgs false
set_option linter.unusedVariables false
set_option linter.unnecessarySimpa false
set_option linter.unusedSectionVars false
set_option maxRecDepth 100000
open Go Go.RowKit Go.Proofs.Grow
/-- A computation that looks at no memory. -/
def pureRun {α : Type} (P : Program) : Sem α → Option α
  | .pure a => some a
  | .program k => pureRun P (k P)
  | .mark _ k => pureRun P k
  | _ => none
theorem pureRun_run {α : Type} {P : Program} : ∀ {s : Sem α} {a : α}, pureRun P s = some a → ∀ w, s.run P w = .ok a w
  | .pure a, b, h, w => by obtain rfl := Option.some.inj h; rfl
  | .program k, b, h, w => by
    simp only [pureRun] at h
    exact pureRun_run h w
  | .mark m k, b, h, w => by
    simp only [pureRun] at h
    exact pureRun_run h w
  | .load _ _ _, _, h, _ | .store _ _ _ _, _, h, _ | .new _ _, _, h, _ | .shape _ _, _, h, _ | .freeze _ _ _, _, h, _ | .frozen _ _, _, h, _ | .getObj _ _, _, h, _ | .setObj _ _ _, _, h, _ | .choose _ _, _, h, _ | .sys _ _, _, h, _ | .halt _, _, h, _ => by simp [pureRun] at h
/-- What a reckoning gives: a result; objects that must become data first; no rule (and where). -/
inductive Rn (α : Type) where
  | ok (a : α)
  | need (l : List Nat)
  | bad (why x : Nat)
section
variable {P : Program} {tbl : List (Nat × TI)} {o : Oper} {T : Nat → Option AV} {M : Nat → Option AO}
/-- Operations on plain values. -/
def valOf (T : Nat → Option AV) (x : Operand) : Option Value := match evA T x with
  | some y => y.val
  | none => none
def valsOf (T : Nat → Option AV) : List Operand → Option (List Value)
  | [] => some []
  | x :: r => match valOf T x, valsOf T r with
    | some v, some vs => some (v :: vs)
    | _, _ => none
def optOf (T : Nat → Option AV) : Option Operand → Option (Option Value)
  | none => some none
  | some x => match valOf T x with
    | some v => some (some v)
    | none => none
def semOf (T : Nat → Option AV) (o : Oper) : Option (Sem Value) := match o.op with
  | .binOp op t x y _ => match valOf T x, valOf T y with
    | some u, some v => some (do eqGuard op t x y u v; binOp op t u v)
    | _, _ => none
  | .unOp op _ x => match valOf T x with
    | some u => some (Op.unary op u)
    | none => none
  | .convert s d x => match valOf T x with
    | some u => some (convert s d u)
    | none => none
  | .index t x y => match valOf T x, valOf T y with
    | some u, some v => some (Instr.index t u v)
    | _, _ => none
  | .slice t x lo hi mx => match valOf T x, optOf T lo, optOf T hi, optOf T mx with
    | some u, some l, some h, some m => some (Instr.sliceAt t u l h m)
    | _, _, _, _ => none
  | _ => none
theorem valOf_eq {a : Act} {x : Operand} {v : Value} (hev : ∀ y v, evA T x = some y → y.val = some v → a.eval x = v) (h : valOf T x = some v) : a.eval x = v := by
  unfold valOf at h; split at h
  · rename_i y hy; exact hev y v hy h
  · cases h
theorem optOf_eq {a : Act} {x : Option Operand} {v : Option Value} (hev : ∀ q, x = some q → ∀ y v, evA T q = some y → y.val = some v → a.eval q = v) (h : optOf T x = some v) : x.map a.eval = v := by
  unfold optOf at h; split at h
  · obtain rfl := Option.some.inj h; rfl
  · split at h
    · rename_i q u hu; obtain rfl := Option.some.inj h; simp [valOf_eq (hev _ rfl) hu]
    · cases h
theorem semOf_run {s : Sem Value} {u : Value} (h : semOf T o = some s) (hu : pureRun P s = some u) : StepOK P o T M ⟨cvA u, [], []⟩ := by
  refine step_read [] fun cx μ T' M' a w hI hT hM => ⟨u, ?_, VR_cvA _ _ _ _⟩
  have hev : ∀ x ∈ o.op.operands.toList, ∀ y v, evA T x = some y → y.val = some v → a.eval x = v := fun x hx y v hy hv => (hI.ev hT hx hy).eq_val hv
  have hrun := pureRun_run hu w
  unfold semOf at h
  split at h
  · rename_i op t x y t' ho
    split at h
    · rename_i p q hp hq
      obtain rfl := Option.some.inj h
      have h1 := valOf_eq (hev x (by simp [ho, Op.operands])) hp
      have h2 := valOf_eq (hev y (by simp [ho, Op.operands])) hq
      simp only [execOp, ho, h1, h2]
      rw [Sem.run_bind, hrun]; rfl
    · cases h
  · rename_i op t x ho
    split at h
    · rename_i p hp
      obtain rfl := Option.some.inj h
      have h1 := valOf_eq (hev x (by simp [ho, Op.operands])) hp
      simp only [execOp, ho, h1]
      rw [Sem.run_bind, hrun]; rfl
    · cases h
  · rename_i t d x ho
    split at h
    · rename_i p hp
      obtain rfl := Option.some.inj h
      have h1 := valOf_eq (hev x (by simp [ho, Op.operands])) hp
      simp only [execOp, ho, h1]
      rw [Sem.run_bind, hrun]; rfl
    · cases h
  · rename_i t x y ho
    split at h
    · rename_i p q hp hq
      obtain rfl := Option.some.inj h
      have h1 := valOf_eq (hev x (by simp [ho, Op.operands])) hp
      have h2 := valOf_eq (hev y (by simp [ho, Op.operands])) hq
      simp only [execOp, ho, h1, h2]
      rw [Sem.run_bind, hrun]; rfl
    · cases h
  · rename_i t x lo hi mx ho
    split at h
    · rename_i p l hh m hp hl hh' hm
      obtain rfl := Option.some.inj h
      have h1 := valOf_eq (hev x (by simp [ho, Op.operands])) hp
      have h2 := optOf_eq (x := lo) (fun q hq => hev q (by simp [ho, Op.operands, hq])) hl
      have h3 := optOf_eq (x := hi) (fun q hq => hev q (by simp [ho, Op.operands, hq])) hh'
      have h4 := optOf_eq (x := mx) (fun q hq => hev q (by simp [ho, Op.operands, hq])) hm
      simp only [execOp, ho, h1, h2, h3, h4]
      rw [Sem.run_bind, hrun]; rfl
    · cases h
  · cases h
/-- A function without a body, on plain values. -/
theorem ext_run {fo : Operand} {args : Array Operand} {tys : Array TypeId} {f : FuncId} {vs : List Value} {u : Value} (ho : o.op = .call { callee := .value fo, args := args, argTypes := tys }) (hfo : evA T fo = some (.clo f [])) (hv : valsOf T args.toList = some vs)
    (hu : pureRun P (callFunc f vs.toArray) = some (.value u)) : StepOK P o T M ⟨cvA u, [], []⟩ := by
  refine step_read [] fun cx μ T' M' a w hI hT hM => ⟨u, ?_, VR_cvA _ _ _ _⟩
  have hev : ∀ x ∈ o.op.operands.toList, ∀ y v, evA T x = some y → y.val = some v → a.eval x = v := fun x hx y v hy hv => (hI.ev hT hx hy).eq_val hv
  have hargs : ∀ {l : List Operand} {vs : List Value}, (∀ x ∈ l, x ∈ o.op.operands.toList) → valsOf T l = some vs → l.map a.eval = vs := by
    intro l
    induction l with
    | nil => intro vs _ h; exact Option.some.inj h
    | cons x r ih =>
      intro vs hm h
      simp only [valsOf] at h
      split at h
      · rename_i v q hx hr
        obtain rfl := Option.some.inj h
        rw [List.map_cons, valOf_eq (hev x (hm x (by simp))) hx, ih (fun y hy => hm y (by simp [hy])) hr]
      · cases h
  have h1 := hargs (l := args.toList) (fun x hx => by rw [ho]; simp [Op.operands, Call.operands]; exact .inr (by simpa using hx)) hv
  have h2 : args.map a.eval = vs.toArray := Array.toList_inj.1 (by rw [Array.toList_map, h1])
  have hcl := hI.ev (x := fo) hT (by simp [ho, Op.operands, Call.operands]) hfo
  generalize hfv : a.eval fo = fv at hcl
  cases hcl with
  | @clo _ _ cvs hcl1 hcl2 =>
    have : cvs = [] := List.eq_nil_of_length_eq_zero (by simpa using hcl1.symm)
    subst this
    have := pureRun_run hu w
    have e : (#[] : Array Value) ++ vs.toArray ++ #[] = vs.toArray := by simp
    simp only [execOp, ho, resolve, Deferred.ofValue, hfv, invoke, h2, Sem.run_bind, Sem.run_pure, Result.andThen_ok]
    rw [show (#[] : Array Value) ++ vs.toArray ++ ([] : List Value).toArray = vs.toArray from e]
    exact this
end
end Go.Am
/- Nothing is claimed here: the operations of the abstract view by a lookup function for types; tables that are trees. -/
namespace Go.Am
set_option linter.unusedSimpArgs false
set_option linter.unusedVariables false
set_option linter.unnecessarySimpa false
set_option linter.unusedSectionVars false
set_option maxRecDepth 100000
open Go Go.RowKit Go.Proofs.Grow
/-- The first entry of a key, by the recursor. -/
noncomputable def lkQ {α : Type} (l : List (Nat × α)) : Nat → Option α := List.rec (motive := fun _ => Nat → Option α) (fun _ => none) (fun p _ g t => Bool.rec (g t) (some p.2) (Nat.beq p.1 t)) l
theorem lkQ_eq {α : Type} : ∀ l : List (Nat × α), lkQ l = lk l
  | [] => rfl
  | p :: r => by
    funext t
    have e : lkQ (p :: r) t = Bool.rec (motive := fun _ => Option α) (lkQ r t) (some p.2) (Nat.beq p.1 t) := rfl
    rw [e, lkQ_eq r]
    cases h : Nat.beq p.1 t <;> simp [lk, h]
/-- A table that is a tree. -/
inductive BT (α : Type) where
  | nil
  | node (k : Nat) (x : α) (l r : BT α)
noncomputable def BT.get {α : Type} (b : BT α) : Nat → Option α := BT.rec (motive := fun _ => Nat → Option α) (fun _ => none) (fun k x _ _ gl gr n => Bool.rec (Bool.rec (gr n) (gl n) (Nat.blt n k)) (some x) (Nat.beq n k)) b
theorem BT.get_node {α : Type} (k : Nat) (x : α) (l r : BT α) (n : Nat) : (BT.node k x l r).get n = match Nat.beq n k with
    | true => some x
    | false => match Nat.blt n k with
      | true => BT.get l n
      | false => BT.get r n := by
  have e : (BT.node k x l r).get n = Bool.rec (motive := fun _ => Option α) (Bool.rec (motive := fun _ => Option α) (BT.get r n) (BT.get l n) (Nat.blt n k)) (some x) (Nat.beq n k) := rfl
  rw [e]
  cases Nat.beq n k <;> cases Nat.blt n k <;> rfl
def BT.toL {α : Type} : BT α → List (Nat × α)
  | .nil => []
  | .node k x l r => (k, x) :: (BT.toL l ++ BT.toL r)
def BT.ord {α : Type} : BT α → Nat → Nat → Bool
  | .nil, _, _ => true
  | .node k _ l r, lo, hi => Nat.ble lo k && (Nat.blt k hi && (BT.ord l lo k && BT.ord r (k + 1) hi))
theorem BT.out {α : Type} : ∀ {b : BT α} {lo hi t : Nat}, b.ord lo hi = true → t < lo ∨ hi ≤ t → lk b.toL t = none
  | .nil, _, _, _, _, _ => rfl
  | .node k x l r, lo, hi, t, h, ho => by
    simp only [BT.ord, Bool.and_eq_true] at h
    obtain ⟨h1, h2, h3, h4⟩ := h
    have h1 := Nat.le_of_ble_eq_true h1
    have h2 : k < hi := Nat.le_of_ble_eq_true h2
    have e1 := BT.out h3 (t := t) (by omega)
    have e2 := BT.out h4 (t := t) (by omega)
    have hb : Nat.beq k t = false := by
      cases hb : Nat.beq k t
      · rfl
      · have := Nat.eq_of_beq_eq_true hb; omega
    simp [BT.toL, lk, hb, lk_append, e1, e2]
theorem BT.get_lk {α : Type} : ∀ {b : BT α} {lo hi : Nat}, b.ord lo hi = true → ∀ t, b.get t = lk b.toL t
  | .nil, _, _, _, _ => rfl
  | .node k x l r, lo, hi, h, t => by
    simp only [BT.ord, Bool.and_eq_true] at h
    obtain ⟨h1, h2, h3, h4⟩ := h
    simp only [BT.toL, BT.get_node, lk, lk_append]
    have e1 := BT.get_lk h3 t
    have e2 := BT.get_lk h4 t
    cases hb : Nat.beq t k
    · have hk : Nat.beq k t = false := by
        cases hc : Nat.beq k t
        · rfl
        · have := Nat.eq_of_beq_eq_true hc; subst this; simp at hb
      rw [hk]
      cases hl : Nat.blt t k
      · have : k ≤ t := by
          rcases Nat.lt_or_ge t k with q | q
          · rw [show Nat.blt t k = true from Nat.ble_eq_true_of_le q] at hl; cases hl
          · exact q
        have hne : k ≠ t := fun e => by subst e; simp at hb
        have e3 := BT.out h3 (t := t) (by omega)
        simp only [e3, e2]
      · have hlt : t < k := Nat.le_of_ble_eq_true hl
        have e3 := BT.out h4 (t := t) (by omega)
        simp only [e1, e3]
        cases lk l.toL t <;> rfl
    · have := Nat.eq_of_beq_eq_true hb; subst this
      simp
def plSF (tt : Nat → Option TI) (fs : List (Nat × TypeId)) (k : Nat) : Option (Nat × Nat) := match fs[k]? with
  | some p => match tt p.2 with
    | some j => some (p.1, j.size)
    | none => none
  | none => none
def resOneF (tt : Nat → Option TI) (T : Nat → Option AV) (M : Nat → Option AO) : ResultVar → Option AV
  | .tmp t => T t
  | .cell a ty => match T a with
    | some (.ptr g off) => match M g with
      | some (.box _ cs) => match tt ty with
        | some i => match i.agg with
          | true => match Nat.ble (off + i.size) cs.length with
            | true => some (.agg ((cs.drop off).take i.size))
            | false => none
          | false => cs[off]?
        | none => none
      | _ => none
    | _ => none
def resAllF (tt : Nat → Option TI) (T : Nat → Option AV) (M : Nat → Option AO) : List ResultVar → Option (List AV)
  | [] => some []
  | x :: r => match resOneF tt T M x, resAllF tt T M r with
    | some y, some ys => some (y :: ys)
    | _, _ => none
section
variable (tt : Nat → Option TI) (T : Nat → Option AV) (M : Nat → Option AO)
def opLoadF (ty : TypeId) (x : Operand) : Option En := match tt ty, evA T x with
  | some i, some (.ptr g off) => match M g with
    | some (.box _ cs) => match i.agg with
      | true => match sub cs off i.size with
        | some ds => some ⟨.agg ds, [g], []⟩
        | none => none
      | false => match cs[off]? with
        | some c => some ⟨c, [g], []⟩
        | none => none
    | _ => none
  | some i, some (.rp cs) => match i.agg with
    | true => match takeO cs i.size with
      | some ds => match avs ds with
        | some es => some ⟨.agg es, [], []⟩
        | none => none
      | none => none
    | false => match cs with
      | c :: _ => some ⟨.d c, [], []⟩
      | [] => none
  | _, _ => none
def opMoveF (x : Operand) : Option En := match evA T x with
  | some y => some ⟨y, [], []⟩
  | none => none
def opPickF (c x y : Operand) : Option En := match evA T c with
  | some (.d (.v (.bool true))) => match evA T x with
    | some u => some ⟨u, [], []⟩
    | none => none
  | some (.d (.v (.bool false))) => match evA T y with
    | some u => some ⟨u, [], []⟩
    | none => none
  | _ => none
def opFieldF (ty : TypeId) (x : Operand) (f : Nat) : Option En := match tt ty, evA T x with
  | some i, some (.agg cs) => match i.agg, i.el, i.fs[f]? with
    | true, none, some p => match tt p.2 with
      | some j => match j.agg with
        | true => match sub cs p.1 j.size with
          | some ds => some ⟨.agg ds, [], []⟩
          | none => none
        | false => match cs[p.1]? with
          | some c => some ⟨c, [], []⟩
          | none => none
      | none => none
    | _, _, _ => none
  | _, _ => none
def opFieldAddrF (ty : TypeId) (x : Operand) (f : Nat) : Option En := match tt ty, evA T x with
  | some i, some y => match i.agg, i.el, i.fs[f]? with
    | true, none, some p => match tt p.2 with
      | some j => match Nat.beq j.size 0, faddr y p.1 with
        | false, some z => some ⟨z, [], []⟩
        | _, _ => none
      | none => none
    | _, _, _ => none
  | _, _ => none
def opBinF (op : BinOp) (x y : Operand) : Option En := match evA T x, evA T y with
  | some (.d (.v (.int k a))), some (.d (.v (.int k' b))) => match decide (k = k'), intOp op k a b with
    | true, some r => some ⟨.d (.v r), [], []⟩
    | _, _ => none
  | some (.d (.v (.string a))), some (.d (.v (.string b))) => match strOp op a b with
    | some r => some ⟨.d (.v r), [], []⟩
    | none => none
  | _, _ => none
def opUnF (op : UnOp) (x : Operand) : Option En := match op, evA T x with
  | .not, some (.d (.v (.bool b))) => some ⟨.d (.v (.bool !b)), [], []⟩
  | .neg, some (.d (.v (.int k n))) => some ⟨.d (.v (.int k (k.wrap (0 - n)))), [], []⟩
  | _, _ => none
def opConvF (s d : TypeId) (x : Operand) : Option En := match tt s, tt d, evA T x with
  | some _, some j, some (.d (.v (.int _ n))) => match j.ik with
    | some k' => some ⟨.d (.v (.int k' (k'.wrap n))), [], []⟩
    | none => none
  | _, _, _ => none
def opExtractF (x : Operand) (n : Nat) : Option En := match evA T x with
  | some (.tup cs) => match cs[n]? with
    | some c => some ⟨c, [], []⟩
    | none => none
  | _ => none
def opNilF (x : Operand) : Option En := match evA T x with
  | some (.ptr g off) => some ⟨.ptr g off, [], []⟩
  | some (.elt g sz i off) => some ⟨.elt g sz i off, [], []⟩
  | some (.rp cs) => some ⟨.rp cs, [], []⟩
  | some (.clo f cs) => some ⟨.clo f cs, [], []⟩
  | _ => none
def opFuncF (fn : Fn) (first cap : Array Operand) : Option En := match fn, first.toList, evs T cap.toList with
  | .func f, [], some ys => some ⟨.clo f ys, [], []⟩
  | _, _, _ => none
def opBoxF (dst : Option Tmp) (ty : TypeId) (x : Operand) : Option En := match dst, evA T x with
  | some d, some y => match flat y, M d with
    | true, none => match cellsOf y with
      | cs => some ⟨.ptr d 0, [d], [(d, .box ty cs)]⟩
    | _, _ => none
  | _, _ => none
def opAllocF (dst : Option Tmp) (ty : TypeId) : Option En := match dst, tt ty with
  | some d, some i => match M d, zeroA i.zero with
    | none, some cs => some ⟨.ptr d 0, [d], [(d, .box ty cs)]⟩
    | _, _ => none
  | _, _ => none
def opStoreF (ty : TypeId) (x y : Operand) : Option En := match tt ty, evA T x, evA T y with
  | some i, some (.ptr g off), some z => match M g, flat z, Nat.beq (cellsOf z).length i.size with
    | some (.box bty cs), true, true => match spl cs off (cellsOf z) with
      | some ds => some ⟨.d (.v undef), [g], [(g, .box bty ds)]⟩
      | none => none
    | _, _, _ => none
  | _, _, _ => none
def opBuildF (ty : TypeId) (parts : Array (Nat × Operand)) : Option En := match tt ty with
  | some i => match i.agg, i.fs.all (fun p => (tt p.2).isSome), i.zero.all Value.oneCell' with
    | true, true, true => match evP T parts.toList, zeroA i.zero, i.el with
      | some ps, some zs, none => match fillA (plSF tt i.fs) zs ps with
        | some cs => some ⟨.agg cs, [], []⟩
        | none => none
      | some ps, some zs, some e => match tt e with
        | some j => match fillA (fun k => some (k * j.size, j.size)) zs ps with
          | some cs => some ⟨.agg cs, [], []⟩
          | none => none
        | none => none
      | _, _, _ => none
    | _, _, _ => none
  | none => none
def opBuildSliceF (dst : Option Tmp) (ty : TypeId) (len : Nat) (parts : Array (Nat × Operand)) : Option En := match dst, tt ty with
  | some d, some i => match i.isS, i.el, M d with
    | true, some e, none => match tt e with
      | some j => match Nat.blt 0 j.size, Nat.ble (len * j.size) 16777216, j.zero.all Value.oneCell', Nat.beq j.zero.length j.size with
        | true, true, true, true => match evP T parts.toList with
          | some ps => match fillA (fun k => some (k * j.size, j.size)) (zeroR j.zero (len * j.size)) ps with
            | some cs => match chunkD j.size len cs with
              | some rs => match Nat.beq len 0 with
                | true => some ⟨.own d, [d], [(d, .arr e j.size rs)]⟩
                | false => some ⟨.d (.rows j.size rs), [], []⟩
              | none => none
            | none => none
          | none => none
        | _, _, _, _ => none
      | none => none
    | _, _, _ => none
  | _, _ => none
def opLenF (ty : TypeId) (x : Operand) : Option En := match tt ty with
  | some i => match i.isS, i.el, evA T x with
    | true, some _, some (.d (.rows _ rs)) => some ⟨.d (.v (.int .i64 (rs.length : Int))), [], []⟩
    | true, some _, some (.own g) => match M g with
      | some (.arr _ _ rs) => some ⟨.d (.v (.int .i64 (rs.length : Int))), [g], []⟩
      | _ => none
    | true, some _, some (.d (.v (.slice none 0 0))) => some ⟨.d (.v (.int .i64 0)), [], []⟩
    | _, _, _ => none
  | none => none
def opMMF (mn : Bool) (x y : Operand) : Option En := match mn, evA T x, evA T y with
  | true, some (.d (.v (.int k a))), some (.d (.v (.int k' b))) => match decide (k = k') with
    | true => some ⟨.d (.v (.int k (if b < a then b else a))), [], []⟩
    | false => none
  | false, some (.d (.v (.int k a))), some (.d (.v (.int k' b))) => match decide (k = k') with
    | true => some ⟨.d (.v (.int k (if b > a then b else a))), [], []⟩
    | false => none
  | _, _, _ => none
def opBuiltinF (b : Builtin) (args : Array Operand) (tys : Array TypeId) : Option En := match b, args.toList, tys.toList with
  | .len, [x], [t] => opLenF tt T M t x
  | .min, [x, y], [_, _] => opMMF T true x y
  | .max, [x, y], [_, _] => opMMF T false x y
  | _, _, _ => none
/-- What an operation does. -/
def opAF (o : Oper) : Option En := match o.op with
  | .move x => opMoveF T x
  | .assign x => opMoveF T x
  | .load ty x => opLoadF tt T M ty x
  | .binOp op _ x y _ => opBinF T op x y
  | .unOp op _ x => opUnF T op x
  | .pick c x y => opPickF T c x y
  | .field ty x f => opFieldF tt T ty x f
  | .fieldAddr ty x f => opFieldAddrF tt T ty x f
  | .convert s d x => opConvF tt T s d x
  | .extract x n => opExtractF T x n
  | .nilCheck x => opNilF T x
  | .makeFunc fn first cap => opFuncF T fn first cap
  | .box ty x => opBoxF T M o.dst ty x
  | .alloc ty => opAllocF tt M o.dst ty
  | .store ty x y => opStoreF tt T M ty x y
  | .build ty ps => opBuildF tt T ty ps
  | .buildSlice ty n ps => opBuildSliceF tt T M o.dst ty n ps
  | .call { callee := .builtin b, args := args, argTypes := tys } => opBuiltinF tt T M b args tys
  | _ => none
end
end Go.Am
/- Nothing is claimed here: closed calls, reckoned: what one operation does. -/
namespace Go.Am
set_option linter.unusedSimpArgs false
set_option linter.unusedVariables false
set_option linter.unnecessarySimpa false
set_option linter.unusedSectionVars false
set_option maxRecDepth 100000
open Go Go.RowKit Go.Proofs.Grow
section
variable (P : Program) (tt : Nat → Option TI) (g : Nat) (T : Nat → Option AV) (M : Nat → Option AO)
def oR (x : Option En) (w : Nat) : Rn En := match x with
  | some e => .ok e
  | none => .bad w 0
def exBox (ty : TypeId) (x : Operand) : Option En := match evA T x with
  | some y => match flat y, M g with
    | true, none => some ⟨.ptr g 0, [g], [(g, .box ty (cellsOf y))]⟩
    | _, _ => none
  | none => none
def exAlloc (ty : TypeId) : Option En := match tt ty with
  | some i => match M g, zeroA i.zero with
    | none, some cs => some ⟨.ptr g 0, [g], [(g, .box ty cs)]⟩
    | _, _ => none
  | none => none
def exBSlice (ty : TypeId) (len : Nat) (parts : Array (Nat × Operand)) : Rn En := match tt ty with
  | some i => match i.isS, i.el, M g with
    | true, some e, none => match tt e with
      | some j => match Nat.blt 0 j.size, Nat.ble (len * j.size) 16777216, j.zero.all Value.oneCell', Nat.beq j.zero.length j.size with
        | true, true, true, true => match evP T parts.toList with
          | some ps => match fillA (fun k => some (k * j.size, j.size)) (zeroR j.zero (len * j.size)) ps with
            | some cs => match chunkD j.size len cs with
              | some rs => match Nat.beq len 0 with
                | true => .ok ⟨.own g, [g], [(g, .arr e j.size rs)]⟩
                | false => .ok ⟨.d (.rows j.size rs), [], []⟩
              | none => .need (AV.idls cs)
            | none => .bad 31 0
          | none => .bad 32 0
        | _, _, _, _ => .bad 33 0
      | none => .bad 34 e
    | _, _, _ => .bad 35 0
  | none => .bad 36 ty
def natOf : AV → Option Nat
  | .d (.v (.int _ (.ofNat n))) => some n
  | _ => none
def exIdx (ty : TypeId) (x y : Operand) : Option En := match tt ty, evA T x, evA T y with
  | some i, some xv, some yv => match natOf yv, i.el with
    | some n, some e => match tt e with
      | some j => match i.isS, xv with
        | true, .d (.rows sz rs) => match Nat.beq j.size sz, rs[n]? with
          | true, some row => some ⟨.rp row, [], []⟩
          | _, _ => none
        | true, .own q => match M q with
          | some (.arr _ sz rs) => match Nat.beq j.size sz, Nat.blt n rs.length with
            | true, true => some ⟨.elt q sz n 0, [q], []⟩
            | _, _ => none
          | _ => none
        | true, .sl q sz lo m _ => match M q with
          | some (.arr _ sz' rs) => match Nat.beq sz sz', Nat.beq j.size sz, Nat.blt n m with
            | true, true, true => some ⟨.elt q sz (lo + n) 0, [q], []⟩
            | _, _, _ => none
          | _ => none
        | false, .ptr q off => match i.agg, Nat.blt n i.len with
          | true, true => some ⟨.ptr q (off + n * j.size), [], []⟩
          | _, _ => none
        | _, _ => none
      | none => none
    | _, _ => none
  | _, _, _ => none
def exLoad (ty : TypeId) (x : Operand) : Option En := match tt ty, evA T x with
  | some i, some (.elt q sz n off) => match M q with
    | some (.arr _ sz' rs) => match Nat.beq sz sz', rs[n]? with
      | true, some row => match i.agg with
        | true => match sub row off i.size with
          | some ds => match avs ds with
            | some es => some ⟨.agg es, [q], []⟩
            | none => none
          | none => none
        | false => match row[off]? with
          | some c => some ⟨.d c, [q], []⟩
          | none => none
      | _, _ => none
    | _ => none
  | _, _ => opLoadF tt T M ty x
def exStore (ty : TypeId) (x y : Operand) : Rn En := match tt ty, evA T x, evA T y with
  | some i, some (.elt q sz n off), some z => match M q, flat z with
    | some (.arr ety sz' rs), true => match dsO (cellsOf z), Nat.beq sz sz', rs[n]? with
      | some ds, true, some row => match Nat.beq ds.length i.size, spl row off ds with
        | true, some new => .ok ⟨.d (.v undef), [q], [(q, .arr ety sz (rs.set n new))]⟩
        | _, _ => .bad 41 0
      | none, _, _ => .need z.idl
      | _, _, _ => .bad 42 0
    | _, _ => .bad 43 0
  | _, _, _ => oR (opStoreF tt T M ty x y) 44
/-- What is appended: rows, an own slice, a nil slice. -/
def srcE (x : Operand) (e : TypeId) (sz : Nat) : Option (List Nat × List (List D)) := match evA T x with
  | some (.d (.rows sz' rs)) => match Nat.beq sz' sz with
    | true => some ([], rs)
    | false => none
  | some (.own q) => match M q with
    | some (.arr e' sz' rs) => match Nat.beq sz' sz, Nat.beq e' e with
      | true, true => some ([q], rs)
      | _, _ => none
    | _ => none
  | some (.d (.v (.slice none 0 0))) => some ([], [])
  | _ => none
def exAppend (s x : Operand) (t t' : TypeId) : Option En := match Nat.beq t t', tt t with
  | true, some i => match i.isS, i.el, M g with
    | true, some e, none => match tt e with
      | some j => match Nat.blt 0 j.size, Nat.beq j.zero.length j.size, srcE T M x e j.size with
        | true, true, some (L, rs2) => match evA T s with
          | some (.own q) => match M q with
            | some (.arr e' sz rs) => match Nat.beq e' e, Nat.beq sz j.size, Nat.ble ((rs.length + rs2.length) * j.bytes) 140737488355328, Nat.ble (rs.length + rs2.length) maxLen with
              | true, true, true, true => some ⟨.own g, [g, q] ++ L, [(g, .arr e j.size (rs ++ rs2)), (q, .dead)]⟩
              | _, _, _, _ => none
            | _ => none
          | some (.d (.v (.slice none 0 0))) => match Nat.ble (rs2.length * j.bytes) 140737488355328, Nat.ble rs2.length maxLen with
            | true, true => some ⟨.own g, [g] ++ L, [(g, .arr e j.size rs2)]⟩
            | _, _ => none
          | _ => none
        | _, _, _ => none
      | none => none
    | _, _, _ => none
  | _, _ => none
def exLen (t : TypeId) (x : Operand) : Option En := match evA T x with
  | some (.sl _ _ _ n _) => match tt t with
    | some i => match i.isS, i.el with
      | true, some _ => some ⟨.d (.v (.int .i64 (n : Int))), [], []⟩
      | _, _ => none
    | none => none
  | some (.d (.v (.string s))) => match P.underlying t with
    | some .string => some ⟨.d (.v (.int .i64 (s.size : Int))), [], []⟩
    | _ => none
  | _ => opLenF tt T M t x
/-- Rows made zero. -/
def exClear (x : Operand) (t : TypeId) : Option En := match tt t, evA T x with
  | some i, some (.sl q sz lo n _) => match i.isS, i.el, M q with
    | true, some e, some (.arr e' sz' rs) => match tt e with
      | some j => match Nat.blt 0 j.size && (Nat.beq j.zero.length j.size && (j.zero.all Value.oneCell' && (Nat.beq j.size sz && (Nat.beq e' e && (Nat.beq sz' sz && Nat.ble (lo + n) rs.length))))) with
        | true => some ⟨.tup [], [q], [(q, .arr e sz (rs.take lo ++ List.replicate n (j.zero.map D.v) ++ rs.drop (lo + n)))]⟩
        | false => none
      | none => none
    | _, _, _ => none
  | _, _ => none
def exBuiltin (b : Builtin) (args : Array Operand) (tys : Array TypeId) : Rn En := match b, args.toList, tys.toList with
  | .len, [x], [t] => oR (exLen P tt T M t x) 51
  | .min, [x, y], [_, _] => oR (opMMF T true x y) 52
  | .max, [x, y], [_, _] => oR (opMMF T false x y) 53
  | .append, [s, x], [t, t'] => match exAppend tt g T M s x t t' with
    | some e => .ok e
    | none => .bad 54 0
  | .clear, [x], [t] => oR (exClear tt T M x t) 56
  | _, _, _ => .bad 55 0
def bdE (x : Option Operand) (d : Nat) : Option Nat := match x with
  | none => some d
  | some y => match evA T y with
    | some v => natOf v
    | none => none
def exSlice (ty : TypeId) (x : Operand) (lo hi mx : Option Operand) : Option En := match evA T x, mx with
  | some (.d (.rows sz rs)), none => match tt ty, bdE T lo 0, bdE T hi rs.length with
    | some i, some a, some b => match i.isS, i.el with
      | true, some e => match tt e with
        | some j => match Nat.beq j.size sz, Nat.ble a b, Nat.ble b rs.length with
          | true, true, true => some ⟨.d (.rows sz ((rs.take b).drop a)), [], []⟩
          | _, _, _ => none
        | none => none
      | _, _ => none
    | _, _, _ => none
  | some (.own q), none => match M q with
    | some (.arr ety sz rs) => match tt ty, bdE T lo 0, bdE T hi rs.length with
      | some i, some a, some b => match i.isS, i.el with
        | true, some e => match tt e with
          | some j => match Nat.beq j.size sz, Nat.ble a b, Nat.ble b rs.length with
            | true, true, true => some ⟨.sl q sz (0 + a) (b - a) none, [q], []⟩
            | _, _, _ => none
          | none => none
        | _, _ => none
      | _, _, _ => none
    | _ => none
  | some (.d (.rows sz rs)), some z => match tt ty, bdE T lo 0, bdE T hi rs.length, bdE T (some z) 0 with
    | some i, some 0, some 0, some 0 => match i.isS, i.el with
      | true, some e => none
      | _, _ => none
    | _, _, _, _ => none
  | _, _ => none
def exMake (ty : TypeId) (x y : Operand) : Option En := match tt ty, evA T x, evA T y with
  | some i, some xv, some yv => match i.isS, i.el, natOf xv, natOf yv with
    | true, some e, some n, some m => match tt e with
      | some j => match Nat.beq n m, Nat.ble (j.bytes * n) 281474976710656, Nat.ble n 16777216 with
        | true, true, true => match Nat.beq j.zero.length j.size, j.zero.all Value.oneCell', M g with
          | true, true, none => some ⟨.own g, [g], [(g, .arr e j.size (List.replicate n (j.zero.map D.v)))]⟩
          | _, _, _ => none
        | _, _, _ => none
      | none => none
    | _, _, _, _ => none
  | _, _, _ => none
def exBytes (s d : TypeId) (x : Operand) : Option En := match evA T x with
  | some (.d (.v (.string b))) => match P.underlying s, P.underlying d with
    | some _, some (.slice e) => match P.underlying e, Nat.ble b.size maxLen with
      | some (.int .u8), true => some ⟨.d (.rows 1 (b.data.toList.map fun c => [D.v (.int .u8 c.toNat)])), [], []⟩
      | _, _ => none
    | _, _ => none
  | _ => none
/-- Is a slice nil? -/
def exNil (t : TypeId) (x : Operand) : Option En := match tt t with
  | some i => match i.isS, i.el, evA T x with
    | true, some _, some (.d (.rows _ (_ :: _))) => some ⟨.d (.v (.bool false)), [], []⟩
    | true, some _, some (.d (.v (.slice a _ _))) => some ⟨.d (.v (.bool a.isNone)), [], []⟩
    | true, some _, some (.own q) => match M q with
      | some (.arr _ _ (_ :: _)) => some ⟨.d (.v (.bool false)), [q], []⟩
      | _ => none
    | _, _, _ => none
  | none => none
/-- What an operation does, calls of functions aside. -/
def opE (o : Oper) : Rn En := match o.op with
  | .alloc ty => oR (exAlloc tt g M ty) 1
  | .box ty x => oR (exBox g T M ty x) 2
  | .buildSlice ty n ps => exBSlice tt g T M ty n ps
  | .convert s d x => match exBytes P T s d x with
    | some e => .ok e
    | none => oR (opConvF tt T s d x) 8
  | .binOp .eql t x y _ => match (match evA T y with
      | some (.d (.v (.slice none 0 0))) => exNil tt T M t x
      | _ => none : Option En) with
    | some e => .ok e
    | none => match opBinF T .eql x y with
      | some e => .ok e
      | none => match semOf T o with
        | some s => match pureRun P s with
          | some u => .ok ⟨cvA u, [], []⟩
          | none => .bad 9 1
        | none => .bad 9 2
  | .makeSlice ty x y => oR (exMake tt g T M ty x y) 7
  | .indexAddr ty x y => oR (exIdx tt T M ty x y) 3
  | .load ty x => oR (exLoad tt T M ty x) 4
  | .store ty x y => exStore tt T M ty x y
  | .slice ty x lo hi mx => match exSlice tt T M ty x lo hi mx with
    | some e => .ok e
    | none => match semOf T o with
      | some s => match pureRun P s with
        | some u => .ok ⟨cvA u, [], []⟩
        | none => .bad 5 1
      | none => .bad 5 2
  | .call { callee := .builtin b, args := args, argTypes := tys } => exBuiltin P tt g T M b args tys
  | _ => match opAF tt T M o with
    | some e => .ok e
    | none => match semOf T o with
      | some s => match pureRun P s with
        | some u => .ok ⟨cvA u, [], []⟩
        | none => .bad 6 1
      | none => .bad 6 2
end
section
variable {P : Program} {tbl : List (Nat × TI)} {o : Oper} {T : Nat → Option AV} {M : Nat → Option AO} {e : En} {g : Nat}
theorem step_index_part (htb : TOK P tbl) {ty e ety : TypeId} {x y : Operand} {i j : TI} {g sz lo m n : Nat} {c : Option Nat} {k : IntKind} {q : Int} {rs : List (List D)} (ho : o.op = .indexAddr ty x y) (ht : lk tbl ty = some i) (hs : i.isS = true) (he : i.el = some e) (hj : lk tbl e = some j) (hsz : j.size = sz)
    (hx : evA T x = some (.sl g sz lo m c)) (hg : M g = some (.arr ety sz rs)) (hy : evA T y = some (.d (.v (.int k q)))) (hq : q = (n : Int)) (hn : n < m) : StepOK P o T M ⟨.elt g sz (lo + n) 0, [g], []⟩ :=
  step_read [g] fun cx μ T' M' a w h hT hM => by
    subst hq
    subst hsz
    rw [← hM g (by simp)] at hg
    have h1 := h.ev (x := x) hT (by simp [ho, Op.operands]) hx
    have h2 := (h.ev (x := y) hT (by simp [ho, Op.operands]) hy).val
    have hg' : M' g = some (mkO ety j.size none rs) := hg
    obtain ⟨ad, m', cap, xs, q1, q2, q3, q4, q5, q6, _⟩ := h.cells hg'
    generalize hv : a.eval x = v at h1
    cases h1 with
    | @sl _ _ _ _ _ ad2 p m2 cap2 k2 hb hk hnk hc ha =>
      rw [q1] at hb
      obtain ⟨rfl, rfl, rfl⟩ : ad = ad2 ∧ m' = m2 ∧ cap = cap2 := by simpa using hb
      cases ad with
      | none => have := q5 rfl; omega
      | some z =>
        obtain ⟨b, cur, rfl, c1, c2, c3⟩ := q6 z rfl
        have hp : p = some ⟨b, lo * j.size, none⟩ := by
          rcases ha with rfl | ⟨e, _⟩
          · simp [addr_add]
          · omega
        subst hp
        have hrun := run_indexSlice htb ht hs he hj (b := b) (off := lo * j.size) (len := m) (cap := k2) (k := k) hn w
        have e : lo * j.size + n * j.size = (lo + n) * j.size + 0 := by rw [Nat.add_mul, Nat.add_zero]
        rw [e] at hrun
        exact ⟨.pointer (some ⟨b, (lo + n) * j.size + 0, none⟩), by simp only [execOp, ho, hv, h2, Sem.run_bind, hrun, Result.andThen_ok, Sem.run_pure], .elt q1⟩
theorem oR_ok {x : Option En} {w : Nat} (h : oR x w = .ok e) : x = some e := by
  unfold oR at h; split at h
  · cases h; rfl
  · cases h
theorem exAlloc_sound (htb : TOK P tbl) {ty : TypeId} (ho : o.op = .alloc ty) (h : exAlloc (lk tbl) g M ty = some e) : StepOK P o T M e := by
  unfold exAlloc at h
  split at h
  · rename_i i ht
    split at h
    · rename_i cs hg hz; obtain rfl := Option.some.inj h; exact go_alloc htb g ho ht hg hz
    · cases h
  · cases h
theorem exBox_sound {ty : TypeId} {x : Operand} (ho : o.op = .box ty x) (h : exBox g T M ty x = some e) : StepOK P o T M e := by
  unfold exBox at h
  split at h
  · rename_i y hy
    split at h
    · rename_i hf hg; obtain rfl := Option.some.inj h; exact step_box g ho hy hf hg
    · cases h
  · cases h
theorem exBSlice_sound (htb : TOK P tbl) {ty : TypeId} {n : Nat} {ps : Array (Nat × Operand)} (ho : o.op = .buildSlice ty n ps) (h : exBSlice (lk tbl) g T M ty n ps = .ok e) : StepOK P o T M e := by
  unfold exBSlice at h
  split at h
  · rename_i i ht
    split at h
    · rename_i el hs he hg
      split at h
      · rename_i j hj
        split at h
        · rename_i h1 h2 h3 h4
          split at h
          · rename_i q hq
            split at h
            · rename_i cs hf
              split at h
              · rename_i rs hc
                split at h
                · cases h; exact go_buildSlice htb g ho ht hs he hj h1 h2 h3 h4 hq hf hc hg
                · cases h; exact go_buildRows htb ho ht hs he hj h1 h2 h3 h4 hq hf hc
              · cases h
            · cases h
          · cases h
        · cases h
      · cases h
    · cases h
  · cases h
theorem natOf_spec {y : AV} {n : Nat} (h : natOf y = some n) : ∃ k, y = .d (.v (.int k (n : Int))) := by
  unfold natOf at h
  split at h
  · rename_i k m; obtain rfl := Option.some.inj h; exact ⟨k, rfl⟩
  · cases h
theorem exIdx_sound (htb : TOK P tbl) {ty : TypeId} {x y : Operand} (ho : o.op = .indexAddr ty x y) (h : exIdx (lk tbl) T M ty x y = some e) : StepOK P o T M e := by
  unfold exIdx at h
  split at h
  · rename_i i xv yv ht hx hy
    split at h
    · rename_i n el hn he
      obtain ⟨k, rfl⟩ := natOf_spec hn
      split at h
      · rename_i j hj
        split at h
        · rename_i sz rs hs
          split at h
          · rename_i row h1 h2; obtain rfl := Option.some.inj h
            exact step_index_rows htb ho ht hs he hj (Nat.eq_of_beq_eq_true h1) hx hy rfl h2
          · cases h
        · rename_i q hs
          split at h
          · rename_i ety sz rs hg
            split at h
            · rename_i h1 h2; obtain rfl := Option.some.inj h
              exact step_index_own htb ho ht hs he hj (Nat.eq_of_beq_eq_true h1) hx hg hy rfl (Nat.le_of_ble_eq_true h2)
            · cases h
          · cases h
        · rename_i q sz lo m c hs
          split at h
          · rename_i ety sz' rs hg
            split at h
            · rename_i h0 h1 h2; obtain rfl := Option.some.inj h
              have := Nat.eq_of_beq_eq_true h0; subst this
              exact step_index_part htb ho ht hs he hj (Nat.eq_of_beq_eq_true h1) hx hg hy rfl (Nat.le_of_ble_eq_true h2)
            · cases h
          · cases h
        · rename_i q off hs
          split at h
          · rename_i ha hn; obtain rfl := Option.some.inj h
            exact step_index_arr htb ho ht ha he hj hx hy hn
          · cases h
        · cases h
      · cases h
    · cases h
  · cases h
theorem exLoad_sound (htb : TOK P tbl) {ty : TypeId} {x : Operand} (ho : o.op = .load ty x) (h : exLoad (lk tbl) T M ty x = some e) : StepOK P o T M e := by
  unfold exLoad at h
  split at h
  · rename_i i q sz n off ht hx
    split at h
    · rename_i ety sz' rs hg
      split at h
      · rename_i row h1 h2
        have := Nat.eq_of_beq_eq_true h1; subst this
        split at h
        · rename_i ha
          split at h
          · rename_i ds hs
            split at h
            · rename_i es he; obtain rfl := Option.some.inj h; exact go_load_elt_agg htb ho ht ha hx hg h2 hs he
            · cases h
          · cases h
        · rename_i ha
          split at h
          · rename_i c hc; obtain rfl := Option.some.inj h; exact go_load_elt_one htb ho ht ha hx hg h2 hc
          · cases h
      · cases h
    · cases h
  · exact opA_sound htb (by unfold opA; rw [ho]; exact h)
theorem exStore_sound (htb : TOK P tbl) {ty : TypeId} {x y : Operand} (ho : o.op = .store ty x y) (h : exStore (lk tbl) T M ty x y = .ok e) : StepOK P o T M e := by
  unfold exStore at h
  split at h
  · rename_i i q sz n off z ht hx hy
    split at h
    · rename_i ety sz' rs hg hf
      split at h
      · rename_i ds row hd h1 hr
        have := Nat.eq_of_beq_eq_true h1; subst this
        split at h
        · rename_i new hl hs; cases h; exact go_store_elt htb ho ht hx hy hf hd hg hr hl hs
        · cases h
      · cases h
      · cases h
    · cases h
  · exact opA_sound htb (by unfold opA; rw [ho]; exact oR_ok h)
theorem srcE_sound {x : Operand} {el sz : Nat} {L : List Nat} {rs : List (List D)} (h : srcE T M x el sz = some (L, rs)) : Src T M el sz x L rs := by
  unfold srcE at h
  split at h
  · rename_i sz' rs' hx
    split at h
    · rename_i h1; have := Nat.eq_of_beq_eq_true h1; subst this
      cases h; exact .rows hx
    · cases h
  · rename_i q hx
    split at h
    · rename_i e' sz' rs' hg
      split at h
      · rename_i h1 h2
        have := Nat.eq_of_beq_eq_true h1; subst this
        have := Nat.eq_of_beq_eq_true h2; subst this
        cases h; exact .own hx hg
      · cases h
    · cases h
  · rename_i hx; cases h; exact .nil hx
  · cases h
theorem exAppend_sound (htb : TOK P tbl) {s x : Operand} {t t' : TypeId} (ho : o.op = .call { callee := .builtin .append, args := #[s, x], argTypes := #[t, t'] }) (h : exAppend (lk tbl) g T M s x t t' = some e) : StepOK P o T M e := by
  unfold exAppend at h
  split at h
  · rename_i i htt ht
    have := Nat.eq_of_beq_eq_true htt; subst this
    split at h
    · rename_i el hs he hg
      split at h
      · rename_i j hj
        split at h
        · rename_i L rs2 h1 h2 hsrc
          have hsrc := srcE_sound hsrc
          split at h
          · rename_i q hq
            split at h
            · rename_i e' sz rs hm
              split at h
              · rename_i k1 k2 k3 k4
                have := Nat.eq_of_beq_eq_true k1; subst this
                have := Nat.eq_of_beq_eq_true k2; subst this
                obtain rfl := Option.some.inj h
                exact go_append htb g ho ht hs he hj h1 h2 hq hm hsrc hg (Nat.le_of_ble_eq_true k3) (Nat.le_of_ble_eq_true k4)
              · cases h
            · cases h
          · rename_i hq
            split at h
            · rename_i k3 k4
              obtain rfl := Option.some.inj h
              exact go_append_nil htb g ho ht hs he hj h1 h2 hq hsrc hg (Nat.le_of_ble_eq_true k3) (Nat.le_of_ble_eq_true k4)
            · cases h
          · cases h
        · cases h
      · cases h
    · cases h
  · cases h
theorem exLen_sound (htb : TOK P tbl) {x : Operand} {t : TypeId} (ho : o.op = .call { callee := .builtin .len, args := #[x], argTypes := #[t] }) (h : exLen P (lk tbl) T M t x = some e) : StepOK P o T M e := by
  unfold exLen at h
  split at h
  · rename_i q sz lo n c hx
    split at h
    · rename_i i ht
      split at h
      · rename_i el hs he; obtain rfl := Option.some.inj h; exact step_len_sl htb ho ht hs he hx
      · cases h
    · cases h
  · rename_i s hx
    split at h
    · rename_i hd; obtain rfl := Option.some.inj h; exact step_len_str htb ho hd hx
    · cases h
  · exact opA_sound htb (by unfold opA; rw [ho]; exact h)
theorem exClear_sound (htb : TOK P tbl) {x : Operand} {t : TypeId} (ho : o.op = .call { callee := .builtin .clear, args := #[x], argTypes := #[t] }) (h : exClear (lk tbl) T M x t = some e) : StepOK P o T M e := by
  unfold exClear at h
  split at h
  · rename_i i q sz lo n c ht hx
    split at h
    · rename_i el e' sz' rs hs he hg
      split at h
      · rename_i j hj
        split at h
        · rename_i hb
          simp only [Bool.and_eq_true] at hb
          obtain ⟨h1, h2, h3, h4, h5, h6, h7⟩ := hb
          have := Nat.eq_of_beq_eq_true h5; subst this
          have := Nat.eq_of_beq_eq_true h6; subst this
          obtain rfl := Option.some.inj h
          exact step_clear (c' := none) htb ho ht hs he hj h1 h2 h3 (Nat.eq_of_beq_eq_true h4) hx hg (Nat.le_of_ble_eq_true h7)
        · cases h
      · cases h
    · cases h
  · cases h
theorem exBuiltin_sound (htb : TOK P tbl) {b : Builtin} {args : Array Operand} {tys : Array TypeId} (ho : o.op = .call { callee := .builtin b, args := args, argTypes := tys }) (h : exBuiltin P (lk tbl) g T M b args tys = .ok e) : StepOK P o T M e := by
  unfold exBuiltin at h
  split at h
  · rename_i x t ha ht; obtain rfl := list1 ha; obtain rfl := list1 ht; exact exLen_sound htb ho (oR_ok h)
  · rename_i x y t t' ha ht; exact opA_sound htb (by unfold opA; rw [ho]; unfold opBuiltin; simp only [ha, ht]; exact oR_ok h)
  · rename_i x y t t' ha ht; exact opA_sound htb (by unfold opA; rw [ho]; unfold opBuiltin; simp only [ha, ht]; exact oR_ok h)
  · rename_i s x t t' ha ht; obtain rfl := list2 ha; obtain rfl := list2 ht
    split at h
    · rename_i e' he; cases h; exact exAppend_sound htb ho he
    · cases h
  · rename_i x t ha ht; obtain rfl := list1 ha; obtain rfl := list1 ht; exact exClear_sound htb ho (oR_ok h)
  · cases h
theorem bdE_sound {x : Option Operand} {d n : Nat} (h : bdE T x d = some n) : bdA T x d n := by
  unfold bdE at h
  split at h
  · obtain rfl := Option.some.inj h; exact .inl ⟨rfl, rfl⟩
  · rename_i y
    split at h
    · rename_i v hv; obtain ⟨k, rfl⟩ := natOf_spec h; exact .inr ⟨y, k, rfl, hv⟩
    · cases h
theorem exSlice_sound (htb : TOK P tbl) {ty : TypeId} {x : Operand} {lo hi mx : Option Operand} (ho : o.op = .slice ty x lo hi mx) (h : exSlice (lk tbl) T M ty x lo hi mx = some e) : StepOK P o T M e := by
  unfold exSlice at h
  split at h
  · rename_i sz rs hx
    split at h
    · rename_i i a b ht hlo hhi
      split at h
      · rename_i el hs he
        split at h
        · rename_i j hj
          split at h
          · rename_i h1 h2 h3; obtain rfl := Option.some.inj h
            exact step_slice htb ho ht hs he hj (Nat.eq_of_beq_eq_true h1) hx (bdE_sound hlo) (bdE_sound hhi) (Nat.le_of_ble_eq_true h2) (Nat.le_of_ble_eq_true h3)
          · cases h
        · cases h
      · cases h
    · cases h
  · rename_i q hx
    split at h
    · rename_i ety sz rs hg
      split at h
      · rename_i i a b ht hlo hhi
        split at h
        · rename_i el hs he
          split at h
          · rename_i j hj
            split at h
            · rename_i h1 h2 h3; obtain rfl := Option.some.inj h
              exact step_cut htb ho ht hs he hj (Nat.eq_of_beq_eq_true h1) hx (c' := none) (ety := ety) (rs := rs) .own hg (fun _ _ => rfl) (bdE_sound hlo) (bdE_sound hhi) (.inl (Nat.le_of_ble_eq_true h3)) (Nat.le_of_ble_eq_true h2) rfl
            · cases h
          · cases h
        · cases h
      · cases h
    · cases h
  · split at h
    · split at h <;> cases h
    · cases h
  · cases h
theorem step_mkz (htb : TOK P tbl) (g : Nat) {ty el : TypeId} {x y : Operand} {i j : TI} {kl kc : IntKind} {n : Nat} (ho : o.op = .makeSlice ty x y) (ht : lk tbl ty = some i) (hs : i.isS = true) (he : i.el = some el) (hj : lk tbl el = some j) (hzl : j.zero.length = j.size) (h1 : j.zero.all Value.oneCell' = true)
    (hx : evA T x = some (.d (.v (.int kl (n : Int))))) (hy : evA T y = some (.d (.v (.int kc (n : Int))))) (hb : j.bytes * n ≤ 281474976710656) (hn : n ≤ 16777216) (hg : M g = none) :
    StepOK P o T M ⟨.own g, [g], [(g, .arr el j.size (List.replicate n (j.zero.map D.v)))]⟩ :=
  step_any mem_self fun cx μ T' M' a w h hT hM => by
    rw [← hM g (by simp)] at hg
    have hd := slice_desc (htb _ _ ht) hs he
    obtain ⟨info, ds, z, q1, q2, q3, q4, q5, q6, _⟩ := ti_parts (htb _ _ hj)
    have h2 := (h.ev (x := x) hT (by simp [ho, Op.operands]) hx).val
    have h3 := (h.ev (x := y) hT (by simp [ho, Op.operands]) hy).val
    have hb2 : (info.bytes : Int) * (n : Int) ≤ 281474976710656 := by
      have : ((info.bytes * n : Nat) : Int) ≤ 281474976710656 := by rw [q5]; omega
      rwa [Int.natCast_mul] at this
    have hr := run_make (P := P) w ty el info z hd q1 q3 kl kc n n (by omega) (Int.le_refl _) hb2 (by omega)
    have hzs : z.cells.size = j.size := by rw [q6]; simpa using hzl
    have hmk : madeCells z.cells (n * info.size) = Builtin.zeroCells z.cells n := by
      unfold madeCells Builtin.zeroCells; rw [q4, hzs]
    simp only [Int.toNat_natCast, hmk] at hr
    have hzl2 : z.cells.toList = j.zero := by rw [q6]
    have hfl := zeros_flat z.cells n
    rw [hzl2] at hfl
    have hsize : (Builtin.zeroCells z.cells n).size = n * j.size := by simp [Builtin.zeroCells, hzs]
    refine ⟨.slice (some ⟨w.heap.size, 0, none⟩) n n, w.alloc (.cells (Builtin.zeroCells z.cells n) el), upμ μ g (.slice (some ⟨w.heap.size, 0, none⟩) n n), ?_, ?_, .own (upμ_self _ _)⟩
    · simp only [execOp, ho, h2, h3, Sem.run_bind, hr, Result.andThen_ok, Sem.run_pure]
    · refine h.new hg (chg_alloc w _) rfl (fun b hb => ?_) fun H' hk hH => ⟨_, (Builtin.zeroCells z.cells n).toList, upμ_self _ _, ⟨by simp [hsize], .inr ⟨w.heap.size, n, Builtin.zeroCells z.cells n, by simp, Nat.zero_le _, heap_alloc_new w _, by simp, by unfold maxLen; omega, hsize, ?_⟩⟩, fun r hr => by rw [List.eq_of_mem_replicate hr]; simpa using hzl, ?_, ?_⟩
      · obtain rfl := Option.some.inj hb
        simp
      · rw [List.length_replicate, ← hsize, ← Array.length_toList, List.take_length]
      · rw [← hzl2]; exact zeros_vds z.cells n
      · exact zeros_one (by rw [hzl2]; exact h1) n
theorem exMake_sound (htb : TOK P tbl) {ty : TypeId} {x y : Operand} (ho : o.op = .makeSlice ty x y) (h : exMake (lk tbl) g T M ty x y = some e) : StepOK P o T M e := by
  unfold exMake at h
  split at h
  · rename_i i xv yv ht hx hy
    split at h
    · rename_i el n m hs he hn hm
      obtain ⟨k, rfl⟩ := natOf_spec hn
      obtain ⟨k', rfl⟩ := natOf_spec hm
      split at h
      · rename_i j hj
        split at h
        · rename_i h1 h2 h3
          have := Nat.eq_of_beq_eq_true h1; subst this
          split at h
          · rename_i h4 h5 hg; obtain rfl := Option.some.inj h
            exact step_mkz htb g ho ht hs he hj (Nat.eq_of_beq_eq_true h4) h5 hx hy (Nat.le_of_ble_eq_true h2) (Nat.le_of_ble_eq_true h3) hg
          · cases h
        · cases h
      · cases h
    · cases h
  · cases h
theorem step_s2b {s d el : TypeId} {x : Operand} {b : ByteArray} {u : TypeDesc} (ho : o.op = .convert s d x) (hx : evA T x = some (.d (.v (.string b)))) (hs : P.underlying s = some u) (hd : P.underlying d = some (.slice el)) (he : P.underlying el = some (.int .u8)) (hb : b.size ≤ maxLen) :
    StepOK P o T M ⟨.d (.rows 1 (b.data.toList.map fun c => [D.v (.int .u8 c.toNat)])), [], []⟩ :=
  step_any (by intro p hp; simp at hp) fun cx μ T' M' a w h hT hM => by
    have h2 := (h.ev (x := x) hT (by simp [ho, Op.operands]) hx).val
    have hr := Lib.run_convert_string_bytes (P := P) w s d el b hs hd he
    have hsz := Lib.bytesWorld_size w el b
    have hch : Chg (fun _ => False) w (Lib.bytesWorld w el b) := ⟨rfl, rfl, rfl, by rw [hsz]; omega, fun k hk _ => Lib.bytesWorld_at_old w el b k hk⟩
    have hI2 : InvM cx μ T' (upM M' []) a (Lib.bytesWorld w el b) := by
      rw [upM_nil]
      exact h.next hch (fun _ hb => hb.elim) (fun _ _ hk => hk) (fun _ hb => .inl hb) (fun g o hg => .inl ⟨hg, fun _ _ _ _ _ hb => hb⟩) h.inj h.free
    refine ⟨.slice (some ⟨w.heap.size, 0, none⟩) b.size (grownCap w b.size 0 el), Lib.bytesWorld w el b, μ, ?_, hI2, ?_⟩
    · simp only [execOp, ho, h2, Sem.run_bind, hr, Result.andThen_ok, Sem.run_pure]
    · have hcap : b.size ≤ grownCap w b.size 0 el := by unfold grownCap; simp [Question.cut]
      have hl : (b.data.toList.map fun c => [D.v (.int .u8 c.toNat)]).length = b.size := by simp
      refine .d ?_
      rw [upM_nil] at hI2 ⊢
      by_cases h0 : b.size = 0
      · have e0 : (b.data.toList.map fun c => [D.v (.int .u8 c.toNat)]) = [] := List.eq_nil_of_length_eq_zero (by rw [hl, h0])
        rw [e0, h0]
        exact .nil 1 _ _ (fun e => by cases e)
      · have key : ∀ (i : Nat) (r : List D), (b.data.toList.map fun c => [D.v (.int .u8 c.toNat)])[i]? = some r → i < b.size ∧ r = [D.v (.int .u8 (b.data.toList.getD i 0).toNat)] := by
          intro i r hr
          rw [List.getElem?_map] at hr
          cases hq : b.data.toList[i]? with
          | none => rw [hq] at hr; cases hr
          | some c =>
            rw [hq] at hr
            have hi : i < b.data.toList.length := (List.getElem?_eq_some_iff.1 hq).1
            refine ⟨by simpa using hi, ?_⟩
            obtain rfl : [D.v (.int .u8 c.toNat)] = r := by simpa using hr
            rw [List.getD_eq_getElem?_getD, hq]; rfl
        have := VD.rows (H := Ht cx μ M') (w := Lib.bytesWorld w el b) 1 (b.data.toList.map fun c => [D.v (.int .u8 c.toNat)]) w.heap.size 0 (grownCap w b.size 0 el) (fun i _ => .int .u8 (b.data.toList.getD i 0).toNat)
          (fun e => h0 (by rw [← hl, e]; rfl)) (by rw [hl]; exact hcap) (by rw [hl]; exact hb) (fun hh => Nat.lt_irrefl _ (h.ht_lt hh)) (by rw [hsz]; omega) (fun i r hr => by obtain ⟨_, rfl⟩ := key i r hr; rfl)
          (fun i r j c hr hc => by
            obtain ⟨hi, rfl⟩ := key i r hr
            cases j with
            | zero => have := Lib.bytesWorld_cell w el b i hi; simpa using this
            | succ j => simp at hc)
          (fun i r j c hr hc => rfl)
          (fun i r j c hr hc => by
            obtain ⟨hi, rfl⟩ := key i r hr
            cases j with
            | zero => obtain rfl : D.v (.int .u8 (b.data.toList.getD i 0).toNat) = c := Option.some.inj hc
                      exact .v _
            | succ j => simp at hc)
        rw [hl] at this
        exact this
theorem exBytes_sound {s d : TypeId} {x : Operand} (ho : o.op = .convert s d x) (h : exBytes P T s d x = some e) : StepOK P o T M e := by
  unfold exBytes at h
  split at h
  · rename_i b hx
    split at h
    · rename_i u el hs hd
      split at h
      · rename_i he hb; obtain rfl := Option.some.inj h; exact step_s2b ho hx hs hd he (Nat.le_of_ble_eq_true hb)
      · cases h
    · cases h
  · cases h
theorem step_isnil_own (htb : TOK P tbl) {t t' : TypeId} {x y : Operand} {q sz : Nat} {ety : TypeId} {r : List D} {rs : List (List D)} {i : TI} {el : TypeId} (ho : o.op = .binOp .eql t x y t') (ht : lk tbl t = some i) (hs : i.isS = true) (he : i.el = some el) (hx : evA T x = some (.own q)) (hg : M q = some (.arr ety sz (r :: rs)))
    (hy : evA T y = some (.d (.v (.slice none 0 0)))) : StepOK P o T M ⟨.d (.v (.bool false)), [q], []⟩ :=
  step_read [q] fun cx μ T' M' a w h hT hM => by
    rw [← hM q (by simp)] at hg
    have h1 := h.ev (x := x) hT (by simp [ho, Op.operands]) hx
    have h2 := (h.ev (x := y) hT (by simp [ho, Op.operands]) hy).val
    obtain ⟨v, xs, g1, g2, g3, g4, g5⟩ := h.ob q _ hg
    generalize hv : a.eval x = u at h1
    cases h1 with
    | @own _ ad n cap hb =>
      rw [g1] at hb
      obtain rfl := Option.some.inj hb
      obtain ⟨ad', cap', hv', hnone, _⟩ := own_parts g2
      cases hv'
      have hsome : ad.isNone = false := by
        cases ad with
        | none => have := (hnone rfl).1; simp at this
        | some p => rfl
      have hrun := run_isnil htb ht hs he ad (r :: rs).length cap x y w
      rw [hsome] at hrun
      exact ⟨.bool false, by simp only [execOp, ho, hv, h2]; rw [Sem.run_bind, hrun]; rfl, .d (.v _)⟩
theorem exNil_sound (htb : TOK P tbl) {t t' : TypeId} {x y : Operand} (ho : o.op = .binOp .eql t x y t') (hy : evA T y = some (.d (.v (.slice none 0 0)))) (h : exNil (lk tbl) T M t x = some e) : StepOK P o T M e := by
  unfold exNil at h
  split at h
  · rename_i i ht
    split at h
    · rename_i hs he hx; obtain rfl := Option.some.inj h; exact step_isnil_rows htb ho ht hs he hx hy
    · rename_i hs he hx; obtain rfl := Option.some.inj h; exact step_isnil htb ho ht hs he hx hy
    · rename_i q hs he hx
      split at h
      · rename_i hg; obtain rfl := Option.some.inj h; exact step_isnil_own htb ho ht hs he hx hg hy
      · cases h
    · cases h
  · cases h
theorem semR {s : Option (Sem Value)} {k1 k2 k3 k4 : Nat} (h : (match s with
      | some s => match pureRun P s with
        | some u => Rn.ok (⟨cvA u, [], []⟩ : En)
        | none => .bad k1 k2
      | none => .bad k3 k4) = .ok e) : ∃ s' u, s = some s' ∧ pureRun P s' = some u ∧ e = ⟨cvA u, [], []⟩ := by
  split at h
  · split at h
    · rename_i u hu; cases h; exact ⟨_, u, rfl, hu, rfl⟩
    · cases h
  · cases h
theorem opE_sound (htb : TOK P tbl) (h : opE P (lk tbl) g T M o = .ok e) : StepOK P o T M e := by
  unfold opE at h
  split at h
  · rename_i ty ho; exact exAlloc_sound htb ho (oR_ok h)
  · rename_i ty x ho; exact exBox_sound ho (oR_ok h)
  · rename_i ty n ps ho; exact exBSlice_sound htb ho h
  · rename_i s d x ho
    split at h
    · rename_i e' he; cases h; exact exBytes_sound ho he
    · exact opA_sound htb (by unfold opA; rw [ho]; exact oR_ok h)
  · rename_i t x y t' ho
    split at h
    · rename_i e' he
      cases h
      split at he
      · rename_i hy; exact exNil_sound htb ho hy he
      · cases he
    · split at h
      · rename_i e' he; cases h; exact opA_sound htb (by unfold opA; rw [ho]; exact he)
      · obtain ⟨s, u, h1, h2, rfl⟩ := semR h; exact semOf_run h1 h2
  · rename_i ty x y ho; exact exMake_sound htb ho (oR_ok h)
  · rename_i ty x y ho; exact exIdx_sound htb ho (oR_ok h)
  · rename_i ty x ho; exact exLoad_sound htb ho (oR_ok h)
  · rename_i ty x y ho; exact exStore_sound htb ho h
  · rename_i ty x lo hi mx ho
    split at h
    · rename_i e' he; cases h; exact exSlice_sound htb ho he
    · obtain ⟨s, u, h1, h2, rfl⟩ := semR h; exact semOf_run h1 h2
  · rename_i b args tys ho; exact exBuiltin_sound htb ho h
  · split at h
    · rename_i e' he; cases h; exact opA_sound htb he
    · obtain ⟨s, u, h1, h2, rfl⟩ := semR h; exact semOf_run h1 h2
end
end Go.Am
/- Nothing is claimed here: closed calls, reckoned: regions, code, calls. -/
namespace Go.Am
set_option linter.unusedSimpArgs false
set_option linter.unusedVariables false
set_option linter.unnecessarySimpa false
set_option linter.unusedSectionVars false
set_option maxRecDepth 100000
open Go Go.RowKit Go.Proofs.Grow
/-- What a reckoning goes by: the program, its types, its functions, contracts on plain data, functions that are handed the caller's own slices. -/
structure Cfg where
  P : Program
  tt : BT TI
  fs : FuncId → Option Func
  kt : FuncId → List AV → Nat → Option (AV × List (Nat × AO))
  pol : FuncId → Bool
noncomputable def gdx (ops : List Oper) (T : List (Nat × AV)) (o : Oper) : Option Bool := match o.guard with
  | none => some true
  | some (j, want) => match ops[j]? with
    | some q => match q.dst with
      | some tj => match lkQ T tj with
        | some (.d (.v (.bool true))) => some want
        | some (.d (.v (.bool false))) => some (!want)
        | some (.d (.v (.tuple _))) => some false
        | _ => none
      | none => none
    | none => none
/- own slices into data -/
mutual
def AV.cv (q : Nat → Option (Nat × List (List D))) : AV → AV
  | .own g => match q g with
    | some p => .d (.rows p.1 p.2)
    | none => .own g
  | .agg cs => .agg (AV.cvs q cs)
  | x => x
def AV.cvs (q : Nat → Option (Nat × List (List D))) : List AV → List AV
  | [] => []
  | c :: r => AV.cv q c :: AV.cvs q r
end
mutual
theorem Cv_cv {M : Nat → Option AO} {q : Nat → Option (Nat × List (List D))} (hq : ∀ g p, q g = some p → ∃ ty, M g = some (.arr ty p.1 p.2)) : ∀ x : AV, Cv M x (x.cv q)
  | .own g => by
    unfold AV.cv; split
    · rename_i p hp; obtain ⟨ty, h⟩ := hq g p hp; exact .own h
    · exact .refl _
  | .agg cs => by unfold AV.cv; exact .agg (Cvs_cv hq cs).1 (Cvs_cv hq cs).2
  | .d _ | .ptr _ _ | .elt _ _ _ _ | .rp _ | .sl _ _ _ _ _ | .tup _ | .clo _ _ => by unfold AV.cv; exact .refl _
theorem Cvs_cv {M : Nat → Option AO} {q : Nat → Option (Nat × List (List D))} (hq : ∀ g p, q g = some p → ∃ ty, M g = some (.arr ty p.1 p.2)) : ∀ cs : List AV, Cvs M cs (AV.cvs q cs)
  | [] => by unfold AV.cvs; exact Cvs.nil
  | c :: r => by unfold AV.cvs; exact Cvs.cons (Cv_cv hq c) (Cvs_cv hq r)
end
mutual
def AV.owns : AV → List Nat
  | .own g => [g]
  | .agg cs => AV.ownss cs
  | _ => []
def AV.ownss : List AV → List Nat
  | [] => []
  | c :: r => AV.owns c ++ AV.ownss r
end
noncomputable def nOf : List Nat → Nat → Bool
  | [], _ => false
  | a :: r, g => match Nat.beq a g with
    | true => true
    | false => nOf r g
noncomputable def qOf (M : Nat → Option AO) (ok : Nat → Bool) (g : Nat) : Option (Nat × List (List D)) := match ok g with
  | true => match M g with
    | some (.arr _ sz rs) => some (sz, rs)
    | _ => none
  | false => none
noncomputable def AO.ids : AO → List Nat
  | .box _ cs => AV.idls cs
  | _ => []
/-- The objects that names lead to. -/
noncomputable def reach (M : Nat → Option AO) : Nat → List Nat → List (Nat × AO) → List (Nat × AO)
  | 0, _, acc => acc
  | _ + 1, [], acc => acc
  | n + 1, g :: r, acc => match lk acc g with
    | some _ => reach M n r acc
    | none => match M g with
      | some ob => reach M n (ob.ids ++ r) ((g, ob) :: acc)
      | none => reach M n r acc
theorem reach_sub {M : Nat → Option AO} : ∀ {n : Nat} {l : List Nat} {acc : List (Nat × AO)}, SubM M acc → SubM M (reach M n l acc)
  | 0, _, _, h => h
  | _ + 1, [], _, h => h
  | n + 1, g :: r, acc, h => by
    unfold reach
    split
    · exact reach_sub h
    · split
      · rename_i ob hob; exact reach_sub ⟨hob, h⟩
      · exact reach_sub h
noncomputable def plainD : List D → Bool
  | [] => true
  | .v _ :: r => plainD r
  | .rows _ _ :: _ => false
noncomputable def plainOB : AO → Bool
  | .box _ cs => AV.noRowss cs
  | .arr _ _ rs => rs.all plainD
  | .buf _ _ _ _ => false
  | .dead => true
noncomputable def plainLB : List (Nat × AO) → Bool
  | [] => true
  | p :: r => plainOB p.2 && plainLB r
theorem plainD_spec : ∀ {r : List D}, plainD r = true → ∀ c ∈ r, (AV.d c).noRows = true
  | .v x :: r, h, c, hc => by
    rcases List.mem_cons.1 hc with rfl | hc
    · simp [AV.noRows]
    · exact plainD_spec (r := r) (by simpa [plainD] using h) c hc
theorem plainLB_spec : ∀ {L : List (Nat × AO)}, plainLB L = true → PlainL L
  | [], _ => trivial
  | (g, ob) :: r, h => by
    simp only [plainLB, Bool.and_eq_true] at h
    refine ⟨?_, plainLB_spec h.2⟩
    have h1 := h.1
    cases ob with
    | box ty cs => exact h1
    | arr ty sz rs => exact fun q hq c hc => plainD_spec (List.all_eq_true.1 h1 q hq) c hc
    | buf ty sz cap rs => cases h1
    | dead => trivial
abbrev Rec := FuncId → List (Nat × AO) → List AV → Nat → Rn (AV × List (Nat × AO) × Nat)
noncomputable def callOK (M : Nat → Option AO) (Mi : List (Nat × AO)) (ys : List AV) (res : AV) (Mo : List (Nat × AO)) : Bool :=
  keysIn Mi Mo && (freshIn M Mi Mo && (AV.oks (keyIn Mi) ys && ((Mi.all fun p => p.2.ok (keyIn Mi)) && (AV.ok (keyIn Mo) res && (Mo.all fun p => p.2.ok (keyIn Mo))))))
noncomputable def doCall (cf : Cfg) (rec : Rec) (M : Nat → Option AO) (f : FuncId) (xs : List AV) (n : Nat) : Rn (En × Nat) := match cf.kt f (AV.cvs (qOf M fun _ => true) xs) n with
  | some (res, Mo) => match callOK M [] (AV.cvs (qOf M fun _ => true) xs) res Mo with
    | true => match AV.ownss xs, res.noRows && plainLB Mo with
      | [], _ => .ok (⟨res, Mo.map (·.1) ++ AV.idls xs, Mo⟩, n + 1)
      | _ :: _, true => .ok (⟨res, Mo.map (·.1) ++ AV.idls xs, Mo⟩, n + 1)
      | l, false => .need l
    | false => .bad 71 f
  | none => match cf.pol f with
    | true => match reach M 1000 (AV.idls xs) [] with
      | Mi => match rec f Mi xs n with
        | .ok (res, Mo, n') => match callOK M Mi xs res Mo with
          | true => .ok (⟨res, Mo.map (·.1) ++ AV.idls xs, Mo⟩, n')
          | false => .bad 72 f
        | .need l => .need l
        | .bad a b => .bad a b
    | false => match AV.cvs (qOf M fun _ => true) xs with
      | ys => match reach M 1000 (AV.idls ys) [] with
        | Mi => match rec f Mi ys n with
          | .ok (res, Mo, n') => match callOK M Mi ys res Mo with
            | true => match AV.ownss xs, res.noRows && plainLB Mo && ((AV.ownss xs).all fun g => !keyIn Mi g) with
              | [], _ => .ok (⟨res, Mo.map (·.1) ++ AV.idls xs, Mo⟩, n')
              | _ :: _, true => .ok (⟨res, Mo.map (·.1) ++ AV.idls xs, Mo⟩, n')
              | l, false => .need l
            | false => .bad 73 f
          | .need _ => .bad 74 f
          | .bad a b => .bad a b
/-- One operation. -/
noncomputable def stepR (cf : Cfg) (rec : Rec) (T : Nat → Option AV) (M : Nat → Option AO) (o : Oper) (n : Nat) : Rn (En × Nat) := match o.op with
  | .call { callee := .value fo, args := args, argTypes := _ } => match evA T fo, evs T args.toList with
    | some (.clo f caps), some xs => match cf.fs f, caps with
      | some _, caps => doCall cf rec M f (xs ++ caps) n
      | none, [] => match valsOf T args.toList with
        | some vs => match pureRun cf.P (callFunc f vs.toArray) with
          | some (.value u) => .ok (⟨cvA u, [], []⟩, n)
          | _ => .bad 77 f
        | none => .bad 78 f
      | _, _ => .bad 76 f
    | _, _ => .bad 79 0
  | _ => match opE cf.P cf.tt.get n T M o with
    | .ok e => .ok (e, n + 1)
    | .need l => .need l
    | .bad a b => .bad a b
noncomputable def pushT (d : Option Tmp) (v : AV) (T : List (Nat × AV)) : List (Nat × AV) := match d with
  | some d => (d, v) :: T
  | none => T
abbrev RS := List (List Nat × List Nat) × List (Nat × AV) × List (Nat × AO) × Nat
noncomputable def runO (cf : Cfg) (rec : Rec) (ops : List Oper) (l : List Oper) : List (List Nat × List Nat) → List (Nat × AV) → List (Nat × AO) → Nat → Rn RS :=
  List.rec (motive := fun _ => List (List Nat × List Nat) → List (Nat × AV) → List (Nat × AO) → Nat → Rn RS) (fun acc T M n => .ok (acc, T, M, n))
    (fun o _ k acc T M n => match gdx ops T o with
      | some true => match stepR cf rec (lkQ T) (lkQ M) o n with
        | .ok (e, n') => match e.wr.all fun p => nOf e.tch p.1 with
          | true => k (foot e :: acc) (pushT o.dst e.val T) (e.wr ++ M) n'
          | false => .bad 81 0
        | .need l => .need l
        | .bad a b => .bad a b
      | some false => k (([], []) :: acc) (pushT o.dst (.d (.v undef)) T) M n
      | none => .bad 82 0) l
/-- Another view: some own slices become data; what nothing leads to is left out. -/
noncomputable def dd : List (Nat × AV) → List (Nat × AV) → List (Nat × AV)
  | [], acc => acc
  | p :: r, acc => match lk acc p.1 with
    | some _ => dd r acc
    | none => dd r (p :: acc)
noncomputable def cvT (q : Nat → Option (Nat × List (List D))) : List (Nat × AV) → List (Nat × AV)
  | [] => []
  | p :: r => (p.1, p.2.cv q) :: cvT q r
noncomputable def cvM (q : Nat → Option (Nat × List (List D))) : List (Nat × AO) → List (Nat × AO)
  | [] => []
  | (g, .box ty cs) :: r => (g, .box ty (AV.cvs q cs)) :: cvM q r
  | p :: r => p :: cvM q r
noncomputable def keysOf {α : Type} : List (Nat × α) → List Nat
  | [] => []
  | p :: r => p.1 :: keysOf r
noncomputable def idsT : List (Nat × AV) → List Nat
  | [] => []
  | p :: r => p.2.idl ++ idsT r
noncomputable def keepM (ks : List Nat) : List (Nat × AO) → List (Nat × AO)
  | [] => []
  | p :: r => match nOf ks p.1 with
    | true => keepM ks r
    | false => p :: keepM ks r
noncomputable def cleanT (ok : Nat → Bool) : List (Nat × AV) → List (Nat × AV)
  | [] => []
  | p :: r => match p.2.ok ok with
    | true => p :: cleanT ok r
    | false => cleanT ok r
noncomputable def view (Gs : List Nat) (Mi : List (Nat × AO)) (T0 : List (Nat × AV)) (M : List (Nat × AO)) : Option St :=
  match cvT (qOf (lk M) (nOf Gs)) T0 with
  | T1 => match cvM (qOf (lk M) (nOf Gs)) (keepM Gs (reach (lk M) 4000 (idsT T1 ++ (keysOf Mi)) [])) with
    | M1 => match cleanT (keyIn M1) T1 with
      | T2 => match (M1.all fun p => p.2.ok (keyIn M1)) && (Mi.all (fun p => keyIn M1 p.1) && (Gs.all (fun g => !keyIn M1 g) && injB [] M1)) with
        | true => some ⟨T2, M1⟩
        | false => none
end Go.Am
/- Nothing is claimed here: closed calls, reckoned: code and functions. -/
namespace Go.Am
set_option linter.unusedSimpArgs false
set_option linter.unusedVariables false
set_option linter.unnecessarySimpa false
set_option linter.unusedSectionVars false
set_option maxRecDepth 100000
open Go Go.RowKit Go.Proofs.Grow
noncomputable def codeB (N : Nat) : Code → Bool
  | .region _ ops _ => dstsB N ops.toList
  | .seq x y => codeB N x && codeB N y
  | .cond _ x y => codeB N x && codeB N y
  | .block _ c => codeB N c
  | .loop c => codeB N c
  | _ => true
noncomputable def runR1 (cf : Cfg) (rec : Rec) (ops : List Oper) (arr : Array Oper) (draw : Bool) (s : St) (n : Nat) : Rn (St × Nat) := match runO cf rec ops ops [] s.T s.M n with
  | .ok (acc, T, M, n') => match draw with
    | false => .ok (⟨T, M⟩, n')
    | true => match backB arr && indepB ops acc.reverse with
      | true => .ok (⟨T, M⟩, n')
      | false => .bad 83 0
  | .need l => .need l
  | .bad a b => .bad a b
noncomputable def arrs (M : Nat → Option AO) : List Nat → List Nat
  | [] => []
  | g :: r => match M g with
    | some (.arr _ _ _) => match nOf (arrs M r) g with
      | true => arrs M r
      | false => g :: arrs M r
    | _ => arrs M r
noncomputable def notIn (ks : List Nat) : List Nat → List Nat
  | [] => []
  | g :: r => match nOf ks g with
    | true => notIn ks r
    | false => g :: notIn ks r
noncomputable def runR (cf : Cfg) (rec : Rec) (Mi : List (Nat × AO)) (ops : List Oper) (arr : Array Oper) (draw : Bool) : Nat → St → Nat → Rn (St × Nat)
  | 0, _, _ => .bad 85 0
  | k + 1, s, n => match runR1 cf rec ops arr draw s n with
    | .ok x => .ok x
    | .bad a b => .bad a b
    | .need l => match arrs (lk s.M) l with
      | [] => .bad 84 0
      | Gs => match notIn (keysOf Mi) Gs with
        | [] => .need Gs
        | Hs => match view Hs Mi (dd s.T []) s.M with
          | some s1 => runR cf rec Mi ops arr draw k s1 n
          | none => .bad 86 0
noncomputable def longer {α : Type} : Nat → List α → Bool
  | 0, _ => true
  | _ + 1, [] => false
  | n + 1, _ :: r => longer n r
noncomputable def gcS (Mi : List (Nat × AO)) (s : St) : St := match longer 150 s.T || longer 60 s.M with
  | true => match view [] Mi (dd s.T []) s.M with
    | some s1 => s1
    | none => s
  | false => s
noncomputable def runC (cf : Cfg) (rec : Rec) (Mi : List (Nat × AO)) (k : Nat) : Code → St → Nat → Rn (Exit × St × Nat) :=
  Nat.rec (motive := fun _ => Code → St → Nat → Rn (Exit × St × Nat)) (fun _ _ _ => .bad 90 0) (fun _ go c s n => match c with
    | .skip => .ok (.normal, s, n)
    | .label _ => .ok (.normal, s, n)
    | .exit id => .ok (.exit id, s, n)
    | .ret => .ok (.ret, s, n)
    | .region _ ops draw => match runR cf rec Mi ops.toList ops draw 4 s n with
      | .ok (s', n') => .ok (.normal, s', n')
      | .need l => .need l
      | .bad a b => .bad a b
    | .seq x y => match go x s n with
      | .ok (.normal, s', n') => go y s' n'
      | r => r
    | .cond b x y => match evA (lkQ s.T) b with
      | some (.d (.v (.bool true))) => go x s n
      | some (.d (.v (.bool false))) => go y s n
      | _ => .bad 91 0
    | .block id x => match go x s n with
      | .ok (.exit id', s', n') => match Nat.beq id' id with
        | true => .ok (.normal, s', n')
        | false => .ok (.exit id', s', n')
      | r => r
    | .loop x => match go x s n with
      | .ok (.normal, s', n') => go (.loop x) (gcS Mi s') n'
      | r => r
    | _ => .bad 92 0) k
/-- A call, its results as data but for a slice that is the result. -/
noncomputable def nested : AV → List Nat
  | .own _ => []
  | x => x.owns
noncomputable def nestedT : AV → List Nat
  | .tup cs => cs.flatMap nested
  | x => nested x
noncomputable def resT : List ResultVar → List Nat
  | [] => []
  | .tmp t :: r => t :: resT r
  | .cell a _ :: r => a :: resT r
noncomputable def only (T : List (Nat × AV)) : List Nat → List (Nat × AV) → List (Nat × AV)
  | [], acc => acc
  | t :: r, acc => match lk acc t with
    | some _ => only T r acc
    | none => match lk T t with
      | some x => only T r ((t, x) :: acc)
      | none => only T r acc
/-- A result that is a part of an own slice becomes data. -/
noncomputable def cutT : List Nat → St → St
  | [], s => s
  | t :: r, s => match lk s.T t with
    | some (.sl g sz lo n _) => match lk s.M g with
      | some (.arr _ sz' rs) => match Nat.beq sz sz' && Nat.ble (lo + n) rs.length with
        | true => cutT r ⟨(t, .d (.rows sz ((rs.drop lo).take n))) :: s.T, (g, .dead) :: s.M⟩
        | false => cutT r s
      | _ => cutT r s
    | _ => cutT r s
noncomputable def finish1 (cf : Cfg) (Mi : List (Nat × AO)) (fn : Func) (s : St) : Option (AV × List (Nat × AO)) := match resAllF cf.tt.get (lk s.T) (lk s.M) fn.results.toList with
  | some ys => match view (notIn (keysOf Mi) (arrs (lk s.M) (nestedT (tupOf ys)))) Mi (only s.T (resT fn.results.toList) []) s.M with
    | some s1 => match resAllF cf.tt.get (lk s1.T) (lk s1.M) fn.results.toList with
      | some ys1 => match reach (lk s1.M) 4000 (keysOf Mi ++ AV.idl (tupOf ys1)) [] with
        | Mo => match keysIn Mi Mo && (AV.ok (keyIn Mo) (tupOf ys1) && (Mo.all fun p => p.2.ok (keyIn Mo))) with
          | true => some (tupOf ys1, Mo)
          | false => none
      | none => none
    | none => none
  | none => none
noncomputable def finish (cf : Cfg) (Mi : List (Nat × AO)) (fn : Func) (s : St) : Option (AV × List (Nat × AO)) := finish1 cf Mi fn (cutT (resT fn.results.toList) s)
noncomputable def runF (cf : Cfg) (k : Nat) : Rec :=
  Nat.rec (motive := fun _ => Rec) (fun f _ _ _ => .bad 60 f) (fun _ go f Mi ys n => match cf.fs f with
    | some fn => match fn.body with
      | some c => match Nat.ble ys.length fn.ntmps with
        | true => match runC cf go Mi 100000 c ⟨argT 0 ys, Mi⟩ n with
          | .ok (.normal, s, n') => match finish cf Mi fn s with
            | some (res, Mo) => .ok (res, Mo, n')
            | none => .bad 93 f
          | .ok (.ret, s, n') => match finish cf Mi fn s with
            | some (res, Mo) => .ok (res, Mo, n')
            | none => .bad 94 f
          | .ok _ => .bad 95 f
          | .need l => .need l
          | .bad a b => .bad a (b * 1000 + f)
        | false => .bad 97 f
      | none => .bad 98 f
    | none => .bad 99 f) k
end Go.Am
/- Nothing is claimed here: the reckoning of closed calls is right: views, calls, regions. -/
namespace Go.Am
set_option linter.unusedSimpArgs false
set_option linter.unusedVariables false
set_option linter.unnecessarySimpa false
set_option linter.unusedSectionVars false
set_option maxRecDepth 100000
open Go Go.RowKit Go.Proofs.Grow
theorem rn_nil (g : Nat) : rn [] g = g := rfl
mutual
theorem ren_nil : ∀ x : AV, x.ren [] = x
  | .d _ | .rp _ | .ptr _ _ | .elt _ _ _ _ | .own _ | .sl _ _ _ _ _ => by simp [AV.ren, rn_nil]
  | .agg cs | .tup cs | .clo _ cs => by simp only [AV.ren, rens_nil cs]
theorem rens_nil : ∀ cs : List AV, AV.rens [] cs = cs
  | [] => by simp [AV.rens]
  | c :: r => by simp only [AV.rens, ren_nil c, rens_nil r]
end
theorem nOf_mem : ∀ {l : List Nat} {g : Nat}, nOf l g = true → g ∈ l
  | a :: r, g, h => by
    unfold nOf at h; split at h
    · rename_i hb; rw [Nat.eq_of_beq_eq_true hb]; exact List.mem_cons_self
    · exact List.mem_cons_of_mem _ (nOf_mem h)
mutual
theorem Cv_own {M : Nat → Option AO} {q : Nat → Option (Nat × List (List D))} : ∀ x : AV, (∀ g p, g ∈ x.owns → q g = some p → ∃ ty, M g = some (.arr ty p.1 p.2)) → Cv M x (x.cv q)
  | .own g, hq => by
    unfold AV.cv; split
    · rename_i p hp; obtain ⟨ty, h⟩ := hq g p (by simp [AV.owns]) hp; exact .own h
    · exact .refl _
  | .agg cs, hq => by
    unfold AV.cv
    have := Cvs_own cs (fun g p hg => hq g p (by simpa [AV.owns] using hg))
    exact .agg this.1 this.2
  | .d _, _ | .ptr _ _, _ | .elt _ _ _ _, _ | .rp _, _ | .sl _ _ _ _ _, _ | .tup _, _ | .clo _ _, _ => by unfold AV.cv; exact .refl _
theorem Cvs_own {M : Nat → Option AO} {q : Nat → Option (Nat × List (List D))} : ∀ cs : List AV, (∀ g p, g ∈ AV.ownss cs → q g = some p → ∃ ty, M g = some (.arr ty p.1 p.2)) → Cvs M cs (AV.cvs q cs)
  | [], _ => by unfold AV.cvs; exact Cvs.nil
  | c :: r, hq => by
    unfold AV.cvs
    exact Cvs.cons (Cv_own c fun g p hg => hq g p (by simp [AV.ownss, hg])) (Cvs_own r fun g p hg => hq g p (by simp [AV.ownss, hg]))
end
mutual
theorem cv_id {q : Nat → Option (Nat × List (List D))} : ∀ x : AV, x.owns = [] → x.cv q = x
  | .own g, h => by simp [AV.owns] at h
  | .agg cs, h => by unfold AV.cv; rw [cvs_id cs (by simpa [AV.owns] using h)]
  | .d _, _ | .ptr _ _, _ | .elt _ _ _ _, _ | .rp _, _ | .sl _ _ _ _ _, _ | .tup _, _ | .clo _ _, _ => by unfold AV.cv; rfl
theorem cvs_id {q : Nat → Option (Nat × List (List D))} : ∀ cs : List AV, AV.ownss cs = [] → AV.cvs q cs = cs
  | [], _ => by unfold AV.cvs; rfl
  | c :: r, h => by
    simp only [AV.ownss, List.append_eq_nil_iff] at h
    unfold AV.cvs; rw [cv_id c h.1, cvs_id r h.2]
end
theorem Cvs_refl (M : Nat → Option AO) (cs : List AV) : Cvs M cs cs := ⟨rfl, fun i c d hc hd => by rw [hc] at hd; cases hd; exact .refl _⟩
theorem qOf_spec {M : Nat → Option AO} {ok : Nat → Bool} {g : Nat} {p : Nat × List (List D)} (h : qOf M ok g = some p) : ok g = true ∧ ∃ ty, M g = some (.arr ty p.1 p.2) := by
  unfold qOf at h
  split at h
  · rename_i ho
    split at h
    · rename_i ty sz rs hm; obtain rfl := Option.some.inj h; exact ⟨ho, ty, hm⟩
    · cases h
  · cases h
theorem dd_spec {T : List (Nat × AV)} : ∀ {l acc : List (Nat × AV)}, (∀ t x, lk T t = some x → lk acc t = none → lk l t = some x) → (∀ t x, lk acc t = some x → lk T t = some x) → (∀ t x, lk l t = some x → lk acc t = none → lk T t = some x) → (∀ p ∈ acc, lk T p.1 = some p.2) → ∀ p ∈ dd l acc, lk T p.1 = some p.2
  | [], acc, _, _, _, h => h
  | q :: r, acc, h1, h2, h3, h => by
    unfold dd
    split
    · rename_i y hy
      refine dd_spec (fun t x hx ha => ?_) h2 (fun t x hx ha => ?_) h
      · have := h1 t x hx ha
        simp only [lk] at this
        split at this
        · rename_i hb; rw [Nat.eq_of_beq_eq_true hb] at hy; rw [hy] at ha; cases ha
        · exact this
      · refine h3 t x ?_ ha
        simp only [lk]
        split
        · rename_i hb; rw [Nat.eq_of_beq_eq_true hb] at hy; rw [hy] at ha; cases ha
        · exact hx
    · rename_i hn
      have hq : lk T q.1 = some q.2 := h3 q.1 q.2 (by simp [lk]) hn
      refine dd_spec (fun t x hx ha => ?_) (fun t x hx => ?_) (fun t x hx ha => ?_) (fun p hp => ?_)
      · simp only [lk] at ha
        split at ha
        · cases ha
        · rename_i hb
          have := h1 t x hx ha
          simp only [lk, hb] at this
          exact this
      · simp only [lk] at hx
        split at hx
        · rename_i hb; rw [← Nat.eq_of_beq_eq_true hb, ← Option.some.inj hx]; exact hq
        · exact h2 t x hx
      · simp only [lk] at ha
        split at ha
        · cases ha
        · rename_i hb
          exact h3 t x (by simp only [lk, hb]; exact hx) ha
      · rcases List.mem_cons.1 hp with rfl | hp
        · exact hq
        · exact h p hp
theorem dd_ok (T : List (Nat × AV)) : ∀ p ∈ dd T [], lk T p.1 = some p.2 :=
  dd_spec (fun t x h _ => h) (fun t x h => by simp [lk] at h) (fun t x h _ => h) (fun p hp => by cases hp)
theorem only_ok {T : List (Nat × AV)} : ∀ {l : List Nat} {acc : List (Nat × AV)}, (∀ p ∈ acc, lk T p.1 = some p.2) → ∀ p ∈ only T l acc, lk T p.1 = some p.2
  | [], _, h => h
  | t :: r, acc, h => by
    unfold only
    split
    · exact only_ok h
    · split
      · rename_i x hx
        refine only_ok fun p hp => ?_
        rcases List.mem_cons.1 hp with rfl | hp
        · exact hx
        · exact h p hp
      · exact only_ok h
theorem VT_clean {T : Nat → Option AV} {Mx : Nat → Option AO} {q : Nat → Option (Nat × List (List D))} {ok : Nat → Bool} (hq : ∀ g p, q g = some p → ∃ ty, Mx g = some (.arr ty p.1 p.2)) : ∀ {l : List (Nat × AV)}, (∀ p ∈ l, T p.1 = some p.2) → VT T Mx [] ok (cleanT ok (cvT q l))
  | [], _ => trivial
  | p :: r, h => by
    have ih := VT_clean (ok := ok) hq (l := r) (fun p hp => h p (List.mem_cons_of_mem _ hp))
    unfold cvT cleanT
    split
    · rename_i hk
      exact ⟨⟨p.2, h p List.mem_cons_self, by rw [ren_nil]; exact Cv_own p.2 fun g x _ => hq g x⟩, hk, ih⟩
    · exact ih
theorem VM_cv {M Mx : Nat → Option AO} {q : Nat → Option (Nat × List (List D))} {ok : Nat → Bool} (hq : ∀ g p, q g = some p → ∃ ty, Mx g = some (.arr ty p.1 p.2)) : ∀ {L : List (Nat × AO)}, SubM M L → (cvM q L).all (fun p => p.2.ok ok) = true → VM M Mx [] ok (cvM q L)
  | [], _, _ => trivial
  | (g, .box ty cs) :: r, h, hk => by
    unfold cvM at hk ⊢
    simp only [List.all_cons, Bool.and_eq_true] at hk
    exact ⟨⟨_, h.1, rfl, by rw [rens_nil]; exact Cvs_own cs fun g x _ => hq g x, hk.1⟩, VM_cv hq h.2 hk.2⟩
  | (g, .arr ty sz rs) :: r, h, hk => by
    simp only [cvM, List.all_cons, Bool.and_eq_true] at hk ⊢
    exact ⟨⟨_, h.1, rfl, rfl, rfl⟩, VM_cv hq h.2 hk.2⟩
  | (g, .buf ty sz cap rs) :: r, h, hk => by
    simp only [cvM, List.all_cons, Bool.and_eq_true] at hk ⊢
    exact ⟨⟨_, h.1, rfl, rfl, rfl, rfl⟩, VM_cv hq h.2 hk.2⟩
  | (g, .dead) :: r, h, hk => by
    simp only [cvM, List.all_cons, Bool.and_eq_true] at hk ⊢
    exact ⟨⟨_, h.1, trivial⟩, VM_cv hq h.2 hk.2⟩
theorem SubM_keep {M : Nat → Option AO} {ks : List Nat} : ∀ {L : List (Nat × AO)}, SubM M L → SubM M (keepM ks L)
  | [], _ => trivial
  | p :: r, h => by
    unfold keepM; split
    · exact SubM_keep h.2
    · exact ⟨h.1, SubM_keep h.2⟩
theorem view_ok {cx : Cx} {Gs : List Nat} {Mi : List (Nat × AO)} {T0 T : List (Nat × AV)} {M : List (Nat × AO)} {s1 : St} (h0 : ∀ g u, cx.μ0 g = some u → keyIn Mi g = true) (hT : ∀ p ∈ T0, lk T p.1 = some p.2) (h : view Gs Mi T0 M = some s1) : Le cx ⟨T, M⟩ s1 := by
  unfold view at h
  simp only at h
  generalize hM1 : cvM (qOf (lk M) (nOf Gs)) (keepM Gs (reach (lk M) 4000 (idsT (cvT (qOf (lk M) (nOf Gs)) T0) ++ keysOf Mi) [])) = M1 at h
  split at h
  · rename_i hc
    obtain rfl := Option.some.inj h
    simp only [Bool.and_eq_true] at hc
    obtain ⟨c1, c2, c3, c4⟩ := hc
    have hq : ∀ g p, qOf (lk M) (nOf Gs) g = some p → ∃ ty, gone M [] M1 g = some (.arr ty p.1 p.2) := by
      intro g p hp
      obtain ⟨hg, ty, hm⟩ := qOf_spec hp
      have hk : keyIn M1 g = false := by simpa using List.all_eq_true.1 c3 g (nOf_mem hg)
      refine ⟨ty, ?_⟩
      unfold gone
      have : (M1.any fun p => Nat.beq (rn [] p.1) g) = false := by
        cases hb : (M1.any fun p => Nat.beq (rn [] p.1) g)
        · rfl
        · obtain ⟨p, hp, hb⟩ := List.any_eq_true.1 hb
          have e : p.1 = g := Nat.eq_of_beq_eq_true hb
          have hn := keyIn_none.1 hk
          have : ∀ {L : List (Nat × AO)}, p ∈ L → lk L g ≠ none := by
            intro L hL
            induction L with
            | nil => cases hL
            | cons a r ih =>
              simp only [lk]
              split
              · simp
              · rcases List.mem_cons.1 hL with rfl | hL
                · rename_i hb2; rw [e] at hb2; simp at hb2
                · exact ih hL
          exact absurd hn (this hp)
      rw [this]; exact hm
    refine Le_view Mi h0 [] (VT_clean hq hT) ?_ c4 ?_
    · rw [← hM1] at c1 ⊢
      exact VM_cv (by rw [hM1]; exact hq) (SubM_keep (reach_sub trivial)) c1
    · refine List.all_eq_true.2 fun p hp => ?_
      have := List.all_eq_true.1 c2 p hp
      simp only [this, rn_nil, Bool.true_and]
      simp
  · cases h
theorem gcS_ok {cx : Cx} {Mi : List (Nat × AO)} {s : St} (h0 : ∀ g u, cx.μ0 g = some u → keyIn Mi g = true) : Le cx s (gcS Mi s) := by
  unfold gcS
  split
  · split
    · rename_i s1 h; exact view_ok (T := s.T) (M := s.M) h0 (dd_ok s.T) h
    · exact Le.refl
  · exact Le.refl
end Go.Am
/- Nothing is claimed here: the reckoning of closed calls is right: operations, code, functions. -/
namespace Go.Am
set_option linter.unusedSimpArgs false
set_option linter.unusedVariables false
set_option linter.unnecessarySimpa false
set_option linter.unusedSectionVars false
set_option maxRecDepth 100000
open Go Go.RowKit Go.Proofs.Grow
theorem Le_cut {cx : Cx} {T : List (Nat × AV)} {M : List (Nat × AO)} (t : Nat) {g ty sz lo n : Nat} {c : Option Nat} {rs : List (List D)} (ht : lk T t = some (.sl g sz lo n c)) (hg : lk M g = some (.arr ty sz rs)) (hn : lo + n ≤ rs.length) :
    Le cx ⟨T, M⟩ ⟨(t, .d (.rows sz ((rs.drop lo).take n))) :: T, (g, .dead) :: M⟩ := by
  rintro a w ⟨μ, h⟩
  have hg2 : lk M g = some (mkO ty sz none rs) := hg
  obtain ⟨ad, m, cap, xs, q1, q2, q3, q4, q5, q6, q7, q8, q9, q10, q11⟩ := h.cells hg2
  have hv := h.tm t _ ht
  have hkill := h.kill g (by rw [hg]; simp)
  rw [show upM (lk M) [(g, AO.dead)] = lk ((g, .dead) :: M) from upM_cons] at hkill
  refine ⟨μ, hkill.slot ?_⟩
  generalize hvv : a.tmps.getD t undef = v at hv
  cases hv with
  | @sl _ _ _ _ _ ad2 p m2 cap2 k2 hb hk hnk hc ha =>
    rw [q1] at hb
    obtain ⟨rfl, rfl, rfl⟩ : ad = ad2 ∧ m = m2 ∧ cap = cap2 := by simpa using hb
    refine .d ?_
    have hl : ((rs.drop lo).take n).length = n := by simp; omega
    by_cases h0 : n = 0
    · subst h0
      rw [List.take_zero]
      refine .nil sz _ _ fun e => ?_
      rcases ha with rfl | ⟨e1, _⟩
      · cases ad with
        | none => have := q5 rfl; omega
        | some z => cases e
      · exact e1
    · cases ad with
      | none => have := q5 rfl; omega
      | some z =>
        obtain ⟨b, cur, rfl, c1, c2, c3⟩ := q6 z rfl
        have hp : p = some ⟨b, lo * sz, none⟩ := by
          rcases ha with rfl | ⟨e, _⟩
          · simp only [Option.map_some, Addr.add]
            split
            · rename_i e0; rw [e0]
            · simp
          · omega
        subst hp
        have hhot : Hot μ (lk M) b := ⟨g, _, _, hg, rfl, q1, rfl⟩
        have hlt := (h.lo b hhot).1
        have hnb : ¬ Ht cx μ (lk ((g, .dead) :: M)) b := by
          rintro (k | ⟨g', o', v', k1, k2, k3, k4⟩)
          · exact h.hot_h0 hhot k
          · rw [lk_cons] at k1
            simp only at k1
            split at k1
            · cases k1; cases k2
            · rename_i hne
              exact hne (h.inj g g' _ _ _ _ b hg rfl k1 k2 q1 k3 rfl k4)
        have hkeep : Keeps (Ht cx μ (lk M)) (Ht cx μ (lk ((g, .dead) :: M))) w w := by
          intro b' hb' hh
          refine ⟨fun k => hh ?_, hb', rfl⟩
          rcases k with k | ⟨g', o', v', k1, k2, k3, k4⟩
          · exact .inl k
          · rw [lk_cons] at k1
            simp only at k1
            split at k1
            · cases k1; cases k2
            · exact .inr ⟨g', o', v', k1, k2, k3, k4⟩
        have hsub : ∀ (i : Nat) (r : List D), ((rs.drop lo).take n)[i]? = some r → rs[lo + i]? = some r := by
          intro i r hr
          rw [List.getElem?_take] at hr
          split at hr
          · rwa [List.getElem?_drop] at hr
          · cases hr
        have key : ∀ (i : Nat) (r : List D) (j : Nat) (d : D), ((rs.drop lo).take n)[i]? = some r → r[j]? = some d → ∃ v, xs[(lo + i) * sz + j]? = some v ∧ w.cell? ⟨b, lo * sz + i * sz + j, none⟩ = some v ∧ VD (Ht cx μ (lk M)) w d v := by
          intro i r j d hi hj
          have hi := hsub i r hi
          have hf := flat_get q7 hi hj
          have hl : (lo + i) * sz + j < xs.length := by rw [← q8.1]; exact (List.getElem?_eq_some_iff.1 hf).1
          obtain ⟨v, hv⟩ : ∃ v, xs[(lo + i) * sz + j]? = some v := ⟨xs[(lo + i) * sz + j], by simp [hl]⟩
          refine ⟨v, hv, ?_, q8.2 _ _ _ hf hv⟩
          rw [← c3, List.getElem?_take] at hv
          split at hv
          · rw [show lo * sz + i * sz + j = (lo + i) * sz + j by rw [Nat.add_mul]]
            simp only [World.cell?, c1]; simpa using hv
          · cases hv
        have := VD.rows (H := Ht cx μ (lk ((g, .dead) :: M))) (w := w) sz ((rs.drop lo).take n) b (lo * sz) k2 (fun i j => (xs[(lo + i) * sz + j]?).getD undef) (fun e => by rw [e] at hl; simp at hl; omega) (by rw [hl]; exact hnk) (by rw [hl]; omega) hnb hlt
          (fun i r hr => q7 r (List.mem_of_getElem? (hsub i r hr))) (fun i r j d hi hj => by obtain ⟨v, k1, k3, k4⟩ := key i r j d hi hj; rw [k1]; exact k3) (fun i r j d hi hj => by obtain ⟨v, k1, k3, k4⟩ := key i r j d hi hj; rw [k1]; exact q9 v (List.mem_of_getElem? k1))
          (fun i r j d hi hj => by obtain ⟨v, k1, k3, k4⟩ := key i r j d hi hj; rw [k1]; exact k4.mono hkeep)
        rw [hl] at this
        exact this
theorem cutT_ok {cx : Cx} : ∀ (l : List Nat) (s : St), Le cx s (cutT l s)
  | [], s => Le.refl
  | t :: r, s => by
    unfold cutT
    split
    · rename_i g sz lo n c ht
      split
      · rename_i ty sz' rs hg
        split
        · rename_i hc
          simp only [Bool.and_eq_true] at hc
          have := Nat.eq_of_beq_eq_true hc.1; subst this
          exact Le.trans (Le_cut t ht hg (Nat.le_of_ble_eq_true hc.2)) (cutT_ok r _)
        · exact cutT_ok r s
      · exact cutT_ok r s
    · exact cutT_ok r s
structure CfgOK (cf : Cfg) : Prop where
  hm : cf.P.follows .mixedOrders = true
  ht : TOK cf.P cf.tt.toL
  ho : cf.tt.ord 0 100000 = true
  hf : ∀ f fn, cf.fs f = some fn → cf.P.funcs[f]? = some fn ∧ callB cf.P f = some (false, false) ∧ ∀ c, fn.body = some c → codeB fn.ntmps c = true
  hk : ∀ f ys n res Mo, cf.kt f ys n = some (res, Mo) → FnM cf.P f [] ys res Mo
def RecOK (cf : Cfg) (rec : Rec) : Prop := ∀ f Mi ys n res Mo n', rec f Mi ys n = .ok (res, Mo, n') → FnM cf.P f Mi ys res Mo
theorem CfgOK.get {cf : Cfg} (h : CfgOK cf) : cf.tt.get = lk cf.tt.toL := funext fun t => BT.get_lk h.ho t
section
variable {cf : Cfg} {rec : Rec} {T : Nat → Option AV} {M : Nat → Option AO} {o : Oper} {e : En} {n n' : Nat}
theorem callOK_spec {Mi : List (Nat × AO)} {ys : List AV} {res : AV} {Mo : List (Nat × AO)} (h : callOK M Mi ys res Mo = true) : keysIn Mi Mo = true ∧ freshIn M Mi Mo = true ∧ AV.oks (keyIn Mi) ys = true ∧ (Mi.all fun p => p.2.ok (keyIn Mi)) = true ∧ AV.ok (keyIn Mo) res = true ∧ (Mo.all fun p => p.2.ok (keyIn Mo)) = true := by
  simpa only [callOK, Bool.and_eq_true] using h
theorem own_left {xs : List AV} {q : Nat → Option (Nat × List (List D))} (h : AV.ownss xs = []) : Cvs (fun _ => none) xs (AV.cvs q xs) := by
  rw [cvs_id xs h]; exact Cvs_refl _ _
theorem doCall_ok (hc : CfgOK cf) (hr : RecOK cf rec) {fo : Operand} {args : Array Operand} {tys : Array TypeId} {f : FuncId} {fn : Func} {caps xs : List AV} (hf : cf.fs f = some fn)
    (ho : o.op = .call { callee := .value fo, args := args, argTypes := tys }) (hfo : evA T fo = some (.clo f caps)) (hxs : evs T args.toList = some xs) (h : doCall cf rec M f (xs ++ caps) n = .ok (e, n')) : StepOK cf.P o T M e := by
  have hcb := (hc.hf f fn hf).2.1
  unfold doCall at h
  split at h
  · rename_i res Mo hkt
    have hfn := hc.hk _ _ _ _ _ hkt
    split at h
    · rename_i hok
      obtain ⟨k1, k2, k3, k4, k5, k6⟩ := callOK_spec hok
      split at h
      · rename_i _ h0
        cases h
        exact step_call_core ho hfo hxs hfn hcb trivial k1 k2 k3 k4 k5 k6 (.inl (own_left h0))
      · rename_i hp
        cases h
        simp only [Bool.and_eq_true] at hp
        refine step_call_core ho hfo hxs hfn hcb trivial k1 k2 k3 k4 k5 k6 (.inr ⟨Cvs_own _ fun g p _ hq => ?_, hp.1, plainLB_spec hp.2⟩)
        exact (qOf_spec hq).2
      · cases h
    · cases h
  · split at h
    · simp only at h
      split at h
      · rename_i res Mo m hrec
        have hfn := hr _ _ _ _ _ _ _ hrec
        split at h
        · rename_i hok
          obtain ⟨k1, k2, k3, k4, k5, k6⟩ := callOK_spec hok
          cases h
          exact step_call_core ho hfo hxs hfn hcb (reach_sub trivial) k1 k2 k3 k4 k5 k6 (.inl (Cvs_refl _ _))
        · cases h
      · cases h
      · cases h
    · simp only at h
      split at h
      · rename_i res Mo m hrec
        have hfn := hr _ _ _ _ _ _ _ hrec
        split at h
        · rename_i hok
          obtain ⟨k1, k2, k3, k4, k5, k6⟩ := callOK_spec hok
          split at h
          · rename_i _ h0
            cases h
            exact step_call_core ho hfo hxs hfn hcb (reach_sub trivial) k1 k2 k3 k4 k5 k6 (.inl (own_left h0))
          · rename_i hp
            cases h
            simp only [Bool.and_eq_true] at hp
            refine step_call_core ho hfo hxs hfn hcb (reach_sub trivial) k1 k2 k3 k4 k5 k6 (.inr ⟨Cvs_own _ fun g p hg hq => ?_, hp.1.1, plainLB_spec hp.1.2⟩)
            obtain ⟨_, ty, hm⟩ := qOf_spec hq
            have hk := List.all_eq_true.1 hp.2 g hg
            simp only [Bool.not_eq_true'] at hk
            refine ⟨ty, ?_⟩
            unfold mx
            rw [keyIn_none.1 hk]; exact hm
          · cases h
        · cases h
      · cases h
      · cases h
theorem stepR_ok (hc : CfgOK cf) (hr : RecOK cf rec) (h : stepR cf rec T M o n = .ok (e, n')) : StepOK cf.P o T M e := by
  unfold stepR at h
  split at h
  · rename_i fo args tys ho
    split at h
    · rename_i f caps xs hfo hxs
      split at h
      · rename_i fn caps' hf
        exact doCall_ok hc hr hf ho hfo hxs h
      · split at h
        · rename_i vs hvs
          split at h
          · rename_i u hu
            cases h
            exact ext_run ho hfo hvs hu
          · cases h
        · cases h
      · cases h
    · cases h
  · split at h
    · rename_i e' he
      cases h
      rw [hc.get] at he
      exact opE_sound hc.ht he
    · cases h
    · cases h
theorem gdx_step {ops : List Oper} {T : List (Nat × AV)} {M : List (Nat × AO)} (hg : gdx ops T o = some true) (h : StepOK cf.P o (lk T) (lk M) e) : StepG cf.P ops o (lk T) (lk M) e := by
  unfold gdx at hg
  split at hg
  · rename_i h0; exact .inl ⟨h0, h⟩
  · rename_i j want h0
    split at hg
    · rename_i q hq
      split at hg
      · rename_i tj ht
        rw [lkQ_eq] at hg
        split at hg
        · rename_i hb; obtain rfl := Option.some.inj hg; exact .inr (.inl ⟨j, true, q, tj, true, h0, hq, ht, hb, .inl ⟨rfl, h⟩⟩)
        · rename_i hb
          have : want = false := by simpa using hg
          subst this
          exact .inr (.inl ⟨j, false, q, tj, false, h0, hq, ht, hb, .inl ⟨rfl, h⟩⟩)
        · cases hg
        · cases hg
      · cases hg
    · cases hg
theorem gdx_off {ops : List Oper} {T : List (Nat × AV)} {M : List (Nat × AO)} (hg : gdx ops T o = some false) : StepG cf.P ops o (lk T) (lk M) ⟨.d (.v undef), [], []⟩ := by
  unfold gdx at hg
  split at hg
  · cases hg
  · rename_i j want h0
    split at hg
    · rename_i q hq
      split at hg
      · rename_i tj ht
        rw [lkQ_eq] at hg
        split at hg
        · rename_i hb
          have : want = false := by simpa using hg
          subst this
          exact .inr (.inl ⟨j, false, q, tj, true, h0, hq, ht, hb, .inr ⟨by simp, rfl⟩⟩)
        · rename_i hb
          have : want = true := by simpa using hg
          subst this
          exact .inr (.inl ⟨j, true, q, tj, false, h0, hq, ht, hb, .inr ⟨by simp, rfl⟩⟩)
        · rename_i vs hb; exact .inr (.inr ⟨j, want, q, tj, vs, h0, hq, ht, hb, rfl⟩)
        · cases hg
      · cases hg
    · cases hg
end
theorem runO_cons (cf : Cfg) (rec : Rec) (ops : List Oper) (o : Oper) (r : List Oper) (acc : List (List Nat × List Nat)) (T : List (Nat × AV)) (M : List (Nat × AO)) (n : Nat) : runO cf rec ops (o :: r) acc T M n = (match gdx ops T o with
      | some true => match stepR cf rec (lkQ T) (lkQ M) o n with
        | .ok (e, n') => match e.wr.all fun p => nOf e.tch p.1 with
          | true => runO cf rec ops r (foot e :: acc) (pushT o.dst e.val T) (e.wr ++ M) n'
          | false => .bad 81 0
        | .need l => .need l
        | .bad a b => .bad a b
      | some false => runO cf rec ops r (([], []) :: acc) (pushT o.dst (.d (.v undef)) T) M n
      | none => .bad 82 0) := rfl
theorem runO_ok {cf : Cfg} {rec : Rec} (hc : CfgOK cf) (hr : RecOK cf rec) {ops : List Oper} {fin : List (List Nat × List Nat) → List (Nat × AV) → List (Nat × AO) → Prop} {acc' : List (List Nat × List Nat)} {T' : List (Nat × AV)} {M' : List (Nat × AO)} {n' : Nat} : ∀ (l : List Oper) (acc : List (List Nat × List Nat)) (T : List (Nat × AV)) (M : List (Nat × AO)) (n : Nat),
    runO cf rec ops l acc T M n = .ok (acc', T', M', n') → fin acc'.reverse T' M' → WD cf.P ops fin l acc T M
  | [], acc, T, M, n, h, hfin => by
    have h : Rn.ok (acc, T, M, n) = .ok (acc', T', M', n') := h
    cases h; exact hfin
  | o :: r, acc, T, M, n, h, hfin => by
    rw [runO_cons] at h
    split at h
    · rename_i hg
      split at h
      · rename_i e m hst
        split at h
        · rename_i hw
          rw [lkQ_eq, lkQ_eq] at hst
          exact ⟨e, ⟨gdx_step hg (stepR_ok hc hr hst), fun p hp => nOf_mem (List.all_eq_true.1 hw p hp)⟩, runO_ok hc hr r _ _ _ _ h hfin⟩
        · cases h
      · cases h
      · cases h
    · rename_i hg
      exact ⟨⟨.d (.v undef), [], []⟩, ⟨gdx_off hg, fun p hp => by cases hp⟩, runO_ok hc hr r _ _ _ _ h hfin⟩
    · cases h
section
variable {cf : Cfg} {rec : Rec} {cx : Cx} {Q : Exit → St → Prop}
theorem runR1_ok (hc : CfgOK cf) (hr : RecOK cf rec) {id : Nat} {arr : Array Oper} {draw : Bool} {s s' : St} {n n' : Nat} (hN : dstsB cx.N arr.toList = true) (h : runR1 cf rec arr.toList arr draw s n = .ok (s', n')) (hQ : Q .normal s') : WA cf.P cx (.region id arr draw) Q s := by
  unfold runR1 at h
  split at h
  · rename_i acc T M m hrun
    have harr : (Code.region id arr draw) = .region id arr.toList.toArray draw := by rw [Array.toArray_toList]
    rw [harr]
    refine WA_region hc.hm rfl hN (runO_ok hc hr _ _ _ _ _ hrun ?_)
    split at h
    · cases h; exact ⟨fun e => (by cases e), hQ⟩
    · split at h
      · rename_i hb; cases h
        refine ⟨fun _ => ?_, hQ⟩
        rw [Array.toArray_toList]; exact hb
      · cases h
  · cases h
  · cases h
theorem runR_ok (hc : CfgOK cf) (hr : RecOK cf rec) {Mi : List (Nat × AO)} (h0 : ∀ g u, cx.μ0 g = some u → keyIn Mi g = true) {id : Nat} {arr : Array Oper} {draw : Bool} {s' : St} {n' : Nat} (hN : dstsB cx.N arr.toList = true) (hQ : Q .normal s') :
    ∀ {k : Nat} {s : St} {n : Nat}, runR cf rec Mi arr.toList arr draw k s n = .ok (s', n') → WA cf.P cx (.region id arr draw) Q s
  | 0, s, n, h => by cases h
  | k + 1, s, n, h => by
    unfold runR at h
    split at h
    · rename_i x hx; cases h; exact runR1_ok hc hr hN hx hQ
    · cases h
    · split at h
      · cases h
      · split at h
        · cases h
        · split at h
          · rename_i s1 hv
            exact WA_le (view_ok (T := s.T) (M := s.M) h0 (dd_ok s.T) hv) (runR_ok hc hr h0 hN hQ h)
          · cases h
end
end Go.Am
/- Nothing is claimed here: the reckoning of closed calls is right: a call that is reckoned has the contract that was reckoned. -/
namespace Go.Am
set_option linter.unusedSimpArgs false
set_option linter.unusedVariables false
set_option linter.unnecessarySimpa false
set_option linter.unusedSectionVars false
set_option maxRecDepth 100000
open Go Go.RowKit Go.Proofs.Grow
theorem runC_succ (cf : Cfg) (rec : Rec) (Mi : List (Nat × AO)) (k : Nat) (c : Code) (s : St) (n : Nat) : runC cf rec Mi (k + 1) c s n = (match c with
    | .skip => .ok (.normal, s, n)
    | .label _ => .ok (.normal, s, n)
    | .exit id => .ok (.exit id, s, n)
    | .ret => .ok (.ret, s, n)
    | .region _ ops draw => match runR cf rec Mi ops.toList ops draw 4 s n with
      | .ok (s', n') => .ok (.normal, s', n')
      | .need l => .need l
      | .bad a b => .bad a b
    | .seq x y => match runC cf rec Mi k x s n with
      | .ok (.normal, s', n') => runC cf rec Mi k y s' n'
      | r => r
    | .cond b x y => match evA (lkQ s.T) b with
      | some (.d (.v (.bool true))) => runC cf rec Mi k x s n
      | some (.d (.v (.bool false))) => runC cf rec Mi k y s n
      | _ => .bad 91 0
    | .block id x => match runC cf rec Mi k x s n with
      | .ok (.exit id', s', n') => match Nat.beq id' id with
        | true => .ok (.normal, s', n')
        | false => .ok (.exit id', s', n')
      | r => r
    | .loop x => match runC cf rec Mi k x s n with
      | .ok (.normal, s', n') => runC cf rec Mi k (.loop x) (gcS Mi s') n'
      | r => r
    | _ => .bad 92 0) := rfl
section
variable {cf : Cfg} {rec : Rec} {cx : Cx}
theorem runC_ok (hc : CfgOK cf) (hr : RecOK cf rec) {Mi : List (Nat × AO)} (h0 : ∀ g u, cx.μ0 g = some u → keyIn Mi g = true) : ∀ (k : Nat) (c : Code) (s : St) (n : Nat) (e : Exit) (s' : St) (n' : Nat) (Q : Exit → St → Prop), codeB cx.N c = true → runC cf rec Mi k c s n = .ok (e, s', n') → Q e s' → WA cf.P cx c Q s := by
  intro k
  induction k using Nat.strongRecOn with
  | ind k ih =>
    intro c s n e s' n' Q hb h hQ
    cases k with
    | zero => cases h
    | succ k =>
      rw [runC_succ] at h
      have ihk := ih k (Nat.lt_succ_self k)
      split at h
      · cases h; exact WA_skip hQ
      · cases h; exact WA_label hQ
      · cases h; exact WA_exit hQ
      · cases h; exact WA_ret hQ
      · rename_i id ops draw
        split at h
        · rename_i s1 n1 hrun; cases h; exact runR_ok hc hr h0 hb hQ hrun
        · cases h
        · cases h
      · rename_i x y
        simp only [codeB, Bool.and_eq_true] at hb
        split at h
        · rename_i s1 n1 hx
          exact WA_seq (ihk x s n _ _ _ _ hb.1 hx (ihk y s1 n1 _ _ _ _ hb.2 h hQ))
        · rename_i hne
          refine WA_seq (ihk x s n e s' n' _ hb.1 h ?_)
          cases e with
          | normal => exact absurd h (hne s' n')
          | _ => exact hQ
      · rename_i b x y
        simp only [codeB, Bool.and_eq_true] at hb
        rw [lkQ_eq] at h
        split at h
        · rename_i hv; exact WA_true hv (ihk x s n _ _ _ _ hb.1 h hQ)
        · rename_i hv; exact WA_false hv (ihk y s n _ _ _ _ hb.2 h hQ)
        · cases h
      · rename_i id x
        have hb : codeB cx.N x = true := hb
        split at h
        · rename_i id' s1 n1 hx
          refine WA_block (ihk x s n _ _ _ _ hb hx ?_)
          split at h
          · rename_i hbq; cases h; simp only [inB, hbq]; exact hQ
          · rename_i hbq; cases h; simp only [inB, hbq]; exact hQ
        · rename_i hne
          refine WA_block (ihk x s n e s' n' _ hb h ?_)
          cases e with
          | exit id' => exact absurd h (hne id' s' n')
          | _ => exact hQ
      · rename_i x
        have hb : codeB cx.N x = true := hb
        refine WA_loop (fun m st => m ≤ k + 1 ∧ ∃ st2, Le cx st st2 ∧ ∃ n2, runC cf rec Mi m (.loop x) st2 n2 = .ok (e, s', n')) (k + 1) ⟨Nat.le_refl _, s, Le.refl, n, by rw [runC_succ]; exact h⟩ ?_
        rintro m st ⟨hm, st2, hle, n2, hrun⟩
        cases m with
        | zero => cases hrun
        | succ j =>
          rw [runC_succ] at hrun
          refine WA_le hle ?_
          have ihj := ih j (by omega)
          simp only at hrun
          split at hrun
          · rename_i s1 n1 hx
            refine ihj x st2 n2 _ _ _ _ hb hx ?_
            exact ⟨j, Nat.lt_succ_self j, by omega, gcS Mi s1, gcS_ok h0, n1, hrun⟩
          · rename_i hne
            refine ihj x st2 n2 e s' n' _ hb hrun ?_
            cases e with
            | normal => exact absurd hrun (hne s' n')
            | _ => exact hQ
      · cases h
theorem resOneF_eq (tbl : List (Nat × TI)) (T : Nat → Option AV) (M : Nat → Option AO) (x : ResultVar) : resOneF (lk tbl) T M x = resOne tbl T M x := by
  cases x <;> rfl
theorem resAllF_eq (tbl : List (Nat × TI)) (T : Nat → Option AV) (M : Nat → Option AO) : ∀ l : List ResultVar, resAllF (lk tbl) T M l = resAll tbl T M l
  | [] => rfl
  | x :: r => by
    simp only [resAllF, resAll, resOneF_eq, resAllF_eq tbl T M r]
    cases resOne tbl T M x <;> cases resAll tbl T M r <;> rfl
theorem finish_ok (hc : CfgOK cf) {Mi : List (Nat × AO)} (h0 : ∀ g u, cx.μ0 g = some u → keyIn Mi g = true) {fn : Func} {s : St} {res : AV} {Mo : List (Nat × AO)} {e : Exit} (he : e = .normal ∨ e = .ret) (h : finish cf Mi fn s = some (res, Mo)) : Ret cf.tt.toL fn res Mo cx e s := by
  unfold finish finish1 at h
  split at h
  · rename_i ys hys
    split at h
    · rename_i s1 hv
      split at h
      · rename_i ys1 hys1
        simp only at h
        split at h
        · cases h
          rw [hc.get, resAllF_eq] at hys1
          exact ⟨he, s1, ys1, Le.trans (cutT_ok _ s) (view_ok (T := (cutT _ s).T) (M := (cutT _ s).M) h0 (only_ok fun p hp => by cases hp) hv), hys1, rfl, reach_sub trivial⟩
        · cases h
      · cases h
    · cases h
  · cases h
theorem finish_side {Mi : List (Nat × AO)} {fn : Func} {s : St} {res : AV} {Mo : List (Nat × AO)} (h : finish cf Mi fn s = some (res, Mo)) : keysIn Mi Mo = true ∧ AV.ok (keyIn Mo) res = true ∧ (Mo.all fun p => p.2.ok (keyIn Mo)) = true := by
  unfold finish finish1 at h
  split at h
  · split at h
    · split at h
      · simp only at h
        split at h
        · rename_i hk
          cases h
          simpa only [Bool.and_eq_true] using hk
        · cases h
      · cases h
    · cases h
  · cases h
end
theorem runF_succ (cf : Cfg) (k : Nat) (f : FuncId) (Mi : List (Nat × AO)) (ys : List AV) (n : Nat) : runF cf (k + 1) f Mi ys n = (match cf.fs f with
    | some fn => match fn.body with
      | some c => match Nat.ble ys.length fn.ntmps with
        | true => match runC cf (runF cf k) Mi 100000 c ⟨argT 0 ys, Mi⟩ n with
          | .ok (.normal, s, n') => match finish cf Mi fn s with
            | some (res, Mo) => .ok (res, Mo, n')
            | none => .bad 93 f
          | .ok (.ret, s, n') => match finish cf Mi fn s with
            | some (res, Mo) => .ok (res, Mo, n')
            | none => .bad 94 f
          | .ok _ => .bad 95 f
          | .need l => .need l
          | .bad a b => .bad a (b * 1000 + f)
        | false => .bad 97 f
      | none => .bad 98 f
    | none => .bad 99 f) := rfl
theorem runF_ok {cf : Cfg} (hc : CfgOK cf) : ∀ k, RecOK cf (runF cf k)
  | 0 => fun f Mi ys n res Mo n' h => by cases h
  | k + 1 => fun f Mi ys n res Mo n' h => by
    have ih := runF_ok hc k
    rw [runF_succ] at h
    split at h
    · rename_i fn hf
      obtain ⟨h1, _, h3⟩ := hc.hf f fn hf
      split at h
      · rename_i c hb
        split at h
        · rename_i hn
          split at h
          · rename_i s m hrun
            split at h
            · rename_i res' Mo' hfin
              cases h
              obtain ⟨k1, k2, k3⟩ := finish_side hfin
              exact FnM.of hc.ht h1 hb hn k1 k2 k3 fun cx hN h0 => runC_ok hc ih h0 _ _ _ _ _ _ _ _ (by rw [hN]; exact h3 c hb) hrun (finish_ok hc h0 (.inl rfl) hfin)
            · cases h
          · rename_i s m hrun
            split at h
            · rename_i res' Mo' hfin
              cases h
              obtain ⟨k1, k2, k3⟩ := finish_side hfin
              exact FnM.of hc.ht h1 hb hn k1 k2 k3 fun cx hN h0 => runC_ok hc ih h0 _ _ _ _ _ _ _ _ (by rw [hN]; exact h3 c hb) hrun (finish_ok hc h0 (.inr rfl) hfin)
            · cases h
          · cases h
          · cases h
          · cases h
        · cases h
      · cases h
    · cases h
end Go.Am
