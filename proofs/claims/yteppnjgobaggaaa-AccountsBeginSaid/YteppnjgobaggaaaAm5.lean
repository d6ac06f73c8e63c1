/- Nothing is claimed here: the operations that only compute or read, beside their abstract view. -/
import Derived.Test.YteppnjgobaggaaaAm4
namespace Go.Am
set_option linter.unusedSimpArgs false
set_option linter.unusedVariables false
set_option linter.unnecessarySimpa false
set_option linter.unusedSectionVars false
set_option maxRecDepth 100000
open Go Go.RowKit Go.Proofs.Grow

/-- What a type is like. -/
structure TI where
  agg : Bool
  size : Nat
  bytes : Nat
  zero : List Value
  fs : List (Nat × TypeId)
  isS : Bool
  el : Option TypeId
  len : Nat
  ik : Option IntKind
def tiOf (P : Program) (t : TypeId) : Option TI := match P.info? t, P.underlying t with
  | some i, some d => i.zero.map fun z =>
    { agg := match d with
        | .struct _ | .array _ _ => true
        | _ => false
      size := i.size, bytes := i.bytes, zero := z.cells.toList
      fs := match d with
        | .struct fs => fs.toList.map fun f => (f.offset, f.type)
        | _ => []
      isS := match d with
        | .slice _ => true
        | _ => false
      el := match d with
        | .slice e | .array _ e => some e
        | _ => none
      len := match d with
        | .array n _ => n
        | _ => 0
      ik := match d with
        | .int k => some k
        | _ => none }
  | _, _ => none
def TOK (P : Program) (tbl : List (Nat × TI)) : Prop := ∀ t i, lk tbl t = some i → tiOf P t = some i
theorem TOK_of {P : Program} {tbl : List (Nat × TI)} (h : tbl.map (fun p => tiOf P p.1) = tbl.map fun p => some p.2) : TOK P tbl := by
  intro t i
  induction tbl with
  | nil => intro hl; simp [lk] at hl
  | cons p r ih =>
    intro hl
    simp only [List.map_cons, List.cons.injEq] at h
    simp only [lk] at hl
    split at hl
    · rename_i hb
      have := Nat.eq_of_beq_eq_true hb
      rw [← this, h.1]; exact hl
    · exact ih h.2 hl

section
variable {P : Program} {t : TypeId} {i : TI} {w : World}
theorem ti_parts (h : tiOf P t = some i) : ∃ (info : TypeInfo) (d : TypeDesc) (z : Value), P.info? t = some info ∧ P.underlying t = some d ∧ info.zero = some z ∧ info.size = i.size ∧ info.bytes = i.bytes ∧ z.cells = i.zero.toArray ∧
    i.agg = (match d with
      | .struct _ | .array _ _ => true
      | _ => false) ∧ i.fs = (match d with
      | .struct fs => fs.toList.map fun f => (f.offset, f.type)
      | _ => []) ∧ i.isS = (match d with
      | .slice _ => true
      | _ => false) ∧ i.el = (match d with
      | .slice e | .array _ e => some e
      | _ => none) ∧ i.len = (match d with
      | .array n _ => n
      | _ => 0) ∧ i.ik = (match d with
      | .int k => some k
      | _ => none) := by
  unfold tiOf at h
  split at h
  · rename_i info d h1 h2
    cases hz : info.zero with
    | none => rw [hz] at h; simp at h
    | some z =>
      rw [hz] at h
      simp only [Option.map_some, Option.some.injEq] at h
      subst h
      exact ⟨info, d, z, h1, h2, hz, rfl, rfl, by simp, rfl, rfl, rfl, rfl, rfl, rfl⟩
  · cases h
theorem run_size (h : tiOf P t = some i) : (sizeOf t).run P w = .ok i.size w := by
  obtain ⟨info, d, z, h1, h2, h3, h4, _⟩ := ti_parts h
  simp [sizeOf, typeInfo, h1, h4]
theorem run_agg (h : tiOf P t = some i) : (isAgg t).run P w = .ok i.agg w := by
  obtain ⟨info, d, z, h1, h2, h3, h4, h5, h6, h7, _⟩ := ti_parts h
  unfold isAgg
  rw [h7]
  cases d <;> simp [run_underlying h2]
theorem run_zero (h : tiOf P t = some i) : ∃ z, (zeroValue t).run P w = .ok z w ∧ z.cells = i.zero.toArray := by
  obtain ⟨info, d, z, h1, h2, h3, h4, h5, h6, _⟩ := ti_parts h
  exact ⟨z, by simp [zeroValue, typeInfo, h1, h3], h6⟩
theorem slice_desc (h : tiOf P t = some i) {e : TypeId} (hs : i.isS = true) (he : i.el = some e) : P.underlying t = some (.slice e) := by
  obtain ⟨info, d, z, h1, h2, h3, h4, h5, h6, h7, h8, h9, h10, _⟩ := ti_parts h
  rw [h9] at hs
  rw [h10] at he
  cases d <;> simp_all
theorem arr_desc (h : tiOf P t = some i) {e : TypeId} (ha : i.agg = true) (he : i.el = some e) : P.underlying t = some (.array i.len e) := by
  obtain ⟨info, d, z, h1, h2, h3, h4, h5, h6, h7, h8, h9, h10, h11, _⟩ := ti_parts h
  rw [h7] at ha
  rw [h10] at he
  rw [h11]
  cases d <;> simp_all
theorem struct_desc (h : tiOf P t = some i) (ha : i.agg = true) (he : i.el = none) : ∃ fs, P.underlying t = some (.struct fs) ∧ i.fs = fs.toList.map fun f => (f.offset, f.type) := by
  obtain ⟨info, d, z, h1, h2, h3, h4, h5, h6, h7, h8, h9, h10, h11, _⟩ := ti_parts h
  rw [h7] at ha
  rw [h10] at he
  cases d <;> simp_all
theorem int_desc (h : tiOf P t = some i) {k : IntKind} (hk : i.ik = some k) : P.underlying t = some (.int k) := by
  obtain ⟨info, d, z, h1, h2, h3, h4, h5, h6, h7, h8, h9, h10, h11, h12⟩ := ti_parts h
  rw [h12] at hk
  cases d <;> simp_all

theorem addr_add (b o n : Nat) : (⟨b, o, none⟩ : Addr).add n = ⟨b, o + n, none⟩ := by
  unfold Addr.add; split <;> simp_all
theorem run_loadFrom {b off : Nat} : ∀ (vs : List Value) (k : Nat) (acc : Array Value), (∀ (j : Nat) (v : Value), vs[j]? = some v → w.cell? ⟨b, off + k + j, none⟩ = some v) → (loadCellsFrom ⟨b, off, none⟩ k vs.length acc).run P w = .ok (acc ++ vs.toArray) w
  | [], k, acc, _ => by simp [loadCellsFrom]
  | v :: r, k, acc, h => by
    have h0 := h 0 v rfl
    simp only [Nat.add_zero] at h0
    have ih := run_loadFrom (b := b) (off := off) r (k + 1) (acc.push v) (fun j u hu => by have := h (j + 1) u (by simpa using hu); rw [show off + (k + 1) + j = off + k + (j + 1) by omega]; exact this)
    simp only [List.length_cons, loadCellsFrom, Sem.run_bind, addr_add, run_load, h0, Result.andThen_ok, ih]
    congr 1
    simp
theorem run_loadCells {b off : Nat} {vs : List Value} (h : ∀ (j : Nat) (v : Value), vs[j]? = some v → w.cell? ⟨b, off + j, none⟩ = some v) : (loadCells ⟨b, off, none⟩ vs.length).run P w = .ok vs.toArray w := by
  unfold loadCells
  rw [run_loadFrom vs 0 #[] (fun j v hv => by simpa using h j v hv)]
  simp
theorem run_loadAgg {b off : Nat} {vs : List Value} (ht : tiOf P t = some i) (ha : i.agg = true) (hl : vs.length = i.size) (h : ∀ (j : Nat) (v : Value), vs[j]? = some v → w.cell? ⟨b, off + j, none⟩ = some v) :
    (loadVar t ⟨b, off, none⟩).run P w = .ok (.agg vs.toArray) w := by
  unfold loadVar
  simp only [Sem.run_bind, run_agg ht, Result.andThen_ok, ha, if_true, run_size ht, ← hl, run_loadCells h, Sem.run_pure]
theorem run_loadOne {b off : Nat} {v : Value} (ht : tiOf P t = some i) (ha : i.agg = false) (h : w.cell? ⟨b, off, none⟩ = some v) : (loadVar t ⟨b, off, none⟩).run P w = .ok v w := by
  unfold loadVar
  rw [Sem.run_bind, run_agg ht]
  simp [ha, h]
end

def AV.one : AV → Bool
  | .d (.v x) => x.oneCell'
  | .agg _ => false
  | .tup _ => false
  | _ => true
def cellsOf : AV → List AV
  | .agg cs => cs
  | x => [x]
def flat : AV → Bool
  | .agg cs => cs.all AV.one
  | x => x.one

section
variable {H : Nat → Prop} {μ : Nat → Option Value} {w : World}
theorem VD.one {x : D} {v : Value} (h : VD H w x v) (ho : (AV.d x).one = true) : v.oneCell' = true := by
  cases h with
  | v x => exact ho
  | nil => rfl
  | rows => rfl
theorem VR.one {x : AV} {v : Value} (h : VR H μ w x v) (ho : x.one = true) : v.oneCell' = true := by
  cases h with
  | d h => exact h.one ho
  | ptr => rfl
  | elt => rfl
  | own => rfl
  | rp => rfl
  | agg => cases ho
  | tup => cases ho
  | clo => rfl
theorem cells_one {v : Value} (h : v.oneCell' = true) : v.cells = #[v] := by
  cases v <;> first | rfl | cases h
theorem VRs.ones {cs : List AV} {vs : List Value} (h : VRs H μ w cs vs) (ho : cs.all AV.one = true) : ∀ u ∈ vs, u.oneCell' = true := by
  intro u hu
  obtain ⟨i, hi⟩ := List.mem_iff_getElem?.1 hu
  have hlt : i < cs.length := by rw [h.1]; exact (List.getElem?_eq_some_iff.1 hi).1
  exact (h.2 i cs[i] u (by simp [hlt]) hi).one (List.all_eq_true.1 ho _ (List.getElem_mem hlt))
theorem flat_cells {x : AV} {v : Value} (h : VR H μ w x v) (hf : flat x = true) : ∃ vs, v.cells = vs.toArray ∧ VRs H μ w (cellsOf x) vs ∧ ∀ u ∈ vs, u.oneCell' = true := by
  by_cases ha : ∃ cs, x = .agg cs
  · obtain ⟨cs, rfl⟩ := ha
    cases h with
    | agg hl h => exact ⟨_, rfl, ⟨hl, h⟩, VRs.ones ⟨hl, h⟩ hf⟩
  · have e1 : flat x = x.one := by cases x <;> first | rfl | exact absurd ⟨_, rfl⟩ ha
    have e2 : cellsOf x = [x] := by cases x <;> first | rfl | exact absurd ⟨_, rfl⟩ ha
    rw [e1] at hf
    have := h.one hf
    exact ⟨[v], by rw [cells_one this], by rw [e2]; exact VRs.cons h VRs.nil, by simpa using this⟩
end

section
variable {P : Program} {tbl : List (Nat × TI)} {o : Oper} {T : Nat → Option AV} {M : Nat → Option AO}

theorem step_move {x : Operand} {y : AV} (ho : o.op = .move x) (hx : evA T x = some y) : StepOK P o T M ⟨y, [], []⟩ :=
  step_read [] fun cx μ T' M' a w h hT _ => ⟨_, by simp [execOp, ho], h.ev hT (by simp [ho, Op.operands]) hx⟩
theorem step_assign {x : Operand} {y : AV} (ho : o.op = .assign x) (hx : evA T x = some y) : StepOK P o T M ⟨y, [], []⟩ :=
  step_read [] fun cx μ T' M' a w h hT _ => ⟨_, by simp [execOp, ho], h.ev hT (by simp [ho, Op.operands]) hx⟩
theorem VR.bool {H : Nat → Prop} {μ : Nat → Option Value} {w : World} {b : Bool} {v : Value} (h : VR H μ w (.d (.v (.bool b))) v) : v = .bool b := by
  cases h with | d h => cases h; rfl
theorem VR.val {H : Nat → Prop} {μ : Nat → Option Value} {w : World} {u v : Value} (h : VR H μ w (.d (.v u)) v) : v = u := by
  cases h with | d h => cases h; rfl
theorem step_pick {c x y : Operand} {b : Bool} {u v : AV} (ho : o.op = .pick c x y) (hc : evA T c = some (.d (.v (.bool b)))) (hx : evA T x = some u) (hy : evA T y = some v) : StepOK P o T M ⟨if b then u else v, [], []⟩ :=
  step_read [] fun cx μ T' M' a w h hT _ => by
    have h1 := (h.ev hT (by simp [ho, Op.operands]) hc).bool
    have h2 := h.ev (x := x) hT (by simp [ho, Op.operands]) hx
    have h3 := h.ev (x := y) hT (by simp [ho, Op.operands]) hy
    refine ⟨if b then a.eval x else a.eval y, by simp [execOp, ho, h1, asBool], ?_⟩
    cases b
    · exact h3
    · exact h2
theorem step_pick_t {c x y : Operand} {b : Bool} {u : AV} (ho : o.op = .pick c x y) (hc : evA T c = some (.d (.v (.bool b)))) (hb : b = true) (hx : evA T x = some u) : StepOK P o T M ⟨u, [], []⟩ :=
  step_read [] fun cx μ T' M' a w h hT _ => by
    subst hb
    have h1 := (h.ev hT (by simp [ho, Op.operands]) hc).bool
    exact ⟨a.eval x, by simp [execOp, ho, h1, asBool], h.ev (x := x) hT (by simp [ho, Op.operands]) hx⟩
theorem step_pick_f {c x y : Operand} {b : Bool} {u : AV} (ho : o.op = .pick c x y) (hc : evA T c = some (.d (.v (.bool b)))) (hb : b = false) (hy : evA T y = some u) : StepOK P o T M ⟨u, [], []⟩ :=
  step_read [] fun cx μ T' M' a w h hT _ => by
    subst hb
    have h1 := (h.ev hT (by simp [ho, Op.operands]) hc).bool
    exact ⟨a.eval y, by simp [execOp, ho, h1, asBool], h.ev (x := y) hT (by simp [ho, Op.operands]) hy⟩

/-- A computation on values. -/
theorem step_pure1 {x : Operand} {u r : Value} (f : Value → Sem Value) (ho : ∀ ρ, execOp ρ o = (do pure (.value (← f (ρ x))))) (hmem : x ∈ o.op.operands.toList) (hx : evA T x = some (.d (.v u))) (hr : ∀ w, (f u).run P w = .ok r w) :
    StepOK P o T M ⟨.d (.v r), [], []⟩ :=
  step_read [] fun cx μ T' M' a w h hT _ => by
    have h1 := (h.ev hT hmem hx).val
    exact ⟨r, by rw [ho, h1]; simp [hr], .d (.v r)⟩
theorem step_not {t : TypeId} {x : Operand} {b : Bool} (ho : o.op = .unOp .not t x) (hx : evA T x = some (.d (.v (.bool b)))) : StepOK P o T M ⟨.d (.v (.bool !b)), [], []⟩ :=
  step_pure1 (x := x) (u := .bool b) (Op.unary .not) (fun ρ => by simp [execOp, ho]) (by simp [ho, Op.operands]) hx (fun w => by simp [Op.unary])
theorem step_neg {t : TypeId} {x : Operand} {k : IntKind} {n : Int} (ho : o.op = .unOp .neg t x) (hx : evA T x = some (.d (.v (.int k n)))) : StepOK P o T M ⟨.d (.v (.int k (k.wrap (0 - n)))), [], []⟩ :=
  step_pure1 (x := x) (u := .int k n) (Op.unary .neg) (fun ρ => by simp [execOp, ho]) (by simp [ho, Op.operands]) hx (fun w => by simp [Op.unary, Op.intArith])
theorem step_conv (htb : TOK P tbl) {s d : TypeId} {x : Operand} {k k' : IntKind} {n : Int} {i j : TI} (ho : o.op = .convert s d x) (hs : lk tbl s = some i) (hd : lk tbl d = some j) (hk : j.ik = some k') (hx : evA T x = some (.d (.v (.int k n)))) : StepOK P o T M ⟨.d (.v (.int k' (k'.wrap n))), [], []⟩ :=
  step_pure1 (x := x) (u := .int k n) (convert s d) (fun ρ => by simp [execOp, ho]) (by simp [ho, Op.operands]) hx (fun w => by
    obtain ⟨info, ds, z, h1, h2, _⟩ := ti_parts (htb _ _ hs)
    have h3 := int_desc (htb _ _ hd) hk
    simp [convert, run_underlying h2, run_underlying h3, Conv.intToInt])

def intOp : BinOp → IntKind → Int → Int → Option Value
  | .add, k, a, b => some (.int k (k.wrap (a + b)))
  | .sub, k, a, b => some (.int k (k.wrap (a - b)))
  | .mul, k, a, b => some (.int k (k.wrap (a * b)))
  | .eql, _, a, b => some (.bool (a == b))
  | .neq, _, a, b => some (.bool (a != b))
  | .lss, _, a, b => some (.bool (decide (a < b)))
  | .leq, _, a, b => some (.bool (decide (a ≤ b)))
  | .gtr, _, a, b => some (.bool (decide (a > b)))
  | .geq, _, a, b => some (.bool (decide (a ≥ b)))
  | _, _, _, _ => none
theorem run_guard_int (op : BinOp) (t : TypeId) (x y : Operand) (k : IntKind) (a b : Int) (w : World) : (eqGuard op t x y (.int k a) (.int k b)).run P w = .ok () w := by
  unfold eqGuard
  cases op <;> simp
theorem step_int {op : BinOp} {t t' : TypeId} {x y : Operand} {k : IntKind} {a b : Int} {r : Value} (ho : o.op = .binOp op t x y t') (hx : evA T x = some (.d (.v (.int k a)))) (hy : evA T y = some (.d (.v (.int k b)))) (hr : intOp op k a b = some r) :
    StepOK P o T M ⟨.d (.v r), [], []⟩ :=
  step_read [] fun cx μ T' M' ac w h hT _ => by
    have h1 := (h.ev (x := x) hT (by simp [ho, Op.operands]) hx).val
    have h2 := (h.ev (x := y) hT (by simp [ho, Op.operands]) hy).val
    refine ⟨r, ?_, .d (.v r)⟩
    simp only [execOp, ho, h1, h2, Sem.run_bind, run_guard_int, Result.andThen_ok]
    cases op <;> simp only [intOp, Option.some.injEq] at hr <;> first | (cases hr; done) | (subst hr; simp [binOp, Op.intArith, Op.intCmp])
theorem step_sum {op : BinOp} {t t' : TypeId} {x y : Operand} {a b r : Int} (ho : o.op = .binOp op t x y t') (hx : evA T x = some (.d (.v (.int .i64 a)))) (hy : evA T y = some (.d (.v (.int .i64 b))))
    (hr : (op = .add ∧ r = a + b) ∨ (op = .sub ∧ r = a - b) ∨ (op = .mul ∧ r = a * b)) (h1 : -9223372036854775808 ≤ r) (h2 : r ≤ 9223372036854775807) : StepOK P o T M ⟨.d (.v (.int .i64 r)), [], []⟩ := by
  have hw : IntKind.i64.wrap r = r := IntWalk.i64_in _ ⟨h1, h2⟩
  refine step_int ho hx hy ?_
  rcases hr with ⟨rfl, rfl⟩ | ⟨rfl, rfl⟩ | ⟨rfl, rfl⟩ <;> simp only [intOp, hw]
theorem step_quo {t t' : TypeId} {x y : Operand} {k : IntKind} {a b : Int} (ho : o.op = .binOp .quo t x y t') (hx : evA T x = some (.d (.v (.int k a)))) (hy : evA T y = some (.d (.v (.int k b)))) (hb : b ≠ 0) :
    StepOK P o T M ⟨.d (.v (.int k (k.wrap (a.tdiv b)))), [], []⟩ :=
  step_read [] fun cx μ T' M' ac w h hT _ => by
    have h1 := (h.ev (x := x) hT (by simp [ho, Op.operands]) hx).val
    have h2 := (h.ev (x := y) hT (by simp [ho, Op.operands]) hy).val
    exact ⟨_, by simp only [execOp, ho, h1, h2, Sem.run_bind, run_guard_int, Result.andThen_ok]; simp [binOp, Op.intDiv, hb], .d (.v _)⟩
theorem step_rem {t t' : TypeId} {x y : Operand} {k : IntKind} {a b : Int} (ho : o.op = .binOp .rem t x y t') (hx : evA T x = some (.d (.v (.int k a)))) (hy : evA T y = some (.d (.v (.int k b)))) (hb : b ≠ 0) :
    StepOK P o T M ⟨.d (.v (.int k (a.tmod b))), [], []⟩ :=
  step_read [] fun cx μ T' M' ac w h hT _ => by
    have h1 := (h.ev (x := x) hT (by simp [ho, Op.operands]) hx).val
    have h2 := (h.ev (x := y) hT (by simp [ho, Op.operands]) hy).val
    exact ⟨_, by simp only [execOp, ho, h1, h2, Sem.run_bind, run_guard_int, Result.andThen_ok]; simp [binOp, Op.intDiv, hb], .d (.v _)⟩

def strOp : BinOp → ByteArray → ByteArray → Option Value
  | .eql, a, b => some (.bool (a.toList == b.toList))
  | .neq, a, b => some (.bool !(a.toList == b.toList))
  | .lss, a, b => some (.bool (Op.bytesLess a.toList b.toList))
  | .gtr, a, b => some (.bool !(Op.bytesLess a.toList b.toList || (a.toList == b.toList)))
  | _, _, _ => none
theorem run_guard_str (op : BinOp) (t : TypeId) (x y : Operand) (a b : ByteArray) (w : World) : (eqGuard op t x y (.string a) (.string b)).run P w = .ok () w := by
  unfold eqGuard
  cases op <;> simp
theorem step_str {op : BinOp} {t t' : TypeId} {x y : Operand} {a b : ByteArray} {r : Value} (ho : o.op = .binOp op t x y t') (hx : evA T x = some (.d (.v (.string a)))) (hy : evA T y = some (.d (.v (.string b)))) (hr : strOp op a b = some r) :
    StepOK P o T M ⟨.d (.v r), [], []⟩ :=
  step_read [] fun cx μ T' M' ac w h hT _ => by
    have h1 := (h.ev (x := x) hT (by simp [ho, Op.operands]) hx).val
    have h2 := (h.ev (x := y) hT (by simp [ho, Op.operands]) hy).val
    refine ⟨r, ?_, .d (.v r)⟩
    simp only [execOp, ho, h1, h2, Sem.run_bind, run_guard_str, Result.andThen_ok]
    cases op <;> simp only [strOp, Option.some.injEq] at hr <;> first | (cases hr; done) | (subst hr; simp [binOp, Op.stringOp])
/-- Equality of whole values, told by the run of it. -/
theorem step_eq {t t' : TypeId} {x y : Operand} {cs ds : List AV} {us vs : List Value} {b : Bool} (ho : o.op = .binOp .eql t x y t') (hx : evA T x = some (.agg cs)) (hy : evA T y = some (.agg ds)) (hc : cs = us.map fun u => .d (.v u)) (hd : ds = vs.map fun u => .d (.v u))
    (hr : ∀ (x y : Operand) w, (do eqGuard .eql t x y (.agg us.toArray) (.agg vs.toArray); binOp .eql t (.agg us.toArray) (.agg vs.toArray)).run P w = .ok (.bool b) w) : StepOK P o T M ⟨.d (.v (.bool b)), [], []⟩ :=
  step_read [] fun cx μ T' M' ac w h hT _ => by
    have aux : ∀ {H : Nat → Prop} {cs : List AV} {us : List Value} {v : Value}, VR H μ w (.agg cs) v → cs = us.map (fun u => .d (.v u)) → v = .agg us.toArray := by
      intro H cs us v hv hc
      cases hv with
      | @agg _ vs hl hv =>
        subst hc
        congr 2
        refine List.ext_getElem? fun i => ?_
        by_cases hi : i < us.length
        · have hi2 : i < vs.length := by rw [← hl]; simpa using hi
          have := (hv i (.d (.v us[i])) vs[i] (by simp [hi]) (by simp [hi2])).val
          simp [hi, hi2, this]
        · have hl2 : us.length = vs.length := by simpa using hl
          rw [List.getElem?_eq_none (l := us) (by omega), List.getElem?_eq_none (l := vs) (by omega)]
    have h1 := aux (h.ev (x := x) hT (by simp [ho, Op.operands]) hx) hc
    have h2 := aux (h.ev (x := y) hT (by simp [ho, Op.operands]) hy) hd
    refine ⟨.bool b, ?_, .d (.v _)⟩
    have hr := hr x y w
    simp only [execOp, ho, h1, h2]
    rw [Sem.run_bind, hr]
    simp
theorem step_neq {t t' : TypeId} {x y : Operand} {cs ds : List AV} {us vs : List Value} {b : Bool} (ho : o.op = .binOp .neq t x y t') (hx : evA T x = some (.agg cs)) (hy : evA T y = some (.agg ds)) (hc : cs = us.map fun u => .d (.v u)) (hd : ds = vs.map fun u => .d (.v u))
    (hr : ∀ (x y : Operand) w, (do eqGuard .neq t x y (.agg us.toArray) (.agg vs.toArray); binOp .neq t (.agg us.toArray) (.agg vs.toArray)).run P w = .ok (.bool b) w) : StepOK P o T M ⟨.d (.v (.bool b)), [], []⟩ :=
  step_read [] fun cx μ T' M' ac w h hT _ => by
    have aux : ∀ {H : Nat → Prop} {cs : List AV} {us : List Value} {v : Value}, VR H μ w (.agg cs) v → cs = us.map (fun u => .d (.v u)) → v = .agg us.toArray := by
      intro H cs us v hv hc
      cases hv with
      | @agg _ vs hl hv =>
        subst hc
        congr 2
        refine List.ext_getElem? fun i => ?_
        by_cases hi : i < us.length
        · have hi2 : i < vs.length := by rw [← hl]; simpa using hi
          have := (hv i (.d (.v us[i])) vs[i] (by simp [hi]) (by simp [hi2])).val
          simp [hi, hi2, this]
        · have hl2 : us.length = vs.length := by simpa using hl
          rw [List.getElem?_eq_none (l := us) (by omega), List.getElem?_eq_none (l := vs) (by omega)]
    have h1 := aux (h.ev (x := x) hT (by simp [ho, Op.operands]) hx) hc
    have h2 := aux (h.ev (x := y) hT (by simp [ho, Op.operands]) hy) hd
    refine ⟨.bool b, ?_, .d (.v _)⟩
    have hr := hr x y w
    simp only [execOp, ho, h1, h2]
    rw [Sem.run_bind, hr]
    simp

theorem step_extract {x : Operand} {n : Nat} {cs : List AV} {c : AV} (ho : o.op = .extract x n) (hx : evA T x = some (.tup cs)) (hc : cs[n]? = some c) : StepOK P o T M ⟨c, [], []⟩ :=
  step_read [] fun cx μ T' M' a w h hT _ => by
    have h1 := h.ev (x := x) hT (by simp [ho, Op.operands]) hx
    generalize hv : a.eval x = v at h1
    cases h1 with
    | @tup _ vs hl h1 =>
      obtain ⟨u, hu, hr⟩ := VRs.get ⟨hl, h1⟩ hc
      exact ⟨u, by simp [execOp, ho, hv, Instr.extract, hu], hr⟩
theorem step_nilcheck {x : Operand} {y : AV} (ho : o.op = .nilCheck x) (hx : evA T x = some y) (hk : (match y with
    | .ptr _ _ => true
    | .elt _ _ _ _ => true
    | .rp _ => true
    | .clo _ _ => true
    | _ => false) = true) : StepOK P o T M ⟨y, [], []⟩ :=
  step_read [] fun cx μ T' M' a w h hT _ => by
    have h1 := h.ev (x := x) hT (by simp [ho, Op.operands]) hx
    refine ⟨a.eval x, ?_, h1⟩
    generalize hv : a.eval x = v at h1
    cases h1 <;> first | (cases hk; done) | simp [execOp, ho, hv]
theorem step_func {f : FuncId} {first cap : Array Operand} {ys : List AV} (ho : o.op = .makeFunc (.func f) first cap) (hf : first = #[]) (hx : cap.toList.map (evA T) = ys.map some) : StepOK P o T M ⟨.clo f ys, [], []⟩ :=
  step_read [] fun cx μ T' M' a w h hT _ => by
    subst hf
    refine ⟨.func (.func f) #[] (cap.map a.eval), by simp [execOp, ho, Instr.makeFunc], ?_⟩
    have : cap.map a.eval = (cap.toList.map a.eval).toArray := by rw [← Array.toList_map, Array.toArray_toList]
    rw [this]
    have hl : ys.length = cap.toList.length := by
      have := congrArg List.length hx
      simpa using this.symm
    refine .clo (by simpa using hl) fun i c v hc hv => ?_
    rw [List.getElem?_map] at hv
    cases hq : cap.toList[i]? with
    | none => rw [hq] at hv; cases hv
    | some q =>
      rw [hq] at hv
      obtain rfl : a.eval q = v := by simpa using hv
      have h2 := congrArg (fun l => l[i]?) hx
      simp only [List.getElem?_map, hq, hc, Option.map_some, Option.some.injEq] at h2
      exact h.ev hT (by rw [ho]; simp [Op.operands]; exact Array.mem_of_getElem? (by simpa using hq)) h2
end
end Go.Am
