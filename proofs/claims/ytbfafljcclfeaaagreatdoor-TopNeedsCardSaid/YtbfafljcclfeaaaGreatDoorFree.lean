/- Nothing is claimed here: a region that draws its order, each operation told by what its value is like: a law that does not branch over the orders. -/
import Derived.Test.YtbfafljcclfeaaaGreatDoorGrow
namespace Go.Proofs.Grow
set_option linter.unusedSimpArgs false
set_option linter.unusedVariables false
set_option linter.unnecessarySimpa false
set_option linter.unusedSectionVars false
set_option maxRecDepth 100000
open Go Go.RowKit

section
variable {P : Program} {ops : Array Oper}

/-- Every operation waits for earlier ones alone. -/
def backB (ops : Array Oper) : Bool := (List.range ops.size).all fun i => ((ops[i]?).map fun o => o.after.all fun e => !Region.binds .any e || decide (e.on < i)).getD true
/-- The first n operations have no guard, and write into slots of their own. -/
def plainB (ops : Array Oper) (n : Nat) : Bool := (List.range n).all fun i => ((ops[i]?).map fun o => o.guard.isNone && (List.range n).all fun j => decide (i = j) || ((ops[j]?).map fun q => q.dst.isNone || q.dst != o.dst).getD true).getD true
def canon (m n : Nat) : Array Bool := (List.range m).map (fun i => decide (i < n)) |>.toArray

/-- The frame with the values of the head written. -/
def puts : List Oper → Nat → (Nat → Value) → Act → Act
  | [], _, _, a => a
  | o :: r, k, vs, a => puts r (k + 1) vs (a.put o.dst (vs k))

/-- What one operation does: it gives a value, or calls what returns one. -/
def GivesF (P : Program) (o : Oper) (a : Act) (w : World) (R : Value → World → Prop) : Prop :=
  match (execOp a.eval o).run P w with
  | .ok (.value v) w2 => R v w2
  | .ok .skip w2 => R undef w2
  | .ok (.enter f args) w2 => Calls P f args w2 fun e w3 => ∃ v, e = .returned v ∧ R v w3
  | _ => False
theorem GivesF.wp {o : Oper} {a b : Act} {w : World} {R : Value → World → Prop} {K : Act → World → Prop} {Q : Exit → Act → World → Prop} (he : execOp a.eval o = execOp b.eval o) (h : GivesF P o b w R)
    (hK : ∀ v w2, R v w2 → K (a.put o.dst v) w2) : o.wp P a w K Q := by
  unfold Oper.wp
  rw [he]
  unfold GivesF at h
  generalize (execOp b.eval o).run P w = r at *
  cases r with
  | ok n w2 =>
    cases n <;> simp only [Oper.upon] at h ⊢
    case value v => exact hK _ _ h
    case skip => exact hK _ _ h
    case enter f args =>
      refine Calls.mono h fun e w3 ⟨v, he, hr⟩ => ?_
      subst he; exact hK _ _ hr
  | halt x w2 => exact h.elim
/-- What an operation looks at is what it waits for, or what stood there before. -/
def readsB (ops : Array Oper) (n : Nat) : Bool := (List.range n).all fun i => ((ops[i]?).map fun o => (o.looksAt ops).all fun t => (List.range n).all fun j => ((ops[j]?).map fun q => q.dst != some t || (decide (j < i) && Region.waitsFor .any ops i j)).getD true).getD true
def freeB (l : List Oper) (n : Nat) : Bool :=
  Region.noSelect l.toArray && (backB l.toArray && (plainB l.toArray n && (readsB l.toArray n && (Region.sinkB .any l.toArray n && (Region.chainB .any l.toArray n && (decide (n < l.length) && Region.seqB .any l.toArray (l.length - n) n (canon l.length n)))))))

structure FreeInv (ops : Array Oper) (n : Nat) (K : Nat → Nat → Bool) (a0 : Act) (Φ : Nat → Value → World → Prop) (C : World → Prop) (s : Array Bool) (vs : Nat → Value) (a : Act) (w : World) : Prop where
  head : HeadInv .any ops n s
  cls : C w
  vals : ∀ i, i < n → s.getD i false = true → (∀ k, k < n → s.getD k false = true → K k i = true) → Φ i (vs i) w
  defers : a.defers = a0.defers
  size : a.tmps.size = a0.tmps.size
  done : ∀ i o d, ops[i]? = some o → i < n → s.getD i false = true → o.dst = some d → d < a0.tmps.size → a.tmps.getD d undef = vs i
  rest : ∀ d, (∀ i o, ops[i]? = some o → i < n → s.getD i false = true → o.dst ≠ some d) → a.tmps.getD d undef = a0.tmps.getD d undef

theorem put_size (a : Act) (d : Option Tmp) (v : Value) : (a.put d v).tmps.size = a.tmps.size := by
  cases d <;> simp [Act.put]
theorem put_same (a : Act) (d : Tmp) (v : Value) (h : d < a.tmps.size) : (a.put (some d) v).tmps.getD d undef = v := by
  simp [Act.put, h]
theorem put_other (a : Act) (d : Option Tmp) (v : Value) (e : Tmp) (h : d ≠ some e) : (a.put d v).tmps.getD e undef = a.tmps.getD e undef := by
  cases d with
  | none => simp [Act.put]
  | some d =>
    have : d ≠ e := fun q => h (by rw [q])
    simp [Act.put, Array.getElem?_setIfInBounds_ne this]
theorem put_out (a : Act) (d : Tmp) (v : Value) (h : ¬ d < a.tmps.size) (e : Tmp) : (a.put (some d) v).tmps.getD e undef = a.tmps.getD e undef := by
  simp [Act.put, Array.setIfInBounds_eq_of_size_le (Nat.le_of_not_lt h)]
theorem put_defers' (a : Act) (d : Option Tmp) (v : Value) : (a.put d v).defers = a.defers := by
  cases d <;> simp [Act.put]
theorem puts_size (vs : Nat → Value) (l : List Oper) : ∀ k a, (puts l k vs a).tmps.size = a.tmps.size := by
  induction l with
  | nil => intro k a; rfl
  | cons o r ih => intro k a; rw [puts, ih, put_size]
theorem puts_defers (vs : Nat → Value) (l : List Oper) : ∀ k a, (puts l k vs a).defers = a.defers := by
  induction l with
  | nil => intro k a; rfl
  | cons o r ih => intro k a; rw [puts, ih, put_defers']
theorem puts_rest (vs : Nat → Value) (l : List Oper) (d : Tmp) : ∀ k a, (∀ o ∈ l, o.dst ≠ some d) → (puts l k vs a).tmps.getD d undef = a.tmps.getD d undef := by
  induction l with
  | nil => intro k a _; rfl
  | cons o r ih => intro k a h; rw [puts, ih _ _ (fun q hq => h q (by simp [hq])), put_other _ _ _ _ (h o (by simp))]
theorem puts_done (vs : Nat → Value) (l : List Oper) (d : Tmp) : ∀ k a (i : Nat) (o : Oper), l[i]? = some o → o.dst = some d → d < a.tmps.size → (∀ j q, l[j]? = some q → q.dst = some d → j = i) → (puts l k vs a).tmps.getD d undef = vs (k + i) := by
  induction l with
  | nil => intro k a i o h; simp at h
  | cons x r ih =>
    intro k a i o h hd hs hu
    rw [puts]
    cases i with
    | zero =>
      have e : x = o := by simpa using h
      subst e
      rw [puts_rest vs r d _ _ (fun q hq hqd => by
        obtain ⟨j, hj⟩ := List.mem_iff_getElem?.1 hq
        have := hu (j + 1) q (by simpa using hj) hqd
        omega), hd, put_same _ _ _ hs]; rfl
    | succ i =>
      rw [ih (k + 1) _ i o (by simpa using h) hd (by rw [put_size]; exact hs) (fun j q hj hq => by have := hu (j + 1) q (by simpa using hj) hq; omega)]
      congr 1; omega
theorem act_ext {a b : Act} (h : a.tmps.size = b.tmps.size) (h2 : ∀ d, d < a.tmps.size → a.tmps.getD d undef = b.tmps.getD d undef) (h3 : a.defers = b.defers) : a = b := by
  obtain ⟨x, p⟩ := a
  obtain ⟨y, q⟩ := b
  simp only at h h2 h3
  subst h3
  congr 1
  refine Array.ext h fun d hd hd2 => ?_
  have := h2 d hd
  simpa [hd, hd2] using this

theorem getD_out (x : Array Value) (t : Nat) (h : ¬ t < x.size) : x.getD t undef = undef := by simp [Array.getD, h]
theorem all_range {n : Nat} {p : Nat → Bool} (h : (List.range n).all p = true) {i : Nat} (hi : i < n) : p i = true := List.all_eq_true.1 h i (List.mem_range.2 hi)
theorem getD_set_self {s : Array Bool} {i : Nat} (h : i < s.size) : (s.setIfInBounds i true).getD i false = true := by simp [h]
theorem getD_set_iff {s : Array Bool} {i j : Nat} (h : (s.setIfInBounds i true).getD j false = true) (hij : j ≠ i) : s.getD j false = true := by
  rwa [getD_set_ne false (Ne.symm hij)] at h

/-- A region that draws its order: n operations, each told by Φ, in any order; then a tail in one order. -/
theorem region_free {id : Nat} {Q : Exit → Act → World → Prop} {a0 : Act} {w0 : World} {l : List Oper} (n : Nat) (K : Nat → Nat → Bool) (S : Nat → World → World → Prop) (C : World → Prop) (Φ : Nat → Value → World → Prop)
    (hm : P.follows .mixedOrders = true) (hB : freeB l n = true) (hC : C { w0 with drawn := w0.drawn + 1 })
    (hst : ∀ k j v w w', k ≠ j → K k j = true → Φ j v w → S k w w' → Φ j v w')
    (hop : ∀ i o, i < n → l[i]? = some o → ∀ (vs : Nat → Value) w, C w → (∀ j, j < i → Region.waitsFor .any l.toArray i j = true → (∀ k, k < n → k ≠ i → K k j = true) → Φ j (vs j) w) → GivesF P o (puts (l.take i) 0 vs a0) w (fun v w2 => Φ i v w2 ∧ C w2 ∧ S i w w2))
    (hend : ∀ (vs : Nat → Value) w, C w → (∀ i, i < n → (∀ k, k < n → K k i = true) → Φ i (vs i) w) → wpList P l.toArray Q (l.drop n) (puts (l.take n) 0 vs a0) w) : (Code.region id l.toArray true).wp P Q a0 w0 := by
  simp only [freeB, Bool.and_eq_true, decide_eq_true_eq] at hB
  obtain ⟨hsel, hback, hplain, hreads, hsink, hchain, hn, hseq⟩ := hB
  have hdst : ∀ i o, i < n → l[i]? = some o → o.guard = none ∧ ∀ j q, j < n → l[j]? = some q → ∀ d, o.dst = some d → q.dst = some d → i = j := by
    intro i o hi ho
    have h := all_range hplain hi
    simp only [List.getElem?_toArray, ho, Option.map_some, Option.getD_some, Bool.and_eq_true, Option.isNone_iff_eq_none] at h
    refine ⟨h.1, fun j q hj hq d hd hd2 => ?_⟩
    have h2 := all_range h.2 hj
    simp only [hq, Option.map_some, Option.getD_some, Bool.or_eq_true, decide_eq_true_eq, Option.isNone_iff_eq_none, bne_iff_ne] at h2
    rcases h2 with h2 | h2 | h2
    · exact h2
    · rw [hd2] at h2; cases h2
    · rw [hd, hd2] at h2; exact absurd rfl h2
  have hrd : ∀ i o, i < n → l[i]? = some o → ∀ t, t ∈ o.looksAt l.toArray → ∀ j q, j < n → l[j]? = some q → q.dst = some t → j < i ∧ Region.waitsFor .any l.toArray i j = true := by
    intro i o hi ho t ht j q hj hq hd
    have h := all_range hreads hi
    simp only [List.getElem?_toArray, ho, Option.map_some, Option.getD_some] at h
    have h2 := all_range (List.all_eq_true.1 h t ht) hj
    simpa [hq, hd] using h2
  have main : ∀ (f : Nat) (s : Array Bool) (vs : Nat → Value) (a : Act) (w : World), FreeInv l.toArray n K a0 Φ C s vs a w → (List.range n).countP (fun i => !s.getD i false) = f → wpAny P .any l.toArray Q (f + (l.length - n)) s a w := by
    intro f
    induction f with
    | zero =>
      intro s vs a w inv hf
      have hall : ∀ i, i < n → s.getD i false = true := by
        intro i hi
        have := List.countP_eq_zero.1 hf i (List.mem_range.2 hi)
        simpa using this
      have hcan : s = canon l.length n := by
        refine Array.ext ?_ fun i h1 h2 => ?_
        · rw [inv.head.size]; simp [canon]
        · have hsz : s.size = l.length := by rw [inv.head.size]; simp
          by_cases hi : i < n
          · have := hall i hi
            simp [h1] at this
            rw [this]; simp [canon, hi]
          · have := inv.head.tail i (by omega) (by simpa using (by omega : i < l.length))
            simp [h1] at this
            rw [this]; simp [canon, hi]
      have ha : a = puts (l.take n) 0 vs a0 := by
        refine act_ext (by rw [inv.size, puts_size]) (fun d hd => ?_) (by rw [inv.defers, puts_defers])
        by_cases hex : ∃ i o, i < n ∧ l[i]? = some o ∧ o.dst = some d
        · obtain ⟨i, o, hi, ho, hod⟩ := hex
          rw [inv.done i o d (by simpa using ho) hi (hall i hi) hod (by rw [← inv.size]; exact hd)]
          rw [puts_done vs (l.take n) d 0 a0 i o (by rw [List.getElem?_take_of_lt hi]; exact ho) hod (by rw [← inv.size]; exact hd) (fun j q hj hq => ?_)]
          · simp
          · have hjn : j < n := by
              have := (List.getElem?_eq_some_iff.1 hj).1
              simp at this; omega
            rw [List.getElem?_take_of_lt hjn] at hj
            exact ((hdst i o hi ho).2 j q hjn hj d hod hq).symm
        · rw [inv.rest d (fun i o ho hi _ hod => hex ⟨i, o, hi, by simpa using ho, hod⟩), puts_rest]
          intro o ho hod
          obtain ⟨j, hj⟩ := List.mem_iff_getElem?.1 ho
          have hjn : j < n := by
            have := (List.getElem?_eq_some_iff.1 hj).1
            simp at this; omega
          rw [List.getElem?_take_of_lt hjn] at hj
          exact hex ⟨j, o, hjn, hj, hod⟩
      rw [Nat.zero_add]
      have hlen : (l.drop n).length = l.length - n := by simp
      have := wpAny_of_seq (ops := l.toArray) (md := .any) (Q' := Q) (l.drop n) n s a w (fun j => by simp [List.getElem?_drop]) (by rw [hlen, hcan]; exact hseq) (by rw [ha]; exact hend vs w inv.cls (fun i hi hk => inv.vals i hi (hall i hi) (fun k hkn _ => hk k hkn)))
      rwa [hlen] at this
    | succ f ih =>
      intro s vs a w inv hf
      have hex : ∃ i, i < n ∧ s.getD i false = false := by
        refine Classical.byContradiction fun h => ?_
        have : (List.range n).countP (fun i => !s.getD i false) = 0 := List.countP_eq_zero.2 fun i hi => by
          cases hc : s.getD i false
          · exact absurd ⟨i, List.mem_range.1 hi, hc⟩ h
          · simp
        omega
      have hsz : s.size = l.length := by rw [inv.head.size]; simp
      obtain ⟨k, ⟨hkn, hks⟩, hmin⟩ : ∃ k, (k < n ∧ s.getD k false = false) ∧ ∀ j, j < k → ¬ (j < n ∧ s.getD j false = false) := by
        obtain ⟨i, hi⟩ := hex
        induction i using Nat.strongRecOn with
        | _ i ihi =>
          by_cases h : ∃ j, j < i ∧ (j < n ∧ s.getD j false = false)
          · obtain ⟨j, hj, hj2⟩ := h; exact ihi j hj hj2
          · exact ⟨i, hi, fun j hj hj2 => h ⟨j, hj, hj2⟩⟩
      have hkt : s.getD k true = false := getD_in (by omega) hks
      have hkr : k ∈ Region.ready .any l.toArray s := by
        rw [mem_ready]
        refine ⟨hkt, l[k]'(by omega), by simp, fun e he hb => ?_⟩
        have h := all_range (n := l.toArray.size) (by simpa [backB] using hback) (i := k) (by simp; omega)
        simp only [List.getElem?_toArray, List.getElem?_eq_getElem (by omega : k < l.length), Option.map_some, Option.getD_some] at h
        have h2 := Array.all_eq_true_iff_forall_mem.1 h e he
        simp only [hb, Bool.not_true, Bool.false_or, decide_eq_true_eq] at h2
        cases hc : s.getD e.on false
        · exact absurd ⟨by omega, hc⟩ (hmin e.on h2)
        · rfl
      rw [show f + 1 + (l.length - n) = (f + (l.length - n)) + 1 by omega]
      refine ⟨fun h0 => absurd h0 (List.ne_nil_of_mem hkr), fun i hi => ?_⟩
      have hin : i < n := Nat.lt_of_not_le fun h => absurd hi (tail_waits hsink hchain (by simpa using hn) inv.head _ k rfl hkn hkt i h)
      obtain ⟨hun, o, ho', hdeps⟩ := mem_ready.1 hi
      have ho : l[i]? = some o := by simpa using ho'
      obtain ⟨hg, huniq⟩ := hdst i o hin ho
      have hunf : s.getD i false = false := getD_both hun
      -- the frame, as far as this operation looks at it
      have hframe : ∀ t, t ∈ o.looksAt l.toArray → a.tmps.getD t undef = (puts (l.take i) 0 vs a0).tmps.getD t undef := by
        intro t ht
        by_cases hex2 : ∃ j q, j < n ∧ l[j]? = some q ∧ q.dst = some t
        · obtain ⟨j, q, hj, hq, hqt⟩ := hex2
          obtain ⟨hji, hwt⟩ := hrd i o hin ho t ht j q hj hq hqt
          obtain ⟨o2, ho2, e, he, hb, hon⟩ := Region.waitsFor_spec hwt
          have e2 : o2 = o := Option.some.inj (ho2.symm.trans ho')
          subst e2
          have hdj : s.getD j false = true := by rw [← hon]; exact hdeps e he hb
          by_cases hts : t < a0.tmps.size
          · rw [inv.done j q t (by simpa using hq) hj hdj hqt hts]
            rw [puts_done vs (l.take i) t 0 a0 j q (by rw [List.getElem?_take_of_lt hji]; exact hq) hqt hts (fun j2 q2 hj2 hq2 => ?_)]
            · simp
            · have hj2i : j2 < i := by
                have := (List.getElem?_eq_some_iff.1 hj2).1
                simp at this; omega
              rw [List.getElem?_take_of_lt hj2i] at hj2
              exact ((hdst j q hj hq).2 j2 q2 (by omega) hj2 t hqt hq2).symm
          · rw [getD_out _ _ (by rw [inv.size]; exact hts), getD_out _ _ (by rw [puts_size]; exact hts)]
        · rw [inv.rest t (fun j q hq hj _ hqt => hex2 ⟨j, q, hj, by simpa using hq, hqt⟩), puts_rest]
          intro q hq hqt
          obtain ⟨j, hj⟩ := List.mem_iff_getElem?.1 hq
          have hjn : j < i := by
            have := (List.getElem?_eq_some_iff.1 hj).1
            simp at this; omega
          rw [List.getElem?_take_of_lt hjn] at hj
          exact hex2 ⟨j, q, by omega, hj, hqt⟩
      have hexec : execOp a.eval o = execOp (puts (l.take i) 0 vs a0).eval o := by
        refine execOp_congr o (fun cs b => Region.noSelect_spec hsel i o cs b ho') fun x hx => ?_
        cases x with
        | tmp t => exact hframe t (List.mem_append_left _ (List.mem_filterMap.2 ⟨.tmp t, by simpa using hx, rfl⟩))
        | _ => rfl
      have hgo := hop i o hin ho vs w inv.cls (fun j hji hwt hkk => by
        obtain ⟨o2, ho2, e, he, hb, hon⟩ := Region.waitsFor_spec hwt
        have e2 : o2 = o := Option.some.inj (ho2.symm.trans ho')
        subst e2
        refine inv.vals j (by omega) (by rw [← hon]; exact hdeps e he hb) (fun k hkn hkd => hkk k hkn fun e3 => ?_)
        subst e3
        rw [hunf] at hkd; cases hkd)
      unfold wpOp
      simp only [ho']
      rw [if_pos (by simp [Region.wanted, hg])]
      refine .inl (hgo.wp hexec fun v w2 ⟨hv, hc2, hs2⟩ => ?_)
      have hsi : i < s.size := by omega
      refine ih (s.setIfInBounds i true) (fun j => if j = i then v else vs j) (a.put o.dst v) w2 ⟨inv.head.set hi hin, hc2, fun j hj hdj hkk => ?_, by rw [put_defers', inv.defers], by rw [put_size, inv.size], fun j q d hq hj hdj hqd hds => ?_, fun d hd => ?_⟩ ?_
      · by_cases e : j = i
        · subst e; simpa using hv
        · simp only [e, if_false]
          exact hst i j _ w w2 (Ne.symm e) (hkk i hin (getD_set_self hsi)) (inv.vals j hj (getD_set_iff hdj e) (fun k hkn hkd => hkk k hkn (getD_set_true hkd))) hs2
      · have hq' : l[j]? = some q := by simpa using hq
        by_cases e : j = i
        · subst e
          have e2 : q = o := Option.some.inj (hq.symm.trans ho')
          subst e2
          rw [hqd, put_same _ _ _ (by rw [inv.size]; exact hds)]; simp
        · rw [put_other _ _ _ _ (fun h => e (huniq j q hj hq' d h hqd).symm)]
          simp only [e, if_false]
          exact inv.done j q d hq hj (getD_set_iff hdj e) hqd hds
      · rw [put_other _ _ _ _ (fun h => hd i o ho' hin (getD_set_self hsi) h)]
        exact inv.rest d (fun j q hq hj hdj => hd j q hq hj (getD_set_true hdj))
      · have hperm : (List.range n).countP (fun j => !s.getD j false) = (List.range n).countP (fun j => !(s.setIfInBounds i true).getD j false) + 1 := by
          have hgen : ∀ m, i < m ∨ m ≤ i → (List.range m).countP (fun j => !s.getD j false) = (List.range m).countP (fun j => !(s.setIfInBounds i true).getD j false) + (if i < m then 1 else 0) := by
            intro m
            induction m with
            | zero => intro _; simp
            | succ m ihm =>
              intro _
              have h1 := ihm (by omega)
              rw [List.range_succ, List.countP_append, List.countP_append, h1, List.countP_singleton, List.countP_singleton]
              by_cases e : i = m
              · subst e
                rw [getD_set_self hsi, hunf]
                rw [if_neg (by omega : ¬ i < i), if_pos (by omega : i < i + 1)]
                simp
              · rw [show (s.setIfInBounds i true).getD m false = s.getD m false from getD_set_ne false e]
                have : (i < m + 1) ↔ (i < m) := by omega
                simp only [this]
                omega
          have := hgen n (.inl hin)
          rwa [if_pos hin] at this
        omega
  refine wp_region_any hm ?_
  have h0 := main n (Array.replicate l.toArray.size false) (fun _ => undef) a0 { w0 with drawn := w0.drawn + 1 }
    ⟨⟨by simp, fun j oj _ hl => (by rw [getD_replicate_false] at hl; cases hl), fun t _ ht => getD_in (by simpa using ht) (getD_replicate_false _ _)⟩, hC,
      fun i _ h _ => (by rw [getD_replicate_false] at h; cases h), rfl, rfl, fun i o d _ _ h => (by rw [getD_replicate_false] at h; cases h), fun d _ => rfl⟩ (by
      have : (fun i => !(Array.replicate l.toArray.size false).getD i false) = fun _ => true := by funext i; rw [getD_replicate_false]; rfl
      rw [this]; simp)
  rwa [show n + (l.length - n) = l.toArray.size by simp; omega] at h0
end
end Go.Proofs.Grow
