/- Nothing is claimed here: one operation beside its abstract view: what it gives, and which objects it looks at or changes. -/
import Derived.Test.YteppnjgobaggaaaAm1
namespace Go.Am
set_option linter.unusedSimpArgs false
set_option linter.unusedVariables false
set_option linter.unnecessarySimpa false
set_option linter.unusedSectionVars false
set_option maxRecDepth 100000
open Go Go.RowKit Go.Proofs.Grow

def upT (T : Nat → Option AV) (d : Option Tmp) (x : AV) : Nat → Option AV := fun t => if d = some t then some x else T t
def upM (M : Nat → Option AO) (wr : List (Nat × AO)) : Nat → Option AO := fun g => match lk wr g with
  | some o => some o
  | none => M g
theorem upM_nil (M : Nat → Option AO) : upM M [] = M := rfl

section
variable {cx : Cx} {μ μ' : Nat → Option Value} {T T' : Nat → Option AV} {M M' : Nat → Option AO} {a : Act} {w w2 : World}

theorem InvM.put {x : AV} {v : Value} {d : Option Tmp} (h : InvM cx μ T M a w) (hv : VR (Ht cx μ M) μ w x v) (hd : ∀ t, d = some t → t < cx.N) : InvM cx μ (upT T d x) M (a.put d v) w := by
  refine ⟨fun t y ht => ?_, h.ob, h.inj, h.lo, h.fr, h.free, h.hs, h.base, by rw [put_size]; exact h.sz, by rw [put_defers']; exact h.df⟩
  unfold upT at ht
  by_cases e : d = some t
  · rw [if_pos e] at ht
    obtain rfl : x = y := by simpa using ht
    subst e
    rw [put_same _ _ _ (by rw [h.sz]; exact hd t rfl)]
    exact hv
  · rw [if_neg e] at ht
    rw [put_other _ _ _ _ e]
    exact h.tm t y ht

theorem InvM.same (h : InvM cx μ T M a w) (h1 : w2.heap = w.heap) (h2 : w2.os = w.os) (h3 : w2.tape = w.tape) (h4 : w2.output = w.output) : InvM cx μ T M a w2 :=
  h.next (B := fun _ => False) ⟨h2, h3, h4, by rw [h1]; exact Nat.le_refl _, fun k _ _ => by rw [h1]⟩ (fun _ hb => hb.elim) (fun _ _ hk => hk) (fun _ hb => .inl hb)
    (fun g o hg => .inl ⟨hg, fun _ _ _ _ _ hb => hb⟩) h.inj h.free
theorem InvM.drew (h : InvM cx μ T M a w) : InvM cx μ T M a { w with drawn := w.drawn + 1 } := h.same rfl rfl rfl rfl

def upμ (μ : Nat → Option Value) (g : Nat) (v : Value) : Nat → Option Value := fun k => if k = g then some v else μ k
theorem upμ_old {g : Nat} {v : Value} (hg : μ g = none) : ∀ k u, μ k = some u → upμ μ g v k = some u := by
  intro k u hk
  unfold upμ
  rw [if_neg (fun e => by rw [e, hg] at hk; cases hk)]
  exact hk
theorem upμ_self (g : Nat) (v : Value) : upμ μ g v g = some v := by simp [upμ]
theorem upM_one_self (g : Nat) (o : AO) : upM M [(g, o)] g = some o := by simp [upM, lk]
theorem upM_one_other {g k : Nat} (o : AO) (h : k ≠ g) : upM M [(g, o)] k = M k := by
  have : Nat.beq g k = false := by
    cases hb : Nat.beq g k
    · rfl
    · exact absurd (Nat.eq_of_beq_eq_true hb).symm h
  simp [upM, lk, this]

/-- A new object. -/
theorem InvM.new (h : InvM cx μ T M a w) {g : Nat} {o : AO} {v : Value} (hg : M g = none) (hch : Chg (fun _ => False) w w2) (hl : o.live = true) (hblk : ∀ b, blkOf v = some b → w.heap.size ≤ b ∧ b < w2.heap.size)
    (hor : (∀ H', Keeps (Ht cx μ M) H' w w2 → (∀ b, H' b → Ht cx μ M b ∨ w.heap.size ≤ b) → OR H' (upμ μ g v) w2 g o)) : InvM cx (upμ μ g v) T (upM M [(g, o)]) a w2 := by
  have hμ : ∀ k u, μ k = some u → upμ μ g v k = some u := upμ_old (h.free g hg)
  have hhot : ∀ b, Hot (upμ μ g v) (upM M [(g, o)]) b → Hot μ M b ∨ (w.heap.size ≤ b ∧ b < w2.heap.size) := by
    rintro b ⟨k, q, u, h1, h2, h3, h4⟩
    by_cases e : k = g
    · subst e
      rw [upμ_self] at h3
      obtain rfl : v = u := by simpa using h3
      exact .inr (hblk b h4)
    · rw [upM_one_other _ e] at h1
      have : upμ μ g v k = μ k := by simp [upμ, e]
      rw [this] at h3
      exact .inl ⟨k, q, u, h1, h2, h3, h4⟩
  refine h.next hch (fun _ hb => hb.elim) hμ hhot (fun k q hk => ?_) ?_ (fun k hk => ?_)
  · by_cases e : k = g
    · subst e
      rw [upM_one_self] at hk
      obtain rfl : o = q := by simpa using hk
      exact .inr (hor _ (h.keeps hch (fun _ hb => hb.elim) (fun b hb => (hhot b hb).imp id (·.1))) (fun b hb => by
        rcases hb with hb | hb
        · exact .inl (.inl hb)
        · exact (hhot b hb).imp .inr (·.1)))
    · rw [upM_one_other _ e] at hk
      exact .inl ⟨hk, fun _ _ _ _ _ hb => hb⟩
  · intro k k' q q' u u' b h1 h2 h3 h4 h5 h6 h7 h8
    have old : ∀ k q u, k ≠ g → upM M [(g, o)] k = some q → q.live = true → upμ μ g v k = some u → blkOf u = some b → M k = some q ∧ μ k = some u ∧ b < w.heap.size := by
      intro k q u e hq hl2 hu hb
      rw [upM_one_other _ e] at hq
      have e2 : upμ μ g v k = μ k := by simp [upμ, e]
      rw [e2] at hu
      exact ⟨hq, hu, (h.lo b ⟨k, q, u, hq, hl2, hu, hb⟩).1⟩
    have new : ∀ u, upμ μ g v g = some u → blkOf u = some b → w.heap.size ≤ b := by
      intro u hu hb
      rw [upμ_self] at hu
      obtain rfl : v = u := by simpa using hu
      exact (hblk b hb).1
    by_cases e : k = g <;> by_cases e' : k' = g
    · rw [e, e']
    · subst e
      have := new u h5 h7
      have := (old k' q' u' e' h3 h4 h6 h8).2.2
      omega
    · subst e'
      have := new u' h6 h8
      have := (old k q u e h1 h2 h5 h7).2.2
      omega
    · obtain ⟨a1, a2, _⟩ := old k q u e h1 h2 h5 h7
      obtain ⟨b1, b2, _⟩ := old k' q' u' e' h3 h4 h6 h8
      exact h.inj k k' q q' u u' b a1 h2 b1 h4 a2 b2 h7 h8
  · by_cases e : k = g
    · subst e; rw [upM_one_self] at hk; cases hk
    · rw [upM_one_other _ e] at hk
      simp only [upμ, e, if_false]; exact h.free k hk

/-- An object is written in place. -/
theorem InvM.write (h : InvM cx μ T M a w) {g : Nat} {o o' : AO} {v : Value} {b : Nat} (hg : M g = some o) (hl : o.live = true) (hl' : o'.live = true) (hv : μ g = some v) (hb : blkOf v = some b) (hch : Chg (fun k => k = b) w w2)
    (hor : (∀ H', Keeps (Ht cx μ M) H' w w2 → (∀ b, H' b → Ht cx μ M b) → OR H' μ w2 g o')) : InvM cx μ T (upM M [(g, o')]) a w2 := by
  have hhot : ∀ c, Hot μ (upM M [(g, o')]) c → Hot μ M c := by
    rintro c ⟨k, q, u, h1, h2, h3, h4⟩
    by_cases e : k = g
    · subst e; exact ⟨k, o, u, hg, hl, h3, h4⟩
    · rw [upM_one_other _ e] at h1; exact ⟨k, q, u, h1, h2, h3, h4⟩
  have hB : ∀ c, c = b → Hot μ M c := fun c hc => by subst hc; exact ⟨g, o, v, hg, hl, hv, hb⟩
  refine h.next hch hB (fun _ _ hk => hk) (fun c hc => .inl (hhot c hc)) (fun k q hk => ?_) ?_ (fun k hk => ?_)
  · by_cases e : k = g
    · subst e
      rw [upM_one_self] at hk
      obtain rfl : o' = q := by simpa using hk
      exact .inr (hor _ (h.keeps hch hB (fun c hc => .inl (hhot c hc))) (fun c hc => hc.imp id (hhot c)))
    · rw [upM_one_other _ e] at hk
      exact .inl ⟨hk, fun hlq u c hu hc e2 => by subst e2; exact e (h.inj k g q o u v c hk hlq hg hl hu hv hc hb)⟩
  · intro k k' q q' u u' c h1 h2 h3 h4 h5 h6 h7 h8
    have old : ∀ k q, upM M [(g, o')] k = some q → q.live = true → ∃ q', M k = some q' ∧ q'.live = true := by
      intro k q hq hlq
      by_cases e : k = g
      · subst e; exact ⟨o, hg, hl⟩
      · rw [upM_one_other _ e] at hq; exact ⟨q, hq, hlq⟩
    obtain ⟨p, p1, p2⟩ := old k q h1 h2
    obtain ⟨p', p1', p2'⟩ := old k' q' h3 h4
    exact h.inj k k' p p' u u' c p1 p2 p1' p2' h5 h6 h7 h8
  · by_cases e : k = g
    · subst e; rw [upM_one_self] at hk; cases hk
    · rw [upM_one_other _ e] at hk; exact h.free k hk

/-- An object is given up. -/
theorem InvM.kill (h : InvM cx μ T M a w) (g : Nat) (hg : M g ≠ none) : InvM cx μ T (upM M [(g, .dead)]) a w := by
  have hold : ∀ k q, upM M [(g, .dead)] k = some q → q.live = true → M k = some q := by
    intro k q hk hl
    by_cases e : k = g
    · subst e; rw [upM_one_self] at hk; obtain rfl : AO.dead = q := by simpa using hk
      cases hl
    · rwa [upM_one_other _ e] at hk
  have hhot : ∀ c, Hot μ (upM M [(g, .dead)]) c → Hot μ M c := by
    rintro c ⟨k, q, u, h1, h2, h3, h4⟩
    exact ⟨k, q, u, hold k q h1 h2, h2, h3, h4⟩
  refine h.next (B := fun _ => False) (Chg.refl _ _) (fun _ hb => hb.elim) (fun _ _ hk => hk) (fun c hc => .inl (hhot c hc)) (fun k q hk => ?_) ?_ (fun k hk => ?_)
  · by_cases e : k = g
    · subst e; rw [upM_one_self] at hk; obtain rfl : AO.dead = q := by simpa using hk
      exact .inr trivial
    · rw [upM_one_other _ e] at hk; exact .inl ⟨hk, fun _ _ _ _ _ hb => hb⟩
  · intro k k' q q' u u' c h1 h2 h3 h4 h5 h6 h7 h8
    exact h.inj k k' q q' u u' c (hold k q h1 h2) h2 (hold k' q' h3 h4) h4 h5 h6 h7 h8
  · by_cases e : k = g
    · subst e; rw [upM_one_self] at hk; cases hk
    · rw [upM_one_other _ e] at hk; exact h.free k hk
end

/-- What one operation does: the value, the objects that it looks at, those that it makes or changes. -/
structure En where
  val : AV
  tch : List Nat
  wr : List (Nat × AO)

def opTs (o : Oper) : List Nat := o.op.operands.toList.filterMap fun x => match x with
  | .tmp t => some t
  | _ => none

def StepOK (P : Program) (o : Oper) (T : Nat → Option AV) (M : Nat → Option AO) (e : En) : Prop :=
  (∀ p ∈ e.wr, p.1 ∈ e.tch) ∧ ∀ (cx : Cx) (T' : Nat → Option AV) (M' : Nat → Option AO) (a : Act) (w : World), (∀ d, o.dst = some d → d < cx.N) → (∀ t ∈ opTs o, T' t = T t) → (∀ g ∈ e.tch, M' g = M g) →
    Inv cx T' M' a w → GivesF P o a w (fun v w2 => Inv cx (upT T' o.dst e.val) (upM M' e.wr) (a.put o.dst v) w2)

def cvA : Value → AV
  | .agg cs => .agg (cs.toList.map fun c => .d (.v c))
  | v => .d (.v v)
def evA (T : Nat → Option AV) : Operand → Option AV
  | .tmp t => T t
  | .const v => match cvA v with
    | .d x => some (.d x)
    | .agg cs => some (.agg cs)
    | _ => none
  | .func f => some (.clo f [])
  | .global _ => none

theorem VR_cvA (H : Nat → Prop) (μ : Nat → Option Value) (w : World) (v : Value) : VR H μ w (cvA v) v := by
  unfold cvA
  split
  · rename_i cs
    have := VR.agg (H := H) (μ := μ) (w := w) (cs := cs.toList.map fun c => .d (.v c)) (vs := cs.toList) (by simp) (fun i c v hc hv => by
      rw [List.getElem?_map, hv] at hc
      obtain rfl : AV.d (.v v) = c := by simpa using hc
      exact .d (.v _))
    simpa using this
  · exact .d (.v _)

section
variable {P : Program} {cx : Cx} {μ : Nat → Option Value} {T T' : Nat → Option AV} {M M' : Nat → Option AO} {a : Act} {w : World} {o : Oper}
theorem evA_local {x : Operand} (hT : ∀ t ∈ opTs o, T' t = T t) (hx : x ∈ o.op.operands.toList) : evA T' x = evA T x := by
  cases x with
  | tmp t => exact hT t (List.mem_filterMap.2 ⟨.tmp t, hx, rfl⟩)
  | _ => rfl
theorem InvM.ev (h : InvM cx μ T' M a w) {x : Operand} {y : AV} (hT : ∀ t ∈ opTs o, T' t = T t) (hx : x ∈ o.op.operands.toList) (hy : evA T x = some y) : VR (Ht cx μ M) μ w y (a.eval x) := by
  rw [← evA_local hT hx] at hy
  cases x with
  | tmp t => exact h.tm t y hy
  | const v =>
    have e : cvA v = y := by
      simp only [evA] at hy
      cases hc : cvA v <;> rw [hc] at hy <;> simp at hy <;> exact hy
    rw [← e]; exact VR_cvA _ _ _ _
  | func f => obtain rfl : AV.clo f [] = y := by simpa [evA] using hy
              exact .clo (vs := []) rfl fun i c v hc => by simp at hc
  | global g => simp [evA] at hy

/-- An operation that reads alone. -/
theorem step_read {val : AV} (tch : List Nat) (h : ∀ (cx : Cx) μ T' M' a w, InvM cx μ T' M' a w → (∀ t ∈ opTs o, T' t = T t) → (∀ g ∈ tch, M' g = M g) → ∃ v, (execOp a.eval o).run P w = .ok (.value v) w ∧ VR (Ht cx μ M') μ w val v) :
    StepOK P o T M ⟨val, tch, []⟩ := by
  refine ⟨fun p hp => by simp at hp, fun cx T' M' a w hd hT hM ⟨μ, hI⟩ => ?_⟩
  obtain ⟨v, h1, h2⟩ := h cx μ T' M' a w hI hT hM
  unfold GivesF
  rw [h1]
  exact ⟨μ, (hI.put h2 hd)⟩
/-- An operation that gives a value, and a world. -/
theorem step_any {val : AV} {tch : List Nat} {wr : List (Nat × AO)} (hw : ∀ p ∈ wr, p.1 ∈ tch)
    (h : ∀ (cx : Cx) μ T' M' a w, InvM cx μ T' M' a w → (∀ t ∈ opTs o, T' t = T t) → (∀ g ∈ tch, M' g = M g) → ∃ v w2 μ', (execOp a.eval o).run P w = .ok (.value v) w2 ∧ InvM cx μ' T' (upM M' wr) a w2 ∧ VR (Ht cx μ' (upM M' wr)) μ' w2 val v) :
    StepOK P o T M ⟨val, tch, wr⟩ := by
  refine ⟨hw, fun cx T' M' a w hd hT hM ⟨μ, hI⟩ => ?_⟩
  obtain ⟨v, w2, μ', h1, h2, h3⟩ := h cx μ T' M' a w hI hT hM
  unfold GivesF
  rw [h1]
  exact ⟨μ', (h2.put h3 hd)⟩
/-- An operation that gives no value. -/
theorem step_skip {tch : List Nat} {wr : List (Nat × AO)} (hw : ∀ p ∈ wr, p.1 ∈ tch)
    (h : ∀ (cx : Cx) μ T' M' a w, InvM cx μ T' M' a w → (∀ t ∈ opTs o, T' t = T t) → (∀ g ∈ tch, M' g = M g) → ∃ w2 μ', (execOp a.eval o).run P w = .ok .skip w2 ∧ InvM cx μ' T' (upM M' wr) a w2) :
    StepOK P o T M ⟨.d (.v undef), tch, wr⟩ := by
  refine ⟨hw, fun cx T' M' a w hd hT hM ⟨μ, hI⟩ => ?_⟩
  obtain ⟨w2, μ', h1, h2⟩ := h cx μ T' M' a w hI hT hM
  unfold GivesF
  rw [h1]
  exact ⟨μ', (h2.put (.d (.v _)) hd)⟩
end
end Go.Am
