/- Nothing is claimed here: general laws on worlds that only grow, and on a region whose head reads and calls, and whose tail is in one order. -/
import Derived.Lib.QuietBelow
import Derived.StillTail
import Derived.StillTailTactics
import Derived.WalkKit
import Derived.Handy
namespace Go.Proofs.Grow
set_option linter.unusedSimpArgs false
set_option linter.unusedVariables false
set_option linter.unnecessarySimpa false
set_option linter.unusedSectionVars false
set_option maxRecDepth 100000
open Go Go.RowKit

/-- Nothing that was there has changed. -/
def Ex (w w' : World) : Prop := Below w.heap.size w w'
theorem Ex.refl (w : World) : Ex w w := Below.refl _ _
theorem Ex.trans {a b c : World} (h : Ex a b) (k : Ex b c) : Ex a c := Below.trans h (Below.mono k h.size)
theorem Ex.alloc {a b : World} (h : Ex a b) (o : Obj) : Ex a (b.alloc o) := Below.alloc h h.size o
theorem Ex.drew {a b : World} (h : Ex a b) : Ex a b.drew := Below.drew h
theorem Ex.sz {W w1 : World} (hb : Ex W w1) : W.heap.size ≤ w1.heap.size := hb.size
theorem Ex.rules {W w1 : World} (hb : Ex W w1) : (∀ b o, b < W.heap.size → w1.cell? ⟨b, o, none⟩ = W.cell? ⟨b, o, none⟩) ∧ (∀ b o, b < W.heap.size → w1.frozen? ⟨b, o, none⟩ = W.frozen? ⟨b, o, none⟩) :=
  ⟨fun b o h => Below.cell hb (p := ⟨b, o, none⟩) h, fun b o h => Below.frozen hb (p := ⟨b, o, none⟩) h⟩

section
variable {P : Program} {ops : Array Oper} {md : Region.Mode} {C : World → Prop}

/-- Whatever order is picked for the first n operations (quiet in the class C); L is asked when they are through. -/
def heads (P : Program) (md : Region.Mode) (ops : Array Oper) (C : World → Prop) (n : Nat) (L : Array Bool → Act → Prop) : Nat → Array Bool → Act → Prop
  | 0, s, a => L s a
  | f + 1, s, a => Region.ready md ops s ≠ [] ∧ ∀ i ∈ Region.ready md ops s, i < n ∧ qOp P ops C i (heads P md ops C n L f (s.setIfInBounds i true)) a

theorem any_of_heads {n g : Nat} {L : Array Bool → Act → Prop} {Q : Exit → Act → World → Prop} (hL : ∀ s a w, C w → L s a → wpAny P md ops Q g s a w) :
    ∀ (f : Nat) (s : Array Bool) (a : Act) (w : World), C w → heads P md ops C n L f s a → wpAny P md ops Q (f + g) s a w := by
  intro f
  induction f with
  | zero => intro s a w hw h; rw [Nat.zero_add]; exact hL _ _ _ hw h
  | succ f ih =>
    intro s a w hw h
    rw [show f + 1 + g = (f + g) + 1 by omega]
    exact ⟨fun h0 => absurd h0 h.1, fun i hi => wpOp_of_qOp hw (fun a' w' hw' h' => ih _ a' w' hw' h') (h.2 i hi).2⟩

theorem heads_first {n i : Nat} {oi : Oper} {v : Value} {L : Array Bool → Act → Prop} (hi : ops[i]? = some oi) (hsel : ∀ (j : Nat) (o : Oper) cs b, ops[j]? = some o → o.op ≠ .select cs b)
    (hs : Region.sinkB md ops n = true) (hc : Region.chainB md ops n = true) (hn : n < ops.size) (hin : i < n) (hdone : ∀ s a, L s a → ∀ j ∈ Region.ready md ops s, n ≤ j) :
    ∀ (f : Nat) (s : Array Bool) (a : Act), HeadInv md ops n s →
      (∀ j oj, ops[j]? = some oj → j ≠ i → s.getD j true = false → (∀ e ∈ oj.after, Region.binds md e = true → e.on ≠ i) → oi.apart ops oj = true) →
      i ∈ Region.ready md ops s → YieldsIn P ops C oi v a → heads P md ops C n L f (s.setIfInBounds i true) (a.put oi.dst v) → heads P md ops C n L (f + 1) s a := by
  intro f
  induction f with
  | zero =>
    intro s a inv _ hr hy H
    refine ⟨List.ne_nil_of_mem hr, fun j hj => ?_⟩
    by_cases hji : j = i
    · subst hji; exact ⟨hin, hy.qOp hi H⟩
    · have h1 := hdone _ _ H j (ready_mono hj hji)
      exact absurd hj (tail_waits hs hc hn inv _ i rfl hin (mem_ready.1 hr).1 j h1)
  | succ f ih =>
    intro s a inv hfree hr hy H
    refine ⟨List.ne_nil_of_mem hr, fun j hj => ?_⟩
    by_cases hji : j = i
    · subst hji; exact ⟨hin, hy.qOp hi H⟩
    have hjn : j < n := Nat.lt_of_not_le fun h => absurd hj (tail_waits hs hc hn inv _ i rfl hin (mem_ready.1 hr).1 j h)
    obtain ⟨hjun, oj, hoj, hall⟩ := mem_ready.1 hj
    have hnot : ∀ e ∈ oj.after, Region.binds md e = true → e.on ≠ i := by
      intro e he hb heq
      have h1 := hall e he hb
      rw [heq, getD_both (mem_ready.1 hr).1] at h1
      cases h1
    refine ⟨hjn, qOp_mono (fun a' h3 => ?_) (qOp_put hoj (hfree j oj hoj hji hjun hnot) (fun cs b => hsel i oi cs b hi) (fun cs b => hsel j oj cs b hoj) hy (H.2 j (ready_mono hj hji)).2)⟩
    refine ih (s.setIfInBounds j true) a' (inv.set hj hjn) (fun k ok hk hki hun hno => ?_) (ready_mono hr (Ne.symm hji)) h3.1 ?_
    · refine hfree k ok hk hki ?_ hno
      by_cases hjk : j = k
      · subst hjk; exact hjun
      · rw [getD_set_ne true hjk] at hun; exact hun
    · rw [Array.setIfInBounds_comm _ _ hji]; exact h3.2

theorem heads_lex {n g : Nat} {Lq : Act → Prop} (hsel : Region.noSelect ops = true) (hs : Region.sinkB md ops n = true) (hc : Region.chainB md ops n = true) (hn : n < ops.size) :
    ∀ (l : List Oper) (k : Nat) (s : Array Bool) (a : Act), (∀ j, j < l.length → l[j]? = ops[k + j]?) → k + l.length = n → HeadInv md ops n s →
    Region.lexHead md ops g l.length k s = true → wpQuiet P ops C Lq l a → heads P md ops C n (fun s' a' => Region.seqB md ops g n s' = true ∧ Lq a') l.length s a := by
  intro l
  induction l with
  | nil =>
    intro k s a _ hk _ hB h
    obtain rfl : k = n := by simpa using hk
    exact ⟨by simpa [Region.lexHead] using hB, h⟩
  | cons o l ih =>
    intro k s a hl hk inv hB h
    have h0 : ops[k]? = some o := by simpa using (hl 0 (by simp)).symm
    simp only [List.length_cons, Region.lexHead, Bool.and_eq_true] at hB hk
    have hr' : k ∈ Region.ready md ops s := by simpa using hB.1.1
    have hst : qOp P ops C k (wpQuiet P ops C Lq l) a := by unfold qOp; simp only [h0]; exact h
    obtain ⟨v, hy, hK⟩ := yieldsIn_of_qOp h0 hst
    exact heads_first h0 (Region.noSelect_spec hsel) hs hc hn (by omega) (fun s' a' hL => seqB_ready hL.1) l.length s a inv (Region.free_spec h0 hB.1.2) hr' hy
      (ih (k + 1) _ _ (fun j hj => by have := hl (j + 1) (by simp; omega); simpa [Nat.add_assoc, Nat.add_comm 1 j] using this) (by omega) (inv.set hr' (by omega)) hB.2 hK)

/-- A region that draws its order: n operations that read, or call what leaves a world of the class; then a tail in one order. -/
theorem region_head {id : Nat} {Q : Exit → Act → World → Prop} {a : Act} {w : World} {l : List Oper} (n : Nat) (hm : P.follows .mixedOrders = true) (hB : Region.lexTailB .any l.toArray n = true)
    (hC : C { w with drawn := w.drawn + 1 })
    (h : wpQuiet P l.toArray C (fun a' => ∀ w', C w' → wpList P l.toArray Q (l.drop n) a' w') (l.take n) a) : (Code.region id l.toArray true).wp P Q a w := by
  simp only [Region.lexTailB, Bool.and_eq_true, decide_eq_true_eq] at hB
  obtain ⟨⟨⟨⟨hsel, hn⟩, hs⟩, hc⟩, hlex⟩ := hB
  have htl : (l.take n).length = n := by have : n < l.length := by simpa using hn
                                         simp; omega
  have hdl : (l.drop n).length = l.toArray.size - n := by simp
  have inv0 : HeadInv .any l.toArray n (Array.replicate l.toArray.size false) :=
    ⟨by simp, fun j oj _ hl => (by rw [getD_replicate_false] at hl; cases hl), fun t _ ht => getD_in (by simpa using ht) (getD_replicate_false _ _)⟩
  have H := heads_lex (md := .any) (g := l.toArray.size - n) hsel hs hc hn (l.take n) 0 _ a (fun j hj => by
    have hj' : j < n := by rw [htl] at hj; exact hj
    simp [hj']) (by simpa using htl) inv0 (by rw [htl]; exact hlex) h
  refine wp_region_any hm ?_
  have := any_of_heads (Q := Q) (g := l.toArray.size - n) (fun s a' w' hw' hL => by
    have := wpAny_of_seq (md := .any) (Q' := Q) (l.drop n) n s a' w' (fun j => by simp [List.getElem?_drop]) (by rw [hdl]; exact hL.1) (hL.2 w' hw')
    rwa [hdl] at this) _ _ _ _ hC H
  rw [htl, show n + (l.toArray.size - n) = l.toArray.size by omega] at this
  exact this
end

/-- The class 'w grown'. -/
def In (w : World) (w' : World) : Prop := ∃ p : Regrown, w' = Sort.grow (redrawn w p.d) p.os
theorem In.ex {w w' : World} (h : In w w') : Ex w w' := by obtain ⟨p, rfl⟩ := h; exact below_regrown _ _ _
theorem Ex.in_ {w w' : World} (h : Ex w w') : In w w' := regrown_of_below h
/-- A callee's contract, met in a world of the class. -/
theorem quiet_ex {P : Program} {f : FuncId} {args : Array Value} {w : World} {d : Nat} {os : Array Obj} {v : Value}
    (h : Calls P f args (Sort.grow (redrawn w d) os) fun e w' => e = .returned v ∧ Ex (Sort.grow (redrawn w d) os) w') : Calls P f args (Sort.grow (redrawn w d) os) fun e w'' => e = .returned v ∧ ∃ p : Regrown, w'' = Sort.grow (redrawn w p.d) p.os :=
  Calls.regrown_of h
theorem region_head_in {P : Program} {id : Nat} {Q : Exit → Act → World → Prop} {a : Act} {w : World} {l : List Oper} (n : Nat) (hm : P.follows .mixedOrders = true) (hB : Region.lexTailB .any l.toArray n = true)
    (h : wpQuiet P l.toArray (fun w' => ∃ p : Regrown, w' = Sort.grow (redrawn w p.d) p.os) (fun a' => ∀ w', (∃ p : Regrown, w' = Sort.grow (redrawn w p.d) p.os) → wpList P l.toArray Q (l.drop n) a' w') (l.take n) a) : (Code.region id l.toArray true).wp P Q a w :=
  region_head n hm hB ⟨⟨w.drawn + 1, #[]⟩, by rw [Sort.grow_empty]; rfl⟩ h
theorem grow_ex (w : World) (d : Nat) (os : Array Obj) : Ex w (Sort.grow (redrawn w d) os) := below_regrown w d os
theorem cell_grow (w : World) (d : Nat) (os : Array Obj) (b o : Nat) (h : b < w.heap.size) : (Sort.grow (redrawn w d) os).cell? ⟨b, o, none⟩ = w.cell? ⟨b, o, none⟩ :=
  (below_regrown w d os).cell (p := ⟨b, o, none⟩) h
theorem frozen_grow (w : World) (d : Nat) (os : Array Obj) (b o : Nat) (h : b < w.heap.size) : (Sort.grow (redrawn w d) os).frozen? ⟨b, o, none⟩ = w.frozen? ⟨b, o, none⟩ :=
  (below_regrown w d os).frozen (p := ⟨b, o, none⟩) h
attribute [go_sem] cell_grow frozen_grow

/-- The element at a place. -/
def nth {α : Type} [Inhabited α] (l : List α) (k : Nat) : α := l.getD k default
theorem drop_nth {α : Type} [Inhabited α] (l : List α) (k : Nat) (h : k < l.length) : l.drop k = nth l k :: l.drop (k + 1) := by
  rw [List.drop_eq_getElem_cons h]; simp [nth, h]
theorem nth_getElem {α : Type} [Inhabited α] (l : List α) (k : Nat) (h : k < l.length) : nth l k = l[k] := by simp [nth, h]
theorem nth_mem {α : Type} [Inhabited α] (l : List α) (k : Nat) (h : k < l.length) : nth l k ∈ l := by rw [nth_getElem l k h]; exact List.getElem_mem h

theorem Ex.setCell {a b : World} (h : Ex a b) {p : Addr} (hp : a.heap.size ≤ p.block) (v : Value) : Ex a (b.setCell p v) := Below.setCell h hp v
theorem Ex.lt {W w1 : World} (h : Ex W w1) {b : Nat} (hb : b < W.heap.size) : b < w1.heap.size := Nat.lt_of_lt_of_le hb h.size
theorem Ex.at_ {W w1 : World} (h : Ex W w1) {b : Nat} (hb : b < W.heap.size) : w1.heap[b]? = W.heap[b]? := h.block b hb

/-- Block b is these cells, none of them frozen. -/
def Box (w : World) (b : Nat) (vs : List Value) (t : TypeId) : Prop := w.heap[b]? = some (.cells vs.toArray t (0, 0))
theorem Box.lt {w : World} {b : Nat} {vs : List Value} {t : TypeId} (h : Box w b vs t) : b < w.heap.size := by
  unfold Box at h
  rcases Nat.lt_or_ge b w.heap.size with k | k
  · exact k
  · rw [Array.getElem?_eq_none k] at h; cases h
theorem Box.cell {w : World} {b : Nat} {vs : List Value} {t : TypeId} (h : Box w b vs t) (i : Nat) (v : Value) (hv : vs[i]? = some v) : w.cell? ⟨b, i, none⟩ = some v := by
  unfold World.cell?; unfold Box at h; simp [h, hv]
theorem Box.free {w : World} {b : Nat} {vs : List Value} {t : TypeId} (h : Box w b vs t) (o : Nat) : w.frozen? ⟨b, o, none⟩ = false := by
  unfold World.frozen?; unfold Box at h; simp [h]
theorem Box.alloc {w : World} {b : Nat} {vs : List Value} {t : TypeId} (h : Box w b vs t) (o : Obj) : Box (w.alloc o) b vs t := by
  have := h.lt
  unfold Box World.alloc at *; rw [← h]; simp [Array.getElem?_push]; omega
theorem Box.new (w : World) (vs : List Value) (t : TypeId) : Box (w.alloc (.cells vs.toArray t)) w.heap.size vs t := by
  unfold Box World.alloc; simp
theorem Box.new_at (w : World) (vs : List Value) (t : TypeId) (b : Nat) (hb : b = w.heap.size) : Box (w.alloc (.cells vs.toArray t)) b vs t := hb ▸ Box.new w vs t
theorem Box.ex {w w' : World} {b : Nat} {vs : List Value} {t : TypeId} (h : Box w b vs t) (hx : Ex w w') : Box w' b vs t := by
  have := hx.at_ h.lt; unfold Box at *; rw [this]; exact h
theorem Box.set {w : World} {b : Nat} {vs vs' : List Value} {t : TypeId} (h : Box w b vs t) (i : Nat) (v : Value) (e : vs.set i v = vs') : Box (w.setCell ⟨b, i, none⟩ v) b vs' t := by
  have hl := h.lt
  unfold Box at *
  subst e
  simp [World.setCell, Array.getElem?_modify, h]
theorem Box.other {w : World} {b : Nat} {vs : List Value} {t : TypeId} (h : Box w b vs t) {p : Addr} (hp : p.block ≠ b) (v : Value) : Box (w.setCell p v) b vs t := by
  unfold Box at *
  simp [World.setCell, Array.getElem?_modify, hp, h]
theorem Ex.after {a b c : World} (k : Ex b c) (h : Ex a b) : Ex a c := h.trans k
theorem Ex.setAt {a b : World} {c o : Nat} {s : Option Nat} (hp : a.heap.size ≤ c) (v : Value) (h : Ex a b) : Ex a (b.setCell ⟨c, o, s⟩ v) := h.setCell (p := ⟨c, o, s⟩) hp v
theorem Box.aside {w : World} {b c o : Nat} {s : Option Nat} {vs : List Value} {t : TypeId} (hp : c ≠ b) (v : Value) (h : Box w b vs t) : Box (w.setCell ⟨c, o, s⟩ v) b vs t := h.other (p := ⟨c, o, s⟩) hp v
theorem Box.later {w w' : World} {b : Nat} {vs : List Value} {t : TypeId} (hx : Ex w w') (h : Box w b vs t) : Box w' b vs t := h.ex hx

/-- Nothing that was there has changed but block b. -/
structure Exb (b : Nat) (w w' : World) : Prop where
  os : w'.os = w.os
  tape : w'.tape = w.tape
  output : w'.output = w.output
  size : w.heap.size ≤ w'.heap.size
  block : ∀ k, k < w.heap.size → k ≠ b → w'.heap[k]? = w.heap[k]?
theorem Exb.refl (b : Nat) (w : World) : Exb b w w := ⟨rfl, rfl, rfl, Nat.le_refl _, fun _ _ _ => rfl⟩
theorem Exb.of {b : Nat} {w w' : World} (h : Ex w w') : Exb b w w' := ⟨h.os, h.tape, h.output, h.size, fun k hk _ => h.block k hk⟩
theorem Exb.trans {b : Nat} {w w1 w2 : World} (h : Exb b w w1) (k : Exb b w1 w2) : Exb b w w2 :=
  ⟨k.os.trans h.os, k.tape.trans h.tape, k.output.trans h.output, Nat.le_trans h.size k.size, fun i hi hb => (k.block i (Nat.lt_of_lt_of_le hi h.size) hb).trans (h.block i hi hb)⟩
theorem Exb.after {b : Nat} {w w1 w2 : World} (k : Exb b w1 w2) (h : Exb b w w1) : Exb b w w2 := h.trans k
theorem Exb.afterx {b : Nat} {w w1 w2 : World} (k : Ex w1 w2) (h : Exb b w w1) : Exb b w w2 := h.trans (.of k)
theorem Exb.alloc {b : Nat} {w w1 : World} (h : Exb b w w1) (o : Obj) : Exb b w (w1.alloc o) := h.trans (.of ((Ex.refl w1).alloc o))
theorem Exb.drew {b : Nat} {w w1 : World} (h : Exb b w w1) : Exb b w w1.drew := h.trans (.of (Ex.refl w1).drew)
theorem Exb.set {b : Nat} {w w1 : World} (o : Nat) (v : Value) (h : Exb b w w1) : Exb b w (w1.setCell ⟨b, o, none⟩ v) :=
  h.trans ⟨rfl, rfl, rfl, by simp, fun k _ hb => by simp [World.setCell, Array.getElem?_modify, Ne.symm hb]⟩
theorem Exb.setNew {b c o : Nat} {w w1 : World} (hc : w.heap.size ≤ c) (v : Value) (h : Exb b w w1) : Exb b w (w1.setCell ⟨c, o, none⟩ v) :=
  ⟨h.os, h.tape, h.output, by simpa using h.size, fun k hk hb => by
    have : c ≠ k := by omega
    simp [World.setCell, Array.getElem?_modify, this]; exact h.block k hk hb⟩
/-- What changed block b alone, b being new, changed nothing that was there. -/
theorem Ex.exb {b : Nat} {w w1 w2 : World} (h : Ex w w1) (hb : w.heap.size ≤ b) (k : Exb b w1 w2) : Ex w w2 :=
  ⟨k.os.trans h.os, k.tape.trans h.tape, k.output.trans h.output, Nat.le_trans h.size k.size, fun i hi => (k.block i (Nat.lt_of_lt_of_le hi h.size) (by omega)).trans (h.block i hi)⟩
theorem Exb.rules {b : Nat} {W w1 : World} (hb : Exb b W w1) : (∀ c o, c < W.heap.size → c ≠ b → w1.cell? ⟨c, o, none⟩ = W.cell? ⟨c, o, none⟩) ∧ (∀ c o, c < W.heap.size → c ≠ b → w1.frozen? ⟨c, o, none⟩ = W.frozen? ⟨c, o, none⟩) :=
  ⟨fun c o h hc => by simp only [World.cell?]; rw [hb.block c h hc], fun c o h hc => by simp only [World.frozen?]; rw [hb.block c h hc]⟩
theorem Box.exb {b c : Nat} {w w' : World} {vs : List Value} {t : TypeId} (h : Box w c vs t) (hx : Exb b w w') (hc : c ≠ b) : Box w' c vs t := by
  have := hx.block c h.lt hc; unfold Box at *; rw [this]; exact h
theorem cell_lt {w : World} {c o : Nat} {v : Value} (h : w.cell? ⟨c, o, none⟩ = some v) : c < w.heap.size := by
  unfold World.cell? at h
  rcases Nat.lt_or_ge c w.heap.size with k | k
  · exact k
  · simp only [Array.getElem?_eq_none k] at h; cases h
theorem Ex.drewN {a b : World} (h : Ex a b) (n : Nat) : Ex a (b.drewN n) := ⟨h.os, h.tape, h.output, h.size, h.block⟩
theorem Exb.drewN {b : Nat} {w w1 : World} (h : Exb b w w1) (n : Nat) : Exb b w (w1.drewN n) := ⟨h.os, h.tape, h.output, h.size, h.block⟩
theorem Box.drewN {w : World} {b : Nat} {vs : List Value} {t : TypeId} (h : Box w b vs t) (n : Nat) : Box (w.drewN n) b vs t := h
theorem tmod_bd (x n : Int) (hn : 1 ≤ n) : -n < x.tmod n ∧ x.tmod n < n := by
  have h := Int.natAbs_tmod x n
  have k : x.natAbs % n.natAbs < n.natAbs := Nat.mod_lt _ (by omega)
  rw [← h] at k
  omega
theorem draw_bd (x n : Int) (hn : 1 ≤ n) (hn2 : n ≤ 1000000000000) : 0 ≤ (wrap64 (x.tmod n + n)).tmod n ∧ (wrap64 (x.tmod n + n)).tmod n ≤ n - 1 := by
  have h := tmod_bd x n hn
  rw [IntWalk.wrap64_in _ (by omega)]
  have h2 := tmod_bd (x.tmod n + n) n hn
  have h3 : 0 ≤ (x.tmod n + n).tmod n := Int.tmod_nonneg _ (by omega)
  omega
theorem Box.drew {w : World} {b : Nat} {vs : List Value} {t : TypeId} (h : Box w b vs t) : Box w.drew b vs t := h
end Go.Proofs.Grow
