import Derived.Lib.QuietBelow
import Derived.StillTail
import Derived.StillTailTactics
import Derived.WalkKit
import Derived.Handy
import Derived.Test.YtdhogcklnehdhaaGreatDoorRows
import Derived.WalkSpells
import Derived.WalkLawsBesides
import Derived.Lib.Hide
import Derived.BigQuiet
import Derived.Deep.QuietTactic
import Derived.Deep.LoopGhost
import Derived.Laws.AppendOwn
import Derived.OwnWalk
import Derived.Laws.RangeAny
namespace Go.Proofs.Grow
set_option linter.unusedSimpArgs false
set_option linter.unusedVariables false
set_option linter.unnecessarySimpa false
set_option linter.unusedSectionVars false
set_option maxRecDepth 100000
open Go Go.RowKit
/-- Nothing that was there has changed. -/
def Ex (w w' : World) : Prop := Below w.heap.size w w'
theorem Ex.refl (w : World) : Ex w w := Below.refl _ _
theorem Ex.trans {a b c : World} (h : Ex a b) (k : Ex b c) : Ex a c := Below.trans h (Below.mono k h.size)
theorem Ex.alloc {a b : World} (h : Ex a b) (o : Obj) : Ex a (b.alloc o) := Below.alloc h h.size o
theorem Ex.sz {W w1 : World} (hb : Ex W w1) : W.heap.size ≤ w1.heap.size := hb.size
theorem Ex.rules {W w1 : World} (hb : Ex W w1) : (∀ b o, b < W.heap.size → w1.cell? ⟨b, o, none⟩ = W.cell? ⟨b, o, none⟩) ∧ (∀ b o, b < W.heap.size → w1.frozen? ⟨b, o, none⟩ = W.frozen? ⟨b, o, none⟩) :=
  ⟨fun b o h => Below.cell hb (p := ⟨b, o, none⟩) h, fun b o h => Below.frozen hb (p := ⟨b, o, none⟩) h⟩
section
variable {P : Program} {ops : Array Oper} {md : Region.Mode} {C : World → Prop}
/-- Whatever order is picked for the first n operations (quiet in the class C); L is asked when they are through. -/
def heads (P : Program) (md : Region.Mode) (ops : Array Oper) (C : World → Prop) (n : Nat) (L : Array Bool → Act → Prop) : Nat → Array Bool → Act → Prop
  | 0, s, a => L s a
  | f + 1, s, a => Region.ready md ops s ≠ [] ∧ ∀ i ∈ Region.ready md ops s, i < n ∧ qOp P ops C i (heads P md ops C n L f (s.setIfInBounds i true)) a
theorem any_of_heads {n g : Nat} {L : Array Bool → Act → Prop} {Q : Exit → Act → World → Prop} (hL : ∀ s a w, C w → L s a → wpAny P md ops Q g s a w) :
    ∀ (f : Nat) (s : Array Bool) (a : Act) (w : World), C w → heads P md ops C n L f s a → wpAny P md ops Q (f + g) s a w := by
  intro f
  induction f with
  | zero => intro s a w hw h; rw [Nat.zero_add]; exact hL _ _ _ hw h
  | succ f ih =>
    intro s a w hw h
    rw [show f + 1 + g = (f + g) + 1 by omega]
    exact ⟨fun h0 => absurd h0 h.1, fun i hi => wpOp_of_qOp hw (fun a' w' hw' h' => ih _ a' w' hw' h') (h.2 i hi).2⟩
theorem heads_first {n i : Nat} {oi : Oper} {v : Value} {L : Array Bool → Act → Prop} (hi : ops[i]? = some oi) (hsel : ∀ (j : Nat) (o : Oper) cs b, ops[j]? = some o → o.op ≠ .select cs b)
    (hs : Region.sinkB md ops n = true) (hc : Region.chainB md ops n = true) (hn : n < ops.size) (hin : i < n) (hdone : ∀ s a, L s a → ∀ j ∈ Region.ready md ops s, n ≤ j) :
    ∀ (f : Nat) (s : Array Bool) (a : Act), HeadInv md ops n s →
      (∀ j oj, ops[j]? = some oj → j ≠ i → s.getD j true = false → (∀ e ∈ oj.after, Region.binds md e = true → e.on ≠ i) → oi.apart ops oj = true) →
      i ∈ Region.ready md ops s → YieldsIn P ops C oi v a → heads P md ops C n L f (s.setIfInBounds i true) (a.put oi.dst v) → heads P md ops C n L (f + 1) s a := by
  intro f
  induction f with
  | zero =>
    intro s a inv _ hr hy H
    refine ⟨List.ne_nil_of_mem hr, fun j hj => ?_⟩
    by_cases hji : j = i
    · subst hji; exact ⟨hin, hy.qOp hi H⟩
    · have h1 := hdone _ _ H j (ready_mono hj hji)
      exact absurd hj (tail_waits hs hc hn inv _ i rfl hin (mem_ready.1 hr).1 j h1)
  | succ f ih =>
    intro s a inv hfree hr hy H
    refine ⟨List.ne_nil_of_mem hr, fun j hj => ?_⟩
    by_cases hji : j = i
    · subst hji; exact ⟨hin, hy.qOp hi H⟩
    have hjn : j < n := Nat.lt_of_not_le fun h => absurd hj (tail_waits hs hc hn inv _ i rfl hin (mem_ready.1 hr).1 j h)
    obtain ⟨hjun, oj, hoj, hall⟩ := mem_ready.1 hj
    have hnot : ∀ e ∈ oj.after, Region.binds md e = true → e.on ≠ i := by
      intro e he hb heq
      have h1 := hall e he hb
      rw [heq, getD_both (mem_ready.1 hr).1] at h1
      cases h1
    refine ⟨hjn, qOp_mono (fun a' h3 => ?_) (qOp_put hoj (hfree j oj hoj hji hjun hnot) (fun cs b => hsel i oi cs b hi) (fun cs b => hsel j oj cs b hoj) hy (H.2 j (ready_mono hj hji)).2)⟩
    refine ih (s.setIfInBounds j true) a' (inv.set hj hjn) (fun k ok hk hki hun hno => ?_) (ready_mono hr (Ne.symm hji)) h3.1 ?_
    · refine hfree k ok hk hki ?_ hno
      by_cases hjk : j = k
      · subst hjk; exact hjun
      · rw [getD_set_ne true hjk] at hun; exact hun
    · rw [Array.setIfInBounds_comm _ _ hji]; exact h3.2
theorem heads_lex {n g : Nat} {Lq : Act → Prop} (hsel : Region.noSelect ops = true) (hs : Region.sinkB md ops n = true) (hc : Region.chainB md ops n = true) (hn : n < ops.size) :
    ∀ (l : List Oper) (k : Nat) (s : Array Bool) (a : Act), (∀ j, j < l.length → l[j]? = ops[k + j]?) → k + l.length = n → HeadInv md ops n s →
    Region.lexHead md ops g l.length k s = true → wpQuiet P ops C Lq l a → heads P md ops C n (fun s' a' => Region.seqB md ops g n s' = true ∧ Lq a') l.length s a := by
  intro l
  induction l with
  | nil =>
    intro k s a _ hk _ hB h
    obtain rfl : k = n := by simpa using hk
    exact ⟨by simpa [Region.lexHead] using hB, h⟩
  | cons o l ih =>
    intro k s a hl hk inv hB h
    have h0 : ops[k]? = some o := by simpa using (hl 0 (by simp)).symm
    simp only [List.length_cons, Region.lexHead, Bool.and_eq_true] at hB hk
    have hr' : k ∈ Region.ready md ops s := by simpa using hB.1.1
    have hst : qOp P ops C k (wpQuiet P ops C Lq l) a := by unfold qOp; simp only [h0]; exact h
    obtain ⟨v, hy, hK⟩ := yieldsIn_of_qOp h0 hst
    exact heads_first h0 (Region.noSelect_spec hsel) hs hc hn (by omega) (fun s' a' hL => seqB_ready hL.1) l.length s a inv (Region.free_spec h0 hB.1.2) hr' hy
      (ih (k + 1) _ _ (fun j hj => by have := hl (j + 1) (by simp; omega); simpa [Nat.add_assoc, Nat.add_comm 1 j] using this) (by omega) (inv.set hr' (by omega)) hB.2 hK)
/-- A region that draws its order: n operations that read, or call what leaves a world of the class; then a tail in one order. -/
theorem region_head {id : Nat} {Q : Exit → Act → World → Prop} {a : Act} {w : World} {l : List Oper} (n : Nat) (hm : P.follows .mixedOrders = true) (hB : Region.lexTailB .any l.toArray n = true)
    (hC : C { w with drawn := w.drawn + 1 })
    (h : wpQuiet P l.toArray C (fun a' => ∀ w', C w' → wpList P l.toArray Q (l.drop n) a' w') (l.take n) a) : (Code.region id l.toArray true).wp P Q a w := by
  simp only [Region.lexTailB, Bool.and_eq_true, decide_eq_true_eq] at hB
  obtain ⟨⟨⟨⟨hsel, hn⟩, hs⟩, hc⟩, hlex⟩ := hB
  have htl : (l.take n).length = n := by have : n < l.length := by simpa using hn
                                         simp; omega
  have hdl : (l.drop n).length = l.toArray.size - n := by simp
  have inv0 : HeadInv .any l.toArray n (Array.replicate l.toArray.size false) :=
    ⟨by simp, fun j oj _ hl => (by rw [getD_replicate_false] at hl; cases hl), fun t _ ht => getD_in (by simpa using ht) (getD_replicate_false _ _)⟩
  have H := heads_lex (md := .any) (g := l.toArray.size - n) hsel hs hc hn (l.take n) 0 _ a (fun j hj => by
    have hj' : j < n := by rw [htl] at hj; exact hj
    simp [hj']) (by simpa using htl) inv0 (by rw [htl]; exact hlex) h
  refine wp_region_any hm ?_
  have := any_of_heads (Q := Q) (g := l.toArray.size - n) (fun s a' w' hw' hL => by
    have := wpAny_of_seq (md := .any) (Q' := Q) (l.drop n) n s a' w' (fun j => by simp [List.getElem?_drop]) (by rw [hdl]; exact hL.1) (hL.2 w' hw')
    rwa [hdl] at this) _ _ _ _ hC H
  rw [htl, show n + (l.toArray.size - n) = l.toArray.size by omega] at this
  exact this
end
/-- The class 'w grown'. -/
def In (w : World) (w' : World) : Prop := ∃ p : Regrown, w' = Sort.grow (redrawn w p.d) p.os
theorem In.ex {w w' : World} (h : In w w') : Ex w w' := by obtain ⟨p, rfl⟩ := h; exact below_regrown _ _ _
/-- The element at a place. -/
def nth {α : Type} [Inhabited α] (l : List α) (k : Nat) : α := l.getD k default
theorem drop_nth {α : Type} [Inhabited α] (l : List α) (k : Nat) (h : k < l.length) : l.drop k = nth l k :: l.drop (k + 1) := by
  rw [List.drop_eq_getElem_cons h]; simp [nth, h]
theorem nth_getElem {α : Type} [Inhabited α] (l : List α) (k : Nat) (h : k < l.length) : nth l k = l[k] := by simp [nth, h]
theorem nth_mem {α : Type} [Inhabited α] (l : List α) (k : Nat) (h : k < l.length) : nth l k ∈ l := by rw [nth_getElem l k h]; exact List.getElem_mem h
theorem Ex.setCell {a b : World} (h : Ex a b) {p : Addr} (hp : a.heap.size ≤ p.block) (v : Value) : Ex a (b.setCell p v) := Below.setCell h hp v
theorem Ex.lt {W w1 : World} (h : Ex W w1) {b : Nat} (hb : b < W.heap.size) : b < w1.heap.size := Nat.lt_of_lt_of_le hb h.size
theorem Ex.at_ {W w1 : World} (h : Ex W w1) {b : Nat} (hb : b < W.heap.size) : w1.heap[b]? = W.heap[b]? := h.block b hb
/-- Block b is these cells, none of them frozen. -/
def Box (w : World) (b : Nat) (vs : List Value) (t : TypeId) : Prop := w.heap[b]? = some (.cells vs.toArray t (0, 0))
theorem Box.lt {w : World} {b : Nat} {vs : List Value} {t : TypeId} (h : Box w b vs t) : b < w.heap.size := by
  unfold Box at h
  rcases Nat.lt_or_ge b w.heap.size with k | k
  · exact k
  · rw [Array.getElem?_eq_none k] at h; cases h
theorem Box.cell {w : World} {b : Nat} {vs : List Value} {t : TypeId} (h : Box w b vs t) (i : Nat) (v : Value) (hv : vs[i]? = some v) : w.cell? ⟨b, i, none⟩ = some v := by
  unfold World.cell?; unfold Box at h; simp [h, hv]
theorem Box.free {w : World} {b : Nat} {vs : List Value} {t : TypeId} (h : Box w b vs t) (o : Nat) : w.frozen? ⟨b, o, none⟩ = false := by
  unfold World.frozen?; unfold Box at h; simp [h]
theorem Box.alloc {w : World} {b : Nat} {vs : List Value} {t : TypeId} (h : Box w b vs t) (o : Obj) : Box (w.alloc o) b vs t := by
  have := h.lt
  unfold Box World.alloc at *; rw [← h]; simp [Array.getElem?_push]; omega
theorem Box.new (w : World) (vs : List Value) (t : TypeId) : Box (w.alloc (.cells vs.toArray t)) w.heap.size vs t := by
  unfold Box World.alloc; simp
theorem Box.ex {w w' : World} {b : Nat} {vs : List Value} {t : TypeId} (h : Box w b vs t) (hx : Ex w w') : Box w' b vs t := by
  have := hx.at_ h.lt; unfold Box at *; rw [this]; exact h
theorem Box.set {w : World} {b : Nat} {vs vs' : List Value} {t : TypeId} (h : Box w b vs t) (i : Nat) (v : Value) (e : vs.set i v = vs') : Box (w.setCell ⟨b, i, none⟩ v) b vs' t := by
  have hl := h.lt
  unfold Box at *
  subst e
  simp [World.setCell, Array.getElem?_modify, h]
theorem Ex.after {a b c : World} (k : Ex b c) (h : Ex a b) : Ex a c := h.trans k
/-- Nothing that was there has changed but block b. -/
structure Exb (b : Nat) (w w' : World) : Prop where
  os : w'.os = w.os
  tape : w'.tape = w.tape
  output : w'.output = w.output
  size : w.heap.size ≤ w'.heap.size
  block : ∀ k, k < w.heap.size → k ≠ b → w'.heap[k]? = w.heap[k]?
theorem Exb.refl (b : Nat) (w : World) : Exb b w w := ⟨rfl, rfl, rfl, Nat.le_refl _, fun _ _ _ => rfl⟩
theorem Exb.of {b : Nat} {w w' : World} (h : Ex w w') : Exb b w w' := ⟨h.os, h.tape, h.output, h.size, fun k hk _ => h.block k hk⟩
theorem Exb.trans {b : Nat} {w w1 w2 : World} (h : Exb b w w1) (k : Exb b w1 w2) : Exb b w w2 :=
  ⟨k.os.trans h.os, k.tape.trans h.tape, k.output.trans h.output, Nat.le_trans h.size k.size, fun i hi hb => (k.block i (Nat.lt_of_lt_of_le hi h.size) hb).trans (h.block i hi hb)⟩
theorem Exb.after {b : Nat} {w w1 w2 : World} (k : Exb b w1 w2) (h : Exb b w w1) : Exb b w w2 := h.trans k
theorem Exb.alloc {b : Nat} {w w1 : World} (h : Exb b w w1) (o : Obj) : Exb b w (w1.alloc o) := h.trans (.of ((Ex.refl w1).alloc o))
theorem Exb.set {b : Nat} {w w1 : World} (o : Nat) (v : Value) (h : Exb b w w1) : Exb b w (w1.setCell ⟨b, o, none⟩ v) :=
  h.trans ⟨rfl, rfl, rfl, by simp, fun k _ hb => by simp [World.setCell, Array.getElem?_modify, Ne.symm hb]⟩
theorem Exb.rules {b : Nat} {W w1 : World} (hb : Exb b W w1) : (∀ c o, c < W.heap.size → c ≠ b → w1.cell? ⟨c, o, none⟩ = W.cell? ⟨c, o, none⟩) ∧ (∀ c o, c < W.heap.size → c ≠ b → w1.frozen? ⟨c, o, none⟩ = W.frozen? ⟨c, o, none⟩) :=
  ⟨fun c o h hc => by simp only [World.cell?]; rw [hb.block c h hc], fun c o h hc => by simp only [World.frozen?]; rw [hb.block c h hc]⟩
theorem cell_lt {w : World} {c o : Nat} {v : Value} (h : w.cell? ⟨c, o, none⟩ = some v) : c < w.heap.size := by
  unfold World.cell? at h
  rcases Nat.lt_or_ge c w.heap.size with k | k
  · exact k
  · simp only [Array.getElem?_eq_none k] at h; cases h
end Go.Proofs.Grow
namespace Go.Proofs.YtdhogcklnehdhaaGreatDoor
set_option linter.unusedSimpArgs false
set_option linter.unusedVariables false
set_option linter.unnecessarySimpa false
set_option linter.unusedSectionVars false
set_option maxRecDepth 100000
open Go.RowKit Go.Proofs.Grow Go.Sort
def cmpI (x y : Int) : Int := if x < y then -1 else if y < x then 1 else 0
/-- The number at a place. -/
def atI (zs : List Int) (k : Nat) : Int := zs.getD k 0
def orI : List Int → Int
  | [] => 0
  | x :: l => if x = 0 then orI l else x
theorem drop_at (zs : List Int) (k : Nat) (h : k < zs.length) : zs.drop k = atI zs k :: zs.drop (k + 1) := by
  rw [List.drop_eq_getElem_cons h]; simp [atI, h]
theorem cmp_int (x y : Int) (w : World) :
    Calls Tryz.prog 50 #[.int .i64 x, .int .i64 y] w fun e w' => e = .returned (.int .i64 (cmpI x y)) ∧ w = w' := by
  by_cases h1 : x < y
  · have e : cmpI x y = -1 := by simp [cmpI, h1]
    rw [e]; clear e
    go_enter Tryz.func50, Tryz.ntmps50
    go_wp2
    go_ret
    exact ⟨rfl, rfl⟩
  · by_cases h2 : y < x
    · have e : cmpI x y = 1 := by simp [cmpI, h1, h2]
      rw [e]; clear e
      go_enter Tryz.func50, Tryz.ntmps50
      go_wp2
      go_ret
      exact ⟨rfl, rfl⟩
    · have e : cmpI x y = 0 := by simp [cmpI, h1, h2]
      rw [e]; clear e
      go_enter Tryz.func50, Tryz.ntmps50
      go_wp2
      go_ret
      exact ⟨rfl, rfl⟩
theorem or_int (b off cap : Nat) (zs : List Int) (w : World) (hl : zs.length ≤ 100) (hc : ∀ i, i < zs.length → w.cell? ⟨b, off + i, none⟩ = some (.int .i64 (atI zs i))) :
    Calls Tryz.prog 197 #[.slice (some ⟨b, off, none⟩) zs.length cap] w fun e w' => e = .returned (.int .i64 (orI zs)) ∧ w = w' := by
  have HC := Lib.hid hc; clear hc
  go_enter Tryz.func197, Tryz.ntmps197
  go_wp2
  go_loopg [5, 8] (zs.length) (fun m _ i wr => w = wr ∧ ∃ k : Nat, k + m = zs.length ∧ i = .int .i64 k ∧ Hid (orI zs = orI (zs.drop k)))
  case atStart => exact ⟨rfl, 0, by omega, rfl, Lib.hid rfl⟩
  case round =>
    obtain ⟨rfl, k, hk, rfl, hz⟩ := hrel
    by_cases hlt : k < zs.length
    · have hcell := HC.out k hlt
      have hd := drop_at zs k hlt
      by_cases hne : atI zs k = 0
      · have hb : (atI zs k == 0) = true := by simpa using hne
        have hz2 : Hid (orI zs = orI (zs.drop (k + 1))) := by rw [hz.out, hd, orI, if_pos hne]; exact Lib.hid rfl
        clear hz hd
        go_wp2
        go_roundg (gk - 1)
        case measure => omega
        case rel => exact ⟨rfl, k + 1, by omega, by go_num, hz2⟩
      · have hb : (atI zs k != 0) = true := by simpa using hne
        have hz2 : Hid (orI zs = atI zs k) := by rw [hz.out, hd, orI, if_neg hne]; exact Lib.hid rfl
        clear hz hd
        go_wp2
        go_ret
        exact ⟨by rw [hz2.out]; rfl, rfl⟩
    · have hz2 : Hid (orI zs = 0) := by rw [hz.out, List.drop_of_length_le (by omega)]; exact Lib.hid rfl
      clear hz
      go_wp2
      go_ret
      exact ⟨by rw [hz2.out]; rfl, rfl⟩
end Go.Proofs.YtdhogcklnehdhaaGreatDoor
namespace Go.Proofs.Grow
set_option linter.unusedSimpArgs false
set_option linter.unusedVariables false
set_option linter.unnecessarySimpa false
set_option linter.unusedSectionVars false
set_option maxRecDepth 100000
open Go Go.RowKit
section
variable {α : Type} [Inhabited α]
/-- The cells of a list of elements. -/
def cellsL (enc : α → List Value) (l : List α) : List Value := l.flatMap enc
theorem cellsL_get {enc : α → List Value} {sz : Nat} (henc : ∀ x, (enc x).length = sz) (l : List α) (i j : Nat) (hi : i < l.length) (hj : j < sz) :
    (cellsL enc l)[i * sz + j]? = (enc (nth l i))[j]? := by
  induction l generalizing i with
  | nil => simp at hi
  | cons x l ih =>
    cases i with
    | zero =>
      have : nth (x :: l) 0 = x := by simp [nth]
      rw [this]
      simp only [cellsL, List.flatMap_cons, Nat.zero_mul, Nat.zero_add]
      rw [List.getElem?_append_left (by rw [henc]; exact hj)]
    | succ i =>
      have : nth (x :: l) (i + 1) = nth l i := by simp [nth]
      rw [this]
      have hi' : i < l.length := by simpa using hi
      rw [← ih i hi']
      simp only [cellsL, List.flatMap_cons]
      rw [List.getElem?_append_right (by rw [henc, Nat.add_mul]; omega), henc]
      congr 1
      rw [Nat.add_mul]; omega
/-- A slice of address a reads as the list l. -/
def Sl (w : World) (enc : α → List Value) (sz : Nat) (a : Option Addr) (l : List α) : Prop :=
  l = [] ∨ ∃ b off, a = some ⟨b, off, none⟩ ∧ b < w.heap.size ∧ ∀ i j, i < l.length → j < sz → w.cell? ⟨b, off + i * sz + j, none⟩ = (enc (nth l i))[j]?
theorem Sl.nil (w : World) (enc : α → List Value) (sz : Nat) (a : Option Addr) : Sl w enc sz a [] := .inl rfl
theorem Sl.ex {w w' : World} {enc : α → List Value} {sz : Nat} {a : Option Addr} {l : List α} (h : Sl w enc sz a l) (hx : Ex w w') : Sl w' enc sz a l := by
  rcases h with h | ⟨b, off, rfl, hb, hc⟩
  · exact .inl h
  · exact .inr ⟨b, off, rfl, hx.lt hb, fun i j hi hj => by rw [hx.rules.1 b _ hb]; exact hc i j hi hj⟩
/-- A slice value of the call's own: a row in a block from base on that reads as the list l. -/
def Own (w : World) (base : Nat) (t : TypeId) (enc : α → List Value) (sz : Nat) (v : Value) (l : List α) : Prop := w.ownsRow base t sz v l.length (cellsL enc l)
theorem Own.nil (w : World) (base : Nat) (t : TypeId) (enc : α → List Value) (sz : Nat) : Own w base t enc sz (.slice none 0 0) ([] : List α) := World.ownsRow_nil w base t sz
theorem grown_of_ex {w w' : World} (h : Ex w w') (row : Option Nat) : w.grownBy w' row := ⟨h.os, h.tape, h.output, h.size, fun k hk _ => h.block k hk⟩
section
variable {w w' : World} {base sz : Nat} {t : TypeId} {enc : α → List Value} {v : Value} {l : List α}
theorem Own.ex (h : Own w base t enc sz v l) (hx : Ex w w') : Own w' base t enc sz v l := World.ownsRow.kept h (grown_of_ex hx none) (by cases hv : v.ownBlock <;> simp)
/-- What the slice reads as. -/
theorem Own.sl (h : Own w base t enc sz v l) (henc : ∀ x, (enc x).length = sz) : ∃ a cap, v = .slice a l.length cap ∧ l.length ≤ cap ∧ Sl w enc sz a l ∧ ∀ x, a = some x → base ≤ x.block ∧ x.block < w.heap.size := by
  obtain ⟨hl, h2⟩ := h
  rcases h2 with ⟨rfl, hn⟩ | ⟨g, cap, cur, rfl, hb, hg, hn, hm, hs, htake⟩
  · have : l = [] := by simpa using hn
    subst this
    exact ⟨none, 0, rfl, Nat.le_refl _, .inl rfl, fun x hx => by cases hx⟩
  · have hlt := (Array.getElem?_eq_some_iff.1 hg).1
    refine ⟨some ⟨g, 0, none⟩, cap, rfl, hn, .inr ⟨g, 0, rfl, hlt, fun i j hi hj => ?_⟩, fun x hx => by cases hx; exact ⟨hb, hlt⟩⟩
    rw [← cellsL_get henc l i j hi hj, ← htake]
    have hb2 : i * sz + j < l.length * sz := by
      have : (i + 1) * sz ≤ l.length * sz := Nat.mul_le_mul_right _ hi
      rw [Nat.add_mul] at this; omega
    rw [List.getElem?_take_of_lt hb2]
    simp only [Nat.zero_add, World.cell?, hg]
    simp
end
end
theorem Own.alloc {α : Type} [Inhabited α] {w : World} {base sz : Nat} {t : TypeId} {enc : α → List Value} {v : Value} {l : List α} (h : Own w base t enc sz v l) (o : Obj) : Own (w.alloc o) base t enc sz v l := h.ex ((Ex.refl w).alloc o)
end Go.Proofs.Grow
namespace Go.Proofs.YtdhogcklnehdhaaGreatDoor
set_option linter.unusedSimpArgs false
set_option linter.unusedVariables false
set_option linter.unnecessarySimpa false
set_option linter.unusedSectionVars false
set_option maxRecDepth 100000
open Go.RowKit Go.Proofs.Grow Go.Sort
/-- The first place, from k on, of what a predicate holds of; -1 if there is none. -/
def idxF {α : Type} (p : α → Bool) : Nat → List α → Int
  | _, [] => -1
  | k, x :: r => if p x = true then (k : Int) else idxF p (k + 1) r
structure Acc where
  id : Int
  bal : Int
  seq : Int
instance : Inhabited Acc := ⟨⟨0, 0, 0⟩⟩
end Go.Proofs.YtdhogcklnehdhaaGreatDoor
/- Plain functions on trust lines and on ledgers' holdings, as the program and the reference compute them, and laws on them. No program stands here. -/
namespace Go.Proofs.YtdhogcklnehdhaaGreatDoor
set_option linter.unusedSimpArgs false
set_option linter.unusedVariables false
set_option linter.unnecessarySimpa false
set_option linter.unusedSectionVars false
set_option maxRecDepth 100000
open Go.RowKit Go.Proofs.Grow Go.Sort
structure Lin where
  acc : Int
  code : ByteArray
  iss : Int
  bal : Int
  lim : Int
instance : Inhabited Lin := ⟨⟨0, ⟨#[]⟩, 0, 0, 0⟩⟩
structure Off where
  id : Int
  seller : Int
  sc : ByteArray
  si : Int
  bc : ByteArray
  bi : Int
  amt : Int
  num : Int
  den : Int
instance : Inhabited Off := ⟨⟨0, 0, ⟨#[]⟩, 0, ⟨#[]⟩, 0, 0, 0, 0⟩⟩
end Go.Proofs.YtdhogcklnehdhaaGreatDoor
/- Plain functions on offers, as the program and the reference compute them. No program stands here. -/
namespace Go.Proofs.YtdhogcklnehdhaaGreatDoor
set_option linter.unusedSimpArgs false
set_option linter.unusedVariables false
set_option linter.unnecessarySimpa false
set_option linter.unusedSectionVars false
set_option maxRecDepth 100000
open Go.RowKit Go.Proofs.Grow Go.Sort
end Go.Proofs.YtdhogcklnehdhaaGreatDoor
namespace Go.Proofs.YtdhogcklnehdhaaGreatDoor
set_option linter.unusedSimpArgs false
set_option linter.unusedVariables false
set_option linter.unnecessarySimpa false
set_option linter.unusedSectionVars false
set_option maxRecDepth 100000
open Go Go.RowKit Go.Proofs.Grow Go.Sort
structure Pcl where
  due : Int
  src : Int
  dst : Int
  num : Int
  slot : Int
instance : Inhabited Pcl := ⟨⟨0, 0, 0, 0, 0⟩⟩
structure Net where
  pars : List Pcl
  next : Int
  parts : List Int
  dels : List Int
def bandI (a b : Int) : Int := IntKind.i64.wrap ((BitVec.ofInt 64 a &&& BitVec.ofInt 64 b).toNat : Int)
def borI (a b : Int) : Int := IntKind.i64.wrap ((BitVec.ofInt 64 a ||| BitVec.ofInt 64 b).toNat : Int)
def shlI (k : Int) : Int := IntKind.i64.wrap (1 * 2 ^ (min k.toNat 64))
def ltPc (a b : Pcl) : Prop := a.due < b.due ∨ (a.due = b.due ∧ (a.src < b.src ∨ (a.src = b.src ∧ (a.dst < b.dst ∨ (a.dst = b.dst ∧ a.num < b.num)))))
theorem cmpI_cases (a b : Int) : (a < b ∧ cmpI a b = -1) ∨ (a = b ∧ cmpI a b = 0) ∨ (b < a ∧ cmpI a b = 1) := by
  unfold cmpI
  split
  · exact .inl ⟨by assumption, rfl⟩
  · split
    · exact .inr (.inr ⟨by assumption, rfl⟩)
    · exact .inr (.inl ⟨by omega, rfl⟩)
def validS (s : Int) : Bool := decide (0 ≤ s) && decide (s < 1024)
def nodeB (n : Int) : Bool := decide (0 ≤ n) && decide (n < 10)
def partsN : Int → List Int → Bool
  | _, [] => true
  | seen, s :: r => (!(s == 0) && (validS s && (bandI seen s == 0))) && partsN (borI seen s) r
def partsB (l : List Int) : Bool := partsN 0 l && decide (l.length ≤ 10)
def wrongD (n : Int) : Bool := decide (n < 0) || decide (n > 20)
def delsB (l : List Int) : Bool := (decide (l.length = 0) || decide (l.length = 100)) && decide (idxF wrongD 0 l < 0)
/-- A parcel is right by itself, where the next number is q. -/
structure GoodP (q : Int) (x : Pcl) : Prop where
  src : 0 ≤ x.src ∧ x.src < 10
  dst : 0 ≤ x.dst ∧ x.dst < 10
  ne : ¬ x.src = x.dst
  due : 0 ≤ x.due ∧ x.due ≤ 220
  num : 0 ≤ x.num ∧ x.num < q
structure RightN (n : Net) : Prop where
  len : n.pars.length ≤ 4000
  n0 : 0 ≤ n.next
  n1 : n.next ≤ 1000000000
  parts : partsB n.parts = true
  dels : delsB n.dels = true
  each : ∀ x ∈ n.pars, GoodP n.next x
  srt : n.pars.Pairwise ltPc
def hasB (s x : Int) : Bool := validS s && (nodeB x && !(bandI s (shlI x) == 0))
end Go.Proofs.YtdhogcklnehdhaaGreatDoor
namespace Go.Proofs.YtdhogcklnehdhaaGreatDoor
set_option linter.unusedSimpArgs false
set_option linter.unusedVariables false
set_option linter.unnecessarySimpa false
set_option linter.unusedSectionVars false
set_option maxRecDepth 100000
open Go Go.RowKit Go.Proofs.Grow Go.Sort
/-- What NetworkKeeps' loops keep. -/
structure KeepI (T : Prop) (B : Int) (n : Net) (sent got lost : Int) : Prop where
  r : RightN n
  d : n.dels = []
  p : n.parts = [] ∨ n.parts = [3, 12]
  due : ∀ x ∈ n.pars, x.due ≤ 14
  late : T → n.pars = []
  sum : sent = got + lost + n.pars.length
  g0 : 0 ≤ got
  l0 : 0 ≤ lost
  nx : n.next ≤ B
  sB : sent ≤ B
theorem KeepI.mono {T T' : Prop} {B B' : Int} {n : Net} {sent got lost : Int} (h : KeepI T B n sent got lost) (ht : T' → T) (hb : B ≤ B') : KeepI T' B' n sent got lost :=
  ⟨h.r, h.d, h.p, h.due, fun t => h.late (ht t), h.sum, h.g0, h.l0, by have := h.nx; omega, by have := h.sB; omega⟩
def bnotI (a b : Int) : Int := IntKind.i64.wrap ((BitVec.ofInt 64 a &&& ~~~ BitVec.ofInt 64 b).toNat : Int)
end Go.Proofs.YtdhogcklnehdhaaGreatDoor
namespace Go.Proofs.YtdhogcklnehdhaaGreatDoor
set_option linter.unusedSimpArgs false
set_option linter.unusedVariables false
set_option linter.unnecessarySimpa false
set_option linter.unusedSectionVars false
set_option maxRecDepth 100000
open Go.RowKit Go.Proofs.Grow Go.Sort
inductive Tr where
  | mk (k : Int) (ns : List Int) (is : List Tr)
instance : Inhabited Tr := ⟨.mk 0 [] []⟩
def Tr.k : Tr → Int
  | .mk k _ _ => k
def Tr.ns : Tr → List Int
  | .mk _ ns _ => ns
def Tr.is : Tr → List Tr
  | .mk _ _ is => is
def mxI (a b : Int) : Int := if b > a then b else a
mutual
def hT : Tr → Nat
  | .mk _ _ is => hL is + 1
def hL : List Tr → Nat
  | [] => 0
  | t :: r => max (hT t) (hL r)
end
mutual
def sizT : Tr → Int
  | .mk _ ns is => sizL is ((ns.length : Int) + (is.length : Int))
def sizL : List Tr → Int → Int
  | [], a => a
  | t :: r, a => sizL r (a + sizT t)
end
mutual
def depT : Tr → Int
  | .mk _ _ is => depL is 0 + 1
def depL : List Tr → Int → Int
  | [], a => a
  | t :: r, a => depL r (mxI a (depT t))
end
def cntI (s : Int) : List Int → Int → Int
  | [], a => a
  | k :: r, a => cntI s r (if hasB s k = true then a + 1 else a)
mutual
def satT (s : Int) : Tr → Bool
  | .mk k ns is => validS s && decide (satL s is (cntI s ns 0) ≥ k)
def satL (s : Int) : List Tr → Int → Int
  | [], a => a
  | t :: r, a => satL s r (if satT s t = true then a + 1 else a)
end
def useI : List Int → Int → Int
  | [], a => a
  | k :: r, a => useI r (if nodeB k = true then borI a (shlI k) else a)
mutual
def useT : Tr → Int
  | .mk _ ns is => useL is (useI ns 0)
def useL : List Tr → Int → Int
  | [], a => a
  | t :: r, a => useL r (borI a (useT t))
end
/-- The set of nodes, and the first error. -/
def ofI : List Int → Int → Int × Int
  | [], a => (a, 0)
  | k :: r, a => if nodeB k = false then (0, 5) else if hasB a k = true then (0, 6) else ofI r (borI a (shlI k))
mutual
def levT : Tr → Int
  | .mk k ns is => if k < 1 ∨ (ns.length : Int) + (is.length : Int) < k then 4 else if decide (idxF (fun k => !nodeB k) 0 ns ≥ 0) = true then 5 else if (ofI ns 0).2 ≠ 0 then (ofI ns 0).2 else levL is
def levL : List Tr → Int
  | [] => 0
  | t :: r => if levT t ≠ 0 then levT t else levL r
end
def chkT (t : Tr) : Int := if depT t > 4 ∨ sizT t > 200 then 3 else levT t
theorem hL_mem : ∀ {l : List Tr} {x : Tr}, x ∈ l → hT x ≤ hL l
  | t :: r, x, h => by
    rcases List.mem_cons.1 h with rfl | h
    · simp only [hL]; omega
    · have := hL_mem h; simp only [hL]; omega
theorem hT_mem {t x : Tr} (h : x ∈ t.is) : hT x < hT t := by
  cases t with
  | mk k ns is => have := hL_mem (l := is) h; simp only [hT]; omega
mutual
theorem siz_nn : ∀ t : Tr, 0 ≤ sizT t
  | .mk k ns is => by simp only [sizT]; have := sizL_nn is ((ns.length : Int) + (is.length : Int)); omega
theorem sizL_nn : ∀ (l : List Tr) (a : Int), a ≤ sizL l a
  | [], a => Int.le_refl _
  | t :: r, a => by simp only [sizL]; have := siz_nn t; have := sizL_nn r (a + sizT t); omega
end
theorem sizL_mem : ∀ {l : List Tr} {x : Tr} {a : Int}, x ∈ l → a + sizT x ≤ sizL l a
  | t :: r, x, a, h => by
    simp only [sizL]
    rcases List.mem_cons.1 h with rfl | h
    · exact sizL_nn r _
    · have := sizL_mem (a := a + sizT t) h; have := siz_nn t; omega
theorem siz_mem {t x : Tr} (h : x ∈ t.is) : sizT x ≤ sizT t := by
  cases t with
  | mk k ns is => have := sizL_mem (l := is) (a := (ns.length : Int) + (is.length : Int)) h; simp only [sizT]; omega
theorem siz_len (t : Tr) : (t.ns.length : Int) + (t.is.length : Int) ≤ sizT t := by
  cases t with
  | mk k ns is => simp only [sizT, Tr.ns, Tr.is]; exact sizL_nn _ _
theorem sizL_take {l : List Tr} {k : Nat} {a : Int} : sizL (l.take k) a ≤ sizL l a := by
  induction l generalizing k a with
  | nil => simp [sizL]
  | cons t r ih =>
    cases k with
    | zero => simp only [List.take_zero, sizL]; have := siz_nn t; have := sizL_nn r (a + sizT t); omega
    | succ k => simp only [List.take_succ_cons, sizL]; exact ih
/-- Folds over the first elements of a list. -/
theorem take_fold {α β : Type} [Inhabited α] (F : List α → β → β) (g : β → α → β) (h0 : ∀ a, F [] a = a) (hc : ∀ t r a, F (t :: r) a = F r (g a t)) : ∀ (l : List α) (a : β) {k : Nat}, k < l.length → F (l.take (k + 1)) a = g (F (l.take k) a) (nth l k)
  | [], a, k, h => by simp at h
  | t :: r, a, 0, h => by simp [hc, h0, nth]
  | t :: r, a, k + 1, h => by
    rw [List.take_succ_cons, hc, List.take_succ_cons, hc]
    have := take_fold F g h0 hc r (g a t) (k := k) (by simpa using h)
    rw [this]; rfl
theorem cntI_take {s : Int} {l : List Int} {a : Int} {k : Nat} (h : k < l.length) : cntI s (l.take (k + 1)) a = if hasB s (nth l k) = true then cntI s (l.take k) a + 1 else cntI s (l.take k) a :=
  take_fold (cntI s) (fun a k => if hasB s k = true then a + 1 else a) (fun _ => rfl) (fun _ _ _ => rfl) l a h
theorem satL_take {s : Int} {l : List Tr} {a : Int} {k : Nat} (h : k < l.length) : satL s (l.take (k + 1)) a = if satT s (nth l k) = true then satL s (l.take k) a + 1 else satL s (l.take k) a :=
  take_fold (satL s) (fun a t => if satT s t = true then a + 1 else a) (fun _ => rfl) (fun _ _ _ => rfl) l a h
theorem sizL_take1 {l : List Tr} {a : Int} {k : Nat} (h : k < l.length) : sizL (l.take (k + 1)) a = sizL (l.take k) a + sizT (nth l k) :=
  take_fold sizL (fun a t => a + sizT t) (fun _ => rfl) (fun _ _ _ => rfl) l a h
theorem depL_take {l : List Tr} {a : Int} {k : Nat} (h : k < l.length) : depL (l.take (k + 1)) a = mxI (depL (l.take k) a) (depT (nth l k)) :=
  take_fold depL (fun a t => mxI a (depT t)) (fun _ => rfl) (fun _ _ _ => rfl) l a h
theorem useI_take {l : List Int} {a : Int} {k : Nat} (h : k < l.length) : useI (l.take (k + 1)) a = if nodeB (nth l k) = true then borI (useI (l.take k) a) (shlI (nth l k)) else useI (l.take k) a :=
  take_fold useI (fun a k => if nodeB k = true then borI a (shlI k) else a) (fun _ => rfl) (fun _ _ _ => rfl) l a h
theorem useL_take {l : List Tr} {a : Int} {k : Nat} (h : k < l.length) : useL (l.take (k + 1)) a = borI (useL (l.take k) a) (useT (nth l k)) :=
  take_fold useL (fun a t => borI a (useT t)) (fun _ => rfl) (fun _ _ _ => rfl) l a h
theorem cntI_bd (s : Int) : ∀ (l : List Int) (a : Int), a ≤ cntI s l a ∧ cntI s l a ≤ a + l.length
  | [], a => by simp [cntI]
  | k :: r, a => by
    simp only [cntI, List.length_cons]
    split
    · have := cntI_bd s r (a + 1); omega
    · have := cntI_bd s r a; omega
theorem satL_bd (s : Int) : ∀ (l : List Tr) (a : Int), a ≤ satL s l a ∧ satL s l a ≤ a + l.length
  | [], a => by simp [satL]
  | k :: r, a => by
    simp only [satL, List.length_cons]
    split
    · have := satL_bd s r (a + 1); omega
    · have := satL_bd s r a; omega
mutual
theorem dep_h : ∀ t : Tr, depT t = hT t
  | .mk k ns is => by
    have e := depL_h is 0
    rw [show ((0 : Nat) : Int) = 0 from rfl] at e
    simp only [depT, hT, e]; omega
theorem depL_h : ∀ (l : List Tr) (a : Nat), depL l a = ((max a (hL l) : Nat) : Int)
  | [], a => by simp [depL, hL]
  | t :: r, a => by
    have e : mxI (a : Int) (depT t) = ((max a (hT t) : Nat) : Int) := by rw [dep_h t]; unfold mxI; split <;> omega
    simp only [depL, hL, e, depL_h r]
    omega
end
mutual
theorem h_siz : ∀ t : Tr, (hT t : Int) ≤ sizT t + 1
  | .mk k ns is => by
    simp only [hT, sizT]
    have := hL_siz is ((ns.length : Int) + (is.length : Int)) (by omega)
    omega
theorem hL_siz : ∀ (l : List Tr) (a : Int), (l.length : Int) ≤ a → (hL l : Int) ≤ sizL l a
  | [], a, h => by simp [hL, sizL] at *; exact h
  | t :: r, a, h => by
    have h1 := h_siz t
    have h2 := hL_siz r (a + sizT t) (by have := siz_nn t; simp only [List.length_cons] at h; omega)
    have h3 := sizL_nn r (a + sizT t)
    have := siz_nn t
    simp only [List.length_cons] at h
    simp only [hL, sizL]
    omega
end
end Go.Proofs.YtdhogcklnehdhaaGreatDoor
namespace Go.Proofs.YtdhogcklnehdhaaGreatDoor
set_option linter.unusedSimpArgs false
set_option linter.unusedVariables false
set_option linter.unnecessarySimpa false
set_option linter.unusedSectionVars false
set_option maxRecDepth 100000
open Go.RowKit Go.Proofs.Grow Go.Sort
/-- A set without another one. -/
def andn (a b : Nat) : Nat := a ^^^ (a &&& b)
theorem andn_bit (a b k : Nat) : (andn a b).testBit k = (a.testBit k && !b.testBit k) := by
  unfold andn; rw [Nat.testBit_xor, Nat.testBit_and]; cases a.testBit k <;> cases b.testBit k <;> rfl
theorem andn_le (a b : Nat) : andn a b ≤ a := by
  apply Nat.le_of_testBit
  intro i; rw [andn_bit]; cases a.testBit i <;> simp
theorem andn_lt {a k : Nat} (h : a.testBit k = true) : andn a (2 ^ k) < a := by
  rcases Nat.lt_or_ge (andn a (2 ^ k)) a with h1 | h1
  · exact h1
  · have h2 := Nat.le_antisymm (andn_le a (2 ^ k)) h1
    have h3 := andn_bit a (2 ^ k) k
    rw [h2, h] at h3
    simp [Nat.testBit_two_pow_self] at h3
theorem ofNat_toNat {a : Nat} (h : a < 4611686018427387904) : (BitVec.ofInt 64 (a : Int)).toNat = a := by
  rw [BitVec.ofInt_natCast, BitVec.toNat_ofNat]; omega
theorem wrap_nat {a : Nat} (h : a < 4611686018427387904) : IntKind.i64.wrap (a : Int) = (a : Int) := IntWalk.i64_in _ (by omega)
theorem band_nat {a b : Nat} (ha : a < 4611686018427387904) (hb : b < 4611686018427387904) : bandI a b = ((a &&& b : Nat) : Int) := by
  unfold bandI
  rw [BitVec.toNat_and, ofNat_toNat ha, ofNat_toNat hb, wrap_nat (Nat.lt_of_le_of_lt Nat.and_le_left ha)]
theorem bor_nat {a b : Nat} (ha : a < 4611686018427387904) (hb : b < 4611686018427387904) : borI a b = ((a ||| b : Nat) : Int) := by
  unfold borI
  rw [BitVec.toNat_or, ofNat_toNat ha, ofNat_toNat hb, wrap_nat (Nat.or_lt_two_pow (n := 62) ha hb)]
theorem bnot_nat {a b : Nat} (ha : a < 4611686018427387904) (hb : b < 4611686018427387904) : bnotI a b = ((andn a b : Nat) : Int) := by
  unfold bnotI
  have e : (BitVec.ofInt 64 (a : Int) &&& ~~~ BitVec.ofInt 64 (b : Int)).toNat = andn a b := by
    apply Nat.eq_of_testBit_eq
    intro i
    rw [andn_bit, ← BitVec.getLsbD, BitVec.getLsbD_and, BitVec.getLsbD_not]
    have h1 : (BitVec.ofInt 64 (a : Int)).getLsbD i = a.testBit i := by unfold BitVec.getLsbD; rw [ofNat_toNat ha]
    have h2 : (BitVec.ofInt 64 (b : Int)).getLsbD i = b.testBit i := by unfold BitVec.getLsbD; rw [ofNat_toNat hb]
    rw [h1, h2]
    by_cases hi : i < 64
    · simp [hi]
    · have : a.testBit i = false := Nat.testBit_lt_two_pow (Nat.lt_of_lt_of_le ha (Nat.le_trans (by decide) (Nat.pow_le_pow_right (n := 2) (by decide) (show 62 ≤ i by omega))))
      simp [this]
  rw [e, wrap_nat (Nat.lt_of_le_of_lt (andn_le a b) ha)]
theorem shl_nat {k : Nat} (h : k ≤ 61) : shlI k = ((2 ^ k : Nat) : Int) := by
  unfold shlI
  have h1 : (2 : Nat) ^ k ≤ 2 ^ 61 := Nat.pow_le_pow_right (by decide) h
  have e : (1 : Int) * 2 ^ (min (k : Int).toNat 64) = ((2 ^ k : Nat) : Int) := by
    rw [Int.toNat_natCast, show min k 64 = k by omega, Int.one_mul, Int.natCast_pow]; rfl
  rw [e]
  exact wrap_nat (by omega)
theorem pow_lt {k : Nat} (h : k < 10) : 2 ^ k < 1024 := by
  have : (2 : Nat) ^ k ≤ 2 ^ 9 := Nat.pow_le_pow_right (by decide) (by omega)
  omega
theorem valid_nat {s : Nat} (h : s < 1024) : validS (s : Int) = true := by simp [validS]; omega
theorem and_two_pow_bit (s k : Nat) : (s &&& 2 ^ k) = 0 ↔ s.testBit k = false := by
  constructor
  · intro h
    have := congrArg (·.testBit k) h
    simpa [Nat.testBit_and, Nat.testBit_two_pow_self] using this
  · intro h
    apply Nat.eq_of_testBit_eq
    intro i
    rw [Nat.testBit_and, Nat.zero_testBit]
    by_cases e : k = i
    · subst e; simp [h]
    · rw [Nat.testBit_two_pow_of_ne e]; simp
theorem has_nat {s k : Nat} (hs : s < 1024) (hk : k < 10) : hasB (s : Int) (k : Int) = s.testBit k := by
  unfold hasB
  rw [valid_nat hs, shl_nat (by omega), band_nat (by omega) (by have := pow_lt hk; omega)]
  have h1 : nodeB (k : Int) = true := by simp [nodeB]; omega
  rw [h1]
  cases h : s.testBit k
  · have := (and_two_pow_bit s k).2 h
    simp [this]
  · have : ¬ (s &&& 2 ^ k) = 0 := fun e => by rw [(and_two_pow_bit s k).1 e] at h; cases h
    simp [this]
theorem bit_lt {s k : Nat} (hs : s < 1024) (h : s.testBit k = true) : k < 10 := by
  rcases Nat.lt_or_ge k 10 with h1 | h1
  · exact h1
  · have : s.testBit k = false := Nat.testBit_lt_two_pow (Nat.lt_of_lt_of_le hs (Nat.le_trans (by decide) (Nat.pow_le_pow_right (n := 2) (by decide) h1)))
    rw [this] at h; cases h
theorem or_lt10 {a b : Nat} (ha : a < 1024) (hb : b < 1024) : a ||| b < 1024 := Nat.or_lt_two_pow (n := 10) ha hb
theorem and_lt10 {a b : Nat} (ha : a < 1024) : a &&& b < 1024 := Nat.lt_of_le_of_lt Nat.and_le_left ha
theorem andn_lt10 {a b : Nat} (ha : a < 1024) : andn a b < 1024 := Nat.lt_of_le_of_lt (andn_le a b) ha
/-- The nodes of a set below n. -/
def nodesTo (s n : Nat) : List Nat := (List.range n).filter fun k => s.testBit k
abbrev nodesN (s : Nat) : List Nat := nodesTo s 10
theorem nodesTo_succ (s n : Nat) : nodesTo s (n + 1) = if s.testBit n = true then nodesTo s n ++ [n] else nodesTo s n := by
  unfold nodesTo
  rw [List.range_succ, List.filter_append]
  cases h : s.testBit n <;> simp [h]
theorem nodesTo_len (s n : Nat) : (nodesTo s n).length ≤ n := by
  unfold nodesTo; exact Nat.le_trans (List.length_filter_le _ _) (by simp)
theorem mem_nodes {s k : Nat} (hs : s < 1024) : k ∈ nodesN s ↔ s.testBit k = true := by
  unfold nodesN nodesTo
  rw [List.mem_filter, List.mem_range]
  exact ⟨fun h => h.2, fun h => ⟨bit_lt hs h, h⟩⟩
structure Mb where
  decl : Bool
  t : Tr
instance : Inhabited Mb := ⟨false, default⟩
def declTo (c : List Mb) : Nat → Nat
  | 0 => 0
  | n + 1 => if (nth c n).decl = true then declTo c n ||| 2 ^ n else declTo c n
abbrev declN (c : List Mb) : Nat := declTo c c.length
theorem declTo_lt (c : List Mb) : ∀ n, n ≤ 10 → declTo c n < 1024
  | 0, _ => by simp [declTo]
  | n + 1, h => by
    have := declTo_lt c n (by omega)
    unfold declTo
    split
    · exact or_lt10 this (pow_lt (by omega))
    · exact this
theorem declTo_bit (c : List Mb) : ∀ n k, (declTo c n).testBit k = (decide (k < n) && (nth c k).decl)
  | 0, k => by simp [declTo]
  | n + 1, k => by
    have ih := declTo_bit c n k
    unfold declTo
    by_cases hk : k = n
    · subst hk
      split
      · rename_i h; rw [Nat.testBit_or, Nat.testBit_two_pow_self]; simp [h]
      · rename_i h; rw [ih]; simp [h]
    · have e : decide (k < n + 1) = decide (k < n) := by simp; omega
      rw [e]
      split
      · rw [Nat.testBit_or, Nat.testBit_two_pow_of_ne (fun h => hk h.symm), ih]; simp
      · exact ih
theorem declN_lt {c : List Mb} (h : c.length ≤ 10) : declN c < 1024 := declTo_lt c _ h
/-- The first node of a set that is not content. -/
def unhL (c : List Mb) (s : Nat) : List Nat → Option Nat
  | [] => none
  | k :: r => if satT s (nth c k).t = true then unhL c s r else some k
abbrev unhN (c : List Mb) (s : Nat) : Option Nat := unhL c s (nodesN s)
def uhR : Option Nat → Int × Bool
  | none => (0, false)
  | some k => (k, true)
theorem unhL_none {c : List Mb} {s : Nat} : ∀ {l : List Nat}, unhL c s l = none ↔ ∀ k ∈ l, satT s (nth c k).t = true
  | [] => by simp [unhL]
  | k :: r => by
    unfold unhL
    split
    · rename_i h; rw [unhL_none]; simp [h]
    · rename_i h; simp [h]
theorem unhL_some {c : List Mb} {s k : Nat} : ∀ {l : List Nat}, unhL c s l = some k → k ∈ l ∧ satT s (nth c k).t = false
  | [], h => by simp [unhL] at h
  | x :: r, h => by
    unfold unhL at h
    split at h
    · have := unhL_some h; exact ⟨List.mem_cons_of_mem _ this.1, this.2⟩
    · rename_i hx
      obtain rfl := Option.some.inj h
      exact ⟨List.mem_cons_self, by simpa using hx⟩
def quoN (c : List Mb) (s : Nat) : Bool := !(s == 0) && (andn s (declN c) == 0 && (unhN c s).isNone)
/-- What is left of a set, and the nodes that go. -/
def elimG (c : List Mb) : Nat → Nat → List Nat → Nat × List Nat
  | 0, s, out => (s, out)
  | n + 1, s, out => match unhN c s with
    | none => (s, out)
    | some k => elimG c n (andn s (2 ^ k)) (out ++ [k])
def greatN (c : List Mb) (s : Nat) : Nat × List Nat := elimG c 1024 (s &&& declN c) []
theorem sub_bit {a b : Nat} (h : andn a b = 0) {k : Nat} (hk : a.testBit k = true) : b.testBit k = true := by
  have := andn_bit a b k
  rw [h, Nat.zero_testBit, hk] at this
  simpa using this.symm
theorem sub_of {a b : Nat} (h : ∀ k, a.testBit k = true → b.testBit k = true) : andn a b = 0 := by
  apply Nat.eq_of_testBit_eq
  intro i
  rw [andn_bit, Nat.zero_testBit]
  cases ha : a.testBit i
  · rfl
  · rw [h i ha]; rfl
end Go.Proofs.YtdhogcklnehdhaaGreatDoor
namespace Go.Proofs.YtdhogcklnehdhaaGreatDoor
set_option linter.unusedSimpArgs false
set_option linter.unusedVariables false
set_option linter.unnecessarySimpa false
set_option linter.unusedSectionVars false
set_option maxRecDepth 100000
open Go Go.RowKit Go.Proofs.Grow
/-- A claim: its topic and its value. -/
abbrev Cl := Int × Int
def okC (x : Cl) : Bool := decide (0 ≤ x.1) && decide (x.1 < 8) && (decide (0 ≤ x.2) && decide (x.2 ≤ 15))
def ltC (x y : Cl) : Bool := decide (x.1 < y.1) || (decide (x.1 = y.1) && decide (x.2 < y.2))
def ctrC (x y : Cl) : Bool := decide (x.1 = y.1) && decide (x.2 ≠ y.2)
def consC (l : List Cl) : Bool := l.all fun x => l.all fun y => !ctrC x y
def hasC (l : List Cl) (x : Cl) : Bool := decide (x ∈ l)
def Asc (l : List Cl) : Prop := l.Pairwise fun x y => ltC x y = true
structure PlC (l : List Cl) : Prop where
  ok : ∀ x ∈ l, okC x = true
  asc : Asc l
def allC : List Cl := (List.range 8).flatMap fun (a : Nat) => (List.range 16).map fun (b : Nat) => (((a : Int), (b : Int)) : Cl)
/-- The claims of a list, ascending. -/
def sortC (l : List Cl) : List Cl := allC.filter fun x => hasC l x
theorem mem_all {x : Cl} : x ∈ allC ↔ okC x = true := by
  unfold allC okC
  simp only [List.mem_flatMap, List.mem_range, List.mem_map, Bool.and_eq_true, decide_eq_true_eq]
  constructor
  · rintro ⟨a, ha, b, hb, rfl⟩
    dsimp only
    omega
  · rintro ⟨⟨h1, h2⟩, h3, h4⟩
    refine ⟨x.1.toNat, by omega, x.2.toNat, by omega, ?_⟩
    apply Prod.ext
    · dsimp only; omega
    · dsimp only; omega
theorem ltC_irr {x : Cl} : ltC x x = false := by simp [ltC]
theorem ltC_tr {x y z : Cl} (h : ltC x y = true) (k : ltC y z = true) : ltC x z = true := by
  simp only [ltC, Bool.or_eq_true, Bool.and_eq_true, decide_eq_true_eq] at *
  omega
theorem ltC_tri {x y : Cl} (h : ltC x y = false) (k : ltC y x = false) : x = y := by
  simp only [ltC, Bool.or_eq_false_iff, Bool.and_eq_false_iff, decide_eq_false_iff_not] at *
  apply Prod.ext <;> omega
theorem ltC_as {x y : Cl} (h : ltC x y = true) : ltC y x = false := by
  cases e : ltC y x
  · rfl
  · have := ltC_tr h e; rw [ltC_irr] at this; cases this
theorem asc_all : Asc allC := by
  unfold Asc allC
  decide +kernel
theorem asc_sort (l : List Cl) : Asc (sortC l) := asc_all.sublist List.filter_sublist
theorem mem_sort {l : List Cl} {x : Cl} : x ∈ sortC l ↔ okC x = true ∧ x ∈ l := by
  unfold sortC hasC
  rw [List.mem_filter, mem_all, decide_eq_true_eq]
theorem plc_sort (l : List Cl) : PlC (sortC l) := ⟨fun x hx => (mem_sort.1 hx).1, asc_sort l⟩
theorem asc_ext : ∀ {a b : List Cl}, Asc a → Asc b → (∀ x, x ∈ a ↔ x ∈ b) → a = b
  | [], [], _, _, _ => rfl
  | [], y :: b, _, _, h => by have := (h y).2 (by simp); simp at this
  | x :: a, [], _, _, h => by have := (h x).1 (by simp); simp at this
  | x :: a, y :: b, ha, hb, h => by
    obtain ⟨a1, a2⟩ := List.pairwise_cons.1 ha
    obtain ⟨b1, b2⟩ := List.pairwise_cons.1 hb
    have hxy : x = y := by
      rcases List.mem_cons.1 ((h x).1 (by simp)) with e | h1
      · exact e
      · rcases List.mem_cons.1 ((h y).2 (by simp)) with e | h2
        · exact e.symm
        · have := ltC_tr (b1 x h1) (a1 y h2); rw [ltC_irr] at this; cases this
    subst hxy
    rw [asc_ext a2 b2 fun z => ?_]
    constructor
    · intro hz
      rcases List.mem_cons.1 ((h z).1 (by simp [hz])) with e | h1
      · subst e; have := a1 z hz; rw [ltC_irr] at this; cases this
      · exact h1
    · intro hz
      rcases List.mem_cons.1 ((h z).2 (by simp [hz])) with e | h1
      · subst e; have := b1 z hz; rw [ltC_irr] at this; cases this
      · exact h1
theorem sort_plc {l : List Cl} (h : PlC l) : sortC l = l :=
  asc_ext (asc_sort l) h.asc fun x => by rw [mem_sort]; exact ⟨fun q => q.2, fun q => ⟨h.ok x q, q⟩⟩
theorem sort_len (l : List Cl) : (sortC l).length ≤ 128 := Nat.le_trans (List.length_filter_le _ _) (by decide +kernel)
theorem PlC.len {l : List Cl} (h : PlC l) : l.length ≤ 128 := by rw [← sort_plc h]; exact sort_len l
theorem PlC.nil : PlC [] := ⟨by simp, List.Pairwise.nil⟩
theorem plc_one {x : Cl} (h : okC x = true) : PlC [x] := ⟨by simpa using h, by simp [Asc]⟩
theorem cons_iff {l : List Cl} : consC l = true ↔ ∀ x ∈ l, ∀ y ∈ l, ctrC x y = false := by
  unfold consC
  simp only [List.all_eq_true, Bool.not_eq_true']
theorem ctr_comm (x y : Cl) : ctrC x y = ctrC y x := by
  simp only [ctrC, eq_comm, ne_eq]
theorem ctr_self (x : Cl) : ctrC x x = false := by simp [ctrC]
theorem cons_put {l : List Cl} {x : Cl} : consC (l ++ [x]) = true ↔ consC l = true ∧ ∀ y ∈ l, ctrC x y = false := by
  rw [cons_iff, cons_iff]
  constructor
  · intro h
    exact ⟨fun a ha b hb => h a (by simp [ha]) b (by simp [hb]), fun y hy => h x (by simp) y (by simp [hy])⟩
  · rintro ⟨h1, h2⟩ a ha b hb
    rcases List.mem_append.1 ha with ha | ha <;> rcases List.mem_append.1 hb with hb | hb
    · exact h1 a ha b hb
    · obtain rfl := List.mem_singleton.1 hb; rw [ctr_comm]; exact h2 a (by assumption)
    · obtain rfl := List.mem_singleton.1 ha; exact h2 b (by assumption)
    · obtain rfl := List.mem_singleton.1 ha; obtain rfl := List.mem_singleton.1 hb; exact ctr_self _
theorem cons_sub {a b : List Cl} (h : ∀ x ∈ a, x ∈ b) (hb : consC b = true) : consC a = true :=
  cons_iff.2 fun x hx y hy => cons_iff.1 hb x (h x hx) y (h y hy)
theorem plc_sub_len {a b : List Cl} (ha : PlC a) (h : ∀ x ∈ a, x ∈ b) (hab : a ≠ b) (hb : PlC b) : a.length < b.length := by
  have h1 : a = b.filter fun x => hasC a x := asc_ext ha.asc (hb.asc.sublist List.filter_sublist) fun x => by
    rw [List.mem_filter]; simp only [hasC, decide_eq_true_eq]; exact ⟨fun q => ⟨h x q, q⟩, fun q => q.2⟩
  rcases Nat.lt_or_ge a.length b.length with h2 | h2
  · exact h2
  · have h3 : (b.filter fun x => hasC a x).length = b.length := Nat.le_antisymm (List.length_filter_le _ _) (by rw [← h1]; exact h2)
    have h4 : b.filter (fun x => hasC a x) = b := by
      apply List.filter_sublist.eq_of_length h3
    exact absurd (h1.trans h4) hab
theorem plc_sub_le {a b : List Cl} (ha : PlC a) (h : ∀ x ∈ a, x ∈ b) (hb : PlC b) : a.length ≤ b.length := by
  rcases Classical.em (a = b) with e | e
  · rw [e]; exact Nat.le_refl _
  · exact Nat.le_of_lt (plc_sub_len ha h e hb)
end Go.Proofs.YtdhogcklnehdhaaGreatDoor
namespace Go.Proofs.Grow
set_option linter.unusedSimpArgs false
set_option linter.unusedVariables false
set_option linter.unnecessarySimpa false
set_option linter.unusedSectionVars false
set_option maxRecDepth 100000
open Go Go.RowKit
section
variable {P : Program} {ops : Array Oper}
/-- Every operation waits for earlier ones alone. -/
def backB (ops : Array Oper) : Bool := (List.range ops.size).all fun i => ((ops[i]?).map fun o => o.after.all fun e => !Region.binds .any e || decide (e.on < i)).getD true
/-- What one operation does: it gives a value, or calls what returns one. -/
def GivesF (P : Program) (o : Oper) (a : Act) (w : World) (R : Value → World → Prop) : Prop :=
  match (execOp a.eval o).run P w with
  | .ok (.value v) w2 => R v w2
  | .ok .skip w2 => R undef w2
  | .ok (.enter f args) w2 => Calls P f args w2 fun e w3 => ∃ v, e = .returned v ∧ R v w3
  | _ => False
theorem GivesF.wp {o : Oper} {a b : Act} {w : World} {R : Value → World → Prop} {K : Act → World → Prop} {Q : Exit → Act → World → Prop} (he : execOp a.eval o = execOp b.eval o) (h : GivesF P o b w R)
    (hK : ∀ v w2, R v w2 → K (a.put o.dst v) w2) : o.wp P a w K Q := by
  unfold Oper.wp
  rw [he]
  unfold GivesF at h
  generalize (execOp b.eval o).run P w = r at *
  cases r with
  | ok n w2 =>
    cases n <;> simp only [Oper.upon] at h ⊢
    case value v => exact hK _ _ h
    case skip => exact hK _ _ h
    case enter f args =>
      refine Calls.mono h fun e w3 ⟨v, he, hr⟩ => ?_
      subst he; exact hK _ _ hr
  | halt x w2 => exact h.elim
theorem put_size (a : Act) (d : Option Tmp) (v : Value) : (a.put d v).tmps.size = a.tmps.size := by
  cases d <;> simp [Act.put]
theorem put_same (a : Act) (d : Tmp) (v : Value) (h : d < a.tmps.size) : (a.put (some d) v).tmps.getD d undef = v := by
  simp [Act.put, h]
theorem put_other (a : Act) (d : Option Tmp) (v : Value) (e : Tmp) (h : d ≠ some e) : (a.put d v).tmps.getD e undef = a.tmps.getD e undef := by
  cases d with
  | none => simp [Act.put]
  | some d =>
    have : d ≠ e := fun q => h (by rw [q])
    simp [Act.put, Array.getElem?_setIfInBounds_ne this]
theorem put_defers' (a : Act) (d : Option Tmp) (v : Value) : (a.put d v).defers = a.defers := by
  cases d <;> simp [Act.put]
theorem getD_out (x : Array Value) (t : Nat) (h : ¬ t < x.size) : x.getD t undef = undef := by simp [Array.getD, h]
theorem all_range {n : Nat} {p : Nat → Bool} (h : (List.range n).all p = true) {i : Nat} (hi : i < n) : p i = true := List.all_eq_true.1 h i (List.mem_range.2 hi)
theorem getD_set_self {s : Array Bool} {i : Nat} (h : i < s.size) : (s.setIfInBounds i true).getD i false = true := by simp [h]
theorem getD_set_iff {s : Array Bool} {i j : Nat} (h : (s.setIfInBounds i true).getD j false = true) (hij : j ≠ i) : s.getD j false = true := by
  rwa [getD_set_ne false (Ne.symm hij)] at h
end
end Go.Proofs.Grow
