/- Nothing is claimed here: general laws on rows of elements of some cells each, read and appended to. -/
import Derived.Test.YtbfafljcclfeaaaGreatDoorGrow
import Derived.Laws.AppendOwn
import Derived.OwnWalk
namespace Go.Proofs.Grow
set_option linter.unusedSimpArgs false
set_option linter.unusedVariables false
set_option linter.unnecessarySimpa false
set_option linter.unusedSectionVars false
set_option maxRecDepth 100000
open Go Go.RowKit

section
variable {α : Type} [Inhabited α]

/-- The cells of a list of elements. -/
def cellsL (enc : α → List Value) (l : List α) : List Value := l.flatMap enc
theorem cellsL_snoc (enc : α → List Value) (l : List α) (x : α) : cellsL enc (l ++ [x]) = cellsL enc l ++ enc x := by simp [cellsL]
theorem cellsL_length {enc : α → List Value} {sz : Nat} (henc : ∀ x, (enc x).length = sz) (l : List α) : (cellsL enc l).length = l.length * sz := by
  induction l with
  | nil => simp [cellsL]
  | cons x l ih => simp only [cellsL, List.flatMap_cons, List.length_append, List.length_cons] at *; rw [ih, henc, Nat.add_mul]; omega
theorem cellsL_get {enc : α → List Value} {sz : Nat} (henc : ∀ x, (enc x).length = sz) (l : List α) (i j : Nat) (hi : i < l.length) (hj : j < sz) :
    (cellsL enc l)[i * sz + j]? = (enc (nth l i))[j]? := by
  induction l generalizing i with
  | nil => simp at hi
  | cons x l ih =>
    cases i with
    | zero =>
      have : nth (x :: l) 0 = x := by simp [nth]
      rw [this]
      simp only [cellsL, List.flatMap_cons, Nat.zero_mul, Nat.zero_add]
      rw [List.getElem?_append_left (by rw [henc]; exact hj)]
    | succ i =>
      have : nth (x :: l) (i + 1) = nth l i := by simp [nth]
      rw [this]
      have hi' : i < l.length := by simpa using hi
      rw [← ih i hi']
      simp only [cellsL, List.flatMap_cons]
      rw [List.getElem?_append_right (by rw [henc, Nat.add_mul]; omega), henc]
      congr 1
      rw [Nat.add_mul]; omega

/-- A slice of address a reads as the list l. -/
def Sl (w : World) (enc : α → List Value) (sz : Nat) (a : Option Addr) (l : List α) : Prop :=
  l = [] ∨ ∃ b off, a = some ⟨b, off, none⟩ ∧ b < w.heap.size ∧ ∀ i j, i < l.length → j < sz → w.cell? ⟨b, off + i * sz + j, none⟩ = (enc (nth l i))[j]?
theorem Sl.nil (w : World) (enc : α → List Value) (sz : Nat) (a : Option Addr) : Sl w enc sz a [] := .inl rfl
theorem Sl.ex {w w' : World} {enc : α → List Value} {sz : Nat} {a : Option Addr} {l : List α} (h : Sl w enc sz a l) (hx : Ex w w') : Sl w' enc sz a l := by
  rcases h with h | ⟨b, off, rfl, hb, hc⟩
  · exact .inl h
  · exact .inr ⟨b, off, rfl, hx.lt hb, fun i j hi hj => by rw [hx.rules.1 b _ hb]; exact hc i j hi hj⟩
theorem Sl.later {w w' : World} {enc : α → List Value} {sz : Nat} {a : Option Addr} {l : List α} (hx : Ex w w') (h : Sl w enc sz a l) : Sl w' enc sz a l := h.ex hx
theorem Sl.exb {w w' : World} {enc : α → List Value} {sz c : Nat} {a : Option Addr} {l : List α} (h : Sl w enc sz a l) (hx : Exb c w w') (hc : ∀ x, a = some x → x.block ≠ c) : Sl w' enc sz a l := by
  rcases h with h | ⟨b, off, rfl, hb, hcell⟩
  · exact .inl h
  · exact .inr ⟨b, off, rfl, Nat.lt_of_lt_of_le hb hx.size, fun i j hi hj => by rw [hx.rules.1 b _ hb (hc _ rfl)]; exact hcell i j hi hj⟩

/-- A slice value of the call's own: a row in a block from base on that reads as the list l. -/
def Own (w : World) (base : Nat) (t : TypeId) (enc : α → List Value) (sz : Nat) (v : Value) (l : List α) : Prop := w.ownsRow base t sz v l.length (cellsL enc l)
theorem Own.nil (w : World) (base : Nat) (t : TypeId) (enc : α → List Value) (sz : Nat) : Own w base t enc sz (.slice none 0 0) ([] : List α) := World.ownsRow_nil w base t sz
theorem grown_of_ex {w w' : World} (h : Ex w w') (row : Option Nat) : w.grownBy w' row := ⟨h.os, h.tape, h.output, h.size, fun k hk _ => h.block k hk⟩
theorem grown_of_exb {b : Nat} {w w' : World} (h : Exb b w w') : w.grownBy w' (some b) := ⟨h.os, h.tape, h.output, h.size, fun k hk hb => h.block k hk (fun e => hb (by rw [e]))⟩
section
variable {w w' : World} {base sz : Nat} {t : TypeId} {enc : α → List Value} {v : Value} {l : List α}
theorem Own.ex (h : Own w base t enc sz v l) (hx : Ex w w') : Own w' base t enc sz v l := World.ownsRow.kept h (grown_of_ex hx none) (by cases hv : v.ownBlock <;> simp)
theorem Own.exb {b : Nat} (h : Own w base t enc sz v l) (hx : Exb b w w') (hb : b < base) : Own w' base t enc sz v l :=
  World.ownsRow.kept h (grown_of_exb hx) (by
    cases hv : v.ownBlock with
    | none => exact .inl rfl
    | some k =>
      have := World.ownsRow.lt h k hv
      right; intro e
      have : k = b := by simpa using e
      omega)
theorem Own.later (hx : Ex w w') (h : Own w base t enc sz v l) : Own w' base t enc sz v l := h.ex hx
/-- What the slice reads as. -/
theorem Own.sl (h : Own w base t enc sz v l) (henc : ∀ x, (enc x).length = sz) : ∃ a cap, v = .slice a l.length cap ∧ l.length ≤ cap ∧ Sl w enc sz a l ∧ ∀ x, a = some x → base ≤ x.block ∧ x.block < w.heap.size := by
  obtain ⟨hl, h2⟩ := h
  rcases h2 with ⟨rfl, hn⟩ | ⟨g, cap, cur, rfl, hb, hg, hn, hm, hs, htake⟩
  · have : l = [] := by simpa using hn
    subst this
    exact ⟨none, 0, rfl, Nat.le_refl _, .inl rfl, fun x hx => by cases hx⟩
  · have hlt := (Array.getElem?_eq_some_iff.1 hg).1
    refine ⟨some ⟨g, 0, none⟩, cap, rfl, hn, .inr ⟨g, 0, rfl, hlt, fun i j hi hj => ?_⟩, fun x hx => by cases hx; exact ⟨hb, hlt⟩⟩
    rw [← cellsL_get henc l i j hi hj, ← htake]
    have hb2 : i * sz + j < l.length * sz := by
      have : (i + 1) * sz ≤ l.length * sz := Nat.mul_le_mul_right _ hi
      rw [Nat.add_mul] at this; omega
    rw [List.getElem?_take_of_lt hb2]
    simp only [Nat.zero_add, World.cell?, hg]
    simp
theorem Ex.grown {w0 : World} (h : Ex w0 w) (ho : Own w base t enc sz v l) (hb : w0.heap.size ≤ base) (hg : w.grownBy w' v.ownBlock) : Ex w0 w' :=
  ⟨hg.os.trans h.os, hg.tape.trans h.tape, hg.output.trans h.output, Nat.le_trans h.size hg.size, fun k hk => (hg.block k (Nat.lt_of_lt_of_le hk h.size) (fun e => by
    have := World.ownsRow.lt ho k e.symm; omega)).trans (h.block k hk)⟩
theorem Exb.grown {b : Nat} {w0 : World} (h : Exb b w0 w) (ho : Own w base t enc sz v l) (hb : w0.heap.size ≤ base) (hg : w.grownBy w' v.ownBlock) : Exb b w0 w' :=
  ⟨hg.os.trans h.os, hg.tape.trans h.tape, hg.output.trans h.output, Nat.le_trans h.size hg.size, fun k hk hkb => (hg.block k (Nat.lt_of_lt_of_le hk h.size) (fun e => by
    have := World.ownsRow.lt ho k e.symm; omega)).trans (h.block k hk hkb)⟩
theorem Box.grown {c : Nat} {vs : List Value} {u : TypeId} (h : Box w c vs u) (ho : Own w base t enc sz v l) (hc : c < base) (hg : w.grownBy w' v.ownBlock) : Box w' c vs u := by
  have := hg.block c h.lt (fun e => by have := World.ownsRow.lt ho c e.symm; omega)
  unfold Box at *; rw [this]; exact h
end
end
theorem cell_old {w w' : World} {row : Option Nat} (hg : w.grownBy w' row) {c o : Nat} {v : Value} (h : w.cell? ⟨c, o, none⟩ = some v) (hne : some c ≠ row) : w'.cell? ⟨c, o, none⟩ = some v := World.grownBy.cell hg h hne

theorem Own.alloc {α : Type} [Inhabited α] {w : World} {base sz : Nat} {t : TypeId} {enc : α → List Value} {v : Value} {l : List α} (h : Own w base t enc sz v l) (o : Obj) : Own (w.alloc o) base t enc sz v l := h.ex ((Ex.refl w).alloc o)
theorem Own.drew {α : Type} [Inhabited α] {w : World} {base sz : Nat} {t : TypeId} {enc : α → List Value} {v : Value} {l : List α} (h : Own w base t enc sz v l) : Own w.drew base t enc sz v l := h.ex (Ex.refl w).drew
/-- 'l = append(l, y)', y lying in a block of its own. -/
theorem append_one {α : Type} [Inhabited α] {P : Program} {w : World} {ops : Array Oper} {rest : List Oper} {o : Oper} {a : Act} {Q : Exit → Act → World → Prop} (enc : α → List Value) (hgd : o.guard = none) (s x : Operand) (t : TypeId)
    (ho : o.op = .call { callee := .builtin .append, args := #[s, x], argTypes := #[t, t] })
    (base : Nat) (e : TypeId) (z : Value) (sz bytes : Nat) (hinfo : (P.info? e).map (fun i => (i.zero, i.size, i.bytes)) = some (some z, sz, bytes)) (ht : P.underlying t = some (.slice e))
    (hzs : z.cells.size = sz) (hsz : 0 < sz) (henc : ∀ x, (enc x).length = sz)
    (v : Value) (l : List α) (y : α) (g c : Nat) (u : TypeId) (hs : a.eval s = v) (hx : a.eval x = .slice (some ⟨g, 0, none⟩) 1 c) (hown : Own w base e enc sz v l) (hbox : Box w g (enc y) u)
    (h1 : ∀ u ∈ enc y, u.oneCell' = true) (h63 : l.length + 1 ≤ maxLen) (hbytes : (l.length + 1) * bytes ≤ 140737488355328) (hbase : base ≤ w.heap.size)
    (h : ∀ v' w', Own w' base e enc sz v' (l ++ [y]) → w.grownBy w' v.ownBlock → wpList P ops Q rest (a.put o.dst v') w') : wpList P ops Q (o :: rest) a w := by
  obtain ⟨i, hi, hz, h2, h3⟩ := info_parts hinfo
  refine wpList_append_own w hgd s x t ho base e i z sz bytes ht hi hz h2 h3 hzs hsz v l.length (cellsL enc l) hs hown ⟨g, 0, none⟩ 1 c (enc y) hx (by rw [henc]; omega) (fun j u hj => ?_) h1 h63 hbytes hbase (fun v' w' ho' hg _ => h v' w' ?_ hg)
  · have : (⟨g, 0, none⟩ : Addr).add j = ⟨g, j, none⟩ := by unfold Addr.add; split <;> simp_all
    rw [this]; exact hbox.cell j u hj
  · unfold Own; rw [cellsL_snoc]; simpa using ho'
end Go.Proofs.Grow
