/- Nothing is claimed here: general laws on worlds that only grow, and on a region whose head reads and calls, and whose tail is in one order. -/
import Derived.Lib.QuietBelow
import Derived.StillTail
import Derived.StillTailTactics
import Derived.WalkKit
import Derived.Handy
import Derived.Test.YtkjpnmodlmlhdaaGreatDoorRows
import Derived.WalkSpells
import Derived.WalkLawsBesides
import Derived.Lib.Hide
import Derived.BigQuiet
import Derived.Deep.QuietTactic
import Derived.Deep.LoopGhost
import Derived.Laws.AppendOwn
import Derived.OwnWalk
import Derived.Laws.RangeAny
namespace Go.Proofs.Grow
set_option linter.unusedSimpArgs false
set_option linter.unusedVariables false
set_option linter.unnecessarySimpa false
set_option linter.unusedSectionVars false
set_option maxRecDepth 100000
open Go Go.RowKit
/-- Nothing that was there has changed. -/
def Ex (w w' : World) : Prop := Below w.heap.size w w'
theorem Ex.refl (w : World) : Ex w w := Below.refl _ _
theorem Ex.trans {a b c : World} (h : Ex a b) (k : Ex b c) : Ex a c := Below.trans h (Below.mono k h.size)
theorem Ex.alloc {a b : World} (h : Ex a b) (o : Obj) : Ex a (b.alloc o) := Below.alloc h h.size o
theorem Ex.sz {W w1 : World} (hb : Ex W w1) : W.heap.size ≤ w1.heap.size := hb.size
theorem Ex.rules {W w1 : World} (hb : Ex W w1) : (∀ b o, b < W.heap.size → w1.cell? ⟨b, o, none⟩ = W.cell? ⟨b, o, none⟩) ∧ (∀ b o, b < W.heap.size → w1.frozen? ⟨b, o, none⟩ = W.frozen? ⟨b, o, none⟩) :=
  ⟨fun b o h => Below.cell hb (p := ⟨b, o, none⟩) h, fun b o h => Below.frozen hb (p := ⟨b, o, none⟩) h⟩
section
variable {P : Program} {ops : Array Oper} {md : Region.Mode} {C : World → Prop}
end
/-- The class 'w grown'. -/
def In (w : World) (w' : World) : Prop := ∃ p : Regrown, w' = Sort.grow (redrawn w p.d) p.os
theorem In.ex {w w' : World} (h : In w w') : Ex w w' := by obtain ⟨p, rfl⟩ := h; exact below_regrown _ _ _
/-- The element at a place. -/
def nth {α : Type} [Inhabited α] (l : List α) (k : Nat) : α := l.getD k default
theorem drop_nth {α : Type} [Inhabited α] (l : List α) (k : Nat) (h : k < l.length) : l.drop k = nth l k :: l.drop (k + 1) := by
  rw [List.drop_eq_getElem_cons h]; simp [nth, h]
theorem nth_getElem {α : Type} [Inhabited α] (l : List α) (k : Nat) (h : k < l.length) : nth l k = l[k] := by simp [nth, h]
theorem nth_mem {α : Type} [Inhabited α] (l : List α) (k : Nat) (h : k < l.length) : nth l k ∈ l := by rw [nth_getElem l k h]; exact List.getElem_mem h
theorem Ex.setCell {a b : World} (h : Ex a b) {p : Addr} (hp : a.heap.size ≤ p.block) (v : Value) : Ex a (b.setCell p v) := Below.setCell h hp v
theorem Ex.lt {W w1 : World} (h : Ex W w1) {b : Nat} (hb : b < W.heap.size) : b < w1.heap.size := Nat.lt_of_lt_of_le hb h.size
theorem Ex.at_ {W w1 : World} (h : Ex W w1) {b : Nat} (hb : b < W.heap.size) : w1.heap[b]? = W.heap[b]? := h.block b hb
/-- Block b is these cells, none of them frozen. -/
def Box (w : World) (b : Nat) (vs : List Value) (t : TypeId) : Prop := w.heap[b]? = some (.cells vs.toArray t (0, 0))
theorem Box.lt {w : World} {b : Nat} {vs : List Value} {t : TypeId} (h : Box w b vs t) : b < w.heap.size := by
  unfold Box at h
  rcases Nat.lt_or_ge b w.heap.size with k | k
  · exact k
  · rw [Array.getElem?_eq_none k] at h; cases h
theorem Box.cell {w : World} {b : Nat} {vs : List Value} {t : TypeId} (h : Box w b vs t) (i : Nat) (v : Value) (hv : vs[i]? = some v) : w.cell? ⟨b, i, none⟩ = some v := by
  unfold World.cell?; unfold Box at h; simp [h, hv]
theorem Box.free {w : World} {b : Nat} {vs : List Value} {t : TypeId} (h : Box w b vs t) (o : Nat) : w.frozen? ⟨b, o, none⟩ = false := by
  unfold World.frozen?; unfold Box at h; simp [h]
theorem Box.alloc {w : World} {b : Nat} {vs : List Value} {t : TypeId} (h : Box w b vs t) (o : Obj) : Box (w.alloc o) b vs t := by
  have := h.lt
  unfold Box World.alloc at *; rw [← h]; simp [Array.getElem?_push]; omega
theorem Box.ex {w w' : World} {b : Nat} {vs : List Value} {t : TypeId} (h : Box w b vs t) (hx : Ex w w') : Box w' b vs t := by
  have := hx.at_ h.lt; unfold Box at *; rw [this]; exact h
theorem Box.set {w : World} {b : Nat} {vs vs' : List Value} {t : TypeId} (h : Box w b vs t) (i : Nat) (v : Value) (e : vs.set i v = vs') : Box (w.setCell ⟨b, i, none⟩ v) b vs' t := by
  have hl := h.lt
  unfold Box at *
  subst e
  simp [World.setCell, Array.getElem?_modify, h]
theorem Ex.after {a b c : World} (k : Ex b c) (h : Ex a b) : Ex a c := h.trans k
/-- Nothing that was there has changed but block b. -/
structure Exb (b : Nat) (w w' : World) : Prop where
  os : w'.os = w.os
  tape : w'.tape = w.tape
  output : w'.output = w.output
  size : w.heap.size ≤ w'.heap.size
  block : ∀ k, k < w.heap.size → k ≠ b → w'.heap[k]? = w.heap[k]?
theorem Exb.refl (b : Nat) (w : World) : Exb b w w := ⟨rfl, rfl, rfl, Nat.le_refl _, fun _ _ _ => rfl⟩
theorem Exb.of {b : Nat} {w w' : World} (h : Ex w w') : Exb b w w' := ⟨h.os, h.tape, h.output, h.size, fun k hk _ => h.block k hk⟩
theorem Exb.trans {b : Nat} {w w1 w2 : World} (h : Exb b w w1) (k : Exb b w1 w2) : Exb b w w2 :=
  ⟨k.os.trans h.os, k.tape.trans h.tape, k.output.trans h.output, Nat.le_trans h.size k.size, fun i hi hb => (k.block i (Nat.lt_of_lt_of_le hi h.size) hb).trans (h.block i hi hb)⟩
theorem Exb.after {b : Nat} {w w1 w2 : World} (k : Exb b w1 w2) (h : Exb b w w1) : Exb b w w2 := h.trans k
theorem Exb.alloc {b : Nat} {w w1 : World} (h : Exb b w w1) (o : Obj) : Exb b w (w1.alloc o) := h.trans (.of ((Ex.refl w1).alloc o))
theorem Exb.set {b : Nat} {w w1 : World} (o : Nat) (v : Value) (h : Exb b w w1) : Exb b w (w1.setCell ⟨b, o, none⟩ v) :=
  h.trans ⟨rfl, rfl, rfl, by simp, fun k _ hb => by simp [World.setCell, Array.getElem?_modify, Ne.symm hb]⟩
theorem Exb.rules {b : Nat} {W w1 : World} (hb : Exb b W w1) : (∀ c o, c < W.heap.size → c ≠ b → w1.cell? ⟨c, o, none⟩ = W.cell? ⟨c, o, none⟩) ∧ (∀ c o, c < W.heap.size → c ≠ b → w1.frozen? ⟨c, o, none⟩ = W.frozen? ⟨c, o, none⟩) :=
  ⟨fun c o h hc => by simp only [World.cell?]; rw [hb.block c h hc], fun c o h hc => by simp only [World.frozen?]; rw [hb.block c h hc]⟩
theorem cell_lt {w : World} {c o : Nat} {v : Value} (h : w.cell? ⟨c, o, none⟩ = some v) : c < w.heap.size := by
  unfold World.cell? at h
  rcases Nat.lt_or_ge c w.heap.size with k | k
  · exact k
  · simp only [Array.getElem?_eq_none k] at h; cases h
end Go.Proofs.Grow
/- Contracts of package cmp's functions at int and string: Compare gives -1, 0 or 1 by the order, Or the first number that is not 0; each leaves the world as it was. -/
namespace Go.Proofs.YtkjpnmodlmlhdaaGreatDoor
set_option linter.unusedSimpArgs false
set_option linter.unusedVariables false
set_option linter.unnecessarySimpa false
set_option linter.unusedSectionVars false
set_option maxRecDepth 100000
open Go.RowKit Go.Proofs.Grow Go.Sort
def cmpI (x y : Int) : Int := if x < y then -1 else if y < x then 1 else 0
def cmpS (x y : ByteArray) : Int := if Op.bytesLess x.toList y.toList then -1 else if x.toList == y.toList then 0 else 1
/-- The number at a place. -/
def atI (zs : List Int) (k : Nat) : Int := zs.getD k 0
def orI : List Int → Int
  | [] => 0
  | x :: l => if x = 0 then orI l else x
theorem drop_at (zs : List Int) (k : Nat) (h : k < zs.length) : zs.drop k = atI zs k :: zs.drop (k + 1) := by
  rw [List.drop_eq_getElem_cons h]; simp [atI, h]
theorem cmp_int (x y : Int) (w : World) :
    Calls Tryz.prog 95 #[.int .i64 x, .int .i64 y] w fun e w' => e = .returned (.int .i64 (cmpI x y)) ∧ w = w' := by
  by_cases h1 : x < y
  · have e : cmpI x y = -1 := by simp [cmpI, h1]
    rw [e]; clear e
    go_enter Tryz.func95, Tryz.ntmps95
    go_wp2
    go_ret
    exact ⟨rfl, rfl⟩
  · by_cases h2 : y < x
    · have e : cmpI x y = 1 := by simp [cmpI, h1, h2]
      rw [e]; clear e
      go_enter Tryz.func95, Tryz.ntmps95
      go_wp2
      go_ret
      exact ⟨rfl, rfl⟩
    · have e : cmpI x y = 0 := by simp [cmpI, h1, h2]
      rw [e]; clear e
      go_enter Tryz.func95, Tryz.ntmps95
      go_wp2
      go_ret
      exact ⟨rfl, rfl⟩
theorem cmp_str (x y : ByteArray) (w : World) :
    Calls Tryz.prog 96 #[.string x, .string y] w fun e w' => e = .returned (.int .i64 (cmpS x y)) ∧ w = w' := by
  cases h1 : Op.bytesLess x.toList y.toList
  · cases h2 : (x.toList == y.toList)
    · have e : cmpS x y = 1 := by simp [cmpS, h1, h2]
      rw [e]; clear e
      have h3 : (!x.toList == y.toList) = true := by simp [h2]
      go_enter Tryz.func96, Tryz.ntmps96
      go_wp2
      go_ret
      exact ⟨rfl, rfl⟩
    · have e : cmpS x y = 0 := by simp [cmpS, h1, h2]
      rw [e]; clear e
      have h3 : (!x.toList == y.toList) = false := by simp [h2]
      go_enter Tryz.func96, Tryz.ntmps96
      go_wp2
      go_ret
      exact ⟨rfl, rfl⟩
  · have e : cmpS x y = -1 := by simp [cmpS, h1]
    rw [e]; clear e
    go_enter Tryz.func96, Tryz.ntmps96
    go_wp2
    go_ret
    exact ⟨rfl, rfl⟩
theorem or_int (b off cap : Nat) (zs : List Int) (w : World) (hl : zs.length ≤ 100) (hc : ∀ i, i < zs.length → w.cell? ⟨b, off + i, none⟩ = some (.int .i64 (atI zs i))) :
    Calls Tryz.prog 94 #[.slice (some ⟨b, off, none⟩) zs.length cap] w fun e w' => e = .returned (.int .i64 (orI zs)) ∧ w = w' := by
  have HC := Lib.hid hc; clear hc
  go_enter Tryz.func94, Tryz.ntmps94
  go_wp2
  go_loopg [5, 8] (zs.length) (fun m _ i wr => w = wr ∧ ∃ k : Nat, k + m = zs.length ∧ i = .int .i64 k ∧ Hid (orI zs = orI (zs.drop k)))
  case atStart => exact ⟨rfl, 0, by omega, rfl, Lib.hid rfl⟩
  case round =>
    obtain ⟨rfl, k, hk, rfl, hz⟩ := hrel
    by_cases hlt : k < zs.length
    · have hcell := HC.out k hlt
      have hd := drop_at zs k hlt
      by_cases hne : atI zs k = 0
      · have hb : (atI zs k == 0) = true := by simpa using hne
        have hz2 : Hid (orI zs = orI (zs.drop (k + 1))) := by rw [hz.out, hd, orI, if_pos hne]; exact Lib.hid rfl
        clear hz hd
        go_wp2
        go_roundg (gk - 1)
        case measure => omega
        case rel => exact ⟨rfl, k + 1, by omega, by go_num, hz2⟩
      · have hb : (atI zs k != 0) = true := by simpa using hne
        have hz2 : Hid (orI zs = atI zs k) := by rw [hz.out, hd, orI, if_neg hne]; exact Lib.hid rfl
        clear hz hd
        go_wp2
        go_ret
        exact ⟨by rw [hz2.out]; rfl, rfl⟩
    · have hz2 : Hid (orI zs = 0) := by rw [hz.out, List.drop_of_length_le (by omega)]; exact Lib.hid rfl
      clear hz
      go_wp2
      go_ret
      exact ⟨by rw [hz2.out]; rfl, rfl⟩
end Go.Proofs.YtkjpnmodlmlhdaaGreatDoor
/- Nothing is claimed here: general laws on rows of elements of some cells each, read and appended to. -/
namespace Go.Proofs.Grow
set_option linter.unusedSimpArgs false
set_option linter.unusedVariables false
set_option linter.unnecessarySimpa false
set_option linter.unusedSectionVars false
set_option maxRecDepth 100000
open Go Go.RowKit
section
variable {α : Type} [Inhabited α]
/-- The cells of a list of elements. -/
def cellsL (enc : α → List Value) (l : List α) : List Value := l.flatMap enc
theorem cellsL_get {enc : α → List Value} {sz : Nat} (henc : ∀ x, (enc x).length = sz) (l : List α) (i j : Nat) (hi : i < l.length) (hj : j < sz) :
    (cellsL enc l)[i * sz + j]? = (enc (nth l i))[j]? := by
  induction l generalizing i with
  | nil => simp at hi
  | cons x l ih =>
    cases i with
    | zero =>
      have : nth (x :: l) 0 = x := by simp [nth]
      rw [this]
      simp only [cellsL, List.flatMap_cons, Nat.zero_mul, Nat.zero_add]
      rw [List.getElem?_append_left (by rw [henc]; exact hj)]
    | succ i =>
      have : nth (x :: l) (i + 1) = nth l i := by simp [nth]
      rw [this]
      have hi' : i < l.length := by simpa using hi
      rw [← ih i hi']
      simp only [cellsL, List.flatMap_cons]
      rw [List.getElem?_append_right (by rw [henc, Nat.add_mul]; omega), henc]
      congr 1
      rw [Nat.add_mul]; omega
/-- A slice of address a reads as the list l. -/
def Sl (w : World) (enc : α → List Value) (sz : Nat) (a : Option Addr) (l : List α) : Prop :=
  l = [] ∨ ∃ b off, a = some ⟨b, off, none⟩ ∧ b < w.heap.size ∧ ∀ i j, i < l.length → j < sz → w.cell? ⟨b, off + i * sz + j, none⟩ = (enc (nth l i))[j]?
theorem Sl.nil (w : World) (enc : α → List Value) (sz : Nat) (a : Option Addr) : Sl w enc sz a [] := .inl rfl
theorem Sl.ex {w w' : World} {enc : α → List Value} {sz : Nat} {a : Option Addr} {l : List α} (h : Sl w enc sz a l) (hx : Ex w w') : Sl w' enc sz a l := by
  rcases h with h | ⟨b, off, rfl, hb, hc⟩
  · exact .inl h
  · exact .inr ⟨b, off, rfl, hx.lt hb, fun i j hi hj => by rw [hx.rules.1 b _ hb]; exact hc i j hi hj⟩
/-- A slice value of the call's own: a row in a block from base on that reads as the list l. -/
def Own (w : World) (base : Nat) (t : TypeId) (enc : α → List Value) (sz : Nat) (v : Value) (l : List α) : Prop := w.ownsRow base t sz v l.length (cellsL enc l)
theorem Own.nil (w : World) (base : Nat) (t : TypeId) (enc : α → List Value) (sz : Nat) : Own w base t enc sz (.slice none 0 0) ([] : List α) := World.ownsRow_nil w base t sz
theorem grown_of_ex {w w' : World} (h : Ex w w') (row : Option Nat) : w.grownBy w' row := ⟨h.os, h.tape, h.output, h.size, fun k hk _ => h.block k hk⟩
section
variable {w w' : World} {base sz : Nat} {t : TypeId} {enc : α → List Value} {v : Value} {l : List α}
theorem Own.ex (h : Own w base t enc sz v l) (hx : Ex w w') : Own w' base t enc sz v l := World.ownsRow.kept h (grown_of_ex hx none) (by cases hv : v.ownBlock <;> simp)
/-- What the slice reads as. -/
theorem Own.sl (h : Own w base t enc sz v l) (henc : ∀ x, (enc x).length = sz) : ∃ a cap, v = .slice a l.length cap ∧ l.length ≤ cap ∧ Sl w enc sz a l ∧ ∀ x, a = some x → base ≤ x.block ∧ x.block < w.heap.size := by
  obtain ⟨hl, h2⟩ := h
  rcases h2 with ⟨rfl, hn⟩ | ⟨g, cap, cur, rfl, hb, hg, hn, hm, hs, htake⟩
  · have : l = [] := by simpa using hn
    subst this
    exact ⟨none, 0, rfl, Nat.le_refl _, .inl rfl, fun x hx => by cases hx⟩
  · have hlt := (Array.getElem?_eq_some_iff.1 hg).1
    refine ⟨some ⟨g, 0, none⟩, cap, rfl, hn, .inr ⟨g, 0, rfl, hlt, fun i j hi hj => ?_⟩, fun x hx => by cases hx; exact ⟨hb, hlt⟩⟩
    rw [← cellsL_get henc l i j hi hj, ← htake]
    have hb2 : i * sz + j < l.length * sz := by
      have : (i + 1) * sz ≤ l.length * sz := Nat.mul_le_mul_right _ hi
      rw [Nat.add_mul] at this; omega
    rw [List.getElem?_take_of_lt hb2]
    simp only [Nat.zero_add, World.cell?, hg]
    simp
end
end
theorem Own.alloc {α : Type} [Inhabited α] {w : World} {base sz : Nat} {t : TypeId} {enc : α → List Value} {v : Value} {l : List α} (h : Own w base t enc sz v l) (o : Obj) : Own (w.alloc o) base t enc sz v l := h.ex ((Ex.refl w).alloc o)
end Go.Proofs.Grow
/- Plain functions on accounts, as the program and the reference compute them, and laws on them. No program stands here. -/
namespace Go.Proofs.YtkjpnmodlmlhdaaGreatDoor
set_option linter.unusedSimpArgs false
set_option linter.unusedVariables false
set_option linter.unnecessarySimpa false
set_option linter.unusedSectionVars false
set_option maxRecDepth 100000
open Go.RowKit Go.Proofs.Grow Go.Sort
/-- The first place, from k on, of what a predicate holds of; -1 if there is none. -/
def idxF {α : Type} (p : α → Bool) : Nat → List α → Int
  | _, [] => -1
  | k, x :: r => if p x = true then (k : Int) else idxF p (k + 1) r
structure Acc where
  id : Int
  bal : Int
  seq : Int
instance : Inhabited Acc := ⟨⟨0, 0, 0⟩⟩
end Go.Proofs.YtkjpnmodlmlhdaaGreatDoor
/- Plain functions on trust lines and on ledgers' holdings, as the program and the reference compute them, and laws on them. No program stands here. -/
namespace Go.Proofs.YtkjpnmodlmlhdaaGreatDoor
set_option linter.unusedSimpArgs false
set_option linter.unusedVariables false
set_option linter.unnecessarySimpa false
set_option linter.unusedSectionVars false
set_option maxRecDepth 100000
open Go.RowKit Go.Proofs.Grow Go.Sort
structure Lin where
  acc : Int
  code : ByteArray
  iss : Int
  bal : Int
  lim : Int
instance : Inhabited Lin := ⟨⟨0, ⟨#[]⟩, 0, 0, 0⟩⟩
structure Off where
  id : Int
  seller : Int
  sc : ByteArray
  si : Int
  bc : ByteArray
  bi : Int
  amt : Int
  num : Int
  den : Int
instance : Inhabited Off := ⟨⟨0, 0, ⟨#[]⟩, 0, ⟨#[]⟩, 0, 0, 0, 0⟩⟩
end Go.Proofs.YtkjpnmodlmlhdaaGreatDoor
/- Plain functions on offers, as the program and the reference compute them. No program stands here. -/
namespace Go.Proofs.YtkjpnmodlmlhdaaGreatDoor
set_option linter.unusedSimpArgs false
set_option linter.unusedVariables false
set_option linter.unnecessarySimpa false
set_option linter.unusedSectionVars false
set_option maxRecDepth 100000
open Go.RowKit Go.Proofs.Grow Go.Sort
end Go.Proofs.YtkjpnmodlmlhdaaGreatDoor
/- Plain functions on networks, and laws on them. No program stands here. -/
namespace Go.Proofs.YtkjpnmodlmlhdaaGreatDoor
set_option linter.unusedSimpArgs false
set_option linter.unusedVariables false
set_option linter.unnecessarySimpa false
set_option linter.unusedSectionVars false
set_option maxRecDepth 100000
open Go Go.RowKit Go.Proofs.Grow Go.Sort
structure Pcl where
  due : Int
  src : Int
  dst : Int
  num : Int
  slot : Int
instance : Inhabited Pcl := ⟨⟨0, 0, 0, 0, 0⟩⟩
structure Net where
  pars : List Pcl
  next : Int
  parts : List Int
  dels : List Int
def bandI (a b : Int) : Int := IntKind.i64.wrap ((BitVec.ofInt 64 a &&& BitVec.ofInt 64 b).toNat : Int)
def borI (a b : Int) : Int := IntKind.i64.wrap ((BitVec.ofInt 64 a ||| BitVec.ofInt 64 b).toNat : Int)
def shlI (k : Int) : Int := IntKind.i64.wrap (1 * 2 ^ (min k.toNat 64))
def ltPc (a b : Pcl) : Prop := a.due < b.due ∨ (a.due = b.due ∧ (a.src < b.src ∨ (a.src = b.src ∧ (a.dst < b.dst ∨ (a.dst = b.dst ∧ a.num < b.num)))))
theorem cmpI_cases (a b : Int) : (a < b ∧ cmpI a b = -1) ∨ (a = b ∧ cmpI a b = 0) ∨ (b < a ∧ cmpI a b = 1) := by
  unfold cmpI
  split
  · exact .inl ⟨by assumption, rfl⟩
  · split
    · exact .inr (.inr ⟨by assumption, rfl⟩)
    · exact .inr (.inl ⟨by omega, rfl⟩)
def validS (s : Int) : Bool := decide (0 ≤ s) && decide (s < 1024)
def nodeB (n : Int) : Bool := decide (0 ≤ n) && decide (n < 10)
def partsN : Int → List Int → Bool
  | _, [] => true
  | seen, s :: r => (!(s == 0) && (validS s && (bandI seen s == 0))) && partsN (borI seen s) r
def partsB (l : List Int) : Bool := partsN 0 l && decide (l.length ≤ 10)
def wrongD (n : Int) : Bool := decide (n < 0) || decide (n > 20)
def delsB (l : List Int) : Bool := (decide (l.length = 0) || decide (l.length = 100)) && decide (idxF wrongD 0 l < 0)
/-- A parcel is right by itself, where the next number is q. -/
structure GoodP (q : Int) (x : Pcl) : Prop where
  src : 0 ≤ x.src ∧ x.src < 10
  dst : 0 ≤ x.dst ∧ x.dst < 10
  ne : ¬ x.src = x.dst
  due : 0 ≤ x.due ∧ x.due ≤ 220
  num : 0 ≤ x.num ∧ x.num < q
structure RightN (n : Net) : Prop where
  len : n.pars.length ≤ 4000
  n0 : 0 ≤ n.next
  n1 : n.next ≤ 1000000000
  parts : partsB n.parts = true
  dels : delsB n.dels = true
  each : ∀ x ∈ n.pars, GoodP n.next x
  srt : n.pars.Pairwise ltPc
def hasB (s x : Int) : Bool := validS s && (nodeB x && !(bandI s (shlI x) == 0))
end Go.Proofs.YtkjpnmodlmlhdaaGreatDoor
/- Plain laws of the statements on networks. No program stands here. -/
namespace Go.Proofs.YtkjpnmodlmlhdaaGreatDoor
set_option linter.unusedSimpArgs false
set_option linter.unusedVariables false
set_option linter.unnecessarySimpa false
set_option linter.unusedSectionVars false
set_option maxRecDepth 100000
open Go Go.RowKit Go.Proofs.Grow Go.Sort
/-- What NetworkKeeps' loops keep. -/
structure KeepI (T : Prop) (B : Int) (n : Net) (sent got lost : Int) : Prop where
  r : RightN n
  d : n.dels = []
  p : n.parts = [] ∨ n.parts = [3, 12]
  due : ∀ x ∈ n.pars, x.due ≤ 14
  late : T → n.pars = []
  sum : sent = got + lost + n.pars.length
  g0 : 0 ≤ got
  l0 : 0 ≤ lost
  nx : n.next ≤ B
  sB : sent ≤ B
theorem KeepI.mono {T T' : Prop} {B B' : Int} {n : Net} {sent got lost : Int} (h : KeepI T B n sent got lost) (ht : T' → T) (hb : B ≤ B') : KeepI T' B' n sent got lost :=
  ⟨h.r, h.d, h.p, h.due, fun t => h.late (ht t), h.sum, h.g0, h.l0, by have := h.nx; omega, by have := h.sB; omega⟩
def bnotI (a b : Int) : Int := IntKind.i64.wrap ((BitVec.ofInt 64 a &&& ~~~ BitVec.ofInt 64 b).toNat : Int)
end Go.Proofs.YtkjpnmodlmlhdaaGreatDoor
/- Plain definitions: trusts and configurations. No program stands here. -/
namespace Go.Proofs.YtkjpnmodlmlhdaaGreatDoor
set_option linter.unusedSimpArgs false
set_option linter.unusedVariables false
set_option linter.unnecessarySimpa false
set_option linter.unusedSectionVars false
set_option maxRecDepth 100000
open Go.RowKit Go.Proofs.Grow Go.Sort
inductive Tr where
  | mk (k : Int) (ns : List Int) (is : List Tr)
instance : Inhabited Tr := ⟨.mk 0 [] []⟩
def Tr.k : Tr → Int
  | .mk k _ _ => k
def Tr.ns : Tr → List Int
  | .mk _ ns _ => ns
def Tr.is : Tr → List Tr
  | .mk _ _ is => is
def mxI (a b : Int) : Int := if b > a then b else a
mutual
def hT : Tr → Nat
  | .mk _ _ is => hL is + 1
def hL : List Tr → Nat
  | [] => 0
  | t :: r => max (hT t) (hL r)
end
mutual
def sizT : Tr → Int
  | .mk _ ns is => sizL is ((ns.length : Int) + (is.length : Int))
def sizL : List Tr → Int → Int
  | [], a => a
  | t :: r, a => sizL r (a + sizT t)
end
mutual
def depT : Tr → Int
  | .mk _ _ is => depL is 0 + 1
def depL : List Tr → Int → Int
  | [], a => a
  | t :: r, a => depL r (mxI a (depT t))
end
def cntI (s : Int) : List Int → Int → Int
  | [], a => a
  | k :: r, a => cntI s r (if hasB s k = true then a + 1 else a)
mutual
def satT (s : Int) : Tr → Bool
  | .mk k ns is => validS s && decide (satL s is (cntI s ns 0) ≥ k)
def satL (s : Int) : List Tr → Int → Int
  | [], a => a
  | t :: r, a => satL s r (if satT s t = true then a + 1 else a)
end
def useI : List Int → Int → Int
  | [], a => a
  | k :: r, a => useI r (if nodeB k = true then borI a (shlI k) else a)
mutual
def useT : Tr → Int
  | .mk _ ns is => useL is (useI ns 0)
def useL : List Tr → Int → Int
  | [], a => a
  | t :: r, a => useL r (borI a (useT t))
end
/-- The set of nodes, and the first error. -/
def ofI : List Int → Int → Int × Int
  | [], a => (a, 0)
  | k :: r, a => if nodeB k = false then (0, 5) else if hasB a k = true then (0, 6) else ofI r (borI a (shlI k))
mutual
def levT : Tr → Int
  | .mk k ns is => if k < 1 ∨ (ns.length : Int) + (is.length : Int) < k then 4 else if decide (idxF (fun k => !nodeB k) 0 ns ≥ 0) = true then 5 else if (ofI ns 0).2 ≠ 0 then (ofI ns 0).2 else levL is
def levL : List Tr → Int
  | [] => 0
  | t :: r => if levT t ≠ 0 then levT t else levL r
end
def chkT (t : Tr) : Int := if depT t > 4 ∨ sizT t > 200 then 3 else levT t
theorem k_eq (t : Tr) : t = .mk t.k t.ns t.is := by cases t; rfl
theorem hL_mem : ∀ {l : List Tr} {x : Tr}, x ∈ l → hT x ≤ hL l
  | t :: r, x, h => by
    rcases List.mem_cons.1 h with rfl | h
    · simp only [hL]; omega
    · have := hL_mem h; simp only [hL]; omega
theorem hT_mem {t x : Tr} (h : x ∈ t.is) : hT x < hT t := by
  cases t with
  | mk k ns is => have := hL_mem (l := is) h; simp only [hT]; omega
mutual
theorem siz_nn : ∀ t : Tr, 0 ≤ sizT t
  | .mk k ns is => by simp only [sizT]; have := sizL_nn is ((ns.length : Int) + (is.length : Int)); omega
theorem sizL_nn : ∀ (l : List Tr) (a : Int), a ≤ sizL l a
  | [], a => Int.le_refl _
  | t :: r, a => by simp only [sizL]; have := siz_nn t; have := sizL_nn r (a + sizT t); omega
end
theorem sizL_mem : ∀ {l : List Tr} {x : Tr} {a : Int}, x ∈ l → a + sizT x ≤ sizL l a
  | t :: r, x, a, h => by
    simp only [sizL]
    rcases List.mem_cons.1 h with rfl | h
    · exact sizL_nn r _
    · have := sizL_mem (a := a + sizT t) h; have := siz_nn t; omega
theorem siz_mem {t x : Tr} (h : x ∈ t.is) : sizT x ≤ sizT t := by
  cases t with
  | mk k ns is => have := sizL_mem (l := is) (a := (ns.length : Int) + (is.length : Int)) h; simp only [sizT]; omega
theorem siz_len (t : Tr) : (t.ns.length : Int) + (t.is.length : Int) ≤ sizT t := by
  cases t with
  | mk k ns is => simp only [sizT, Tr.ns, Tr.is]; exact sizL_nn _ _
theorem sizL_take {l : List Tr} {k : Nat} {a : Int} : sizL (l.take k) a ≤ sizL l a := by
  induction l generalizing k a with
  | nil => simp [sizL]
  | cons t r ih =>
    cases k with
    | zero => simp only [List.take_zero, sizL]; have := siz_nn t; have := sizL_nn r (a + sizT t); omega
    | succ k => simp only [List.take_succ_cons, sizL]; exact ih
/-- Folds over the first elements of a list. -/
theorem take_fold {α β : Type} [Inhabited α] (F : List α → β → β) (g : β → α → β) (h0 : ∀ a, F [] a = a) (hc : ∀ t r a, F (t :: r) a = F r (g a t)) : ∀ (l : List α) (a : β) {k : Nat}, k < l.length → F (l.take (k + 1)) a = g (F (l.take k) a) (nth l k)
  | [], a, k, h => by simp at h
  | t :: r, a, 0, h => by simp [hc, h0, nth]
  | t :: r, a, k + 1, h => by
    rw [List.take_succ_cons, hc, List.take_succ_cons, hc]
    have := take_fold F g h0 hc r (g a t) (k := k) (by simpa using h)
    rw [this]; rfl
theorem cntI_take {s : Int} {l : List Int} {a : Int} {k : Nat} (h : k < l.length) : cntI s (l.take (k + 1)) a = if hasB s (nth l k) = true then cntI s (l.take k) a + 1 else cntI s (l.take k) a :=
  take_fold (cntI s) (fun a k => if hasB s k = true then a + 1 else a) (fun _ => rfl) (fun _ _ _ => rfl) l a h
theorem satL_take {s : Int} {l : List Tr} {a : Int} {k : Nat} (h : k < l.length) : satL s (l.take (k + 1)) a = if satT s (nth l k) = true then satL s (l.take k) a + 1 else satL s (l.take k) a :=
  take_fold (satL s) (fun a t => if satT s t = true then a + 1 else a) (fun _ => rfl) (fun _ _ _ => rfl) l a h
theorem sizL_take1 {l : List Tr} {a : Int} {k : Nat} (h : k < l.length) : sizL (l.take (k + 1)) a = sizL (l.take k) a + sizT (nth l k) :=
  take_fold sizL (fun a t => a + sizT t) (fun _ => rfl) (fun _ _ _ => rfl) l a h
theorem depL_take {l : List Tr} {a : Int} {k : Nat} (h : k < l.length) : depL (l.take (k + 1)) a = mxI (depL (l.take k) a) (depT (nth l k)) :=
  take_fold depL (fun a t => mxI a (depT t)) (fun _ => rfl) (fun _ _ _ => rfl) l a h
theorem useI_take {l : List Int} {a : Int} {k : Nat} (h : k < l.length) : useI (l.take (k + 1)) a = if nodeB (nth l k) = true then borI (useI (l.take k) a) (shlI (nth l k)) else useI (l.take k) a :=
  take_fold useI (fun a k => if nodeB k = true then borI a (shlI k) else a) (fun _ => rfl) (fun _ _ _ => rfl) l a h
theorem useL_take {l : List Tr} {a : Int} {k : Nat} (h : k < l.length) : useL (l.take (k + 1)) a = borI (useL (l.take k) a) (useT (nth l k)) :=
  take_fold useL (fun a t => borI a (useT t)) (fun _ => rfl) (fun _ _ _ => rfl) l a h
theorem cntI_bd (s : Int) : ∀ (l : List Int) (a : Int), a ≤ cntI s l a ∧ cntI s l a ≤ a + l.length
  | [], a => by simp [cntI]
  | k :: r, a => by
    simp only [cntI, List.length_cons]
    split
    · have := cntI_bd s r (a + 1); omega
    · have := cntI_bd s r a; omega
theorem satL_bd (s : Int) : ∀ (l : List Tr) (a : Int), a ≤ satL s l a ∧ satL s l a ≤ a + l.length
  | [], a => by simp [satL]
  | k :: r, a => by
    simp only [satL, List.length_cons]
    split
    · have := satL_bd s r (a + 1); omega
    · have := satL_bd s r a; omega
mutual
theorem dep_h : ∀ t : Tr, depT t = hT t
  | .mk k ns is => by
    have e := depL_h is 0
    rw [show ((0 : Nat) : Int) = 0 from rfl] at e
    simp only [depT, hT, e]; omega
theorem depL_h : ∀ (l : List Tr) (a : Nat), depL l a = ((max a (hL l) : Nat) : Int)
  | [], a => by simp [depL, hL]
  | t :: r, a => by
    have e : mxI (a : Int) (depT t) = ((max a (hT t) : Nat) : Int) := by rw [dep_h t]; unfold mxI; split <;> omega
    simp only [depL, hL, e, depL_h r]
    omega
end
mutual
theorem h_siz : ∀ t : Tr, (hT t : Int) ≤ sizT t + 1
  | .mk k ns is => by
    simp only [hT, sizT]
    have := hL_siz is ((ns.length : Int) + (is.length : Int)) (by omega)
    omega
theorem hL_siz : ∀ (l : List Tr) (a : Int), (l.length : Int) ≤ a → (hL l : Int) ≤ sizL l a
  | [], a, h => by simp [hL, sizL] at *; exact h
  | t :: r, a, h => by
    have h1 := h_siz t
    have h2 := hL_siz r (a + sizT t) (by have := siz_nn t; simp only [List.length_cons] at h; omega)
    have h3 := sizL_nn r (a + sizT t)
    have := siz_nn t
    simp only [List.length_cons] at h
    simp only [hL, sizL]
    omega
end
end Go.Proofs.YtkjpnmodlmlhdaaGreatDoor
/- Nothing is claimed here: a region that draws its order, each operation told by what its value is like: a law that does not branch over the orders. -/
namespace Go.Proofs.Grow
set_option linter.unusedSimpArgs false
set_option linter.unusedVariables false
set_option linter.unnecessarySimpa false
set_option linter.unusedSectionVars false
set_option maxRecDepth 100000
open Go Go.RowKit
section
variable {P : Program} {ops : Array Oper}
/-- Every operation waits for earlier ones alone. -/
def backB (ops : Array Oper) : Bool := (List.range ops.size).all fun i => ((ops[i]?).map fun o => o.after.all fun e => !Region.binds .any e || decide (e.on < i)).getD true
/-- What one operation does: it gives a value, or calls what returns one. -/
def GivesF (P : Program) (o : Oper) (a : Act) (w : World) (R : Value → World → Prop) : Prop :=
  match (execOp a.eval o).run P w with
  | .ok (.value v) w2 => R v w2
  | .ok .skip w2 => R undef w2
  | .ok (.enter f args) w2 => Calls P f args w2 fun e w3 => ∃ v, e = .returned v ∧ R v w3
  | _ => False
theorem GivesF.wp {o : Oper} {a b : Act} {w : World} {R : Value → World → Prop} {K : Act → World → Prop} {Q : Exit → Act → World → Prop} (he : execOp a.eval o = execOp b.eval o) (h : GivesF P o b w R)
    (hK : ∀ v w2, R v w2 → K (a.put o.dst v) w2) : o.wp P a w K Q := by
  unfold Oper.wp
  rw [he]
  unfold GivesF at h
  generalize (execOp b.eval o).run P w = r at *
  cases r with
  | ok n w2 =>
    cases n <;> simp only [Oper.upon] at h ⊢
    case value v => exact hK _ _ h
    case skip => exact hK _ _ h
    case enter f args =>
      refine Calls.mono h fun e w3 ⟨v, he, hr⟩ => ?_
      subst he; exact hK _ _ hr
  | halt x w2 => exact h.elim
theorem put_size (a : Act) (d : Option Tmp) (v : Value) : (a.put d v).tmps.size = a.tmps.size := by
  cases d <;> simp [Act.put]
theorem put_same (a : Act) (d : Tmp) (v : Value) (h : d < a.tmps.size) : (a.put (some d) v).tmps.getD d undef = v := by
  simp [Act.put, h]
theorem put_other (a : Act) (d : Option Tmp) (v : Value) (e : Tmp) (h : d ≠ some e) : (a.put d v).tmps.getD e undef = a.tmps.getD e undef := by
  cases d with
  | none => simp [Act.put]
  | some d =>
    have : d ≠ e := fun q => h (by rw [q])
    simp [Act.put, Array.getElem?_setIfInBounds_ne this]
theorem put_defers' (a : Act) (d : Option Tmp) (v : Value) : (a.put d v).defers = a.defers := by
  cases d <;> simp [Act.put]
theorem getD_out (x : Array Value) (t : Nat) (h : ¬ t < x.size) : x.getD t undef = undef := by simp [Array.getD, h]
theorem all_range {n : Nat} {p : Nat → Bool} (h : (List.range n).all p = true) {i : Nat} (hi : i < n) : p i = true := List.all_eq_true.1 h i (List.mem_range.2 hi)
theorem getD_set_self {s : Array Bool} {i : Nat} (h : i < s.size) : (s.setIfInBounds i true).getD i false = true := by simp [h]
theorem getD_set_iff {s : Array Bool} {i j : Nat} (h : (s.setIfInBounds i true).getD j false = true) (hij : j ≠ i) : s.getD j false = true := by
  rwa [getD_set_ne false (Ne.symm hij)] at h
end
end Go.Proofs.Grow
