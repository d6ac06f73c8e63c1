/- Nothing is claimed here: arguments that are structs and slices of structs, read as lists. -/
import Derived.Test.YteppnjgobaggaaaAmY
import Derived.Test.YteppnjgobaggaaaW0
import Derived.Deep.Slices
import Derived.Deep.Fields
import Derived.ChangeSame
namespace Go.Proofs.Yteppnjgobaggaaa
set_option linter.unusedSimpArgs false
set_option linter.unusedVariables false
set_option linter.unnecessarySimpa false
set_option linter.unusedSectionVars false
set_option maxRecDepth 100000
open Go Go.ChangeShapes Go.WideShapes Go.Deep Go.RowKit Go.Am Go.Proofs.Grow

/-- What a cell of a flat type holds. -/
inductive Lk where
  | i (k : IntKind)
  | s
def Lk.holds : Lk → Value → Prop
  | .i k, v => ∃ n, v = .int k n ∧ (Lit.int k n).wf = true
  | .s, v => ∃ u : ByteArray, v = .string u ∧ u.size ≤ maxLen
def flatFs (P : Program) (rec : TypeId → Option (List Lk)) : List Field → Nat → Option (List Lk)
  | [], _ => some []
  | f :: r, off => match rec f.type with
    | some ks => match decide (f.offset = off) && decide (P.cellsOf f.type = ks.length) with
      | true => match flatFs P rec r (off + ks.length) with
        | some qs => some (ks ++ qs)
        | none => none
      | false => none
    | none => none
def flatK (P : Program) : Nat → TypeId → Option (List Lk)
  | 0, _ => none
  | m + 1, t => match P.underlying t with
    | some (.int k) => some [.i k]
    | some .string => some [.s]
    | some (.struct fs) => match flatFs P (flatK P m) fs.toList 0 with
      | some ks => match decide (P.cellsOf t = ks.length) with
        | true => some ks
        | false => none
      | none => none
    | _ => none
/-- Cells hold what the kinds say. -/
def Fits (ks : List Lk) (cs : List Value) : Prop := cs.length = ks.length ∧ ∀ (i : Nat) (k : Lk), ks[i]? = some k → ∃ v, cs[i]? = some v ∧ k.holds v
section
variable {H : Type} {enc : TypeId × Value → H} {P : Program} {w : World} {base : Nat} {spare : Nat → Bool} {held : Bool}
theorem flat_fields {rec : TypeId → Option (List Lk)} {cs : List Value} {n : Nat} (hrec : ∀ (t : TypeId) ks (ds : List Value) x, rec t = some ks → DataW.trod enc P w base spare held n t ds = some x → Fits ks ds) :
    ∀ (l : List Field) (off : Nat) (ks : List Lk), flatFs P rec l off = some ks → (∀ f ∈ l, ∃ y, DataW.trod enc P w base spare held n f.type ((cs.drop f.offset).take (P.cellsOf f.type)) = some y) →
      ∀ (i : Nat) (k : Lk), ks[i]? = some k → ∃ v, cs[off + i]? = some v ∧ k.holds v
  | [], off, ks, h, _, i, k, hk => by
    obtain rfl : [] = ks := by simpa [flatFs] using h
    simp at hk
  | f :: r, off, ks, h, hf, i, k, hk => by
    unfold flatFs at h
    split at h
    · rename_i k1 h1
      split at h
      · rename_i h2
        simp only [Bool.and_eq_true, decide_eq_true_eq] at h2
        split at h
        · rename_i k2 h3
          obtain rfl : k1 ++ k2 = ks := by simpa using h
          by_cases hi : i < k1.length
          · obtain ⟨y, hy⟩ := hf f (by simp)
            obtain ⟨_, q2⟩ := hrec _ _ _ _ h1 hy
            rw [List.getElem?_append_left hi] at hk
            obtain ⟨v, hv, hh⟩ := q2 i k hk
            refine ⟨v, ?_, hh⟩
            rw [List.getElem?_take_of_lt (by omega), List.getElem?_drop, h2.1] at hv
            exact hv
          · rw [List.getElem?_append_right (by omega)] at hk
            obtain ⟨v, hv, hh⟩ := flat_fields hrec r (off + k1.length) k2 h3 (fun g hg => hf g (by simp [hg])) (i - k1.length) k hk
            refine ⟨v, ?_, hh⟩
            rw [← hv]; congr 1; omega
        · cases h
      · cases h
    · cases h
theorem trod_flat : ∀ (m : Nat) (fuel : Nat) (t : TypeId) (ks : List Lk) (cs : List Value) (x : DataW H × List MemPlace), flatK P m t = some ks → DataW.trod enc P w base spare held fuel t cs = some x → Fits ks cs
  | 0, _, _, _, _, _, h, _ => by cases h
  | m + 1, fuel, t, ks, cs, x, h, ht => by
    unfold flatK at h
    split at h
    · rename_i k hu
      obtain rfl : [Lk.i k] = ks := by simpa using h
      obtain ⟨n, rfl, _, hw⟩ := DataW.trod_int hu ht
      refine ⟨rfl, fun i k' hk => ?_⟩
      cases i with
      | zero => obtain rfl : Lk.i k = k' := by simpa using hk
                exact ⟨_, rfl, n, rfl, hw⟩
      | succ i => simp at hk
    · rename_i hu
      obtain rfl : [Lk.s] = ks := by simpa using h
      obtain ⟨n, rfl, _, hw⟩ := DataW.trod_string hu ht
      refine ⟨rfl, fun i k' hk => ?_⟩
      cases i with
      | zero => obtain rfl : Lk.s = k' := by simpa using hk
                exact ⟨_, rfl, n, rfl, hw⟩
      | succ i => simp at hk
    · rename_i fs hu
      split at h
      · rename_i k1 h1
        split at h
        · rename_i h2
          obtain rfl : k1 = ks := by simpa using h
          simp only [decide_eq_true_eq] at h2
          obtain ⟨xs, n, hn, hx, hl, hxl, hf⟩ := DataW.trod_struct hu ht
          refine ⟨hl.trans h2, fun i k hk => ?_⟩
          have := flat_fields (enc := enc) (P := P) (w := w) (base := base) (spare := spare) (held := held) (rec := flatK P m) (cs := cs) (n := n) (fun t ks ds x h1 h2 => trod_flat m n t ks ds x h1 h2) fs.toList 0 k1 h1 (fun f hf' => by
            obtain ⟨j, hj, rfl⟩ := List.mem_iff_getElem.1 hf'
            have h3 := hf j _ (by rw [← Array.getElem?_toList]; exact List.getElem?_eq_getElem hj)
            refine ⟨xs[j]'(by rw [hxl]; simpa using hj), h3.trans (List.getElem?_eq_getElem _)⟩) i k hk
          simpa using this
        · cases h
      · cases h
    · cases h
theorem addN {b off j : Nat} : (⟨b, off, none⟩ : Addr).add j = ⟨b, off + j, none⟩ := by by_cases h0 : j = 0 <;> simp [Addr.add, h0]
theorem listN {α : Type} [Inhabited α] {P : Nat → α → Prop} (n : Nat) (h : ∀ i, i < n → ∃ y, P i y) : ∃ l : List α, l.length = n ∧ ∀ i, i < n → P i (nth l i) := by
  induction n with
  | zero => exact ⟨[], rfl, fun i hi => by omega⟩
  | succ n ih =>
    obtain ⟨l, hl, hp⟩ := ih (fun i hi => h i (by omega))
    obtain ⟨y, hy⟩ := h n (by omega)
    refine ⟨l ++ [y], by simp [hl], fun i hi => ?_⟩
    by_cases e : i = n
    · subst e; simpa [nth, hl] using hy
    · have : nth (l ++ [y]) i = nth l i := by simp only [nth, List.getD_eq_getElem?_getD]; rw [List.getElem?_append_left (by omega)]
      rw [this]; exact hp i (by omega)
/-- A slice of a flat type, read as a list. -/
theorem open_rows {α : Type} [Inhabited α] (encV : α → List Value) {t e : TypeId} {m fuel : Nat} {ks : List Lk} {v : Value} {x : DataW H × List MemPlace} (ht : P.underlying t = some (.slice e)) (hk : flatK P m e = some ks) (hC : P.cellsOf e = ks.length) (hpos : 0 < ks.length)
    (hdec : ∀ cs, Fits ks cs → ∃ y, encV y = cs) (hlen : ∀ y, (encV y).length = ks.length) (h1 : ∀ y u, u ∈ encV y → u.oneCell' = true) (h : DataW.trod enc P w base spare held fuel t [v] = some x) :
    ∃ l : List α, VR (fun _ => False) (fun _ => none) w (.d (.rows ks.length (l.map fun y => (encV y).map D.v))) v ∧ (l.length : Int) ≤ 9223372036854775807 := by
  rcases open_slice ht h with ⟨hcs, _⟩ | ⟨a, len, cap, mm, n, D', Pl, hcs, _, hl, hm, hmm, _, hi⟩
  · obtain rfl : v = .slice none 0 0 := by simpa using hcs
    exact ⟨[], .d (.nil _ none 0 fun _ => rfl), by simp⟩
  obtain rfl : v = .slice (some a) len cap := by simpa using hcs
  have hnm : len ≤ mm := by rw [hmm]; split <;> omega
  have hall : ∀ i, i < len → ∃ y : α, ∀ j u, (encV y)[j]? = some u → w.cell? (a.add (i * ks.length + j)) = some u := by
    intro i hil
    obtain ⟨cs', hc, ht'⟩ := hi i (by omega)
    rw [hC] at hc
    obtain ⟨_, hcl, hat⟩ := World.cells?_some hc
    obtain ⟨y, rfl⟩ := hdec cs' (trod_flat m n e ks cs' _ hk ht')
    refine ⟨y, fun j u hu => ?_⟩
    have hj : j < ks.length := by rw [← hcl]; exact (List.getElem?_eq_some_iff.1 hu).1
    rw [← Go.Deep.add_add, hat j hj, hu]
  obtain ⟨l, hll, hp⟩ := listN len hall
  have hb63 : (l.length : Int) ≤ 9223372036854775807 := by unfold maxLen at hm; omega
  refine ⟨l, ?_, hb63⟩
  by_cases h0 : len = 0
  · subst h0
    obtain rfl := List.eq_nil_of_length_eq_zero hll
    exact .d (.nil _ (some a) cap fun h => by cases h)
  obtain ⟨b, off, sp⟩ := a
  have hfirst : ∃ u, (encV (nth l 0))[0]? = some u := ⟨_, List.getElem?_eq_getElem (by rw [hlen]; exact hpos)⟩
  obtain ⟨u0, hu0⟩ := hfirst
  have hsp := World.cell?_spot (hp 0 (by omega) 0 u0 hu0)
  obtain rfl : sp = none := by simpa [Addr.add] using hsp
  have hc : ∀ i, i < len → ∀ j u, (encV (nth l i))[j]? = some u → w.cell? ⟨b, off + i * ks.length + j, none⟩ = some u := by
    intro i hil j u hu
    have := hp i hil j u hu
    rw [addN] at this
    rw [Nat.add_assoc]; exact this
  have hg : ∀ (i : Nat) (r : List D), (l.map fun y => (encV y).map D.v)[i]? = some r → i < len ∧ r = (encV (nth l i)).map D.v := by
    intro i r hr
    rw [List.getElem?_map] at hr
    cases hq : l[i]? with
    | none => rw [hq] at hr; cases hr
    | some y =>
      rw [hq] at hr
      have hil : i < l.length := (List.getElem?_eq_some_iff.1 hq).1
      refine ⟨by omega, ?_⟩
      have : nth l i = y := by rw [nth_getElem l i hil]; rw [List.getElem?_eq_getElem hil] at hq; exact Option.some.inj hq
      rw [this]; exact (Option.some.inj hr).symm
  have hg2 : ∀ (i : Nat) (r : List D) (j : Nat) (c : D), (l.map fun y => (encV y).map D.v)[i]? = some r → r[j]? = some c → i < len ∧ ∃ u, (encV (nth l i))[j]? = some u ∧ c = .v u := by
    intro i r j c hr hcc
    obtain ⟨h, rfl⟩ := hg i r hr
    rw [List.getElem?_map] at hcc
    cases hq : (encV (nth l i))[j]? with
    | none => rw [hq] at hcc; cases hcc
    | some u => rw [hq] at hcc; exact ⟨h, u, rfl, (Option.some.inj hcc).symm⟩
  have hml : (l.map fun y => (encV y).map D.v).length = len := by simp [hll]
  have := VD.rows (H := fun _ => False) (w := w) ks.length (l.map fun y => (encV y).map D.v) b off cap (fun i j => ((encV (nth l i))[j]?).getD undef) (by intro e; rw [e] at hml; simp at hml; omega) (by omega) (by omega) (fun h => h)
    (cell_lt (hc 0 (by omega) 0 u0 hu0)) (fun i r hr => by obtain ⟨_, rfl⟩ := hg i r hr; simp [hlen])
    (fun i r j c hr hcc => by obtain ⟨h, u, hu, rfl⟩ := hg2 i r j c hr hcc; rw [hu]; exact hc i h j u hu)
    (fun i r j c hr hcc => by obtain ⟨h, u, hu, rfl⟩ := hg2 i r j c hr hcc; rw [hu]; exact h1 _ u (List.mem_of_getElem? hu))
    (fun i r j c hr hcc => by obtain ⟨h, u, hu, rfl⟩ := hg2 i r j c hr hcc; rw [hu]; exact .v u)
  rw [hml] at this
  exact .d this
end
end Go.Proofs.Yteppnjgobaggaaa
