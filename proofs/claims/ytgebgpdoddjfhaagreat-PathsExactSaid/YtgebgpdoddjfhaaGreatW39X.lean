/- Nothing is claimed here: arguments that are structs and slices of structs, read as lists. -/
import Derived.Test.YtgebgpdoddjfhaaGreatAmY
import Derived.Test.YtgebgpdoddjfhaaGreatW0
import Derived.Deep.Slices
import Derived.Deep.Fields
import Derived.ChangeSame
import Derived.Test.YtgebgpdoddjfhaaGreatAmZ
import Derived.Test.YtgebgpdoddjfhaaGreatWS
import Derived.Test.YtgebgpdoddjfhaaGreatPL
import Derived.Test.YtgebgpdoddjfhaaGreatWPx
import Derived.Test.YtgebgpdoddjfhaaGreatWRx
import Derived.Shelf.SlSortCmp.NoneTotal
import Derived.Test.YtgebgpdoddjfhaaGreatWG
import Derived.Test.YtgebgpdoddjfhaaGreatPM
namespace Go.Proofs.YtgebgpdoddjfhaaGreat
set_option linter.unusedSimpArgs false
set_option linter.unusedVariables false
set_option linter.unnecessarySimpa false
set_option linter.unusedSectionVars false
set_option maxRecDepth 100000
open Go Go.ChangeShapes Go.WideShapes Go.Deep Go.RowKit Go.Am Go.Proofs.Grow

/-- What a cell of a flat type holds. -/
inductive Lk where
  | i (k : IntKind)
  | s
def Lk.holds : Lk → Value → Prop
  | .i k, v => ∃ n, v = .int k n ∧ (Lit.int k n).wf = true
  | .s, v => ∃ u : ByteArray, v = .string u ∧ u.size ≤ maxLen
def flatFs (P : Program) (rec : TypeId → Option (List Lk)) : List Field → Nat → Option (List Lk)
  | [], _ => some []
  | f :: r, off => match rec f.type with
    | some ks => match decide (f.offset = off) && decide (P.cellsOf f.type = ks.length) with
      | true => match flatFs P rec r (off + ks.length) with
        | some qs => some (ks ++ qs)
        | none => none
      | false => none
    | none => none
def flatK (P : Program) : Nat → TypeId → Option (List Lk)
  | 0, _ => none
  | m + 1, t => match P.underlying t with
    | some (.int k) => some [.i k]
    | some .string => some [.s]
    | some (.struct fs) => match flatFs P (flatK P m) fs.toList 0 with
      | some ks => match decide (P.cellsOf t = ks.length) with
        | true => some ks
        | false => none
      | none => none
    | _ => none
/-- Cells hold what the kinds say. -/
def Fits (ks : List Lk) (cs : List Value) : Prop := cs.length = ks.length ∧ ∀ (i : Nat) (k : Lk), ks[i]? = some k → ∃ v, cs[i]? = some v ∧ k.holds v
section
variable {H : Type} {enc : TypeId × Value → H} {P : Program} {w : World} {base : Nat} {spare : Nat → Bool} {held : Bool}
theorem flat_fields {rec : TypeId → Option (List Lk)} {cs : List Value} {n : Nat} (hrec : ∀ (t : TypeId) ks (ds : List Value) x, rec t = some ks → DataW.trod enc P w base spare held n t ds = some x → Fits ks ds) :
    ∀ (l : List Field) (off : Nat) (ks : List Lk), flatFs P rec l off = some ks → (∀ f ∈ l, ∃ y, DataW.trod enc P w base spare held n f.type ((cs.drop f.offset).take (P.cellsOf f.type)) = some y) →
      ∀ (i : Nat) (k : Lk), ks[i]? = some k → ∃ v, cs[off + i]? = some v ∧ k.holds v
  | [], off, ks, h, _, i, k, hk => by
    obtain rfl : [] = ks := by simpa [flatFs] using h
    simp at hk
  | f :: r, off, ks, h, hf, i, k, hk => by
    unfold flatFs at h
    split at h
    · rename_i k1 h1
      split at h
      · rename_i h2
        simp only [Bool.and_eq_true, decide_eq_true_eq] at h2
        split at h
        · rename_i k2 h3
          obtain rfl : k1 ++ k2 = ks := by simpa using h
          by_cases hi : i < k1.length
          · obtain ⟨y, hy⟩ := hf f (by simp)
            obtain ⟨_, q2⟩ := hrec _ _ _ _ h1 hy
            rw [List.getElem?_append_left hi] at hk
            obtain ⟨v, hv, hh⟩ := q2 i k hk
            refine ⟨v, ?_, hh⟩
            rw [List.getElem?_take_of_lt (by omega), List.getElem?_drop, h2.1] at hv
            exact hv
          · rw [List.getElem?_append_right (by omega)] at hk
            obtain ⟨v, hv, hh⟩ := flat_fields hrec r (off + k1.length) k2 h3 (fun g hg => hf g (by simp [hg])) (i - k1.length) k hk
            refine ⟨v, ?_, hh⟩
            rw [← hv]; congr 1; omega
        · cases h
      · cases h
    · cases h
theorem trod_flat : ∀ (m : Nat) (fuel : Nat) (t : TypeId) (ks : List Lk) (cs : List Value) (x : DataW H × List MemPlace), flatK P m t = some ks → DataW.trod enc P w base spare held fuel t cs = some x → Fits ks cs
  | 0, _, _, _, _, _, h, _ => by cases h
  | m + 1, fuel, t, ks, cs, x, h, ht => by
    unfold flatK at h
    split at h
    · rename_i k hu
      obtain rfl : [Lk.i k] = ks := by simpa using h
      obtain ⟨n, rfl, _, hw⟩ := DataW.trod_int hu ht
      refine ⟨rfl, fun i k' hk => ?_⟩
      cases i with
      | zero => obtain rfl : Lk.i k = k' := by simpa using hk
                exact ⟨_, rfl, n, rfl, hw⟩
      | succ i => simp at hk
    · rename_i hu
      obtain rfl : [Lk.s] = ks := by simpa using h
      obtain ⟨n, rfl, _, hw⟩ := DataW.trod_string hu ht
      refine ⟨rfl, fun i k' hk => ?_⟩
      cases i with
      | zero => obtain rfl : Lk.s = k' := by simpa using hk
                exact ⟨_, rfl, n, rfl, hw⟩
      | succ i => simp at hk
    · rename_i fs hu
      split at h
      · rename_i k1 h1
        split at h
        · rename_i h2
          obtain rfl : k1 = ks := by simpa using h
          simp only [decide_eq_true_eq] at h2
          obtain ⟨xs, n, hn, hx, hl, hxl, hf⟩ := DataW.trod_struct hu ht
          refine ⟨hl.trans h2, fun i k hk => ?_⟩
          have := flat_fields (enc := enc) (P := P) (w := w) (base := base) (spare := spare) (held := held) (rec := flatK P m) (cs := cs) (n := n) (fun t ks ds x h1 h2 => trod_flat m n t ks ds x h1 h2) fs.toList 0 k1 h1 (fun f hf' => by
            obtain ⟨j, hj, rfl⟩ := List.mem_iff_getElem.1 hf'
            have h3 := hf j _ (by rw [← Array.getElem?_toList]; exact List.getElem?_eq_getElem hj)
            refine ⟨xs[j]'(by rw [hxl]; simpa using hj), h3.trans (List.getElem?_eq_getElem _)⟩) i k hk
          simpa using this
        · cases h
      · cases h
    · cases h
theorem addN {b off j : Nat} : (⟨b, off, none⟩ : Addr).add j = ⟨b, off + j, none⟩ := by by_cases h0 : j = 0 <;> simp [Addr.add, h0]
theorem listN {α : Type} [Inhabited α] {P : Nat → α → Prop} (n : Nat) (h : ∀ i, i < n → ∃ y, P i y) : ∃ l : List α, l.length = n ∧ ∀ i, i < n → P i (nth l i) := by
  induction n with
  | zero => exact ⟨[], rfl, fun i hi => by omega⟩
  | succ n ih =>
    obtain ⟨l, hl, hp⟩ := ih (fun i hi => h i (by omega))
    obtain ⟨y, hy⟩ := h n (by omega)
    refine ⟨l ++ [y], by simp [hl], fun i hi => ?_⟩
    by_cases e : i = n
    · subst e; simpa [nth, hl] using hy
    · have : nth (l ++ [y]) i = nth l i := by simp only [nth, List.getD_eq_getElem?_getD]; rw [List.getElem?_append_left (by omega)]
      rw [this]; exact hp i (by omega)
/-- A slice of a flat type, read as a list. -/
theorem open_rows {α : Type} [Inhabited α] (encV : α → List Value) {t e : TypeId} {m fuel : Nat} {ks : List Lk} {v : Value} {x : DataW H × List MemPlace} (ht : P.underlying t = some (.slice e)) (hk : flatK P m e = some ks) (hC : P.cellsOf e = ks.length) (hpos : 0 < ks.length)
    (hdec : ∀ cs, Fits ks cs → ∃ y, encV y = cs) (hlen : ∀ y, (encV y).length = ks.length) (h1 : ∀ y u, u ∈ encV y → u.oneCell' = true) (h : DataW.trod enc P w base spare held fuel t [v] = some x) :
    ∃ l : List α, VR (fun _ => False) (fun _ => none) w (.d (.rows ks.length (l.map fun y => (encV y).map D.v))) v ∧ (l.length : Int) ≤ 9223372036854775807 := by
  rcases open_slice ht h with ⟨hcs, _⟩ | ⟨a, len, cap, mm, n, D', Pl, hcs, _, hl, hm, hmm, _, hi⟩
  · obtain rfl : v = .slice none 0 0 := by simpa using hcs
    exact ⟨[], .d (.nil _ none 0 fun _ => rfl), by simp⟩
  obtain rfl : v = .slice (some a) len cap := by simpa using hcs
  have hnm : len ≤ mm := by rw [hmm]; split <;> omega
  have hall : ∀ i, i < len → ∃ y : α, ∀ j u, (encV y)[j]? = some u → w.cell? (a.add (i * ks.length + j)) = some u := by
    intro i hil
    obtain ⟨cs', hc, ht'⟩ := hi i (by omega)
    rw [hC] at hc
    obtain ⟨_, hcl, hat⟩ := World.cells?_some hc
    obtain ⟨y, rfl⟩ := hdec cs' (trod_flat m n e ks cs' _ hk ht')
    refine ⟨y, fun j u hu => ?_⟩
    have hj : j < ks.length := by rw [← hcl]; exact (List.getElem?_eq_some_iff.1 hu).1
    rw [← Go.Deep.add_add, hat j hj, hu]
  obtain ⟨l, hll, hp⟩ := listN len hall
  have hb63 : (l.length : Int) ≤ 9223372036854775807 := by unfold maxLen at hm; omega
  refine ⟨l, ?_, hb63⟩
  by_cases h0 : len = 0
  · subst h0
    obtain rfl := List.eq_nil_of_length_eq_zero hll
    exact .d (.nil _ (some a) cap fun h => by cases h)
  obtain ⟨b, off, sp⟩ := a
  have hfirst : ∃ u, (encV (nth l 0))[0]? = some u := ⟨_, List.getElem?_eq_getElem (by rw [hlen]; exact hpos)⟩
  obtain ⟨u0, hu0⟩ := hfirst
  have hsp := World.cell?_spot (hp 0 (by omega) 0 u0 hu0)
  obtain rfl : sp = none := by simpa [Addr.add] using hsp
  have hc : ∀ i, i < len → ∀ j u, (encV (nth l i))[j]? = some u → w.cell? ⟨b, off + i * ks.length + j, none⟩ = some u := by
    intro i hil j u hu
    have := hp i hil j u hu
    rw [addN] at this
    rw [Nat.add_assoc]; exact this
  have hg : ∀ (i : Nat) (r : List D), (l.map fun y => (encV y).map D.v)[i]? = some r → i < len ∧ r = (encV (nth l i)).map D.v := by
    intro i r hr
    rw [List.getElem?_map] at hr
    cases hq : l[i]? with
    | none => rw [hq] at hr; cases hr
    | some y =>
      rw [hq] at hr
      have hil : i < l.length := (List.getElem?_eq_some_iff.1 hq).1
      refine ⟨by omega, ?_⟩
      have : nth l i = y := by rw [nth_getElem l i hil]; rw [List.getElem?_eq_getElem hil] at hq; exact Option.some.inj hq
      rw [this]; exact (Option.some.inj hr).symm
  have hg2 : ∀ (i : Nat) (r : List D) (j : Nat) (c : D), (l.map fun y => (encV y).map D.v)[i]? = some r → r[j]? = some c → i < len ∧ ∃ u, (encV (nth l i))[j]? = some u ∧ c = .v u := by
    intro i r j c hr hcc
    obtain ⟨h, rfl⟩ := hg i r hr
    rw [List.getElem?_map] at hcc
    cases hq : (encV (nth l i))[j]? with
    | none => rw [hq] at hcc; cases hcc
    | some u => rw [hq] at hcc; exact ⟨h, u, rfl, (Option.some.inj hcc).symm⟩
  have hml : (l.map fun y => (encV y).map D.v).length = len := by simp [hll]
  have := VD.rows (H := fun _ => False) (w := w) ks.length (l.map fun y => (encV y).map D.v) b off cap (fun i j => ((encV (nth l i))[j]?).getD undef) (by intro e; rw [e] at hml; simp at hml; omega) (by omega) (by omega) (fun h => h)
    (cell_lt (hc 0 (by omega) 0 u0 hu0)) (fun i r hr => by obtain ⟨_, rfl⟩ := hg i r hr; simp [hlen])
    (fun i r j c hr hcc => by obtain ⟨h, u, hu, rfl⟩ := hg2 i r j c hr hcc; rw [hu]; exact hc i h j u hu)
    (fun i r j c hr hcc => by obtain ⟨h, u, hu, rfl⟩ := hg2 i r j c hr hcc; rw [hu]; exact h1 _ u (List.mem_of_getElem? hu))
    (fun i r j c hr hcc => by obtain ⟨h, u, hu, rfl⟩ := hg2 i r j c hr hcc; rw [hu]; exact .v u)
  rw [hml] at this
  exact .d this
end
end Go.Proofs.YtgebgpdoddjfhaaGreat

/- Nothing is claimed here: arguments that are accounts. -/
namespace Go.Proofs.YtgebgpdoddjfhaaGreat
set_option linter.unusedSimpArgs false
set_option linter.unusedVariables false
set_option linter.unnecessarySimpa false
set_option linter.unusedSectionVars false
set_option maxRecDepth 100000
open Go Go.ChangeShapes Go.WideShapes Go.Deep Go.RowKit Go.Am Go.Proofs.Grow

theorem Fits.uncons {k : Lk} {ks : List Lk} {cs : List Value} (h : Fits (k :: ks) cs) : ∃ v r, cs = v :: r ∧ k.holds v ∧ Fits ks r := by
  obtain ⟨h1, h2⟩ := h
  cases cs with
  | nil => simp at h1
  | cons v r =>
    obtain ⟨u, hu, hh⟩ := h2 0 k rfl
    obtain rfl : v = u := by simpa using hu
    exact ⟨v, r, rfl, hh, by simpa using h1, fun i k' hk => h2 (i + 1) k' (by simpa using hk)⟩
theorem Fits.unnil {cs : List Value} (h : Fits [] cs) : cs = [] := List.eq_nil_of_length_eq_zero h.1
theorem open_accs {H : Type} {enc : TypeId × Value → H} {w : World} {base : Nat} {spare : Nat → Bool} {held : Bool} {fuel : Nat} {v : Value} {x : DataW H × List MemPlace} (h : DataW.trod enc Tryz.prog w base spare held fuel 23 [v] = some x) :
    ∃ l : List Acc, VR (fun _ => False) (fun _ => none) w (lA l) v ∧ (l.length : Int) ≤ 9223372036854775807 :=
  open_rows (α := Acc) (fun x => [.int .i64 x.id, .int .i64 x.bal, .int .i64 x.seq]) (m := 5) (ks := [.i .i64, .i .i64, .i .i64]) Tryz.underlying23 (by kernel_rfl) (by kernel_rfl) (by decide)
    (fun cs hf => by
      obtain ⟨v0, r0, rfl, ⟨n0, rfl, _⟩, f0⟩ := hf.uncons
      obtain ⟨v1, r1, rfl, ⟨n1, rfl, _⟩, f1⟩ := f0.uncons
      obtain ⟨v2, r2, rfl, ⟨n2, rfl, _⟩, f2⟩ := f1.uncons
      obtain rfl := f2.unnil
      exact ⟨⟨n0, n1, n2⟩, rfl⟩) (fun _ => rfl) (fun y u hu => by simp at hu; rcases hu with rfl | rfl | rfl <;> rfl) h
end Go.Proofs.YtgebgpdoddjfhaaGreat

/- Nothing is claimed here: arguments that are ledgers. -/
namespace Go.Proofs.YtgebgpdoddjfhaaGreat
set_option linter.unusedSimpArgs false
set_option linter.unusedVariables false
set_option linter.unnecessarySimpa false
set_option linter.unusedSectionVars false
set_option maxRecDepth 100000
open Go Go.ChangeShapes Go.WideShapes Go.Deep Go.RowKit Go.Am Go.Proofs.Grow

theorem open_lins {H : Type} {enc : TypeId × Value → H} {w : World} {base : Nat} {spare : Nat → Bool} {held : Bool} {fuel : Nat} {v : Value} {x : DataW H × List MemPlace} (h : DataW.trod enc Tryz.prog w base spare held fuel 24 [v] = some x) :
    ∃ l : List Lin, VR (fun _ => False) (fun _ => none) w (lL l) v ∧ (l.length : Int) ≤ 9223372036854775807 :=
  open_rows (α := Lin) (fun x => [.int .i64 x.acc, .string x.code, .int .i64 x.iss, .int .i64 x.bal, .int .i64 x.lim]) (m := 5) (ks := [.i .i64, .s, .i .i64, .i .i64, .i .i64]) Tryz.underlying24 (by kernel_rfl) (by kernel_rfl) (by decide)
    (fun cs hf => by
      obtain ⟨v0, r0, rfl, ⟨n0, rfl, _⟩, f0⟩ := hf.uncons
      obtain ⟨v1, r1, rfl, ⟨n1, rfl, _⟩, f1⟩ := f0.uncons
      obtain ⟨v2, r2, rfl, ⟨n2, rfl, _⟩, f2⟩ := f1.uncons
      obtain ⟨v3, r3, rfl, ⟨n3, rfl, _⟩, f3⟩ := f2.uncons
      obtain ⟨v4, r4, rfl, ⟨n4, rfl, _⟩, f4⟩ := f3.uncons
      obtain rfl := f4.unnil
      exact ⟨⟨n0, n1, n2, n3, n4⟩, rfl⟩) (fun _ => rfl) (fun y u hu => by simp at hu; rcases hu with rfl | rfl | rfl | rfl | rfl <;> rfl) h
theorem open_offs {H : Type} {enc : TypeId × Value → H} {w : World} {base : Nat} {spare : Nat → Bool} {held : Bool} {fuel : Nat} {v : Value} {x : DataW H × List MemPlace} (h : DataW.trod enc Tryz.prog w base spare held fuel 25 [v] = some x) :
    ∃ l : List Off, VR (fun _ => False) (fun _ => none) w (lO l) v ∧ (l.length : Int) ≤ 9223372036854775807 :=
  open_rows (α := Off) (fun x => [.int .i64 x.id, .int .i64 x.seller, .string x.sc, .int .i64 x.si, .string x.bc, .int .i64 x.bi, .int .i64 x.amt, .int .i64 x.num, .int .i64 x.den]) (m := 5) (ks := [.i .i64, .i .i64, .s, .i .i64, .s, .i .i64, .i .i64, .i .i64, .i .i64]) Tryz.underlying25 (by kernel_rfl) (by kernel_rfl) (by decide)
    (fun cs hf => by
      obtain ⟨v0, r0, rfl, ⟨n0, rfl, _⟩, f0⟩ := hf.uncons
      obtain ⟨v1, r1, rfl, ⟨n1, rfl, _⟩, f1⟩ := f0.uncons
      obtain ⟨v2, r2, rfl, ⟨n2, rfl, _⟩, f2⟩ := f1.uncons
      obtain ⟨v3, r3, rfl, ⟨n3, rfl, _⟩, f3⟩ := f2.uncons
      obtain ⟨v4, r4, rfl, ⟨n4, rfl, _⟩, f4⟩ := f3.uncons
      obtain ⟨v5, r5, rfl, ⟨n5, rfl, _⟩, f5⟩ := f4.uncons
      obtain ⟨v6, r6, rfl, ⟨n6, rfl, _⟩, f6⟩ := f5.uncons
      obtain ⟨v7, r7, rfl, ⟨n7, rfl, _⟩, f7⟩ := f6.uncons
      obtain ⟨v8, r8, rfl, ⟨n8, rfl, _⟩, f8⟩ := f7.uncons
      obtain rfl := f8.unnil
      exact ⟨⟨n0, n1, n2, n3, n4, n5, n6, n7, n8⟩, rfl⟩) (fun _ => rfl) (fun y u hu => by simp at hu; rcases hu with rfl | rfl | rfl | rfl | rfl | rfl | rfl | rfl | rfl <;> rfl) h
theorem VR.of_list {w : World} {cs : List AV} {vs : List Value} (h : VRs (fun _ => False) (fun _ => none) w cs vs) : VR (fun _ => False) (fun _ => none) w (.agg cs) (.agg vs.toArray) := .agg h.1 h.2
theorem open_led {H : Type} {enc : TypeId × Value → H} {w : World} {base b0 : Nat} {spare : Nat → Bool} {held : Bool} {r : Reach} {v : Value} {d : DataW H} {p : List MemPlace} (hv : Value.okWide Tryz.prog w r b0 28 v) (h : DataW.Trod enc Tryz.prog w base spare held 28 v d p) :
    ∃ g : Led, VR (fun _ => False) (fun _ => none) w (aG g) v := by
  obtain ⟨cs, rfl, hsz⟩ := okWide_struct Tryz.underlying28 hv
  obtain ⟨fuel, hf⟩ := h
  have hc7 : Tryz.prog.cellsOf 28 = 7 := by kernel_rfl
  rw [hc7] at hsz
  obtain ⟨c0, c1, c2, c3, c4, c5, c6, hcs⟩ : ∃ c0 c1 c2 c3 c4 c5 c6, cs = #[c0, c1, c2, c3, c4, c5, c6] := by
    obtain ⟨l⟩ := cs
    match l, hsz with
    | [c0, c1, c2, c3, c4, c5, c6], _ => exact ⟨c0, c1, c2, c3, c4, c5, c6, rfl⟩
  subst hcs
  obtain ⟨xs, n, hn, hx, _, hxl, hfs⟩ := DataW.trod_struct Tryz.underlying28 hf
  have get : ∀ i, i < 7 → ∃ y, xs[i]? = some y := fun i hi => ⟨_, List.getElem?_eq_getElem (by rw [hxl]; exact hi)⟩
  have k1 : Tryz.prog.cellsOf 3 = 1 := by kernel_rfl
  have k2 : Tryz.prog.cellsOf 23 = 1 := by kernel_rfl
  have k3 : Tryz.prog.cellsOf 24 = 1 := by kernel_rfl
  have k4 : Tryz.prog.cellsOf 25 = 1 := by kernel_rfl
  have k5 : Tryz.prog.cellsOf 26 = 1 := by kernel_rfl
  obtain ⟨y0, e0⟩ := get 0 (by omega)
  obtain ⟨y1, e1⟩ := get 1 (by omega)
  obtain ⟨y2, e2⟩ := get 2 (by omega)
  obtain ⟨y3, e3⟩ := get 3 (by omega)
  obtain ⟨y4, e4⟩ := get 4 (by omega)
  obtain ⟨y5, e5⟩ := get 5 (by omega)
  obtain ⟨y6, e6⟩ := get 6 (by omega)
  have q0 := (hfs 0 _ rfl).trans e0
  have q1 := (hfs 1 _ rfl).trans e1
  have q2 := (hfs 2 _ rfl).trans e2
  have q3 := (hfs 3 _ rfl).trans e3
  have q4 := (hfs 4 _ rfl).trans e4
  have q5 := (hfs 5 _ rfl).trans e5
  have q6 := (hfs 6 _ rfl).trans e6
  simp only [Value.cells, k1, k2, k3, k4, k5, List.drop_zero, List.drop_succ_cons, List.take_succ_cons, List.take_zero] at q0 q1 q2 q3 q4 q5 q6
  obtain ⟨n0, h0, _, _⟩ := DataW.trod_int Tryz.underlying3 q0
  obtain ⟨l1, h1, _⟩ := open_accs q1
  obtain ⟨l2, h2, _⟩ := open_lins q2
  obtain ⟨l3, h3, _⟩ := open_offs q3
  obtain ⟨n4, h4, _, _⟩ := DataW.trod_int Tryz.underlying3 q4
  obtain ⟨n5, h5, _, _⟩ := DataW.trod_int Tryz.underlying3 q5
  obtain ⟨n6, h6, _, _⟩ := DataW.trod_int Tryz.underlying26 q6
  obtain rfl : c0 = .int .i64 n0 := by simpa [k1] using h0
  obtain rfl : c4 = .int .i64 n4 := by simpa [k1] using h4
  obtain rfl : c5 = .int .i64 n5 := by simpa [k1] using h5
  obtain rfl : c6 = .int .u64 n6 := by simpa [k5] using h6
  exact ⟨⟨n0, l1, l2, l3, n4, n5, n6⟩, VR.of_list (VRs.cons (.d (.v _)) (VRs.cons h1 (VRs.cons h2 (VRs.cons h3 (VRs.cons (.d (.v _)) (VRs.cons (.d (.v _)) (VRs.cons (.d (.v _)) VRs.nil)))))))⟩
end Go.Proofs.YtgebgpdoddjfhaaGreat

/- Nothing is claimed here: an element of a part of a slice; operations on the bits of numbers. -/
namespace Go.Am
set_option linter.unusedSimpArgs false
set_option linter.unusedVariables false
set_option linter.unnecessarySimpa false
set_option linter.unusedSectionVars false
set_option maxRecDepth 100000
open Go Go.RowKit Go.Proofs.Grow

section
variable {P : Program} {tbl : List (Nat × TI)} {o : Oper} {T : Nat → Option AV} {M : Nat → Option AO}
theorem step_index_sl (htb : TOK P tbl) {ty e ety : TypeId} {x y : Operand} {i j : TI} {g sz lo m n : Nat} {c : Option Nat} {k : IntKind} {q : Int} {rs : List (List D)} (ho : o.op = .indexAddr ty x y) (ht : lk tbl ty = some i) (hs : i.isS = true) (he : i.el = some e) (hj : lk tbl e = some j) (hsz : j.size = sz)
    (hx : evA T x = some (.sl g sz lo m c)) (hg : M g = some (.arr ety sz rs)) (hy : evA T y = some (.d (.v (.int k q)))) (hq : q = (n : Int)) (hn : n < m) : StepOK P o T M ⟨.elt g sz (lo + n) 0, [g], []⟩ :=
  step_read [g] fun cx μ T' M' a w h hT hM => by
    subst hq
    subst hsz
    rw [← hM g (by simp)] at hg
    have h1 := h.ev (x := x) hT (by simp [ho, Op.operands]) hx
    have h2 := (h.ev (x := y) hT (by simp [ho, Op.operands]) hy).val
    have hg' : M' g = some (mkO ety j.size none rs) := hg
    obtain ⟨ad, m', cap, xs, q1, q2, q3, q4, q5, q6, _⟩ := h.cells hg'
    generalize hv : a.eval x = v at h1
    cases h1 with
    | @sl _ _ _ _ _ ad2 p m2 cap2 k2 hb hk hnk hc ha =>
      rw [q1] at hb
      obtain ⟨rfl, rfl, rfl⟩ : ad = ad2 ∧ m' = m2 ∧ cap = cap2 := by simpa using hb
      cases ad with
      | none => have := q5 rfl; omega
      | some z =>
        obtain ⟨b, cur, rfl, c1, c2, c3⟩ := q6 z rfl
        have hp : p = some ⟨b, lo * j.size, none⟩ := by
          rcases ha with rfl | ⟨e, _⟩
          · simp [addr_add]
          · omega
        subst hp
        have hrun := run_indexSlice htb ht hs he hj (b := b) (off := lo * j.size) (len := m) (cap := k2) (k := k) hn w
        have e : lo * j.size + n * j.size = (lo + n) * j.size + 0 := by rw [Nat.add_mul, Nat.add_zero]
        rw [e] at hrun
        exact ⟨.pointer (some ⟨b, (lo + n) * j.size + 0, none⟩), by simp only [execOp, ho, hv, h2, Sem.run_bind, hrun, Result.andThen_ok, Sem.run_pure], .elt q1⟩
theorem step_bits {op : BinOp} {t t' : TypeId} {x y : Operand} {a b : Int} {r : Value} (ho : o.op = .binOp op t x y t') (hx : evA T x = some (.d (.v (.int .i64 a)))) (hy : evA T y = some (.d (.v (.int .i64 b))))
    (hr : ∀ w, (binOp op t (.int .i64 a) (.int .i64 b)).run P w = .ok r w) : StepOK P o T M ⟨.d (.v r), [], []⟩ :=
  step_read [] fun cx μ T' M' ac w h hT _ => by
    have h1 := (h.ev (x := x) hT (by simp [ho, Op.operands]) hx).val
    have h2 := (h.ev (x := y) hT (by simp [ho, Op.operands]) hy).val
    refine ⟨r, ?_, .d (.v r)⟩
    simp only [execOp, ho, h1, h2, Sem.run_bind, run_guard_int, Result.andThen_ok, hr, Sem.run_pure]
end
section
variable {cx : Cx} {T : List (Nat × AV)} {M : List (Nat × AO)}
/-- A slice of the call's own gets another name. -/
theorem Le_own (t g' : Nat) {g ty sz : Nat} {rs : List (List D)} (ht : lk T t = some (.own g)) (hg : lk M g = some (.arr ty sz rs)) (hg' : lk M g' = none) : Le cx ⟨T, M⟩ ⟨(t, .own g') :: T, (g', .arr ty sz rs) :: (g, .dead) :: M⟩ := by
  rintro a w ⟨μ, h⟩
  obtain ⟨v, xs, h1, h2, h3, h4, h5⟩ := h.ob g _ hg
  have hv := h.tm t _ ht
  generalize hvv : a.tmps.getD t undef = u at hv
  cases hv with
  | @own _ p m2 c2 hb =>
    rw [h1] at hb
    obtain rfl : v = .slice p m2 c2 := by simpa using hb
    have h6 := h.append (w2 := w) (g' := g') (rs' := rs) (v' := .slice p m2 c2) (ys := xs) hg rfl h1 hg' (Chg.refl _ _) (fun b' hb' => .inl hb') h2 h3 h5 (fun H' hk => h4.mono hk)
    have e2 : upM (lk M) [(g', .arr ty sz rs), (g, .dead)] = lk ((g', .arr ty sz rs) :: (g, .dead) :: M) := by
      funext x
      simp only [upM, lk]
      cases Nat.beq g' x <;> cases Nat.beq g x <;> rfl
    rw [e2] at h6
    refine ⟨_, h6.slot ?_⟩
    rw [hvv]
    exact .own (upμ_self _ _)
/-- A row that is a nil slice. -/
theorem Le_nilrow (g sz : Nat) {ty : Nat} (hg : lk M g = some (.arr ty 1 [[.v (.slice none 0 0)]])) : Le cx ⟨T, M⟩ ⟨T, (g, .arr ty 1 [[.rows sz []]]) :: M⟩ := by
  rintro a w ⟨μ, h⟩
  obtain ⟨v, xs, h1, h2, h3, h4, h5⟩ := h.ob g _ hg
  have h6 := h.swap (o' := .arr ty 1 [[.rows sz []]]) hg rfl rfl fun H' hk => by
    refine ⟨v, xs, h1, h2, by simp, ⟨h4.1, fun i c u hc hu => ?_⟩, h5⟩
    have hi : i = 0 := by
      have := (List.getElem?_eq_some_iff.1 hc).1
      simp at this; exact this
    subst hi
    obtain rfl : D.rows sz [] = c := by simpa using hc
    have hu2 := h4.2 0 (.v (.slice none 0 0)) u rfl hu
    cases hu2
    exact .nil sz none 0 (fun _ => rfl)
  rw [upM_cons] at h6
  exact ⟨μ, h6⟩
end
section
variable {P : Program} {tbl : List (Nat × TI)} {ops r : List Oper} {o : Oper} {fin : List (List Nat × List Nat) → List (Nat × AV) → List (Nat × AO) → Prop} {acc : List (List Nat × List Nat)} {T : List (Nat × AV)} {M : List (Nat × AO)}
theorem WD_ixs (htb : TOK P tbl) {d : Tmp} {ty e ety : TypeId} {x y : Operand} {i j : TI} {g sz lo m n : Nat} {c : Option Nat} {kk : IntKind} {q : Int} {rs : List (List D)} (k : WD P ops fin r (([g], []) :: acc) ((d, .elt g sz (lo + n) 0) :: T) M) (ho : o.op = .indexAddr ty x y := by exact rfl)
    (hg : gd ops T o = some true := by exact rfl) (hd : o.dst = some d := by exact rfl) (ht : lk tbl ty = some i := by exact rfl) (hs : i.isS = true := by exact rfl) (he : i.el = some e := by exact rfl) (hj : lk tbl e = some j := by exact rfl) (hsz : j.size = sz := by exact rfl)
    (hx : evA (lk T) x = some (.sl g sz lo m c) := by exact rfl) (hM : lk M g = some (.arr ety sz rs) := by exact rfl) (hy : evA (lk T) y = some (.d (.v (.int kk q))) := by exact rfl) (hq : q = (n : Int) := by exact nat_q) (hn : n < m := by exact len) : WD P ops fin (o :: r) acc T M :=
  WD_dv hg hd (step_index_sl htb ho ht hs he hj hsz hx hM hy hq hn) k
end
end Go.Am

/- Contracts of the source's odd assets and bent ledgers. -/
namespace Go.Proofs.YtgebgpdoddjfhaaGreat
set_option linter.unusedSimpArgs false
set_option linter.unusedVariables false
set_option linter.unnecessarySimpa false
set_option linter.unusedSectionVars false
set_option maxRecDepth 100000
open Go Go.RowKit Go.Am Go.Proofs.Grow

def odA6 : List (ByteArray × Int) := [(⟨#[117, 115, 100]⟩, 1), (⟨#[76, 79, 78, 71, 69, 82]⟩, 1), (⟨#[85, 83, 68]⟩, 0), (⟨#[]⟩, 3), (⟨#[85, 83, 68]⟩, 1001), (⟨#[88, 65, 85]⟩, 9)]
theorem oddAsset_m (s : Sc) (hs : s.ok) : FnM Tryz.prog 37 [s.box] [.ptr 9000 0] (aT (nth odA6 (s.n 6).toNat).1 (nth odA6 (s.n 6).toNat).2) [(s.x 6).box] := by
  refine FnM.of htb Tryz.func37 rfl rfl rfl rfl rfl fun cx hN h0 => ?_
  have hb := s.n_bd (k := 6) (by decide)
  (repeat' (first | ((with_reducible apply WD_id); first | (refine WD_row htb odA6 rT ?_ (hn := by first | (exact by decide) | (simp only [odA6, List.length_cons, List.length_nil]; omega)))) | (refine nx ?_) | (refine WD_unk (by exact rfl) ?_; ((refine WD_tf (by exact rfl) (by exact rfl) ?_ ?_) <;> (intro hb; (fail_if_success (with_reducible injection hb)); rw [hb]; (try simp only [List.length_map] at hb)))) | (refine WD_call (by exact rfl) ?_; first | (refine WD_cM (N_m _ _ ?_ ?_) ?_; (exact hypS); (exact hypS))) | ((refine WD_tf (by exact rfl) (by exact rfl) ?_ ?_) <;> (intro hb; (fail_if_success (with_reducible injection hb)); rw [hb]; (try simp only [List.length_map] at hb))) | (((with_reducible apply gC2); exact rfl) <;> (intro hb; rw [hb]))))
  exact gE (.inr rfl) rfl rfl ⟨rfl, trivial⟩
def od (s : Sc) : Int := nth odds (s.n 15).toNat
def bentF (s : Sc) (g : Led) : Led × Sc :=
  if s.n 8 = 0 then (⟨g.num, g.accs.set ((s.x 8).n g.accs.length).toNat ⟨(nth g.accs ((s.x 8).n g.accs.length).toNat).id, nth odds (((s.x 8).x g.accs.length).n 15).toNat, (nth g.accs ((s.x 8).n g.accs.length).toNat).seq⟩, g.lins, g.offs, g.nid, g.fees, g.link⟩, ((s.x 8).x g.accs.length).x 15)
  else if s.n 8 = 1 then (⟨g.num, g.accs ++ [nth g.accs 0], g.lins, g.offs, g.nid, g.fees, g.link⟩, s.x 8)
  else if s.n 8 = 2 then (⟨g.num, g.accs, g.lins, g.offs, nth [0, 1, 1000001] ((s.x 8).n 3).toNat, g.fees, g.link⟩, (s.x 8).x 3)
  else if s.n 8 = 3 then (⟨g.num, g.accs, g.lins, g.offs, g.nid, nth odds ((s.x 8).n 15).toNat, g.link⟩, (s.x 8).x 15)
  else if s.n 8 = 4 then (if 0 < g.lins.length then (⟨g.num, g.accs, g.lins.set ((s.x 8).n g.lins.length).toNat ⟨(nth g.lins ((s.x 8).n g.lins.length).toNat).acc, (nth g.lins ((s.x 8).n g.lins.length).toNat).code, (nth g.lins ((s.x 8).n g.lins.length).toNat).iss, nth odds (((s.x 8).x g.lins.length).n 15).toNat, (nth g.lins ((s.x 8).n g.lins.length).toNat).lim⟩, g.offs, g.nid, g.fees, g.link⟩, ((s.x 8).x g.lins.length).x 15) else (g, s.x 8))
  else if s.n 8 = 5 then (if 0 < g.lins.length then (⟨g.num, g.accs, g.lins.set ((s.x 8).n g.lins.length).toNat ⟨(nth g.lins ((s.x 8).n g.lins.length).toNat).acc, (nth odA6 (((s.x 8).x g.lins.length).n 6).toNat).1, (nth odA6 (((s.x 8).x g.lins.length).n 6).toNat).2, (nth g.lins ((s.x 8).n g.lins.length).toNat).bal, (nth g.lins ((s.x 8).n g.lins.length).toNat).lim⟩, g.offs, g.nid, g.fees, g.link⟩, ((s.x 8).x g.lins.length).x 6) else (g, s.x 8))
  else if s.n 8 = 6 then (if 0 < g.offs.length then (⟨g.num, g.accs, g.lins, g.offs.set ((s.x 8).n g.offs.length).toNat ⟨(nth g.offs ((s.x 8).n g.offs.length).toNat).id, (nth g.offs ((s.x 8).n g.offs.length).toNat).seller, (nth g.offs ((s.x 8).n g.offs.length).toNat).sc, (nth g.offs ((s.x 8).n g.offs.length).toNat).si, (nth g.offs ((s.x 8).n g.offs.length).toNat).bc, (nth g.offs ((s.x 8).n g.offs.length).toNat).bi, (nth g.offs ((s.x 8).n g.offs.length).toNat).amt, nth [0, 2, 4] (((s.x 8).x g.offs.length).n 3).toNat, nth [2, 6] ((((s.x 8).x g.offs.length).x 3).n 2).toNat⟩, g.nid, g.fees, g.link⟩, (((s.x 8).x g.offs.length).x 3).x 2) else (g, s.x 8))
  else (⟨nth odds ((s.x 8).n 15).toNat, g.accs, g.lins, g.offs, g.nid, g.fees, g.link⟩, (s.x 8).x 15)
theorem bentF_ok {s : Sc} (h : s.ok) (g : Led) : (bentF s g).2.ok := by
  unfold bentF
  repeat' split
  all_goals repeat first | exact h | apply Sc.ok_x
theorem bentF_lens (s : Sc) (g : Led) : (bentF s g).1.accs.length ≤ g.accs.length + 1 ∧ (bentF s g).1.lins.length = g.lins.length ∧ (bentF s g).1.offs.length = g.offs.length := by
  unfold bentF
  repeat' split
  all_goals simp
set_option maxHeartbeats 8000000 in
theorem bent_m (s : Sc) (g : Led) (hs : s.ok) (ha1 : 1 ≤ g.accs.length) (ha : g.accs.length ≤ 900) (hl : g.lins.length ≤ 900) (ho : g.offs.length ≤ 900) : FnM Tryz.prog 11 [s.box] [.ptr 9000 0, aG g] (aG (bentF s g).1) [(bentF s g).2.box] := by
  refine FnM.of htb Tryz.func11 rfl rfl rfl rfl rfl fun cx hN h0 => ?_
  have b8 := s.n_bd (k := 8) (by decide)
  have o1 := Sc.ok_x hs 8
  have ba := (s.x 8).n_bd (k := (g.accs.length : Int)) (by omega)
  have h8 : s.n 8 = 0 ∨ s.n 8 = 1 ∨ s.n 8 = 2 ∨ s.n 8 = 3 ∨ s.n 8 = 4 ∨ s.n 8 = 5 ∨ s.n 8 = 6 ∨ s.n 8 = 7 := by omega
  clear b8
  rcases h8 with h | h | h | h | h | h | h | h
  · have c0 : (s.n 8 == 0) = true := by rw [h]; rfl
    have e : bentF s g = (⟨g.num, g.accs.set ((s.x 8).n g.accs.length).toNat ⟨(nth g.accs ((s.x 8).n g.accs.length).toNat).id, nth odds (((s.x 8).x g.accs.length).n 15).toNat, (nth g.accs ((s.x 8).n g.accs.length).toNat).seq⟩, g.lins, g.offs, g.nid, g.fees, g.link⟩, ((s.x 8).x g.accs.length).x 15) := by unfold bentF; rw [if_pos h]
    have hrow : (g.accs.map rA).set ((s.x 8).n g.accs.length).toNat [dI (nth g.accs ((s.x 8).n g.accs.length).toNat).id, dI (nth odds (((s.x 8).x g.accs.length).n 15).toNat), dI (nth g.accs ((s.x 8).n g.accs.length).toNat).seq] = (g.accs.set ((s.x 8).n g.accs.length).toNat ⟨(nth g.accs ((s.x 8).n g.accs.length).toNat).id, nth odds (((s.x 8).x g.accs.length).n 15).toNat, (nth g.accs ((s.x 8).n g.accs.length).toNat).seq⟩).map rA := by rw [List.map_set]; rfl
    rw [e]
    clear e
    (repeat' (first | (refine nx ?_) | (refine WD_unk (by exact rfl) ?_; ((refine WD_tf (by exact rfl) (by exact rfl) ?_ ?_) <;> (intro hb; (fail_if_success (with_reducible injection hb)); rw [hb]; (try simp only [List.length_map] at hb)))) | (refine WD_call (by exact rfl) ?_; first | (refine WD_cM (N_m _ _ ?_ ?_) ?_; (exact hypS); (exact hypS)) | (refine WD_cM (odd_m _ ?_) ?_; (exact hypS)) | (refine WD_cM (oddAsset_m _ ?_) ?_; (exact hypS)) | (refine WD_cM (Pick_m (l := [0, 1, 1000001]) _ ?_ ?_ ?_) ?_; (exact hypS); (exact hypS); (exact hypS)) | (refine WD_cM (Pick_m (l := [0, 2, 4]) _ ?_ ?_ ?_) ?_; (exact hypS); (exact hypS); (exact hypS)) | (refine WD_cM (Pick_m (l := [2, 6]) _ ?_ ?_ ?_) ?_; (exact hypS); (exact hypS); (exact hypS))) | ((refine WD_tf (by exact rfl) (by exact rfl) ?_ ?_) <;> (intro hb; (fail_if_success (with_reducible injection hb)); rw [hb]; (try simp only [List.length_map] at hb))) | (((with_reducible apply gC2); exact rfl) <;> (intro hb; rw [hb]))))
    (exact glV [(4, .ptr 4 0)] [(4, .box 28 (cellsOf (aG ⟨g.num, g.accs.set ((s.x 8).n g.accs.length).toNat ⟨(nth g.accs ((s.x 8).n g.accs.length).toNat).id, nth odds (((s.x 8).x g.accs.length).n 15).toNat, (nth g.accs ((s.x 8).n g.accs.length).toNat).seq⟩, g.lins, g.offs, g.nid, g.fees, g.link⟩))), Sc.box (((s.x 8).x g.accs.length).x 15)] (LeV []))
  · have c0 : (s.n 8 == 0) = false := by rw [h]; rfl
    have c1 : (s.n 8 == 1) = true := by rw [h]; rfl
    have ha2 : 0 < g.accs.length := by omega
    have e : bentF s g = (⟨g.num, g.accs ++ [nth g.accs 0], g.lins, g.offs, g.nid, g.fees, g.link⟩, s.x 8) := by unfold bentF; rw [if_neg (by omega), if_pos h]
    have hrow : g.accs.map rA ++ [rA (nth g.accs 0)] = (g.accs ++ [nth g.accs 0]).map rA := by rw [List.map_append]; rfl
    rw [e]
    clear e
    (repeat' (first | (refine nx ?_) | (refine WD_unk (by exact rfl) ?_; ((refine WD_tf (by exact rfl) (by exact rfl) ?_ ?_) <;> (intro hb; (fail_if_success (with_reducible injection hb)); rw [hb]; (try simp only [List.length_map] at hb)))) | (refine WD_call (by exact rfl) ?_; first | (refine WD_cM (N_m _ _ ?_ ?_) ?_; (exact hypS); (exact hypS)) | (refine WD_cM (odd_m _ ?_) ?_; (exact hypS)) | (refine WD_cM (oddAsset_m _ ?_) ?_; (exact hypS)) | (refine WD_cM (Pick_m (l := [0, 1, 1000001]) _ ?_ ?_ ?_) ?_; (exact hypS); (exact hypS); (exact hypS)) | (refine WD_cM (Pick_m (l := [0, 2, 4]) _ ?_ ?_ ?_) ?_; (exact hypS); (exact hypS); (exact hypS)) | (refine WD_cM (Pick_m (l := [2, 6]) _ ?_ ?_ ?_) ?_; (exact hypS); (exact hypS); (exact hypS))) | ((refine WD_tf (by exact rfl) (by exact rfl) ?_ ?_) <;> (intro hb; (fail_if_success (with_reducible injection hb)); rw [hb]; (try simp only [List.length_map] at hb))) | (((with_reducible apply gC2); exact rfl) <;> (intro hb; rw [hb]))))
    (exact glV [(4, .ptr 4 0)] [(4, .box 28 (cellsOf (aG ⟨g.num, g.accs ++ [nth g.accs 0], g.lins, g.offs, g.nid, g.fees, g.link⟩))), Sc.box (s.x 8)] (LeV []))
  · have c0 : (s.n 8 == 0) = false := by rw [h]; rfl
    have c1 : (s.n 8 == 1) = false := by rw [h]; rfl
    have c2 : (s.n 8 == 2) = true := by rw [h]; rfl
    have b3 := (s.x 8).n_bd (k := 3) (by decide)
    have e : bentF s g = (⟨g.num, g.accs, g.lins, g.offs, nth [0, 1, 1000001] ((s.x 8).n 3).toNat, g.fees, g.link⟩, (s.x 8).x 3) := by unfold bentF; rw [if_neg (by omega), if_neg (by omega), if_pos h]
    rw [e]
    clear e
    (repeat' (first | (refine nx ?_) | (refine WD_unk (by exact rfl) ?_; ((refine WD_tf (by exact rfl) (by exact rfl) ?_ ?_) <;> (intro hb; (fail_if_success (with_reducible injection hb)); rw [hb]; (try simp only [List.length_map] at hb)))) | (refine WD_call (by exact rfl) ?_; first | (refine WD_cM (N_m _ _ ?_ ?_) ?_; (exact hypS); (exact hypS)) | (refine WD_cM (odd_m _ ?_) ?_; (exact hypS)) | (refine WD_cM (oddAsset_m _ ?_) ?_; (exact hypS)) | (refine WD_cM (Pick_m (l := [0, 1, 1000001]) _ ?_ ?_ ?_) ?_; (exact hypS); (exact hypS); (exact hypS)) | (refine WD_cM (Pick_m (l := [0, 2, 4]) _ ?_ ?_ ?_) ?_; (exact hypS); (exact hypS); (exact hypS)) | (refine WD_cM (Pick_m (l := [2, 6]) _ ?_ ?_ ?_) ?_; (exact hypS); (exact hypS); (exact hypS))) | ((refine WD_tf (by exact rfl) (by exact rfl) ?_ ?_) <;> (intro hb; (fail_if_success (with_reducible injection hb)); rw [hb]; (try simp only [List.length_map] at hb))) | (((with_reducible apply gC2); exact rfl) <;> (intro hb; rw [hb]))))
    (exact glV [(4, .ptr 4 0)] [(4, .box 28 (cellsOf (aG ⟨g.num, g.accs, g.lins, g.offs, nth [0, 1, 1000001] ((s.x 8).n 3).toNat, g.fees, g.link⟩))), Sc.box ((s.x 8).x 3)] (LeV []))
  · have c0 : (s.n 8 == 0) = false := by rw [h]; rfl
    have c1 : (s.n 8 == 1) = false := by rw [h]; rfl
    have c2 : (s.n 8 == 2) = false := by rw [h]; rfl
    have c3 : (s.n 8 == 3) = true := by rw [h]; rfl
    have e : bentF s g = (⟨g.num, g.accs, g.lins, g.offs, g.nid, nth odds ((s.x 8).n 15).toNat, g.link⟩, (s.x 8).x 15) := by unfold bentF; rw [if_neg (by omega), if_neg (by omega), if_neg (by omega), if_pos h]
    rw [e]
    clear e
    (repeat' (first | (refine nx ?_) | (refine WD_unk (by exact rfl) ?_; ((refine WD_tf (by exact rfl) (by exact rfl) ?_ ?_) <;> (intro hb; (fail_if_success (with_reducible injection hb)); rw [hb]; (try simp only [List.length_map] at hb)))) | (refine WD_call (by exact rfl) ?_; first | (refine WD_cM (N_m _ _ ?_ ?_) ?_; (exact hypS); (exact hypS)) | (refine WD_cM (odd_m _ ?_) ?_; (exact hypS)) | (refine WD_cM (oddAsset_m _ ?_) ?_; (exact hypS)) | (refine WD_cM (Pick_m (l := [0, 1, 1000001]) _ ?_ ?_ ?_) ?_; (exact hypS); (exact hypS); (exact hypS)) | (refine WD_cM (Pick_m (l := [0, 2, 4]) _ ?_ ?_ ?_) ?_; (exact hypS); (exact hypS); (exact hypS)) | (refine WD_cM (Pick_m (l := [2, 6]) _ ?_ ?_ ?_) ?_; (exact hypS); (exact hypS); (exact hypS))) | ((refine WD_tf (by exact rfl) (by exact rfl) ?_ ?_) <;> (intro hb; (fail_if_success (with_reducible injection hb)); rw [hb]; (try simp only [List.length_map] at hb))) | (((with_reducible apply gC2); exact rfl) <;> (intro hb; rw [hb]))))
    (exact glV [(4, .ptr 4 0)] [(4, .box 28 (cellsOf (aG ⟨g.num, g.accs, g.lins, g.offs, g.nid, nth odds ((s.x 8).n 15).toNat, g.link⟩))), Sc.box ((s.x 8).x 15)] (LeV []))
  · have c0 : (s.n 8 == 0) = false := by rw [h]; rfl
    have c1 : (s.n 8 == 1) = false := by rw [h]; rfl
    have c2 : (s.n 8 == 2) = false := by rw [h]; rfl
    have c3 : (s.n 8 == 3) = false := by rw [h]; rfl
    have c4 : (s.n 8 == 4) = true := by rw [h]; rfl
    by_cases hz : 0 < g.lins.length
    · have d1 : decide ((g.lins.length : Int) > 0) = true := by simp; omega
      have bl := (s.x 8).n_bd (k := (g.lins.length : Int)) (by omega)
      have e : bentF s g = (⟨g.num, g.accs, g.lins.set ((s.x 8).n g.lins.length).toNat ⟨(nth g.lins ((s.x 8).n g.lins.length).toNat).acc, (nth g.lins ((s.x 8).n g.lins.length).toNat).code, (nth g.lins ((s.x 8).n g.lins.length).toNat).iss, nth odds (((s.x 8).x g.lins.length).n 15).toNat, (nth g.lins ((s.x 8).n g.lins.length).toNat).lim⟩, g.offs, g.nid, g.fees, g.link⟩, ((s.x 8).x g.lins.length).x 15) := by unfold bentF; rw [if_neg (by omega), if_neg (by omega), if_neg (by omega), if_neg (by omega), if_pos h, if_pos hz]
      have hrow : (g.lins.map rL).set ((s.x 8).n g.lins.length).toNat [dI (nth g.lins ((s.x 8).n g.lins.length).toNat).acc, dS (nth g.lins ((s.x 8).n g.lins.length).toNat).code, dI (nth g.lins ((s.x 8).n g.lins.length).toNat).iss, dI (nth odds (((s.x 8).x g.lins.length).n 15).toNat), dI (nth g.lins ((s.x 8).n g.lins.length).toNat).lim] = (g.lins.set ((s.x 8).n g.lins.length).toNat ⟨(nth g.lins ((s.x 8).n g.lins.length).toNat).acc, (nth g.lins ((s.x 8).n g.lins.length).toNat).code, (nth g.lins ((s.x 8).n g.lins.length).toNat).iss, nth odds (((s.x 8).x g.lins.length).n 15).toNat, (nth g.lins ((s.x 8).n g.lins.length).toNat).lim⟩).map rL := by rw [List.map_set]; rfl
      rw [e]
      clear e
      (repeat' (first | (refine nx ?_) | (refine WD_unk (by exact rfl) ?_; ((refine WD_tf (by exact rfl) (by exact rfl) ?_ ?_) <;> (intro hb; (fail_if_success (with_reducible injection hb)); rw [hb]; (try simp only [List.length_map] at hb)))) | (refine WD_call (by exact rfl) ?_; first | (refine WD_cM (N_m _ _ ?_ ?_) ?_; (exact hypS); (exact hypS)) | (refine WD_cM (odd_m _ ?_) ?_; (exact hypS)) | (refine WD_cM (oddAsset_m _ ?_) ?_; (exact hypS)) | (refine WD_cM (Pick_m (l := [0, 2, 4]) _ ?_ ?_ ?_) ?_; (exact hypS); (exact hypS); (exact hypS)) | (refine WD_cM (Pick_m (l := [2, 6]) _ ?_ ?_ ?_) ?_; (exact hypS); (exact hypS); (exact hypS))) | ((refine WD_tf (by exact rfl) (by exact rfl) ?_ ?_) <;> (intro hb; (fail_if_success (with_reducible injection hb)); rw [hb]; (try simp only [List.length_map] at hb))) | (((with_reducible apply gC2); exact rfl) <;> (intro hb; rw [hb]))))
      (exact glV [(4, .ptr 4 0)] [(4, .box 28 (cellsOf (aG ⟨g.num, g.accs, g.lins.set ((s.x 8).n g.lins.length).toNat ⟨(nth g.lins ((s.x 8).n g.lins.length).toNat).acc, (nth g.lins ((s.x 8).n g.lins.length).toNat).code, (nth g.lins ((s.x 8).n g.lins.length).toNat).iss, nth odds (((s.x 8).x g.lins.length).n 15).toNat, (nth g.lins ((s.x 8).n g.lins.length).toNat).lim⟩, g.offs, g.nid, g.fees, g.link⟩))), Sc.box (((s.x 8).x g.lins.length).x 15)] (LeV []))
    · have d1 : decide ((g.lins.length : Int) > 0) = false := by simp only [decide_eq_false_iff_not]; omega
      have e : bentF s g = (g, s.x 8) := by unfold bentF; rw [if_neg (by omega), if_neg (by omega), if_neg (by omega), if_neg (by omega), if_pos h, if_neg hz]
      rw [e]
      clear e
      (repeat' (first | (refine nx ?_) | (refine WD_unk (by exact rfl) ?_; ((refine WD_tf (by exact rfl) (by exact rfl) ?_ ?_) <;> (intro hb; (fail_if_success (with_reducible injection hb)); rw [hb]; (try simp only [List.length_map] at hb)))) | (refine WD_call (by exact rfl) ?_; first | (refine WD_cM (N_m _ _ ?_ ?_) ?_; (exact hypS); (exact hypS)) | (refine WD_cM (odd_m _ ?_) ?_; (exact hypS))) | ((refine WD_tf (by exact rfl) (by exact rfl) ?_ ?_) <;> (intro hb; (fail_if_success (with_reducible injection hb)); rw [hb]; (try simp only [List.length_map] at hb))) | (((with_reducible apply gC2); exact rfl) <;> (intro hb; rw [hb]))))
      (exact glV [(4, .ptr 4 0)] [(4, .box 28 (cellsOf (aG g))), Sc.box (s.x 8)] (LeV []))
  · have c0 : (s.n 8 == 0) = false := by rw [h]; rfl
    have c1 : (s.n 8 == 1) = false := by rw [h]; rfl
    have c2 : (s.n 8 == 2) = false := by rw [h]; rfl
    have c3 : (s.n 8 == 3) = false := by rw [h]; rfl
    have c4 : (s.n 8 == 4) = false := by rw [h]; rfl
    have c5 : (s.n 8 == 5) = true := by rw [h]; rfl
    by_cases hz : 0 < g.lins.length
    · have d1 : decide ((g.lins.length : Int) > 0) = true := by simp; omega
      have bl := (s.x 8).n_bd (k := (g.lins.length : Int)) (by omega)
      have e : bentF s g = (⟨g.num, g.accs, g.lins.set ((s.x 8).n g.lins.length).toNat ⟨(nth g.lins ((s.x 8).n g.lins.length).toNat).acc, (nth odA6 (((s.x 8).x g.lins.length).n 6).toNat).1, (nth odA6 (((s.x 8).x g.lins.length).n 6).toNat).2, (nth g.lins ((s.x 8).n g.lins.length).toNat).bal, (nth g.lins ((s.x 8).n g.lins.length).toNat).lim⟩, g.offs, g.nid, g.fees, g.link⟩, ((s.x 8).x g.lins.length).x 6) := by unfold bentF; rw [if_neg (by omega), if_neg (by omega), if_neg (by omega), if_neg (by omega), if_neg (by omega), if_pos h, if_pos hz]
      have hrow : (g.lins.map rL).set ((s.x 8).n g.lins.length).toNat [dI (nth g.lins ((s.x 8).n g.lins.length).toNat).acc, dS (nth odA6 (((s.x 8).x g.lins.length).n 6).toNat).1, dI (nth odA6 (((s.x 8).x g.lins.length).n 6).toNat).2, dI (nth g.lins ((s.x 8).n g.lins.length).toNat).bal, dI (nth g.lins ((s.x 8).n g.lins.length).toNat).lim] = (g.lins.set ((s.x 8).n g.lins.length).toNat ⟨(nth g.lins ((s.x 8).n g.lins.length).toNat).acc, (nth odA6 (((s.x 8).x g.lins.length).n 6).toNat).1, (nth odA6 (((s.x 8).x g.lins.length).n 6).toNat).2, (nth g.lins ((s.x 8).n g.lins.length).toNat).bal, (nth g.lins ((s.x 8).n g.lins.length).toNat).lim⟩).map rL := by rw [List.map_set]; rfl
      rw [e]
      clear e
      (repeat' (first | (refine nx ?_) | (refine WD_unk (by exact rfl) ?_; ((refine WD_tf (by exact rfl) (by exact rfl) ?_ ?_) <;> (intro hb; (fail_if_success (with_reducible injection hb)); rw [hb]; (try simp only [List.length_map] at hb)))) | (refine WD_call (by exact rfl) ?_; first | (refine WD_cM (N_m _ _ ?_ ?_) ?_; (exact hypS); (exact hypS)) | (refine WD_cM (odd_m _ ?_) ?_; (exact hypS)) | (refine WD_cM (oddAsset_m _ ?_) ?_; (exact hypS)) | (refine WD_cM (Pick_m (l := [0, 2, 4]) _ ?_ ?_ ?_) ?_; (exact hypS); (exact hypS); (exact hypS)) | (refine WD_cM (Pick_m (l := [2, 6]) _ ?_ ?_ ?_) ?_; (exact hypS); (exact hypS); (exact hypS))) | ((refine WD_tf (by exact rfl) (by exact rfl) ?_ ?_) <;> (intro hb; (fail_if_success (with_reducible injection hb)); rw [hb]; (try simp only [List.length_map] at hb))) | (((with_reducible apply gC2); exact rfl) <;> (intro hb; rw [hb]))))
      (exact glV [(4, .ptr 4 0)] [(4, .box 28 (cellsOf (aG ⟨g.num, g.accs, g.lins.set ((s.x 8).n g.lins.length).toNat ⟨(nth g.lins ((s.x 8).n g.lins.length).toNat).acc, (nth odA6 (((s.x 8).x g.lins.length).n 6).toNat).1, (nth odA6 (((s.x 8).x g.lins.length).n 6).toNat).2, (nth g.lins ((s.x 8).n g.lins.length).toNat).bal, (nth g.lins ((s.x 8).n g.lins.length).toNat).lim⟩, g.offs, g.nid, g.fees, g.link⟩))), Sc.box (((s.x 8).x g.lins.length).x 6)] (LeV []))
    · have d1 : decide ((g.lins.length : Int) > 0) = false := by simp only [decide_eq_false_iff_not]; omega
      have e : bentF s g = (g, s.x 8) := by unfold bentF; rw [if_neg (by omega), if_neg (by omega), if_neg (by omega), if_neg (by omega), if_neg (by omega), if_pos h, if_neg hz]
      rw [e]
      clear e
      (repeat' (first | (refine nx ?_) | (refine WD_unk (by exact rfl) ?_; ((refine WD_tf (by exact rfl) (by exact rfl) ?_ ?_) <;> (intro hb; (fail_if_success (with_reducible injection hb)); rw [hb]; (try simp only [List.length_map] at hb)))) | (refine WD_call (by exact rfl) ?_; first | (refine WD_cM (N_m _ _ ?_ ?_) ?_; (exact hypS); (exact hypS)) | (refine WD_cM (odd_m _ ?_) ?_; (exact hypS))) | ((refine WD_tf (by exact rfl) (by exact rfl) ?_ ?_) <;> (intro hb; (fail_if_success (with_reducible injection hb)); rw [hb]; (try simp only [List.length_map] at hb))) | (((with_reducible apply gC2); exact rfl) <;> (intro hb; rw [hb]))))
      (exact glV [(4, .ptr 4 0)] [(4, .box 28 (cellsOf (aG g))), Sc.box (s.x 8)] (LeV []))
  · have c0 : (s.n 8 == 0) = false := by rw [h]; rfl
    have c1 : (s.n 8 == 1) = false := by rw [h]; rfl
    have c2 : (s.n 8 == 2) = false := by rw [h]; rfl
    have c3 : (s.n 8 == 3) = false := by rw [h]; rfl
    have c4 : (s.n 8 == 4) = false := by rw [h]; rfl
    have c5 : (s.n 8 == 5) = false := by rw [h]; rfl
    have c6 : (s.n 8 == 6) = true := by rw [h]; rfl
    by_cases hz : 0 < g.offs.length
    · have d1 : decide ((g.offs.length : Int) > 0) = true := by simp; omega
      have bl := (s.x 8).n_bd (k := (g.offs.length : Int)) (by omega)
      have e : bentF s g = (⟨g.num, g.accs, g.lins, g.offs.set ((s.x 8).n g.offs.length).toNat ⟨(nth g.offs ((s.x 8).n g.offs.length).toNat).id, (nth g.offs ((s.x 8).n g.offs.length).toNat).seller, (nth g.offs ((s.x 8).n g.offs.length).toNat).sc, (nth g.offs ((s.x 8).n g.offs.length).toNat).si, (nth g.offs ((s.x 8).n g.offs.length).toNat).bc, (nth g.offs ((s.x 8).n g.offs.length).toNat).bi, (nth g.offs ((s.x 8).n g.offs.length).toNat).amt, nth [0, 2, 4] (((s.x 8).x g.offs.length).n 3).toNat, nth [2, 6] ((((s.x 8).x g.offs.length).x 3).n 2).toNat⟩, g.nid, g.fees, g.link⟩, (((s.x 8).x g.offs.length).x 3).x 2) := by unfold bentF; rw [if_neg (by omega), if_neg (by omega), if_neg (by omega), if_neg (by omega), if_neg (by omega), if_neg (by omega), if_pos h, if_pos hz]
      have hrow : ((g.offs.map rO).set ((s.x 8).n g.offs.length).toNat [dI (nth g.offs ((s.x 8).n g.offs.length).toNat).id, dI (nth g.offs ((s.x 8).n g.offs.length).toNat).seller, dS (nth g.offs ((s.x 8).n g.offs.length).toNat).sc, dI (nth g.offs ((s.x 8).n g.offs.length).toNat).si, dS (nth g.offs ((s.x 8).n g.offs.length).toNat).bc, dI (nth g.offs ((s.x 8).n g.offs.length).toNat).bi, dI (nth g.offs ((s.x 8).n g.offs.length).toNat).amt, dI (nth [0, 2, 4] (((s.x 8).x g.offs.length).n 3).toNat), dI (nth g.offs ((s.x 8).n g.offs.length).toNat).den]).set ((s.x 8).n g.offs.length).toNat [dI (nth g.offs ((s.x 8).n g.offs.length).toNat).id, dI (nth g.offs ((s.x 8).n g.offs.length).toNat).seller, dS (nth g.offs ((s.x 8).n g.offs.length).toNat).sc, dI (nth g.offs ((s.x 8).n g.offs.length).toNat).si, dS (nth g.offs ((s.x 8).n g.offs.length).toNat).bc, dI (nth g.offs ((s.x 8).n g.offs.length).toNat).bi, dI (nth g.offs ((s.x 8).n g.offs.length).toNat).amt, dI (nth [0, 2, 4] (((s.x 8).x g.offs.length).n 3).toNat), dI (nth [2, 6] ((((s.x 8).x g.offs.length).x 3).n 2).toNat)] = (g.offs.set ((s.x 8).n g.offs.length).toNat ⟨(nth g.offs ((s.x 8).n g.offs.length).toNat).id, (nth g.offs ((s.x 8).n g.offs.length).toNat).seller, (nth g.offs ((s.x 8).n g.offs.length).toNat).sc, (nth g.offs ((s.x 8).n g.offs.length).toNat).si, (nth g.offs ((s.x 8).n g.offs.length).toNat).bc, (nth g.offs ((s.x 8).n g.offs.length).toNat).bi, (nth g.offs ((s.x 8).n g.offs.length).toNat).amt, nth [0, 2, 4] (((s.x 8).x g.offs.length).n 3).toNat, nth [2, 6] ((((s.x 8).x g.offs.length).x 3).n 2).toNat⟩).map rO := by rw [List.set_set, List.map_set]; rfl
      rw [e]
      clear e
      (repeat' (first | (refine nx ?_) | (refine WD_unk (by exact rfl) ?_; ((refine WD_tf (by exact rfl) (by exact rfl) ?_ ?_) <;> (intro hb; (fail_if_success (with_reducible injection hb)); rw [hb]; (try simp only [List.length_map] at hb)))) | (refine WD_call (by exact rfl) ?_; first | (refine WD_cM (N_m _ _ ?_ ?_) ?_; (exact hypS); (exact hypS)) | (refine WD_cM (odd_m _ ?_) ?_; (exact hypS)) | (refine WD_cM (oddAsset_m _ ?_) ?_; (exact hypS)) | (refine WD_cM (Pick_m (l := [0, 2, 4]) _ ?_ ?_ ?_) ?_; (exact hypS); (exact hypS); (exact hypS)) | (refine WD_cM (Pick_m (l := [2, 6]) _ ?_ ?_ ?_) ?_; (exact hypS); (exact hypS); (exact hypS))) | ((refine WD_tf (by exact rfl) (by exact rfl) ?_ ?_) <;> (intro hb; (fail_if_success (with_reducible injection hb)); rw [hb]; (try simp only [List.length_map] at hb))) | (((with_reducible apply gC2); exact rfl) <;> (intro hb; rw [hb]))))
      (exact glV [(4, .ptr 4 0)] [(4, .box 28 (cellsOf (aG ⟨g.num, g.accs, g.lins, g.offs.set ((s.x 8).n g.offs.length).toNat ⟨(nth g.offs ((s.x 8).n g.offs.length).toNat).id, (nth g.offs ((s.x 8).n g.offs.length).toNat).seller, (nth g.offs ((s.x 8).n g.offs.length).toNat).sc, (nth g.offs ((s.x 8).n g.offs.length).toNat).si, (nth g.offs ((s.x 8).n g.offs.length).toNat).bc, (nth g.offs ((s.x 8).n g.offs.length).toNat).bi, (nth g.offs ((s.x 8).n g.offs.length).toNat).amt, nth [0, 2, 4] (((s.x 8).x g.offs.length).n 3).toNat, nth [2, 6] ((((s.x 8).x g.offs.length).x 3).n 2).toNat⟩, g.nid, g.fees, g.link⟩))), Sc.box ((((s.x 8).x g.offs.length).x 3).x 2)] (LeV []))
    · have d1 : decide ((g.offs.length : Int) > 0) = false := by simp only [decide_eq_false_iff_not]; omega
      have e : bentF s g = (g, s.x 8) := by unfold bentF; rw [if_neg (by omega), if_neg (by omega), if_neg (by omega), if_neg (by omega), if_neg (by omega), if_neg (by omega), if_pos h, if_neg hz]
      rw [e]
      clear e
      (repeat' (first | (refine nx ?_) | (refine WD_unk (by exact rfl) ?_; ((refine WD_tf (by exact rfl) (by exact rfl) ?_ ?_) <;> (intro hb; (fail_if_success (with_reducible injection hb)); rw [hb]; (try simp only [List.length_map] at hb)))) | (refine WD_call (by exact rfl) ?_; first | (refine WD_cM (N_m _ _ ?_ ?_) ?_; (exact hypS); (exact hypS)) | (refine WD_cM (odd_m _ ?_) ?_; (exact hypS))) | ((refine WD_tf (by exact rfl) (by exact rfl) ?_ ?_) <;> (intro hb; (fail_if_success (with_reducible injection hb)); rw [hb]; (try simp only [List.length_map] at hb))) | (((with_reducible apply gC2); exact rfl) <;> (intro hb; rw [hb]))))
      (exact glV [(4, .ptr 4 0)] [(4, .box 28 (cellsOf (aG g))), Sc.box (s.x 8)] (LeV []))
  · have c0 : (s.n 8 == 0) = false := by rw [h]; rfl
    have c1 : (s.n 8 == 1) = false := by rw [h]; rfl
    have c2 : (s.n 8 == 2) = false := by rw [h]; rfl
    have c3 : (s.n 8 == 3) = false := by rw [h]; rfl
    have c4 : (s.n 8 == 4) = false := by rw [h]; rfl
    have c5 : (s.n 8 == 5) = false := by rw [h]; rfl
    have c6 : (s.n 8 == 6) = false := by rw [h]; rfl
    have e : bentF s g = (⟨nth odds ((s.x 8).n 15).toNat, g.accs, g.lins, g.offs, g.nid, g.fees, g.link⟩, (s.x 8).x 15) := by unfold bentF; rw [if_neg (by omega), if_neg (by omega), if_neg (by omega), if_neg (by omega), if_neg (by omega), if_neg (by omega), if_neg (by omega)]
    rw [e]
    clear e
    (repeat' (first | (refine nx ?_) | (refine WD_unk (by exact rfl) ?_; ((refine WD_tf (by exact rfl) (by exact rfl) ?_ ?_) <;> (intro hb; (fail_if_success (with_reducible injection hb)); rw [hb]; (try simp only [List.length_map] at hb)))) | (refine WD_call (by exact rfl) ?_; first | (refine WD_cM (N_m _ _ ?_ ?_) ?_; (exact hypS); (exact hypS)) | (refine WD_cM (odd_m _ ?_) ?_; (exact hypS)) | (refine WD_cM (oddAsset_m _ ?_) ?_; (exact hypS)) | (refine WD_cM (Pick_m (l := [0, 1, 1000001]) _ ?_ ?_ ?_) ?_; (exact hypS); (exact hypS); (exact hypS)) | (refine WD_cM (Pick_m (l := [0, 2, 4]) _ ?_ ?_ ?_) ?_; (exact hypS); (exact hypS); (exact hypS)) | (refine WD_cM (Pick_m (l := [2, 6]) _ ?_ ?_ ?_) ?_; (exact hypS); (exact hypS); (exact hypS))) | ((refine WD_tf (by exact rfl) (by exact rfl) ?_ ?_) <;> (intro hb; (fail_if_success (with_reducible injection hb)); rw [hb]; (try simp only [List.length_map] at hb))) | (((with_reducible apply gC2); exact rfl) <;> (intro hb; rw [hb]))))
    (exact glV [(4, .ptr 4 0)] [(4, .box 28 (cellsOf (aG ⟨nth odds ((s.x 8).n 15).toNat, g.accs, g.lins, g.offs, g.nid, g.fees, g.link⟩))), Sc.box ((s.x 8).x 15)] (LeV []))
theorem bent_e (s : Sc) (g : Led) (t : Led × Sc) (hs : s.ok) (ha1 : 1 ≤ g.accs.length) (ha : g.accs.length ≤ 900) (hl : g.lins.length ≤ 900) (ho : g.offs.length ≤ 900) (he : bentF s g = t) : FnM Tryz.prog 11 [s.box] [.ptr 9000 0, aG g] (aG t.1) [t.2.box] := he ▸ bent_m s g hs ha1 ha hl ho
end Go.Proofs.YtgebgpdoddjfhaaGreat

/- Plain law of PathsDeliver, as the walk uses it. No program stands here. -/
namespace Go.Proofs.YtgebgpdoddjfhaaGreat
set_option linter.unusedSimpArgs false
set_option linter.unusedVariables false
set_option linter.unnecessarySimpa false
set_option linter.unusedSectionVars false
set_option maxRecDepth 100000
open Go Go.RowKit Go.Am Go.Proofs.Grow

/-- What a purchase leaves as it is, for who sells nothing. -/
structure Kept (g g' : Led) : Prop where
  look : ∀ b, (∀ y ∈ g.offs, ¬ y.seller = b) → ∀ w z, lookF g' b w z = lookF g b w z
  sel : ∀ y ∈ g'.offs, ∃ y' ∈ g.offs, y'.seller = y.seller
theorem Kept.refl (g : Led) : Kept g g := ⟨fun _ _ _ _ => rfl, fun y hy => ⟨y, hy, rfl⟩⟩
theorem Kept.trans {g h k : Led} (a : Kept g h) (b : Kept h k) : Kept g k := by
  refine ⟨fun c hc w z => ?_, fun y hy => ?_⟩
  · rw [b.look c (fun y hy e => ?_) w z, a.look c hc w z]
    obtain ⟨y', h1, h2⟩ := a.sel y hy
    exact hc y' h1 (h2.trans e)
  · obtain ⟨y', h1, h2⟩ := b.sel y hy
    obtain ⟨y2, h3, h4⟩ := a.sel y' h1
    exact ⟨y2, h3, h4.trans h2⟩
theorem kept_all {g : Led} (h : RightO g) {u : ByteArray} {i : Int} {v : ByteArray} {j : Int} {n most t : Int} (n0 : 0 ≤ n) (m0 : 0 ≤ most) : Kept g (crossD g t u i v j n most).g := by
  obtain ⟨_, _, hm, _⟩ := book_srt h u i v j
  refine (cross_ind (t := t) (fun x => x ∈ g.offs) (fun d => Kept g d.g) ?_ _ ⟨g, n, most⟩ h n0 m0 (fun x hx => ((hm x).1 hx).1) (fun x hx => ((hm x).1 hx).1) (book_nodup h u i v j) (Kept.refl g)).1
  intro d x p k c g' d' more hr hp hx hq ht w0 l0 hP hu
  have hs := hu.sold
  have hxm : x ∈ d.g.offs := hx ▸ nth_mem _ p hp
  refine ⟨fun b hb w z => ?_, fun y hy => ?_⟩
  · have e : lookF d'.g b w z = lookF g' b w z := by rw [hu.led]; rfl
    have hne : ¬ b = x.seller := fun e => hb x hq e.symm
    rw [e, hs.other b w z (fun q => hne q.1) (fun q => hne q.1), hP.look b hb w z]
  · cases more with
    | true =>
      rw [(hu.gone rfl).1] at hy
      exact hP.sel y (List.mem_of_mem_eraseIdx hy)
    | false =>
      rw [(hu.stop rfl).1] at hy
      rcases List.mem_or_eq_of_mem_set hy with q | q
      · exact hP.sel y q
      · obtain ⟨y', h1, h2⟩ := hP.sel x hxm
        exact ⟨y', h1, by rw [q]; exact h2⟩
/-- What a chain of purchases does. -/
structure Conv (g x : Led) (u : ByteArray) (i n : Int) (v : ByteArray) (j p : Int) : Prop where
  right : RightO x
  p0 : 0 ≤ p
  p1 : p ≤ 1000000000000
  find : ∀ b, (findA x.accs b).2 = (findA g.accs b).2
  la : x.accs.length = g.accs.length
  ll : x.lins.length = g.lins.length
  lo : x.offs.length ≤ g.offs.length
  tot : tot x.accs = tot g.accs - (if nativeB u i = true then n else 0) + (if nativeB v j = true then p else 0)
  kept : Kept g x
theorem conv_spec {t : Int} {c : List TA} (hc : ∀ a ∈ c, assetB a.1 a.2 = true) : ∀ (k : Nat) {g : Led} {n : Int}, k < c.length → RightO g → 0 ≤ n → n ≤ 1000000000000 →
    (convN t c k g n).2.2 = 73 ∨ ((convN t c k g n).2.2 = 0 ∧ Conv g (convN t c k g n).1 (nth c k).1 (nth c k).2 n (nth c 0).1 (nth c 0).2 (convN t c k g n).2.1) := by
  intro k
  induction k with
  | zero =>
    intro g n hk hr n0 n1
    have e : convN t c 0 g n = (g, n, 0) := rfl
    rw [e]
    refine .inr ⟨rfl, hr, n0, n1, fun _ => rfl, rfl, rfl, Nat.le_refl _, ?_, Kept.refl _⟩
    dsimp only
    split <;> omega
  | succ k ih =>
    intro g n hk hr n0 n1
    have hu := hc _ (nth_mem c (k + 1) hk)
    have hv := hc _ (nth_mem c k (by omega))
    unfold convN
    cases he : eqT (nth c (k + 1)).1 (nth c (k + 1)).2 (nth c k).1 (nth c k).2 with
    | true =>
      rw [if_pos rfl]
      obtain ⟨e1, e2⟩ := eqT_iff.1 he
      rw [e1, e2]
      exact ih (by omega) hr n0 n1
    | false =>
      rw [if_neg (by simp)]
      obtain ⟨hM, hR, w0, w1, q0, q1⟩ := moved_all hr (u := (nth c (k + 1)).1) (i := (nth c (k + 1)).2) (v := (nth c k).1) (j := (nth c k).2) (n := n) (most := 1000000000000) (t := t) n0 (by decide)
      have hK := kept_all hr (u := (nth c (k + 1)).1) (i := (nth c (k + 1)).2) (v := (nth c k).1) (j := (nth c k).2) (n := n) (most := 1000000000000) (t := t) n0 (by decide)
      have e : crossF g t (nth c (k + 1)).1 (nth c (k + 1)).2 (nth c k).1 (nth c k).2 n 1000000000000 = ((crossD g t (nth c (k + 1)).1 (nth c (k + 1)).2 (nth c k).1 (nth c k).2 n 1000000000000).g, n - (crossD g t (nth c (k + 1)).1 (nth c (k + 1)).2 (nth c k).1 (nth c k).2 n 1000000000000).want, 1000000000000 - (crossD g t (nth c (k + 1)).1 (nth c (k + 1)).2 (nth c k).1 (nth c k).2 n 1000000000000).left, 0) := by
        unfold crossF
        rw [if_neg (by simp [chkO_zero.2 hr]), if_neg (by simp [hu, hv, he]), if_neg (by simp [okA_iff.2 (⟨n0, n1⟩ : 0 ≤ n ∧ n ≤ 1000000000000), okA_iff.2 (⟨by decide, by decide⟩ : (0 : Int) ≤ 1000000000000 ∧ (1000000000000 : Int) ≤ 1000000000000)])]
      rw [e]
      generalize crossD g t (nth c (k + 1)).1 (nth c (k + 1)).2 (nth c k).1 (nth c k).2 n 1000000000000 = d at *
      dsimp only
      rw [if_neg (by simp)]
      by_cases hb : n - d.want < n
      · rw [if_pos hb]; exact .inl rfl
      · rw [if_neg hb]
        have hw : d.want = 0 := by omega
        rcases ih (g := d.g) (n := 1000000000000 - d.left) (by omega) hR (by omega) (by omega) with h | ⟨h, hC⟩
        · exact .inl h
        · refine .inr ⟨h, hC.right, hC.p0, hC.p1, fun b => (hC.find b).trans (hM.find b), hC.la.trans hM.la, hC.ll.trans hM.ll, Nat.le_trans hC.lo hM.lo, ?_, hK.trans hC.kept⟩
          rw [hC.tot, hM.tot, hw]
          split <;> split <;> split <;> omega
/-- What the walk of PathsDeliver asks. -/
theorem deliver_law {g : Led} (h : chkO g = 0) {a b : Int} {v : ByteArray} {j : Int} {u : ByteArray} {i : Int} {l : List TA} {n most : Int} (hf : (findA g.accs a).2 = true) (hf2 : (findA g.accs b).2 = true) (hv : assetB v j = true) (hu : assetB u i = true) (hl : ∀ x ∈ l, assetB x.1 x.2 = true) (hll : l.length ≤ 4)
    (n0 : 1 ≤ n) (n1 : n ≤ 100) (m0 : 0 ≤ most) (m1 : most ≤ 5000) :
    ∃ (x : Led) (p e c f : Int), sendF g a b v j u i l n most = (x, p, e) ∧ quoteF g a v j u i l n = (c, f) ∧
      ((¬ e = 0 ∧ x = led0 ∧ p = 0 ∧ (¬ f = 0 ∨ a = b ∨ most < c ∨ e = 70 ∨ e = 66 ∨ e = 65)) ∨
       (e = 0 ∧ f = 0 ∧ c = p ∧ p ≤ most ∧ chkO x = 0 ∧ totA x.accs = totA g.accs ∧ x.accs.length = g.accs.length ∧ x.lins.length = g.lins.length ∧ x.offs.length ≤ g.offs.length ∧ (0 ≤ heldF g b u i ∧ heldF g b u i ≤ 1000000000000) ∧
        ((∀ y ∈ g.offs, ¬ y.seller = b) → ¬ i = b → heldF x b u i = heldF g b u i + n))) := by
  have hr := chkO_zero.1 h
  have hk : okA n = true := okA_iff.2 (by omega)
  have hkm : okA most = true := okA_iff.2 (by omega)
  have hvp : validP l = true := by
    unfold validP
    rcases idxF_spec (fun a : TA => !assetB a.1 a.2) l 0 with ⟨h1, _⟩ | ⟨q, q1, q2, q3, _⟩
    · rw [h1]; simp [hll]
    · have := hl _ (nth_mem l q q1)
      simp [this] at q3
  have hi1 : idxF (fun n => !okA n) 0 [n] = -1 := by simp [idxF, hk]
  have hi2 : idxF (fun n => !okA n) 0 [n, most] = -1 := by simp [idxF, hk, hkm]
  have hn1 : nth [n] 0 = n := rfl
  have hn2 : nth [n, most] 0 = n := rfl
  have p1 : plnE g v j u i l [n] = 0 := by
    unfold plnE
    rw [if_neg (by simp [h]), hi1, hn1, if_neg (by omega), if_neg (by simp [hv, hu, hvp])]
  have p2 : plnE g v j u i l [n, most] = 0 := by
    unfold plnE
    rw [if_neg (by simp [h]), hi2, hn2, if_neg (by omega), if_neg (by simp [hv, hu, hvp])]
  have hq : quoteF g a v j u i l n = (convF g a (chainF v j u i l) n).2 := by
    unfold quoteF
    rw [if_neg (by simp [p1]), if_neg (by simp [hf])]
  refine ⟨(sendF g a b v j u i l n most).1, (sendF g a b v j u i l n most).2.1, (sendF g a b v j u i l n most).2.2, (quoteF g a v j u i l n).1, (quoteF g a v j u i l n).2, rfl, rfl, ?_⟩
  rw [hq]
  unfold sendF
  rw [if_neg (by simp [p2])]
  by_cases hab : a = b
  · rw [if_pos (.inr (.inr hab))]
    exact .inl ⟨by decide, rfl, rfl, .inr (.inl hab)⟩
  rw [if_neg (by simp [hf, hf2, hab])]
  have hchain : ∀ x ∈ chainF v j u i l, assetB x.1 x.2 = true := by
    intro x hx
    unfold chainF at hx
    simp only [List.mem_cons, List.mem_append, List.not_mem_nil, or_false] at hx
    rcases hx with rfl | hx | rfl
    · exact hv
    · exact hl x hx
    · exact hu
  have hlen : (chainF v j u i l).length = l.length + 2 := by simp [chainF]
  have hs := conv_spec (t := a) hchain ((chainF v j u i l).length - 1) (g := g) (n := n) (by omega) hr (by omega) (by omega)
  have e0 : nth (chainF v j u i l) 0 = (v, j) := rfl
  have e1 : nth (chainF v j u i l) ((chainF v j u i l).length - 1) = (u, i) := by
    rw [hlen]
    unfold chainF
    rw [show l.length + 2 - 1 = l.length + 1 by omega]
    show nth (l ++ [(u, i)]) l.length = (u, i)
    rw [nth_snoc _ _ _ (by omega), if_neg (by omega)]
  rw [e0, e1] at hs
  have ec : convN a (chainF v j u i l) ((chainF v j u i l).length - 1) g n = convF g a (chainF v j u i l) n := rfl
  rw [ec] at hs
  rcases hC : convF g a (chainF v j u i l) n with ⟨x, p, e⟩
  rw [hC] at hs
  dsimp only at hs ⊢
  rcases hs with rfl | ⟨rfl, hc⟩
  · rw [if_pos (by decide)]
    exact .inl ⟨by decide, rfl, rfl, .inl (by decide)⟩
  rw [if_neg (by simp)]
  by_cases hm : most < p
  · rw [if_pos hm]
    exact .inl ⟨by decide, rfl, rfl, .inr (.inr (.inl hm))⟩
  rw [if_neg hm]
  have hfx : (findA x.accs a).2 = true := by rw [hc.find]; exact hf
  have hfx2 : (findA x.accs b).2 = true := by rw [hc.find]; exact hf2
  have hp0 := hc.p0
  have hkp : okA p = true := okA_iff.2 (by omega)
  have hbd := look_bd hc.right.right hfx hv
  have hbd0 := look_bd hr.right hf2 hu
  unfold moveF
  rw [debit_eq hc.right.right hfx hv hkp]
  by_cases c1 : (lookF x a v j).2.2 = true ∧ p ≤ (lookF x a v j).1
  · rw [if_pos c1]
    dsimp only
    rw [if_neg (show ¬ ¬ (0 : Int) = 0 by simp)]
    have hR := right_add hc.right hfx hv (m := -p) c1.1 (by omega) (by omega)
    obtain ⟨s1, s2, s3, s4, s5, s6, s7, s8, s9, s10, s11, s12, s13, s14, s15, s16, s17, s18⟩ := addL_spec hc.right.right hfx hv (m := -p) c1.1 (by omega) (by omega)
    have hfb : (findA (addL x a v j (-p)).accs b).2 = true := by rw [s10]; exact hfx2
    have hbd2 := look_bd s1 hfb hu
    have lb := s6 b u i (fun q => hab q.1.symm)
    rw [credit_eq s1 hfb hu hk]
    by_cases c2 : (lookF (addL x a v j (-p)) b u i).2.2 = true ∧ n ≤ (lookF (addL x a v j (-p)) b u i).2.1
    · rw [if_pos c2]
      dsimp only
      rw [if_neg (show ¬ ¬ (0 : Int) = 0 by simp), if_neg (show ¬ ¬ (0 : Int) = 0 by simp)]
      have hR3 := right_add hR hfb hu (m := n) c2.1 (by omega) c2.2
      obtain ⟨t1, t2, t3, t4, t5, t6, t7, t8, t9, t10, t11, t12, t13, t14, t15, t16, t17, t18⟩ := addL_spec s1 hfb hu (m := n) c2.1 (by omega) c2.2
      refine .inr ⟨rfl, rfl, rfl, by dsimp only; omega, chkO_zero.2 hR3, ?_, by dsimp only; rw [t13, s13, hc.la], by dsimp only; rw [t14, s14, hc.ll], by dsimp only; rw [t12, s12]; exact hc.lo, ?_, fun hsell hib => ?_⟩
      · dsimp only
        rw [totA_right t1.accs, totA_right hr.right.accs]
        have hT := hc.tot
        cases q1 : nativeB v j with
        | true =>
          cases q2 : nativeB u i with
          | true => rw [(t8 q2).2, (s8 q1).2, hT, q1, q2, if_pos rfl, if_pos rfl]; omega
          | false => rw [(t7 q2).1, (s8 q1).2, hT, q1, q2, if_pos rfl, if_neg Bool.false_ne_true]; omega
        | false =>
          cases q2 : nativeB u i with
          | true => rw [(t8 q2).2, (s7 q1).1, hT, q1, q2, if_pos rfl, if_neg Bool.false_ne_true]; omega
          | false => rw [(t7 q2).1, (s7 q1).1, hT, q1, q2, if_neg Bool.false_ne_true, if_neg Bool.false_ne_true]; omega
      · rw [(held_look hr.right b u i).1]; omega
      · dsimp only
        rw [(held_look t1 b u i).1, (held_look hr.right b u i).1, t4 hib, lb, hc.kept.look b hsell]
    · rw [if_neg c2]
      dsimp only
      rw [if_pos (by cases nativeB u i <;> simp)]
      dsimp only
      rw [if_pos (by cases nativeB u i <;> simp)]
      refine .inl ⟨by cases nativeB u i <;> simp, rfl, rfl, ?_⟩
      cases nativeB u i <;> simp
  · rw [if_neg c1]
    dsimp only
    rw [if_pos (by cases (lookF x a v j).2.2 <;> simp)]
    dsimp only
    rw [if_pos (by cases (lookF x a v j).2.2 <;> simp)]
    refine .inl ⟨by cases (lookF x a v j).2.2 <;> simp, rfl, rfl, ?_⟩
    cases (lookF x a v j).2.2 <;> simp
end Go.Proofs.YtgebgpdoddjfhaaGreat

/- Plain functions and the plain law of PathsBest. No program stands here. -/
namespace Go.Proofs.YtgebgpdoddjfhaaGreat
set_option linter.unusedSimpArgs false
set_option linter.unusedVariables false
set_option linter.unnecessarySimpa false
set_option linter.unusedSectionVars false
set_option maxRecDepth 100000
open Go Go.RowKit Go.Am Go.Proofs.Grow

def ordT (x y : TA) : Int := ordA x.1 x.2 y.1 y.2

/-- What is left of the first m, neighbours that are equal told once. -/
def ddN (l : List TA) : Nat → List TA
  | 0 => []
  | 1 => [nth l 0]
  | m + 2 => if eqT (nth l (m + 1)).1 (nth l (m + 1)).2 (nth l m).1 (nth l m).2 = true then ddN l (m + 1) else ddN l (m + 1) ++ [nth l (m + 1)]
def ddF (l : List TA) : List TA := ddN l l.length
theorem ddN_len (l : List TA) : ∀ m, (ddN l m).length ≤ m
  | 0 => Nat.le_refl _
  | 1 => Nat.le_refl _
  | m + 2 => by
    unfold ddN
    have := ddN_len l (m + 1)
    split
    · omega
    · simp; omega
theorem ddN_pos (l : List TA) : ∀ m, 0 < m → 0 < (ddN l m).length
  | 0, h => h
  | 1, _ => by simp [ddN]
  | m + 2, _ => by
    unfold ddN
    have := ddN_pos l (m + 1) (by omega)
    split
    · omega
    · simp
theorem ddN_in (l : List TA) : ∀ m p, p < m → nth l p ∈ ddN l m
  | 0, p, h => by omega
  | 1, p, h => by obtain rfl : p = 0 := by omega
                  simp [ddN]
  | m + 2, p, h => by
    unfold ddN
    have ih := ddN_in l (m + 1)
    split
    · rename_i he
      obtain ⟨e1, e2⟩ := eqT_iff.1 he
      by_cases hp : p = m + 1
      · have : nth l (m + 1) = nth l m := Prod.ext e1 e2
        rw [hp, this]; exact ih m (by omega)
      · exact ih p (by omega)
    · by_cases hp : p = m + 1
      · subst hp; simp
      · exact List.mem_append_left _ (ih p (by omega))
theorem ddF_in {l : List TA} {x : TA} (h : x ∈ l) : x ∈ ddF l := by
  obtain ⟨p, hp, rfl⟩ := mem_nth h
  exact ddN_in l _ p hp
theorem ddF_len (l : List TA) : (ddF l).length ≤ l.length := ddN_len l _

def prsF (l : List Off) : List TA := l.flatMap fun o => [(o.sc, o.si), (o.bc, o.bi)]
theorem prsF_len (l : List Off) : (prsF l).length = 2 * l.length := by
  induction l with
  | nil => rfl
  | cons o r ih =>
    have : prsF (o :: r) = (o.sc, o.si) :: (o.bc, o.bi) :: prsF r := by simp [prsF]
    rw [this]; simp only [List.length_cons, ih]; omega
def cand1 (all : List TA) (k : Nat) : List (List TA) := [] :: (all.take k).map fun a => [a]
def cand2 (all : List TA) (k m : Nat) : List (List TA) := cand1 all all.length ++ ((all.take k).flatMap fun a => all.map fun b => [a, b]) ++ (all.take m).map fun b => [nth all k, b]
def candF (all : List TA) : List (List TA) := cand2 all all.length 0
theorem cand1_len (all : List TA) (k : Nat) : (cand1 all k).length ≤ all.length + 1 := by
  simp only [cand1, List.length_cons, List.length_map, List.length_take]; omega
theorem flat_len (all : List TA) : ∀ l : List TA, (l.flatMap fun a => all.map fun b => [a, b]).length = l.length * all.length
  | [] => by simp
  | a :: r => by
    rw [List.flatMap_cons, List.length_append, flat_len all r, List.length_map, List.length_cons, Nat.succ_mul]; omega
theorem cand2_len (all : List TA) (k m : Nat) (h : all.length ≤ 10) : (cand2 all k m).length ≤ 121 := by
  have h1 := cand1_len all all.length
  have h2 : (all.take k).length ≤ 10 := by rw [List.length_take]; omega
  have h3 : ((all.take k).flatMap fun a => all.map fun b => [a, b]).length ≤ 100 := by
    rw [flat_len]; exact Nat.le_trans (Nat.mul_le_mul h2 h) (by decide)
  simp only [cand2, List.length_append, List.length_map, List.length_take]
  omega
theorem cand1_next {all : List TA} {k : Nat} (h : k < all.length) : cand1 all (k + 1) = cand1 all k ++ [[nth all k]] := by
  unfold cand1
  rw [List.take_add_one, List.getElem?_eq_getElem h, nth_getElem _ _ h]
  simp only [List.map_append, Option.toList_some, List.map_cons, List.map_nil, List.cons_append]
theorem cand2_next {all : List TA} {k m : Nat} (h : m < all.length) : cand2 all k (m + 1) = cand2 all k m ++ [[nth all k, nth all m]] := by
  unfold cand2
  rw [List.take_add_one, List.getElem?_eq_getElem h, nth_getElem _ m h]
  simp only [List.map_append, Option.toList_some, List.map_cons, List.map_nil, List.append_assoc]
theorem cand2_row {all : List TA} {k : Nat} (h : k < all.length) : cand2 all (k + 1) 0 = cand2 all k all.length := by
  unfold cand2
  rw [List.take_add_one, List.getElem?_eq_getElem h, nth_getElem _ k h, List.take_length]
  simp only [List.flatMap_append, Option.toList_some, List.flatMap_cons, List.flatMap_nil, List.take_zero, List.map_nil, List.append_nil, List.append_assoc]
theorem candF_one {all : List TA} {x : TA} (h : x ∈ all) : [x] ∈ candF all := by
  unfold candF cand2 cand1
  simp [h]
theorem candF_two {all : List TA} {p : List TA} (h : p ∈ candF all) : p.length ≤ 2 := by
  unfold candF cand2 cand1 at h
  simp only [List.take_length, List.take_zero, List.map_nil, List.append_nil, List.mem_append, List.mem_cons, List.mem_map, List.mem_flatMap] at h
  rcases h with (rfl | ⟨a, _, rfl⟩) | ⟨a, _, b, _, rfl⟩ <;> simp
theorem candF_nil (all : List TA) : nth (candF all) 0 = [] ∧ 0 < (candF all).length := by
  unfold candF cand2 cand1
  exact ⟨rfl, by simp⟩

def bstS (q : List TA → Int × Int) (s : List TA × Int × Bool) (p : List TA) : List TA × Int × Bool := if (q p).2 = 0 ∧ (s.2.2 = false ∨ (q p).1 < s.2.1) then (p, (q p).1, true) else s
def bstN (q : List TA → Int × Int) (ps : List (List TA)) : Nat → List TA × Int × Bool
  | 0 => ([], 0, false)
  | k + 1 => bstS q (bstN q ps k) (nth ps k)
theorem bst_no {q : List TA → Int × Int} {ps : List (List TA)} : ∀ k, (bstN q ps k).2.2 = false → ∀ i, i < k → ¬ (q (nth ps i)).2 = 0
  | 0, _, i, h => by omega
  | k + 1, hf, i, h => by
    unfold bstN bstS at hf
    split at hf
    · cases hf
    · rename_i hc
      by_cases hi : i = k
      · subst hi
        intro h0
        exact hc ⟨h0, .inl hf⟩
      · exact bst_no k hf i (by omega)
theorem bst_yes {q : List TA → Int × Int} {ps : List (List TA)} : ∀ k, k ≤ ps.length → (bstN q ps k).2.2 = true → (bstN q ps k).1 ∈ ps ∧ q (bstN q ps k).1 = ((bstN q ps k).2.1, 0) ∧ ∀ i, i < k → (q (nth ps i)).2 = 0 → (bstN q ps k).2.1 ≤ (q (nth ps i)).1
  | 0, _, h => by cases h
  | k + 1, hk, h => by
    by_cases hc : (q (nth ps k)).2 = 0 ∧ ((bstN q ps k).2.2 = false ∨ (q (nth ps k)).1 < (bstN q ps k).2.1)
    · have e : bstN q ps (k + 1) = (nth ps k, (q (nth ps k)).1, true) := by rw [bstN, bstS, if_pos hc]
      rw [e]
      refine ⟨nth_mem ps k (by omega), Prod.ext rfl hc.1, fun i hi h0 => ?_⟩
      dsimp only
      by_cases hik : i = k
      · subst hik; exact Int.le_refl _
      · rcases hc.2 with h1 | h1
        · exact absurd h0 (bst_no k h1 i (by omega))
        · cases h2 : (bstN q ps k).2.2 with
          | false => exact absurd h0 (bst_no k h2 i (by omega))
          | true => have := (bst_yes k (by omega) h2).2.2 i (by omega) h0; omega
    · have e : bstN q ps (k + 1) = bstN q ps k := by rw [bstN, bstS, if_neg hc]
      rw [e] at h ⊢
      obtain ⟨h1, h2, h3⟩ := bst_yes k (by omega) h
      refine ⟨h1, h2, fun i hi h0 => ?_⟩
      by_cases hik : i = k
      · subst hik
        refine Classical.byContradiction fun hn => hc ⟨h0, .inr (by omega)⟩
      · exact h3 i (by omega) h0
theorem bst_tie {q : List TA → Int × Int} {ps : List (List TA)} (h0 : nth ps 0 = []) (hq : (q []).2 = 0) : ∀ k, (bstN q ps (k + 1)).2.2 = true ∧ ((bstN q ps (k + 1)).1 = [] ∧ (bstN q ps (k + 1)).2.1 = (q []).1 ∨ (bstN q ps (k + 1)).2.1 < (q []).1)
  | 0 => by
    have e : bstN q ps (0 + 1) = ([], (q []).1, true) := by rw [bstN, bstS, h0, if_pos ⟨hq, .inl rfl⟩]
    rw [e]; exact ⟨rfl, .inl ⟨rfl, rfl⟩⟩
  | k + 1 => by
    obtain ⟨h1, h2⟩ := bst_tie h0 hq k
    by_cases hc : (q (nth ps (k + 1))).2 = 0 ∧ ((bstN q ps (k + 1)).2.2 = false ∨ (q (nth ps (k + 1))).1 < (bstN q ps (k + 1)).2.1)
    · have e : bstN q ps (k + 1 + 1) = (nth ps (k + 1), (q (nth ps (k + 1))).1, true) := by rw [bstN, bstS, if_pos hc]
      rw [e]
      refine ⟨rfl, .inr ?_⟩
      dsimp only
      rcases hc.2 with h3 | h3
      · rw [h1] at h3; cases h3
      · rcases h2 with ⟨_, h2⟩ | h2 <;> omega
    · have e : bstN q ps (k + 1 + 1) = bstN q ps (k + 1) := by rw [bstN, bstS, if_neg hc]
      rw [e]; exact ⟨h1, h2⟩
end Go.Proofs.YtgebgpdoddjfhaaGreat

/- Contract of the reference's list of assets. -/
namespace Go.Proofs.YtgebgpdoddjfhaaGreat
set_option linter.unusedSimpArgs false
set_option linter.unusedVariables false
set_option linter.unnecessarySimpa false
set_option linter.unusedSectionVars false
set_option maxRecDepth 100000
open Go Go.RowKit Go.Am Go.Proofs.Grow

/-- An asset is put into an ascending list, if it does not stand there. -/
def putA (y : TA) : List TA → List TA
  | [] => [y]
  | x :: r => if lessA x.1 x.2 y.1 y.2 = true then x :: putA y r else if eqT x.1 x.2 y.1 y.2 = true then x :: r else y :: x :: r
theorem putA_at (y : TA) : ∀ (l : List TA) (k : Nat), k ≤ l.length → (∀ m, m < k → lessA (nth l m).1 (nth l m).2 y.1 y.2 = true) → (k < l.length → lessA (nth l k).1 (nth l k).2 y.1 y.2 = false) →
    putA y l = if k < l.length ∧ eqT (nth l k).1 (nth l k).2 y.1 y.2 = true then l else l.take k ++ [y] ++ l.drop k := by
  intro l
  induction l with
  | nil => intro k hk _ _; obtain rfl : k = 0 := by simpa using hk
           rfl
  | cons x r ih =>
    intro k hk h1 h2
    cases k with
    | zero =>
      have h : lessA x.1 x.2 y.1 y.2 = false := h2 (by simp)
      show (if lessA x.1 x.2 y.1 y.2 = true then x :: putA y r else if eqT x.1 x.2 y.1 y.2 = true then x :: r else y :: x :: r) = _
      rw [if_neg (by simp [h])]
      by_cases e : eqT x.1 x.2 y.1 y.2 = true
      · rw [if_pos e, if_pos ⟨by simp, e⟩]
      · rw [if_neg e, if_neg (fun q => e q.2)]; rfl
    | succ k =>
      have h0 : lessA x.1 x.2 y.1 y.2 = true := h1 0 (by omega)
      show (if lessA x.1 x.2 y.1 y.2 = true then x :: putA y r else _) = _
      rw [if_pos h0, ih k (by simpa using hk) (fun m hm => h1 (m + 1) (by omega)) (fun h => h2 (by simpa using h))]
      show _ = if k + 1 < (x :: r).length ∧ eqT (nth r k).1 (nth r k).2 y.1 y.2 = true then x :: r else x :: (r.take k ++ [y] ++ r.drop k)
      by_cases e : k < r.length ∧ eqT (nth r k).1 (nth r k).2 y.1 y.2 = true
      · rw [if_pos e, if_pos ⟨by simpa using e.1, e.2⟩]
      · rw [if_neg e, if_neg (fun q => e ⟨by simpa using q.1, q.2⟩)]
/-- The assets of offers, ascending, once each. -/
def assetsF (l : List Off) : List TA := l.foldl (fun s o => putA (o.bc, o.bi) (putA (o.sc, o.si) s)) []
theorem putA_len (y : TA) : ∀ l : List TA, (putA y l).length ≤ l.length + 1
  | [] => by simp [putA]
  | x :: r => by
    have := putA_len y r
    unfold putA
    split
    · simp; omega
    · split <;> simp
theorem assets_take {l : List Off} {k : Nat} (hk : k < l.length) : assetsF (l.take (k + 1)) = putA ((nth l k).bc, (nth l k).bi) (putA ((nth l k).sc, (nth l k).si) (assetsF (l.take k))) := by
  unfold assetsF
  rw [List.take_succ_eq_append_getElem hk, List.foldl_append, ← nth_getElem l k hk]
  rfl
theorem assets_len (l : List Off) : ∀ k, (assetsF (l.take k)).length ≤ 2 * k := by
  intro k
  induction k with
  | zero => simp [assetsF]
  | succ k ih =>
    by_cases hk : k < l.length
    · rw [assets_take hk]
      have h1 := putA_len ((nth l k).sc, (nth l k).si) (assetsF (l.take k))
      have h2 := putA_len ((nth l k).bc, (nth l k).bi) (putA ((nth l k).sc, (nth l k).si) (assetsF (l.take k)))
      omega
    · rw [List.take_of_length_le (by omega)]
      rw [List.take_of_length_le (by omega)] at ih
      omega
end Go.Proofs.YtgebgpdoddjfhaaGreat

/- Plain laws: the assets of a ledger's offers, sorted and told once each, are the reference's list; the reference's best path is the program's. No program stands here. -/
namespace Go.Proofs.YtgebgpdoddjfhaaGreat
set_option linter.unusedSimpArgs false
set_option linter.unusedVariables false
set_option linter.unnecessarySimpa false
set_option linter.unusedSectionVars false
set_option maxRecDepth 100000
open Go Go.RowKit Go.Am Go.Proofs.Grow

theorem lessT_total {u v : ByteArray} {i j : Int} (h : lessA u i v j = false) (k : ¬ (u = v ∧ i = j)) : lessA v j u i = true := by
  simp only [lessA, Bool.or_eq_false_iff, Bool.or_eq_true, Bool.and_eq_true, Bool.and_eq_false_iff, beq_iff_eq, decide_eq_true_eq, decide_eq_false_iff_not, beq_eq_false_iff_ne] at *
  cases h2 : Op.bytesLess v.toList u.toList with
  | true => exact .inl rfl
  | false =>
    have e := less_total _ _ h.1 h2
    refine .inr ⟨e.symm, ?_⟩
    rcases h.2 with h3 | h3
    · exact absurd e h3
    · have : ¬ i = j := fun q => k ⟨eqS_iff.1 (by simp [eqS, e]), q⟩
      omega
def ltT (x y : TA) : Bool := lessA x.1 x.2 y.1 y.2
def AscT (l : List TA) : Prop := l.Pairwise fun x y => ltT x y = true
theorem ltT_no (x : TA) : ltT x x = false := lessA_irrefl _ _
theorem ltT_tr {x y z : TA} (h : ltT x y = true) (k : ltT y z = true) : ltT x z = true := lessA_trans h k
theorem ltT_or {x y : TA} (h : ltT x y = false) : x = y ∨ ltT y x = true := by
  by_cases e : x.1 = y.1 ∧ x.2 = y.2
  · exact .inl (Prod.ext e.1 e.2)
  · exact .inr (lessT_total h e)
theorem ltT_as {x y : TA} (h : ltT x y = true) (k : ltT y x = true) : False := by
  have := ltT_tr h k
  rw [ltT_no] at this; cases this
theorem eqT_eq {x y : TA} : eqT x.1 x.2 y.1 y.2 = true ↔ x = y :=
  eqT_iff.trans ⟨fun h => Prod.ext h.1 h.2, fun h => by subst h; exact ⟨rfl, rfl⟩⟩
/-- Two ascending lists with the same elements are one. -/
theorem asc_one : ∀ {l m : List TA}, AscT l → AscT m → (∀ x, x ∈ l ↔ x ∈ m) → l = m
  | [], [], _, _, _ => rfl
  | [], y :: s, _, _, h => by have := (h y).2 (by simp); simp at this
  | x :: r, [], _, _, h => by have := (h x).1 (by simp); simp at this
  | x :: r, y :: s, hl, hm, h => by
    have h1 := List.pairwise_cons.1 hl
    have h2 := List.pairwise_cons.1 hm
    have e : x = y := by
      rcases List.mem_cons.1 ((h x).1 (by simp)) with q | q
      · exact q
      · rcases List.mem_cons.1 ((h y).2 (by simp)) with p | p
        · exact p.symm
        · exact (ltT_as (h2.1 x q) (h1.1 y p)).elim
    subst e
    have : r = s := asc_one h1.2 h2.2 fun z => by
      have hz := h z
      simp only [List.mem_cons] at hz
      constructor
      · intro q
        rcases hz.1 (.inr q) with p | p
        · subst p; have := h1.1 z q; rw [ltT_no] at this; cases this
        · exact p
      · intro q
        rcases hz.2 (.inr q) with p | p
        · subst p; have := h2.1 z q; rw [ltT_no] at this; cases this
        · exact p
    rw [this]
theorem putA_mem (x y : TA) : ∀ l : List TA, x ∈ putA y l ↔ x = y ∨ x ∈ l
  | [] => by simp [putA]
  | z :: r => by
    unfold putA
    split
    · rw [List.mem_cons, List.mem_cons, putA_mem x y r]
      constructor
      · rintro (h | h | h)
        · exact .inr (.inl h)
        · exact .inl h
        · exact .inr (.inr h)
      · rintro (h | h | h)
        · exact .inr (.inl h)
        · exact .inl h
        · exact .inr (.inr h)
    · split
      · rename_i he
        have e := eqT_eq.1 he
        constructor
        · exact .inr
        · rintro (h | h)
          · rw [h, ← e]; simp
          · exact h
      · simp
theorem putA_asc {y : TA} : ∀ {l : List TA}, AscT l → AscT (putA y l)
  | [], _ => by simp [putA, AscT]
  | z :: r, hl => by
    have h1 := List.pairwise_cons.1 hl
    unfold putA
    split
    · rename_i hz
      refine List.pairwise_cons.2 ⟨fun x hx => ?_, putA_asc h1.2⟩
      rcases (putA_mem x y r).1 hx with q | q
      · rw [q]; exact hz
      · exact h1.1 x q
    · rename_i hz
      split
      · exact hl
      · rename_i he
        refine List.pairwise_cons.2 ⟨fun x hx => ?_, hl⟩
        have hyz : ltT y z = true := by
          rcases ltT_or (x := z) (y := y) (by simpa [ltT] using hz) with q | q
          · exact (he (eqT_eq.2 q)).elim
          · exact q
        rcases List.mem_cons.1 hx with q | q
        · rw [q]; exact hyz
        · exact ltT_tr hyz (h1.1 x q)
theorem assets_spec : ∀ (l : List Off) (s : List TA), AscT s → AscT (l.foldl (fun s o => putA (o.bc, o.bi) (putA (o.sc, o.si) s)) s) ∧ ∀ x, x ∈ l.foldl (fun s o => putA (o.bc, o.bi) (putA (o.sc, o.si) s)) s ↔ x ∈ s ∨ x ∈ prsF l
  | [], s, h => ⟨h, fun x => by simp [prsF]⟩
  | o :: r, s, h => by
    obtain ⟨h1, h2⟩ := assets_spec r (putA (o.bc, o.bi) (putA (o.sc, o.si) s)) (putA_asc (putA_asc h))
    refine ⟨h1, fun x => ?_⟩
    have e : prsF (o :: r) = (o.sc, o.si) :: (o.bc, o.bi) :: prsF r := by simp [prsF]
    rw [List.foldl_cons, h2, putA_mem, putA_mem, e, List.mem_cons, List.mem_cons]
    constructor
    · rintro ((h | h | h) | h)
      · exact .inr (.inr (.inl h))
      · exact .inr (.inl h)
      · exact .inl h
      · exact .inr (.inr (.inr h))
    · rintro (h | h | h | h)
      · exact .inl (.inr (.inr h))
      · exact .inl (.inr (.inl h))
      · exact .inl (.inl h)
      · exact .inr h
/-- Sorted: no later one is less than an earlier one. -/
def SrtT (l : List TA) : Prop := l.Pairwise fun x y => ltT y x = false
theorem SrtT.at {l : List TA} (h : SrtT l) {i j : Nat} (hij : i < j) (hj : j < l.length) : ltT (nth l j) (nth l i) = false := by
  rw [nth_getElem l j hj, nth_getElem l i (by omega)]
  exact (List.pairwise_iff_getElem.1 h) i j (by omega) hj hij
theorem dd_spec {l : List TA} (h : SrtT l) : ∀ m, m < l.length → AscT (ddN l (m + 1)) ∧ (∀ x ∈ ddN l (m + 1), x = nth l m ∨ ltT x (nth l m) = true) ∧ ∀ x ∈ ddN l (m + 1), x ∈ l
  | 0, hm => ⟨by simp [ddN, AscT], fun x hx => .inl (by simpa [ddN] using hx), fun x hx => by
    obtain rfl : x = nth l 0 := by simpa [ddN] using hx
    exact nth_mem l 0 hm⟩
  | m + 1, hm => by
    obtain ⟨h1, h2, h3⟩ := dd_spec h m (by omega)
    have hs := h.at (show m < m + 1 by omega) hm
    unfold ddN
    by_cases he : eqT (nth l (m + 1)).1 (nth l (m + 1)).2 (nth l m).1 (nth l m).2 = true
    · rw [if_pos he]
      have e := eqT_eq.1 he
      exact ⟨h1, fun x hx => by rw [e]; exact h2 x hx, h3⟩
    · rw [if_neg he]
      have hlt : ltT (nth l m) (nth l (m + 1)) = true := by
        rcases ltT_or hs with q | q
        · exact (he (eqT_eq.2 q)).elim
        · exact q
      have h4 : ∀ x ∈ ddN l (m + 1), ltT x (nth l (m + 1)) = true := fun x hx => by
        rcases h2 x hx with q | q
        · rw [q]; exact hlt
        · exact ltT_tr q hlt
      refine ⟨?_, fun x hx => ?_, fun x hx => ?_⟩
      · unfold AscT
        rw [List.pairwise_append]
        exact ⟨h1, by simp, fun x hx y hy => by obtain rfl : y = nth l (m + 1) := by simpa using hy
                                                exact h4 x hx⟩
      · rcases List.mem_append.1 hx with q | q
        · exact .inr (h4 x q)
        · exact .inl (by simpa using q)
      · rcases List.mem_append.1 hx with q | q
        · exact h3 x q
        · obtain rfl : x = nth l (m + 1) := by simpa using q
          exact nth_mem l _ hm
/-- What is sorted, and told once each, is the ascending list. -/
theorem dd_assets {l : List TA} (h : SrtT l) (os : List Off) (hm : ∀ x, x ∈ l ↔ x ∈ prsF os) : ddF l = assetsF os := by
  obtain ⟨a1, a2⟩ := assets_spec os [] List.Pairwise.nil
  refine asc_one ?_ a1 fun x => ?_
  · unfold ddF
    rcases Nat.eq_zero_or_pos l.length with e | e
    · rw [e]; exact List.Pairwise.nil
    · obtain ⟨m, hml⟩ : ∃ m, l.length = m + 1 := ⟨l.length - 1, by omega⟩
      rw [hml]; exact (dd_spec h m (by omega)).1
  · have : x ∈ assetsF os ↔ x ∈ prsF os := by
      unfold assetsF; rw [a2]; simp
    rw [this, ← hm]
    refine ⟨fun hx => ?_, ddF_in⟩
    unfold ddF at hx
    rcases Nat.eq_zero_or_pos l.length with e | e
    · rw [e] at hx; simp [ddN] at hx
    · obtain ⟨m, hml⟩ : ∃ m, l.length = m + 1 := ⟨l.length - 1, by omega⟩
      rw [hml] at hx
      exact (dd_spec h m (by omega)).2.2 x hx
/-- The assets of a list, sorted. -/
def srtF (l : List TA) : List TA := l.mergeSort fun x y => !ltT y x
theorem srt_srt (l : List TA) : SrtT (srtF l) := by
  have h := List.pairwise_mergeSort (le := fun x y => !ltT y x) (fun a b c h k => by
    simp only [Bool.not_eq_true'] at h k ⊢
    rcases ltT_or h with e | e
    · subst e; exact k
    · rcases ltT_or k with f | f
      · subst f; exact h
      · cases q : ltT c a with
        | false => rfl
        | true => exact (ltT_as (ltT_tr e f) q).elim) (fun a b => by
    cases h : ltT b a with
    | false => rfl
    | true =>
      cases k : ltT a b with
      | false => rfl
      | true => exact (ltT_as h k).elim) l
  exact h.imp fun h => by simpa using h
theorem srt_mem (l : List TA) (x : TA) : x ∈ srtF l ↔ x ∈ l := (List.mergeSort_perm l _).mem_iff
theorem srt_len (l : List TA) : (srtF l).length = l.length := (List.mergeSort_perm l _).length_eq
theorem srt_assets (os : List Off) : ddF (srtF (prsF os)) = assetsF os := dd_assets (srt_srt _) os (srt_mem _)
/-- The best path. -/
def bestG (g : Led) (b : Int) (v : ByteArray) (j : Int) (u : ByteArray) (i n : Int) : List TA × Int × Int :=
  if (bstN (fun p => quoteF g b v j u i p n) (candF (assetsF g.offs)) (candF (assetsF g.offs)).length).2.2 = false then ([], 0, (quoteF g b v j u i [] n).2)
  else ((bstN (fun p => quoteF g b v j u i p n) (candF (assetsF g.offs)) (candF (assetsF g.offs)).length).1, (bstN (fun p => quoteF g b v j u i p n) (candF (assetsF g.offs)) (candF (assetsF g.offs)).length).2.1, 0)
def rbS (q : List TA → Int × Int) (s : List TA × Int) (p : List TA) : List TA × Int := if (q p).2 = 0 ∧ (s.2 < 0 ∨ (q p).1 < s.2) then (p, (q p).1) else s
def rbN (q : List TA → Int × Int) (ps : List (List TA)) : Nat → List TA × Int
  | 0 => ([], -1)
  | k + 1 => rbS q (rbN q ps k) (nth ps k)
/-- The reference's best path. -/
def refB (g : Led) (b : Int) (v : ByteArray) (j : Int) (u : ByteArray) (i n : Int) : List TA × Int × Int :=
  if ¬ plnE g v j u i [] [n] = 0 then ([], 0, plnE g v j u i [] [n]) else if (findA g.accs b).2 = false then ([], 0, 67) else
  if (rbN (fun p => quoteF g b v j u i p n) (candF (assetsF g.offs)) (candF (assetsF g.offs)).length).2 < 0 then ([], 0, 73)
  else ((rbN (fun p => quoteF g b v j u i p n) (candF (assetsF g.offs)) (candF (assetsF g.offs)).length).1, (rbN (fun p => quoteF g b v j u i p n) (candF (assetsF g.offs)) (candF (assetsF g.offs)).length).2, 0)
theorem bst_none {q : List TA → Int × Int} {ps : List (List TA)} (h : ∀ p, ¬ (q p).2 = 0) : ∀ k, bstN q ps k = ([], 0, false)
  | 0 => rfl
  | k + 1 => by rw [bstN, bst_none h k, bstS, if_neg fun c => h _ c.1]
theorem rb_bst {q : List TA → Int × Int} {ps : List (List TA)} (h : ∀ p, (q p).2 = 0 → 0 ≤ (q p).1) : ∀ k, ((bstN q ps k).2.2 = false ∧ (rbN q ps k).2 = -1 ∧ (rbN q ps k).1 = []) ∨ ((bstN q ps k).2.2 = true ∧ 0 ≤ (rbN q ps k).2 ∧ (rbN q ps k).2 = (bstN q ps k).2.1 ∧ (rbN q ps k).1 = (bstN q ps k).1)
  | 0 => .inl ⟨rfl, rfl, rfl⟩
  | k + 1 => by
    have ih := rb_bst (ps := ps) h k
    unfold bstN rbN bstS rbS
    by_cases h0 : (q (nth ps k)).2 = 0
    · have hp := h _ h0
      rcases ih with ⟨i1, i2, i3⟩ | ⟨i1, i2, i3, i4⟩
      · rw [if_pos ⟨h0, .inl i1⟩, if_pos ⟨h0, .inl (by omega)⟩]
        exact .inr ⟨rfl, hp, rfl, rfl⟩
      · by_cases hc : (q (nth ps k)).1 < (bstN q ps k).2.1
        · rw [if_pos ⟨h0, .inr hc⟩, if_pos ⟨h0, .inr (by omega)⟩]
          exact .inr ⟨rfl, hp, rfl, rfl⟩
        · rw [if_neg (by rintro ⟨_, c | c⟩; · rw [i1] at c; cases c
                         · exact hc c), if_neg (by rintro ⟨_, c | c⟩ <;> omega)]
          exact .inr ⟨i1, i2, i3, i4⟩
    · rw [if_neg fun c => h0 c.1, if_neg fun c => h0 c.1]; exact ih
theorem plnE_nil {g : Led} {v : ByteArray} {j : Int} {u : ByteArray} {i : Int} {p : List TA} {ns : List Int} (h : plnE g v j u i p ns = 0) : plnE g v j u i [] ns = 0 := by
  unfold plnE at h ⊢
  have e : validP [] = true := by simp [validP, idxF]
  by_cases h1 : chkO g = 0
  · rw [if_neg (by simp [h1])] at h ⊢
    split at h
    · cases h
    · rename_i h2
      rw [if_neg h2]
      split at h
      · cases h
      · rename_i h3
        rw [if_neg (by rw [e]; intro c; rcases c with c | c | c <;> simp_all)]
  · rw [if_pos h1] at h; exact absurd h h1
theorem validP_all {l : List TA} (h : validP l = true) : ∀ x ∈ l, assetB x.1 x.2 = true := by
  unfold validP at h
  simp only [Bool.and_eq_true, decide_eq_true_eq] at h
  rcases idxF_spec (fun a : TA => !assetB a.1 a.2) l 0 with ⟨_, h1⟩ | ⟨q, q1, q2, q3, _⟩
  · intro x hx; simpa using h1 x hx
  · omega
theorem quote_case {g : Led} {b : Int} {v : ByteArray} {j : Int} {u : ByteArray} {i n : Int} {p : List TA} (h : plnE g v j u i p [n] = 0) (hf : (findA g.accs b).2 = true) :
    (quoteF g b v j u i p n).2 = 73 ∨ ((quoteF g b v j u i p n).2 = 0 ∧ 0 ≤ (quoteF g b v j u i p n).1) := by
  have hq : quoteF g b v j u i p n = (convF g b (chainF v j u i p) n).2 := by
    unfold quoteF
    rw [if_neg (by simp [h]), if_neg (by simp [hf])]
  have hc : chkO g = 0 := by
    refine Classical.byContradiction fun c => ?_
    unfold plnE at h; rw [if_pos c] at h; exact c h
  unfold plnE at h
  rw [if_neg (by simp [hc])] at h
  split at h
  · cases h
  rename_i h2
  split at h
  · cases h
  rename_i h3
  simp only [not_or, Bool.not_eq_false] at h3
  have hk : okA n = true := by
    refine Classical.byContradiction fun c => h2 (.inl ?_)
    simp only [Bool.not_eq_true] at c
    simp [idxF, c]
  have hk2 := okA_iff.1 hk
  have hv := validP_all h3.2.2
  have hchain : ∀ x ∈ chainF v j u i p, assetB x.1 x.2 = true := by
    intro x hx
    simp only [chainF, List.mem_cons, List.mem_append, List.not_mem_nil, or_false] at hx
    rcases hx with rfl | hx | rfl
    · exact h3.1
    · exact hv x hx
    · exact h3.2.1
  have hs := conv_spec (t := b) hchain ((chainF v j u i p).length - 1) (g := g) (n := n) (by simp [chainF]) (chkO_zero.1 hc) (by omega) (by omega)
  rw [hq]
  have ec : convN b (chainF v j u i p) ((chainF v j u i p).length - 1) g n = convF g b (chainF v j u i p) n := rfl
  rw [ec] at hs
  rcases hs with h1 | ⟨h1, h4⟩
  · exact .inl h1
  · exact .inr ⟨h1, h4.p0⟩
/-- The reference's best path is the program's. -/
theorem refB_eq (g : Led) (b : Int) (v : ByteArray) (j : Int) (u : ByteArray) (i n : Int) : refB g b v j u i n = bestG g b v j u i n := by
  unfold refB bestG
  by_cases h : plnE g v j u i [] [n] = 0
  · rw [if_neg (by simp [h])]
    cases hf : (findA g.accs b).2 with
    | false =>
      rw [if_pos rfl]
      have hq : ∀ p, ¬ (quoteF g b v j u i p n).2 = 0 := by
        intro p
        unfold quoteF
        split
        · assumption
        · first | rw [if_pos hf]; decide | decide
      rw [bst_none hq, if_pos rfl]
      have : (quoteF g b v j u i [] n).2 = 67 := by
        unfold quoteF; rw [if_neg (by simp [h]), if_pos hf]
      rw [this]
    | true =>
      rw [if_neg (by simp)]
      have hq : ∀ p, (quoteF g b v j u i p n).2 = 0 → 0 ≤ (quoteF g b v j u i p n).1 := by
        intro p h0
        by_cases hp : plnE g v j u i p [n] = 0
        · rcases quote_case hp hf with c | c
          · rw [c] at h0; cases h0
          · exact c.2
        · unfold quoteF at h0
          rw [if_pos hp] at h0; exact absurd h0 hp
      obtain ⟨c0, c1⟩ := candF_nil (assetsF g.offs)
      generalize hC : candF (assetsF g.offs) = C at *
      rcases rb_bst (q := fun p => quoteF g b v j u i p n) (ps := C) hq C.length with ⟨i1, i2, i3⟩ | ⟨i1, i2, i3, i4⟩
      · rw [if_pos (by omega), if_pos i1]
        have h0 := bst_no C.length i1 0 c1
        rw [c0] at h0
        rcases quote_case h hf with c | c
        · rw [c]
        · exact absurd c.1 h0
      · rw [if_neg (by omega), if_neg (by simp [i1]), i3, i4]
  · rw [if_pos h]
    have hq : ∀ p, ¬ (quoteF g b v j u i p n).2 = 0 := by
      intro p h0
      unfold quoteF at h0
      by_cases hp : plnE g v j u i p [n] = 0
      · exact h (plnE_nil hp)
      · rw [if_pos hp] at h0; exact hp h0
    rw [bst_none hq, if_pos rfl]
    have : (quoteF g b v j u i [] n).2 = plnE g v j u i [] [n] := by
      unfold quoteF; rw [if_pos h]
    rw [this]
end Go.Proofs.YtgebgpdoddjfhaaGreat

/- Contract of the reference's comparison of paths. -/
namespace Go.Proofs.YtgebgpdoddjfhaaGreat
set_option linter.unusedSimpArgs false
set_option linter.unusedVariables false
set_option linter.unnecessarySimpa false
set_option linter.unusedSectionVars false
set_option maxRecDepth 100000
open Go Go.RowKit Go.Am Go.Proofs.Grow

theorem sameP_rm (l : List TA) (hl : l.length ≤ 1000) : FnM Tryz.prog 26 [] [lT l, lT l] (vB true) [] := by
  refine FnM.of htb Tryz.func26 rfl rfl rfl rfl rfl fun cx hN h0 => ?_
  have t1 : (((l.length : Nat) : Int) != ((l.length : Nat) : Int)) = false := by simp
  (repeat' (first | (refine nx ?_) | (refine WD_unk (by exact rfl) ?_; ((refine WD_tf (by exact rfl) (by exact rfl) ?_ ?_) <;> (intro hb; (fail_if_success (with_reducible injection hb)); rw [hb]; (try simp only [List.length_map] at hb)))) | ((refine WD_tf (by exact rfl) (by exact rfl) ?_ ?_) <;> (intro hb; (fail_if_success (with_reducible injection hb)); rw [hb]; (try simp only [List.length_map] at hb))) | (((with_reducible apply gC2); exact rfl) <;> (intro hb; rw [hb]))))
  (refine WA_forV (l.length) [13] [] (fun k => [(13, vI k)]) (fun k => []) (fun k => True) ?h0 ?_)
  case h0 => trivial
  intro k hk _
  by_cases hk2 : k < l.length
  case neg =>
    have d1 : decide ((k : Int) < (l.length : Int)) = false := by simp; omega
    (repeat' (first | (refine nx ?_) | (refine WD_unk (by exact rfl) ?_; ((refine WD_tf (by exact rfl) (by exact rfl) ?_ ?_) <;> (intro hb; (fail_if_success (with_reducible injection hb)); rw [hb]; (try simp only [List.length_map] at hb)))) | ((refine WD_tf (by exact rfl) (by exact rfl) ?_ ?_) <;> (intro hb; (fail_if_success (with_reducible injection hb)); rw [hb]; (try simp only [List.length_map] at hb))) | (((with_reducible apply gC2); exact rfl) <;> (intro hb; rw [hb]))))
    exact gE (.inr rfl) rfl rfl trivial
  have d1 : decide ((k : Int) < (l.length : Int)) = true := by simp; omega
  have d2 : (!eqT (nth l k).1 (nth l k).2 (nth l k).1 (nth l k).2) = false := by simp [eqT, eqS]
  (repeat' (first | ((with_reducible apply WD_id); first | (refine WD_eq (neT_step rfl rfl rfl) ?_)) | (refine nx ?_) | (refine WD_unk (by exact rfl) ?_; ((refine WD_tf (by exact rfl) (by exact rfl) ?_ ?_) <;> (intro hb; (fail_if_success (with_reducible injection hb)); rw [hb]; (try simp only [List.length_map] at hb)))) | ((refine WD_tf (by exact rfl) (by exact rfl) ?_ ?_) <;> (intro hb; (fail_if_success (with_reducible injection hb)); rw [hb]; (try simp only [List.length_map] at hb))) | (((with_reducible apply gC2); exact rfl) <;> (intro hb; rw [hb]))))
  refine ⟨hk2, trivial, ?_⟩
  (exact LeV [])
end Go.Proofs.YtgebgpdoddjfhaaGreat

/- Contracts of the reference's functions on paths. -/
namespace Go.Proofs.YtgebgpdoddjfhaaGreat
set_option linter.unusedSimpArgs false
set_option linter.unusedVariables false
set_option linter.unnecessarySimpa false
set_option linter.unusedSectionVars false
set_option maxRecDepth 100000
open Go Go.RowKit Go.Am Go.Proofs.Grow

theorem pln1 (g : Led) (v : ByteArray) (j : Int) (u : ByteArray) (i : Int) (l : List TA) (n : Int) : plnE g v j u i l [n] = if ¬ chkO g = 0 then chkO g else if n < 1 ∨ okA n = false then 65 else if assetB v j = false ∨ assetB u i = false ∨ validP l = false then 71 else 0 := by
  have h : (0 ≤ idxF (fun n => !okA n) 0 [n] ∨ nth [n] 0 = 0) ↔ (n < 1 ∨ okA n = false) := by
    cases e : okA n with
    | false => simp [idxF, e]
    | true =>
      have := okA_iff.1 e
      simp [idxF, e, nth]
      omega
  unfold plnE
  simp only [h]
theorem pln2 (g : Led) (v : ByteArray) (j : Int) (u : ByteArray) (i : Int) (l : List TA) (n m : Int) : plnE g v j u i l [n, m] = if ¬ chkO g = 0 then chkO g else if okA m = false then 65 else plnE g v j u i l [n] := by
  rw [pln1]
  have h : (0 ≤ idxF (fun n => !okA n) 0 [n, m] ∨ nth [n, m] 0 = 0) ↔ (okA m = false ∨ (n < 1 ∨ okA n = false)) := by
    cases e : okA n with
    | false => simp [idxF, e]
    | true =>
      have := okA_iff.1 e
      cases e2 : okA m
      · simp [idxF, e, e2]
      · simp [idxF, e, e2, nth]; omega
  unfold plnE
  simp only [h]
  by_cases hc : chkO g = 0
  · simp only [hc, not_true_eq_false, if_false]
    by_cases e2 : okA m = false
    · rw [if_pos (.inl e2), if_pos e2]
    · rw [if_neg e2]
      have h3 : (okA m = false ∨ (n < 1 ∨ okA n = false)) ↔ (n < 1 ∨ okA n = false) := by simp [e2]
      simp only [h3]
  · rw [if_pos hc, if_pos hc]
theorem validR_rm (l : List TA) (hl : l.length ≤ 1000) : FnM Tryz.prog 10 [] [lT l] (vB (validP l)) [] := by
  refine FnM.of htb Tryz.func10 rfl rfl rfl rfl rfl fun cx hN h0 => ?_
  (repeat' (first | (refine nx ?_) | (refine WD_unk (by exact rfl) ?_; ((refine WD_tf (by exact rfl) (by exact rfl) ?_ ?_) <;> (intro hb; (fail_if_success (with_reducible injection hb)); rw [hb]; (try simp only [List.length_map] at hb)))) | ((refine WD_tf (by exact rfl) (by exact rfl) ?_ ?_) <;> (intro hb; (fail_if_success (with_reducible injection hb)); rw [hb]; (try simp only [List.length_map] at hb))) | (((with_reducible apply gC2); exact rfl) <;> (intro hb; rw [hb]))))
  (refine WA_forV (l.length) [7] [] (fun k => [(7, vI k)]) (fun k => []) (fun k => idxF (fun a : TA => !assetB a.1 a.2) 0 l = idxF (fun a : TA => !assetB a.1 a.2) k (l.drop k)) ?h0 ?_)
  case h0 => rfl
  intro k hk hI
  (repeat' (first | (refine nx ?_) | (refine WD_unk (by exact rfl) ?_; ((refine WD_tf (by exact rfl) (by exact rfl) ?_ ?_) <;> (intro hb; (fail_if_success (with_reducible injection hb)); rw [hb]; (try simp only [List.length_map] at hb)))) | (refine WD_call (by exact rfl) ?_; first | (refine WD_c0 (asset_rm _ _) ?_)) | ((refine WD_tf (by exact rfl) (by exact rfl) ?_ ?_) <;> (intro hb; (fail_if_success (with_reducible injection hb)); rw [hb]; (try simp only [List.length_map] at hb))) | (((with_reducible apply gC2); exact rfl) <;> (intro hb; rw [hb]))))
  · have e := idx_hit hI (by simp at *; omega) (by assumption)
    refine gE (.inr rfl) rfl (congrArg vB ?_) trivial
    unfold validP; rw [e]; simp
  · refine ⟨by simp at *; omega, idx_miss hI (by simp at *; omega) (by assumption), ?_⟩
    (exact LeV [])
  all_goals
    have e := idx_end hI (by simp at *; omega)
    refine gE (.inr rfl) rfl (congrArg vB ?_) trivial
    unfold validP; rw [e]; simp; omega
theorem crossY_re (g : Led) (t : Int) (u : ByteArray) (i : Int) (v : ByteArray) (j n most : Int) (x : Led) (b p e : Int) (hl : g.lins.length ≤ 1000) (ha : g.accs.length ≤ 1000) (ho : g.offs.length ≤ 12) (he : crossF g t u i v j n most = (x, b, p, e)) :
    FnM Tryz.prog 81 [] [aG g, vI t, aT u i, aT v j, vI n, vI most] (.tup [aG x, vI b, vI p, vI e]) [] := by
  have := crossR_rm g t u i v j n most hl ha ho
  rwa [he] at this
set_option maxHeartbeats 4000000 in
theorem convR_rm (a : Int) (c : List TA) (g : Led) (n : Int) (hl : g.lins.length ≤ 1000) (ha : g.accs.length ≤ 1000) (ho : g.offs.length ≤ 12) (h1 : 1 ≤ c.length ∧ c.length ≤ 1000) :
    FnM Tryz.prog 51 [] [aG g, vI a, lT c, vI n] (.tup [aG (convF g a c n).1, vI (convF g a c n).2.1, vI (convF g a c n).2.2]) [] := by
  refine FnM.of htb Tryz.func51 rfl rfl rfl rfl rfl fun cx hN h0 => ?_
  (repeat' (first | (refine nx ?_) | (refine WD_unk (by exact rfl) ?_; ((refine WD_tf (by exact rfl) (by exact rfl) ?_ ?_) <;> (intro hb; (fail_if_success (with_reducible injection hb)); rw [hb]; (try simp only [List.length_map] at hb)))) | ((refine WD_tf (by exact rfl) (by exact rfl) ?_ ?_) <;> (intro hb; (fail_if_success (with_reducible injection hb)); rw [hb]; (try simp only [List.length_map] at hb))) | (((with_reducible apply gC2); exact rfl) <;> (intro hb; rw [hb]))))
  (refine WA_anyV (α := Nat × Led × Int) (fun x => x.1) ((c.length - 1, g, n)) [12, 11] [4] (fun x => [(12, vI x.1), (11, vI x.2.2)]) (fun x => [(4, .box 28 (cellsOf (aG x.2.1)))]) (fun x => x.1 < c.length ∧ convN a c x.1 x.2.1 x.2.2 = convF g a c n ∧ x.2.1.lins.length ≤ 1000 ∧ x.2.1.accs.length ≤ 1000 ∧ x.2.1.offs.length ≤ 12) ?h0 ?_)
  case h0 => exact ⟨by dsimp only; omega, rfl, hl, ha, ho⟩
  rintro ⟨k, x, m⟩ ⟨i1, i2, i3, i4, i5⟩
  dsimp only at i1 i2 i3 i4 i5
  cases k with
  | zero =>
    have d1 : decide (((0 : Nat) : Int) > 0) = false := by decide
    have e : convF g a c n = (x, m, 0) := i2.symm
    rw [e]
    (repeat' (first | (refine nx ?_) | (refine WD_unk (by exact rfl) ?_; ((refine WD_tf (by exact rfl) (by exact rfl) ?_ ?_) <;> (intro hb; (fail_if_success (with_reducible injection hb)); rw [hb]; (try simp only [List.length_map] at hb)))) | ((refine WD_tf (by exact rfl) (by exact rfl) ?_ ?_) <;> (intro hb; (fail_if_success (with_reducible injection hb)); rw [hb]; (try simp only [List.length_map] at hb))) | (((with_reducible apply gC2); exact rfl) <;> (intro hb; rw [hb]))))
    (exact glV [(8, .ptr 8 0), (9, vI m), (10, vI 0)] [(8, .box 28 (cellsOf (aG x)))] (LeV []))
  | succ k =>
    have d1 : decide (((k + 1 : Nat) : Int) > 0) = true := by simp only [decide_eq_true_eq]; omega
    have e : (((k + 1 : Nat) : Int) - 1).toNat = k := by omega
    unfold convN at i2
    cases h : eqT (nth c (k + 1)).1 (nth c (k + 1)).2 (nth c k).1 (nth c k).2 with
    | true =>
      rw [if_pos h] at i2
      have h' : eqT (nth c (k + 1)).1 (nth c (k + 1)).2 (nth c (((k + 1 : Nat) : Int) - 1).toNat).1 (nth c (((k + 1 : Nat) : Int) - 1).toNat).2 = true := by rw [e]; exact h
      (repeat' (first | ((with_reducible apply WD_id); first | (refine WD_eq (eqT_step rfl rfl rfl) ?_)) | (refine nx ?_) | (refine WD_unk (by exact rfl) ?_; ((refine WD_tf (by exact rfl) (by exact rfl) ?_ ?_) <;> (intro hb; (fail_if_success (with_reducible injection hb)); rw [hb]; (try simp only [List.length_map] at hb)))) | ((refine WD_tf (by exact rfl) (by exact rfl) ?_ ?_) <;> (intro hb; (fail_if_success (with_reducible injection hb)); rw [hb]; (try simp only [List.length_map] at hb))) | (((with_reducible apply gC2); exact rfl) <;> (intro hb; rw [hb]))))
      refine ⟨(k, x, m), by dsimp only; omega, ⟨by dsimp only; omega, i2, i3, i4, i5⟩, ?_⟩
      (exact LeV [])
    | false =>
      rw [if_neg (by simp [h])] at i2
      have h' : eqT (nth c (k + 1)).1 (nth c (k + 1)).2 (nth c (((k + 1 : Nat) : Int) - 1).toNat).1 (nth c (((k + 1 : Nat) : Int) - 1).toNat).2 = false := by rw [e]; exact h
      rcases hX : crossF x a (nth c (k + 1)).1 (nth c (k + 1)).2 (nth c k).1 (nth c k).2 m 1000000000000 with ⟨y, b, p, f⟩
      obtain ⟨y1, y2, y3⟩ := cross_lens hX
      rw [hX] at i2
      dsimp only at i2
      have hX' : crossF x a (nth c (k + 1)).1 (nth c (k + 1)).2 (nth c (((k + 1 : Nat) : Int) - 1).toNat).1 (nth c (((k + 1 : Nat) : Int) - 1).toNat).2 m 1000000000000 = (y, b, p, f) := by rw [e]; exact hX
      clear hX
      by_cases hf : f = 0
      case neg =>
        have t1 : (f != 0) = true := by simp [hf]
        rw [if_pos hf] at i2
        rw [← i2]
        (repeat' (first | ((with_reducible apply WD_id); first | (refine WD_eq (eqT_step rfl rfl rfl) ?_)) | (refine nx ?_) | (refine WD_unk (by exact rfl) ?_; ((refine WD_tf (by exact rfl) (by exact rfl) ?_ ?_) <;> (intro hb; (fail_if_success (with_reducible injection hb)); rw [hb]; (try simp only [List.length_map] at hb)))) | (refine WD_call (by exact rfl) ?_; first | (refine WD_e0 (fun h => crossY_re _ _ _ _ _ _ _ _ _ _ _ _ ?_ ?_ ?_ h) ?_; (exact hyp); (exact hyp); (exact hyp))) | ((refine WD_tf (by exact rfl) (by exact rfl) ?_ ?_) <;> (intro hb; (fail_if_success (with_reducible injection hb)); rw [hb]; (try simp only [List.length_map] at hb))) | (((with_reducible apply gC2); exact rfl) <;> (intro hb; rw [hb]))))
        (exact glV [(8, .ptr 8 0), (9, vI 0), (10, vI f)] [(8, .box 28 (cellsOf (aG led0)))] (LeV []))
      have t1 : (f != 0) = false := by simp [hf]
      rw [if_neg (by simp [hf])] at i2
      by_cases hb : b < m
      · have t2 : decide (b < m) = true := by simp [hb]
        rw [if_pos hb] at i2
        rw [← i2]
        (repeat' (first | ((with_reducible apply WD_id); first | (refine WD_eq (eqT_step rfl rfl rfl) ?_)) | (refine nx ?_) | (refine WD_unk (by exact rfl) ?_; ((refine WD_tf (by exact rfl) (by exact rfl) ?_ ?_) <;> (intro hb; (fail_if_success (with_reducible injection hb)); rw [hb]; (try simp only [List.length_map] at hb)))) | (refine WD_call (by exact rfl) ?_; first | (refine WD_e0 (fun h => crossY_re _ _ _ _ _ _ _ _ _ _ _ _ ?_ ?_ ?_ h) ?_; (exact hyp); (exact hyp); (exact hyp))) | ((refine WD_tf (by exact rfl) (by exact rfl) ?_ ?_) <;> (intro hb; (fail_if_success (with_reducible injection hb)); rw [hb]; (try simp only [List.length_map] at hb))) | (((with_reducible apply gC2); exact rfl) <;> (intro hb; rw [hb]))))
        (exact glV [(8, .ptr 8 0), (9, vI 0), (10, vI 73)] [(8, .box 28 (cellsOf (aG led0)))] (LeV []))
      · have t2 : decide (b < m) = false := by simp [hb]
        rw [if_neg hb] at i2
        (repeat' (first | ((with_reducible apply WD_id); first | (refine WD_eq (eqT_step rfl rfl rfl) ?_)) | (refine nx ?_) | (refine WD_unk (by exact rfl) ?_; ((refine WD_tf (by exact rfl) (by exact rfl) ?_ ?_) <;> (intro hb; (fail_if_success (with_reducible injection hb)); rw [hb]; (try simp only [List.length_map] at hb)))) | (refine WD_call (by exact rfl) ?_; first | (refine WD_e0 (fun h => crossY_re _ _ _ _ _ _ _ _ _ _ _ _ ?_ ?_ ?_ h) ?_; (exact hyp); (exact hyp); (exact hyp))) | ((refine WD_tf (by exact rfl) (by exact rfl) ?_ ?_) <;> (intro hb; (fail_if_success (with_reducible injection hb)); rw [hb]; (try simp only [List.length_map] at hb))) | (((with_reducible apply gC2); exact rfl) <;> (intro hb; rw [hb]))))
        refine ⟨(k, y, p), by dsimp only; omega, ⟨by dsimp only; omega, i2, by dsimp only; omega, by dsimp only; omega, by dsimp only; omega⟩, ?_⟩
        (exact LeV [])
set_option maxHeartbeats 2000000 in
theorem payR_rm (g : Led) (a b : Int) (u : ByteArray) (i n : Int) (hl : g.lins.length ≤ 1000) (ha : g.accs.length ≤ 1000) (ho : g.offs.length ≤ 1000) :
    FnM Tryz.prog 16 [] [aG g, vI a, vI b, aT u i, vI n] (.tup [aG (payF g a b u i n).1, vI (payF g a b u i n).2]) [] := by
  refine FnM.of htb Tryz.func16 rfl rfl rfl rfl rfl fun cx hN h0 => ?_
  unfold payF
  by_cases hc : chkO g = 0
  case neg =>
    have e1 : (chkO g != 0) = true := by simp [hc]
    rw [if_pos hc]
    (repeat' (first | (refine nx ?_) | (refine WD_unk (by exact rfl) ?_; ((refine WD_tf (by exact rfl) (by exact rfl) ?_ ?_) <;> (intro hb; (fail_if_success (with_reducible injection hb)); rw [hb]; (try simp only [List.length_map] at hb)))) | (refine WD_call (by exact rfl) ?_; first | (refine WD_c0 (chkO_rm _ ?_ ?_ ?_) ?_; (exact hyp); (exact hyp); (exact hyp))) | ((refine WD_tf (by exact rfl) (by exact rfl) ?_ ?_) <;> (intro hb; (fail_if_success (with_reducible injection hb)); rw [hb]; (try simp only [List.length_map] at hb))) | (((with_reducible apply gC2); exact rfl) <;> (intro hb; rw [hb]))))
    (exact glV [(10, .ptr 10 0), (11, vI (chkO g))] [(10, .box 28 (cellsOf (aG led0)))] (LeV []))
  have e1 : (chkO g != 0) = false := by simp [hc]
  rw [if_neg (by simp [hc])]
  by_cases hn : n < 1
  · have e2 : decide (n < 1) = true := by simp [hn]
    rw [if_pos (.inl (by omega))]
    (repeat' (first | (refine nx ?_) | (refine WD_unk (by exact rfl) ?_; ((refine WD_tf (by exact rfl) (by exact rfl) ?_ ?_) <;> (intro hb; (fail_if_success (with_reducible injection hb)); rw [hb]; (try simp only [List.length_map] at hb)))) | (refine WD_call (by exact rfl) ?_; first | (refine WD_c0 (chkO_rm _ ?_ ?_ ?_) ?_; (exact hyp); (exact hyp); (exact hyp))) | ((refine WD_tf (by exact rfl) (by exact rfl) ?_ ?_) <;> (intro hb; (fail_if_success (with_reducible injection hb)); rw [hb]; (try simp only [List.length_map] at hb))) | (((with_reducible apply gC2); exact rfl) <;> (intro hb; rw [hb]))))
    (exact glV [(10, .ptr 10 0), (11, vI 65)] [(10, .box 28 (cellsOf (aG led0)))] (LeV []))
  have e2 : decide (n < 1) = false := by simp; omega
  by_cases hk : okA n = true
  case neg =>
    have e3 : (!okA n) = true := by simp at hk; simp [hk]
    rw [if_pos (.inr (by simpa using hk))]
    (repeat' (first | (refine nx ?_) | (refine WD_unk (by exact rfl) ?_; ((refine WD_tf (by exact rfl) (by exact rfl) ?_ ?_) <;> (intro hb; (fail_if_success (with_reducible injection hb)); rw [hb]; (try simp only [List.length_map] at hb)))) | (refine WD_call (by exact rfl) ?_; first | (refine WD_c0 (chkO_rm _ ?_ ?_ ?_) ?_; (exact hyp); (exact hyp); (exact hyp)) | (refine WD_c0 (okA_rm _) ?_)) | ((refine WD_tf (by exact rfl) (by exact rfl) ?_ ?_) <;> (intro hb; (fail_if_success (with_reducible injection hb)); rw [hb]; (try simp only [List.length_map] at hb))) | (((with_reducible apply gC2); exact rfl) <;> (intro hb; rw [hb]))))
    (exact glV [(10, .ptr 10 0), (11, vI 65)] [(10, .box 28 (cellsOf (aG led0)))] (LeV []))
  have e3 : (!okA n) = false := by simp [hk]
  rw [if_neg (by simp [hk]; omega)]
  by_cases hab : a = b
  · have e4 : (a == b) = true := by simp [hab]
    rw [if_pos hab]
    (repeat' (first | (refine nx ?_) | (refine WD_unk (by exact rfl) ?_; ((refine WD_tf (by exact rfl) (by exact rfl) ?_ ?_) <;> (intro hb; (fail_if_success (with_reducible injection hb)); rw [hb]; (try simp only [List.length_map] at hb)))) | (refine WD_call (by exact rfl) ?_; first | (refine WD_c0 (chkO_rm _ ?_ ?_ ?_) ?_; (exact hyp); (exact hyp); (exact hyp)) | (refine WD_c0 (okA_rm _) ?_)) | ((refine WD_tf (by exact rfl) (by exact rfl) ?_ ?_) <;> (intro hb; (fail_if_success (with_reducible injection hb)); rw [hb]; (try simp only [List.length_map] at hb))) | (((with_reducible apply gC2); exact rfl) <;> (intro hb; rw [hb]))))
    (exact glV [(10, .ptr 10 0), (11, vI 67)] [(10, .box 28 (cellsOf (aG led0)))] (LeV []))
  have e4 : (a == b) = false := by simp [hab]
  rw [if_neg hab]
  unfold moveF
  rcases hD : debitF g a u i n with ⟨y, f⟩
  obtain ⟨y1, y2, y3⟩ := debit_lens hD
  dsimp only
  by_cases hf0 : f = 0
  case neg =>
    have e5 : (f == 0) = false := by simp [hf0]
    have e6 : (f != 0) = true := by simp [hf0]
    rw [if_pos hf0]
    (repeat' (first | (refine nx ?_) | (refine WD_unk (by exact rfl) ?_; ((refine WD_tf (by exact rfl) (by exact rfl) ?_ ?_) <;> (intro hb; (fail_if_success (with_reducible injection hb)); rw [hb]; (try simp only [List.length_map] at hb)))) | (refine WD_call (by exact rfl) ?_; first | (refine WD_c0 (chkO_rm _ ?_ ?_ ?_) ?_; (exact hyp); (exact hyp); (exact hyp)) | (refine WD_c0 (okA_rm _) ?_) | (refine WD_e0 (fun h => debitE_rm _ _ _ _ _ _ _ ?_ ?_ h) ?_; (exact hyp); (exact hyp))) | ((refine WD_tf (by exact rfl) (by exact rfl) ?_ ?_) <;> (intro hb; (fail_if_success (with_reducible injection hb)); rw [hb]; (try simp only [List.length_map] at hb))) | (((with_reducible apply gC2); exact rfl) <;> (intro hb; rw [hb]))))
    (exact glV [(10, .ptr 10 0), (11, vI f)] [(10, .box 28 (cellsOf (aG led0)))] (LeV []))
  subst hf0
  rw [if_neg (by simp)]
  rcases hC : creditF y b u i n with ⟨z, h⟩
  dsimp only
  have l4 : y.lins.length ≤ 1000 := by omega
  have l5 : y.accs.length ≤ 1000 := by omega
  by_cases hh : h = 0
  case neg =>
    have e6 : (h != 0) = true := by simp [hh]
    rw [if_pos hh]
    (repeat' (first | (refine nx ?_) | (refine WD_unk (by exact rfl) ?_; ((refine WD_tf (by exact rfl) (by exact rfl) ?_ ?_) <;> (intro hb; (fail_if_success (with_reducible injection hb)); rw [hb]; (try simp only [List.length_map] at hb)))) | (refine WD_call (by exact rfl) ?_; first | (refine WD_c0 (chkO_rm _ ?_ ?_ ?_) ?_; (exact hyp); (exact hyp); (exact hyp)) | (refine WD_c0 (okA_rm _) ?_) | (refine WD_e0 (fun h => debitE_rm _ _ _ _ _ _ _ ?_ ?_ h) ?_; (exact hyp); (exact hyp)) | (refine WD_e0 (fun h => creditE_rm _ _ _ _ _ _ _ ?_ ?_ h) ?_; (exact hyp); (exact hyp))) | ((refine WD_tf (by exact rfl) (by exact rfl) ?_ ?_) <;> (intro hb; (fail_if_success (with_reducible injection hb)); rw [hb]; (try simp only [List.length_map] at hb))) | (((with_reducible apply gC2); exact rfl) <;> (intro hb; rw [hb]))))
    (exact glV [(10, .ptr 10 0), (11, vI h)] [(10, .box 28 (cellsOf (aG led0)))] (LeV []))
  subst hh
  rw [if_neg (by simp)]
  (repeat' (first | (refine nx ?_) | (refine WD_unk (by exact rfl) ?_; ((refine WD_tf (by exact rfl) (by exact rfl) ?_ ?_) <;> (intro hb; (fail_if_success (with_reducible injection hb)); rw [hb]; (try simp only [List.length_map] at hb)))) | (refine WD_call (by exact rfl) ?_; first | (refine WD_c0 (chkO_rm _ ?_ ?_ ?_) ?_; (exact hyp); (exact hyp); (exact hyp)) | (refine WD_c0 (okA_rm _) ?_) | (refine WD_e0 (fun h => debitE_rm _ _ _ _ _ _ _ ?_ ?_ h) ?_; (exact hyp); (exact hyp)) | (refine WD_e0 (fun h => creditE_rm _ _ _ _ _ _ _ ?_ ?_ h) ?_; (exact hyp); (exact hyp))) | ((refine WD_tf (by exact rfl) (by exact rfl) ?_ ?_) <;> (intro hb; (fail_if_success (with_reducible injection hb)); rw [hb]; (try simp only [List.length_map] at hb))) | (((with_reducible apply gC2); exact rfl) <;> (intro hb; rw [hb]))))
  (exact glV [(10, .ptr 10 0), (11, vI 0)] [(10, .box 28 (cellsOf (aG z)))] (LeV []))
theorem chainR_rm (v : ByteArray) (j : Int) (u : ByteArray) (i : Int) (l : List TA) (hl : l.length ≤ 900) : FnM Tryz.prog 52 [] [aT v j, aT u i, lT l] (lT (chainF v j u i l)) [] := by
  refine FnM.of htb Tryz.func52 rfl rfl rfl rfl rfl fun cx hN h0 => ?_
  (repeat' (first | (refine WD_bso htb ?_) | (refine nx ?_) | (refine WD_unk (by exact rfl) ?_; ((refine WD_tf (by exact rfl) (by exact rfl) ?_ ?_) <;> (intro hb; (fail_if_success (with_reducible injection hb)); rw [hb]; (try simp only [List.length_map] at hb)))) | ((refine WD_tf (by exact rfl) (by exact rfl) ?_ ?_) <;> (intro hb; (fail_if_success (with_reducible injection hb)); rw [hb]; (try simp only [List.length_map] at hb))) | (((with_reducible apply gC2); exact rfl) <;> (intro hb; rw [hb]))))
  rw [show ([D.v (Value.string v), D.v (Value.int IntKind.i64 j)] :: (List.map rT l ++ [[D.v (Value.string u), D.v (Value.int IntKind.i64 i)]])) = (chainF v j u i l).map rT from by simp [chainF, rT, dS, dI]]
  (exact glV [(6, lT (chainF v j u i l))] [] (LeV []))
theorem convE_rm (a : Int) (c : List TA) (g : Led) (n : Int) (x : Led) (p e : Int) (hl : g.lins.length ≤ 1000) (ha : g.accs.length ≤ 1000) (ho : g.offs.length ≤ 12) (h1 : 1 ≤ c.length ∧ c.length ≤ 1000) (he : convF g a c n = (x, p, e)) :
    FnM Tryz.prog 51 [] [aG g, vI a, lT c, vI n] (.tup [aG x, vI p, vI e]) [] := by
  have := convR_rm a c g n hl ha ho h1
  rwa [he] at this
set_option maxHeartbeats 2000000 in
theorem begin_rm (g : Led) (v : ByteArray) (j : Int) (u : ByteArray) (i : Int) (l : List TA) (n : Int) (hl : g.lins.length ≤ 1000) (ha : g.accs.length ≤ 1000) (ho : g.offs.length ≤ 1000) (hp : l.length ≤ 1000) :
    FnM Tryz.prog 49 [] [aG g, aT v j, aT u i, lT l, vI n] (vI (plnE g v j u i l [n])) [] := by
  refine FnM.of htb Tryz.func49 rfl rfl rfl rfl rfl fun cx hN h0 => ?_
  rw [pln1]
  by_cases hc : chkO g = 0
  case neg =>
    have e1 : (chkO g != 0) = true := by simp [hc]
    rw [if_pos hc]
    (repeat' (first | (refine nx ?_) | (refine WD_unk (by exact rfl) ?_; ((refine WD_tf (by exact rfl) (by exact rfl) ?_ ?_) <;> (intro hb; (fail_if_success (with_reducible injection hb)); rw [hb]; (try simp only [List.length_map] at hb)))) | (refine WD_call (by exact rfl) ?_; first | (refine WD_c0 (chkO_rm _ ?_ ?_ ?_) ?_; (exact hyp); (exact hyp); (exact hyp))) | ((refine WD_tf (by exact rfl) (by exact rfl) ?_ ?_) <;> (intro hb; (fail_if_success (with_reducible injection hb)); rw [hb]; (try simp only [List.length_map] at hb))) | (((with_reducible apply gC2); exact rfl) <;> (intro hb; rw [hb]))))
    exact gE (.inr rfl) rfl rfl trivial
  have e1 : (chkO g != 0) = false := by simp [hc]
  rw [if_neg (by simp [hc])]
  by_cases hn : n < 1
  · have e2 : decide (n < 1) = true := by simp [hn]
    rw [if_pos (.inl hn)]
    (repeat' (first | (refine nx ?_) | (refine WD_unk (by exact rfl) ?_; ((refine WD_tf (by exact rfl) (by exact rfl) ?_ ?_) <;> (intro hb; (fail_if_success (with_reducible injection hb)); rw [hb]; (try simp only [List.length_map] at hb)))) | (refine WD_call (by exact rfl) ?_; first | (refine WD_c0 (chkO_rm _ ?_ ?_ ?_) ?_; (exact hyp); (exact hyp); (exact hyp))) | ((refine WD_tf (by exact rfl) (by exact rfl) ?_ ?_) <;> (intro hb; (fail_if_success (with_reducible injection hb)); rw [hb]; (try simp only [List.length_map] at hb))) | (((with_reducible apply gC2); exact rfl) <;> (intro hb; rw [hb]))))
    exact gE (.inr rfl) rfl rfl trivial
  have e2 : decide (n < 1) = false := by simp; omega
  by_cases hk : okA n = true
  case neg =>
    have e3 : (!okA n) = true := by simp at hk; simp [hk]
    rw [if_pos (.inr (by simpa using hk))]
    (repeat' (first | (refine nx ?_) | (refine WD_unk (by exact rfl) ?_; ((refine WD_tf (by exact rfl) (by exact rfl) ?_ ?_) <;> (intro hb; (fail_if_success (with_reducible injection hb)); rw [hb]; (try simp only [List.length_map] at hb)))) | (refine WD_call (by exact rfl) ?_; first | (refine WD_c0 (chkO_rm _ ?_ ?_ ?_) ?_; (exact hyp); (exact hyp); (exact hyp)) | (refine WD_c0 (okA_rm _) ?_)) | ((refine WD_tf (by exact rfl) (by exact rfl) ?_ ?_) <;> (intro hb; (fail_if_success (with_reducible injection hb)); rw [hb]; (try simp only [List.length_map] at hb))) | (((with_reducible apply gC2); exact rfl) <;> (intro hb; rw [hb]))))
    exact gE (.inr rfl) rfl rfl trivial
  have e3 : (!okA n) = false := by simp [hk]
  rw [if_neg (by simp [hk]; omega)]
  by_cases hq : assetB v j = false ∨ assetB u i = false ∨ validP l = false
  · rw [if_pos hq]
    (repeat' (first | (refine nx ?_) | (refine WD_unk (by exact rfl) ?_; ((refine WD_tf (by exact rfl) (by exact rfl) ?_ ?_) <;> (intro hb; (fail_if_success (with_reducible injection hb)); rw [hb]; (try simp only [List.length_map] at hb)))) | (refine WD_call (by exact rfl) ?_; first | (refine WD_c0 (chkO_rm _ ?_ ?_ ?_) ?_; (exact hyp); (exact hyp); (exact hyp)) | (refine WD_c0 (okA_rm _) ?_) | (refine WD_c0 (asset_rm _ _) ?_) | (refine WD_c0 (validR_rm _ ?_) ?_; (exact hyp))) | ((refine WD_tf (by exact rfl) (by exact rfl) ?_ ?_) <;> (intro hb; (fail_if_success (with_reducible injection hb)); rw [hb]; (try simp only [List.length_map] at hb))) | (((with_reducible apply gC2); exact rfl) <;> (intro hb; rw [hb]))))
    all_goals try simp only [Bool.not_eq_true', Bool.not_eq_false', decide_eq_true_eq, decide_eq_false_iff_not, bne_iff_ne, bne_eq_false_iff_eq, beq_iff_eq, beq_eq_false_iff_ne] at *
    all_goals first
      | (exfalso; simp_all; done)
      | exact gE (.inr rfl) rfl rfl trivial
  rw [if_neg hq]
  simp only [not_or, Bool.not_eq_false] at hq
  have e4 : (!assetB v j) = false := by simp [hq.1]
  have e5 : (!assetB u i) = false := by simp [hq.2.1]
  have e6 : (!validP l) = false := by simp [hq.2.2]
  (repeat' (first | (refine nx ?_) | (refine WD_unk (by exact rfl) ?_; ((refine WD_tf (by exact rfl) (by exact rfl) ?_ ?_) <;> (intro hb; (fail_if_success (with_reducible injection hb)); rw [hb]; (try simp only [List.length_map] at hb)))) | (refine WD_call (by exact rfl) ?_; first | (refine WD_c0 (chkO_rm _ ?_ ?_ ?_) ?_; (exact hyp); (exact hyp); (exact hyp)) | (refine WD_c0 (okA_rm _) ?_) | (refine WD_c0 (asset_rm _ _) ?_) | (refine WD_c0 (validR_rm _ ?_) ?_; (exact hyp))) | ((refine WD_tf (by exact rfl) (by exact rfl) ?_ ?_) <;> (intro hb; (fail_if_success (with_reducible injection hb)); rw [hb]; (try simp only [List.length_map] at hb))) | (((with_reducible apply gC2); exact rfl) <;> (intro hb; rw [hb]))))
  exact gE (.inr rfl) rfl rfl trivial
set_option maxHeartbeats 4000000 in
theorem quoteR_rm (g : Led) (b : Int) (v : ByteArray) (j : Int) (u : ByteArray) (i : Int) (l : List TA) (n : Int) (hl : g.lins.length ≤ 1000) (ha : g.accs.length ≤ 1000) (ho : g.offs.length ≤ 12) (hp : l.length ≤ 900) :
    FnM Tryz.prog 22 [] [aG g, vI b, aT v j, aT u i, lT l, vI n] (.tup [vI (quoteF g b v j u i l n).1, vI (quoteF g b v j u i l n).2]) [] := by
  refine FnM.of htb Tryz.func22 rfl rfl rfl rfl rfl fun cx hN h0 => ?_
  unfold quoteF
  have hlen := chain_len v j u i l
  by_cases he : plnE g v j u i l [n] = 0
  case neg =>
    have e1 : (plnE g v j u i l [n] != 0) = true := by simp [he]
    rw [if_pos he]
    (repeat' (first | (refine nx ?_) | (refine WD_unk (by exact rfl) ?_; ((refine WD_tf (by exact rfl) (by exact rfl) ?_ ?_) <;> (intro hb; (fail_if_success (with_reducible injection hb)); rw [hb]; (try simp only [List.length_map] at hb)))) | (refine WD_call (by exact rfl) ?_; first | (refine WD_c0 (begin_rm _ _ _ _ _ _ _ ?_ ?_ ?_ ?_) ?_; (exact hyp); (exact hyp); (exact hyp); (exact hyp))) | ((refine WD_tf (by exact rfl) (by exact rfl) ?_ ?_) <;> (intro hb; (fail_if_success (with_reducible injection hb)); rw [hb]; (try simp only [List.length_map] at hb))) | (((with_reducible apply gC2); exact rfl) <;> (intro hb; rw [hb]))))
    exact gE (.inr rfl) rfl rfl trivial
  have e1 : (plnE g v j u i l [n] != 0) = false := by simp [he]
  rw [if_neg (by simp [he])]
  cases hf : (findA g.accs b).2 with
  | false =>
    have e2 : (!(findA g.accs b).2) = true := by simp [hf]
    rw [if_pos rfl]
    (repeat' (first | (refine nx ?_) | (refine WD_unk (by exact rfl) ?_; ((refine WD_tf (by exact rfl) (by exact rfl) ?_ ?_) <;> (intro hb; (fail_if_success (with_reducible injection hb)); rw [hb]; (try simp only [List.length_map] at hb)))) | (refine WD_call (by exact rfl) ?_; first | (refine WD_c0 (begin_rm _ _ _ _ _ _ _ ?_ ?_ ?_ ?_) ?_; (exact hyp); (exact hyp); (exact hyp); (exact hyp)) | (refine WD_c0 (findA_rm _ _ ?_) ?_; (exact hyp))) | ((refine WD_tf (by exact rfl) (by exact rfl) ?_ ?_) <;> (intro hb; (fail_if_success (with_reducible injection hb)); rw [hb]; (try simp only [List.length_map] at hb))) | (((with_reducible apply gC2); exact rfl) <;> (intro hb; rw [hb]))))
    exact gE (.inr rfl) rfl rfl trivial
  | true =>
    have e2 : (!(findA g.accs b).2) = false := by simp [hf]
    rw [if_neg (by simp)]
    rcases hC : convF g b (chainF v j u i l) n with ⟨x, p, e⟩
    (repeat' (first | (refine nx ?_) | (refine WD_unk (by exact rfl) ?_; ((refine WD_tf (by exact rfl) (by exact rfl) ?_ ?_) <;> (intro hb; (fail_if_success (with_reducible injection hb)); rw [hb]; (try simp only [List.length_map] at hb)))) | (refine WD_call (by exact rfl) ?_; first | (refine WD_c0 (begin_rm _ _ _ _ _ _ _ ?_ ?_ ?_ ?_) ?_; (exact hyp); (exact hyp); (exact hyp); (exact hyp)) | (refine WD_c0 (findA_rm _ _ ?_) ?_; (exact hyp)) | (refine WD_c0 (chainR_rm _ _ _ _ _ ?_) ?_; (exact hyp)) | (refine WD_e0 (fun h => convE_rm (c := chainF v j u i l) _ _ _ _ _ _ ?_ ?_ ?_ ?_ h) ?_; (exact hyp); (exact hyp); (exact hyp); (exact hyp))) | ((refine WD_tf (by exact rfl) (by exact rfl) ?_ ?_) <;> (intro hb; (fail_if_success (with_reducible injection hb)); rw [hb]; (try simp only [List.length_map] at hb))) | (((with_reducible apply gC2); exact rfl) <;> (intro hb; rw [hb]))))
    exact gE (.inr rfl) rfl rfl trivial
set_option maxHeartbeats 8000000 in
theorem sendR_rm (g : Led) (a b : Int) (v : ByteArray) (j : Int) (u : ByteArray) (i : Int) (l : List TA) (n most : Int) (hl : g.lins.length ≤ 1000) (ha : g.accs.length ≤ 1000) (ho : g.offs.length ≤ 12) (hp : l.length ≤ 900) :
    FnM Tryz.prog 20 [] [aG g, vI a, vI b, aT v j, aT u i, lT l, vI n, vI most] (.tup [aG (sendF g a b v j u i l n most).1, vI (sendF g a b v j u i l n most).2.1, vI (sendF g a b v j u i l n most).2.2]) [] := by
  refine FnM.of htb Tryz.func20 rfl rfl rfl rfl rfl fun cx hN h0 => ?_
  unfold sendF
  have hlen := chain_len v j u i l
  by_cases hc : chkO g = 0
  case neg =>
    have e1 : (chkO g != 0) = true := by simp [hc]
    rw [show plnE g v j u i l [n, most] = chkO g by rw [pln2, if_pos hc], if_pos hc]
    (repeat' (first | (refine nx ?_) | (refine WD_unk (by exact rfl) ?_; ((refine WD_tf (by exact rfl) (by exact rfl) ?_ ?_) <;> (intro hb; (fail_if_success (with_reducible injection hb)); rw [hb]; (try simp only [List.length_map] at hb)))) | (refine WD_call (by exact rfl) ?_; first | (refine WD_c0 (chkO_rm _ ?_ ?_ ?_) ?_; (exact hyp); (exact hyp); (exact hyp))) | ((refine WD_tf (by exact rfl) (by exact rfl) ?_ ?_) <;> (intro hb; (fail_if_success (with_reducible injection hb)); rw [hb]; (try simp only [List.length_map] at hb))) | (((with_reducible apply gC2); exact rfl) <;> (intro hb; rw [hb]))))
    (exact glV [(16, .ptr 16 0), (17, vI 0), (18, vI (chkO g))] [(16, .box 28 (cellsOf (aG led0)))] (LeV []))
  have e1 : (chkO g != 0) = false := by simp [hc]
  by_cases hk : okA most = true
  case neg =>
    have e2 : (!okA most) = true := by simp at hk; simp [hk]
    rw [show plnE g v j u i l [n, most] = 65 by rw [pln2, if_neg (by simp [hc]), if_pos (by simpa using hk)], if_pos (by decide)]
    (repeat' (first | (refine nx ?_) | (refine WD_unk (by exact rfl) ?_; ((refine WD_tf (by exact rfl) (by exact rfl) ?_ ?_) <;> (intro hb; (fail_if_success (with_reducible injection hb)); rw [hb]; (try simp only [List.length_map] at hb)))) | (refine WD_call (by exact rfl) ?_; first | (refine WD_c0 (chkO_rm _ ?_ ?_ ?_) ?_; (exact hyp); (exact hyp); (exact hyp)) | (refine WD_c0 (okA_rm _) ?_)) | ((refine WD_tf (by exact rfl) (by exact rfl) ?_ ?_) <;> (intro hb; (fail_if_success (with_reducible injection hb)); rw [hb]; (try simp only [List.length_map] at hb))) | (((with_reducible apply gC2); exact rfl) <;> (intro hb; rw [hb]))))
    (exact glV [(16, .ptr 16 0), (17, vI 0), (18, vI 65)] [(16, .box 28 (cellsOf (aG led0)))] (LeV []))
  have e2 : (!okA most) = false := by simp [hk]
  rw [show plnE g v j u i l [n, most] = plnE g v j u i l [n] by rw [pln2, if_neg (by simp [hc]), if_neg (by simp [hk])]]
  by_cases he : plnE g v j u i l [n] = 0
  case neg =>
    have e3 : (plnE g v j u i l [n] != 0) = true := by simp [he]
    rw [if_pos he]
    (repeat' (first | (refine nx ?_) | (refine WD_unk (by exact rfl) ?_; ((refine WD_tf (by exact rfl) (by exact rfl) ?_ ?_) <;> (intro hb; (fail_if_success (with_reducible injection hb)); rw [hb]; (try simp only [List.length_map] at hb)))) | (refine WD_call (by exact rfl) ?_; first | (refine WD_c0 (chkO_rm _ ?_ ?_ ?_) ?_; (exact hyp); (exact hyp); (exact hyp)) | (refine WD_c0 (okA_rm _) ?_) | (refine WD_c0 (begin_rm _ _ _ _ _ _ _ ?_ ?_ ?_ ?_) ?_; (exact hyp); (exact hyp); (exact hyp); (exact hyp))) | ((refine WD_tf (by exact rfl) (by exact rfl) ?_ ?_) <;> (intro hb; (fail_if_success (with_reducible injection hb)); rw [hb]; (try simp only [List.length_map] at hb))) | (((with_reducible apply gC2); exact rfl) <;> (intro hb; rw [hb]))))
    (exact glV [(16, .ptr 16 0), (17, vI 0), (18, vI (plnE g v j u i l [n]))] [(16, .box 28 (cellsOf (aG led0)))] (LeV []))
  have e3 : (plnE g v j u i l [n] != 0) = false := by simp [he]
  rw [if_neg (by simp [he])]
  by_cases hbad : (findA g.accs a).2 = false ∨ (findA g.accs b).2 = false ∨ a = b
  · rw [if_pos hbad]
    (repeat' (first | (refine nx ?_) | (refine WD_unk (by exact rfl) ?_; ((refine WD_tf (by exact rfl) (by exact rfl) ?_ ?_) <;> (intro hb; (fail_if_success (with_reducible injection hb)); rw [hb]; (try simp only [List.length_map] at hb)))) | (refine WD_call (by exact rfl) ?_; first | (refine WD_c0 (chkO_rm _ ?_ ?_ ?_) ?_; (exact hyp); (exact hyp); (exact hyp)) | (refine WD_c0 (okA_rm _) ?_) | (refine WD_c0 (begin_rm _ _ _ _ _ _ _ ?_ ?_ ?_ ?_) ?_; (exact hyp); (exact hyp); (exact hyp); (exact hyp)) | (refine WD_c0 (findA_rm _ _ ?_) ?_; (exact hyp))) | ((refine WD_tf (by exact rfl) (by exact rfl) ?_ ?_) <;> (intro hb; (fail_if_success (with_reducible injection hb)); rw [hb]; (try simp only [List.length_map] at hb))) | (((with_reducible apply gC2); exact rfl) <;> (intro hb; rw [hb]))))
    all_goals try simp only [Bool.not_eq_true', Bool.not_eq_false', decide_eq_true_eq, decide_eq_false_iff_not, bne_iff_ne, bne_eq_false_iff_eq, beq_iff_eq, beq_eq_false_iff_ne] at *
    all_goals first
      | (exfalso; simp_all; done)
      | (exact glV [(16, .ptr 16 0), (17, vI 0), (18, vI 67)] [(16, .box 28 (cellsOf (aG led0)))] (LeV []))
  rw [if_neg hbad]
  simp only [not_or, Bool.not_eq_false] at hbad
  have e4 : (!(findA g.accs a).2) = false := by simp [hbad.1]
  have e5 : (!(findA g.accs b).2) = false := by simp [hbad.2.1]
  have e6 : (a == b) = false := by simp [hbad.2.2]
  rcases hC : convF g a (chainF v j u i l) n with ⟨x, p, e⟩
  obtain ⟨x1, x2, x3⟩ := conv_lens _ hC
  dsimp only
  by_cases hz : e = 0
  case neg =>
    have e7 : (e != 0) = true := by simp [hz]
    rw [if_pos hz]
    (repeat' (first | (refine nx ?_) | (refine WD_unk (by exact rfl) ?_; ((refine WD_tf (by exact rfl) (by exact rfl) ?_ ?_) <;> (intro hb; (fail_if_success (with_reducible injection hb)); rw [hb]; (try simp only [List.length_map] at hb)))) | (refine WD_call (by exact rfl) ?_; first | (refine WD_c0 (chkO_rm _ ?_ ?_ ?_) ?_; (exact hyp); (exact hyp); (exact hyp)) | (refine WD_c0 (okA_rm _) ?_) | (refine WD_c0 (begin_rm _ _ _ _ _ _ _ ?_ ?_ ?_ ?_) ?_; (exact hyp); (exact hyp); (exact hyp); (exact hyp)) | (refine WD_c0 (findA_rm _ _ ?_) ?_; (exact hyp)) | (refine WD_c0 (chainR_rm _ _ _ _ _ ?_) ?_; (exact hyp)) | (refine WD_e0 (fun h => convE_rm (c := chainF v j u i l) _ _ _ _ _ _ ?_ ?_ ?_ ?_ h) ?_; (exact hyp); (exact hyp); (exact hyp); (exact hyp))) | ((refine WD_tf (by exact rfl) (by exact rfl) ?_ ?_) <;> (intro hb; (fail_if_success (with_reducible injection hb)); rw [hb]; (try simp only [List.length_map] at hb))) | (((with_reducible apply gC2); exact rfl) <;> (intro hb; rw [hb]))))
    (exact glV [(16, .ptr 16 0), (17, vI 0), (18, vI e)] [(16, .box 28 (cellsOf (aG led0)))] (LeV []))
  subst hz
  rw [if_neg (by simp)]
  by_cases hm : most < p
  · have e7 : decide (p > most) = true := by simp [hm]
    rw [if_pos hm]
    (repeat' (first | (refine nx ?_) | (refine WD_unk (by exact rfl) ?_; ((refine WD_tf (by exact rfl) (by exact rfl) ?_ ?_) <;> (intro hb; (fail_if_success (with_reducible injection hb)); rw [hb]; (try simp only [List.length_map] at hb)))) | (refine WD_call (by exact rfl) ?_; first | (refine WD_c0 (chkO_rm _ ?_ ?_ ?_) ?_; (exact hyp); (exact hyp); (exact hyp)) | (refine WD_c0 (okA_rm _) ?_) | (refine WD_c0 (begin_rm _ _ _ _ _ _ _ ?_ ?_ ?_ ?_) ?_; (exact hyp); (exact hyp); (exact hyp); (exact hyp)) | (refine WD_c0 (findA_rm _ _ ?_) ?_; (exact hyp)) | (refine WD_c0 (chainR_rm _ _ _ _ _ ?_) ?_; (exact hyp)) | (refine WD_e0 (fun h => convE_rm (c := chainF v j u i l) _ _ _ _ _ _ ?_ ?_ ?_ ?_ h) ?_; (exact hyp); (exact hyp); (exact hyp); (exact hyp))) | ((refine WD_tf (by exact rfl) (by exact rfl) ?_ ?_) <;> (intro hb; (fail_if_success (with_reducible injection hb)); rw [hb]; (try simp only [List.length_map] at hb))) | (((with_reducible apply gC2); exact rfl) <;> (intro hb; rw [hb]))))
    (exact glV [(16, .ptr 16 0), (17, vI 0), (18, vI 66)] [(16, .box 28 (cellsOf (aG led0)))] (LeV []))
  have e7 : decide (p > most) = false := by simp; omega
  rw [if_neg hm]
  have l4 : x.lins.length ≤ 1000 := by omega
  have l5 : x.accs.length ≤ 1000 := by omega
  rcases hD : debitF x a v j p with ⟨y, f⟩
  obtain ⟨y1, y2, y3⟩ := debit_lens hD
  by_cases hf0 : f = 0
  case neg =>
    have e8 : (f == 0) = false := by simp [hf0]
    have e9 : (f != 0) = true := by simp [hf0]
    rw [show moveF x a v j p b u i n = (led0, f) by unfold moveF; rw [hD]; exact if_pos hf0]
    dsimp only
    rw [if_pos hf0]
    (repeat' (first | (refine nx ?_) | (refine WD_unk (by exact rfl) ?_; ((refine WD_tf (by exact rfl) (by exact rfl) ?_ ?_) <;> (intro hb; (fail_if_success (with_reducible injection hb)); rw [hb]; (try simp only [List.length_map] at hb)))) | (refine WD_call (by exact rfl) ?_; first | (refine WD_c0 (chkO_rm _ ?_ ?_ ?_) ?_; (exact hyp); (exact hyp); (exact hyp)) | (refine WD_c0 (okA_rm _) ?_) | (refine WD_c0 (begin_rm _ _ _ _ _ _ _ ?_ ?_ ?_ ?_) ?_; (exact hyp); (exact hyp); (exact hyp); (exact hyp)) | (refine WD_c0 (findA_rm _ _ ?_) ?_; (exact hyp)) | (refine WD_c0 (chainR_rm _ _ _ _ _ ?_) ?_; (exact hyp)) | (refine WD_e0 (fun h => convE_rm (c := chainF v j u i l) _ _ _ _ _ _ ?_ ?_ ?_ ?_ h) ?_; (exact hyp); (exact hyp); (exact hyp); (exact hyp)) | (refine WD_e0 (fun h => debitE_rm _ _ _ _ _ _ _ ?_ ?_ h) ?_; (exact hyp); (exact hyp))) | ((refine WD_tf (by exact rfl) (by exact rfl) ?_ ?_) <;> (intro hb; (fail_if_success (with_reducible injection hb)); rw [hb]; (try simp only [List.length_map] at hb))) | (((with_reducible apply gC2); exact rfl) <;> (intro hb; rw [hb]))))
    (exact glV [(16, .ptr 16 0), (17, vI 0), (18, vI f)] [(16, .box 28 (cellsOf (aG led0)))] (LeV []))
  subst hf0
  rcases hX : creditF y b u i n with ⟨z, h⟩
  have l6 : y.lins.length ≤ 1000 := by omega
  have l7 : y.accs.length ≤ 1000 := by omega
  by_cases hh : h = 0
  case neg =>
    have e9 : (h != 0) = true := by simp [hh]
    rw [show moveF x a v j p b u i n = (led0, h) by unfold moveF; rw [hD]; dsimp only; rw [if_neg (by simp), hX]; exact if_pos hh]
    dsimp only
    rw [if_pos hh]
    (repeat' (first | (refine nx ?_) | (refine WD_unk (by exact rfl) ?_; ((refine WD_tf (by exact rfl) (by exact rfl) ?_ ?_) <;> (intro hb; (fail_if_success (with_reducible injection hb)); rw [hb]; (try simp only [List.length_map] at hb)))) | (refine WD_call (by exact rfl) ?_; first | (refine WD_c0 (chkO_rm _ ?_ ?_ ?_) ?_; (exact hyp); (exact hyp); (exact hyp)) | (refine WD_c0 (okA_rm _) ?_) | (refine WD_c0 (begin_rm _ _ _ _ _ _ _ ?_ ?_ ?_ ?_) ?_; (exact hyp); (exact hyp); (exact hyp); (exact hyp)) | (refine WD_c0 (findA_rm _ _ ?_) ?_; (exact hyp)) | (refine WD_c0 (chainR_rm _ _ _ _ _ ?_) ?_; (exact hyp)) | (refine WD_e0 (fun h => convE_rm (c := chainF v j u i l) _ _ _ _ _ _ ?_ ?_ ?_ ?_ h) ?_; (exact hyp); (exact hyp); (exact hyp); (exact hyp)) | (refine WD_e0 (fun h => debitE_rm _ _ _ _ _ _ _ ?_ ?_ h) ?_; (exact hyp); (exact hyp)) | (refine WD_e0 (fun h => creditE_rm _ _ _ _ _ _ _ ?_ ?_ h) ?_; (exact hyp); (exact hyp))) | ((refine WD_tf (by exact rfl) (by exact rfl) ?_ ?_) <;> (intro hb; (fail_if_success (with_reducible injection hb)); rw [hb]; (try simp only [List.length_map] at hb))) | (((with_reducible apply gC2); exact rfl) <;> (intro hb; rw [hb]))))
    (exact glV [(16, .ptr 16 0), (17, vI 0), (18, vI h)] [(16, .box 28 (cellsOf (aG led0)))] (LeV []))
  subst hh
  rw [show moveF x a v j p b u i n = (z, 0) by unfold moveF; rw [hD]; dsimp only; rw [if_neg (by simp), hX]; exact if_neg (by simp)]
  dsimp only
  rw [if_neg (by simp)]
  (repeat' (first | (refine nx ?_) | (refine WD_unk (by exact rfl) ?_; ((refine WD_tf (by exact rfl) (by exact rfl) ?_ ?_) <;> (intro hb; (fail_if_success (with_reducible injection hb)); rw [hb]; (try simp only [List.length_map] at hb)))) | (refine WD_call (by exact rfl) ?_; first | (refine WD_c0 (chkO_rm _ ?_ ?_ ?_) ?_; (exact hyp); (exact hyp); (exact hyp)) | (refine WD_c0 (okA_rm _) ?_) | (refine WD_c0 (begin_rm _ _ _ _ _ _ _ ?_ ?_ ?_ ?_) ?_; (exact hyp); (exact hyp); (exact hyp); (exact hyp)) | (refine WD_c0 (findA_rm _ _ ?_) ?_; (exact hyp)) | (refine WD_c0 (chainR_rm _ _ _ _ _ ?_) ?_; (exact hyp)) | (refine WD_e0 (fun h => convE_rm (c := chainF v j u i l) _ _ _ _ _ _ ?_ ?_ ?_ ?_ h) ?_; (exact hyp); (exact hyp); (exact hyp); (exact hyp)) | (refine WD_e0 (fun h => debitE_rm _ _ _ _ _ _ _ ?_ ?_ h) ?_; (exact hyp); (exact hyp)) | (refine WD_e0 (fun h => creditE_rm _ _ _ _ _ _ _ ?_ ?_ h) ?_; (exact hyp); (exact hyp))) | ((refine WD_tf (by exact rfl) (by exact rfl) ?_ ?_) <;> (intro hb; (fail_if_success (with_reducible injection hb)); rw [hb]; (try simp only [List.length_map] at hb))) | (((with_reducible apply gC2); exact rfl) <;> (intro hb; rw [hb]))))
  (exact glV [(16, .ptr 16 0), (17, vI p), (18, vI 0)] [(16, .box 28 (cellsOf (aG z)))] (LeV []))
end Go.Proofs.YtgebgpdoddjfhaaGreat

/- Contract of slices.SortFunc at assets, at any length, by the shelf. -/
namespace Go.Proofs.YtgebgpdoddjfhaaGreat
set_option linter.unusedSimpArgs false
set_option linter.unusedVariables false
set_option linter.unnecessarySimpa false
set_option linter.unusedSectionVars false
set_option maxRecDepth 100000
open Go Go.RowKit Go.Am Go.Proofs.Grow Go.Shelf Go.Sort

def renQ : Ren := ⟨fun | 6 => 107 | 14 => 136 | 15 => 137 | 20 => 151 | 21 => 152 | 22 => 153 | 23 => 154 | 24 => 155 | 25 => 156 | 26 => 157 | 27 => 158 | 28 => 159 | 29 => 160 | 46 => 172 | 47 => 173 | 48 => 174 | 49 => 175 | 50 => 176 | 57 => 181 | n => n, fun | 0 => 0 | 3 => 3 | 4 => 4 | 5 => 5 | 9 => 9 | 22 => 31 | 24 => 30 | 25 => 143 | 39 => 160 | 45 => 169 | 46 => 170 | 50 => 174 | 53 => 177 | 55 => 26 | 66 => 186 | 70 => 190 | 76 => 195 | 77 => 99 | n => n, fun n => n⟩
theorem layQ : SlLaysF0.n6 Tryz.prog renQ where
  mixed := hmix
  f6 := ⟨Tryz.f107.name, by kernel_rfl, Tryz.func107.trans (congrArg some (by kernel_rfl))⟩
  f14 := ⟨Tryz.f136.name, by kernel_rfl, Tryz.func136.trans (congrArg some (by kernel_rfl))⟩
  f15 := Tryz.func137.trans (congrArg some (by kernel_rfl))
  f20 := ⟨Tryz.f151.name, by kernel_rfl, Tryz.func151.trans (congrArg some (by kernel_rfl))⟩
  f21 := ⟨Tryz.f152.name, by kernel_rfl, Tryz.func152.trans (congrArg some (by kernel_rfl))⟩
  f22 := ⟨Tryz.f153.name, by kernel_rfl, Tryz.func153.trans (congrArg some (by kernel_rfl))⟩
  f23 := ⟨Tryz.f154.name, by kernel_rfl, Tryz.func154.trans (congrArg some (by kernel_rfl))⟩
  f24 := ⟨Tryz.f155.name, by kernel_rfl, Tryz.func155.trans (congrArg some (by kernel_rfl))⟩
  f25 := ⟨Tryz.f156.name, by kernel_rfl, Tryz.func156.trans (congrArg some (by kernel_rfl))⟩
  f26 := ⟨Tryz.f157.name, by kernel_rfl, Tryz.func157.trans (congrArg some (by kernel_rfl))⟩
  f27 := ⟨Tryz.f158.name, by kernel_rfl, Tryz.func158.trans (congrArg some (by kernel_rfl))⟩
  f28 := Tryz.func159.trans (congrArg some (by kernel_rfl))
  f29 := Tryz.func160.trans (congrArg some (by kernel_rfl))
  f46 := ⟨Tryz.f172.name, by kernel_rfl, Tryz.func172.trans (congrArg some (by kernel_rfl))⟩
  f47 := Tryz.func173.trans (congrArg some (by kernel_rfl))
  f48 := Tryz.func174.trans (congrArg some (by kernel_rfl))
  f49 := ⟨Tryz.f175.name, by kernel_rfl, Tryz.func175.trans (congrArg some (by kernel_rfl))⟩
  f50 := ⟨Tryz.f176.name, by kernel_rfl, Tryz.func176.trans (congrArg some (by kernel_rfl))⟩
  f57 := ⟨Tryz.f181.name, by kernel_rfl, Tryz.func181.trans (congrArg some (by kernel_rfl))⟩
  t0 := Tryz.underlying0
  a0 := Tryz.isAgg0
  z0 := Tryz.sizeOf0
  v0 := Tryz.zeroValue0
  t3 := Tryz.underlying3
  a3 := Tryz.isAgg3
  z3 := Tryz.sizeOf3
  v3 := Tryz.zeroValue3
  t4 := Tryz.underlying4
  a4 := Tryz.isAgg4
  z4 := Tryz.sizeOf4
  v4 := Tryz.zeroValue4
  t5 := Tryz.underlying5
  a5 := Tryz.isAgg5
  z5 := Tryz.sizeOf5
  v5 := Tryz.zeroValue5
  t9 := Tryz.underlying9
  a9 := Tryz.isAgg9
  z9 := Tryz.sizeOf9
  v9 := Tryz.zeroValue9
  t22 := Tryz.underlying31
  a22 := Tryz.isAgg31
  z22 := Tryz.sizeOf31
  v22 := Tryz.zeroValue31
  t25 := Tryz.underlying143
  a25 := Tryz.isAgg143
  z25 := Tryz.sizeOf143
  v25 := Tryz.zeroValue143
  t39 := Tryz.underlying160
  a39 := Tryz.isAgg160
  z39 := Tryz.sizeOf160
  v39 := Tryz.zeroValue160
  t45 := Tryz.underlying169
  a45 := Tryz.isAgg169
  z45 := Tryz.sizeOf169
  v45 := Tryz.zeroValue169
  t46 := Tryz.underlying170
  a46 := Tryz.isAgg170
  z46 := Tryz.sizeOf170
  v46 := Tryz.zeroValue170
  t50 := Tryz.underlying174
  a50 := Tryz.isAgg174
  z50 := Tryz.sizeOf174
  v50 := Tryz.zeroValue174
  t53 := Tryz.underlying177
  a53 := Tryz.isAgg177
  z53 := Tryz.sizeOf177
  v53 := Tryz.zeroValue177
  t55 := Tryz.underlying26
  a55 := Tryz.isAgg26
  z55 := Tryz.sizeOf26
  v55 := Tryz.zeroValue26
  t66 := Tryz.underlying186
  a66 := Tryz.isAgg186
  z66 := Tryz.sizeOf186
  v66 := Tryz.zeroValue186
  t70 := Tryz.underlying190
  a70 := Tryz.isAgg190
  z70 := Tryz.sizeOf190
  v70 := Tryz.zeroValue190
  t76 := Tryz.underlying195
  a76 := Tryz.isAgg195
  z76 := Tryz.sizeOf195
  v76 := Tryz.zeroValue195
  t77 := Tryz.underlying99
  a77 := Tryz.isAgg99
  z77 := Tryz.sizeOf99
  v77 := Tryz.zeroValue99
/-- A world after draws and new blocks. -/
def Gx (w w' : World) : Prop := ∃ q os, w' = grow (w.drewN q) os
theorem Gx.refl (w : World) : Gx w w := ⟨0, #[], by rw [grow_empty]; rfl⟩
theorem Gx.alloc {w w' : World} (h : Gx w w') (o : Obj) : Gx w (w'.alloc o) := by
  obtain ⟨q, os, rfl⟩ := h
  exact ⟨q, os ++ #[o], by rw [alloc_eq_grow, grow_grow]⟩
theorem Gx.drew {w w' : World} (h : Gx w w') : Gx w w'.drew := by
  obtain ⟨q, os, rfl⟩ := h
  exact ⟨q + 1, os, rfl⟩
theorem Gx.grown {w w' : World} (h : Gx w w') (n : Nat) (es : Array Obj) : Gx w (grow (w'.drewN n) es) := by
  obtain ⟨q, os, rfl⟩ := h
  exact ⟨q + n, os ++ es, by rw [← grow_grow, ← World.drewN_drewN]; rfl⟩
theorem or_two_g (x y : Int) (w : World) :
    Calls Tryz.prog 111 #[.slice (some ⟨w.heap.size, 0, none⟩) 2 2] (w.alloc (.cells #[.int .i64 x, .int .i64 y] 3)) fun e w' => e = .returned (.int .i64 (orI [x, y])) ∧ w' = w.alloc (.cells #[.int .i64 x, .int .i64 y] 3) := by
  refine (or_int w.heap.size 0 2 [x, y] _ (by simp) ?_).mono ?_
  · intro i hi
    match i, hi with
    | 0, _ => simp [atI, go_sem]
    | 1, _ => simp [atI, go_sem]
  · rintro e w' ⟨he, rfl⟩; exact ⟨he, rfl⟩
theorem cell_gd (w : World) (n : Nat) (os : Array Obj) (b o : Nat) (h : b < w.heap.size) : (grow (w.drewN n) os).cell? ⟨b, o, none⟩ = w.cell? ⟨b, o, none⟩ := by
  rw [cell?_grow _ _ _ (by exact h)]; rfl
theorem frozen_gd (w : World) (n : Nat) (os : Array Obj) (b o : Nat) (h : b < w.heap.size) : (grow (w.drewN n) os).frozen? ⟨b, o, none⟩ = w.frozen? ⟨b, o, none⟩ := by
  rw [frozen?_grow _ _ _ (by exact h)]; rfl
attribute [go_sem] cell_gd frozen_gd
theorem quiet_gx {P : Program} {f : FuncId} {args : Array Value} {w : World} {n : Nat} {os : Array Obj} {v : Value} (h : Calls P f args (grow (w.drewN n) os) fun e w' => e = .returned v ∧ grow (w.drewN n) os = w') :
    Calls P f args (grow (w.drewN n) os) fun e w'' => e = .returned v ∧ ∃ p : GrownBy, w'' = grow (w.drewN p.n) p.os := h.mono fun _ _ ⟨he, hw⟩ => ⟨he, ⟨n, os⟩, hw.symm⟩
theorem ordA_g (u v : ByteArray) (i j : Int) (w : World) :
    Calls Tryz.prog 108 #[.agg #[.string u, .int .i64 i], .agg #[.string v, .int .i64 j]] w fun e w' => e = .returned (.int .i64 (ordA u i v j)) ∧ Gx w w' := by
  go_enter Tryz.func108, Tryz.ntmps108
  go_wp2
  refine region_head (C := fun w' => ∃ p : GrownBy, w' = grow (((w.alloc _).alloc _).drewN p.n) p.os) 10 (by kernel_rfl) (by kernel_rfl) ⟨⟨1, #[]⟩, by rw [grow_empty]; rfl⟩ ?_
  simp only [List.take_succ_cons, List.take_zero, List.drop_succ_cons, List.drop_zero]
  repeat (quiet_step (first | exact quiet_gx (cmp_int _ _ _) | exact quiet_gx (cmp_str _ _ _)))
  refine wpQuiet_nil ?_
  intro wq hq
  have hb : Gx w wq := by
    obtain ⟨p, rfl⟩ := hq
    exact (((Gx.refl w).alloc (.cells #[.string u, .int .i64 i] 30)).alloc (.cells #[.string v, .int .i64 j] 30)).grown p.n p.os
  clear hq
  go_wp2_with (go_at_call 111; refine (or_two_g _ _ _).mono ?_; rintro e w' ⟨rfl, rfl⟩)
  go_ret
  exact ⟨rfl, hb.alloc _⟩
def encT (x : TA) : List Value := [.string x.1, .int .i64 x.2]
theorem lt_ord (x y : TA) : ltOf ordT x y = ltT x y := ordA_neg _ _ _ _
theorem swo_ord : SWO (ltOf ordT) where
  irrefl x := by rw [lt_ord]; exact ltT_no x
  trans x y z h k := by rw [lt_ord] at *; exact ltT_tr h k
  ntrans x y z h k := by
    rw [lt_ord] at *
    rcases ltT_or h with e | e
    · subst e; exact k
    · rcases ltT_or k with f | f
      · subst f; exact h
      · cases q : ltT x z with
        | false => rfl
        | true => exact (ltT_as (ltT_tr f e) q).elim
theorem sort_w (l : List TA) (cap blk : Nat) (w : World) (hH : HoldsK encT 2 w blk 0 l.toArray) (hblk : blk < w.heap.size) (hl : l.length ≤ 1000) :
    Calls Tryz.prog 107 #[.slice (some ⟨blk, 0, none⟩) l.length cap, .func (.func 108) #[] #[]] w fun e w' => e = .returned (.tuple #[]) ∧ ∃ n os, w' = sortWorldK encT 2 w blk 0 n (srtF l).toArray os := by
  have eg : ∀ args w, (callFunc 108 args).run Tryz.prog w = .ok (.enter 108 args) w := enters_of Tryz.func108 (by kernel_rfl) rfl
  have h := AnyQ.slices_SortFunc_total layQ 2 Tryz.isAgg30 Tryz.sizeOf30 encT (fun _ => rfl) (fun x v hv => by simp [encT] at hv; rcases hv with rfl | rfl <;> rfl) ordT swo_ord 108 #[] blk 0 cap l.toArray w eg
    (fun m os dk _ x y => ordA_g x.1 y.1 x.2 y.2 _) hH hblk (by simp; omega) (fun x y h k => by
      rw [lt_ord] at h k
      rcases ltT_or h with e | e
      · exact e
      · rw [k] at e; cases e)
  have e : (fun x y => !(ltOf ordT) y x) = fun x y => !ltT y x := by funext x y; rw [lt_ord]
  rw [e] at h
  exact h
theorem flat_get : ∀ (l : List TA) (t : Nat), t < l.length * 2 → (l.flatMap encT)[t]? = some ((encT (l[t / 2]!))[t % 2]!)
  | [], t, h => by simp at h
  | x :: r, 0, _ => rfl
  | x :: r, 1, _ => rfl
  | x :: r, t + 2, h => by
    have h1 : (List.flatMap encT (x :: r))[t + 2]? = (r.flatMap encT)[t]? := rfl
    rw [h1, flat_get r t (by simp at h; omega), show (t + 2) / 2 = t / 2 + 1 by omega, show (t + 2) % 2 = t % 2 by omega]
    rfl
theorem flat_len2 : ∀ l : List TA, (l.flatMap encT).length = l.length * 2
  | [] => rfl
  | x :: r => by
    have : (List.flatMap encT (x :: r)).length = (r.flatMap encT).length + 2 := rfl
    rw [this, flat_len2 r]; simp; omega
theorem flat_arr (l : List TA) : Go.Sort.flatK encT 2 l.toArray = (l.flatMap encT).toArray := by
  apply Array.ext_getElem?
  intro t
  by_cases h : t < l.length * 2
  · have h1 : t < (Go.Sort.flatK encT 2 l.toArray).size := by simpa using h
    rw [Array.getElem?_eq_getElem h1, ← getElem!_pos _ t h1, get_flatK _ _ _ _ (by simpa using h), List.getElem?_toArray, flat_get l t h]
    simp
  · rw [Array.getElem?_eq_none (by simp; omega), Array.getElem?_eq_none (by simp only [List.size_toArray, flat_len2]; omega)]
theorem rows_vals : ∀ l : List TA, (l.map rT).flatten = (l.flatMap encT).map D.v
  | [] => rfl
  | x :: r => by
    rw [List.map_cons, List.flatten_cons, rows_vals r]; rfl
theorem vd_v {H : Nat → Prop} {w : World} {c x : Value} (h : VD H w (D.v c) x) : x = c := by
  cases h; rfl
theorem vds_vals {H : Nat → Prop} {w : World} {cs xs : List Value} (h : VDs H w (cs.map D.v) xs) : xs = cs := by
  apply List.ext_getElem?
  intro i
  have hl := h.1
  rw [List.length_map] at hl
  by_cases hi : i < cs.length
  · have h1 := h.2 i (D.v cs[i]) (xs[i]'(by omega)) (by simp [hi]) (by simp)
    rw [List.getElem?_eq_getElem hi, List.getElem?_eq_getElem (show i < xs.length by omega)]
    exact congrArg some (vd_v h1)
  · rw [List.getElem?_eq_none (by omega), List.getElem?_eq_none (by omega)]
theorem vds_of {H : Nat → Prop} {w : World} (cs : List Value) : VDs H w (cs.map D.v) cs := by
  refine ⟨by simp, fun i c v hc hv => ?_⟩
  simp only [List.getElem?_map, hv, Option.map_some] at hc
  obtain rfl := Option.some.inj hc
  exact .v _
theorem one_flat {l : List TA} : ∀ u ∈ l.flatMap encT, u.oneCell' = true := by
  intro u hu
  rw [List.mem_flatMap] at hu
  obtain ⟨x, _, hx⟩ := hu
  simp [encT] at hx
  rcases hx with rfl | rfl <;> rfl
theorem rows_two (l : List TA) : ∀ r ∈ l.map rT, r.length = 2 := by
  intro r hr
  rw [List.mem_map] at hr
  obtain ⟨x, _, rfl⟩ := hr
  rfl
theorem sortX_pm (l : List TA) (hl : l.length ≤ 1000) : FnM Tryz.prog 107 [(60, .arr 30 2 (l.map rT))] [.own 60, .clo 108 []] (.tup []) [(60, .arr 30 2 ((srtF l).map rT))] := by
  intro H0 μ w vs hlen hI
  obtain ⟨v1, v2, rfl⟩ : ∃ v1 v2, vs = [v1, v2] := by
    match vs, hlen with
    | [a, b], _ => exact ⟨a, b, rfl⟩
  have h1 := hI.tm 0 _ rfl
  have h2 := hI.tm 1 _ rfl
  obtain ⟨v, xs, hμ, ⟨hx1, hx2⟩, _, hd, _⟩ := hI.ob 60 _ rfl
  rw [rows_vals] at hd
  obtain rfl := vds_vals hd
  change VR _ _ _ _ v1 at h1
  change VR _ _ _ _ v2 at h2
  obtain ⟨a, n, cap, rfl, h3⟩ : ∃ a n cap, v1 = .slice a n cap ∧ μ 60 = some (.slice a n cap) := by
    cases h1 with
    | own h => exact ⟨_, _, _, rfl, h⟩
  obtain rfl : v = .slice a n cap := Option.some.inj (hμ.symm.trans h3)
  obtain rfl : v2 = .func (.func 108) #[] #[] := by
    cases h2 with
    | clo hl2 _ =>
      rw [List.length_eq_zero_iff.1 hl2.symm]
  rw [List.length_map] at hx2
  have done : ∀ w', InvM ⟨w, Hot μ (lk [(60, AO.arr 30 2 (l.map rT))]), H0, 2, μ⟩ μ (lk (argT 0 [.own 60, .clo 108 []])) (lk [(60, AO.arr 30 2 ((srtF l).map rT))]) ⟨#[.slice a n cap, .func (.func 108) #[] #[]], []⟩ w' →
      ∃ v μ', Ending.returned (.tuple #[]) = Ending.returned v ∧ InvM ⟨w, Hot μ (lk [(60, AO.arr 30 2 (l.map rT))]), H0, 1, μ⟩ μ' (lk [(0, .tup [])]) (lk [(60, AO.arr 30 2 ((srtF l).map rT))]) ⟨#[v], []⟩ w' := by
    intro w' h
    refine ⟨_, μ, rfl, fun t x ht => ?_, h.ob, h.inj, h.lo, h.fr, h.free, h.hs, h.base, rfl, rfl⟩
    simp only [lk] at ht
    split at ht
    · rename_i hb
      have := Nat.eq_of_beq_eq_true hb
      subst this
      obtain rfl := Option.some.inj ht
      exact .tup (vs := []) rfl (fun i c v hc _ => by simp at hc)
    · cases ht
  rcases Nat.eq_zero_or_pos l.length with h0 | h0
  · obtain rfl : l = [] := List.length_eq_zero_iff.1 h0
    obtain rfl : n = 0 := by
      rcases hx2 with ⟨h, _⟩ | ⟨g, c, cur, h, _⟩
      · injection h with _ h _
      · injection h with _ h _
    have h := AnyF.slices_SortFunc_none layQ a cap (.func (.func 108) #[] #[]) w
    refine Calls.mono h ?_
    rintro e w' ⟨rfl, rfl⟩
    have e0 : srtF [] = [] := List.length_eq_zero_iff.1 (srt_len [])
    rw [e0] at done ⊢
    exact done _ hI
  · rcases hx2 with ⟨_, h⟩ | ⟨g, c, cur, h, _, hg, hc1, hc2, hc3, hc4⟩
    · omega
    injection h with e1 e2 e3
    subst e1 e2 e3
    have hgl : g < w.heap.size := (Array.getElem?_eq_some_iff.1 hg).1
    have hcell : ∀ t, t < l.length * 2 → cur[t]? = (l.flatMap encT)[t]? := by
      intro t ht
      rw [← hc4, List.getElem?_take_of_lt ht, Array.getElem?_toList]
    have hH : HoldsK encT 2 w g 0 l.toArray := by
      intro t ht
      rw [size_flatK, List.size_toArray] at ht
      constructor
      · simp only [World.cell?, hg, Nat.zero_add]
        rw [get_flatK _ _ _ _ (by simpa using ht)]
        simp only [Option.isSome_none, Bool.false_eq_true, if_false]
        rw [hcell t ht, flat_get l t ht]
        simp
      · simp [World.frozen?, hg]
    refine Calls.mono (sort_w l cap g w hH hgl hl) ?_
    rintro e w' ⟨rfl, q, os, rfl⟩
    have hsz : (srtF l).length = l.length := srt_len l
    have hF : (Go.Sort.flatK encT 2 (srtF l).toArray).size = l.length * 2 := by simp [hsz]
    have hch : Chg (fun k => k = g) w (sortWorldK encT 2 w g 0 q (srtF l).toArray os) := by
      refine ⟨rfl, rfl, rfl, ?_, fun k hk hne => ?_⟩
      · simp [sortWorldK, grow, putRowK, putRow, mapBlock, ahead]
      · simp only [sortWorldK, grow, putRowK, putRow, mapBlock, ahead]
        rw [Array.getElem?_append_left (by simpa using hk), Array.getElem?_modify, if_neg (fun h => hne h.symm)]; rfl
    have hnew : (sortWorldK encT 2 w g 0 q (srtF l).toArray os).heap[g]? = some (.cells (putCells id 0 (Go.Sort.flatK encT 2 (srtF l).toArray) cur) 30 (0, 0)) := by
      simp only [sortWorldK, grow, putRowK, putRow, mapBlock, ahead]
      rw [Array.getElem?_append_left (by simpa using hgl), Array.getElem?_modify, if_pos rfl]
      show Option.map _ w.heap[g]? = _
      rw [hg]; rfl
    have hsize : (putCells id 0 (Go.Sort.flatK encT 2 (srtF l).toArray) cur).size = cur.size := by simp [putCells]
    have htake : (putCells id 0 (Go.Sort.flatK encT 2 (srtF l).toArray) cur).toList.take (l.length * 2) = (srtF l).flatMap encT := by
      apply List.ext_getElem?
      intro t
      by_cases ht : t < l.length * 2
      · rw [List.getElem?_take_of_lt ht, Array.getElem?_toList, putCells, Array.getElem?_mapIdx, hcell t ht, flat_get l t ht, flat_get _ t (by rw [hsz]; exact ht)]
        simp only [Option.map_some, hF, Nat.zero_le, true_and, Nat.zero_add, if_pos ht, Nat.sub_zero, id]
        rw [get_flatK _ _ _ _ (by simpa [hsz] using ht)]
        simp
      · rw [List.getElem?_eq_none (by rw [List.length_take]; omega), List.getElem?_eq_none (by rw [flat_len2, hsz]; omega)]
    generalize putCells id 0 (Go.Sort.flatK encT 2 (srtF l).toArray) cur = cur' at *
    generalize sortWorldK encT 2 w g 0 q (srtF l).toArray os = w' at *
    have hrl : ((srtF l).map rT).length = l.length := by rw [List.length_map, hsz]
    have hw := hI.write (g := 60) (o := .arr 30 2 (l.map rT)) (o' := .arr 30 2 ((srtF l).map rT)) rfl rfl rfl hμ rfl hch (fun H' _ _ => by
      refine ⟨_, (srtF l).flatMap encT, hμ, ⟨by rw [flat_len2, List.length_map], .inr ⟨g, cap, cur', by rw [hrl], Nat.zero_le _, hnew, by rw [hrl]; exact hc1, hc2, by rw [hsize]; exact hc3, by rw [hrl]; exact htake⟩⟩, rows_two _, by rw [rows_vals]; exact vds_of _, one_flat⟩)
    have e : upM (lk [(60, AO.arr 30 2 (l.map rT))]) [(60, AO.arr 30 2 ((srtF l).map rT))] = lk [(60, .arr 30 2 ((srtF l).map rT))] := by
      funext k
      by_cases hk : k = 60
      · subst hk; rw [upM_one_self]; rfl
      · rw [upM_one_other _ hk]
        have : Nat.beq 60 k = false := by
          cases hb : Nat.beq 60 k with
          | false => rfl
          | true => exact absurd (Nat.eq_of_beq_eq_true hb).symm hk
        simp [lk, this]
    rw [e] at hw
    exact done _ hw
end Go.Proofs.YtgebgpdoddjfhaaGreat

/- Contract of slices.Compact at assets. -/
namespace Go.Proofs.YtgebgpdoddjfhaaGreat
set_option linter.unusedSimpArgs false
set_option linter.unusedVariables false
set_option linter.unnecessarySimpa false
set_option linter.unusedSectionVars false
set_option maxRecDepth 100000
open Go Go.RowKit Go.Am Go.Proofs.Grow

theorem ddF_short {l : List TA} (h : l.length < 2) : ddF l = l := by
  rcases l with _ | ⟨x, _ | ⟨y, r⟩⟩
  · rfl
  · rfl
  · simp at h; omega
theorem ddN_one {l : List TA} (h : 1 ≤ l.length) : ddN l 1 = l.take 1 := by
  rcases l with _ | ⟨x, r⟩
  · simp at h
  · rfl
theorem take_next {l : List TA} {k : Nat} (h : k < l.length) : l.take (k + 1) = l.take k ++ [nth l k] := by
  rw [List.take_add_one, List.getElem?_eq_getElem h, nth_getElem _ _ h]; rfl
theorem ddN_next (l : List TA) {k : Nat} (h : 1 ≤ k) : ddN l (k + 1) = if eqT (nth l k).1 (nth l k).2 (nth l (k - 1)).1 (nth l (k - 1)).2 = true then ddN l k else ddN l k ++ [nth l k] := by
  obtain ⟨m, rfl⟩ : ∃ m, k = m + 1 := ⟨k - 1, by omega⟩
  rfl
theorem cutT {A : List TA} {R S : List (List D)} {j : Nat} (h : j ≤ A.length) : ((A.map rT).take j ++ R ++ S).take j = (A.take j).map rT := by
  rw [List.append_assoc, List.take_left' (by simp; omega), List.map_take]
set_option maxHeartbeats 4000000 in
theorem comp_pm (l : List TA) (hl : l.length ≤ 1000) : FnM Tryz.prog 109 [(60, .arr 30 2 (l.map rT))] [.own 60] (.own 61) [(61, .arr 30 2 ((ddF l).map rT)), (60, .dead)] := by
  refine FnM.of htb Tryz.func109 rfl rfl rfl rfl rfl fun cx hN h0 => ?_
  by_cases h2 : l.length < 2
  · have d1 : decide ((l.length : Int) < 2) = true := by simp only [decide_eq_true_eq]; omega
    rw [ddF_short h2]
    (repeat' (first | (refine nx ?_) | (refine WD_unk (by exact rfl) ?_; ((refine WD_tf (by exact rfl) (by exact rfl) ?_ ?_) <;> (intro hb; (fail_if_success (with_reducible injection hb)); rw [hb]; (try simp only [List.length_map] at hb)))) | ((with_reducible apply WD_id); first | (refine WD_cut htb ?_) | (refine WD_cut3 htb ?_) | (refine WD_lens htb ?_) | (refine WD_caps htb ?_) | (refine WD_cps htb ?_) | (refine WD_cpp htb ?_) | (refine WD_api htb ?_) | (refine WD_apz htb ?_) | (refine WD_clr htb ?_) | (refine WD_ixs htb ?_)) | ((refine WD_tf (by exact rfl) (by exact rfl) ?_ ?_) <;> (intro hb; (fail_if_success (with_reducible injection hb)); rw [hb]; (try simp only [List.length_map] at hb))) | (((with_reducible apply gC2); exact rfl) <;> (intro hb; rw [hb]))))
    exact glV [(2, .own 61)] [(61, .arr 30 2 (l.map rT)), (60, .dead)] (Le.trans (Le_own 2 61 rfl rfl rfl) (LeV []))
  have d1 : decide ((l.length : Int) < 2) = false := by simp only [decide_eq_false_iff_not]; omega
  (repeat' (first | (refine nx ?_) | (refine WD_unk (by exact rfl) ?_; ((refine WD_tf (by exact rfl) (by exact rfl) ?_ ?_) <;> (intro hb; (fail_if_success (with_reducible injection hb)); rw [hb]; (try simp only [List.length_map] at hb)))) | ((with_reducible apply WD_id); first | (refine WD_cut htb ?_) | (refine WD_cut3 htb ?_) | (refine WD_lens htb ?_) | (refine WD_caps htb ?_) | (refine WD_cps htb ?_) | (refine WD_cpp htb ?_) | (refine WD_api htb ?_) | (refine WD_apz htb ?_) | (refine WD_clr htb ?_) | (refine WD_ixs htb ?_)) | ((refine WD_tf (by exact rfl) (by exact rfl) ?_ ?_) <;> (intro hb; (fail_if_success (with_reducible injection hb)); rw [hb]; (try simp only [List.length_map] at hb))) | (((with_reducible apply gC2); exact rfl) <;> (intro hb; rw [hb]))))
  (refine WA_anyV (α := Nat) (fun x => l.length - x) (1) [3] [] (fun x => [(3, vI x)]) (fun x => []) (fun x => 1 ≤ x ∧ x ≤ l.length ∧ ddN l x = l.take x) ?h0 ?_)
  case h0 => exact ⟨by omega, by omega, ddN_one (by omega)⟩
  rintro k ⟨k1, k2, k3⟩
  by_cases hk : k < l.length
  case neg =>
    have d2 : decide ((k : Int) < (l.length : Int)) = false := by simp only [decide_eq_false_iff_not]; omega
    have e : ddF l = l := by
      obtain rfl : k = l.length := by omega
      unfold ddF; rw [k3, List.take_length]
    rw [e]
    (repeat' (first | (refine nx ?_) | (refine WD_unk (by exact rfl) ?_; ((refine WD_tf (by exact rfl) (by exact rfl) ?_ ?_) <;> (intro hb; (fail_if_success (with_reducible injection hb)); rw [hb]; (try simp only [List.length_map] at hb)))) | ((with_reducible apply WD_id); first | (refine WD_cut htb ?_) | (refine WD_cut3 htb ?_) | (refine WD_lens htb ?_) | (refine WD_caps htb ?_) | (refine WD_cps htb ?_) | (refine WD_cpp htb ?_) | (refine WD_api htb ?_) | (refine WD_apz htb ?_) | (refine WD_clr htb ?_) | (refine WD_ixs htb ?_)) | ((refine WD_tf (by exact rfl) (by exact rfl) ?_ ?_) <;> (intro hb; (fail_if_success (with_reducible injection hb)); rw [hb]; (try simp only [List.length_map] at hb))) | (((with_reducible apply gC2); exact rfl) <;> (intro hb; rw [hb]))))
    exact glV [(2, .own 61)] [(61, .arr 30 2 (l.map rT)), (60, .dead)] (Le.trans (Le_own 2 61 rfl rfl rfl) (LeV []))
  have d2 : decide ((k : Int) < (l.length : Int)) = true := by simp only [decide_eq_true_eq]; omega
  have e : ((k : Int) - 1).toNat = k - 1 := by omega
  cases he : eqT (nth l k).1 (nth l k).2 (nth l (k - 1)).1 (nth l (k - 1)).2 with
  | false =>
    have he' : eqT (nth l k).1 (nth l k).2 (nth l ((k : Int) - 1).toNat).1 (nth l ((k : Int) - 1).toNat).2 = false := by rw [e]; exact he
    (repeat' (first | ((with_reducible apply WD_id); first | (refine WD_eq (eqT_step rfl rfl rfl) ?_)) | (refine nx ?_) | (refine WD_unk (by exact rfl) ?_; ((refine WD_tf (by exact rfl) (by exact rfl) ?_ ?_) <;> (intro hb; (fail_if_success (with_reducible injection hb)); rw [hb]; (try simp only [List.length_map] at hb)))) | ((with_reducible apply WD_id); first | (refine WD_cut htb ?_) | (refine WD_cut3 htb ?_) | (refine WD_lens htb ?_) | (refine WD_caps htb ?_) | (refine WD_cps htb ?_) | (refine WD_cpp htb ?_) | (refine WD_api htb ?_) | (refine WD_apz htb ?_) | (refine WD_clr htb ?_) | (refine WD_ixs htb ?_)) | ((refine WD_tf (by exact rfl) (by exact rfl) ?_ ?_) <;> (intro hb; (fail_if_success (with_reducible injection hb)); rw [hb]; (try simp only [List.length_map] at hb))) | (((with_reducible apply gC2); exact rfl) <;> (intro hb; rw [hb]))))
    refine ⟨k + 1, by omega, ⟨by omega, by omega, by rw [ddN_next l k1, if_neg (by simp [he]), k3, take_next hk]⟩, ?_⟩
    (exact LeV [])
  | true =>
    have he' : eqT (nth l k).1 (nth l k).2 (nth l ((k : Int) - 1).toNat).1 (nth l ((k : Int) - 1).toNat).2 = true := by rw [e]; exact he
    (repeat' (first | ((with_reducible apply WD_id); first | (refine WD_eq (eqT_step rfl rfl rfl) ?_)) | (refine nx ?_) | (refine WD_unk (by exact rfl) ?_; ((refine WD_tf (by exact rfl) (by exact rfl) ?_ ?_) <;> (intro hb; (fail_if_success (with_reducible injection hb)); rw [hb]; (try simp only [List.length_map] at hb)))) | ((with_reducible apply WD_id); first | (refine WD_cut htb ?_) | (refine WD_cut3 htb ?_) | (refine WD_lens htb ?_) | (refine WD_caps htb ?_) | (refine WD_cps htb ?_) | (refine WD_cpp htb ?_) | (refine WD_api htb ?_) | (refine WD_apz htb ?_) | (refine WD_clr htb ?_) | (refine WD_ixs htb ?_)) | ((refine WD_tf (by exact rfl) (by exact rfl) ?_ ?_) <;> (intro hb; (fail_if_success (with_reducible injection hb)); rw [hb]; (try simp only [List.length_map] at hb))) | (((with_reducible apply gC2); exact rfl) <;> (intro hb; rw [hb]))))
    (refine WA_anyV (α := Nat × Nat × List TA) (fun x => l.length - k - x.1) ((1, k, l)) [5, 3] [60] (fun x => [(5, vI x.1), (3, vI x.2.1)]) (fun x => [(60, .arr 30 2 (x.2.2.map rT))]) (fun x => (1 ≤ x.1 ∧ k + x.1 ≤ l.length ∧ x.2.2.length = l.length ∧ x.2.1 < k + x.1) ∧ x.2.2.take x.2.1 = ddN l (k + x.1) ∧ ∀ p, k + x.1 ≤ p + 1 → p < l.length → nth x.2.2 p = nth l p) ?h0 ?_)
    case h0 => exact ⟨⟨by simp, by show k + 1 ≤ l.length; omega, rfl, by simp⟩, by dsimp only; rw [ddN_next l k1, if_pos he, k3], fun p _ _ => rfl⟩
    rintro ⟨q, j, A⟩ ⟨⟨q1, q2, q3, q4⟩, q5, q6⟩
    dsimp only at q1 q2 q3 q4 q5 q6
    by_cases hq : k + q < l.length
    case neg =>
      have d3 : decide ((q : Int) < ((l.length - k : Nat) : Int)) = false := by simp only [decide_eq_false_iff_not]; omega
      have eq : k + q = l.length := by omega
      have hA : ddF l = A.take j := by unfold ddF; rw [q5, eq]
      rw [hA]
      refine WA_room 0 rfl rfl fun qq hq1 hq2 => ?_
      rw [List.length_map] at hq1
      dsimp only at hq1
      (repeat' (first | (refine nx ?_) | (refine WD_unk (by exact rfl) ?_; ((refine WD_tf (by exact rfl) (by exact rfl) ?_ ?_) <;> (intro hb; (fail_if_success (with_reducible injection hb)); rw [hb]; (try simp only [List.length_map] at hb)))) | ((with_reducible apply WD_id); first | (refine WD_cut htb ?_) | (refine WD_cut3 htb ?_) | (refine WD_lens htb ?_) | (refine WD_caps htb ?_) | (refine WD_cps htb ?_) | (refine WD_cpp htb ?_) | (refine WD_api htb ?_) | (refine WD_apz htb ?_) | (refine WD_clr htb ?_) | (refine WD_ixs htb ?_)) | ((refine WD_tf (by exact rfl) (by exact rfl) ?_ ?_) <;> (intro hb; (fail_if_success (with_reducible injection hb)); rw [hb]; (try simp only [List.length_map] at hb))) | (((with_reducible apply gC2); exact rfl) <;> (intro hb; rw [hb]))))
      simp only [Nat.zero_add, Nat.sub_zero, List.drop_zero, Option.map_some]
      exact glV [(2, .own 61)] [(61, .arr 30 2 ((A.take j).map rT)), (60, .dead)] (Le.trans (Le_hide 2 61 rfl rfl (by simp only [List.length_append, List.length_take, List.length_drop, List.length_replicate, List.length_map]; omega) (show 0 < qq by omega) rfl)
        (LeV [] (hM := ⟨⟨_, rfl, rfl, rfl, cutT (by omega)⟩, ⟨_, rfl, trivial⟩, trivial⟩)))
    have d3 : decide ((q : Int) < ((l.length - k : Nat) : Int)) = true := by simp only [decide_eq_true_eq]; omega
    have e1 : nth A (0 + k + q) = nth l (k + q) := by rw [Nat.zero_add]; exact q6 _ (by omega) hq
    have e2 : nth A (0 + k + ((q : Int) - 1).toNat) = nth l (k + q - 1) := by
      rw [show 0 + k + ((q : Int) - 1).toNat = k + q - 1 by omega]; exact q6 _ (by omega) (by omega)
    have hn := ddN_next l (k := k + q) (by omega)
    cases hb : eqT (nth l (k + q)).1 (nth l (k + q)).2 (nth l (k + q - 1)).1 (nth l (k + q - 1)).2 with
    | true =>
      have hb' : (!eqT (nth A (0 + k + q)).1 (nth A (0 + k + q)).2 (nth A (0 + k + ((q : Int) - 1).toNat)).1 (nth A (0 + k + ((q : Int) - 1).toNat)).2) = false := by rw [e1, e2, hb]; rfl
      rw [if_pos hb] at hn
      (repeat' (first | ((with_reducible apply WD_id); first | (refine WD_eq (neT_step rfl rfl rfl) ?_)) | (refine nx ?_) | (refine WD_unk (by exact rfl) ?_; ((refine WD_tf (by exact rfl) (by exact rfl) ?_ ?_) <;> (intro hb; (fail_if_success (with_reducible injection hb)); rw [hb]; (try simp only [List.length_map] at hb)))) | ((with_reducible apply WD_id); first | (refine WD_cut htb ?_) | (refine WD_cut3 htb ?_) | (refine WD_lens htb ?_) | (refine WD_caps htb ?_) | (refine WD_cps htb ?_) | (refine WD_cpp htb ?_) | (refine WD_api htb ?_) | (refine WD_apz htb ?_) | (refine WD_clr htb ?_) | (refine WD_ixs htb ?_)) | ((refine WD_tf (by exact rfl) (by exact rfl) ?_ ?_) <;> (intro hb; (fail_if_success (with_reducible injection hb)); rw [hb]; (try simp only [List.length_map] at hb))) | (((with_reducible apply gC2); exact rfl) <;> (intro hb; rw [hb]))))
      refine ⟨(q + 1, j, A), by dsimp only; omega, ⟨⟨by dsimp only; omega, by dsimp only; omega, q3, by dsimp only; omega⟩, by dsimp only; rw [q5]; exact hn.symm, fun p hp1 hp2 => q6 p (by dsimp only at hp1; omega) hp2⟩, ?_⟩
      (exact LeV [])
    | false =>
      have hb' : (!eqT (nth A (0 + k + q)).1 (nth A (0 + k + q)).2 (nth A (0 + k + ((q : Int) - 1).toNat)).1 (nth A (0 + k + ((q : Int) - 1).toNat)).2) = true := by rw [e1, e2, hb]; rfl
      rw [if_neg (by simp [hb])] at hn
      have hrow : (A.map rT).set j [dS (nth A (0 + k + q)).1, dI (nth A (0 + k + q)).2] = (A.set j (nth A (0 + k + q))).map rT := by rw [List.map_set]; rfl
      (repeat' (first | ((with_reducible apply WD_id); first | (refine WD_eq (neT_step rfl rfl rfl) ?_)) | (refine nx ?_) | (refine WD_unk (by exact rfl) ?_; ((refine WD_tf (by exact rfl) (by exact rfl) ?_ ?_) <;> (intro hb; (fail_if_success (with_reducible injection hb)); rw [hb]; (try simp only [List.length_map] at hb)))) | ((with_reducible apply WD_id); first | (refine WD_cut htb ?_) | (refine WD_cut3 htb ?_) | (refine WD_lens htb ?_) | (refine WD_caps htb ?_) | (refine WD_cps htb ?_) | (refine WD_cpp htb ?_) | (refine WD_api htb ?_) | (refine WD_apz htb ?_) | (refine WD_clr htb ?_) | (refine WD_ixs htb ?_)) | ((refine WD_tf (by exact rfl) (by exact rfl) ?_ ?_) <;> (intro hb; (fail_if_success (with_reducible injection hb)); rw [hb]; (try simp only [List.length_map] at hb))) | (((with_reducible apply gC2); exact rfl) <;> (intro hb; rw [hb]))))
      refine ⟨(q + 1, j + 1, A.set j (nth A (0 + k + q))), by dsimp only; omega, ⟨⟨by dsimp only; omega, by dsimp only; omega, by simpa using q3, by dsimp only; omega⟩, ?_, fun p hp1 hp2 => ?_⟩, ?_⟩
      · dsimp only
        rw [← Nat.add_assoc, hn, ← q5, e1, take_next (by rw [List.length_set]; omega), List.take_set_of_le (by omega), nth_set _ _ _ _ (by omega), if_pos rfl]
      · dsimp only at hp1 ⊢
        rw [nth_set _ _ _ _ (by omega), if_neg (by omega)]
        exact q6 p (by omega) hp2
      (exact LeV [])
end Go.Proofs.YtgebgpdoddjfhaaGreat

/- Contracts of paths.known, candidates and Best at any small ledger; of the reference's Assets and Best. -/
namespace Go.Proofs.YtgebgpdoddjfhaaGreat
set_option linter.unusedSimpArgs false
set_option linter.unusedVariables false
set_option linter.unnecessarySimpa false
set_option linter.unusedSectionVars false
set_option maxRecDepth 100000
open Go Go.RowKit Go.Am Go.Proofs.Grow

theorem assets_16 {g : Led} (ho : g.offs.length ≤ 8) : (assetsF g.offs).length ≤ 16 := by
  have := assets_len g.offs g.offs.length
  rw [List.take_length] at this
  omega
theorem cand2_16 (all : List TA) (k m : Nat) (h : all.length ≤ 16) : (cand2 all k m).length ≤ 289 := by
  have h1 := cand1_len all all.length
  have h2 : (all.take k).length ≤ 16 := by rw [List.length_take]; omega
  have h3 : ((all.take k).flatMap fun a => all.map fun b => [a, b]).length ≤ 256 := by
    rw [flat_len]; exact Nat.le_trans (Nat.mul_le_mul h2 h) (by decide)
  simp only [cand2, List.length_append, List.length_map, List.length_take]
  omega
theorem prs_next {l : List Off} {k : Nat} (h : k < l.length) : prsF (l.take (k + 1)) = prsF (l.take k) ++ [((nth l k).sc, (nth l k).si), ((nth l k).bc, (nth l k).bi)] := by
  unfold prsF
  rw [List.take_add_one, List.getElem?_eq_getElem h, nth_getElem _ _ h]
  simp only [List.flatMap_append, Option.toList_some, List.flatMap_cons, List.flatMap_nil, List.append_nil]
set_option maxHeartbeats 2000000 in
theorem knownX_pm (g : Led) (ho : g.offs.length ≤ 8) : FnM Tryz.prog 82 [] [aG g] (lT (assetsF g.offs)) [] := by
  refine FnM.of htb Tryz.func82 rfl rfl rfl rfl rfl fun cx hN h0 => ?_
  (repeat' (first | (refine nx ?_) | (refine WD_unk (by exact rfl) ?_; ((refine WD_tf (by exact rfl) (by exact rfl) ?_ ?_) <;> (intro hb; (fail_if_success (with_reducible injection hb)); rw [hb]; (try simp only [List.length_map] at hb)))) | ((refine WD_tf (by exact rfl) (by exact rfl) ?_ ?_) <;> (intro hb; (fail_if_success (with_reducible injection hb)); rw [hb]; (try simp only [List.length_map] at hb))) | (((with_reducible apply gC2); exact rfl) <;> (intro hb; rw [hb]))))
  refine WA_le (Le_nilT 60 3 30 2 rfl rfl) ?_
  (refine WA_forV (g.offs.length) [9, 3] [60] (fun k => [(9, vI k), (3, .own 60)]) (fun k => [(60, .arr 30 2 ((prsF (g.offs.take k)).map rT))]) (fun k => True) ?h0 ?_)
  case h0 => trivial
  intro k hk _
  have hln := prsF_len (g.offs.take k)
  have htl : (g.offs.take k).length ≤ 8 := by rw [List.length_take]; omega
  by_cases hk2 : k < g.offs.length
  · have d1 : decide ((k : Int) < (g.offs.length : Int)) = true := by simp only [decide_eq_true_eq]; omega
    have hrow : (prsF (g.offs.take k)).map rT ++ [[dS (nth g.offs k).sc, dI (nth g.offs k).si], [dS (nth g.offs k).bc, dI (nth g.offs k).bi]] = (prsF (g.offs.take (k + 1))).map rT := by rw [prs_next hk2]; simp [rT]
    (repeat' (first | (refine nx ?_) | (refine WD_unk (by exact rfl) ?_; ((refine WD_tf (by exact rfl) (by exact rfl) ?_ ?_) <;> (intro hb; (fail_if_success (with_reducible injection hb)); rw [hb]; (try simp only [List.length_map] at hb)))) | ((refine WD_tf (by exact rfl) (by exact rfl) ?_ ?_) <;> (intro hb; (fail_if_success (with_reducible injection hb)); rw [hb]; (try simp only [List.length_map] at hb))) | (((with_reducible apply gC2); exact rfl) <;> (intro hb; rw [hb]))))
    refine ⟨hk2, trivial, ?_⟩
    (exact LeV [(60, 19)])
  · have d1 : decide ((k : Int) < (g.offs.length : Int)) = false := by simp only [decide_eq_false_iff_not]; omega
    obtain rfl : k = g.offs.length := by omega
    rw [List.take_length] at *
    have hs3 : (srtF (prsF g.offs)).length ≤ 1000 := by rw [srt_len]; omega
    rw [← srt_assets]
    (repeat' (first | (refine nx ?_) | (refine WD_unk (by exact rfl) ?_; ((refine WD_tf (by exact rfl) (by exact rfl) ?_ ?_) <;> (intro hb; (fail_if_success (with_reducible injection hb)); rw [hb]; (try simp only [List.length_map] at hb)))) | (refine WD_call (by exact rfl) ?_; first | (refine WD_cM (sortX_pm (l := prsF g.offs) ?_) ?_; (exact hyp)) | (refine WD_cM (comp_pm (l := srtF (prsF g.offs)) ?_) ?_; (exact hyp))) | ((refine WD_tf (by exact rfl) (by exact rfl) ?_ ?_) <;> (intro hb; (fail_if_success (with_reducible injection hb)); rw [hb]; (try simp only [List.length_map] at hb))) | (((with_reducible apply gC2); exact rfl) <;> (intro hb; rw [hb]))))
    (exact glV [(2, lT (ddF (srtF (prsF g.offs))))] [] (LeV []))
abbrev rP (p : List TA) : List D := [.rows 2 (p.map rT)]
abbrev lP (l : List (List TA)) : AV := .d (.rows 1 (l.map rP))
set_option maxHeartbeats 4000000 in
theorem candX_pm (g : Led) (ho : g.offs.length ≤ 8) : FnM Tryz.prog 54 [] [aG g] (lP (candF (assetsF g.offs))) [] := by
  refine FnM.of htb Tryz.func54 rfl rfl rfl rfl rfl fun cx hN h0 => ?_
  (repeat' (first | (refine WD_bso htb ?_) | (refine nx ?_) | (refine WD_unk (by exact rfl) ?_; ((refine WD_tf (by exact rfl) (by exact rfl) ?_ ?_) <;> (intro hb; (fail_if_success (with_reducible injection hb)); rw [hb]; (try simp only [List.length_map] at hb)))) | (refine WD_call (by exact rfl) ?_; first | (refine WD_c0 (knownX_pm _ ?_) ?_; (exact hyp))) | ((refine WD_tf (by exact rfl) (by exact rfl) ?_ ?_) <;> (intro hb; (fail_if_success (with_reducible injection hb)); rw [hb]; (try simp only [List.length_map] at hb))) | (((with_reducible apply gC2); exact rfl) <;> (intro hb; rw [hb]))))
  have hkl2 := assets_16 ho
  generalize assetsF g.offs = all at *
  refine WA_le (Le_nilrow 11 2 rfl) ?_
  (refine WA_forV (all.length) [16, 3, 11] [11] (fun k => [(16, vI k), (3, .own 11)]) (fun k => [(11, .arr 31 1 ((cand1 all k).map rP))]) (fun k => True) ?h0 ?_)
  case h0 => trivial
  intro k hk _
  have hln := cand1_len all k
  by_cases hk2 : k < all.length
  · have d1 : decide ((k : Int) < (all.length : Int)) = true := by simp only [decide_eq_true_eq]; omega
    have hrow : (cand1 all k).map rP ++ [[.rows 2 [[dS (nth all k).1, dI (nth all k).2]]]] = (cand1 all (k + 1)).map rP := by rw [cand1_next hk2]; simp [rP, rT]
    (repeat' (first | (refine nx ?_) | (refine WD_unk (by exact rfl) ?_; ((refine WD_tf (by exact rfl) (by exact rfl) ?_ ?_) <;> (intro hb; (fail_if_success (with_reducible injection hb)); rw [hb]; (try simp only [List.length_map] at hb)))) | ((refine WD_tf (by exact rfl) (by exact rfl) ?_ ?_) <;> (intro hb; (fail_if_success (with_reducible injection hb)); rw [hb]; (try simp only [List.length_map] at hb))) | (((with_reducible apply gC2); exact rfl) <;> (intro hb; rw [hb]))))
    refine ⟨hk2, trivial, ?_⟩
    (exact LeV [(11, 24)])
  have d1 : decide ((k : Int) < (all.length : Int)) = false := by simp only [decide_eq_false_iff_not]; omega
  obtain rfl : k = all.length := by omega
  rw [show cand1 all all.length = cand2 all 0 0 by simp [cand2]]
  clear hln
  (repeat' (first | (refine nx ?_) | (refine WD_unk (by exact rfl) ?_; ((refine WD_tf (by exact rfl) (by exact rfl) ?_ ?_) <;> (intro hb; (fail_if_success (with_reducible injection hb)); rw [hb]; (try simp only [List.length_map] at hb)))) | ((refine WD_tf (by exact rfl) (by exact rfl) ?_ ?_) <;> (intro hb; (fail_if_success (with_reducible injection hb)); rw [hb]; (try simp only [List.length_map] at hb))) | (((with_reducible apply gC2); exact rfl) <;> (intro hb; rw [hb]))))
  (refine WA_forV (all.length) [28, 3] [11] (fun k => [(28, vI k), (3, .own 11)]) (fun k => [(11, .arr 31 1 ((cand2 all k 0).map rP))]) (fun k => True) ?h0 ?_)
  case h0 => trivial
  intro i hi _
  by_cases hi2 : i < all.length
  · have d2 : decide ((i : Int) < (all.length : Int)) = true := by simp only [decide_eq_true_eq]; omega
    (repeat' (first | (refine nx ?_) | (refine WD_unk (by exact rfl) ?_; ((refine WD_tf (by exact rfl) (by exact rfl) ?_ ?_) <;> (intro hb; (fail_if_success (with_reducible injection hb)); rw [hb]; (try simp only [List.length_map] at hb)))) | ((refine WD_tf (by exact rfl) (by exact rfl) ?_ ?_) <;> (intro hb; (fail_if_success (with_reducible injection hb)); rw [hb]; (try simp only [List.length_map] at hb))) | (((with_reducible apply gC2); exact rfl) <;> (intro hb; rw [hb]))))
    (refine WA_forV (all.length) [34, 3] [11, 8] (fun k => [(34, vI k), (3, .own 11)]) (fun k => [(11, .arr 31 1 ((cand2 all i k).map rP)), (8, .box 30 [vS (nth all i).1, vI (nth all i).2])]) (fun k => True) ?h0 ?_)
    case h0 => trivial
    intro m hm _
    have hln := cand2_16 all i m hkl2
    by_cases hm2 : m < all.length
    · have d3 : decide ((m : Int) < (all.length : Int)) = true := by simp only [decide_eq_true_eq]; omega
      have hrow : (cand2 all i m).map rP ++ [[.rows 2 [[dS (nth all i).1, dI (nth all i).2], [dS (nth all m).1, dI (nth all m).2]]]] = (cand2 all i (m + 1)).map rP := by rw [cand2_next hm2]; simp [rP, rT]
      (repeat' (first | (refine nx ?_) | (refine WD_unk (by exact rfl) ?_; ((refine WD_tf (by exact rfl) (by exact rfl) ?_ ?_) <;> (intro hb; (fail_if_success (with_reducible injection hb)); rw [hb]; (try simp only [List.length_map] at hb)))) | ((refine WD_tf (by exact rfl) (by exact rfl) ?_ ?_) <;> (intro hb; (fail_if_success (with_reducible injection hb)); rw [hb]; (try simp only [List.length_map] at hb))) | (((with_reducible apply gC2); exact rfl) <;> (intro hb; rw [hb]))))
      refine ⟨hm2, trivial, ?_⟩
      (exact LeV [(11, 43)])
    · have d3 : decide ((m : Int) < (all.length : Int)) = false := by simp only [decide_eq_false_iff_not]; omega
      obtain rfl : m = all.length := by omega
      rw [← cand2_row hi2]
      (repeat' (first | (refine nx ?_) | (refine WD_unk (by exact rfl) ?_; ((refine WD_tf (by exact rfl) (by exact rfl) ?_ ?_) <;> (intro hb; (fail_if_success (with_reducible injection hb)); rw [hb]; (try simp only [List.length_map] at hb)))) | ((refine WD_tf (by exact rfl) (by exact rfl) ?_ ?_) <;> (intro hb; (fail_if_success (with_reducible injection hb)); rw [hb]; (try simp only [List.length_map] at hb))) | (((with_reducible apply gC2); exact rfl) <;> (intro hb; rw [hb]))))
      refine ⟨hi2, trivial, ?_⟩
      (exact LeV [])
  · have d2 : decide ((i : Int) < (all.length : Int)) = false := by simp only [decide_eq_false_iff_not]; omega
    obtain rfl : i = all.length := by omega
    (repeat' (first | (refine nx ?_) | (refine WD_unk (by exact rfl) ?_; ((refine WD_tf (by exact rfl) (by exact rfl) ?_ ?_) <;> (intro hb; (fail_if_success (with_reducible injection hb)); rw [hb]; (try simp only [List.length_map] at hb)))) | ((refine WD_tf (by exact rfl) (by exact rfl) ?_ ?_) <;> (intro hb; (fail_if_success (with_reducible injection hb)); rw [hb]; (try simp only [List.length_map] at hb))) | (((with_reducible apply gC2); exact rfl) <;> (intro hb; rw [hb]))))
    (exact glV [(2, lP (candF all))] [] (LeV []))
set_option maxHeartbeats 4000000 in
theorem bestX_pm (g : Led) (b : Int) (v : ByteArray) (j : Int) (u : ByteArray) (i : Int) (n : Int) (hl : g.lins.length ≤ 1000) (ha : g.accs.length ≤ 1000) (ho : g.offs.length ≤ 8) :
    FnM Tryz.prog 24 [] [aG g, vI b, aT v j, aT u i, vI n] (.tup [lT (bestG g b v j u i n).1, vI (bestG g b v j u i n).2.1, vI (bestG g b v j u i n).2.2]) [] := by
  refine FnM.of htb Tryz.func24 rfl rfl rfl rfl rfl fun cx hN h0 => ?_
  obtain ⟨Q, hQ⟩ : ∃ Q : List TA → Int × Int, Q = fun p => quoteF g b v j u i p n := ⟨_, rfl⟩
  have hq : ∀ p, quoteF g b v j u i p n = Q p := fun p => by rw [hQ]
  have hB : bestG g b v j u i n = if (bstN Q (candF (assetsF g.offs)) (candF (assetsF g.offs)).length).2.2 = false then ([], 0, (Q []).2) else ((bstN Q (candF (assetsF g.offs)) (candF (assetsF g.offs)).length).1, (bstN Q (candF (assetsF g.offs)) (candF (assetsF g.offs)).length).2.1, 0) := by
    rw [hQ]; rfl
  have h2 : ∀ p ∈ candF (assetsF g.offs), p.length ≤ 2 := fun p hp => candF_two hp
  have ho2 : g.offs.length ≤ 12 := by omega
  have hCl : (candF (assetsF g.offs)).length ≤ 289 := cand2_16 _ _ _ (assets_16 ho)
  rw [hB]
  clear hB hQ
  (repeat' (first | (refine nx ?_) | (refine WD_unk (by exact rfl) ?_; ((refine WD_tf (by exact rfl) (by exact rfl) ?_ ?_) <;> (intro hb; (fail_if_success (with_reducible injection hb)); rw [hb]; (try simp only [List.length_map] at hb)))) | (refine WD_call (by exact rfl) ?_; first | (refine WD_c0 (candX_pm _ ?_) ?_; (exact hyp))) | ((refine WD_tf (by exact rfl) (by exact rfl) ?_ ?_) <;> (intro hb; (fail_if_success (with_reducible injection hb)); rw [hb]; (try simp only [List.length_map] at hb))) | (((with_reducible apply gC2); exact rfl) <;> (intro hb; rw [hb]))))
  generalize candF (assetsF g.offs) = C at *
  (refine WA_forV (C.length) [25, 13, 14, 15] [] (fun k => [(25, vI k), (13, lT (bstN Q C k).1), (14, vI (bstN Q C k).2.1), (15, vB (bstN Q C k).2.2)]) (fun k => []) (fun k => True) ?h0 ?_)
  case h0 => trivial
  intro k hk _
  by_cases hk2 : k < C.length
  · have d1 : decide ((k : Int) < (C.length : Int)) = true := by simp only [decide_eq_true_eq]; omega
    have hp9 : (nth C k).length ≤ 900 := by have := h2 _ (nth_mem C k hk2); omega
    have hqk := hq (nth C k)
    rcases hqv : Q (nth C k) with ⟨c, e⟩
    rw [hqv] at hqk
    have hs : bstN Q C (k + 1) = bstS Q (bstN Q C k) (nth C k) := rfl
    unfold bstS at hs
    rw [hqv] at hs
    generalize bstN Q C k = s at *
    obtain ⟨sp, sl, sf⟩ := s
    dsimp only at hs
    by_cases he : e = 0
    · subst he
      have t1 : ((0 : Int) == 0) = true := rfl
      cases sf with
      | false =>
        have hs' : bstN Q C (k + 1) = (nth C k, c, true) := by rw [hs, if_pos ⟨rfl, .inl rfl⟩]
        (repeat' (first | (refine nx ?_) | (refine WD_unk (by exact rfl) ?_; ((refine WD_tf (by exact rfl) (by exact rfl) ?_ ?_) <;> (intro hb; (fail_if_success (with_reducible injection hb)); rw [hb]; (try simp only [List.length_map] at hb)))) | (refine WD_call (by exact rfl) ?_; first | (refine WD_e0 (fun h => quote_pe (l := nth C k) (p := (c, 0)) _ _ _ _ _ _ _ ?_ ?_ ?_ ?_ h) ?_; (exact hyp); (exact hyp); (exact hyp); (exact hyp))) | ((refine WD_tf (by exact rfl) (by exact rfl) ?_ ?_) <;> (intro hb; (fail_if_success (with_reducible injection hb)); rw [hb]; (try simp only [List.length_map] at hb))) | (((with_reducible apply gC2); exact rfl) <;> (intro hb; rw [hb]))))
        refine ⟨hk2, trivial, ?_⟩
        rw [hs']
        (exact LeV [])
      | true =>
        by_cases hc : c < sl
        · have t2 : decide (c < sl) = true := by simp [hc]
          have hs' : bstN Q C (k + 1) = (nth C k, c, true) := by rw [hs, if_pos ⟨rfl, .inr hc⟩]
          (repeat' (first | (refine nx ?_) | (refine WD_unk (by exact rfl) ?_; ((refine WD_tf (by exact rfl) (by exact rfl) ?_ ?_) <;> (intro hb; (fail_if_success (with_reducible injection hb)); rw [hb]; (try simp only [List.length_map] at hb)))) | (refine WD_call (by exact rfl) ?_; first | (refine WD_e0 (fun h => quote_pe (l := nth C k) (p := (c, 0)) _ _ _ _ _ _ _ ?_ ?_ ?_ ?_ h) ?_; (exact hyp); (exact hyp); (exact hyp); (exact hyp))) | ((refine WD_tf (by exact rfl) (by exact rfl) ?_ ?_) <;> (intro hb; (fail_if_success (with_reducible injection hb)); rw [hb]; (try simp only [List.length_map] at hb))) | (((with_reducible apply gC2); exact rfl) <;> (intro hb; rw [hb]))))
          refine ⟨hk2, trivial, ?_⟩
          rw [hs']
          (exact LeV [])
        · have t2 : decide (c < sl) = false := by simp [hc]
          have hs' : bstN Q C (k + 1) = (sp, sl, true) := by rw [hs, if_neg (by simp [hc])]
          (repeat' (first | (refine nx ?_) | (refine WD_unk (by exact rfl) ?_; ((refine WD_tf (by exact rfl) (by exact rfl) ?_ ?_) <;> (intro hb; (fail_if_success (with_reducible injection hb)); rw [hb]; (try simp only [List.length_map] at hb)))) | (refine WD_call (by exact rfl) ?_; first | (refine WD_e0 (fun h => quote_pe (l := nth C k) (p := (c, 0)) _ _ _ _ _ _ _ ?_ ?_ ?_ ?_ h) ?_; (exact hyp); (exact hyp); (exact hyp); (exact hyp))) | ((refine WD_tf (by exact rfl) (by exact rfl) ?_ ?_) <;> (intro hb; (fail_if_success (with_reducible injection hb)); rw [hb]; (try simp only [List.length_map] at hb))) | (((with_reducible apply gC2); exact rfl) <;> (intro hb; rw [hb]))))
          refine ⟨hk2, trivial, ?_⟩
          rw [hs']
          (exact LeV [])
    · have t1 : (e == 0) = false := by simp [he]
      have hs' : bstN Q C (k + 1) = (sp, sl, sf) := by rw [hs, if_neg (by simp [he])]
      (repeat' (first | (refine nx ?_) | (refine WD_unk (by exact rfl) ?_; ((refine WD_tf (by exact rfl) (by exact rfl) ?_ ?_) <;> (intro hb; (fail_if_success (with_reducible injection hb)); rw [hb]; (try simp only [List.length_map] at hb)))) | (refine WD_call (by exact rfl) ?_; first | (refine WD_e0 (fun h => quote_pe (l := nth C k) (p := (c, e)) _ _ _ _ _ _ _ ?_ ?_ ?_ ?_ h) ?_; (exact hyp); (exact hyp); (exact hyp); (exact hyp))) | ((refine WD_tf (by exact rfl) (by exact rfl) ?_ ?_) <;> (intro hb; (fail_if_success (with_reducible injection hb)); rw [hb]; (try simp only [List.length_map] at hb))) | (((with_reducible apply gC2); exact rfl) <;> (intro hb; rw [hb]))))
      refine ⟨hk2, trivial, ?_⟩
      rw [hs']
      (exact LeV [])
  · have d1 : decide ((k : Int) < (C.length : Int)) = false := by simp only [decide_eq_false_iff_not]; omega
    obtain rfl : k = C.length := by omega
    have hq0 := hq []
    rcases hqv : Q [] with ⟨c, e⟩
    rw [hqv] at hq0
    generalize bstN Q C C.length = s at *
    obtain ⟨sp, sl, sf⟩ := s
    dsimp only
    have hp9 : ([] : List TA).length ≤ 900 := by simp
    cases sf with
    | false =>
      rw [if_pos rfl]
      (repeat' (first | (refine nx ?_) | (refine WD_unk (by exact rfl) ?_; ((refine WD_tf (by exact rfl) (by exact rfl) ?_ ?_) <;> (intro hb; (fail_if_success (with_reducible injection hb)); rw [hb]; (try simp only [List.length_map] at hb)))) | (refine WD_call (by exact rfl) ?_; first | (refine WD_e0 (fun h => quote_pe (l := []) (p := (c, e)) _ _ _ _ _ _ _ ?_ ?_ ?_ ?_ h) ?_; (exact hyp); (exact hyp); (exact hyp); (exact hyp))) | ((refine WD_tf (by exact rfl) (by exact rfl) ?_ ?_) <;> (intro hb; (fail_if_success (with_reducible injection hb)); rw [hb]; (try simp only [List.length_map] at hb))) | (((with_reducible apply gC2); exact rfl) <;> (intro hb; rw [hb]))))
      (exact glV [(10, lT []), (11, vI 0), (12, vI e)] [] (LeV []))
    | true =>
      rw [if_neg (by simp)]
      (repeat' (first | (refine nx ?_) | (refine WD_unk (by exact rfl) ?_; ((refine WD_tf (by exact rfl) (by exact rfl) ?_ ?_) <;> (intro hb; (fail_if_success (with_reducible injection hb)); rw [hb]; (try simp only [List.length_map] at hb)))) | ((refine WD_tf (by exact rfl) (by exact rfl) ?_ ?_) <;> (intro hb; (fail_if_success (with_reducible injection hb)); rw [hb]; (try simp only [List.length_map] at hb))) | (((with_reducible apply gC2); exact rfl) <;> (intro hb; rw [hb]))))
      exact gE (.inr rfl) rfl rfl trivial
theorem bestX_pe (g : Led) (b : Int) (v : ByteArray) (j : Int) (u : ByteArray) (i : Int) (n : Int) (l : List TA) (c e : Int) (hl : g.lins.length ≤ 1000) (ha : g.accs.length ≤ 1000) (ho : g.offs.length ≤ 8) (he : bestG g b v j u i n = (l, c, e)) :
    FnM Tryz.prog 24 [] [aG g, vI b, aT v j, aT u i, vI n] (.tup [lT l, vI c, vI e]) [] := by
  have := bestX_pm g b v j u i n hl ha ho
  rwa [he] at this
end Go.Proofs.YtgebgpdoddjfhaaGreat

/- Contracts of the reference's Assets and Best. -/
namespace Go.Proofs.YtgebgpdoddjfhaaGreat
set_option linter.unusedSimpArgs false
set_option linter.unusedVariables false
set_option linter.unnecessarySimpa false
set_option linter.unusedSectionVars false
set_option maxRecDepth 100000
open Go Go.RowKit Go.Am Go.Proofs.Grow

theorem two39 {m : Nat} (h : m < 2) : m = 0 ∨ m = 1 := by omega
set_option maxHeartbeats 4000000 in
theorem assets_rm (g : Led) (ho : g.offs.length ≤ 100) : FnM Tryz.prog 23 [] [aG g] (lT (assetsF g.offs)) [] := by
  refine FnM.of htb Tryz.func23 rfl rfl rfl rfl rfl fun cx hN h0 => ?_
  (repeat' (first | (refine nx ?_) | (refine WD_unk (by exact rfl) ?_; ((refine WD_tf (by exact rfl) (by exact rfl) ?_ ?_) <;> (intro hb; (fail_if_success (with_reducible injection hb)); rw [hb]; (try simp only [List.length_map] at hb)))) | ((with_reducible apply WD_id); first | (refine WD_cut htb ?_) | (refine WD_cut3 htb ?_) | (refine WD_lens htb ?_) | (refine WD_caps htb ?_) | (refine WD_cps htb ?_) | (refine WD_cpp htb ?_) | (refine WD_api htb ?_) | (refine WD_apz htb ?_) | (refine WD_clr htb ?_)) | ((refine WD_tf (by exact rfl) (by exact rfl) ?_ ?_) <;> (intro hb; (fail_if_success (with_reducible injection hb)); rw [hb]; (try simp only [List.length_map] at hb))) | (((with_reducible apply gC2); exact rfl) <;> (intro hb; rw [hb]))))
  (refine WA_forV (g.offs.length) [12, 3] [] (fun k => [(12, vI k), (3, lT (assetsF (g.offs.take k)))]) (fun k => []) (fun k => True) ?h0 ?_)
  case h0 => trivial
  intro k hk _
  have hlen := assets_len g.offs k
  by_cases hk2 : k < g.offs.length
  case neg =>
    have d1 : decide ((k : Int) < (g.offs.length : Int)) = false := by simp; omega
    obtain rfl : k = g.offs.length := by omega
    rw [List.take_length]
    (repeat' (first | (refine nx ?_) | (refine WD_unk (by exact rfl) ?_; ((refine WD_tf (by exact rfl) (by exact rfl) ?_ ?_) <;> (intro hb; (fail_if_success (with_reducible injection hb)); rw [hb]; (try simp only [List.length_map] at hb)))) | ((with_reducible apply WD_id); first | (refine WD_cut htb ?_) | (refine WD_cut3 htb ?_) | (refine WD_lens htb ?_) | (refine WD_caps htb ?_) | (refine WD_cps htb ?_) | (refine WD_cpp htb ?_) | (refine WD_api htb ?_) | (refine WD_apz htb ?_) | (refine WD_clr htb ?_)) | ((refine WD_tf (by exact rfl) (by exact rfl) ?_ ?_) <;> (intro hb; (fail_if_success (with_reducible injection hb)); rw [hb]; (try simp only [List.length_map] at hb))) | (((with_reducible apply gC2); exact rfl) <;> (intro hb; rw [hb]))))
    exact gE (.inr rfl) rfl rfl trivial
  have d1 : decide ((k : Int) < (g.offs.length : Int)) = true := by simp; omega
  have hst := assets_take hk2
  obtain ⟨y0, hy0⟩ : ∃ y : TA, y = ((nth g.offs k).sc, (nth g.offs k).si) := ⟨_, rfl⟩
  obtain ⟨y1, hy1⟩ : ∃ y : TA, y = ((nth g.offs k).bc, (nth g.offs k).bi) := ⟨_, rfl⟩
  have e1 : (nth g.offs k).sc = y0.1 := by rw [hy0]
  have e2 : (nth g.offs k).si = y0.2 := by rw [hy0]
  have e3 : (nth g.offs k).bc = y1.1 := by rw [hy1]
  have e4 : (nth g.offs k).bi = y1.2 := by rw [hy1]
  rw [← hy0, ← hy1] at hst
  generalize assetsF (g.offs.take k) = A at *
  (repeat' (first | (refine nx ?_) | (refine WD_unk (by exact rfl) ?_; ((refine WD_tf (by exact rfl) (by exact rfl) ?_ ?_) <;> (intro hb; (fail_if_success (with_reducible injection hb)); rw [hb]; (try simp only [List.length_map] at hb)))) | ((with_reducible apply WD_id); first | (refine WD_cut htb ?_) | (refine WD_cut3 htb ?_) | (refine WD_lens htb ?_) | (refine WD_caps htb ?_) | (refine WD_cps htb ?_) | (refine WD_cpp htb ?_) | (refine WD_api htb ?_) | (refine WD_apz htb ?_) | (refine WD_clr htb ?_)) | ((refine WD_tf (by exact rfl) (by exact rfl) ?_ ?_) <;> (intro hb; (fail_if_success (with_reducible injection hb)); rw [hb]; (try simp only [List.length_map] at hb))) | (((with_reducible apply gC2); exact rfl) <;> (intro hb; rw [hb]))))
  rw [e1, e2, e3, e4]
  clear hy0 hy1 e1 e2 e3 e4
  refine WA_le (s' := ⟨[(21, vI 0), (20, .agg [vS y0.1, vI y0.2, vS y1.1, vI y1.2]), (12, vI k), (3, lT A), (11, vI ((g.offs.length : Nat) : Int)), (10, lO g.offs), (9, .ptr 1 3), (2, .d (.v (.slice none 0 0))), (1, .ptr 1 0), (0, aG g)], [(1, .box 28 (cellsOf (aG g)))]⟩) (LeV []) ?_
  (refine WA_anyV (α := Nat × List TA) (fun x => 2 - x.1) ((0, A)) [21, 3] [] (fun x => [(21, vI x.1), (3, lT x.2)]) (fun x => []) (fun x => x.1 ≤ 2 ∧ x.2 = nth [A, putA y0 A, putA y1 (putA y0 A)] x.1 ∧ x.2.length ≤ 2 * k + x.1) ?h0 ?_)
  case h0 => exact ⟨Nat.zero_le _, rfl, hlen⟩
  rintro ⟨j, out⟩ ⟨j1, j2, j3⟩
  dsimp only at j1 j2 j3
  by_cases hj : j < 2
  case neg =>
    obtain rfl : j = 2 := by omega
    have d2 : decide (((2 : Nat) : Int) < 2) = false := by decide
    (repeat' (first | (refine nx ?_) | (refine WD_unk (by exact rfl) ?_; ((refine WD_tf (by exact rfl) (by exact rfl) ?_ ?_) <;> (intro hb; (fail_if_success (with_reducible injection hb)); rw [hb]; (try simp only [List.length_map] at hb)))) | ((with_reducible apply WD_id); first | (refine WD_cut htb ?_) | (refine WD_cut3 htb ?_) | (refine WD_lens htb ?_) | (refine WD_caps htb ?_) | (refine WD_cps htb ?_) | (refine WD_cpp htb ?_) | (refine WD_api htb ?_) | (refine WD_apz htb ?_) | (refine WD_clr htb ?_)) | ((refine WD_tf (by exact rfl) (by exact rfl) ?_ ?_) <;> (intro hb; (fail_if_success (with_reducible injection hb)); rw [hb]; (try simp only [List.length_map] at hb))) | (((with_reducible apply gC2); exact rfl) <;> (intro hb; rw [hb]))))
    refine ⟨hk2, trivial, ?_⟩
    have e : out = assetsF (g.offs.take (k + 1)) := j2.trans hst.symm
    rw [← e]
    (exact LeV [])
  have d2 : decide ((j : Int) < 2) = true := by simp only [decide_eq_true_eq]; omega
  have hnx : putA (nth [y0, y1] j) out = nth [A, putA y0 A, putA y1 (putA y0 A)] (j + 1) := by
    rcases two39 hj with rfl | rfl <;> (rw [j2]; rfl)
  (repeat' (first | (refine nx ?_) | (refine WD_unk (by exact rfl) ?_; ((refine WD_tf (by exact rfl) (by exact rfl) ?_ ?_) <;> (intro hb; (fail_if_success (with_reducible injection hb)); rw [hb]; (try simp only [List.length_map] at hb)))) | ((with_reducible apply WD_id); first | (refine WD_cut htb ?_) | (refine WD_cut3 htb ?_) | (refine WD_lens htb ?_) | (refine WD_caps htb ?_) | (refine WD_cps htb ?_) | (refine WD_cpp htb ?_) | (refine WD_api htb ?_) | (refine WD_apz htb ?_) | (refine WD_clr htb ?_)) | ((refine WD_tf (by exact rfl) (by exact rfl) ?_ ?_) <;> (intro hb; (fail_if_success (with_reducible injection hb)); rw [hb]; (try simp only [List.length_map] at hb))) | (((with_reducible apply gC2); exact rfl) <;> (intro hb; rw [hb]))))
  refine WD_ixa htb (n := j) (ds := [vS (nth [y0, y1] j).1, vI (nth [y0, y1] j).2]) ?_ (hn := by rcases two39 hj with rfl | rfl <;> rfl) (hs := by rcases two39 hj with rfl | rfl <;> rfl)
  generalize nth [y0, y1] j = y at *
  have hpl := putA_len y out
  (repeat' (first | (refine nx ?_) | (refine WD_unk (by exact rfl) ?_; ((refine WD_tf (by exact rfl) (by exact rfl) ?_ ?_) <;> (intro hb; (fail_if_success (with_reducible injection hb)); rw [hb]; (try simp only [List.length_map] at hb)))) | ((with_reducible apply WD_id); first | (refine WD_cut htb ?_) | (refine WD_cut3 htb ?_) | (refine WD_lens htb ?_) | (refine WD_caps htb ?_) | (refine WD_cps htb ?_) | (refine WD_cpp htb ?_) | (refine WD_api htb ?_) | (refine WD_apz htb ?_) | (refine WD_clr htb ?_)) | ((refine WD_tf (by exact rfl) (by exact rfl) ?_ ?_) <;> (intro hb; (fail_if_success (with_reducible injection hb)); rw [hb]; (try simp only [List.length_map] at hb))) | (((with_reducible apply gC2); exact rfl) <;> (intro hb; rw [hb]))))
  (refine WA_anyV (α := Nat) (fun x => out.length - x) (0) [8] [7] (fun x => [(8, vI x)]) (fun x => [(7, .box 30 [vS y.1, vI y.2])]) (fun x => x ≤ out.length ∧ ∀ m, m < x → lessA (nth out m).1 (nth out m).2 y.1 y.2 = true) ?h0 ?_)
  case h0 => exact ⟨Nat.zero_le _, fun m hm => absurd hm (by omega)⟩
  rintro q ⟨i1, i2⟩
  have hat := putA_at y out q i1 i2
  have fin : (out.map rT).take q ++ [[dS y.1, dI y.2]] ++ (out.map rT).drop q = (out.take q ++ [y] ++ out.drop q).map rT := by
    rw [List.map_append, List.map_append, List.map_take, List.map_drop]; rfl
  by_cases hq : q < out.length
  case neg =>
    have d3 : decide ((q : Int) < (out.length : Int)) = false := by simp; omega
    have d4 : ((q : Int) == (out.length : Int)) = true := by simp; omega
    have e := hat (fun h => absurd h hq)
    rw [if_neg (fun h => hq h.1)] at e
    have hrow : List.drop 0 (List.take q (out.map rT)) ++ [[dS y.1, dI y.2]] ++ List.drop q (List.take out.length (out.map rT)) = (putA y out).map rT := by
      rw [e, List.drop_zero, show List.take out.length (out.map rT) = out.map rT from List.take_of_length_le (by simp), fin]
    (repeat' (first | (refine nx ?_) | (refine WD_unk (by exact rfl) ?_; ((refine WD_tf (by exact rfl) (by exact rfl) ?_ ?_) <;> (intro hb; (fail_if_success (with_reducible injection hb)); rw [hb]; (try simp only [List.length_map] at hb)))) | ((with_reducible apply WD_id); first | (refine WD_cut htb ?_) | (refine WD_cut3 htb ?_) | (refine WD_lens htb ?_) | (refine WD_caps htb ?_) | (refine WD_cps htb ?_) | (refine WD_cpp htb ?_) | (refine WD_api htb ?_) | (refine WD_apz htb ?_) | (refine WD_clr htb ?_)) | ((refine WD_tf (by exact rfl) (by exact rfl) ?_ ?_) <;> (intro hb; (fail_if_success (with_reducible injection hb)); rw [hb]; (try simp only [List.length_map] at hb))) | (((with_reducible apply gC2); exact rfl) <;> (intro hb; rw [hb]))))
    refine ⟨(j + 1, putA y out), by dsimp only; omega, ⟨by dsimp only; omega, hnx, by dsimp only; omega⟩, ?_⟩
    rw [hrow]
    (exact LeV [])
  have d3 : decide ((q : Int) < (out.length : Int)) = true := by simp; omega
  have d4 : ((q : Int) == (out.length : Int)) = false := by simp; omega
  cases hb : lessA (nth out q).1 (nth out q).2 y.1 y.2 with
  | true =>
    (repeat' (first | (refine nx ?_) | (refine WD_unk (by exact rfl) ?_; ((refine WD_tf (by exact rfl) (by exact rfl) ?_ ?_) <;> (intro hb; (fail_if_success (with_reducible injection hb)); rw [hb]; (try simp only [List.length_map] at hb)))) | (refine WD_call (by exact rfl) ?_; first | (refine WD_c0 (lessA_rm _ _ _ _) ?_)) | ((with_reducible apply WD_id); first | (refine WD_cut htb ?_) | (refine WD_cut3 htb ?_) | (refine WD_lens htb ?_) | (refine WD_caps htb ?_) | (refine WD_cps htb ?_) | (refine WD_cpp htb ?_) | (refine WD_api htb ?_) | (refine WD_apz htb ?_) | (refine WD_clr htb ?_)) | ((refine WD_tf (by exact rfl) (by exact rfl) ?_ ?_) <;> (intro hb; (fail_if_success (with_reducible injection hb)); rw [hb]; (try simp only [List.length_map] at hb))) | (((with_reducible apply gC2); exact rfl) <;> (intro hb; rw [hb]))))
    refine ⟨q + 1, by omega, ⟨by omega, fun m hm => ?_⟩, ?_⟩
    · rcases (by omega : m < q ∨ m = q) with h | h
      · exact i2 m h
      · rw [h]; exact hb
    · (exact LeV [])
  | false =>
    have e := hat (fun _ => hb)
    cases hc : eqT (nth out q).1 (nth out q).2 y.1 y.2 with
    | true =>
      have hc' : (!eqT (nth out q).1 (nth out q).2 y.1 y.2) = false := by rw [hc]; rfl
      rw [if_pos ⟨hq, hc⟩] at e
      (repeat' (first | ((with_reducible apply WD_id); first | (refine WD_eq (neT_step rfl rfl rfl) ?_)) | (refine nx ?_) | (refine WD_unk (by exact rfl) ?_; ((refine WD_tf (by exact rfl) (by exact rfl) ?_ ?_) <;> (intro hb; (fail_if_success (with_reducible injection hb)); rw [hb]; (try simp only [List.length_map] at hb)))) | (refine WD_call (by exact rfl) ?_; first | (refine WD_c0 (lessA_rm _ _ _ _) ?_)) | ((with_reducible apply WD_id); first | (refine WD_cut htb ?_) | (refine WD_cut3 htb ?_) | (refine WD_lens htb ?_) | (refine WD_caps htb ?_) | (refine WD_cps htb ?_) | (refine WD_cpp htb ?_) | (refine WD_api htb ?_) | (refine WD_apz htb ?_) | (refine WD_clr htb ?_)) | ((refine WD_tf (by exact rfl) (by exact rfl) ?_ ?_) <;> (intro hb; (fail_if_success (with_reducible injection hb)); rw [hb]; (try simp only [List.length_map] at hb))) | (((with_reducible apply gC2); exact rfl) <;> (intro hb; rw [hb]))))
      refine ⟨(j + 1, out), by dsimp only; omega, ⟨by dsimp only; omega, e.symm.trans hnx, by dsimp only; omega⟩, ?_⟩
      (exact LeV [])
    | false =>
      have hc' : (!eqT (nth out q).1 (nth out q).2 y.1 y.2) = true := by rw [hc]; rfl
      rw [if_neg (fun h => by rw [hc] at h; exact absurd h.2 (by simp))] at e
      have hrow : List.drop 0 (List.take q (out.map rT)) ++ [[dS y.1, dI y.2]] ++ List.drop q (List.take out.length (out.map rT)) = (putA y out).map rT := by
        rw [e, List.drop_zero, show List.take out.length (out.map rT) = out.map rT from List.take_of_length_le (by simp), fin]
      (repeat' (first | ((with_reducible apply WD_id); first | (refine WD_eq (neT_step rfl rfl rfl) ?_)) | (refine nx ?_) | (refine WD_unk (by exact rfl) ?_; ((refine WD_tf (by exact rfl) (by exact rfl) ?_ ?_) <;> (intro hb; (fail_if_success (with_reducible injection hb)); rw [hb]; (try simp only [List.length_map] at hb)))) | (refine WD_call (by exact rfl) ?_; first | (refine WD_c0 (lessA_rm _ _ _ _) ?_)) | ((with_reducible apply WD_id); first | (refine WD_cut htb ?_) | (refine WD_cut3 htb ?_) | (refine WD_lens htb ?_) | (refine WD_caps htb ?_) | (refine WD_cps htb ?_) | (refine WD_cpp htb ?_) | (refine WD_api htb ?_) | (refine WD_apz htb ?_) | (refine WD_clr htb ?_)) | ((refine WD_tf (by exact rfl) (by exact rfl) ?_ ?_) <;> (intro hb; (fail_if_success (with_reducible injection hb)); rw [hb]; (try simp only [List.length_map] at hb))) | (((with_reducible apply gC2); exact rfl) <;> (intro hb; rw [hb]))))
      refine ⟨(j + 1, putA y out), by dsimp only; omega, ⟨by dsimp only; omega, hnx, by dsimp only; omega⟩, ?_⟩
      rw [hrow]
      (exact LeV [])
theorem quoteY_re (g : Led) (b : Int) (v : ByteArray) (j : Int) (u : ByteArray) (i : Int) (l : List TA) (n : Int) (p : Int × Int) (hl : g.lins.length ≤ 1000) (ha : g.accs.length ≤ 1000) (ho : g.offs.length ≤ 12) (hp : l.length ≤ 900) (he : quoteF g b v j u i l n = p) :
    FnM Tryz.prog 22 [] [aG g, vI b, aT v j, aT u i, lT l, vI n] (.tup [vI p.1, vI p.2]) [] := by
  have := quoteR_rm g b v j u i l n hl ha ho hp
  rwa [he] at this
set_option maxHeartbeats 4000000 in
theorem bestX_rm (g : Led) (b : Int) (v : ByteArray) (j : Int) (u : ByteArray) (i : Int) (n : Int) (hl : g.lins.length ≤ 1000) (ha : g.accs.length ≤ 1000) (ho : g.offs.length ≤ 8) :
    FnM Tryz.prog 25 [] [aG g, vI b, aT v j, aT u i, vI n] (.tup [lT (bestG g b v j u i n).1, vI (bestG g b v j u i n).2.1, vI (bestG g b v j u i n).2.2]) [] := by
  refine FnM.of htb Tryz.func25 rfl rfl rfl rfl rfl fun cx hN h0 => ?_
  rw [← refB_eq]
  have o1 : g.offs.length ≤ 1000 := by omega
  have o2 : g.offs.length ≤ 100 := by omega
  have o3 : g.offs.length ≤ 12 := by omega
  have hp0 : ([] : List TA).length ≤ 1000 := by simp
  by_cases hc : plnE g v j u i [] [n] = 0
  case neg =>
    have e1 : (plnE g v j u i [] [n] != 0) = true := by simp [hc]
    have e : refB g b v j u i n = ([], 0, plnE g v j u i [] [n]) := if_pos hc
    rw [e]
    (repeat' (first | (refine nx ?_) | (refine WD_unk (by exact rfl) ?_; ((refine WD_tf (by exact rfl) (by exact rfl) ?_ ?_) <;> (intro hb; (fail_if_success (with_reducible injection hb)); rw [hb]; (try simp only [List.length_map] at hb)))) | (refine WD_call (by exact rfl) ?_; first | (refine WD_c0 (begin_rm (l := []) _ _ _ _ _ _ ?_ ?_ ?_ ?_) ?_; (exact hyp); (exact hyp); (exact hyp); (exact hyp))) | ((with_reducible apply WD_id); first | (refine WD_cut htb ?_) | (refine WD_cut3 htb ?_) | (refine WD_lens htb ?_) | (refine WD_caps htb ?_) | (refine WD_cps htb ?_) | (refine WD_cpp htb ?_) | (refine WD_api htb ?_) | (refine WD_apz htb ?_) | (refine WD_clr htb ?_)) | ((refine WD_tf (by exact rfl) (by exact rfl) ?_ ?_) <;> (intro hb; (fail_if_success (with_reducible injection hb)); rw [hb]; (try simp only [List.length_map] at hb))) | (((with_reducible apply gC2); exact rfl) <;> (intro hb; rw [hb]))))
    (exact glV [(10, lT []), (11, vI 0), (12, vI (plnE g v j u i [] [n]))] [] (LeV []))
  have e1 : (plnE g v j u i [] [n] != 0) = false := by simp [hc]
  cases hf : (findA g.accs b).2 with
  | false =>
    have e2 : (!(findA g.accs b).2) = true := by simp [hf]
    have e : refB g b v j u i n = ([], 0, 67) := by unfold refB; rw [if_neg (by simp [hc]), if_pos hf]
    rw [e]
    (repeat' (first | (refine nx ?_) | (refine WD_unk (by exact rfl) ?_; ((refine WD_tf (by exact rfl) (by exact rfl) ?_ ?_) <;> (intro hb; (fail_if_success (with_reducible injection hb)); rw [hb]; (try simp only [List.length_map] at hb)))) | (refine WD_call (by exact rfl) ?_; first | (refine WD_c0 (begin_rm (l := []) _ _ _ _ _ _ ?_ ?_ ?_ ?_) ?_; (exact hyp); (exact hyp); (exact hyp); (exact hyp)) | (refine WD_c0 (findA_rm _ _ ?_) ?_; (exact hyp))) | ((with_reducible apply WD_id); first | (refine WD_cut htb ?_) | (refine WD_cut3 htb ?_) | (refine WD_lens htb ?_) | (refine WD_caps htb ?_) | (refine WD_cps htb ?_) | (refine WD_cpp htb ?_) | (refine WD_api htb ?_) | (refine WD_apz htb ?_) | (refine WD_clr htb ?_)) | ((refine WD_tf (by exact rfl) (by exact rfl) ?_ ?_) <;> (intro hb; (fail_if_success (with_reducible injection hb)); rw [hb]; (try simp only [List.length_map] at hb))) | (((with_reducible apply gC2); exact rfl) <;> (intro hb; rw [hb]))))
    (exact glV [(10, lT []), (11, vI 0), (12, vI 67)] [] (LeV []))
  | true =>
  have e2 : (!(findA g.accs b).2) = false := by simp [hf]
  obtain ⟨Q, hQ⟩ : ∃ Q : List TA → Int × Int, Q = fun p => quoteF g b v j u i p n := ⟨_, rfl⟩
  have hq : ∀ p, quoteF g b v j u i p n = Q p := fun p => by rw [hQ]
  have hB : refB g b v j u i n = if (rbN Q (candF (assetsF g.offs)) (candF (assetsF g.offs)).length).2 < 0 then ([], 0, 73) else ((rbN Q (candF (assetsF g.offs)) (candF (assetsF g.offs)).length).1, (rbN Q (candF (assetsF g.offs)) (candF (assetsF g.offs)).length).2, 0) := by
    rw [hQ]; unfold refB; rw [if_neg (by simp [hc]), if_neg (by simp [hf])]
  rw [hB]
  clear hB hQ
  (repeat' (first | (refine WD_bso htb ?_) | (refine nx ?_) | (refine WD_unk (by exact rfl) ?_; ((refine WD_tf (by exact rfl) (by exact rfl) ?_ ?_) <;> (intro hb; (fail_if_success (with_reducible injection hb)); rw [hb]; (try simp only [List.length_map] at hb)))) | (refine WD_call (by exact rfl) ?_; first | (refine WD_c0 (begin_rm (l := []) _ _ _ _ _ _ ?_ ?_ ?_ ?_) ?_; (exact hyp); (exact hyp); (exact hyp); (exact hyp)) | (refine WD_c0 (findA_rm _ _ ?_) ?_; (exact hyp)) | (refine WD_c0 (assets_rm _ ?_) ?_; (exact hyp))) | ((with_reducible apply WD_id); first | (refine WD_cut htb ?_) | (refine WD_cut3 htb ?_) | (refine WD_lens htb ?_) | (refine WD_caps htb ?_) | (refine WD_cps htb ?_) | (refine WD_cpp htb ?_) | (refine WD_api htb ?_) | (refine WD_apz htb ?_) | (refine WD_clr htb ?_)) | ((refine WD_tf (by exact rfl) (by exact rfl) ?_ ?_) <;> (intro hb; (fail_if_success (with_reducible injection hb)); rw [hb]; (try simp only [List.length_map] at hb))) | (((with_reducible apply gC2); exact rfl) <;> (intro hb; rw [hb]))))
  have hk10 := assets_16 ho
  generalize assetsF g.offs = all at *
  refine WA_le (Le_nilrow 49 2 rfl) ?_
  refine WA_le (s' := ⟨[(52, vI 0), (51, vI ((all.length : Nat) : Int)), (50, lT all), (17, .own 49), (16, lT all), (8, .ptr 8 0), (7, .ptr 7 0), (5, .ptr 5 0), (4, vI n), (1, vI b)], [(49, .arr 31 1 [[.rows 2 []]]), (5, .box 28 (cellsOf (aG g))), (7, .box 30 [vS v, vI j]), (8, .box 30 [vS u, vI i])]⟩) (LeV []) ?_
  (refine WA_forV (all.length) [52, 17] [49] (fun k => [(52, vI k), (17, .own 49)]) (fun k => [(49, .arr 31 1 ((cand1 all k).map rP))]) (fun k => True) ?h0 ?_)
  case h0 => trivial
  intro k hk _
  have hln := cand1_len all k
  by_cases hk2 : k < all.length
  · have d1 : decide ((k : Int) < (all.length : Int)) = true := by simp only [decide_eq_true_eq]; omega
    have hrow : (cand1 all k).map rP ++ [[.rows 2 [[dS (nth all k).1, dI (nth all k).2]]]] = (cand1 all (k + 1)).map rP := by rw [cand1_next hk2]; simp [rP, rT]
    (repeat' (first | (refine nx ?_) | (refine WD_unk (by exact rfl) ?_; ((refine WD_tf (by exact rfl) (by exact rfl) ?_ ?_) <;> (intro hb; (fail_if_success (with_reducible injection hb)); rw [hb]; (try simp only [List.length_map] at hb)))) | ((with_reducible apply WD_id); first | (refine WD_cut htb ?_) | (refine WD_cut3 htb ?_) | (refine WD_lens htb ?_) | (refine WD_caps htb ?_) | (refine WD_cps htb ?_) | (refine WD_cpp htb ?_) | (refine WD_api htb ?_) | (refine WD_apz htb ?_) | (refine WD_clr htb ?_)) | ((refine WD_tf (by exact rfl) (by exact rfl) ?_ ?_) <;> (intro hb; (fail_if_success (with_reducible injection hb)); rw [hb]; (try simp only [List.length_map] at hb))) | (((with_reducible apply gC2); exact rfl) <;> (intro hb; rw [hb]))))
    refine ⟨hk2, trivial, ?_⟩
    (exact LeV [(49, 60)])
  have d1 : decide ((k : Int) < (all.length : Int)) = false := by simp only [decide_eq_false_iff_not]; omega
  obtain rfl : k = all.length := by omega
  rw [show cand1 all all.length = cand2 all 0 0 by simp [cand2]]
  clear hln
  (repeat' (first | (refine nx ?_) | (refine WD_unk (by exact rfl) ?_; ((refine WD_tf (by exact rfl) (by exact rfl) ?_ ?_) <;> (intro hb; (fail_if_success (with_reducible injection hb)); rw [hb]; (try simp only [List.length_map] at hb)))) | ((with_reducible apply WD_id); first | (refine WD_cut htb ?_) | (refine WD_cut3 htb ?_) | (refine WD_lens htb ?_) | (refine WD_caps htb ?_) | (refine WD_cps htb ?_) | (refine WD_cpp htb ?_) | (refine WD_api htb ?_) | (refine WD_apz htb ?_) | (refine WD_clr htb ?_)) | ((refine WD_tf (by exact rfl) (by exact rfl) ?_ ?_) <;> (intro hb; (fail_if_success (with_reducible injection hb)); rw [hb]; (try simp only [List.length_map] at hb))) | (((with_reducible apply gC2); exact rfl) <;> (intro hb; rw [hb]))))
  (refine WA_forV (all.length) [64, 17] [49] (fun k => [(64, vI k), (17, .own 49)]) (fun k => [(49, .arr 31 1 ((cand2 all k 0).map rP))]) (fun k => True) ?h0 ?_)
  case h0 => trivial
  intro r hr _
  by_cases hr2 : r < all.length
  · have d2 : decide ((r : Int) < (all.length : Int)) = true := by simp only [decide_eq_true_eq]; omega
    (repeat' (first | (refine nx ?_) | (refine WD_unk (by exact rfl) ?_; ((refine WD_tf (by exact rfl) (by exact rfl) ?_ ?_) <;> (intro hb; (fail_if_success (with_reducible injection hb)); rw [hb]; (try simp only [List.length_map] at hb)))) | ((with_reducible apply WD_id); first | (refine WD_cut htb ?_) | (refine WD_cut3 htb ?_) | (refine WD_lens htb ?_) | (refine WD_caps htb ?_) | (refine WD_cps htb ?_) | (refine WD_cpp htb ?_) | (refine WD_api htb ?_) | (refine WD_apz htb ?_) | (refine WD_clr htb ?_)) | ((refine WD_tf (by exact rfl) (by exact rfl) ?_ ?_) <;> (intro hb; (fail_if_success (with_reducible injection hb)); rw [hb]; (try simp only [List.length_map] at hb))) | (((with_reducible apply gC2); exact rfl) <;> (intro hb; rw [hb]))))
    (refine WA_forV (all.length) [70, 17] [49, 21] (fun k => [(70, vI k), (17, .own 49)]) (fun k => [(49, .arr 31 1 ((cand2 all r k).map rP)), (21, .box 30 [vS (nth all r).1, vI (nth all r).2])]) (fun k => True) ?h0 ?_)
    case h0 => trivial
    intro m hm _
    have hln := cand2_16 all r m hk10
    by_cases hm2 : m < all.length
    · have d3 : decide ((m : Int) < (all.length : Int)) = true := by simp only [decide_eq_true_eq]; omega
      have hrow : (cand2 all r m).map rP ++ [[.rows 2 [[dS (nth all r).1, dI (nth all r).2], [dS (nth all m).1, dI (nth all m).2]]]] = (cand2 all r (m + 1)).map rP := by rw [cand2_next hm2]; simp [rP, rT]
      (repeat' (first | (refine nx ?_) | (refine WD_unk (by exact rfl) ?_; ((refine WD_tf (by exact rfl) (by exact rfl) ?_ ?_) <;> (intro hb; (fail_if_success (with_reducible injection hb)); rw [hb]; (try simp only [List.length_map] at hb)))) | ((with_reducible apply WD_id); first | (refine WD_cut htb ?_) | (refine WD_cut3 htb ?_) | (refine WD_lens htb ?_) | (refine WD_caps htb ?_) | (refine WD_cps htb ?_) | (refine WD_cpp htb ?_) | (refine WD_api htb ?_) | (refine WD_apz htb ?_) | (refine WD_clr htb ?_)) | ((refine WD_tf (by exact rfl) (by exact rfl) ?_ ?_) <;> (intro hb; (fail_if_success (with_reducible injection hb)); rw [hb]; (try simp only [List.length_map] at hb))) | (((with_reducible apply gC2); exact rfl) <;> (intro hb; rw [hb]))))
      refine ⟨hm2, trivial, ?_⟩
      (exact LeV [(49, 79)])
    · have d3 : decide ((m : Int) < (all.length : Int)) = false := by simp only [decide_eq_false_iff_not]; omega
      obtain rfl : m = all.length := by omega
      rw [← cand2_row hr2]
      (repeat' (first | (refine nx ?_) | (refine WD_unk (by exact rfl) ?_; ((refine WD_tf (by exact rfl) (by exact rfl) ?_ ?_) <;> (intro hb; (fail_if_success (with_reducible injection hb)); rw [hb]; (try simp only [List.length_map] at hb)))) | ((with_reducible apply WD_id); first | (refine WD_cut htb ?_) | (refine WD_cut3 htb ?_) | (refine WD_lens htb ?_) | (refine WD_caps htb ?_) | (refine WD_cps htb ?_) | (refine WD_cpp htb ?_) | (refine WD_api htb ?_) | (refine WD_apz htb ?_) | (refine WD_clr htb ?_)) | ((refine WD_tf (by exact rfl) (by exact rfl) ?_ ?_) <;> (intro hb; (fail_if_success (with_reducible injection hb)); rw [hb]; (try simp only [List.length_map] at hb))) | (((with_reducible apply gC2); exact rfl) <;> (intro hb; rw [hb]))))
      refine ⟨hr2, trivial, ?_⟩
      (exact LeV [])
  have d2 : decide ((r : Int) < (all.length : Int)) = false := by simp only [decide_eq_false_iff_not]; omega
  obtain rfl : r = all.length := by omega
  have h2 : ∀ p ∈ candF all, p.length ≤ 2 := fun p hp => candF_two hp
  have hCl : (candF all).length ≤ 289 := cand2_16 _ _ _ hk10
  rw [show cand2 all all.length 0 = candF all from rfl]
  generalize candF all = C at *
  (repeat' (first | (refine nx ?_) | (refine WD_unk (by exact rfl) ?_; ((refine WD_tf (by exact rfl) (by exact rfl) ?_ ?_) <;> (intro hb; (fail_if_success (with_reducible injection hb)); rw [hb]; (try simp only [List.length_map] at hb)))) | ((with_reducible apply WD_id); first | (refine WD_cut htb ?_) | (refine WD_cut3 htb ?_) | (refine WD_lens htb ?_) | (refine WD_caps htb ?_) | (refine WD_cps htb ?_) | (refine WD_cpp htb ?_) | (refine WD_api htb ?_) | (refine WD_apz htb ?_) | (refine WD_clr htb ?_)) | ((refine WD_tf (by exact rfl) (by exact rfl) ?_ ?_) <;> (intro hb; (fail_if_success (with_reducible injection hb)); rw [hb]; (try simp only [List.length_map] at hb))) | (((with_reducible apply gC2); exact rfl) <;> (intro hb; rw [hb]))))
  clear hc e1 hf e2 d1 d2 hr hk10 hp0
  (refine WA_forV (C.length) [84, 24, 25] [] (fun k => [(84, vI k), (24, lT (rbN Q C k).1), (25, vI (rbN Q C k).2)]) (fun k => []) (fun k => True) ?h0 ?_)
  case h0 => trivial
  intro k hk _
  by_cases hk2 : k < C.length
  · have d1 : decide ((k : Int) < (C.length : Int)) = true := by simp only [decide_eq_true_eq]; omega
    have hp9 : (nth C k).length ≤ 900 := by have := h2 _ (nth_mem C k hk2); omega
    have hqk := hq (nth C k)
    rcases hqv : Q (nth C k) with ⟨c, e⟩
    rw [hqv] at hqk
    have hs : rbN Q C (k + 1) = rbS Q (rbN Q C k) (nth C k) := rfl
    unfold rbS at hs
    rw [hqv] at hs
    generalize rbN Q C k = s at *
    obtain ⟨sp, sl⟩ := s
    dsimp only at hs
    by_cases he : e = 0
    · subst he
      have t1 : ((0 : Int) == 0) = true := rfl
      by_cases hn : sl < 0
      · have t2 : decide (sl < 0) = true := by simp [hn]
        have hs' : rbN Q C (k + 1) = (nth C k, c) := by rw [hs, if_pos ⟨rfl, .inl hn⟩]
        (repeat' (first | (refine nx ?_) | (refine WD_unk (by exact rfl) ?_; ((refine WD_tf (by exact rfl) (by exact rfl) ?_ ?_) <;> (intro hb; (fail_if_success (with_reducible injection hb)); rw [hb]; (try simp only [List.length_map] at hb)))) | (refine WD_call (by exact rfl) ?_; first | (refine WD_e0 (fun h => quoteY_re (l := nth C k) (p := (c, 0)) _ _ _ _ _ _ _ ?_ ?_ ?_ ?_ h) ?_; (exact hyp); (exact hyp); (exact hyp); (exact hyp))) | ((with_reducible apply WD_id); first | (refine WD_cut htb ?_) | (refine WD_cut3 htb ?_) | (refine WD_lens htb ?_) | (refine WD_caps htb ?_) | (refine WD_cps htb ?_) | (refine WD_cpp htb ?_) | (refine WD_api htb ?_) | (refine WD_apz htb ?_) | (refine WD_clr htb ?_)) | ((refine WD_tf (by exact rfl) (by exact rfl) ?_ ?_) <;> (intro hb; (fail_if_success (with_reducible injection hb)); rw [hb]; (try simp only [List.length_map] at hb))) | (((with_reducible apply gC2); exact rfl) <;> (intro hb; rw [hb]))))
        refine ⟨hk2, trivial, ?_⟩
        rw [hs']
        (exact LeV [])
      · have t2 : decide (sl < 0) = false := by simp [hn]
        by_cases hc : c < sl
        · have t3 : decide (c < sl) = true := by simp [hc]
          have hs' : rbN Q C (k + 1) = (nth C k, c) := by rw [hs, if_pos ⟨rfl, .inr hc⟩]
          (repeat' (first | (refine nx ?_) | (refine WD_unk (by exact rfl) ?_; ((refine WD_tf (by exact rfl) (by exact rfl) ?_ ?_) <;> (intro hb; (fail_if_success (with_reducible injection hb)); rw [hb]; (try simp only [List.length_map] at hb)))) | (refine WD_call (by exact rfl) ?_; first | (refine WD_e0 (fun h => quoteY_re (l := nth C k) (p := (c, 0)) _ _ _ _ _ _ _ ?_ ?_ ?_ ?_ h) ?_; (exact hyp); (exact hyp); (exact hyp); (exact hyp))) | ((with_reducible apply WD_id); first | (refine WD_cut htb ?_) | (refine WD_cut3 htb ?_) | (refine WD_lens htb ?_) | (refine WD_caps htb ?_) | (refine WD_cps htb ?_) | (refine WD_cpp htb ?_) | (refine WD_api htb ?_) | (refine WD_apz htb ?_) | (refine WD_clr htb ?_)) | ((refine WD_tf (by exact rfl) (by exact rfl) ?_ ?_) <;> (intro hb; (fail_if_success (with_reducible injection hb)); rw [hb]; (try simp only [List.length_map] at hb))) | (((with_reducible apply gC2); exact rfl) <;> (intro hb; rw [hb]))))
          refine ⟨hk2, trivial, ?_⟩
          rw [hs']
          (exact LeV [])
        · have t3 : decide (c < sl) = false := by simp [hc]
          have hs' : rbN Q C (k + 1) = (sp, sl) := by rw [hs, if_neg (by simp [hc, hn])]
          (repeat' (first | (refine nx ?_) | (refine WD_unk (by exact rfl) ?_; ((refine WD_tf (by exact rfl) (by exact rfl) ?_ ?_) <;> (intro hb; (fail_if_success (with_reducible injection hb)); rw [hb]; (try simp only [List.length_map] at hb)))) | (refine WD_call (by exact rfl) ?_; first | (refine WD_e0 (fun h => quoteY_re (l := nth C k) (p := (c, 0)) _ _ _ _ _ _ _ ?_ ?_ ?_ ?_ h) ?_; (exact hyp); (exact hyp); (exact hyp); (exact hyp))) | ((with_reducible apply WD_id); first | (refine WD_cut htb ?_) | (refine WD_cut3 htb ?_) | (refine WD_lens htb ?_) | (refine WD_caps htb ?_) | (refine WD_cps htb ?_) | (refine WD_cpp htb ?_) | (refine WD_api htb ?_) | (refine WD_apz htb ?_) | (refine WD_clr htb ?_)) | ((refine WD_tf (by exact rfl) (by exact rfl) ?_ ?_) <;> (intro hb; (fail_if_success (with_reducible injection hb)); rw [hb]; (try simp only [List.length_map] at hb))) | (((with_reducible apply gC2); exact rfl) <;> (intro hb; rw [hb]))))
          refine ⟨hk2, trivial, ?_⟩
          rw [hs']
          (exact LeV [])
    · have t1 : (e == 0) = false := by simp [he]
      have hs' : rbN Q C (k + 1) = (sp, sl) := by rw [hs, if_neg (by simp [he])]
      (repeat' (first | (refine nx ?_) | (refine WD_unk (by exact rfl) ?_; ((refine WD_tf (by exact rfl) (by exact rfl) ?_ ?_) <;> (intro hb; (fail_if_success (with_reducible injection hb)); rw [hb]; (try simp only [List.length_map] at hb)))) | (refine WD_call (by exact rfl) ?_; first | (refine WD_e0 (fun h => quoteY_re (l := nth C k) (p := (c, e)) _ _ _ _ _ _ _ ?_ ?_ ?_ ?_ h) ?_; (exact hyp); (exact hyp); (exact hyp); (exact hyp))) | ((with_reducible apply WD_id); first | (refine WD_cut htb ?_) | (refine WD_cut3 htb ?_) | (refine WD_lens htb ?_) | (refine WD_caps htb ?_) | (refine WD_cps htb ?_) | (refine WD_cpp htb ?_) | (refine WD_api htb ?_) | (refine WD_apz htb ?_) | (refine WD_clr htb ?_)) | ((refine WD_tf (by exact rfl) (by exact rfl) ?_ ?_) <;> (intro hb; (fail_if_success (with_reducible injection hb)); rw [hb]; (try simp only [List.length_map] at hb))) | (((with_reducible apply gC2); exact rfl) <;> (intro hb; rw [hb]))))
      refine ⟨hk2, trivial, ?_⟩
      rw [hs']
      (exact LeV [])
  · have d1 : decide ((k : Int) < (C.length : Int)) = false := by simp only [decide_eq_false_iff_not]; omega
    obtain rfl : k = C.length := by omega
    generalize rbN Q C C.length = s at *
    obtain ⟨sp, sl⟩ := s
    dsimp only
    by_cases hn : sl < 0
    · have t2 : decide (sl < 0) = true := by simp [hn]
      rw [if_pos hn]
      (repeat' (first | (refine nx ?_) | (refine WD_unk (by exact rfl) ?_; ((refine WD_tf (by exact rfl) (by exact rfl) ?_ ?_) <;> (intro hb; (fail_if_success (with_reducible injection hb)); rw [hb]; (try simp only [List.length_map] at hb)))) | ((with_reducible apply WD_id); first | (refine WD_cut htb ?_) | (refine WD_cut3 htb ?_) | (refine WD_lens htb ?_) | (refine WD_caps htb ?_) | (refine WD_cps htb ?_) | (refine WD_cpp htb ?_) | (refine WD_api htb ?_) | (refine WD_apz htb ?_) | (refine WD_clr htb ?_)) | ((refine WD_tf (by exact rfl) (by exact rfl) ?_ ?_) <;> (intro hb; (fail_if_success (with_reducible injection hb)); rw [hb]; (try simp only [List.length_map] at hb))) | (((with_reducible apply gC2); exact rfl) <;> (intro hb; rw [hb]))))
      (exact glV [(10, lT []), (11, vI 0), (12, vI 73)] [] (LeV []))
    · have t2 : decide (sl < 0) = false := by simp [hn]
      rw [if_neg hn]
      (repeat' (first | (refine nx ?_) | (refine WD_unk (by exact rfl) ?_; ((refine WD_tf (by exact rfl) (by exact rfl) ?_ ?_) <;> (intro hb; (fail_if_success (with_reducible injection hb)); rw [hb]; (try simp only [List.length_map] at hb)))) | ((with_reducible apply WD_id); first | (refine WD_cut htb ?_) | (refine WD_cut3 htb ?_) | (refine WD_lens htb ?_) | (refine WD_caps htb ?_) | (refine WD_cps htb ?_) | (refine WD_cpp htb ?_) | (refine WD_api htb ?_) | (refine WD_apz htb ?_) | (refine WD_clr htb ?_)) | ((refine WD_tf (by exact rfl) (by exact rfl) ?_ ?_) <;> (intro hb; (fail_if_success (with_reducible injection hb)); rw [hb]; (try simp only [List.length_map] at hb))) | (((with_reducible apply gC2); exact rfl) <;> (intro hb; rw [hb]))))
      exact gE (.inr rfl) rfl rfl trivial
theorem bestX_re (g : Led) (b : Int) (v : ByteArray) (j : Int) (u : ByteArray) (i : Int) (n : Int) (l : List TA) (c e : Int) (hl : g.lins.length ≤ 1000) (ha : g.accs.length ≤ 1000) (ho : g.offs.length ≤ 8) (he : bestG g b v j u i n = (l, c, e)) :
    FnM Tryz.prog 25 [] [aG g, vI b, aT v j, aT u i, vI n] (.tup [lT l, vI c, vI e]) [] := by
  have := bestX_rm g b v j u i n hl ha ho
  rwa [he] at this
end Go.Proofs.YtgebgpdoddjfhaaGreat

/- Contract of the source's path. -/
namespace Go.Proofs.YtgebgpdoddjfhaaGreat
set_option linter.unusedSimpArgs false
set_option linter.unusedVariables false
set_option linter.unnecessarySimpa false
set_option linter.unusedSectionVars false
set_option maxRecDepth 100000
open Go Go.RowKit Go.Am Go.Proofs.Grow

def pathS (s : Sc) : Nat → List TA × Sc
  | 0 => ([], s)
  | k + 1 => ((pathS s k).1 ++ [((nth assets3 ((pathS s k).2.n 3).toNat).1, (nth assets3 ((pathS s k).2.n 3).toNat).2)], (pathS s k).2.x 3)
def pathF (s : Sc) : List TA × Sc := pathS (s.x 4) (s.n 4).toNat
theorem pathS_ok {s : Sc} (h : s.ok) (k : Nat) : (pathS s k).2.ok := by
  induction k with
  | zero => exact h
  | succ k ih => exact Sc.ok_x ih 3
theorem pathS_len (s : Sc) (k : Nat) : (pathS s k).1.length = k := by
  induction k with
  | zero => rfl
  | succ k ih => simp [pathS, ih]
theorem pathS_all (s : Sc) (k : Nat) : ∀ x ∈ (pathS s k).1, assetB x.1 x.2 = true := by
  induction k with
  | zero => intro x hx; cases hx
  | succ k ih =>
    intro x hx
    simp only [pathS, List.mem_append, List.mem_singleton] at hx
    rcases hx with hx | rfl
    · exact ih x hx
    · have h := (pathS s k).2.n_bd (k := 3) (by decide)
      exact asset3_ok h.1 (by omega)
set_option maxHeartbeats 4000000 in
theorem path_m (s : Sc) (hs : s.ok) : FnM Tryz.prog 18 [s.box] [.ptr 9000 0] (lT (pathF s).1) [(pathF s).2.box] := by
  refine FnM.of htb Tryz.func18 rfl rfl rfl rfl rfl fun cx hN h0 => ?_
  have o1 := Sc.ok_x hs 4
  have b1 := s.n_bd (k := 4) (by decide)
  (repeat' (first | (refine nx ?_) | (refine WD_unk (by exact rfl) ?_; ((refine WD_tf (by exact rfl) (by exact rfl) ?_ ?_) <;> (intro hb; (fail_if_success (with_reducible injection hb)); rw [hb]; (try simp only [List.length_map] at hb)))) | (refine WD_call (by exact rfl) ?_; first | (refine WD_cM (N_m _ _ ?_ ?_) ?_; (exact hypS); (exact hypS))) | ((refine WD_tf (by exact rfl) (by exact rfl) ?_ ?_) <;> (intro hb; (fail_if_success (with_reducible injection hb)); rw [hb]; (try simp only [List.length_map] at hb))) | (((with_reducible apply gC2); exact rfl) <;> (intro hb; rw [hb]))))
  refine WA_le (Le_nilT 60 3 30 2 rfl rfl) ?_
  (refine WA_forV ((s.n 4).toNat) [3, 4] [9000, 60] (fun k => [(4, vI (s.n 4 - (k : Int))), (3, .own 60)]) (fun k => [Sc.box (pathS (s.x 4) k).2, (60, .arr 30 2 ((pathS (s.x 4) k).1.map rT))]) (fun k => True) ?h0 ?_)
  case h0 => trivial
  intro k hk _
  have ok := pathS_ok o1 k
  have okl := pathS_len (s.x 4) k
  by_cases hk2 : k < (s.n 4).toNat
  · have d1 : decide (s.n 4 - (k : Int) > 0) = true := by simp only [decide_eq_true_eq]; omega
    (repeat' (first | (refine nx ?_) | (refine WD_unk (by exact rfl) ?_; ((refine WD_tf (by exact rfl) (by exact rfl) ?_ ?_) <;> (intro hb; (fail_if_success (with_reducible injection hb)); rw [hb]; (try simp only [List.length_map] at hb)))) | (refine WD_call (by exact rfl) ?_; first | (refine WD_cM (asset_m _ ?_) ?_; (exact hypS))) | ((refine WD_tf (by exact rfl) (by exact rfl) ?_ ?_) <;> (intro hb; (fail_if_success (with_reducible injection hb)); rw [hb]; (try simp only [List.length_map] at hb))) | (((with_reducible apply gC2); exact rfl) <;> (intro hb; rw [hb]))))
    refine ⟨hk2, trivial, ?_⟩
    have e : s.n 4 - (k : Int) - 1 = s.n 4 - ((k + 1 : Nat) : Int) := by omega
    have hrow : (pathS (s.x 4) k).1.map rT ++ [rT ((nth assets3 ((pathS (s.x 4) k).2.n 3).toNat).1, (nth assets3 ((pathS (s.x 4) k).2.n 3).toNat).2)] = (pathS (s.x 4) (k + 1)).1.map rT := by simp [pathS]
    rw [e]
    (exact LeV [(60, 15)])
  · have d1 : decide (s.n 4 - (k : Int) > 0) = false := by simp only [decide_eq_false_iff_not]; omega
    obtain rfl : k = (s.n 4).toNat := by omega
    (repeat' (first | (refine nx ?_) | (refine WD_unk (by exact rfl) ?_; ((refine WD_tf (by exact rfl) (by exact rfl) ?_ ?_) <;> (intro hb; (fail_if_success (with_reducible injection hb)); rw [hb]; (try simp only [List.length_map] at hb)))) | ((refine WD_tf (by exact rfl) (by exact rfl) ?_ ?_) <;> (intro hb; (fail_if_success (with_reducible injection hb)); rw [hb]; (try simp only [List.length_map] at hb))) | (((with_reducible apply gC2); exact rfl) <;> (intro hb; rw [hb]))))
    (exact glV [(2, lT (pathF s).1)] [Sc.box (pathF s).2] (LeV []))
end Go.Proofs.YtgebgpdoddjfhaaGreat

/- PathsExact: the walk. -/
namespace Go.Proofs.YtgebgpdoddjfhaaGreat
set_option linter.unusedSimpArgs false
set_option linter.unusedVariables false
set_option linter.unnecessarySimpa false
set_option linter.unusedSectionVars false
set_option maxRecDepth 100000
open Go Go.ChangeShapes Go.WideShapes Go.Deep Go.RowKit Go.Am Go.Proofs.Grow

theorem WD_ixp {P : Program} {tbl : List (Nat × TI)} {ops r : List Oper} {o : Oper} {fin : List (List Nat × List Nat) → List (Nat × AV) → List (Nat × AO) → Prop} {acc : List (List Nat × List Nat)} {T : List (Nat × AV)} {M : List (Nat × AO)} (htb : TOK P tbl) {d : Tmp} {ty e : TypeId} {x y : Operand} {i j : TI} {g off n : Nat} {kk : IntKind} {q : Int} (k : WD P ops fin r (([], []) :: acc) ((d, .ptr g (off + n * j.size)) :: T) M) (ho : o.op = .indexAddr ty x y := by exact rfl)
    (hg : gd ops T o = some true := by exact rfl) (hd : o.dst = some d := by exact rfl) (ht : lk tbl ty = some i := by exact rfl) (ha : i.agg = true := by exact rfl) (he : i.el = some e := by exact rfl) (hj : lk tbl e = some j := by exact rfl) (hx : evA (lk T) x = some (.ptr g off) := by exact rfl)
    (hy : evA (lk T) y = some (.d (.v (.int kk q))) := by exact rfl) (hq : q = (n : Int) := by first | exact rfl | exact (Int.toNat_of_nonneg (by decide)).symm) (hn : Nat.blt n i.len = true := by exact rfl) : WD P ops fin (o :: r) acc T M := WD_dv hg hd (step_index_arr htb ho ht ha he hj hx (by rw [hy, hq]) hn) k
section
variable {o : Oper} {x : Operand} {T : Nat → Option AV} {M : Nat → Option AO}
theorem lenS_step {u : ByteArray} (ho : o.op = .call { callee := .builtin .len, args := #[x], argTypes := #[9] }) (hx : evA T x = some (vS u)) (_h : (0 : Nat) = 0) : StepOK Tryz.prog o T M ⟨vI u.size, [], []⟩ :=
  step_len_str htb ho Tryz.underlying9 hx
end
def small9 (g : Led) : Bool := decide (g.accs.length ≤ 10) && (decide (g.lins.length ≤ 10) && decide (g.offs.length ≤ 8))
theorem small9_m (g : Led) : FnM Tryz.prog 4 [] [aG g] (vB (small9 g)) [] := by
  refine FnM.of htb Tryz.func4 rfl rfl rfl rfl rfl fun cx hN h0 => ?_
  (repeat' (first | (refine nx ?_) | ((with_reducible apply WD_id); first | (refine WD_ixp htb ?_)) | (refine WD_unk (by exact rfl) ?_; ((refine WD_tf (by exact rfl) (by exact rfl) ?_ ?_) <;> (intro hb; (fail_if_success (with_reducible injection hb)); rw [hb]; (try simp only [List.length_map] at hb)))) | ((refine WD_tf (by exact rfl) (by exact rfl) ?_ ?_) <;> (intro hb; (fail_if_success (with_reducible injection hb)); rw [hb]; (try simp only [List.length_map] at hb))) | (((with_reducible apply gC2); exact rfl) <;> (intro hb; rw [hb]))))
  all_goals refine gE (.inr rfl) rfl (congrArg vB ?_) trivial
  all_goals simp only [small9, decide_eq_true_eq, decide_eq_false_iff_not] at *
  · have h1 : g.accs.length ≤ 10 := by omega
    have h2 : g.lins.length ≤ 10 := by omega
    rw [decide_eq_true h1, decide_eq_true h2]
    simp only [Bool.true_and]
    exact decide_eq_decide.2 (by omega)
  · have h1 : g.accs.length ≤ 10 := by omega
    have h2 : ¬ g.lins.length ≤ 10 := by omega
    rw [decide_eq_true h1, decide_eq_false h2]; rfl
  · have h1 : ¬ g.accs.length ≤ 10 := by omega
    rw [decide_eq_false h1]; rfl
def shortB (l : List TA) : Bool := decide (idxF (fun a : TA => decide (((a.1.size : Nat) : Int) > 40)) 0 l < 0) && decide (l.length ≤ 8)
theorem short9_m (l : List TA) (hl : l.length ≤ maxLen) : FnM Tryz.prog 5 [] [lT l] (vB (shortB l)) [] := by
  refine FnM.of htb Tryz.func5 rfl rfl rfl rfl rfl fun cx hN h0 => ?_
  unfold maxLen at hl
  (repeat' (first | (refine nx ?_) | ((with_reducible apply WD_id); first | (refine WD_ixp htb ?_)) | (refine WD_unk (by exact rfl) ?_; ((refine WD_tf (by exact rfl) (by exact rfl) ?_ ?_) <;> (intro hb; (fail_if_success (with_reducible injection hb)); rw [hb]; (try simp only [List.length_map] at hb)))) | ((refine WD_tf (by exact rfl) (by exact rfl) ?_ ?_) <;> (intro hb; (fail_if_success (with_reducible injection hb)); rw [hb]; (try simp only [List.length_map] at hb))) | (((with_reducible apply gC2); exact rfl) <;> (intro hb; rw [hb]))))
  (refine WA_forV (l.length) [7] [] (fun k => [(7, vI k)]) (fun k => []) (fun k => idxF (fun a : TA => decide (((a.1.size : Nat) : Int) > 40)) 0 l = idxF (fun a : TA => decide (((a.1.size : Nat) : Int) > 40)) k (l.drop k)) ?h0 ?_)
  case h0 => rfl
  intro k hk hI
  (repeat' (first | ((with_reducible apply WD_id); first | (refine WD_eq (lenS_step rfl rfl rfl) ?_)) | (refine nx ?_) | ((with_reducible apply WD_id); first | (refine WD_ixp htb ?_)) | (refine WD_unk (by exact rfl) ?_; ((refine WD_tf (by exact rfl) (by exact rfl) ?_ ?_) <;> (intro hb; (fail_if_success (with_reducible injection hb)); rw [hb]; (try simp only [List.length_map] at hb)))) | ((refine WD_tf (by exact rfl) (by exact rfl) ?_ ?_) <;> (intro hb; (fail_if_success (with_reducible injection hb)); rw [hb]; (try simp only [List.length_map] at hb))) | (((with_reducible apply gC2); exact rfl) <;> (intro hb; rw [hb]))))
  · have e := idx_hit hI (by simp at *; omega) (by assumption)
    refine gE (.inr rfl) rfl (congrArg vB ?_) trivial
    unfold shortB; rw [e]; simp; omega
  · refine ⟨by simp at *; omega, idx_miss hI (by simp at *; omega) (by assumption), ?_⟩
    (exact LeV [])
  all_goals
    have e := idx_end hI (by simp at *; omega)
    refine gE (.inr rfl) rfl (congrArg vB ?_) trivial
    unfold shortB; rw [e]; simp; omega
theorem pay_lensX {g : Led} {a b : Int} {u : ByteArray} {i n : Int} {x : Led} {e : Int} (he : payF g a b u i n = (x, e)) : x.lins.length ≤ g.lins.length ∧ x.accs.length ≤ g.accs.length ∧ x.offs.length ≤ g.offs.length := by
  have hx : x = (payF g a b u i n).1 := by rw [he]
  subst hx
  unfold payF moveF
  rcases hD : debitF g a u i n with ⟨x2, e2⟩
  have l2 := debit_lens hD
  dsimp only
  rcases hC : creditF x2 b u i n with ⟨x3, e3⟩
  have l3 := credit_lens hC
  dsimp only
  repeat' split
  all_goals first | (simp [led0]; done) | (dsimp only; omega)
theorem send_lensX {g : Led} {a b : Int} {v : ByteArray} {j : Int} {u : ByteArray} {i : Int} {l : List TA} {n most : Int} {x : Led} {p e : Int} (he : sendF g a b v j u i l n most = (x, p, e)) : x.lins.length ≤ g.lins.length ∧ x.accs.length ≤ g.accs.length ∧ x.offs.length ≤ g.offs.length := by
  have hx : x = (sendF g a b v j u i l n most).1 := by rw [he]
  subst hx
  unfold sendF moveF
  rcases hV : convF g a (chainF v j u i l) n with ⟨x1, p1, e1⟩
  have l1 := conv_lens _ hV
  dsimp only
  rcases hD : debitF x1 a v j p1 with ⟨x2, e2⟩
  have l2 := debit_lens hD
  dsimp only
  rcases hC : creditF x2 b u i n with ⟨x3, e3⟩
  have l3 := credit_lens hC
  dsimp only
  repeat' split
  all_goals first | (simp [led0]; done) | (dsimp only; omega)
theorem best_lenX {g : Led} {b : Int} {v : ByteArray} {j : Int} {u : ByteArray} {i n : Int} {l : List TA} {c e : Int} (he : bestG g b v j u i n = (l, c, e)) : l.length ≤ 1000 := by
  have hx : l = (bestG g b v j u i n).1 := by rw [he]
  subst hx
  unfold bestG
  split
  · simp
  · rename_i h
    have h1 := (bst_yes (q := fun p => quoteF g b v j u i p n) (ps := candF (assetsF g.offs)) _ (Nat.le_refl _) (by simpa using h)).1
    have := candF_two h1
    dsimp only
    omega
theorem payY_re (g : Led) (a b : Int) (u : ByteArray) (i n : Int) (x : Led) (e : Int) (hl : g.lins.length ≤ 1000) (ha : g.accs.length ≤ 1000) (ho : g.offs.length ≤ 1000) (he : payF g a b u i n = (x, e)) :
    FnM Tryz.prog 16 [] [aG g, vI a, vI b, aT u i, vI n] (.tup [aG x, vI e]) [] := by
  have := payR_rm g a b u i n hl ha ho
  rwa [he] at this
theorem sendY_re (g : Led) (a b : Int) (v : ByteArray) (j : Int) (u : ByteArray) (i : Int) (l : List TA) (n most : Int) (x : Led) (p e : Int) (hl : g.lins.length ≤ 1000) (ha : g.accs.length ≤ 1000) (ho : g.offs.length ≤ 12) (hp : l.length ≤ 900) (he : sendF g a b v j u i l n most = (x, p, e)) :
    FnM Tryz.prog 20 [] [aG g, vI a, vI b, aT v j, aT u i, lT l, vI n, vI most] (.tup [aG x, vI p, vI e]) [] := by
  have := sendR_rm g a b v j u i l n most hl ha ho hp
  rwa [he] at this
theorem ledh_e (s : Sc) (t : Led × Sc) (hs : s.ok) (he : ledF s = t) : FnM Tryz.prog 8 [s.box] [.ptr 9000 0] (aG t.1) [t.2.box] := he ▸ led_m s hs
theorem three39 {m : Nat} (h : m < 3) : m = 0 ∨ m = 1 ∨ m = 2 := by omega
instance : Inhabited Led := ⟨led0⟩
/-- Two assets. -/
structure Par where
  u : ByteArray
  i : Int
  v : ByteArray
  j : Int
instance : Inhabited Par := ⟨⟨⟨#[]⟩, 0, ⟨#[]⟩, 0⟩⟩
/-- Four numbers. -/
structure Qua where
  a : Int
  b : Int
  c : Int
  d : Int
instance : Inhabited Qua := ⟨⟨0, 0, 0, 0⟩⟩
def most39 : List Int := [5, 100, 5000]
set_option maxHeartbeats 32000000 in
theorem path39_m (z : List Int) (g2 : Led) (ua : ByteArray) (ia : Int) (ub : ByteArray) (ib : Int) (l : List TA) (a0 b0 n0 m0 : Int) (hl : l.length ≤ maxLen) : FnM Tryz.prog 3 [] [lI z, aG g2, aT ua ia, aT ub ib, lT l, vI a0, vI b0, vI n0, vI m0] (vB true) [] := by
  refine FnM.of htb Tryz.func3 rfl rfl rfl rfl rfl fun cx hN h0 => ?_
  cases hsm : small9 g2 with
  | false =>
    have t1 : (!small9 g2) = true := by simp [hsm]
    (repeat' (first | ((with_reducible apply WD_id); first | (refine WD_eq (lenS_step rfl rfl rfl) ?_)) | (refine nx ?_) | ((with_reducible apply WD_id); first | (refine WD_ixp htb ?_)) | (refine WD_unk (by exact rfl) ?_; ((refine WD_tf (by exact rfl) (by exact rfl) ?_ ?_) <;> (intro hb; (fail_if_success (with_reducible injection hb)); rw [hb]; (try simp only [List.length_map] at hb)))) | (refine WD_call (by exact rfl) ?_; first | (refine WD_c0 (small9_m _) ?_) | (refine WD_c0 (sane39_m) ?_)) | ((refine WD_tf (by exact rfl) (by exact rfl) ?_ ?_) <;> (intro hb; (fail_if_success (with_reducible injection hb)); rw [hb]; (try simp only [List.length_map] at hb))) | (((with_reducible apply gC2); exact rfl) <;> (intro hb; rw [hb]))))
    exact gE (.inr rfl) rfl rfl trivial
  | true =>
  have t1 : (!small9 g2) = false := by simp [hsm]
  cases hsh : shortB l with
  | false =>
    have t0 : (!shortB l) = true := by simp [hsh]
    (repeat' (first | ((with_reducible apply WD_id); first | (refine WD_eq (lenS_step rfl rfl rfl) ?_)) | (refine nx ?_) | ((with_reducible apply WD_id); first | (refine WD_ixp htb ?_)) | (refine WD_unk (by exact rfl) ?_; ((refine WD_tf (by exact rfl) (by exact rfl) ?_ ?_) <;> (intro hb; (fail_if_success (with_reducible injection hb)); rw [hb]; (try simp only [List.length_map] at hb)))) | (refine WD_call (by exact rfl) ?_; first | (refine WD_c0 (small9_m _) ?_) | (refine WD_c0 (short9_m _ ?_) ?_; (exact hypS)) | (refine WD_c0 (sane39_m) ?_)) | ((refine WD_tf (by exact rfl) (by exact rfl) ?_ ?_) <;> (intro hb; (fail_if_success (with_reducible injection hb)); rw [hb]; (try simp only [List.length_map] at hb))) | (((with_reducible apply gC2); exact rfl) <;> (intro hb; rw [hb]))))
    exact gE (.inr rfl) rfl rfl trivial
  | true =>
  have t0 : (!shortB l) = false := by simp [hsh]
  by_cases h60 : ((ua.size : Nat) : Int) > 40
  · have t2 : decide (((ua.size : Nat) : Int) > 40) = true := by simpa using h60
    (repeat' (first | ((with_reducible apply WD_id); first | (refine WD_eq (lenS_step rfl rfl rfl) ?_)) | (refine nx ?_) | ((with_reducible apply WD_id); first | (refine WD_ixp htb ?_)) | (refine WD_unk (by exact rfl) ?_; ((refine WD_tf (by exact rfl) (by exact rfl) ?_ ?_) <;> (intro hb; (fail_if_success (with_reducible injection hb)); rw [hb]; (try simp only [List.length_map] at hb)))) | (refine WD_call (by exact rfl) ?_; first | (refine WD_c0 (small9_m _) ?_) | (refine WD_c0 (short9_m _ ?_) ?_; (exact hypS)) | (refine WD_c0 (sane39_m) ?_)) | ((refine WD_tf (by exact rfl) (by exact rfl) ?_ ?_) <;> (intro hb; (fail_if_success (with_reducible injection hb)); rw [hb]; (try simp only [List.length_map] at hb))) | (((with_reducible apply gC2); exact rfl) <;> (intro hb; rw [hb]))))
    exact gE (.inr rfl) rfl rfl trivial
  have t2 : decide (((ua.size : Nat) : Int) > 40) = false := by simpa using h60
  by_cases h61 : ((ub.size : Nat) : Int) > 40
  · have t3 : decide (((ub.size : Nat) : Int) > 40) = true := by simpa using h61
    (repeat' (first | ((with_reducible apply WD_id); first | (refine WD_eq (lenS_step rfl rfl rfl) ?_)) | (refine nx ?_) | ((with_reducible apply WD_id); first | (refine WD_ixp htb ?_)) | (refine WD_unk (by exact rfl) ?_; ((refine WD_tf (by exact rfl) (by exact rfl) ?_ ?_) <;> (intro hb; (fail_if_success (with_reducible injection hb)); rw [hb]; (try simp only [List.length_map] at hb)))) | (refine WD_call (by exact rfl) ?_; first | (refine WD_c0 (small9_m _) ?_) | (refine WD_c0 (short9_m _ ?_) ?_; (exact hypS)) | (refine WD_c0 (sane39_m) ?_)) | ((refine WD_tf (by exact rfl) (by exact rfl) ?_ ?_) <;> (intro hb; (fail_if_success (with_reducible injection hb)); rw [hb]; (try simp only [List.length_map] at hb))) | (((with_reducible apply gC2); exact rfl) <;> (intro hb; rw [hb]))))
    exact gE (.inr rfl) rfl rfl trivial
  have t3 : decide (((ub.size : Nat) : Int) > 40) = false := by simpa using h61
  have hs : Sc.ok ⟨z.take 800, 0⟩ := ⟨Nat.zero_le _, by simp; omega⟩
  have hm := ledF_made ⟨z.take 800, 0⟩
  have hlen := ledF_lens ⟨z.take 800, 0⟩
  have ho := ledF_ok hs
  generalize ht : ledF ⟨z.take 800, 0⟩ = t at *
  obtain ⟨l1, l2, l3⟩ := hlen
  have m1 := hm.one
  have m5 := hm.five
  obtain ⟨tb, htb2⟩ : ∃ tb, bentF t.2 t.1 = tb := ⟨_, rfl⟩
  have hbl := bentF_lens t.2 t.1
  have hbo := bentF_ok ho t.1
  rw [htb2] at hbl hbo
  have c1 : 1 ≤ t.1.accs.length := by omega
  have c2 : t.1.accs.length ≤ 900 := by omega
  have c3 : t.1.lins.length ≤ 900 := by omega
  have c4 : t.1.offs.length ≤ 900 := by omega
  have hsm2 : g2.accs.length ≤ 900 ∧ g2.lins.length ≤ 900 ∧ g2.offs.length ≤ 8 := by
    unfold small9 at hsm
    simp only [Bool.and_eq_true, decide_eq_true_eq] at hsm
    omega
  have hll : l.length ≤ 8 := by
    unfold shortB at hsh
    simp only [Bool.and_eq_true, decide_eq_true_eq] at hsh
    exact hsh.2
  have hl9 : l.length ≤ 1000 := by omega
  have hb2 : tb.1.accs.length ≤ 900 ∧ tb.1.lins.length ≤ 900 ∧ tb.1.offs.length ≤ 8 := by omega
  have hb0 : t.1.accs.length ≤ 900 ∧ t.1.lins.length ≤ 900 ∧ t.1.offs.length ≤ 8 := by omega
  have t4 : (validP l != validP l) = false := by simp
  (repeat' (first | ((with_reducible apply WD_id); first | (refine WD_eq (lenS_step rfl rfl rfl) ?_) | (refine WD_eq (neB_step rfl rfl rfl) ?_)) | (refine nx ?_) | ((with_reducible apply WD_id); first | (refine WD_ixp htb ?_)) | (refine WD_unk (by exact rfl) ?_; ((refine WD_tf (by exact rfl) (by exact rfl) ?_ ?_) <;> (intro hb; (fail_if_success (with_reducible injection hb)); rw [hb]; (try simp only [List.length_map] at hb)))) | (refine WD_call (by exact rfl) ?_; first | (refine WD_c0 (small9_m _) ?_) | (refine WD_c0 (short9_m _ ?_) ?_; (exact hypS)) | (refine WD_cM (new_m _) ?_) | (refine WD_eM (fun h => ledh_e _ _ ?_ h) ?_; (exact hypS)) | (refine WD_c0 (validP_pm _ ?_) ?_; (exact hypS)) | (refine WD_c0 (validR_rm _ ?_) ?_; (exact hypS)) | (refine WD_eM (fun h => bent_e (g := t.1) (t := tb) _ ?_ ?_ ?_ ?_ ?_ h) ?_; (exact hypS); (exact hypS); (exact hypS); (exact hypS); (exact hypS))) | ((refine WD_tf (by exact rfl) (by exact rfl) ?_ ?_) <;> (intro hb; (fail_if_success (with_reducible injection hb)); rw [hb]; (try simp only [List.length_map] at hb))) | (((with_reducible apply gC2); exact rfl) <;> (intro hb; rw [hb]))))
  generalize tb.2 = s0 at *
  generalize tb.1 = g1 at *
  generalize t.1 = g0 at *
  clear hs hm ho ht hsm hsh h60 h61 t0 t1 t2 t3 t4 m1 m5 htb2 hbl c1 c2 c3 c4 l1 l2 l3 hl9
  refine WA_le (s' := ⟨[(79, vI 0), (78, .agg [vI g0.num, lA g0.accs, lL g0.lins, lO g0.offs, vI g0.nid, vI g0.fees, vU g0.link, vI g1.num, lA g1.accs, lL g1.lins, lO g1.offs, vI g1.nid, vI g1.fees, vU g1.link, vI g2.num, lA g2.accs, lL g2.lins, lO g2.offs, vI g2.nid, vI g2.fees, vU g2.link]), (19, .ptr 9000 0), (12, .ptr 12 0), (11, .ptr 11 0), (8, vI m0), (7, vI n0), (6, vI b0), (5, vI a0), (4, lT l)], [(11, .box 30 [vS ua, vI ia]), (12, .box 30 [vS ub, vI ib]), Sc.box s0]⟩) (LeV []) ?_
  (refine WA_anyV (α := Nat × Sc) (fun x => 3 - x.1) ((0, s0)) [79] [9000] (fun x => [(79, vI x.1)]) (fun x => [Sc.box x.2]) (fun x => x.1 ≤ 3 ∧ x.2.ok) ?h0 ?_)
  case h0 => exact ⟨Nat.zero_le _, hbo⟩
  clear hbo
  rintro ⟨a, s⟩ ⟨ha3, os⟩
  dsimp only at ha3 os
  by_cases ha : a < 3
  case neg =>
    obtain rfl : a = 3 := by omega
    have d1 : decide (((3 : Nat) : Int) < 3) = false := by decide
    (repeat' (first | (refine nx ?_) | ((with_reducible apply WD_id); first | (refine WD_ixp htb ?_)) | (refine WD_unk (by exact rfl) ?_; ((refine WD_tf (by exact rfl) (by exact rfl) ?_ ?_) <;> (intro hb; (fail_if_success (with_reducible injection hb)); rw [hb]; (try simp only [List.length_map] at hb)))) | (refine WD_call (by exact rfl) ?_; first | (refine WD_c0 (sane39_m) ?_)) | ((refine WD_tf (by exact rfl) (by exact rfl) ?_ ?_) <;> (intro hb; (fail_if_success (with_reducible injection hb)); rw [hb]; (try simp only [List.length_map] at hb))) | (((with_reducible apply gC2); exact rfl) <;> (intro hb; rw [hb]))))
    exact gE (.inr rfl) rfl rfl trivial
  have d1 : decide ((a : Int) < 3) = true := by simp only [decide_eq_true_eq]; omega
  obtain ⟨x1, x2, x3⟩ : (nth [g0, g1, g2] a).accs.length ≤ 900 ∧ (nth [g0, g1, g2] a).lins.length ≤ 900 ∧ (nth [g0, g1, g2] a).offs.length ≤ 8 := by rcases three39 ha with rfl | rfl | rfl <;> assumption
  (repeat' (first | (refine nx ?_) | ((with_reducible apply WD_id); first | (refine WD_ixp htb ?_)) | (refine WD_unk (by exact rfl) ?_; ((refine WD_tf (by exact rfl) (by exact rfl) ?_ ?_) <;> (intro hb; (fail_if_success (with_reducible injection hb)); rw [hb]; (try simp only [List.length_map] at hb)))) | ((refine WD_tf (by exact rfl) (by exact rfl) ?_ ?_) <;> (intro hb; (fail_if_success (with_reducible injection hb)); rw [hb]; (try simp only [List.length_map] at hb))) | (((with_reducible apply gC2); exact rfl) <;> (intro hb; rw [hb]))))
  refine WD_ixa htb (n := a) (ds := [vI (nth [g0, g1, g2] a).num, lA (nth [g0, g1, g2] a).accs, lL (nth [g0, g1, g2] a).lins, lO (nth [g0, g1, g2] a).offs, vI (nth [g0, g1, g2] a).nid, vI (nth [g0, g1, g2] a).fees, vU (nth [g0, g1, g2] a).link]) ?_ (hn := by rcases three39 ha with rfl | rfl | rfl <;> rfl) (hs := by rcases three39 ha with rfl | rfl | rfl <;> rfl)
  generalize nth [g0, g1, g2] a = X at *
  clear hb0 hb2 hsm2
  have os1 : (s.x 3).ok := Sc.ok_x os 3
  (repeat' (first | (refine nx ?_) | ((with_reducible apply WD_id); first | (refine WD_ixp htb ?_)) | (refine WD_unk (by exact rfl) ?_; ((refine WD_tf (by exact rfl) (by exact rfl) ?_ ?_) <;> (intro hb; (fail_if_success (with_reducible injection hb)); rw [hb]; (try simp only [List.length_map] at hb)))) | (refine WD_call (by exact rfl) ?_; first | (refine WD_cM (asset_m _ ?_) ?_; (exact hypS))) | ((refine WD_tf (by exact rfl) (by exact rfl) ?_ ?_) <;> (intro hb; (fail_if_success (with_reducible injection hb)); rw [hb]; (try simp only [List.length_map] at hb))) | (((with_reducible apply gC2); exact rfl) <;> (intro hb; rw [hb]))))
  have os2 : ((s.x 3).x 3).ok := Sc.ok_x os1 3
  generalize nth assets3 (s.n 3).toNat = A1 at *
  generalize nth assets3 ((s.x 3).n 3).toNat = B1 at *
  generalize (s.x 3).x 3 = s1 at *
  clear d1 os os1
  refine WA_le (s' := ⟨[(92, vI 0), (91, .agg [vS ua, vI ia, vS ub, vI ib, vS A1.1, vI A1.2, vS B1.1, vI B1.2]), (22, .ptr 22 0), (21, vI a), (79, vI a), (78, .agg [vI g0.num, lA g0.accs, lL g0.lins, lO g0.offs, vI g0.nid, vI g0.fees, vU g0.link, vI g1.num, lA g1.accs, lL g1.lins, lO g1.offs, vI g1.nid, vI g1.fees, vU g1.link, vI g2.num, lA g2.accs, lL g2.lins, lO g2.offs, vI g2.nid, vI g2.fees, vU g2.link]), (19, .ptr 9000 0), (12, .ptr 12 0), (11, .ptr 11 0), (8, vI m0), (7, vI n0), (6, vI b0), (5, vI a0), (4, lT l)], [(22, .box 28 (cellsOf (aG X))), (11, .box 30 [vS ua, vI ia]), (12, .box 30 [vS ub, vI ib]), Sc.box s1]⟩) (LeV []) ?_
  (refine WA_anyV (α := Nat × Sc) (fun x => 2 - x.1) ((0, s1)) [92] [9000] (fun x => [(92, vI x.1)]) (fun x => [Sc.box x.2]) (fun x => x.1 ≤ 2 ∧ x.2.ok) ?h0 ?_)
  case h0 => exact ⟨Nat.zero_le _, os2⟩
  clear os2
  rintro ⟨b, s⟩ ⟨hb3, os⟩
  dsimp only at hb3 os
  have p1 : X.lins.length ≤ 1000 := by omega
  have p2 : X.accs.length ≤ 1000 := by omega
  have p3 : X.offs.length ≤ 1000 := by omega
  have p4 : X.offs.length ≤ 12 := by omega
  have p5 : X.offs.length ≤ 100 := by omega
  have p6 := assets_16 x3
  by_cases hb : b < 2
  case neg =>
    obtain rfl : b = 2 := by omega
    have d1 : decide (((2 : Nat) : Int) < 2) = false := by decide
    (repeat' (first | (refine nx ?_) | ((with_reducible apply WD_id); first | (refine WD_ixp htb ?_)) | (refine WD_unk (by exact rfl) ?_; ((refine WD_tf (by exact rfl) (by exact rfl) ?_ ?_) <;> (intro hb; (fail_if_success (with_reducible injection hb)); rw [hb]; (try simp only [List.length_map] at hb)))) | ((refine WD_tf (by exact rfl) (by exact rfl) ?_ ?_) <;> (intro hb; (fail_if_success (with_reducible injection hb)); rw [hb]; (try simp only [List.length_map] at hb))) | (((with_reducible apply gC2); exact rfl) <;> (intro hb; rw [hb]))))
    refine ⟨(a + 1, s), by dsimp only; omega, ⟨by dsimp only; omega, os⟩, ?_⟩
    (exact LeV [])
  have d1 : decide ((b : Int) < 2) = true := by simp only [decide_eq_true_eq]; omega
  (repeat' (first | (refine nx ?_) | ((with_reducible apply WD_id); first | (refine WD_ixp htb ?_)) | (refine WD_unk (by exact rfl) ?_; ((refine WD_tf (by exact rfl) (by exact rfl) ?_ ?_) <;> (intro hb; (fail_if_success (with_reducible injection hb)); rw [hb]; (try simp only [List.length_map] at hb)))) | ((refine WD_tf (by exact rfl) (by exact rfl) ?_ ?_) <;> (intro hb; (fail_if_success (with_reducible injection hb)); rw [hb]; (try simp only [List.length_map] at hb))) | (((with_reducible apply gC2); exact rfl) <;> (intro hb; rw [hb]))))
  refine WD_ixa htb (n := b) (ds := [vS (nth [Par.mk ua ia ub ib, Par.mk A1.1 A1.2 B1.1 B1.2] b).u, vI (nth [Par.mk ua ia ub ib, Par.mk A1.1 A1.2 B1.1 B1.2] b).i, vS (nth [Par.mk ua ia ub ib, Par.mk A1.1 A1.2 B1.1 B1.2] b).v, vI (nth [Par.mk ua ia ub ib, Par.mk A1.1 A1.2 B1.1 B1.2] b).j]) ?_ (hn := by rcases two39 hb with rfl | rfl <;> rfl) (hs := by rcases two39 hb with rfl | rfl <;> rfl)
  generalize nth [Par.mk ua ia ub ib, Par.mk A1.1 A1.2 B1.1 B1.2] b = P at *
  obtain ⟨P1, P2, Q1, Q2⟩ := P
  dsimp only
  (repeat' (first | (refine nx ?_) | ((with_reducible apply WD_id); first | (refine WD_ixp htb ?_)) | (refine WD_unk (by exact rfl) ?_; ((refine WD_tf (by exact rfl) (by exact rfl) ?_ ?_) <;> (intro hb; (fail_if_success (with_reducible injection hb)); rw [hb]; (try simp only [List.length_map] at hb)))) | (refine WD_call (by exact rfl) ?_; first | (refine WD_cM (Range_m _ _ _ ?_ ?_ ?_ ?_) ?_; (exact hypS); (exact hypS); (exact hypS); (exact hypS)) | (refine WD_cM (Pick_m (l := most39) _ ?_ ?_ ?_) ?_; (exact hypS); (exact hypS); (exact hypS))) | ((refine WD_tf (by exact rfl) (by exact rfl) ?_ ?_) <;> (intro hb; (fail_if_success (with_reducible injection hb)); rw [hb]; (try simp only [List.length_map] at hb))) | (((with_reducible apply gC2); exact rfl) <;> (intro hb; rw [hb]))))
  obtain ⟨r0, hr0⟩ : ∃ r0, 1 + s.n (5 - 1 + 1) = r0 := ⟨_, rfl⟩
  rw [hr0]
  have o1 : (s.x (5 - 1 + 1)).ok := Sc.ok_x os _
  generalize s.x (5 - 1 + 1) = sa at *
  obtain ⟨r1, hr1⟩ : ∃ r1, 1 + sa.n (5 - 1 + 1) = r1 := ⟨_, rfl⟩
  rw [hr1]
  have o2 : (sa.x (5 - 1 + 1)).ok := Sc.ok_x o1 _
  generalize sa.x (5 - 1 + 1) = sb at *
  obtain ⟨r2, hr2⟩ : ∃ r2, 0 + sb.n (60 - 0 + 1) = r2 := ⟨_, rfl⟩
  rw [hr2]
  have o3 : (sb.x (60 - 0 + 1)).ok := Sc.ok_x o2 _
  generalize sb.x (60 - 0 + 1) = sc at *
  obtain ⟨r3, hr3⟩ : ∃ r3, nth most39 (sc.n most39.length).toNat = r3 := ⟨_, rfl⟩
  rw [hr3]
  have o4 : (sc.x most39.length).ok := Sc.ok_x o3 _
  generalize sc.x most39.length = s2 at *
  clear d1 os hr0 hr1 hr2 hr3 o1 o2 o3
  refine WA_le (s' := ⟨[(111, vI 0), (110, .agg [vI a0, vI b0, vI n0, vI m0, vI r0, vI r1, vI r2, vI r3]), (24, .ptr 24 0), (92, vI b), (91, .agg [vS ua, vI ia, vS ub, vI ib, vS A1.1, vI A1.2, vS B1.1, vI B1.2]), (22, .ptr 22 0), (21, vI a), (79, vI a), (78, .agg [vI g0.num, lA g0.accs, lL g0.lins, lO g0.offs, vI g0.nid, vI g0.fees, vU g0.link, vI g1.num, lA g1.accs, lL g1.lins, lO g1.offs, vI g1.nid, vI g1.fees, vU g1.link, vI g2.num, lA g2.accs, lL g2.lins, lO g2.offs, vI g2.nid, vI g2.fees, vU g2.link]), (19, .ptr 9000 0), (12, .ptr 12 0), (11, .ptr 11 0), (8, vI m0), (7, vI n0), (6, vI b0), (5, vI a0), (4, lT l)], [(24, .box 40 [vS P1, vI P2, vS Q1, vI Q2]), (22, .box 28 (cellsOf (aG X))), (11, .box 30 [vS ua, vI ia]), (12, .box 30 [vS ub, vI ib]), Sc.box s2]⟩) (LeV []) ?_
  (refine WA_anyV (α := Nat × Sc) (fun x => 2 - x.1) ((0, s2)) [111] [9000] (fun x => [(111, vI x.1)]) (fun x => [Sc.box x.2]) (fun x => x.1 ≤ 2 ∧ x.2.ok) ?h0 ?_)
  case h0 => exact ⟨Nat.zero_le _, o4⟩
  clear o4
  rintro ⟨c, s⟩ ⟨hc3, os⟩
  dsimp only at hc3 os
  by_cases hc : c < 2
  case neg =>
    obtain rfl : c = 2 := by omega
    have d1 : decide (((2 : Nat) : Int) < 2) = false := by decide
    (repeat' (first | (refine nx ?_) | ((with_reducible apply WD_id); first | (refine WD_ixp htb ?_)) | (refine WD_unk (by exact rfl) ?_; ((refine WD_tf (by exact rfl) (by exact rfl) ?_ ?_) <;> (intro hb; (fail_if_success (with_reducible injection hb)); rw [hb]; (try simp only [List.length_map] at hb)))) | ((refine WD_tf (by exact rfl) (by exact rfl) ?_ ?_) <;> (intro hb; (fail_if_success (with_reducible injection hb)); rw [hb]; (try simp only [List.length_map] at hb))) | (((with_reducible apply gC2); exact rfl) <;> (intro hb; rw [hb]))))
    refine ⟨(b + 1, s), by dsimp only; omega, ⟨by dsimp only; omega, os⟩, ?_⟩
    (exact LeV [])
  have d1 : decide ((c : Int) < 2) = true := by simp only [decide_eq_true_eq]; omega
  (repeat' (first | (refine nx ?_) | ((with_reducible apply WD_id); first | (refine WD_ixp htb ?_)) | (refine WD_unk (by exact rfl) ?_; ((refine WD_tf (by exact rfl) (by exact rfl) ?_ ?_) <;> (intro hb; (fail_if_success (with_reducible injection hb)); rw [hb]; (try simp only [List.length_map] at hb)))) | ((refine WD_tf (by exact rfl) (by exact rfl) ?_ ?_) <;> (intro hb; (fail_if_success (with_reducible injection hb)); rw [hb]; (try simp only [List.length_map] at hb))) | (((with_reducible apply gC2); exact rfl) <;> (intro hb; rw [hb]))))
  refine WD_ixa htb (n := c) (ds := [vI (nth [Qua.mk a0 b0 n0 m0, Qua.mk r0 r1 r2 r3] c).a, vI (nth [Qua.mk a0 b0 n0 m0, Qua.mk r0 r1 r2 r3] c).b, vI (nth [Qua.mk a0 b0 n0 m0, Qua.mk r0 r1 r2 r3] c).c, vI (nth [Qua.mk a0 b0 n0 m0, Qua.mk r0 r1 r2 r3] c).d]) ?_ (hn := by rcases two39 hc with rfl | rfl <;> rfl) (hs := by rcases two39 hc with rfl | rfl <;> rfl)
  generalize nth [Qua.mk a0 b0 n0 m0, Qua.mk r0 r1 r2 r3] c = q at *
  obtain ⟨q0, q1, q2, q3⟩ := q
  dsimp only
  rcases hP : payF X q0 q1 P1 P2 q2 with ⟨z1, e1⟩
  obtain ⟨w1, w2, w3⟩ := pay_lensX hP
  have u1 : (!eqLed z1 z1) = false := by rw [eqLed_refl]; rfl
  have v1 : (e1 != e1) = false := by simp
  have hpo := pathS_ok (Sc.ok_x os 4) (s.n 4).toNat
  have hpl := pathS_len (s.x 4) (s.n 4).toNat
  have hpn := s.n_bd (k := 4) (by decide)
  (repeat' (first | (refine nx ?_) | ((with_reducible apply WD_id); first | (refine WD_ixp htb ?_)) | (refine WD_unk (by exact rfl) ?_; ((refine WD_tf (by exact rfl) (by exact rfl) ?_ ?_) <;> (intro hb; (fail_if_success (with_reducible injection hb)); rw [hb]; (try simp only [List.length_map] at hb)))) | (refine WD_call (by exact rfl) ?_; first | (refine WD_e0 (fun h => pay_pe _ _ _ _ _ _ _ _ ?_ ?_ ?_ h) ?_; (exact hypS); (exact hypS); (exact hypS)) | (refine WD_e0 (fun h => payY_re _ _ _ _ _ _ _ _ ?_ ?_ ?_ h) ?_; (exact hypS); (exact hypS); (exact hypS)) | (refine WD_c0 (sameO_rm (g := z1) (h := z1) ?_ ?_ ?_) ?_; (exact hypS); (exact hypS); (exact hypS)) | (refine WD_cM (path_m _ ?_) ?_; (exact hypS))) | ((refine WD_tf (by exact rfl) (by exact rfl) ?_ ?_) <;> (intro hb; (fail_if_success (with_reducible injection hb)); rw [hb]; (try simp only [List.length_map] at hb))) | (((with_reducible apply gC2); exact rfl) <;> (intro hb; rw [hb]))))
  have ho2 : (pathF s).2.ok := hpo
  have hpf : (pathF s).1.length ≤ 4 := by
    show (pathS (s.x 4) (s.n 4).toNat).1.length ≤ 4
    omega
  clear hpo hpl hpn d1 os u1 v1
  generalize (pathF s).2 = s3 at *
  generalize (pathF s).1 = pth at *
  refine WA_le (s' := ⟨[(153, vI 0), (152, .agg [lT l, lT pth]), (26, .ptr 26 0), (111, vI c), (110, .agg [vI a0, vI b0, vI n0, vI m0, vI r0, vI r1, vI r2, vI r3]), (24, .ptr 24 0), (92, vI b), (91, .agg [vS ua, vI ia, vS ub, vI ib, vS A1.1, vI A1.2, vS B1.1, vI B1.2]), (22, .ptr 22 0), (21, vI a), (79, vI a), (78, .agg [vI g0.num, lA g0.accs, lL g0.lins, lO g0.offs, vI g0.nid, vI g0.fees, vU g0.link, vI g1.num, lA g1.accs, lL g1.lins, lO g1.offs, vI g1.nid, vI g1.fees, vU g1.link, vI g2.num, lA g2.accs, lL g2.lins, lO g2.offs, vI g2.nid, vI g2.fees, vU g2.link]), (19, .ptr 9000 0), (12, .ptr 12 0), (11, .ptr 11 0), (8, vI m0), (7, vI n0), (6, vI b0), (5, vI a0), (4, lT l)], [(26, .box 43 [vI q0, vI q1, vI q2, vI q3]), (24, .box 40 [vS P1, vI P2, vS Q1, vI Q2]), (22, .box 28 (cellsOf (aG X))), (11, .box 30 [vS ua, vI ia]), (12, .box 30 [vS ub, vI ib]), Sc.box s3]⟩) (LeV []) ?_
  (refine WA_forV (2) [153] [] (fun k => [(153, vI k)]) (fun k => []) (fun k => True) ?h0 ?_)
  case h0 => trivial
  intro d hd3 _
  by_cases hd : d < 2
  case neg =>
    obtain rfl : d = 2 := by omega
    have d1 : decide (((2 : Nat) : Int) < 2) = false := by decide
    rcases hB : bestG X q0 P1 P2 Q1 Q2 q2 with ⟨y1, k1, e2⟩
    have hy1 := best_lenX hB
    have t5 : (!true) = false := rfl
    have v2 : (k1 != k1) = false := by simp
    have v3 : (e2 != e2) = false := by simp
    (repeat' (first | (refine nx ?_) | ((with_reducible apply WD_id); first | (refine WD_ixp htb ?_)) | (refine WD_unk (by exact rfl) ?_; ((refine WD_tf (by exact rfl) (by exact rfl) ?_ ?_) <;> (intro hb; (fail_if_success (with_reducible injection hb)); rw [hb]; (try simp only [List.length_map] at hb)))) | (refine WD_call (by exact rfl) ?_; first | (refine WD_c0 (assets_rm _ ?_) ?_; (exact hypS)) | (refine WD_e0 (fun h => bestX_pe (l := y1) _ _ _ _ _ _ _ _ _ ?_ ?_ ?_ h) ?_; (exact hypS); (exact hypS); (exact hypS)) | (refine WD_e0 (fun h => bestX_re (l := y1) _ _ _ _ _ _ _ _ _ ?_ ?_ ?_ h) ?_; (exact hypS); (exact hypS); (exact hypS)) | (refine WD_c0 (sameP_rm _ ?_) ?_; (exact hypS))) | ((refine WD_tf (by exact rfl) (by exact rfl) ?_ ?_) <;> (intro hb; (fail_if_success (with_reducible injection hb)); rw [hb]; (try simp only [List.length_map] at hb))) | (((with_reducible apply gC2); exact rfl) <;> (intro hb; rw [hb]))))
    all_goals
      refine ⟨(c + 1, s3), by dsimp only; omega, ⟨by dsimp only; omega, ho2⟩, ?_⟩
      (exact LeV [])
  have d1 : decide ((d : Int) < 2) = true := by simp only [decide_eq_true_eq]; omega
  (repeat' (first | (refine nx ?_) | ((with_reducible apply WD_id); first | (refine WD_ixp htb ?_)) | (refine WD_unk (by exact rfl) ?_; ((refine WD_tf (by exact rfl) (by exact rfl) ?_ ?_) <;> (intro hb; (fail_if_success (with_reducible injection hb)); rw [hb]; (try simp only [List.length_map] at hb)))) | ((refine WD_tf (by exact rfl) (by exact rfl) ?_ ?_) <;> (intro hb; (fail_if_success (with_reducible injection hb)); rw [hb]; (try simp only [List.length_map] at hb))) | (((with_reducible apply gC2); exact rfl) <;> (intro hb; rw [hb]))))
  refine WD_ix1 htb (n := d) (c := lT (nth [l, pth] d)) ?_ (hn := by rcases two39 hd with rfl | rfl <;> rfl) (hc := by rcases two39 hd with rfl | rfl <;> rfl)
  have hy9 : (nth [l, pth] d).length ≤ 900 := by rcases two39 hd with rfl | rfl <;> (simp [nth]; omega)
  generalize nth [l, pth] d = y at *
  rcases hS : sendF X q0 q1 P1 P2 Q1 Q2 y q2 q3 with ⟨z2, c2, e3⟩
  obtain ⟨w4, w5, w6⟩ := send_lensX hS
  rcases hQ : quoteF X q0 P1 P2 Q1 Q2 y q2 with ⟨c4, e4⟩
  have u2 : (!eqLed z2 z2) = false := by rw [eqLed_refl]; rfl
  have v4 : (c2 != c2) = false := by simp
  have v5 : (e3 != e3) = false := by simp
  have v6 : (c4 != c4) = false := by simp
  have v7 : (e4 != e4) = false := by simp
  (repeat' (first | (refine nx ?_) | ((with_reducible apply WD_id); first | (refine WD_ixp htb ?_)) | (refine WD_unk (by exact rfl) ?_; ((refine WD_tf (by exact rfl) (by exact rfl) ?_ ?_) <;> (intro hb; (fail_if_success (with_reducible injection hb)); rw [hb]; (try simp only [List.length_map] at hb)))) | (refine WD_call (by exact rfl) ?_; first | (refine WD_e0 (fun h => send_pe _ _ _ _ _ _ _ _ _ _ _ _ _ ?_ ?_ ?_ ?_ h) ?_; (exact hypS); (exact hypS); (exact hypS); (exact hypS)) | (refine WD_e0 (fun h => sendY_re _ _ _ _ _ _ _ _ _ _ _ _ _ ?_ ?_ ?_ ?_ h) ?_; (exact hypS); (exact hypS); (exact hypS); (exact hypS)) | (refine WD_c0 (sameO_rm (g := z2) (h := z2) ?_ ?_ ?_) ?_; (exact hypS); (exact hypS); (exact hypS)) | (refine WD_e0 (fun h => quote_pe (l := y) (p := (c4, e4)) _ _ _ _ _ _ _ ?_ ?_ ?_ ?_ h) ?_; (exact hypS); (exact hypS); (exact hypS); (exact hypS)) | (refine WD_e0 (fun h => quoteY_re (l := y) (p := (c4, e4)) _ _ _ _ _ _ _ ?_ ?_ ?_ ?_ h) ?_; (exact hypS); (exact hypS); (exact hypS); (exact hypS))) | ((refine WD_tf (by exact rfl) (by exact rfl) ?_ ?_) <;> (intro hb; (fail_if_success (with_reducible injection hb)); rw [hb]; (try simp only [List.length_map] at hb))) | (((with_reducible apply gC2); exact rfl) <;> (intro hb; rw [hb]))))
  refine ⟨hd, trivial, ?_⟩
  (exact LeV [])
theorem open_assets {H : Type} {enc : TypeId × Value → H} {w : World} {base : Nat} {spare : Nat → Bool} {held : Bool} {fuel : Nat} {v : Value} {x : DataW H × List MemPlace} (h : DataW.trod enc Tryz.prog w base spare held fuel 31 [v] = some x) :
    ∃ l : List TA, VR (fun _ => False) (fun _ => none) w (lT l) v ∧ (l.length : Int) ≤ 9223372036854775807 :=
  open_rows (α := TA) (fun x => [.string x.1, .int .i64 x.2]) (m := 5) (ks := [.s, .i .i64]) Tryz.underlying31 (by kernel_rfl) (by kernel_rfl) (by decide)
    (fun cs hf => by
      obtain ⟨v0, r0, rfl, ⟨n0, rfl, _⟩, f0⟩ := hf.uncons
      obtain ⟨v1, r1, rfl, ⟨n1, rfl, _⟩, f1⟩ := f0.uncons
      obtain rfl := f1.unnil
      exact ⟨(n0, n1), rfl⟩) (fun _ => rfl) (fun y u hu => by simp at hu; rcases hu with rfl | rfl <;> rfl) h
theorem law_PathsExact (a0 : Option Addr) (len0 cap0 : Nat) (z0 : List Int) (g1 : Led) (v1 : Value) (s2 : ByteArray) (i2 : Int) (s3 : ByteArray) (i3 : Int) (l4 : List TA) (v4 : Value) (a5 a6 a7 a8 : Int) (w : World) (w0 : IsRowA .i64 w a0 len0 cap0 z0) (w1 : VR (fun _ => False) (fun _ => none) w (aG g1) v1) (w2 : s2.size ≤ maxLen) (x2 : (Lit.int .i64 i2).wf = true) (w3 : s3.size ≤ maxLen) (x3 : (Lit.int .i64 i3).wf = true)
    (w4 : VR (fun _ => False) (fun _ => none) w (lT l4) v4) (x4 : (l4.length : Int) ≤ 9223372036854775807) (w5 : (Lit.int .i64 a5).wf = true) (w6 : (Lit.int .i64 a6).wf = true) (w7 : (Lit.int .i64 a7).wf = true) (w8 : (Lit.int .i64 a8).wf = true) :
    Calls Tryz.prog 3 #[.slice a0 len0 cap0, v1, .agg #[.string s2, .int .i64 i2], .agg #[.string s3, .int .i64 i3], v4, .int .i64 a5, .int .i64 a6, .int .i64 a7, .int .i64 a8] w fun e w' => e = .returned (.bool true) ∧ Ex w w' :=
  FnM.law (path39_m (z0.take len0) g1 s2 i2 s3 i3 l4 a5 a6 a7 a8 (by unfold maxLen; omega)) (VRs.cons (row_VR w0) (VRs.cons w1 (VRs.cons (VR.of_list (VRs.cons (.d (.v _)) (VRs.cons (.d (.v _)) VRs.nil))) (VRs.cons (VR.of_list (VRs.cons (.d (.v _)) (VRs.cons (.d (.v _)) VRs.nil))) (VRs.cons w4 (VRs.cons (.d (.v _)) (VRs.cons (.d (.v _)) (VRs.cons (.d (.v _)) (VRs.cons (.d (.v _)) VRs.nil)))))))))
end Go.Proofs.YtgebgpdoddjfhaaGreat
