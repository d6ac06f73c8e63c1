/- Nothing is claimed here: arguments that are structs and slices of structs, read as lists. -/
import Derived.Test.YteppnjgobaggaaaGreatAmY
import Derived.Test.YteppnjgobaggaaaGreatW0
import Derived.Deep.Slices
import Derived.Deep.Fields
import Derived.ChangeSame
import Derived.Test.YteppnjgobaggaaaGreatAmZ
import Derived.Test.YteppnjgobaggaaaGreatWS
import Derived.Test.YteppnjgobaggaaaGreatPL
namespace Go.Proofs.YteppnjgobaggaaaGreat
set_option linter.unusedSimpArgs false
set_option linter.unusedVariables false
set_option linter.unnecessarySimpa false
set_option linter.unusedSectionVars false
set_option maxRecDepth 100000
open Go Go.ChangeShapes Go.WideShapes Go.Deep Go.RowKit Go.Am Go.Proofs.Grow

/-- What a cell of a flat type holds. -/
inductive Lk where
  | i (k : IntKind)
  | s
def Lk.holds : Lk → Value → Prop
  | .i k, v => ∃ n, v = .int k n ∧ (Lit.int k n).wf = true
  | .s, v => ∃ u : ByteArray, v = .string u ∧ u.size ≤ maxLen
def flatFs (P : Program) (rec : TypeId → Option (List Lk)) : List Field → Nat → Option (List Lk)
  | [], _ => some []
  | f :: r, off => match rec f.type with
    | some ks => match decide (f.offset = off) && decide (P.cellsOf f.type = ks.length) with
      | true => match flatFs P rec r (off + ks.length) with
        | some qs => some (ks ++ qs)
        | none => none
      | false => none
    | none => none
def flatK (P : Program) : Nat → TypeId → Option (List Lk)
  | 0, _ => none
  | m + 1, t => match P.underlying t with
    | some (.int k) => some [.i k]
    | some .string => some [.s]
    | some (.struct fs) => match flatFs P (flatK P m) fs.toList 0 with
      | some ks => match decide (P.cellsOf t = ks.length) with
        | true => some ks
        | false => none
      | none => none
    | _ => none
/-- Cells hold what the kinds say. -/
def Fits (ks : List Lk) (cs : List Value) : Prop := cs.length = ks.length ∧ ∀ (i : Nat) (k : Lk), ks[i]? = some k → ∃ v, cs[i]? = some v ∧ k.holds v
section
variable {H : Type} {enc : TypeId × Value → H} {P : Program} {w : World} {base : Nat} {spare : Nat → Bool} {held : Bool}
theorem flat_fields {rec : TypeId → Option (List Lk)} {cs : List Value} {n : Nat} (hrec : ∀ (t : TypeId) ks (ds : List Value) x, rec t = some ks → DataW.trod enc P w base spare held n t ds = some x → Fits ks ds) :
    ∀ (l : List Field) (off : Nat) (ks : List Lk), flatFs P rec l off = some ks → (∀ f ∈ l, ∃ y, DataW.trod enc P w base spare held n f.type ((cs.drop f.offset).take (P.cellsOf f.type)) = some y) →
      ∀ (i : Nat) (k : Lk), ks[i]? = some k → ∃ v, cs[off + i]? = some v ∧ k.holds v
  | [], off, ks, h, _, i, k, hk => by
    obtain rfl : [] = ks := by simpa [flatFs] using h
    simp at hk
  | f :: r, off, ks, h, hf, i, k, hk => by
    unfold flatFs at h
    split at h
    · rename_i k1 h1
      split at h
      · rename_i h2
        simp only [Bool.and_eq_true, decide_eq_true_eq] at h2
        split at h
        · rename_i k2 h3
          obtain rfl : k1 ++ k2 = ks := by simpa using h
          by_cases hi : i < k1.length
          · obtain ⟨y, hy⟩ := hf f (by simp)
            obtain ⟨_, q2⟩ := hrec _ _ _ _ h1 hy
            rw [List.getElem?_append_left hi] at hk
            obtain ⟨v, hv, hh⟩ := q2 i k hk
            refine ⟨v, ?_, hh⟩
            rw [List.getElem?_take_of_lt (by omega), List.getElem?_drop, h2.1] at hv
            exact hv
          · rw [List.getElem?_append_right (by omega)] at hk
            obtain ⟨v, hv, hh⟩ := flat_fields hrec r (off + k1.length) k2 h3 (fun g hg => hf g (by simp [hg])) (i - k1.length) k hk
            refine ⟨v, ?_, hh⟩
            rw [← hv]; congr 1; omega
        · cases h
      · cases h
    · cases h
theorem trod_flat : ∀ (m : Nat) (fuel : Nat) (t : TypeId) (ks : List Lk) (cs : List Value) (x : DataW H × List MemPlace), flatK P m t = some ks → DataW.trod enc P w base spare held fuel t cs = some x → Fits ks cs
  | 0, _, _, _, _, _, h, _ => by cases h
  | m + 1, fuel, t, ks, cs, x, h, ht => by
    unfold flatK at h
    split at h
    · rename_i k hu
      obtain rfl : [Lk.i k] = ks := by simpa using h
      obtain ⟨n, rfl, _, hw⟩ := DataW.trod_int hu ht
      refine ⟨rfl, fun i k' hk => ?_⟩
      cases i with
      | zero => obtain rfl : Lk.i k = k' := by simpa using hk
                exact ⟨_, rfl, n, rfl, hw⟩
      | succ i => simp at hk
    · rename_i hu
      obtain rfl : [Lk.s] = ks := by simpa using h
      obtain ⟨n, rfl, _, hw⟩ := DataW.trod_string hu ht
      refine ⟨rfl, fun i k' hk => ?_⟩
      cases i with
      | zero => obtain rfl : Lk.s = k' := by simpa using hk
                exact ⟨_, rfl, n, rfl, hw⟩
      | succ i => simp at hk
    · rename_i fs hu
      split at h
      · rename_i k1 h1
        split at h
        · rename_i h2
          obtain rfl : k1 = ks := by simpa using h
          simp only [decide_eq_true_eq] at h2
          obtain ⟨xs, n, hn, hx, hl, hxl, hf⟩ := DataW.trod_struct hu ht
          refine ⟨hl.trans h2, fun i k hk => ?_⟩
          have := flat_fields (enc := enc) (P := P) (w := w) (base := base) (spare := spare) (held := held) (rec := flatK P m) (cs := cs) (n := n) (fun t ks ds x h1 h2 => trod_flat m n t ks ds x h1 h2) fs.toList 0 k1 h1 (fun f hf' => by
            obtain ⟨j, hj, rfl⟩ := List.mem_iff_getElem.1 hf'
            have h3 := hf j _ (by rw [← Array.getElem?_toList]; exact List.getElem?_eq_getElem hj)
            refine ⟨xs[j]'(by rw [hxl]; simpa using hj), h3.trans (List.getElem?_eq_getElem _)⟩) i k hk
          simpa using this
        · cases h
      · cases h
    · cases h
theorem addN {b off j : Nat} : (⟨b, off, none⟩ : Addr).add j = ⟨b, off + j, none⟩ := by by_cases h0 : j = 0 <;> simp [Addr.add, h0]
theorem listN {α : Type} [Inhabited α] {P : Nat → α → Prop} (n : Nat) (h : ∀ i, i < n → ∃ y, P i y) : ∃ l : List α, l.length = n ∧ ∀ i, i < n → P i (nth l i) := by
  induction n with
  | zero => exact ⟨[], rfl, fun i hi => by omega⟩
  | succ n ih =>
    obtain ⟨l, hl, hp⟩ := ih (fun i hi => h i (by omega))
    obtain ⟨y, hy⟩ := h n (by omega)
    refine ⟨l ++ [y], by simp [hl], fun i hi => ?_⟩
    by_cases e : i = n
    · subst e; simpa [nth, hl] using hy
    · have : nth (l ++ [y]) i = nth l i := by simp only [nth, List.getD_eq_getElem?_getD]; rw [List.getElem?_append_left (by omega)]
      rw [this]; exact hp i (by omega)
/-- A slice of a flat type, read as a list. -/
theorem open_rows {α : Type} [Inhabited α] (encV : α → List Value) {t e : TypeId} {m fuel : Nat} {ks : List Lk} {v : Value} {x : DataW H × List MemPlace} (ht : P.underlying t = some (.slice e)) (hk : flatK P m e = some ks) (hC : P.cellsOf e = ks.length) (hpos : 0 < ks.length)
    (hdec : ∀ cs, Fits ks cs → ∃ y, encV y = cs) (hlen : ∀ y, (encV y).length = ks.length) (h1 : ∀ y u, u ∈ encV y → u.oneCell' = true) (h : DataW.trod enc P w base spare held fuel t [v] = some x) :
    ∃ l : List α, VR (fun _ => False) (fun _ => none) w (.d (.rows ks.length (l.map fun y => (encV y).map D.v))) v ∧ (l.length : Int) ≤ 9223372036854775807 := by
  rcases open_slice ht h with ⟨hcs, _⟩ | ⟨a, len, cap, mm, n, D', Pl, hcs, _, hl, hm, hmm, _, hi⟩
  · obtain rfl : v = .slice none 0 0 := by simpa using hcs
    exact ⟨[], .d (.nil _ none 0 fun _ => rfl), by simp⟩
  obtain rfl : v = .slice (some a) len cap := by simpa using hcs
  have hnm : len ≤ mm := by rw [hmm]; split <;> omega
  have hall : ∀ i, i < len → ∃ y : α, ∀ j u, (encV y)[j]? = some u → w.cell? (a.add (i * ks.length + j)) = some u := by
    intro i hil
    obtain ⟨cs', hc, ht'⟩ := hi i (by omega)
    rw [hC] at hc
    obtain ⟨_, hcl, hat⟩ := World.cells?_some hc
    obtain ⟨y, rfl⟩ := hdec cs' (trod_flat m n e ks cs' _ hk ht')
    refine ⟨y, fun j u hu => ?_⟩
    have hj : j < ks.length := by rw [← hcl]; exact (List.getElem?_eq_some_iff.1 hu).1
    rw [← Go.Deep.add_add, hat j hj, hu]
  obtain ⟨l, hll, hp⟩ := listN len hall
  have hb63 : (l.length : Int) ≤ 9223372036854775807 := by unfold maxLen at hm; omega
  refine ⟨l, ?_, hb63⟩
  by_cases h0 : len = 0
  · subst h0
    obtain rfl := List.eq_nil_of_length_eq_zero hll
    exact .d (.nil _ (some a) cap fun h => by cases h)
  obtain ⟨b, off, sp⟩ := a
  have hfirst : ∃ u, (encV (nth l 0))[0]? = some u := ⟨_, List.getElem?_eq_getElem (by rw [hlen]; exact hpos)⟩
  obtain ⟨u0, hu0⟩ := hfirst
  have hsp := World.cell?_spot (hp 0 (by omega) 0 u0 hu0)
  obtain rfl : sp = none := by simpa [Addr.add] using hsp
  have hc : ∀ i, i < len → ∀ j u, (encV (nth l i))[j]? = some u → w.cell? ⟨b, off + i * ks.length + j, none⟩ = some u := by
    intro i hil j u hu
    have := hp i hil j u hu
    rw [addN] at this
    rw [Nat.add_assoc]; exact this
  have hg : ∀ (i : Nat) (r : List D), (l.map fun y => (encV y).map D.v)[i]? = some r → i < len ∧ r = (encV (nth l i)).map D.v := by
    intro i r hr
    rw [List.getElem?_map] at hr
    cases hq : l[i]? with
    | none => rw [hq] at hr; cases hr
    | some y =>
      rw [hq] at hr
      have hil : i < l.length := (List.getElem?_eq_some_iff.1 hq).1
      refine ⟨by omega, ?_⟩
      have : nth l i = y := by rw [nth_getElem l i hil]; rw [List.getElem?_eq_getElem hil] at hq; exact Option.some.inj hq
      rw [this]; exact (Option.some.inj hr).symm
  have hg2 : ∀ (i : Nat) (r : List D) (j : Nat) (c : D), (l.map fun y => (encV y).map D.v)[i]? = some r → r[j]? = some c → i < len ∧ ∃ u, (encV (nth l i))[j]? = some u ∧ c = .v u := by
    intro i r j c hr hcc
    obtain ⟨h, rfl⟩ := hg i r hr
    rw [List.getElem?_map] at hcc
    cases hq : (encV (nth l i))[j]? with
    | none => rw [hq] at hcc; cases hcc
    | some u => rw [hq] at hcc; exact ⟨h, u, rfl, (Option.some.inj hcc).symm⟩
  have hml : (l.map fun y => (encV y).map D.v).length = len := by simp [hll]
  have := VD.rows (H := fun _ => False) (w := w) ks.length (l.map fun y => (encV y).map D.v) b off cap (fun i j => ((encV (nth l i))[j]?).getD undef) (by intro e; rw [e] at hml; simp at hml; omega) (by omega) (by omega) (fun h => h)
    (cell_lt (hc 0 (by omega) 0 u0 hu0)) (fun i r hr => by obtain ⟨_, rfl⟩ := hg i r hr; simp [hlen])
    (fun i r j c hr hcc => by obtain ⟨h, u, hu, rfl⟩ := hg2 i r j c hr hcc; rw [hu]; exact hc i h j u hu)
    (fun i r j c hr hcc => by obtain ⟨h, u, hu, rfl⟩ := hg2 i r j c hr hcc; rw [hu]; exact h1 _ u (List.mem_of_getElem? hu))
    (fun i r j c hr hcc => by obtain ⟨h, u, hu, rfl⟩ := hg2 i r j c hr hcc; rw [hu]; exact .v u)
  rw [hml] at this
  exact .d this
end
end Go.Proofs.YteppnjgobaggaaaGreat

/- Nothing is claimed here: arguments that are accounts. -/
namespace Go.Proofs.YteppnjgobaggaaaGreat
set_option linter.unusedSimpArgs false
set_option linter.unusedVariables false
set_option linter.unnecessarySimpa false
set_option linter.unusedSectionVars false
set_option maxRecDepth 100000
open Go Go.ChangeShapes Go.WideShapes Go.Deep Go.RowKit Go.Am Go.Proofs.Grow

theorem Fits.uncons {k : Lk} {ks : List Lk} {cs : List Value} (h : Fits (k :: ks) cs) : ∃ v r, cs = v :: r ∧ k.holds v ∧ Fits ks r := by
  obtain ⟨h1, h2⟩ := h
  cases cs with
  | nil => simp at h1
  | cons v r =>
    obtain ⟨u, hu, hh⟩ := h2 0 k rfl
    obtain rfl : v = u := by simpa using hu
    exact ⟨v, r, rfl, hh, by simpa using h1, fun i k' hk => h2 (i + 1) k' (by simpa using hk)⟩
theorem Fits.unnil {cs : List Value} (h : Fits [] cs) : cs = [] := List.eq_nil_of_length_eq_zero h.1
theorem open_accs {H : Type} {enc : TypeId × Value → H} {w : World} {base : Nat} {spare : Nat → Bool} {held : Bool} {fuel : Nat} {v : Value} {x : DataW H × List MemPlace} (h : DataW.trod enc Tryz.prog w base spare held fuel 25 [v] = some x) :
    ∃ l : List Acc, VR (fun _ => False) (fun _ => none) w (lA l) v ∧ (l.length : Int) ≤ 9223372036854775807 :=
  open_rows (α := Acc) (fun x => [.int .i64 x.id, .int .i64 x.bal, .int .i64 x.seq]) (m := 5) (ks := [.i .i64, .i .i64, .i .i64]) Tryz.underlying25 (by kernel_rfl) (by kernel_rfl) (by decide)
    (fun cs hf => by
      obtain ⟨v0, r0, rfl, ⟨n0, rfl, _⟩, f0⟩ := hf.uncons
      obtain ⟨v1, r1, rfl, ⟨n1, rfl, _⟩, f1⟩ := f0.uncons
      obtain ⟨v2, r2, rfl, ⟨n2, rfl, _⟩, f2⟩ := f1.uncons
      obtain rfl := f2.unnil
      exact ⟨⟨n0, n1, n2⟩, rfl⟩) (fun _ => rfl) (fun y u hu => by simp at hu; rcases hu with rfl | rfl | rfl <;> rfl) h
end Go.Proofs.YteppnjgobaggaaaGreat

/- Nothing is claimed here: arguments that are ledgers. -/
namespace Go.Proofs.YteppnjgobaggaaaGreat
set_option linter.unusedSimpArgs false
set_option linter.unusedVariables false
set_option linter.unnecessarySimpa false
set_option linter.unusedSectionVars false
set_option maxRecDepth 100000
open Go Go.ChangeShapes Go.WideShapes Go.Deep Go.RowKit Go.Am Go.Proofs.Grow

theorem open_lins {H : Type} {enc : TypeId × Value → H} {w : World} {base : Nat} {spare : Nat → Bool} {held : Bool} {fuel : Nat} {v : Value} {x : DataW H × List MemPlace} (h : DataW.trod enc Tryz.prog w base spare held fuel 26 [v] = some x) :
    ∃ l : List Lin, VR (fun _ => False) (fun _ => none) w (lL l) v ∧ (l.length : Int) ≤ 9223372036854775807 :=
  open_rows (α := Lin) (fun x => [.int .i64 x.acc, .string x.code, .int .i64 x.iss, .int .i64 x.bal, .int .i64 x.lim]) (m := 5) (ks := [.i .i64, .s, .i .i64, .i .i64, .i .i64]) Tryz.underlying26 (by kernel_rfl) (by kernel_rfl) (by decide)
    (fun cs hf => by
      obtain ⟨v0, r0, rfl, ⟨n0, rfl, _⟩, f0⟩ := hf.uncons
      obtain ⟨v1, r1, rfl, ⟨n1, rfl, _⟩, f1⟩ := f0.uncons
      obtain ⟨v2, r2, rfl, ⟨n2, rfl, _⟩, f2⟩ := f1.uncons
      obtain ⟨v3, r3, rfl, ⟨n3, rfl, _⟩, f3⟩ := f2.uncons
      obtain ⟨v4, r4, rfl, ⟨n4, rfl, _⟩, f4⟩ := f3.uncons
      obtain rfl := f4.unnil
      exact ⟨⟨n0, n1, n2, n3, n4⟩, rfl⟩) (fun _ => rfl) (fun y u hu => by simp at hu; rcases hu with rfl | rfl | rfl | rfl | rfl <;> rfl) h
theorem open_offs {H : Type} {enc : TypeId × Value → H} {w : World} {base : Nat} {spare : Nat → Bool} {held : Bool} {fuel : Nat} {v : Value} {x : DataW H × List MemPlace} (h : DataW.trod enc Tryz.prog w base spare held fuel 27 [v] = some x) :
    ∃ l : List Off, VR (fun _ => False) (fun _ => none) w (lO l) v ∧ (l.length : Int) ≤ 9223372036854775807 :=
  open_rows (α := Off) (fun x => [.int .i64 x.id, .int .i64 x.seller, .string x.sc, .int .i64 x.si, .string x.bc, .int .i64 x.bi, .int .i64 x.amt, .int .i64 x.num, .int .i64 x.den]) (m := 5) (ks := [.i .i64, .i .i64, .s, .i .i64, .s, .i .i64, .i .i64, .i .i64, .i .i64]) Tryz.underlying27 (by kernel_rfl) (by kernel_rfl) (by decide)
    (fun cs hf => by
      obtain ⟨v0, r0, rfl, ⟨n0, rfl, _⟩, f0⟩ := hf.uncons
      obtain ⟨v1, r1, rfl, ⟨n1, rfl, _⟩, f1⟩ := f0.uncons
      obtain ⟨v2, r2, rfl, ⟨n2, rfl, _⟩, f2⟩ := f1.uncons
      obtain ⟨v3, r3, rfl, ⟨n3, rfl, _⟩, f3⟩ := f2.uncons
      obtain ⟨v4, r4, rfl, ⟨n4, rfl, _⟩, f4⟩ := f3.uncons
      obtain ⟨v5, r5, rfl, ⟨n5, rfl, _⟩, f5⟩ := f4.uncons
      obtain ⟨v6, r6, rfl, ⟨n6, rfl, _⟩, f6⟩ := f5.uncons
      obtain ⟨v7, r7, rfl, ⟨n7, rfl, _⟩, f7⟩ := f6.uncons
      obtain ⟨v8, r8, rfl, ⟨n8, rfl, _⟩, f8⟩ := f7.uncons
      obtain rfl := f8.unnil
      exact ⟨⟨n0, n1, n2, n3, n4, n5, n6, n7, n8⟩, rfl⟩) (fun _ => rfl) (fun y u hu => by simp at hu; rcases hu with rfl | rfl | rfl | rfl | rfl | rfl | rfl | rfl | rfl <;> rfl) h
theorem VR.of_list {w : World} {cs : List AV} {vs : List Value} (h : VRs (fun _ => False) (fun _ => none) w cs vs) : VR (fun _ => False) (fun _ => none) w (.agg cs) (.agg vs.toArray) := .agg h.1 h.2
theorem open_led {H : Type} {enc : TypeId × Value → H} {w : World} {base b0 : Nat} {spare : Nat → Bool} {held : Bool} {r : Reach} {v : Value} {d : DataW H} {p : List MemPlace} (hv : Value.okWide Tryz.prog w r b0 30 v) (h : DataW.Trod enc Tryz.prog w base spare held 30 v d p) :
    ∃ g : Led, VR (fun _ => False) (fun _ => none) w (aG g) v := by
  obtain ⟨cs, rfl, hsz⟩ := okWide_struct Tryz.underlying30 hv
  obtain ⟨fuel, hf⟩ := h
  have hc7 : Tryz.prog.cellsOf 30 = 7 := by kernel_rfl
  rw [hc7] at hsz
  obtain ⟨c0, c1, c2, c3, c4, c5, c6, hcs⟩ : ∃ c0 c1 c2 c3 c4 c5 c6, cs = #[c0, c1, c2, c3, c4, c5, c6] := by
    obtain ⟨l⟩ := cs
    match l, hsz with
    | [c0, c1, c2, c3, c4, c5, c6], _ => exact ⟨c0, c1, c2, c3, c4, c5, c6, rfl⟩
  subst hcs
  obtain ⟨xs, n, hn, hx, _, hxl, hfs⟩ := DataW.trod_struct Tryz.underlying30 hf
  have get : ∀ i, i < 7 → ∃ y, xs[i]? = some y := fun i hi => ⟨_, List.getElem?_eq_getElem (by rw [hxl]; exact hi)⟩
  have k1 : Tryz.prog.cellsOf 3 = 1 := by kernel_rfl
  have k2 : Tryz.prog.cellsOf 25 = 1 := by kernel_rfl
  have k3 : Tryz.prog.cellsOf 26 = 1 := by kernel_rfl
  have k4 : Tryz.prog.cellsOf 27 = 1 := by kernel_rfl
  have k5 : Tryz.prog.cellsOf 28 = 1 := by kernel_rfl
  obtain ⟨y0, e0⟩ := get 0 (by omega)
  obtain ⟨y1, e1⟩ := get 1 (by omega)
  obtain ⟨y2, e2⟩ := get 2 (by omega)
  obtain ⟨y3, e3⟩ := get 3 (by omega)
  obtain ⟨y4, e4⟩ := get 4 (by omega)
  obtain ⟨y5, e5⟩ := get 5 (by omega)
  obtain ⟨y6, e6⟩ := get 6 (by omega)
  have q0 := (hfs 0 _ rfl).trans e0
  have q1 := (hfs 1 _ rfl).trans e1
  have q2 := (hfs 2 _ rfl).trans e2
  have q3 := (hfs 3 _ rfl).trans e3
  have q4 := (hfs 4 _ rfl).trans e4
  have q5 := (hfs 5 _ rfl).trans e5
  have q6 := (hfs 6 _ rfl).trans e6
  simp only [Value.cells, k1, k2, k3, k4, k5, List.drop_zero, List.drop_succ_cons, List.take_succ_cons, List.take_zero] at q0 q1 q2 q3 q4 q5 q6
  obtain ⟨n0, h0, _, _⟩ := DataW.trod_int Tryz.underlying3 q0
  obtain ⟨l1, h1, _⟩ := open_accs q1
  obtain ⟨l2, h2, _⟩ := open_lins q2
  obtain ⟨l3, h3, _⟩ := open_offs q3
  obtain ⟨n4, h4, _, _⟩ := DataW.trod_int Tryz.underlying3 q4
  obtain ⟨n5, h5, _, _⟩ := DataW.trod_int Tryz.underlying3 q5
  obtain ⟨n6, h6, _, _⟩ := DataW.trod_int Tryz.underlying28 q6
  obtain rfl : c0 = .int .i64 n0 := by simpa [k1] using h0
  obtain rfl : c4 = .int .i64 n4 := by simpa [k1] using h4
  obtain rfl : c5 = .int .i64 n5 := by simpa [k1] using h5
  obtain rfl : c6 = .int .u64 n6 := by simpa [k5] using h6
  exact ⟨⟨n0, l1, l2, l3, n4, n5, n6⟩, VR.of_list (VRs.cons (.d (.v _)) (VRs.cons h1 (VRs.cons h2 (VRs.cons h3 (VRs.cons (.d (.v _)) (VRs.cons (.d (.v _)) (VRs.cons (.d (.v _)) VRs.nil)))))))⟩
end Go.Proofs.YteppnjgobaggaaaGreat

/- Nothing is claimed here: an element of a part of a slice; operations on the bits of numbers. -/
namespace Go.Am
set_option linter.unusedSimpArgs false
set_option linter.unusedVariables false
set_option linter.unnecessarySimpa false
set_option linter.unusedSectionVars false
set_option maxRecDepth 100000
open Go Go.RowKit Go.Proofs.Grow

section
variable {P : Program} {tbl : List (Nat × TI)} {o : Oper} {T : Nat → Option AV} {M : Nat → Option AO}
theorem step_index_sl (htb : TOK P tbl) {ty e ety : TypeId} {x y : Operand} {i j : TI} {g sz lo m n : Nat} {c : Option Nat} {k : IntKind} {q : Int} {rs : List (List D)} (ho : o.op = .indexAddr ty x y) (ht : lk tbl ty = some i) (hs : i.isS = true) (he : i.el = some e) (hj : lk tbl e = some j) (hsz : j.size = sz)
    (hx : evA T x = some (.sl g sz lo m c)) (hg : M g = some (.arr ety sz rs)) (hy : evA T y = some (.d (.v (.int k q)))) (hq : q = (n : Int)) (hn : n < m) : StepOK P o T M ⟨.elt g sz (lo + n) 0, [g], []⟩ :=
  step_read [g] fun cx μ T' M' a w h hT hM => by
    subst hq
    subst hsz
    rw [← hM g (by simp)] at hg
    have h1 := h.ev (x := x) hT (by simp [ho, Op.operands]) hx
    have h2 := (h.ev (x := y) hT (by simp [ho, Op.operands]) hy).val
    have hg' : M' g = some (mkO ety j.size none rs) := hg
    obtain ⟨ad, m', cap, xs, q1, q2, q3, q4, q5, q6, _⟩ := h.cells hg'
    generalize hv : a.eval x = v at h1
    cases h1 with
    | @sl _ _ _ _ _ ad2 p m2 cap2 k2 hb hk hnk hc ha =>
      rw [q1] at hb
      obtain ⟨rfl, rfl, rfl⟩ : ad = ad2 ∧ m' = m2 ∧ cap = cap2 := by simpa using hb
      cases ad with
      | none => have := q5 rfl; omega
      | some z =>
        obtain ⟨b, cur, rfl, c1, c2, c3⟩ := q6 z rfl
        have hp : p = some ⟨b, lo * j.size, none⟩ := by
          rcases ha with rfl | ⟨e, _⟩
          · simp [addr_add]
          · omega
        subst hp
        have hrun := run_indexSlice htb ht hs he hj (b := b) (off := lo * j.size) (len := m) (cap := k2) (k := k) hn w
        have e : lo * j.size + n * j.size = (lo + n) * j.size + 0 := by rw [Nat.add_mul, Nat.add_zero]
        rw [e] at hrun
        exact ⟨.pointer (some ⟨b, (lo + n) * j.size + 0, none⟩), by simp only [execOp, ho, hv, h2, Sem.run_bind, hrun, Result.andThen_ok, Sem.run_pure], .elt q1⟩
theorem step_bits {op : BinOp} {t t' : TypeId} {x y : Operand} {a b : Int} {r : Value} (ho : o.op = .binOp op t x y t') (hx : evA T x = some (.d (.v (.int .i64 a)))) (hy : evA T y = some (.d (.v (.int .i64 b))))
    (hr : ∀ w, (binOp op t (.int .i64 a) (.int .i64 b)).run P w = .ok r w) : StepOK P o T M ⟨.d (.v r), [], []⟩ :=
  step_read [] fun cx μ T' M' ac w h hT _ => by
    have h1 := (h.ev (x := x) hT (by simp [ho, Op.operands]) hx).val
    have h2 := (h.ev (x := y) hT (by simp [ho, Op.operands]) hy).val
    refine ⟨r, ?_, .d (.v r)⟩
    simp only [execOp, ho, h1, h2, Sem.run_bind, run_guard_int, Result.andThen_ok, hr, Sem.run_pure]
end
section
variable {cx : Cx} {T : List (Nat × AV)} {M : List (Nat × AO)}
/-- A slice of the call's own gets another name. -/
theorem Le_own (t g' : Nat) {g ty sz : Nat} {rs : List (List D)} (ht : lk T t = some (.own g)) (hg : lk M g = some (.arr ty sz rs)) (hg' : lk M g' = none) : Le cx ⟨T, M⟩ ⟨(t, .own g') :: T, (g', .arr ty sz rs) :: (g, .dead) :: M⟩ := by
  rintro a w ⟨μ, h⟩
  obtain ⟨v, xs, h1, h2, h3, h4, h5⟩ := h.ob g _ hg
  have hv := h.tm t _ ht
  generalize hvv : a.tmps.getD t undef = u at hv
  cases hv with
  | @own _ p m2 c2 hb =>
    rw [h1] at hb
    obtain rfl : v = .slice p m2 c2 := by simpa using hb
    have h6 := h.append (w2 := w) (g' := g') (rs' := rs) (v' := .slice p m2 c2) (ys := xs) hg rfl h1 hg' (Chg.refl _ _) (fun b' hb' => .inl hb') h2 h3 h5 (fun H' hk => h4.mono hk)
    have e2 : upM (lk M) [(g', .arr ty sz rs), (g, .dead)] = lk ((g', .arr ty sz rs) :: (g, .dead) :: M) := by
      funext x
      simp only [upM, lk]
      cases Nat.beq g' x <;> cases Nat.beq g x <;> rfl
    rw [e2] at h6
    refine ⟨_, h6.slot ?_⟩
    rw [hvv]
    exact .own (upμ_self _ _)
/-- A row that is a nil slice. -/
theorem Le_nilrow (g sz : Nat) {ty : Nat} (hg : lk M g = some (.arr ty 1 [[.v (.slice none 0 0)]])) : Le cx ⟨T, M⟩ ⟨T, (g, .arr ty 1 [[.rows sz []]]) :: M⟩ := by
  rintro a w ⟨μ, h⟩
  obtain ⟨v, xs, h1, h2, h3, h4, h5⟩ := h.ob g _ hg
  have h6 := h.swap (o' := .arr ty 1 [[.rows sz []]]) hg rfl rfl fun H' hk => by
    refine ⟨v, xs, h1, h2, by simp, ⟨h4.1, fun i c u hc hu => ?_⟩, h5⟩
    have hi : i = 0 := by
      have := (List.getElem?_eq_some_iff.1 hc).1
      simp at this; exact this
    subst hi
    obtain rfl : D.rows sz [] = c := by simpa using hc
    have hu2 := h4.2 0 (.v (.slice none 0 0)) u rfl hu
    cases hu2
    exact .nil sz none 0 (fun _ => rfl)
  rw [upM_cons] at h6
  exact ⟨μ, h6⟩
end
section
variable {P : Program} {tbl : List (Nat × TI)} {ops r : List Oper} {o : Oper} {fin : List (List Nat × List Nat) → List (Nat × AV) → List (Nat × AO) → Prop} {acc : List (List Nat × List Nat)} {T : List (Nat × AV)} {M : List (Nat × AO)}
theorem WD_ixs (htb : TOK P tbl) {d : Tmp} {ty e ety : TypeId} {x y : Operand} {i j : TI} {g sz lo m n : Nat} {c : Option Nat} {kk : IntKind} {q : Int} {rs : List (List D)} (k : WD P ops fin r (([g], []) :: acc) ((d, .elt g sz (lo + n) 0) :: T) M) (ho : o.op = .indexAddr ty x y := by exact rfl)
    (hg : gd ops T o = some true := by exact rfl) (hd : o.dst = some d := by exact rfl) (ht : lk tbl ty = some i := by exact rfl) (hs : i.isS = true := by exact rfl) (he : i.el = some e := by exact rfl) (hj : lk tbl e = some j := by exact rfl) (hsz : j.size = sz := by exact rfl)
    (hx : evA (lk T) x = some (.sl g sz lo m c) := by exact rfl) (hM : lk M g = some (.arr ety sz rs) := by exact rfl) (hy : evA (lk T) y = some (.d (.v (.int kk q))) := by exact rfl) (hq : q = (n : Int) := by exact nat_q) (hn : n < m := by exact len) : WD P ops fin (o :: r) acc T M :=
  WD_dv hg hd (step_index_sl htb ho ht hs he hj hsz hx hM hy hq hn) k
end
end Go.Am

/- Contracts of the source's odd assets and bent ledgers. -/
namespace Go.Proofs.YteppnjgobaggaaaGreat
set_option linter.unusedSimpArgs false
set_option linter.unusedVariables false
set_option linter.unnecessarySimpa false
set_option linter.unusedSectionVars false
set_option maxRecDepth 100000
open Go Go.RowKit Go.Am Go.Proofs.Grow

def odA6 : List (ByteArray × Int) := [(⟨#[117, 115, 100]⟩, 1), (⟨#[76, 79, 78, 71, 69, 82]⟩, 1), (⟨#[85, 83, 68]⟩, 0), (⟨#[]⟩, 3), (⟨#[85, 83, 68]⟩, 1001), (⟨#[88, 65, 85]⟩, 9)]
theorem oddAsset_m (s : Sc) (hs : s.ok) : FnM Tryz.prog 92 [s.box] [.ptr 9000 0] (aT (nth odA6 (s.n 6).toNat).1 (nth odA6 (s.n 6).toNat).2) [(s.x 6).box] := by
  refine FnM.of htb Tryz.func92 rfl rfl rfl rfl rfl fun cx hN h0 => ?_
  have hb := s.n_bd (k := 6) (by decide)
  (repeat' (first | ((with_reducible apply WD_id); first | (refine WD_sum ?_) | (refine WD_nxt htb (by exact rfl) ?_) | (refine WD_unk (by exact rfl) ?_; first | (refine WD_t (by exact rfl) (by exact rfl) (by exact known) fun hb => ?_; rw [hb]; clear hb) | (refine WD_f (by exact rfl) (by exact rfl) (by exact known) fun hb => ?_; rw [hb]; clear hb) | ((refine WD_tf (by exact rfl) (by exact rfl) ?_ ?_) <;> (intro hb; (fail_if_success (with_reducible injection hb)); rw [hb]; (try simp only [List.length_map] at hb)))) | (refine WD_call (by exact rfl) ?_; first | (refine WD_cM (N_m _ _ ?_ ?_) ?_; (exact hypS); (exact hypS))) | (refine WD_row htb odA6 rT ?_ (hn := by first | (exact by decide) | (simp only [odA6, List.length_cons, List.length_nil]; omega))) | (refine WD_idx htb ?_) | (refine WD_idxo htb ?_) | (refine WD_lde1 htb ?_) | (refine WD_lde htb ?_) | (refine WD_ste htb ?_) | (refine WD_ap htb ?_) | (refine WD_ap0 htb ?_) | (refine WD_nil htb ?_) | (refine WD_nilr htb ?_) | (refine WD_rem ?_) | (refine WD_quo ?_) | (refine WD_slc htb ?_) | (refine WD_ixa htb ?_) | (refine WD_ix1 htb ?_) | (refine WD_t (by exact rfl) (by exact rfl) (by exact known) fun hb => ?_; rw [hb]; clear hb) | (refine WD_f (by exact rfl) (by exact rfl) (by exact known) fun hb => ?_; rw [hb]; clear hb) | ((refine WD_tf (by exact rfl) (by exact rfl) ?_ ?_) <;> (intro hb; (fail_if_success (with_reducible injection hb)); rw [hb]; (try simp only [List.length_map] at hb)))) | (with_reducible apply WA_seq) | ((with_reducible apply gR hmix hN); exact (by kernel_rfl); (try dsimp only [List.append_eq, List.cons_append, List.nil_append])) | ((with_reducible apply WD_end); (first | exact no_draw | (intro _; kernel_rfl)); try simp only [thn, inB, List.length_map, List.cons_append, List.nil_append]) | ((with_reducible apply gCt); exact rfl; exact rfl) | ((with_reducible apply gCf); exact rfl; exact rfl) | ((with_reducible apply gCk); exact rfl; exact known; intro hb; rw [hb]; clear hb) | ((with_reducible apply gCn); exact rfl; exact known; intro hb; rw [hb]; clear hb) | (((with_reducible apply gC2); exact rfl) <;> (intro hb; rw [hb])) | (with_reducible apply WA_block) | ((with_reducible first | apply WA_skip | apply WA_ret | apply WA_exit | apply WA_label); try simp only [thn, inB, List.length_map, List.cons_append, List.nil_append])))
  exact gE (.inr rfl) rfl rfl ⟨rfl, trivial⟩
def od (s : Sc) : Int := nth odds (s.n 15).toNat
def bentF (s : Sc) (g : Led) : Led × Sc :=
  if s.n 8 = 0 then (⟨g.num, g.accs.set ((s.x 8).n g.accs.length).toNat ⟨(nth g.accs ((s.x 8).n g.accs.length).toNat).id, nth odds (((s.x 8).x g.accs.length).n 15).toNat, (nth g.accs ((s.x 8).n g.accs.length).toNat).seq⟩, g.lins, g.offs, g.nid, g.fees, g.link⟩, ((s.x 8).x g.accs.length).x 15)
  else if s.n 8 = 1 then (⟨g.num, g.accs ++ [nth g.accs 0], g.lins, g.offs, g.nid, g.fees, g.link⟩, s.x 8)
  else if s.n 8 = 2 then (⟨g.num, g.accs, g.lins, g.offs, nth [0, 1, 1000001] ((s.x 8).n 3).toNat, g.fees, g.link⟩, (s.x 8).x 3)
  else if s.n 8 = 3 then (⟨g.num, g.accs, g.lins, g.offs, g.nid, nth odds ((s.x 8).n 15).toNat, g.link⟩, (s.x 8).x 15)
  else if s.n 8 = 4 then (if 0 < g.lins.length then (⟨g.num, g.accs, g.lins.set ((s.x 8).n g.lins.length).toNat ⟨(nth g.lins ((s.x 8).n g.lins.length).toNat).acc, (nth g.lins ((s.x 8).n g.lins.length).toNat).code, (nth g.lins ((s.x 8).n g.lins.length).toNat).iss, nth odds (((s.x 8).x g.lins.length).n 15).toNat, (nth g.lins ((s.x 8).n g.lins.length).toNat).lim⟩, g.offs, g.nid, g.fees, g.link⟩, ((s.x 8).x g.lins.length).x 15) else (g, s.x 8))
  else if s.n 8 = 5 then (if 0 < g.lins.length then (⟨g.num, g.accs, g.lins.set ((s.x 8).n g.lins.length).toNat ⟨(nth g.lins ((s.x 8).n g.lins.length).toNat).acc, (nth odA6 (((s.x 8).x g.lins.length).n 6).toNat).1, (nth odA6 (((s.x 8).x g.lins.length).n 6).toNat).2, (nth g.lins ((s.x 8).n g.lins.length).toNat).bal, (nth g.lins ((s.x 8).n g.lins.length).toNat).lim⟩, g.offs, g.nid, g.fees, g.link⟩, ((s.x 8).x g.lins.length).x 6) else (g, s.x 8))
  else if s.n 8 = 6 then (if 0 < g.offs.length then (⟨g.num, g.accs, g.lins, g.offs.set ((s.x 8).n g.offs.length).toNat ⟨(nth g.offs ((s.x 8).n g.offs.length).toNat).id, (nth g.offs ((s.x 8).n g.offs.length).toNat).seller, (nth g.offs ((s.x 8).n g.offs.length).toNat).sc, (nth g.offs ((s.x 8).n g.offs.length).toNat).si, (nth g.offs ((s.x 8).n g.offs.length).toNat).bc, (nth g.offs ((s.x 8).n g.offs.length).toNat).bi, (nth g.offs ((s.x 8).n g.offs.length).toNat).amt, nth [0, 2, 4] (((s.x 8).x g.offs.length).n 3).toNat, nth [2, 6] ((((s.x 8).x g.offs.length).x 3).n 2).toNat⟩, g.nid, g.fees, g.link⟩, (((s.x 8).x g.offs.length).x 3).x 2) else (g, s.x 8))
  else (⟨nth odds ((s.x 8).n 15).toNat, g.accs, g.lins, g.offs, g.nid, g.fees, g.link⟩, (s.x 8).x 15)
theorem bentF_ok {s : Sc} (h : s.ok) (g : Led) : (bentF s g).2.ok := by
  unfold bentF
  repeat' split
  all_goals repeat first | exact h | apply Sc.ok_x
theorem bentF_lens (s : Sc) (g : Led) : (bentF s g).1.accs.length ≤ g.accs.length + 1 ∧ (bentF s g).1.lins.length = g.lins.length ∧ (bentF s g).1.offs.length = g.offs.length := by
  unfold bentF
  repeat' split
  all_goals simp
set_option maxHeartbeats 8000000 in
theorem bent_m (s : Sc) (g : Led) (hs : s.ok) (ha1 : 1 ≤ g.accs.length) (ha : g.accs.length ≤ 900) (hl : g.lins.length ≤ 900) (ho : g.offs.length ≤ 900) : FnM Tryz.prog 38 [s.box] [.ptr 9000 0, aG g] (aG (bentF s g).1) [(bentF s g).2.box] := by
  refine FnM.of htb Tryz.func38 rfl rfl rfl rfl rfl fun cx hN h0 => ?_
  have b8 := s.n_bd (k := 8) (by decide)
  have o1 := Sc.ok_x hs 8
  have ba := (s.x 8).n_bd (k := (g.accs.length : Int)) (by omega)
  have h8 : s.n 8 = 0 ∨ s.n 8 = 1 ∨ s.n 8 = 2 ∨ s.n 8 = 3 ∨ s.n 8 = 4 ∨ s.n 8 = 5 ∨ s.n 8 = 6 ∨ s.n 8 = 7 := by omega
  clear b8
  rcases h8 with h | h | h | h | h | h | h | h
  · have c0 : (s.n 8 == 0) = true := by rw [h]; rfl
    have e : bentF s g = (⟨g.num, g.accs.set ((s.x 8).n g.accs.length).toNat ⟨(nth g.accs ((s.x 8).n g.accs.length).toNat).id, nth odds (((s.x 8).x g.accs.length).n 15).toNat, (nth g.accs ((s.x 8).n g.accs.length).toNat).seq⟩, g.lins, g.offs, g.nid, g.fees, g.link⟩, ((s.x 8).x g.accs.length).x 15) := by unfold bentF; rw [if_pos h]
    have hrow : (g.accs.map rA).set ((s.x 8).n g.accs.length).toNat [dI (nth g.accs ((s.x 8).n g.accs.length).toNat).id, dI (nth odds (((s.x 8).x g.accs.length).n 15).toNat), dI (nth g.accs ((s.x 8).n g.accs.length).toNat).seq] = (g.accs.set ((s.x 8).n g.accs.length).toNat ⟨(nth g.accs ((s.x 8).n g.accs.length).toNat).id, nth odds (((s.x 8).x g.accs.length).n 15).toNat, (nth g.accs ((s.x 8).n g.accs.length).toNat).seq⟩).map rA := by rw [List.map_set]; rfl
    rw [e]
    clear e
    (repeat' (first | ((with_reducible apply WD_id); first | (refine WD_sum ?_) | (refine WD_nxt htb (by exact rfl) ?_) | (refine WD_unk (by exact rfl) ?_; first | (refine WD_t (by exact rfl) (by exact rfl) (by exact known) fun hb => ?_; rw [hb]; clear hb) | (refine WD_f (by exact rfl) (by exact rfl) (by exact known) fun hb => ?_; rw [hb]; clear hb) | ((refine WD_tf (by exact rfl) (by exact rfl) ?_ ?_) <;> (intro hb; (fail_if_success (with_reducible injection hb)); rw [hb]; (try simp only [List.length_map] at hb)))) | (refine WD_call (by exact rfl) ?_; first | (refine WD_cM (N_m _ _ ?_ ?_) ?_; (exact hypS); (exact hypS)) | (refine WD_cM (odd_m _ ?_) ?_; (exact hypS)) | (refine WD_cM (oddAsset_m _ ?_) ?_; (exact hypS)) | (refine WD_cM (Pick_m (l := [0, 1, 1000001]) _ ?_ ?_ ?_) ?_; (exact hypS); (exact hypS); (exact hypS)) | (refine WD_cM (Pick_m (l := [0, 2, 4]) _ ?_ ?_ ?_) ?_; (exact hypS); (exact hypS); (exact hypS)) | (refine WD_cM (Pick_m (l := [2, 6]) _ ?_ ?_ ?_) ?_; (exact hypS); (exact hypS); (exact hypS))) | (refine WD_idx htb ?_) | (refine WD_idxo htb ?_) | (refine WD_lde1 htb ?_) | (refine WD_lde htb ?_) | (refine WD_ste htb ?_) | (refine WD_ap htb ?_) | (refine WD_ap0 htb ?_) | (refine WD_nil htb ?_) | (refine WD_nilr htb ?_) | (refine WD_rem ?_) | (refine WD_quo ?_) | (refine WD_slc htb ?_) | (refine WD_ixa htb ?_) | (refine WD_ix1 htb ?_) | (refine WD_t (by exact rfl) (by exact rfl) (by exact known) fun hb => ?_; rw [hb]; clear hb) | (refine WD_f (by exact rfl) (by exact rfl) (by exact known) fun hb => ?_; rw [hb]; clear hb) | ((refine WD_tf (by exact rfl) (by exact rfl) ?_ ?_) <;> (intro hb; (fail_if_success (with_reducible injection hb)); rw [hb]; (try simp only [List.length_map] at hb)))) | (with_reducible apply WA_seq) | ((with_reducible apply gR hmix hN); exact (by kernel_rfl); (try dsimp only [List.append_eq, List.cons_append, List.nil_append])) | ((with_reducible apply WD_end); (first | exact no_draw | (intro _; kernel_rfl)); try simp only [thn, inB, List.length_map, List.cons_append, List.nil_append]) | ((with_reducible apply gCt); exact rfl; exact rfl) | ((with_reducible apply gCf); exact rfl; exact rfl) | ((with_reducible apply gCk); exact rfl; exact known; intro hb; rw [hb]; clear hb) | ((with_reducible apply gCn); exact rfl; exact known; intro hb; rw [hb]; clear hb) | (((with_reducible apply gC2); exact rfl) <;> (intro hb; rw [hb])) | (with_reducible apply WA_block) | ((with_reducible first | apply WA_skip | apply WA_ret | apply WA_exit | apply WA_label); try simp only [thn, inB, List.length_map, List.cons_append, List.nil_append])))
    (exact glV [(4, .ptr 4 0)] [(4, .box 30 (cellsOf (aG ⟨g.num, g.accs.set ((s.x 8).n g.accs.length).toNat ⟨(nth g.accs ((s.x 8).n g.accs.length).toNat).id, nth odds (((s.x 8).x g.accs.length).n 15).toNat, (nth g.accs ((s.x 8).n g.accs.length).toNat).seq⟩, g.lins, g.offs, g.nid, g.fees, g.link⟩))), Sc.box (((s.x 8).x g.accs.length).x 15)] (LeV []))
  · have c0 : (s.n 8 == 0) = false := by rw [h]; rfl
    have c1 : (s.n 8 == 1) = true := by rw [h]; rfl
    have ha2 : 0 < g.accs.length := by omega
    have e : bentF s g = (⟨g.num, g.accs ++ [nth g.accs 0], g.lins, g.offs, g.nid, g.fees, g.link⟩, s.x 8) := by unfold bentF; rw [if_neg (by omega), if_pos h]
    have hrow : g.accs.map rA ++ [rA (nth g.accs 0)] = (g.accs ++ [nth g.accs 0]).map rA := by rw [List.map_append]; rfl
    rw [e]
    clear e
    (repeat' (first | ((with_reducible apply WD_id); first | (refine WD_sum ?_) | (refine WD_nxt htb (by exact rfl) ?_) | (refine WD_unk (by exact rfl) ?_; first | (refine WD_t (by exact rfl) (by exact rfl) (by exact known) fun hb => ?_; rw [hb]; clear hb) | (refine WD_f (by exact rfl) (by exact rfl) (by exact known) fun hb => ?_; rw [hb]; clear hb) | ((refine WD_tf (by exact rfl) (by exact rfl) ?_ ?_) <;> (intro hb; (fail_if_success (with_reducible injection hb)); rw [hb]; (try simp only [List.length_map] at hb)))) | (refine WD_call (by exact rfl) ?_; first | (refine WD_cM (N_m _ _ ?_ ?_) ?_; (exact hypS); (exact hypS)) | (refine WD_cM (odd_m _ ?_) ?_; (exact hypS)) | (refine WD_cM (oddAsset_m _ ?_) ?_; (exact hypS)) | (refine WD_cM (Pick_m (l := [0, 1, 1000001]) _ ?_ ?_ ?_) ?_; (exact hypS); (exact hypS); (exact hypS)) | (refine WD_cM (Pick_m (l := [0, 2, 4]) _ ?_ ?_ ?_) ?_; (exact hypS); (exact hypS); (exact hypS)) | (refine WD_cM (Pick_m (l := [2, 6]) _ ?_ ?_ ?_) ?_; (exact hypS); (exact hypS); (exact hypS))) | (refine WD_idx htb ?_) | (refine WD_idxo htb ?_) | (refine WD_lde1 htb ?_) | (refine WD_lde htb ?_) | (refine WD_ste htb ?_) | (refine WD_ap htb ?_) | (refine WD_ap0 htb ?_) | (refine WD_nil htb ?_) | (refine WD_nilr htb ?_) | (refine WD_rem ?_) | (refine WD_quo ?_) | (refine WD_slc htb ?_) | (refine WD_ixa htb ?_) | (refine WD_ix1 htb ?_) | (refine WD_t (by exact rfl) (by exact rfl) (by exact known) fun hb => ?_; rw [hb]; clear hb) | (refine WD_f (by exact rfl) (by exact rfl) (by exact known) fun hb => ?_; rw [hb]; clear hb) | ((refine WD_tf (by exact rfl) (by exact rfl) ?_ ?_) <;> (intro hb; (fail_if_success (with_reducible injection hb)); rw [hb]; (try simp only [List.length_map] at hb)))) | (with_reducible apply WA_seq) | ((with_reducible apply gR hmix hN); exact (by kernel_rfl); (try dsimp only [List.append_eq, List.cons_append, List.nil_append])) | ((with_reducible apply WD_end); (first | exact no_draw | (intro _; kernel_rfl)); try simp only [thn, inB, List.length_map, List.cons_append, List.nil_append]) | ((with_reducible apply gCt); exact rfl; exact rfl) | ((with_reducible apply gCf); exact rfl; exact rfl) | ((with_reducible apply gCk); exact rfl; exact known; intro hb; rw [hb]; clear hb) | ((with_reducible apply gCn); exact rfl; exact known; intro hb; rw [hb]; clear hb) | (((with_reducible apply gC2); exact rfl) <;> (intro hb; rw [hb])) | (with_reducible apply WA_block) | ((with_reducible first | apply WA_skip | apply WA_ret | apply WA_exit | apply WA_label); try simp only [thn, inB, List.length_map, List.cons_append, List.nil_append])))
    (exact glV [(4, .ptr 4 0)] [(4, .box 30 (cellsOf (aG ⟨g.num, g.accs ++ [nth g.accs 0], g.lins, g.offs, g.nid, g.fees, g.link⟩))), Sc.box (s.x 8)] (LeV []))
  · have c0 : (s.n 8 == 0) = false := by rw [h]; rfl
    have c1 : (s.n 8 == 1) = false := by rw [h]; rfl
    have c2 : (s.n 8 == 2) = true := by rw [h]; rfl
    have b3 := (s.x 8).n_bd (k := 3) (by decide)
    have e : bentF s g = (⟨g.num, g.accs, g.lins, g.offs, nth [0, 1, 1000001] ((s.x 8).n 3).toNat, g.fees, g.link⟩, (s.x 8).x 3) := by unfold bentF; rw [if_neg (by omega), if_neg (by omega), if_pos h]
    rw [e]
    clear e
    (repeat' (first | ((with_reducible apply WD_id); first | (refine WD_sum ?_) | (refine WD_nxt htb (by exact rfl) ?_) | (refine WD_unk (by exact rfl) ?_; first | (refine WD_t (by exact rfl) (by exact rfl) (by exact known) fun hb => ?_; rw [hb]; clear hb) | (refine WD_f (by exact rfl) (by exact rfl) (by exact known) fun hb => ?_; rw [hb]; clear hb) | ((refine WD_tf (by exact rfl) (by exact rfl) ?_ ?_) <;> (intro hb; (fail_if_success (with_reducible injection hb)); rw [hb]; (try simp only [List.length_map] at hb)))) | (refine WD_call (by exact rfl) ?_; first | (refine WD_cM (N_m _ _ ?_ ?_) ?_; (exact hypS); (exact hypS)) | (refine WD_cM (odd_m _ ?_) ?_; (exact hypS)) | (refine WD_cM (oddAsset_m _ ?_) ?_; (exact hypS)) | (refine WD_cM (Pick_m (l := [0, 1, 1000001]) _ ?_ ?_ ?_) ?_; (exact hypS); (exact hypS); (exact hypS)) | (refine WD_cM (Pick_m (l := [0, 2, 4]) _ ?_ ?_ ?_) ?_; (exact hypS); (exact hypS); (exact hypS)) | (refine WD_cM (Pick_m (l := [2, 6]) _ ?_ ?_ ?_) ?_; (exact hypS); (exact hypS); (exact hypS))) | (refine WD_idx htb ?_) | (refine WD_idxo htb ?_) | (refine WD_lde1 htb ?_) | (refine WD_lde htb ?_) | (refine WD_ste htb ?_) | (refine WD_ap htb ?_) | (refine WD_ap0 htb ?_) | (refine WD_nil htb ?_) | (refine WD_nilr htb ?_) | (refine WD_rem ?_) | (refine WD_quo ?_) | (refine WD_slc htb ?_) | (refine WD_ixa htb ?_) | (refine WD_ix1 htb ?_) | (refine WD_t (by exact rfl) (by exact rfl) (by exact known) fun hb => ?_; rw [hb]; clear hb) | (refine WD_f (by exact rfl) (by exact rfl) (by exact known) fun hb => ?_; rw [hb]; clear hb) | ((refine WD_tf (by exact rfl) (by exact rfl) ?_ ?_) <;> (intro hb; (fail_if_success (with_reducible injection hb)); rw [hb]; (try simp only [List.length_map] at hb)))) | (with_reducible apply WA_seq) | ((with_reducible apply gR hmix hN); exact (by kernel_rfl); (try dsimp only [List.append_eq, List.cons_append, List.nil_append])) | ((with_reducible apply WD_end); (first | exact no_draw | (intro _; kernel_rfl)); try simp only [thn, inB, List.length_map, List.cons_append, List.nil_append]) | ((with_reducible apply gCt); exact rfl; exact rfl) | ((with_reducible apply gCf); exact rfl; exact rfl) | ((with_reducible apply gCk); exact rfl; exact known; intro hb; rw [hb]; clear hb) | ((with_reducible apply gCn); exact rfl; exact known; intro hb; rw [hb]; clear hb) | (((with_reducible apply gC2); exact rfl) <;> (intro hb; rw [hb])) | (with_reducible apply WA_block) | ((with_reducible first | apply WA_skip | apply WA_ret | apply WA_exit | apply WA_label); try simp only [thn, inB, List.length_map, List.cons_append, List.nil_append])))
    (exact glV [(4, .ptr 4 0)] [(4, .box 30 (cellsOf (aG ⟨g.num, g.accs, g.lins, g.offs, nth [0, 1, 1000001] ((s.x 8).n 3).toNat, g.fees, g.link⟩))), Sc.box ((s.x 8).x 3)] (LeV []))
  · have c0 : (s.n 8 == 0) = false := by rw [h]; rfl
    have c1 : (s.n 8 == 1) = false := by rw [h]; rfl
    have c2 : (s.n 8 == 2) = false := by rw [h]; rfl
    have c3 : (s.n 8 == 3) = true := by rw [h]; rfl
    have e : bentF s g = (⟨g.num, g.accs, g.lins, g.offs, g.nid, nth odds ((s.x 8).n 15).toNat, g.link⟩, (s.x 8).x 15) := by unfold bentF; rw [if_neg (by omega), if_neg (by omega), if_neg (by omega), if_pos h]
    rw [e]
    clear e
    (repeat' (first | ((with_reducible apply WD_id); first | (refine WD_sum ?_) | (refine WD_nxt htb (by exact rfl) ?_) | (refine WD_unk (by exact rfl) ?_; first | (refine WD_t (by exact rfl) (by exact rfl) (by exact known) fun hb => ?_; rw [hb]; clear hb) | (refine WD_f (by exact rfl) (by exact rfl) (by exact known) fun hb => ?_; rw [hb]; clear hb) | ((refine WD_tf (by exact rfl) (by exact rfl) ?_ ?_) <;> (intro hb; (fail_if_success (with_reducible injection hb)); rw [hb]; (try simp only [List.length_map] at hb)))) | (refine WD_call (by exact rfl) ?_; first | (refine WD_cM (N_m _ _ ?_ ?_) ?_; (exact hypS); (exact hypS)) | (refine WD_cM (odd_m _ ?_) ?_; (exact hypS)) | (refine WD_cM (oddAsset_m _ ?_) ?_; (exact hypS)) | (refine WD_cM (Pick_m (l := [0, 1, 1000001]) _ ?_ ?_ ?_) ?_; (exact hypS); (exact hypS); (exact hypS)) | (refine WD_cM (Pick_m (l := [0, 2, 4]) _ ?_ ?_ ?_) ?_; (exact hypS); (exact hypS); (exact hypS)) | (refine WD_cM (Pick_m (l := [2, 6]) _ ?_ ?_ ?_) ?_; (exact hypS); (exact hypS); (exact hypS))) | (refine WD_idx htb ?_) | (refine WD_idxo htb ?_) | (refine WD_lde1 htb ?_) | (refine WD_lde htb ?_) | (refine WD_ste htb ?_) | (refine WD_ap htb ?_) | (refine WD_ap0 htb ?_) | (refine WD_nil htb ?_) | (refine WD_nilr htb ?_) | (refine WD_rem ?_) | (refine WD_quo ?_) | (refine WD_slc htb ?_) | (refine WD_ixa htb ?_) | (refine WD_ix1 htb ?_) | (refine WD_t (by exact rfl) (by exact rfl) (by exact known) fun hb => ?_; rw [hb]; clear hb) | (refine WD_f (by exact rfl) (by exact rfl) (by exact known) fun hb => ?_; rw [hb]; clear hb) | ((refine WD_tf (by exact rfl) (by exact rfl) ?_ ?_) <;> (intro hb; (fail_if_success (with_reducible injection hb)); rw [hb]; (try simp only [List.length_map] at hb)))) | (with_reducible apply WA_seq) | ((with_reducible apply gR hmix hN); exact (by kernel_rfl); (try dsimp only [List.append_eq, List.cons_append, List.nil_append])) | ((with_reducible apply WD_end); (first | exact no_draw | (intro _; kernel_rfl)); try simp only [thn, inB, List.length_map, List.cons_append, List.nil_append]) | ((with_reducible apply gCt); exact rfl; exact rfl) | ((with_reducible apply gCf); exact rfl; exact rfl) | ((with_reducible apply gCk); exact rfl; exact known; intro hb; rw [hb]; clear hb) | ((with_reducible apply gCn); exact rfl; exact known; intro hb; rw [hb]; clear hb) | (((with_reducible apply gC2); exact rfl) <;> (intro hb; rw [hb])) | (with_reducible apply WA_block) | ((with_reducible first | apply WA_skip | apply WA_ret | apply WA_exit | apply WA_label); try simp only [thn, inB, List.length_map, List.cons_append, List.nil_append])))
    (exact glV [(4, .ptr 4 0)] [(4, .box 30 (cellsOf (aG ⟨g.num, g.accs, g.lins, g.offs, g.nid, nth odds ((s.x 8).n 15).toNat, g.link⟩))), Sc.box ((s.x 8).x 15)] (LeV []))
  · have c0 : (s.n 8 == 0) = false := by rw [h]; rfl
    have c1 : (s.n 8 == 1) = false := by rw [h]; rfl
    have c2 : (s.n 8 == 2) = false := by rw [h]; rfl
    have c3 : (s.n 8 == 3) = false := by rw [h]; rfl
    have c4 : (s.n 8 == 4) = true := by rw [h]; rfl
    by_cases hz : 0 < g.lins.length
    · have d1 : decide ((g.lins.length : Int) > 0) = true := by simp; omega
      have bl := (s.x 8).n_bd (k := (g.lins.length : Int)) (by omega)
      have e : bentF s g = (⟨g.num, g.accs, g.lins.set ((s.x 8).n g.lins.length).toNat ⟨(nth g.lins ((s.x 8).n g.lins.length).toNat).acc, (nth g.lins ((s.x 8).n g.lins.length).toNat).code, (nth g.lins ((s.x 8).n g.lins.length).toNat).iss, nth odds (((s.x 8).x g.lins.length).n 15).toNat, (nth g.lins ((s.x 8).n g.lins.length).toNat).lim⟩, g.offs, g.nid, g.fees, g.link⟩, ((s.x 8).x g.lins.length).x 15) := by unfold bentF; rw [if_neg (by omega), if_neg (by omega), if_neg (by omega), if_neg (by omega), if_pos h, if_pos hz]
      have hrow : (g.lins.map rL).set ((s.x 8).n g.lins.length).toNat [dI (nth g.lins ((s.x 8).n g.lins.length).toNat).acc, dS (nth g.lins ((s.x 8).n g.lins.length).toNat).code, dI (nth g.lins ((s.x 8).n g.lins.length).toNat).iss, dI (nth odds (((s.x 8).x g.lins.length).n 15).toNat), dI (nth g.lins ((s.x 8).n g.lins.length).toNat).lim] = (g.lins.set ((s.x 8).n g.lins.length).toNat ⟨(nth g.lins ((s.x 8).n g.lins.length).toNat).acc, (nth g.lins ((s.x 8).n g.lins.length).toNat).code, (nth g.lins ((s.x 8).n g.lins.length).toNat).iss, nth odds (((s.x 8).x g.lins.length).n 15).toNat, (nth g.lins ((s.x 8).n g.lins.length).toNat).lim⟩).map rL := by rw [List.map_set]; rfl
      rw [e]
      clear e
      (repeat' (first | ((with_reducible apply WD_id); first | (refine WD_sum ?_) | (refine WD_nxt htb (by exact rfl) ?_) | (refine WD_unk (by exact rfl) ?_; first | (refine WD_t (by exact rfl) (by exact rfl) (by exact known) fun hb => ?_; rw [hb]; clear hb) | (refine WD_f (by exact rfl) (by exact rfl) (by exact known) fun hb => ?_; rw [hb]; clear hb) | ((refine WD_tf (by exact rfl) (by exact rfl) ?_ ?_) <;> (intro hb; (fail_if_success (with_reducible injection hb)); rw [hb]; (try simp only [List.length_map] at hb)))) | (refine WD_call (by exact rfl) ?_; first | (refine WD_cM (N_m _ _ ?_ ?_) ?_; (exact hypS); (exact hypS)) | (refine WD_cM (odd_m _ ?_) ?_; (exact hypS)) | (refine WD_cM (oddAsset_m _ ?_) ?_; (exact hypS)) | (refine WD_cM (Pick_m (l := [0, 2, 4]) _ ?_ ?_ ?_) ?_; (exact hypS); (exact hypS); (exact hypS)) | (refine WD_cM (Pick_m (l := [2, 6]) _ ?_ ?_ ?_) ?_; (exact hypS); (exact hypS); (exact hypS))) | (refine WD_idx htb ?_) | (refine WD_idxo htb ?_) | (refine WD_lde1 htb ?_) | (refine WD_lde htb ?_) | (refine WD_ste htb ?_) | (refine WD_ap htb ?_) | (refine WD_ap0 htb ?_) | (refine WD_nil htb ?_) | (refine WD_nilr htb ?_) | (refine WD_rem ?_) | (refine WD_quo ?_) | (refine WD_slc htb ?_) | (refine WD_ixa htb ?_) | (refine WD_ix1 htb ?_) | (refine WD_t (by exact rfl) (by exact rfl) (by exact known) fun hb => ?_; rw [hb]; clear hb) | (refine WD_f (by exact rfl) (by exact rfl) (by exact known) fun hb => ?_; rw [hb]; clear hb) | ((refine WD_tf (by exact rfl) (by exact rfl) ?_ ?_) <;> (intro hb; (fail_if_success (with_reducible injection hb)); rw [hb]; (try simp only [List.length_map] at hb)))) | (with_reducible apply WA_seq) | ((with_reducible apply gR hmix hN); exact (by kernel_rfl); (try dsimp only [List.append_eq, List.cons_append, List.nil_append])) | ((with_reducible apply WD_end); (first | exact no_draw | (intro _; kernel_rfl)); try simp only [thn, inB, List.length_map, List.cons_append, List.nil_append]) | ((with_reducible apply gCt); exact rfl; exact rfl) | ((with_reducible apply gCf); exact rfl; exact rfl) | ((with_reducible apply gCk); exact rfl; exact known; intro hb; rw [hb]; clear hb) | ((with_reducible apply gCn); exact rfl; exact known; intro hb; rw [hb]; clear hb) | (((with_reducible apply gC2); exact rfl) <;> (intro hb; rw [hb])) | (with_reducible apply WA_block) | ((with_reducible first | apply WA_skip | apply WA_ret | apply WA_exit | apply WA_label); try simp only [thn, inB, List.length_map, List.cons_append, List.nil_append])))
      (exact glV [(4, .ptr 4 0)] [(4, .box 30 (cellsOf (aG ⟨g.num, g.accs, g.lins.set ((s.x 8).n g.lins.length).toNat ⟨(nth g.lins ((s.x 8).n g.lins.length).toNat).acc, (nth g.lins ((s.x 8).n g.lins.length).toNat).code, (nth g.lins ((s.x 8).n g.lins.length).toNat).iss, nth odds (((s.x 8).x g.lins.length).n 15).toNat, (nth g.lins ((s.x 8).n g.lins.length).toNat).lim⟩, g.offs, g.nid, g.fees, g.link⟩))), Sc.box (((s.x 8).x g.lins.length).x 15)] (LeV []))
    · have d1 : decide ((g.lins.length : Int) > 0) = false := by simp only [decide_eq_false_iff_not]; omega
      have e : bentF s g = (g, s.x 8) := by unfold bentF; rw [if_neg (by omega), if_neg (by omega), if_neg (by omega), if_neg (by omega), if_pos h, if_neg hz]
      rw [e]
      clear e
      (repeat' (first | ((with_reducible apply WD_id); first | (refine WD_sum ?_) | (refine WD_nxt htb (by exact rfl) ?_) | (refine WD_unk (by exact rfl) ?_; first | (refine WD_t (by exact rfl) (by exact rfl) (by exact known) fun hb => ?_; rw [hb]; clear hb) | (refine WD_f (by exact rfl) (by exact rfl) (by exact known) fun hb => ?_; rw [hb]; clear hb) | ((refine WD_tf (by exact rfl) (by exact rfl) ?_ ?_) <;> (intro hb; (fail_if_success (with_reducible injection hb)); rw [hb]; (try simp only [List.length_map] at hb)))) | (refine WD_call (by exact rfl) ?_; first | (refine WD_cM (N_m _ _ ?_ ?_) ?_; (exact hypS); (exact hypS)) | (refine WD_cM (odd_m _ ?_) ?_; (exact hypS))) | (refine WD_idx htb ?_) | (refine WD_idxo htb ?_) | (refine WD_lde1 htb ?_) | (refine WD_lde htb ?_) | (refine WD_ste htb ?_) | (refine WD_ap htb ?_) | (refine WD_ap0 htb ?_) | (refine WD_nil htb ?_) | (refine WD_nilr htb ?_) | (refine WD_rem ?_) | (refine WD_quo ?_) | (refine WD_slc htb ?_) | (refine WD_ixa htb ?_) | (refine WD_ix1 htb ?_) | (refine WD_t (by exact rfl) (by exact rfl) (by exact known) fun hb => ?_; rw [hb]; clear hb) | (refine WD_f (by exact rfl) (by exact rfl) (by exact known) fun hb => ?_; rw [hb]; clear hb) | ((refine WD_tf (by exact rfl) (by exact rfl) ?_ ?_) <;> (intro hb; (fail_if_success (with_reducible injection hb)); rw [hb]; (try simp only [List.length_map] at hb)))) | (with_reducible apply WA_seq) | ((with_reducible apply gR hmix hN); exact (by kernel_rfl); (try dsimp only [List.append_eq, List.cons_append, List.nil_append])) | ((with_reducible apply WD_end); (first | exact no_draw | (intro _; kernel_rfl)); try simp only [thn, inB, List.length_map, List.cons_append, List.nil_append]) | ((with_reducible apply gCt); exact rfl; exact rfl) | ((with_reducible apply gCf); exact rfl; exact rfl) | ((with_reducible apply gCk); exact rfl; exact known; intro hb; rw [hb]; clear hb) | ((with_reducible apply gCn); exact rfl; exact known; intro hb; rw [hb]; clear hb) | (((with_reducible apply gC2); exact rfl) <;> (intro hb; rw [hb])) | (with_reducible apply WA_block) | ((with_reducible first | apply WA_skip | apply WA_ret | apply WA_exit | apply WA_label); try simp only [thn, inB, List.length_map, List.cons_append, List.nil_append])))
      (exact glV [(4, .ptr 4 0)] [(4, .box 30 (cellsOf (aG g))), Sc.box (s.x 8)] (LeV []))
  · have c0 : (s.n 8 == 0) = false := by rw [h]; rfl
    have c1 : (s.n 8 == 1) = false := by rw [h]; rfl
    have c2 : (s.n 8 == 2) = false := by rw [h]; rfl
    have c3 : (s.n 8 == 3) = false := by rw [h]; rfl
    have c4 : (s.n 8 == 4) = false := by rw [h]; rfl
    have c5 : (s.n 8 == 5) = true := by rw [h]; rfl
    by_cases hz : 0 < g.lins.length
    · have d1 : decide ((g.lins.length : Int) > 0) = true := by simp; omega
      have bl := (s.x 8).n_bd (k := (g.lins.length : Int)) (by omega)
      have e : bentF s g = (⟨g.num, g.accs, g.lins.set ((s.x 8).n g.lins.length).toNat ⟨(nth g.lins ((s.x 8).n g.lins.length).toNat).acc, (nth odA6 (((s.x 8).x g.lins.length).n 6).toNat).1, (nth odA6 (((s.x 8).x g.lins.length).n 6).toNat).2, (nth g.lins ((s.x 8).n g.lins.length).toNat).bal, (nth g.lins ((s.x 8).n g.lins.length).toNat).lim⟩, g.offs, g.nid, g.fees, g.link⟩, ((s.x 8).x g.lins.length).x 6) := by unfold bentF; rw [if_neg (by omega), if_neg (by omega), if_neg (by omega), if_neg (by omega), if_neg (by omega), if_pos h, if_pos hz]
      have hrow : (g.lins.map rL).set ((s.x 8).n g.lins.length).toNat [dI (nth g.lins ((s.x 8).n g.lins.length).toNat).acc, dS (nth odA6 (((s.x 8).x g.lins.length).n 6).toNat).1, dI (nth odA6 (((s.x 8).x g.lins.length).n 6).toNat).2, dI (nth g.lins ((s.x 8).n g.lins.length).toNat).bal, dI (nth g.lins ((s.x 8).n g.lins.length).toNat).lim] = (g.lins.set ((s.x 8).n g.lins.length).toNat ⟨(nth g.lins ((s.x 8).n g.lins.length).toNat).acc, (nth odA6 (((s.x 8).x g.lins.length).n 6).toNat).1, (nth odA6 (((s.x 8).x g.lins.length).n 6).toNat).2, (nth g.lins ((s.x 8).n g.lins.length).toNat).bal, (nth g.lins ((s.x 8).n g.lins.length).toNat).lim⟩).map rL := by rw [List.map_set]; rfl
      rw [e]
      clear e
      (repeat' (first | ((with_reducible apply WD_id); first | (refine WD_sum ?_) | (refine WD_nxt htb (by exact rfl) ?_) | (refine WD_unk (by exact rfl) ?_; first | (refine WD_t (by exact rfl) (by exact rfl) (by exact known) fun hb => ?_; rw [hb]; clear hb) | (refine WD_f (by exact rfl) (by exact rfl) (by exact known) fun hb => ?_; rw [hb]; clear hb) | ((refine WD_tf (by exact rfl) (by exact rfl) ?_ ?_) <;> (intro hb; (fail_if_success (with_reducible injection hb)); rw [hb]; (try simp only [List.length_map] at hb)))) | (refine WD_call (by exact rfl) ?_; first | (refine WD_cM (N_m _ _ ?_ ?_) ?_; (exact hypS); (exact hypS)) | (refine WD_cM (odd_m _ ?_) ?_; (exact hypS)) | (refine WD_cM (oddAsset_m _ ?_) ?_; (exact hypS)) | (refine WD_cM (Pick_m (l := [0, 2, 4]) _ ?_ ?_ ?_) ?_; (exact hypS); (exact hypS); (exact hypS)) | (refine WD_cM (Pick_m (l := [2, 6]) _ ?_ ?_ ?_) ?_; (exact hypS); (exact hypS); (exact hypS))) | (refine WD_idx htb ?_) | (refine WD_idxo htb ?_) | (refine WD_lde1 htb ?_) | (refine WD_lde htb ?_) | (refine WD_ste htb ?_) | (refine WD_ap htb ?_) | (refine WD_ap0 htb ?_) | (refine WD_nil htb ?_) | (refine WD_nilr htb ?_) | (refine WD_rem ?_) | (refine WD_quo ?_) | (refine WD_slc htb ?_) | (refine WD_ixa htb ?_) | (refine WD_ix1 htb ?_) | (refine WD_t (by exact rfl) (by exact rfl) (by exact known) fun hb => ?_; rw [hb]; clear hb) | (refine WD_f (by exact rfl) (by exact rfl) (by exact known) fun hb => ?_; rw [hb]; clear hb) | ((refine WD_tf (by exact rfl) (by exact rfl) ?_ ?_) <;> (intro hb; (fail_if_success (with_reducible injection hb)); rw [hb]; (try simp only [List.length_map] at hb)))) | (with_reducible apply WA_seq) | ((with_reducible apply gR hmix hN); exact (by kernel_rfl); (try dsimp only [List.append_eq, List.cons_append, List.nil_append])) | ((with_reducible apply WD_end); (first | exact no_draw | (intro _; kernel_rfl)); try simp only [thn, inB, List.length_map, List.cons_append, List.nil_append]) | ((with_reducible apply gCt); exact rfl; exact rfl) | ((with_reducible apply gCf); exact rfl; exact rfl) | ((with_reducible apply gCk); exact rfl; exact known; intro hb; rw [hb]; clear hb) | ((with_reducible apply gCn); exact rfl; exact known; intro hb; rw [hb]; clear hb) | (((with_reducible apply gC2); exact rfl) <;> (intro hb; rw [hb])) | (with_reducible apply WA_block) | ((with_reducible first | apply WA_skip | apply WA_ret | apply WA_exit | apply WA_label); try simp only [thn, inB, List.length_map, List.cons_append, List.nil_append])))
      (exact glV [(4, .ptr 4 0)] [(4, .box 30 (cellsOf (aG ⟨g.num, g.accs, g.lins.set ((s.x 8).n g.lins.length).toNat ⟨(nth g.lins ((s.x 8).n g.lins.length).toNat).acc, (nth odA6 (((s.x 8).x g.lins.length).n 6).toNat).1, (nth odA6 (((s.x 8).x g.lins.length).n 6).toNat).2, (nth g.lins ((s.x 8).n g.lins.length).toNat).bal, (nth g.lins ((s.x 8).n g.lins.length).toNat).lim⟩, g.offs, g.nid, g.fees, g.link⟩))), Sc.box (((s.x 8).x g.lins.length).x 6)] (LeV []))
    · have d1 : decide ((g.lins.length : Int) > 0) = false := by simp only [decide_eq_false_iff_not]; omega
      have e : bentF s g = (g, s.x 8) := by unfold bentF; rw [if_neg (by omega), if_neg (by omega), if_neg (by omega), if_neg (by omega), if_neg (by omega), if_pos h, if_neg hz]
      rw [e]
      clear e
      (repeat' (first | ((with_reducible apply WD_id); first | (refine WD_sum ?_) | (refine WD_nxt htb (by exact rfl) ?_) | (refine WD_unk (by exact rfl) ?_; first | (refine WD_t (by exact rfl) (by exact rfl) (by exact known) fun hb => ?_; rw [hb]; clear hb) | (refine WD_f (by exact rfl) (by exact rfl) (by exact known) fun hb => ?_; rw [hb]; clear hb) | ((refine WD_tf (by exact rfl) (by exact rfl) ?_ ?_) <;> (intro hb; (fail_if_success (with_reducible injection hb)); rw [hb]; (try simp only [List.length_map] at hb)))) | (refine WD_call (by exact rfl) ?_; first | (refine WD_cM (N_m _ _ ?_ ?_) ?_; (exact hypS); (exact hypS)) | (refine WD_cM (odd_m _ ?_) ?_; (exact hypS))) | (refine WD_idx htb ?_) | (refine WD_idxo htb ?_) | (refine WD_lde1 htb ?_) | (refine WD_lde htb ?_) | (refine WD_ste htb ?_) | (refine WD_ap htb ?_) | (refine WD_ap0 htb ?_) | (refine WD_nil htb ?_) | (refine WD_nilr htb ?_) | (refine WD_rem ?_) | (refine WD_quo ?_) | (refine WD_slc htb ?_) | (refine WD_ixa htb ?_) | (refine WD_ix1 htb ?_) | (refine WD_t (by exact rfl) (by exact rfl) (by exact known) fun hb => ?_; rw [hb]; clear hb) | (refine WD_f (by exact rfl) (by exact rfl) (by exact known) fun hb => ?_; rw [hb]; clear hb) | ((refine WD_tf (by exact rfl) (by exact rfl) ?_ ?_) <;> (intro hb; (fail_if_success (with_reducible injection hb)); rw [hb]; (try simp only [List.length_map] at hb)))) | (with_reducible apply WA_seq) | ((with_reducible apply gR hmix hN); exact (by kernel_rfl); (try dsimp only [List.append_eq, List.cons_append, List.nil_append])) | ((with_reducible apply WD_end); (first | exact no_draw | (intro _; kernel_rfl)); try simp only [thn, inB, List.length_map, List.cons_append, List.nil_append]) | ((with_reducible apply gCt); exact rfl; exact rfl) | ((with_reducible apply gCf); exact rfl; exact rfl) | ((with_reducible apply gCk); exact rfl; exact known; intro hb; rw [hb]; clear hb) | ((with_reducible apply gCn); exact rfl; exact known; intro hb; rw [hb]; clear hb) | (((with_reducible apply gC2); exact rfl) <;> (intro hb; rw [hb])) | (with_reducible apply WA_block) | ((with_reducible first | apply WA_skip | apply WA_ret | apply WA_exit | apply WA_label); try simp only [thn, inB, List.length_map, List.cons_append, List.nil_append])))
      (exact glV [(4, .ptr 4 0)] [(4, .box 30 (cellsOf (aG g))), Sc.box (s.x 8)] (LeV []))
  · have c0 : (s.n 8 == 0) = false := by rw [h]; rfl
    have c1 : (s.n 8 == 1) = false := by rw [h]; rfl
    have c2 : (s.n 8 == 2) = false := by rw [h]; rfl
    have c3 : (s.n 8 == 3) = false := by rw [h]; rfl
    have c4 : (s.n 8 == 4) = false := by rw [h]; rfl
    have c5 : (s.n 8 == 5) = false := by rw [h]; rfl
    have c6 : (s.n 8 == 6) = true := by rw [h]; rfl
    by_cases hz : 0 < g.offs.length
    · have d1 : decide ((g.offs.length : Int) > 0) = true := by simp; omega
      have bl := (s.x 8).n_bd (k := (g.offs.length : Int)) (by omega)
      have e : bentF s g = (⟨g.num, g.accs, g.lins, g.offs.set ((s.x 8).n g.offs.length).toNat ⟨(nth g.offs ((s.x 8).n g.offs.length).toNat).id, (nth g.offs ((s.x 8).n g.offs.length).toNat).seller, (nth g.offs ((s.x 8).n g.offs.length).toNat).sc, (nth g.offs ((s.x 8).n g.offs.length).toNat).si, (nth g.offs ((s.x 8).n g.offs.length).toNat).bc, (nth g.offs ((s.x 8).n g.offs.length).toNat).bi, (nth g.offs ((s.x 8).n g.offs.length).toNat).amt, nth [0, 2, 4] (((s.x 8).x g.offs.length).n 3).toNat, nth [2, 6] ((((s.x 8).x g.offs.length).x 3).n 2).toNat⟩, g.nid, g.fees, g.link⟩, (((s.x 8).x g.offs.length).x 3).x 2) := by unfold bentF; rw [if_neg (by omega), if_neg (by omega), if_neg (by omega), if_neg (by omega), if_neg (by omega), if_neg (by omega), if_pos h, if_pos hz]
      have hrow : ((g.offs.map rO).set ((s.x 8).n g.offs.length).toNat [dI (nth g.offs ((s.x 8).n g.offs.length).toNat).id, dI (nth g.offs ((s.x 8).n g.offs.length).toNat).seller, dS (nth g.offs ((s.x 8).n g.offs.length).toNat).sc, dI (nth g.offs ((s.x 8).n g.offs.length).toNat).si, dS (nth g.offs ((s.x 8).n g.offs.length).toNat).bc, dI (nth g.offs ((s.x 8).n g.offs.length).toNat).bi, dI (nth g.offs ((s.x 8).n g.offs.length).toNat).amt, dI (nth [0, 2, 4] (((s.x 8).x g.offs.length).n 3).toNat), dI (nth g.offs ((s.x 8).n g.offs.length).toNat).den]).set ((s.x 8).n g.offs.length).toNat [dI (nth g.offs ((s.x 8).n g.offs.length).toNat).id, dI (nth g.offs ((s.x 8).n g.offs.length).toNat).seller, dS (nth g.offs ((s.x 8).n g.offs.length).toNat).sc, dI (nth g.offs ((s.x 8).n g.offs.length).toNat).si, dS (nth g.offs ((s.x 8).n g.offs.length).toNat).bc, dI (nth g.offs ((s.x 8).n g.offs.length).toNat).bi, dI (nth g.offs ((s.x 8).n g.offs.length).toNat).amt, dI (nth [0, 2, 4] (((s.x 8).x g.offs.length).n 3).toNat), dI (nth [2, 6] ((((s.x 8).x g.offs.length).x 3).n 2).toNat)] = (g.offs.set ((s.x 8).n g.offs.length).toNat ⟨(nth g.offs ((s.x 8).n g.offs.length).toNat).id, (nth g.offs ((s.x 8).n g.offs.length).toNat).seller, (nth g.offs ((s.x 8).n g.offs.length).toNat).sc, (nth g.offs ((s.x 8).n g.offs.length).toNat).si, (nth g.offs ((s.x 8).n g.offs.length).toNat).bc, (nth g.offs ((s.x 8).n g.offs.length).toNat).bi, (nth g.offs ((s.x 8).n g.offs.length).toNat).amt, nth [0, 2, 4] (((s.x 8).x g.offs.length).n 3).toNat, nth [2, 6] ((((s.x 8).x g.offs.length).x 3).n 2).toNat⟩).map rO := by rw [List.set_set, List.map_set]; rfl
      rw [e]
      clear e
      (repeat' (first | ((with_reducible apply WD_id); first | (refine WD_sum ?_) | (refine WD_nxt htb (by exact rfl) ?_) | (refine WD_unk (by exact rfl) ?_; first | (refine WD_t (by exact rfl) (by exact rfl) (by exact known) fun hb => ?_; rw [hb]; clear hb) | (refine WD_f (by exact rfl) (by exact rfl) (by exact known) fun hb => ?_; rw [hb]; clear hb) | ((refine WD_tf (by exact rfl) (by exact rfl) ?_ ?_) <;> (intro hb; (fail_if_success (with_reducible injection hb)); rw [hb]; (try simp only [List.length_map] at hb)))) | (refine WD_call (by exact rfl) ?_; first | (refine WD_cM (N_m _ _ ?_ ?_) ?_; (exact hypS); (exact hypS)) | (refine WD_cM (odd_m _ ?_) ?_; (exact hypS)) | (refine WD_cM (oddAsset_m _ ?_) ?_; (exact hypS)) | (refine WD_cM (Pick_m (l := [0, 2, 4]) _ ?_ ?_ ?_) ?_; (exact hypS); (exact hypS); (exact hypS)) | (refine WD_cM (Pick_m (l := [2, 6]) _ ?_ ?_ ?_) ?_; (exact hypS); (exact hypS); (exact hypS))) | (refine WD_idx htb ?_) | (refine WD_idxo htb ?_) | (refine WD_lde1 htb ?_) | (refine WD_lde htb ?_) | (refine WD_ste htb ?_) | (refine WD_ap htb ?_) | (refine WD_ap0 htb ?_) | (refine WD_nil htb ?_) | (refine WD_nilr htb ?_) | (refine WD_rem ?_) | (refine WD_quo ?_) | (refine WD_slc htb ?_) | (refine WD_ixa htb ?_) | (refine WD_ix1 htb ?_) | (refine WD_t (by exact rfl) (by exact rfl) (by exact known) fun hb => ?_; rw [hb]; clear hb) | (refine WD_f (by exact rfl) (by exact rfl) (by exact known) fun hb => ?_; rw [hb]; clear hb) | ((refine WD_tf (by exact rfl) (by exact rfl) ?_ ?_) <;> (intro hb; (fail_if_success (with_reducible injection hb)); rw [hb]; (try simp only [List.length_map] at hb)))) | (with_reducible apply WA_seq) | ((with_reducible apply gR hmix hN); exact (by kernel_rfl); (try dsimp only [List.append_eq, List.cons_append, List.nil_append])) | ((with_reducible apply WD_end); (first | exact no_draw | (intro _; kernel_rfl)); try simp only [thn, inB, List.length_map, List.cons_append, List.nil_append]) | ((with_reducible apply gCt); exact rfl; exact rfl) | ((with_reducible apply gCf); exact rfl; exact rfl) | ((with_reducible apply gCk); exact rfl; exact known; intro hb; rw [hb]; clear hb) | ((with_reducible apply gCn); exact rfl; exact known; intro hb; rw [hb]; clear hb) | (((with_reducible apply gC2); exact rfl) <;> (intro hb; rw [hb])) | (with_reducible apply WA_block) | ((with_reducible first | apply WA_skip | apply WA_ret | apply WA_exit | apply WA_label); try simp only [thn, inB, List.length_map, List.cons_append, List.nil_append])))
      (exact glV [(4, .ptr 4 0)] [(4, .box 30 (cellsOf (aG ⟨g.num, g.accs, g.lins, g.offs.set ((s.x 8).n g.offs.length).toNat ⟨(nth g.offs ((s.x 8).n g.offs.length).toNat).id, (nth g.offs ((s.x 8).n g.offs.length).toNat).seller, (nth g.offs ((s.x 8).n g.offs.length).toNat).sc, (nth g.offs ((s.x 8).n g.offs.length).toNat).si, (nth g.offs ((s.x 8).n g.offs.length).toNat).bc, (nth g.offs ((s.x 8).n g.offs.length).toNat).bi, (nth g.offs ((s.x 8).n g.offs.length).toNat).amt, nth [0, 2, 4] (((s.x 8).x g.offs.length).n 3).toNat, nth [2, 6] ((((s.x 8).x g.offs.length).x 3).n 2).toNat⟩, g.nid, g.fees, g.link⟩))), Sc.box ((((s.x 8).x g.offs.length).x 3).x 2)] (LeV []))
    · have d1 : decide ((g.offs.length : Int) > 0) = false := by simp only [decide_eq_false_iff_not]; omega
      have e : bentF s g = (g, s.x 8) := by unfold bentF; rw [if_neg (by omega), if_neg (by omega), if_neg (by omega), if_neg (by omega), if_neg (by omega), if_neg (by omega), if_pos h, if_neg hz]
      rw [e]
      clear e
      (repeat' (first | ((with_reducible apply WD_id); first | (refine WD_sum ?_) | (refine WD_nxt htb (by exact rfl) ?_) | (refine WD_unk (by exact rfl) ?_; first | (refine WD_t (by exact rfl) (by exact rfl) (by exact known) fun hb => ?_; rw [hb]; clear hb) | (refine WD_f (by exact rfl) (by exact rfl) (by exact known) fun hb => ?_; rw [hb]; clear hb) | ((refine WD_tf (by exact rfl) (by exact rfl) ?_ ?_) <;> (intro hb; (fail_if_success (with_reducible injection hb)); rw [hb]; (try simp only [List.length_map] at hb)))) | (refine WD_call (by exact rfl) ?_; first | (refine WD_cM (N_m _ _ ?_ ?_) ?_; (exact hypS); (exact hypS)) | (refine WD_cM (odd_m _ ?_) ?_; (exact hypS))) | (refine WD_idx htb ?_) | (refine WD_idxo htb ?_) | (refine WD_lde1 htb ?_) | (refine WD_lde htb ?_) | (refine WD_ste htb ?_) | (refine WD_ap htb ?_) | (refine WD_ap0 htb ?_) | (refine WD_nil htb ?_) | (refine WD_nilr htb ?_) | (refine WD_rem ?_) | (refine WD_quo ?_) | (refine WD_slc htb ?_) | (refine WD_ixa htb ?_) | (refine WD_ix1 htb ?_) | (refine WD_t (by exact rfl) (by exact rfl) (by exact known) fun hb => ?_; rw [hb]; clear hb) | (refine WD_f (by exact rfl) (by exact rfl) (by exact known) fun hb => ?_; rw [hb]; clear hb) | ((refine WD_tf (by exact rfl) (by exact rfl) ?_ ?_) <;> (intro hb; (fail_if_success (with_reducible injection hb)); rw [hb]; (try simp only [List.length_map] at hb)))) | (with_reducible apply WA_seq) | ((with_reducible apply gR hmix hN); exact (by kernel_rfl); (try dsimp only [List.append_eq, List.cons_append, List.nil_append])) | ((with_reducible apply WD_end); (first | exact no_draw | (intro _; kernel_rfl)); try simp only [thn, inB, List.length_map, List.cons_append, List.nil_append]) | ((with_reducible apply gCt); exact rfl; exact rfl) | ((with_reducible apply gCf); exact rfl; exact rfl) | ((with_reducible apply gCk); exact rfl; exact known; intro hb; rw [hb]; clear hb) | ((with_reducible apply gCn); exact rfl; exact known; intro hb; rw [hb]; clear hb) | (((with_reducible apply gC2); exact rfl) <;> (intro hb; rw [hb])) | (with_reducible apply WA_block) | ((with_reducible first | apply WA_skip | apply WA_ret | apply WA_exit | apply WA_label); try simp only [thn, inB, List.length_map, List.cons_append, List.nil_append])))
      (exact glV [(4, .ptr 4 0)] [(4, .box 30 (cellsOf (aG g))), Sc.box (s.x 8)] (LeV []))
  · have c0 : (s.n 8 == 0) = false := by rw [h]; rfl
    have c1 : (s.n 8 == 1) = false := by rw [h]; rfl
    have c2 : (s.n 8 == 2) = false := by rw [h]; rfl
    have c3 : (s.n 8 == 3) = false := by rw [h]; rfl
    have c4 : (s.n 8 == 4) = false := by rw [h]; rfl
    have c5 : (s.n 8 == 5) = false := by rw [h]; rfl
    have c6 : (s.n 8 == 6) = false := by rw [h]; rfl
    have e : bentF s g = (⟨nth odds ((s.x 8).n 15).toNat, g.accs, g.lins, g.offs, g.nid, g.fees, g.link⟩, (s.x 8).x 15) := by unfold bentF; rw [if_neg (by omega), if_neg (by omega), if_neg (by omega), if_neg (by omega), if_neg (by omega), if_neg (by omega), if_neg (by omega)]
    rw [e]
    clear e
    (repeat' (first | ((with_reducible apply WD_id); first | (refine WD_sum ?_) | (refine WD_nxt htb (by exact rfl) ?_) | (refine WD_unk (by exact rfl) ?_; first | (refine WD_t (by exact rfl) (by exact rfl) (by exact known) fun hb => ?_; rw [hb]; clear hb) | (refine WD_f (by exact rfl) (by exact rfl) (by exact known) fun hb => ?_; rw [hb]; clear hb) | ((refine WD_tf (by exact rfl) (by exact rfl) ?_ ?_) <;> (intro hb; (fail_if_success (with_reducible injection hb)); rw [hb]; (try simp only [List.length_map] at hb)))) | (refine WD_call (by exact rfl) ?_; first | (refine WD_cM (N_m _ _ ?_ ?_) ?_; (exact hypS); (exact hypS)) | (refine WD_cM (odd_m _ ?_) ?_; (exact hypS)) | (refine WD_cM (oddAsset_m _ ?_) ?_; (exact hypS)) | (refine WD_cM (Pick_m (l := [0, 1, 1000001]) _ ?_ ?_ ?_) ?_; (exact hypS); (exact hypS); (exact hypS)) | (refine WD_cM (Pick_m (l := [0, 2, 4]) _ ?_ ?_ ?_) ?_; (exact hypS); (exact hypS); (exact hypS)) | (refine WD_cM (Pick_m (l := [2, 6]) _ ?_ ?_ ?_) ?_; (exact hypS); (exact hypS); (exact hypS))) | (refine WD_idx htb ?_) | (refine WD_idxo htb ?_) | (refine WD_lde1 htb ?_) | (refine WD_lde htb ?_) | (refine WD_ste htb ?_) | (refine WD_ap htb ?_) | (refine WD_ap0 htb ?_) | (refine WD_nil htb ?_) | (refine WD_nilr htb ?_) | (refine WD_rem ?_) | (refine WD_quo ?_) | (refine WD_slc htb ?_) | (refine WD_ixa htb ?_) | (refine WD_ix1 htb ?_) | (refine WD_t (by exact rfl) (by exact rfl) (by exact known) fun hb => ?_; rw [hb]; clear hb) | (refine WD_f (by exact rfl) (by exact rfl) (by exact known) fun hb => ?_; rw [hb]; clear hb) | ((refine WD_tf (by exact rfl) (by exact rfl) ?_ ?_) <;> (intro hb; (fail_if_success (with_reducible injection hb)); rw [hb]; (try simp only [List.length_map] at hb)))) | (with_reducible apply WA_seq) | ((with_reducible apply gR hmix hN); exact (by kernel_rfl); (try dsimp only [List.append_eq, List.cons_append, List.nil_append])) | ((with_reducible apply WD_end); (first | exact no_draw | (intro _; kernel_rfl)); try simp only [thn, inB, List.length_map, List.cons_append, List.nil_append]) | ((with_reducible apply gCt); exact rfl; exact rfl) | ((with_reducible apply gCf); exact rfl; exact rfl) | ((with_reducible apply gCk); exact rfl; exact known; intro hb; rw [hb]; clear hb) | ((with_reducible apply gCn); exact rfl; exact known; intro hb; rw [hb]; clear hb) | (((with_reducible apply gC2); exact rfl) <;> (intro hb; rw [hb])) | (with_reducible apply WA_block) | ((with_reducible first | apply WA_skip | apply WA_ret | apply WA_exit | apply WA_label); try simp only [thn, inB, List.length_map, List.cons_append, List.nil_append])))
    (exact glV [(4, .ptr 4 0)] [(4, .box 30 (cellsOf (aG ⟨nth odds ((s.x 8).n 15).toNat, g.accs, g.lins, g.offs, g.nid, g.fees, g.link⟩))), Sc.box ((s.x 8).x 15)] (LeV []))
theorem bent_e (s : Sc) (g : Led) (t : Led × Sc) (hs : s.ok) (ha1 : 1 ≤ g.accs.length) (ha : g.accs.length ≤ 900) (hl : g.lins.length ≤ 900) (ho : g.offs.length ≤ 900) (he : bentF s g = t) : FnM Tryz.prog 38 [s.box] [.ptr 9000 0, aG g] (aG t.1) [t.2.box] := he ▸ bent_m s g hs ha1 ha hl ho
end Go.Proofs.YteppnjgobaggaaaGreat
