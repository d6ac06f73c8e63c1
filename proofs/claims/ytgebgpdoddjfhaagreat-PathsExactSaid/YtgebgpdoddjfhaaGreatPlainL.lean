/- Plain laws on trust lines, for the statements of layer 37. No program stands here. -/
import Derived.Test.YtgebgpdoddjfhaaGreatPM
namespace Go.Proofs.YtgebgpdoddjfhaaGreat
set_option linter.unusedSimpArgs false
set_option linter.unusedVariables false
set_option linter.unnecessarySimpa false
set_option linter.unusedSectionVars false
set_option maxRecDepth 100000
open Go Go.RowKit Go.Am Go.Proofs.Grow

theorem lessA_irrefl (u : ByteArray) (i : Int) : lessA u i u i = false := by simp [lessA, less_irrefl]
theorem lessA_trans {u v t : ByteArray} {i j k : Int} (h : lessA u i v j = true) (h2 : lessA v j t k = true) : lessA u i t k = true := by
  simp only [lessA, Bool.or_eq_true, Bool.and_eq_true, beq_iff_eq, decide_eq_true_eq] at *
  rcases h with h | ⟨h, h'⟩ <;> rcases h2 with h2 | ⟨h2, h2'⟩
  · exact .inl (less_trans _ _ _ h h2)
  · exact .inl (h2 ▸ h)
  · exact .inl (h ▸ h2)
  · exact .inr ⟨h.trans h2, by omega⟩
/-- A line comes before another one. -/
def kLt (x y : Lin) : Prop := befL x y.acc y.code y.iss = true
theorem kLt_iff {x y : Lin} : kLt x y ↔ x.acc < y.acc ∨ (x.acc = y.acc ∧ lessA x.code x.iss y.code y.iss = true) := by
  simp only [kLt, befL, Bool.or_eq_true, Bool.and_eq_true, beq_iff_eq, decide_eq_true_eq]
theorem kLt_trans {x y z : Lin} (h : kLt x y) (k : kLt y z) : kLt x z := by
  rw [kLt_iff] at *
  rcases h with h | ⟨h, h'⟩ <;> rcases k with k | ⟨k, k'⟩
  · exact .inl (by omega)
  · exact .inl (by omega)
  · exact .inl (by omega)
  · exact .inr ⟨by omega, lessA_trans h' k'⟩
/-- A line is right by itself. -/
def GoodL (all : List Acc) (x : Lin) : Prop := (findA all x.acc).2 = true ∧ assetB x.code x.iss = true ∧ nativeB x.code x.iss = false ∧ ¬ x.iss = x.acc ∧ (0 ≤ x.lim ∧ x.lim ≤ 1000000000000) ∧ 0 ≤ x.bal ∧ x.bal ≤ x.lim
theorem linsOk_iff (all : List Acc) (l : List Lin) : ∀ p, linsOk all p l = true ↔ (∀ x ∈ l, GoodL all x) ∧ l.Pairwise kLt ∧ ∀ q, p = some q → ∀ x ∈ l, kLt q x := by
  induction l with
  | nil => intro p; simp [linsOk]
  | cons x r ih =>
    intro p
    simp only [linsOk, Bool.and_eq_true, ih, lin_iff, okA_iff]
    constructor
    · rintro ⟨⟨h1, h2, h3, h4, h5, h6, h7, h8⟩, h9, h10, h11⟩
      have h11' := h11 x rfl
      refine ⟨fun y hy => ?_, ?_, fun q hq y hy => ?_⟩
      · rcases List.mem_cons.1 hy with rfl | hy
        · exact ⟨h1, h2, h3, h4, h5, h6, h7⟩
        · exact h9 y hy
      · rw [List.pairwise_cons]; exact ⟨h11', h10⟩
      · subst hq
        rcases List.mem_cons.1 hy with rfl | hy
        · exact h8
        · exact kLt_trans (y := x) h8 (h11' y hy)
    · rintro ⟨h1, h2, h3⟩
      obtain ⟨g1, g2, g3, g4, g5, g6, g7⟩ := h1 x (by simp)
      rw [List.pairwise_cons] at h2
      refine ⟨⟨g1, g2, g3, g4, g5, g6, g7, ?_⟩, fun y hy => h1 y (by simp [hy]), h2.2, fun q hq y hy => ?_⟩
      · cases p with
        | none => rfl
        | some q => exact h3 q rfl x (by simp)
      · cases hq; exact h2.1 y hy
/-- The accounts and lines of a ledger are right. -/
structure RightG (g : Led) : Prop where
  accs : RightA g.accs
  len : g.lins.length ≤ 60
  good : ∀ x ∈ g.lins, GoodL g.accs x
  asc : g.lins.Pairwise kLt
theorem chkL_zero {g : Led} : chkL g.lins g.accs = 0 ↔ RightG g := by
  unfold chkL
  by_cases hc : chkA g.accs = 0
  · rw [if_neg (by simp [hc])]
    by_cases h : 60 < g.lins.length
    · rw [if_pos h]
      exact ⟨fun q => absurd q (by decide), fun q => by have := q.len; omega⟩
    · rw [if_neg h]
      have e := linsOk_iff g.accs g.lins none
      by_cases k : linsOk g.accs none g.lins = true
      · rw [if_pos k]
        obtain ⟨h1, h2, _⟩ := e.1 k
        exact ⟨fun _ => ⟨chkA_zero.1 hc, by omega, h1, h2⟩, fun _ => rfl⟩
      · rw [if_neg k]
        exact ⟨fun q => absurd q (by decide), fun q => absurd (e.2 ⟨q.good, q.asc, fun q hq => by cases hq⟩) k⟩
  · rw [if_pos hc]
    exact ⟨fun h => absurd h hc, fun h => absurd (chkA_zero.2 h.accs) hc⟩
theorem rightL_iff {g : Led} : rightL g = true ↔ RightG g := by simp [rightL, chkL_zero]
theorem hasKey_iff {a : Int} {u : ByteArray} {i : Int} {x : Lin} : hasKey a u i x = true ↔ x.acc = a ∧ x.code = u ∧ x.iss = i := by simp [hasKey, eqT_iff]
theorem idxL_cases (l : List Lin) (a : Int) (u : ByteArray) (i : Int) : (idxL l a u i = -1 ∧ ∀ x ∈ l, ¬ (x.acc = a ∧ x.code = u ∧ x.iss = i)) ∨ ∃ j : Nat, j < l.length ∧ idxL l a u i = (j : Int) ∧ (nth l j).acc = a ∧ (nth l j).code = u ∧ (nth l j).iss = i := by
  rcases idxF_spec (hasKey a u i) l 0 with ⟨h1, h2⟩ | ⟨j, j1, j2, j3, _⟩
  · exact .inl ⟨h1, fun x hx e => by have := h2 x hx; rw [hasKey_iff.2 e] at this; cases this⟩
  · exact .inr ⟨j, j1, by unfold idxL; rw [j2]; simp, hasKey_iff.1 j3⟩
theorem key_inj {l : List Lin} (h : l.Pairwise kLt) {j k : Nat} (hj : j < l.length) (hk : k < l.length) (e1 : (nth l j).acc = (nth l k).acc) (e2 : (nth l j).code = (nth l k).code) (e3 : (nth l j).iss = (nth l k).iss) : j = k := by
  rw [List.pairwise_iff_getElem] at h
  rw [nth_getElem l j hj, nth_getElem l k hk] at e1 e2 e3
  rcases Nat.lt_trichotomy j k with q | q | q
  · have := kLt_iff.1 (h j k hj hk q)
    rw [e1, e2, e3, lessA_irrefl] at this
    rcases this with h | ⟨_, h⟩
    · omega
    · cases h
  · exact q
  · have := kLt_iff.1 (h k j hk hj q)
    rw [e1, e2, e3, lessA_irrefl] at this
    rcases this with h | ⟨_, h⟩
    · omega
    · cases h
theorem idxL_at {l : List Lin} (h : l.Pairwise kLt) {j : Nat} (hj : j < l.length) : idxL l (nth l j).acc (nth l j).code (nth l j).iss = (j : Int) := by
  rcases idxL_cases l (nth l j).acc (nth l j).code (nth l j).iss with ⟨_, h2⟩ | ⟨k, k1, k2, k3, k4, k5⟩
  · exact absurd ⟨rfl, rfl, rfl⟩ (h2 _ (nth_mem l j hj))
  · rw [k2, key_inj h k1 hj k3 k4 k5]
theorem findL_no {l : List Lin} {a : Int} {u : ByteArray} {i : Int} (h : idxL l a u i < 0) : findL l a u i = (⟨0, ⟨#[]⟩, 0, 0, 0⟩, false) := by unfold findL; rw [if_pos h]
theorem findL_yes {l : List Lin} {a : Int} {u : ByteArray} {i : Int} (h : ¬ idxL l a u i < 0) : findL l a u i = (nth l (idxL l a u i).toNat, true) := by unfold findL; rw [if_neg h]
theorem findL_at {l : List Lin} (h : l.Pairwise kLt) {j : Nat} (hj : j < l.length) : findL l (nth l j).acc (nth l j).code (nth l j).iss = (nth l j, true) := by
  have e := idxL_at h hj
  rw [findL_yes (by omega), e]; simp
theorem findL_cases (l : List Lin) (a : Int) (u : ByteArray) (i : Int) : (idxL l a u i = -1 ∧ findL l a u i = (⟨0, ⟨#[]⟩, 0, 0, 0⟩, false)) ∨ ∃ j : Nat, j < l.length ∧ idxL l a u i = (j : Int) ∧ findL l a u i = (nth l j, true) ∧ (nth l j).acc = a ∧ (nth l j).code = u ∧ (nth l j).iss = i := by
  rcases idxL_cases l a u i with ⟨h1, _⟩ | ⟨j, j1, j2, j3⟩
  · exact .inl ⟨h1, findL_no (by omega)⟩
  · exact .inr ⟨j, j1, j2, by rw [findL_yes (by omega), j2]; simp, j3⟩
theorem findA_cases (l : List Acc) (i : Int) : (idxA l i = -1 ∧ findA l i = (⟨0, 0, 0⟩, false) ∧ ∀ x ∈ l, ¬ x.id = i) ∨ ∃ j : Nat, j < l.length ∧ idxA l i = (j : Int) ∧ findA l i = (nth l j, true) ∧ (nth l j).id = i := by
  rcases idxA_cases l i with ⟨h1, h2⟩ | ⟨j, j1, j2, j3⟩
  · exact .inl ⟨h1, findA_no (by omega), h2⟩
  · exact .inr ⟨j, j1, j2, by rw [findA_yes (by omega), j2]; simp, j3⟩

/-- What is held, and what there is room for, on a line and on an account. -/
theorem stand_line {g : Led} (h : RightG g) {j : Nat} (hj : j < g.lins.length) : heldF g (nth g.lins j).acc (nth g.lins j).code (nth g.lins j).iss = (nth g.lins j).bal ∧ roomF g (nth g.lins j).acc (nth g.lins j).code (nth g.lins j).iss = (nth g.lins j).lim - (nth g.lins j).bal := by
  obtain ⟨g1, g2, g3, g4, g5⟩ := h.good _ (nth_mem _ j hj)
  have hr := rightL_iff.2 h
  have hf := findL_at h.asc hj
  unfold heldF roomF lookF
  rw [if_pos hr, if_pos hr, if_neg (by simp [g1, g2]), if_neg (by simp [g3]), if_neg g4, hf]
  exact ⟨rfl, rfl⟩
theorem stand_acc {g : Led} (h : RightG g) {j : Nat} (hj : j < g.accs.length) : heldF g (nth g.accs j).id ⟨#[]⟩ 0 = (nth g.accs j).bal ∧ roomF g (nth g.accs j).id ⟨#[]⟩ 0 = 1000000000000 - (nth g.accs j).bal := by
  have hr := rightL_iff.2 h
  have hf := findA_at h.accs.2.2 hj
  unfold heldF roomF lookF
  rw [if_pos hr, if_pos hr, hf, if_neg (by simp [nat_asset]), if_pos nat_native]
  exact ⟨rfl, rfl⟩
theorem room_issuer {g : Led} (h : RightG g) (hm : MadeA g.accs) : roomF g 1 ⟨#[85, 83, 68]⟩ 1 = 1000000000000 := by
  have hr := rightL_iff.2 h
  have hf := hm.found (i := 1) (by omega) (by have := hm.one; omega)
  unfold roomF lookF
  rw [if_pos hr, if_neg (by simp [hf, usd_asset]), if_neg (by simp [usd_native]), if_pos rfl]
theorem room_none {g : Led} (hm : MadeA g.accs) : roomF g 999 ⟨#[85, 83, 68]⟩ 1 = 0 := by
  have hf : (findA g.accs 999).2 = false := by
    rcases findA_cases g.accs 999 with ⟨_, e, _⟩ | ⟨j, hj, _, _, e⟩
    · rw [e]
    · have := hm.ids j hj; have := hm.five; omega
  have e : lookF g 999 ⟨#[85, 83, 68]⟩ 1 = (0, 0, false) := by unfold lookF; rw [if_pos (.inl hf)]
  unfold roomF
  rw [e]
  split <;> rfl

/-- The sum of the balances of an asset's lines. -/
def sumT (u : ByteArray) (i : Int) : List Lin → Int
  | [] => 0
  | x :: r => (if eqT x.code x.iss u i = true then x.bal else 0) + sumT u i r
theorem issF_eq (u : ByteArray) (i : Int) (l : List Lin) : ∀ (s m : Int), 0 ≤ s → s ≤ m → (∀ x ∈ l, 0 ≤ x.bal ∧ x.bal ≤ 1000000000000) → m + 1000000000000 * l.length ≤ 1000000000000000 → issF u i s l = s + sumT u i l := by
  induction l with
  | nil => intro s m h1 h2 h3 h4; simp [issF, sumT]
  | cons x r ih =>
    intro s m h1 h2 h3 h4
    obtain ⟨b1, b2⟩ := h3 x (by simp)
    simp only [List.length_cons] at h4
    simp only [issF, sumT]
    split
    · have hw : wrap64 (s + x.bal) = s + x.bal := IntWalk.wrap64_in _ (by omega)
      rw [hw, ih (s + x.bal) (m + 1000000000000) (by omega) (by omega) (fun y hy => h3 y (by simp [hy])) (by omega)]; omega
    · rw [ih s (m + 1000000000000) (by omega) (by omega) (fun y hy => h3 y (by simp [hy])) (by omega)]; omega
theorem issued_right {g : Led} (h : RightG g) (u : ByteArray) (i : Int) : issued g.lins u i = sumT u i g.lins := by
  unfold issued
  have := h.len
  rw [issF_eq u i g.lins 0 0 (by omega) (by omega) (fun x hx => by have := h.good x hx; unfold GoodL at this; omega) (by omega)]; omega
theorem sumT_set (u : ByteArray) (i : Int) {l : List Lin} {j : Nat} {x : Lin} (hj : j < l.length) (h1 : x.code = (nth l j).code) (h2 : x.iss = (nth l j).iss) :
    sumT u i (l.set j x) = sumT u i l + (if eqT (nth l j).code (nth l j).iss u i = true then x.bal - (nth l j).bal else 0) := by
  induction l generalizing j with
  | nil => simp at hj
  | cons y r ih =>
    cases j with
    | zero =>
      have e : nth (y :: r) 0 = y := by simp [nth]
      rw [e] at h1 h2 ⊢
      simp only [List.set_cons_zero, sumT, h1, h2]
      split <;> omega
    | succ j =>
      have e : nth (y :: r) (j + 1) = nth r j := by simp [nth]
      rw [e] at h1 h2 ⊢
      simp only [List.set_cons_succ, sumT]
      rw [ih (by simpa using hj) h1 h2]; omega
theorem asc_set {l : List Lin} {j : Nat} {x : Lin} (hj : j < l.length) (h0 : x.acc = (nth l j).acc) (h1 : x.code = (nth l j).code) (h2 : x.iss = (nth l j).iss) (h : l.Pairwise kLt) : (l.set j x).Pairwise kLt := by
  rw [List.pairwise_iff_getElem] at h ⊢
  intro a b ha hb hab
  simp only [List.length_set] at ha hb
  have key : ∀ c (hc : c < l.length), ((l.set j x)[c]'(by simpa using hc)).acc = l[c].acc ∧ ((l.set j x)[c]'(by simpa using hc)).code = l[c].code ∧ ((l.set j x)[c]'(by simpa using hc)).iss = l[c].iss := by
    intro c hc
    rw [List.getElem_set]
    split
    · rename_i e; subst e; rw [nth_getElem l j hc] at h0 h1 h2; exact ⟨h0, h1, h2⟩
    · exact ⟨rfl, rfl, rfl⟩
  obtain ⟨a1, a2, a3⟩ := key a ha
  obtain ⟨b1, b2, b3⟩ := key b hb
  have := kLt_iff.1 (h a b ha hb hab)
  rw [kLt_iff, a1, a2, a3, b1, b2, b3]
  exact this
theorem findA_setB (l : List Acc) {j : Nat} {x : Acc} (hj : j < l.length) (h : x.id = (nth l j).id) (i : Int) : idxA (l.set j x) i = idxA l i ∧ (findA (l.set j x) i).2 = (findA l i).2 := by
  have hi : idxA (l.set j x) i = idxA l i := by
    have key : ∀ (l : List Acc) (j k : Nat), j < l.length → x.id = (nth l j).id → idxF (hasId i) k (l.set j x) = idxF (hasId i) k l := by
      intro l
      induction l with
      | nil => intro j k hj; simp at hj
      | cons y r ih =>
        intro j k hj h
        cases j with
        | zero =>
          have e : nth (y :: r) 0 = y := by simp [nth]
          rw [e] at h
          simp only [List.set_cons_zero, idxF, hasId, h]; rfl
        | succ j =>
          have e : nth (y :: r) (j + 1) = nth r j := by simp [nth]
          rw [e] at h
          simp only [List.set_cons_succ, idxF]
          rw [ih j (k + 1) (by simpa using hj) h]
    exact key l j 0 hj h
  refine ⟨hi, ?_⟩
  unfold findA
  rw [hi]
  split <;> rfl
theorem idxL_setB (l : List Lin) {j : Nat} {x : Lin} (hj : j < l.length) (h0 : x.acc = (nth l j).acc) (h1 : x.code = (nth l j).code) (h2 : x.iss = (nth l j).iss) (a : Int) (u : ByteArray) (i : Int) : idxL (l.set j x) a u i = idxL l a u i := by
  have key : ∀ (l : List Lin) (j k : Nat), j < l.length → x.acc = (nth l j).acc → x.code = (nth l j).code → x.iss = (nth l j).iss → idxF (hasKey a u i) k (l.set j x) = idxF (hasKey a u i) k l := by
    intro l
    induction l with
    | nil => intro j k hj; simp at hj
    | cons y r ih =>
      intro j k hj h0 h1 h2
      cases j with
      | zero =>
        have e : nth (y :: r) 0 = y := by simp [nth]
        rw [e] at h0 h1 h2
        simp only [List.set_cons_zero, idxF, hasKey, h0, h1, h2]; rfl
      | succ j =>
        have e : nth (y :: r) (j + 1) = nth r j := by simp [nth]
        rw [e] at h0 h1 h2
        simp only [List.set_cons_succ, idxF]
        rw [ih j (k + 1) (by simpa using hj) h0 h1 h2]
  exact key l j 0 hj h0 h1 h2
end Go.Proofs.YtgebgpdoddjfhaaGreat
