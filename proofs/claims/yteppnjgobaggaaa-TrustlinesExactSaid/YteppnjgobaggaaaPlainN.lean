/- Plain law of TrustlinesLimits. No program stands here. -/
import Derived.Test.YteppnjgobaggaaaPlainL
namespace Go.Proofs.Yteppnjgobaggaaa
set_option linter.unusedSimpArgs false
set_option linter.unusedVariables false
set_option linter.unnecessarySimpa false
set_option linter.unusedSectionVars false
set_option maxRecDepth 100000
open Go Go.RowKit Go.Am Go.Proofs.Grow

theorem toList_inj {u v : ByteArray} (h : u.toList = v.toList) : u = v := eqS_iff.1 (by simp [eqS, h])
theorem lessA_total {u v : ByteArray} {i j : Int} (h : lessA u i v j = false) (k : ¬ (u = v ∧ i = j)) : lessA v j u i = true := by
  simp only [lessA, Bool.or_eq_false_iff, Bool.or_eq_true, Bool.and_eq_true, Bool.and_eq_false_iff, beq_iff_eq, decide_eq_true_eq, decide_eq_false_iff_not, beq_eq_false_iff_ne] at *
  cases h2 : Op.bytesLess v.toList u.toList with
  | true => exact .inl rfl
  | false =>
    have e := less_total _ _ h.1 h2
    refine .inr ⟨e.symm, ?_⟩
    rcases h.2 with h3 | h3
    · exact absurd e h3
    · have : ¬ i = j := fun q => k ⟨toList_inj e, q⟩
      omega
theorem findL_mem {l : List Lin} (h : l.Pairwise kLt) {x : Lin} (hx : x ∈ l) : findL l x.acc x.code x.iss = (x, true) := by
  obtain ⟨j, hj, rfl⟩ := mem_nth hx
  exact findL_at h hj
theorem findL_none {l : List Lin} {a : Int} {u : ByteArray} {i : Int} (h : ∀ x ∈ l, ¬ (x.acc = a ∧ x.code = u ∧ x.iss = i)) : findL l a u i = (⟨0, ⟨#[]⟩, 0, 0, 0⟩, false) ∧ idxL l a u i = -1 := by
  rcases findL_cases l a u i with ⟨h1, h2⟩ | ⟨j, j1, j2, j3, j4⟩
  · exact ⟨h2, h1⟩
  · exact absurd j4 (h _ (nth_mem l j j1))
theorem insL_mem {x y : Lin} {l : List Lin} : y ∈ insL x l ↔ y = x ∨ y ∈ l := by
  induction l with
  | nil => simp [insL]
  | cons z r ih =>
    unfold insL
    split
    · simp only [List.mem_cons, ih]
      constructor
      · rintro (h | h | h) <;> simp [h]
      · rintro (h | h | h) <;> simp [h]
    · simp
theorem insL_len (x : Lin) (l : List Lin) : (insL x l).length = l.length + 1 := by
  induction l with
  | nil => rfl
  | cons z r ih => unfold insL; split <;> simp [ih]
theorem insL_asc {x : Lin} {l : List Lin} (h : l.Pairwise kLt) (hx : ∀ y ∈ l, ¬ (y.acc = x.acc ∧ y.code = x.code ∧ y.iss = x.iss)) : (insL x l).Pairwise kLt := by
  induction l with
  | nil => simp [insL]
  | cons z r ih =>
    rw [List.pairwise_cons] at h
    unfold insL
    split
    · rename_i hb
      rw [List.pairwise_cons]
      refine ⟨fun b hb2 => ?_, ih h.2 fun y hy => hx y (by simp [hy])⟩
      rcases insL_mem.1 hb2 with rfl | hb2
      · exact hb
      · exact h.1 b hb2
    · rename_i hb
      have hzx : kLt x z := by
        have hne := hx z (by simp)
        have hb : ¬ kLt z x := hb
        rw [kLt_iff] at hb ⊢
        have h1 : ¬ z.acc < x.acc := fun q => hb (.inl q)
        by_cases e : z.acc = x.acc
        · refine .inr ⟨e.symm, lessA_total ?_ fun q => hne ⟨e, q⟩⟩
          cases q : lessA z.code z.iss x.code x.iss with
          | false => rfl
          | true => exact absurd (.inr ⟨e, q⟩) hb
        · exact .inl (by omega)
      rw [List.pairwise_cons, List.pairwise_cons]
      refine ⟨fun b hb2 => ?_, h.1, h.2⟩
      rcases List.mem_cons.1 hb2 with rfl | hb2
      · exact hzx
      · exact kLt_trans hzx (h.1 b hb2)
/-- A new limit: what the statement asks. -/
theorem limits_law {g : Led} (h : RightG g) (hl : g.lins.length ≤ 10) {a : Int} {u : ByteArray} {i n : Int} (hf : (findA g.accs a).2 = true) (a1 : 1 ≤ a) (a2 : a ≤ 1000) (hu : assetB u i = true) (hn : nativeB u i = false) (hia : ¬ i = a) (n0 : 0 ≤ n) (n1 : n ≤ 599) :
    (limitF g.lins a u i n = ([], 70) ∧ (findL g.lins a u i).2 = true ∧ n < (findL g.lins a u i).1.bal) ∨
    (∃ l, limitF g.lins a u i n = (l, 0) ∧ l.length ≤ 1000 ∧ (findL l a u i).2 = decide (0 < n) ∧ ((findL l a u i).2 = true → (findL l a u i).1.lim = n ∧ (findL l a u i).1.bal = (findL g.lins a u i).1.bal) ∧ chkL l g.accs = 0 ∧
      ∀ x ∈ g.lins, ¬ (x.acc = a ∧ x.code = u ∧ x.iss = i) → findL l x.acc x.code x.iss = (x, true)) := by
  have e0 : ¬ (assetB u i = false ∨ nativeB u i = true ∨ i = a ∨ a < 1 ∨ 1000 < a) := by simp [hu, hn, hia]; omega
  have e1 : ¬ okA n = false := by simp [okA_iff.2 (show 0 ≤ n ∧ n ≤ 1000000000000 by omega)]
  unfold limitF
  rw [if_neg e0, if_neg e1]
  rcases findL_cases g.lins a u i with ⟨k1, k2⟩ | ⟨j, hj, k1, k2, k3, k4, k5⟩
  · have hno : ∀ x ∈ g.lins, ¬ (x.acc = a ∧ x.code = u ∧ x.iss = i) := by
      rcases idxL_cases g.lins a u i with ⟨_, q⟩ | ⟨j, _, q, _⟩
      · exact q
      · omega
    rw [if_pos (by omega), k2]
    by_cases hz : n = 0
    · rw [if_pos hz]
      refine .inr ⟨g.lins, rfl, by omega, by rw [k2]; simp [hz], fun hh => (by rw [k2] at hh; cases hh), chkL_zero.2 h, fun x hx _ => findL_mem h.asc hx⟩
    · rw [if_neg hz, if_neg (by omega)]
      have hasc := insL_asc (x := ⟨a, u, i, 0, n⟩) h.asc hno
      have hfd : findL (insL ⟨a, u, i, 0, n⟩ g.lins) a u i = (⟨a, u, i, 0, n⟩, true) := findL_mem hasc (insL_mem.2 (.inl rfl))
      refine .inr ⟨_, rfl, by rw [insL_len]; omega, by rw [hfd]; simp; omega, fun _ => by rw [hfd]; exact ⟨rfl, rfl⟩, chkL_zero (g := { g with lins := insL ⟨a, u, i, 0, n⟩ g.lins }) |>.2 ⟨h.accs, by dsimp only; rw [insL_len]; omega, fun x hx => ?_, hasc⟩, fun x hx _ => findL_mem hasc (insL_mem.2 (.inr hx))⟩
      rcases insL_mem.1 hx with rfl | hx
      · exact ⟨hf, hu, hn, hia, by dsimp only; omega, by dsimp only; omega, by dsimp only; omega⟩
      · exact h.good x hx
  · rw [if_neg (by omega), k2, k1]
    have hg := h.good _ (nth_mem _ j hj)
    have hgb : 0 ≤ (nth g.lins j).bal := by unfold GoodL at hg; omega
    simp only [Int.toNat_natCast]
    by_cases hb : n < (nth g.lins j).bal
    · rw [if_pos hb]; exact .inl ⟨rfl, trivial, hb⟩
    · rw [if_neg hb]
      refine .inr ?_
      by_cases hz : n = 0 ∧ (nth g.lins j).bal = 0
      · rw [if_pos hz]
        have hasc : (g.lins.eraseIdx j).Pairwise kLt := h.asc.sublist (List.eraseIdx_sublist _ _)
        have hmem : ∀ x ∈ g.lins.eraseIdx j, ¬ (x.acc = a ∧ x.code = u ∧ x.iss = i) := by
          intro x hx hk
          rw [List.mem_eraseIdx_iff_getElem] at hx
          obtain ⟨q, hq, hqj, rfl⟩ := hx
          have := key_inj h.asc hq hj (by rw [nth_getElem _ q hq, k3]; exact hk.1) (by rw [nth_getElem _ q hq, k4]; exact hk.2.1) (by rw [nth_getElem _ q hq, k5]; exact hk.2.2)
          exact hqj this
        have hfd := (findL_none hmem).1
        refine ⟨_, rfl, ?_, by rw [hfd]; simp; omega, fun hh => (by rw [hfd] at hh; cases hh), chkL_zero (g := { g with lins := g.lins.eraseIdx j }) |>.2 ⟨h.accs, ?_, fun x hx => h.good x (List.mem_of_mem_eraseIdx hx), hasc⟩, fun x hx hk => findL_mem hasc ?_⟩
        · have := List.length_eraseIdx_le g.lins j; omega
        · have := List.length_eraseIdx_le g.lins j; dsimp only; omega
        · rw [List.mem_eraseIdx_iff_getElem]
          obtain ⟨q, hq, e⟩ := List.mem_iff_getElem.1 hx
          refine ⟨q, hq, fun e2 => ?_, e⟩
          subst e2
          rw [nth_getElem _ q hq] at k3 k4 k5
          rw [e] at k3 k4 k5
          exact hk ⟨k3, k4, k5⟩
      · rw [if_neg hz]
        have hasc := asc_set (x := { nth g.lins j with lim := n }) hj rfl rfl rfl h.asc
        have hat : nth (g.lins.set j { nth g.lins j with lim := n }) j = { nth g.lins j with lim := n } := by rw [nth_set _ _ _ _ hj, if_pos rfl]
        have hfd : findL (g.lins.set j { nth g.lins j with lim := n }) a u i = ({ nth g.lins j with lim := n }, true) := by
          have := findL_at hasc (j := j) (by simpa using hj)
          rw [hat] at this
          simpa only [k3, k4, k5] using this
        refine ⟨_, rfl, by simp; omega, by rw [hfd]; simp; omega, fun _ => by rw [hfd]; exact ⟨rfl, rfl⟩, chkL_zero (g := { g with lins := g.lins.set j { nth g.lins j with lim := n } }) |>.2 ⟨h.accs, by simpa using h.len, fun x hx => ?_, hasc⟩, fun x hx hk => ?_⟩
        · rcases List.mem_or_eq_of_mem_set hx with q | q
          · exact h.good x q
          · subst q
            unfold GoodL at *
            dsimp only
            refine ⟨hg.1, hg.2.1, hg.2.2.1, hg.2.2.2.1, by omega, hg.2.2.2.2.2.1, by omega⟩
        · obtain ⟨q, hq, rfl⟩ := mem_nth hx
          have hqj : ¬ j = q := fun e2 => hk (by subst e2; exact ⟨k3, k4, k5⟩)
          have e : nth (g.lins.set j { nth g.lins j with lim := n }) q = nth g.lins q := by rw [nth_set _ _ _ _ hq, if_neg hqj]
          have := findL_at hasc (j := q) (by simpa using hq)
          rwa [e] at this
theorem limits_own {g : Led} {a : Int} {u : ByteArray} {i n : Int} (hia : i = a) : limitF g.lins a u i n = ([], 71) := by
  unfold limitF; rw [if_pos (.inr (.inr (.inl hia)))]
end Go.Proofs.Yteppnjgobaggaaa
