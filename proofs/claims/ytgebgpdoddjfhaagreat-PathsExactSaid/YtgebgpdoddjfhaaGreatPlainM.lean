/- Plain laws on trust lines: what crediting and debiting do. No program stands here. -/
import Derived.Test.YtgebgpdoddjfhaaGreatPlainL
namespace Go.Proofs.YtgebgpdoddjfhaaGreat
set_option linter.unusedSimpArgs false
set_option linter.unusedVariables false
set_option linter.unnecessarySimpa false
set_option linter.unusedSectionVars false
set_option maxRecDepth 100000
open Go Go.RowKit Go.Am Go.Proofs.Grow

theorem found_pos {l : List Acc} (h : RightA l) {a : Int} (hf : (findA l a).2 = true) : 1 ≤ a ∧ a ≤ 1000 := by
  rcases findA_cases l a with ⟨_, e, _⟩ | ⟨j, hj, _, _, e⟩
  · rw [e] at hf; cases hf
  · have := h.2.1 _ (nth_mem l j hj)
    unfold GoodA at this; omega
theorem native_iff {u : ByteArray} {i : Int} : nativeB u i = true ↔ u = ⟨#[]⟩ ∧ i = 0 := by
  simp only [nativeB, Bool.and_eq_true, List.isEmpty_iff, beq_iff_eq]
  constructor
  · rintro ⟨h, h2⟩
    refine ⟨?_, h2⟩
    have : u.data.toList = [] := by simpa [ByteArray.toList_eq] using h
    cases u; simp only [Array.toList_eq_nil_iff] at this; rw [this]
  · rintro ⟨rfl, rfl⟩; exact ⟨by decide +kernel, rfl⟩
/-- How an account stands with an asset. -/
theorem look_cases {g : Led} (h : RightG g) {a : Int} {u : ByteArray} {i : Int} (hf : (findA g.accs a).2 = true) (ha : assetB u i = true) :
    (nativeB u i = true ∧ ¬ i = a ∧ (findL g.lins a u i).2 = false ∧ ∃ j : Nat, j < g.accs.length ∧ (nth g.accs j).id = a ∧ idxA g.accs a = (j : Int) ∧ lookF g a u i = ((nth g.accs j).bal, 1000000000000 - (nth g.accs j).bal, true)) ∨
    (nativeB u i = false ∧ i = a ∧ (findL g.lins a u i).2 = false ∧ lookF g a u i = (1000000000000, 1000000000000, true)) ∨
    (nativeB u i = false ∧ ¬ i = a ∧ (findL g.lins a u i).2 = true ∧ ∃ j : Nat, j < g.lins.length ∧ (nth g.lins j).acc = a ∧ (nth g.lins j).code = u ∧ (nth g.lins j).iss = i ∧ idxL g.lins a u i = (j : Int) ∧ lookF g a u i = ((nth g.lins j).bal, (nth g.lins j).lim - (nth g.lins j).bal, true)) ∨
    (nativeB u i = false ∧ ¬ i = a ∧ (findL g.lins a u i).2 = false ∧ lookF g a u i = (0, 0, false)) := by
  have hp := found_pos h.accs hf
  have e0 : ¬ ((findA g.accs a).2 = false ∨ assetB u i = false) := by simp [hf, ha]
  have hown : (findL g.lins a u i).2 = true → nativeB u i = false ∧ ¬ i = a := by
    intro ho
    rcases findL_cases g.lins a u i with ⟨_, e⟩ | ⟨j, hj, _, e, k1, k2, k3⟩
    · rw [e] at ho; cases ho
    · have := h.good _ (nth_mem _ j hj)
      unfold GoodL at this
      rw [k1, k2, k3] at this
      exact ⟨this.2.2.1, this.2.2.2.1⟩
  cases hn : nativeB u i with
  | true =>
    have hia : ¬ i = a := by have := native_iff.1 hn; omega
    refine .inl ⟨rfl, hia, ?_, ?_⟩
    · cases ho : (findL g.lins a u i).2 with
      | false => rfl
      | true => have := (hown ho).1; rw [hn] at this; cases this
    · rcases findA_cases g.accs a with ⟨_, e, _⟩ | ⟨j, hj, e1, e2, e3⟩
      · rw [e] at hf; cases hf
      · refine ⟨j, hj, e3, e1, ?_⟩
        unfold lookF
        rw [if_neg e0, if_pos hn, e2]
  | false =>
    by_cases hia : i = a
    · refine .inr (.inl ⟨rfl, hia, ?_, ?_⟩)
      · cases ho : (findL g.lins a u i).2 with
        | false => rfl
        | true => exact absurd hia (hown ho).2
      · unfold lookF
        rw [if_neg e0, if_neg (by simp [hn]), if_pos hia]
    · have el : lookF g a u i = ((findL g.lins a u i).1.bal, (findL g.lins a u i).1.lim - (findL g.lins a u i).1.bal, (findL g.lins a u i).2) := by
        unfold lookF
        rw [if_neg e0, if_neg (by simp [hn]), if_neg hia]
      rcases findL_cases g.lins a u i with ⟨_, e⟩ | ⟨j, hj, e1, e2, e3, e4, e5⟩
      · refine .inr (.inr (.inr ⟨rfl, hia, by rw [e], by rw [el, e]; rfl⟩))
      · refine .inr (.inr (.inl ⟨rfl, hia, by rw [e2], j, hj, e3, e4, e5, e1, by rw [el, e2]⟩))
theorem look_bd {g : Led} (h : RightG g) {a : Int} {u : ByteArray} {i : Int} (hf : (findA g.accs a).2 = true) (ha : assetB u i = true) : 0 ≤ (lookF g a u i).1 ∧ (lookF g a u i).1 ≤ 1000000000000 ∧ 0 ≤ (lookF g a u i).2.1 ∧ (lookF g a u i).2.1 ≤ 1000000000000 := by
  rcases look_cases h hf ha with ⟨_, _, _, j, hj, _, _, e⟩ | ⟨_, _, _, e⟩ | ⟨_, _, _, j, hj, _, _, _, _, e⟩ | ⟨_, _, _, e⟩ <;> rw [e] <;> dsimp only
  · have := h.accs.2.1 _ (nth_mem _ j hj); unfold GoodA at this; omega
  · omega
  · have := h.good _ (nth_mem _ j hj); unfold GoodL at this; omega
  · omega
theorem addL_nat {g : Led} {a : Int} {u : ByteArray} {i : Int} {j : Nat} (m : Int) (hn : nativeB u i = true) (e : idxA g.accs a = (j : Int)) : addL g a u i m = { g with accs := g.accs.set j { nth g.accs j with bal := (nth g.accs j).bal + m } } := by
  unfold addL; rw [if_pos hn, e]; simp
theorem addL_own {g : Led} {a : Int} {u : ByteArray} {i : Int} (m : Int) (hn : nativeB u i = false) (e : i = a) : addL g a u i m = g := by
  unfold addL; rw [if_neg (by simp [hn]), if_pos e]
theorem addL_lin {g : Led} {a : Int} {u : ByteArray} {i : Int} {j : Nat} (m : Int) (hn : nativeB u i = false) (h : ¬ i = a) (e : idxL g.lins a u i = (j : Int)) : addL g a u i m = { g with lins := g.lins.set j { nth g.lins j with bal := (nth g.lins j).bal + m } } := by
  unfold addL; rw [if_neg (by simp [hn]), if_neg h, e]; simp
theorem look_set {g : Led} {a b : Int} {u v : ByteArray} {i k : Int} {j : Nat} {y : Lin} (hj : j < g.lins.length) (k1 : (nth g.lins j).acc = a) (k2 : (nth g.lins j).code = u) (k3 : (nth g.lins j).iss = i) (h0 : y.acc = a) (h1 : y.code = u) (h2 : y.iss = i) (hne : ¬ (b = a ∧ v = u ∧ k = i)) :
    lookF { g with lins := g.lins.set j y } b v k = lookF g b v k := by
  have hi := idxL_setB g.lins hj (h0.trans k1.symm) (h1.trans k2.symm) (h2.trans k3.symm) b v k
  have hf : findL (g.lins.set j y) b v k = findL g.lins b v k := by
    unfold findL
    rw [hi]
    split
    · rfl
    · rcases findL_cases g.lins b v k with ⟨e, _⟩ | ⟨q, hq, e, _, e1, e2, e3⟩
      · omega
      · rw [e]
        rw [nth_set _ _ _ _ (by simpa using hq), if_neg]
        intro he
        have he : j = q := by simpa using he
        subst he
        exact hne ⟨e1.symm.trans k1, e2.symm.trans k2, e3.symm.trans k3⟩
  unfold lookF
  dsimp only
  rw [hf]
theorem look_setA {g : Led} {a b : Int} {v : ByteArray} {k : Int} {j : Nat} {y : Acc} (hj : j < g.accs.length) (k1 : (nth g.accs j).id = a) (h0 : y.id = a) (hne : ¬ b = a ∨ nativeB v k = false) :
    lookF { g with accs := g.accs.set j y } b v k = lookF g b v k := by
  obtain ⟨hi, hf⟩ := findA_setB g.accs hj (h0.trans k1.symm) b
  unfold lookF
  dsimp only
  rw [hf]
  split
  · rfl
  · split
    · rename_i hn
      have hba : ¬ b = a := by
        rcases hne with h | h
        · exact h
        · rw [h] at hn; cases hn
      have e : (findA (g.accs.set j y) b).1 = (findA g.accs b).1 := by
        unfold findA
        rw [hi]
        split
        · rfl
        · rcases findA_cases g.accs b with ⟨e, _⟩ | ⟨q, hq, e, _, e1⟩
          · omega
          · rw [e]
            rw [nth_set _ _ _ _ (by simpa using hq), if_neg]
            intro he
            have he : j = q := by simpa using he
            subst he
            exact hba (e1.symm.trans k1)
      rw [e]
    · rfl
/-- All that adding to what an account holds does. -/
theorem addL_spec {g : Led} (h : RightG g) {a : Int} {u : ByteArray} {i : Int} (hf : (findA g.accs a).2 = true) (ha : assetB u i = true) {m : Int} (hp : (lookF g a u i).2.2 = true) (h1 : 0 ≤ (lookF g a u i).1 + m) (h2 : m ≤ (lookF g a u i).2.1) :
    RightG (addL g a u i m) ∧ (findA (addL g a u i m).accs a).2 = true ∧ addL (addL g a u i m) a u i (-m) = g ∧ (¬ i = a → lookF (addL g a u i m) a u i = ((lookF g a u i).1 + m, (lookF g a u i).2.1 - m, true)) ∧ (i = a → addL g a u i m = g) ∧
      (∀ b v k, ¬ (b = a ∧ v = u ∧ k = i) → lookF (addL g a u i m) b v k = lookF g b v k) ∧ (nativeB u i = false → (addL g a u i m).accs = g.accs ∧ sumT u i (addL g a u i m).lins = sumT u i g.lins + if i = a then 0 else m) ∧ (nativeB u i = true → (addL g a u i m).lins = g.lins ∧ tot (addL g a u i m).accs = tot g.accs + m) ∧
      (∀ v k, ¬ (v = u ∧ k = i) → sumT v k (addL g a u i m).lins = sumT v k g.lins) ∧ (∀ b, (findA (addL g a u i m).accs b).2 = (findA g.accs b).2) ∧ (∀ b v k, (findL (addL g a u i m).lins b v k).2 = (findL g.lins b v k).2) ∧ (addL g a u i m).offs = g.offs ∧ (addL g a u i m).accs.length = g.accs.length ∧ (addL g a u i m).lins.length = g.lins.length ∧
      (addL g a u i m).num = g.num ∧ (addL g a u i m).nid = g.nid ∧ (addL g a u i m).fees = g.fees ∧ (addL g a u i m).link = g.link := by
  rcases look_cases h hf ha with ⟨hn, hia, ho, j, hj, k1, k2, e⟩ | ⟨hn, hia, ho, e⟩ | ⟨hn, hia, ho, j, hj, k1, k2, k3, k4, e⟩ | ⟨_, _, _, e⟩
  · rw [e] at h1 h2 hp
    dsimp only at h1 h2
    rw [addL_nat m hn k2]
    have hg := h.accs.2.1 _ (nth_mem _ j hj)
    unfold GoodA at hg
    have hy : ({ nth g.accs j with bal := (nth g.accs j).bal + m } : Acc).id = (nth g.accs j).id := rfl
    have hR : RightA (g.accs.set j { nth g.accs j with bal := (nth g.accs j).bal + m }) := right_set h.accs hj hy ⟨hg.1, ⟨h1, by dsimp only; omega⟩, hg.2.2⟩
    have hfb := fun b => findA_setB g.accs hj hy b
    have hat : nth (g.accs.set j { nth g.accs j with bal := (nth g.accs j).bal + m }) j = { nth g.accs j with bal := (nth g.accs j).bal + m } := by rw [nth_set _ _ _ _ hj, if_pos rfl]
    refine ⟨⟨hR, h.len, fun x hx => ?_, h.asc⟩, by rw [(hfb a).2]; exact hf, ?_, fun _ => ?_, fun hh => absurd hh hia, fun b v k hne => ?_, fun hh => (by rw [hn] at hh; cases hh), fun _ => ⟨rfl, ?_⟩, fun v k _ => rfl, fun b => (hfb b).2, fun b v k => rfl, rfl, by simp, rfl, rfl, rfl, rfl, rfl⟩
    · have := h.good x hx
      unfold GoodL at *
      dsimp only
      rw [(hfb x.acc).2]; exact this
    · rw [addL_nat (-m) hn (by dsimp only; rw [(hfb a).1]; exact k2)]
      dsimp only
      rw [hat, List.set_set]
      dsimp only
      have e2 : (nth g.accs j).bal + m + -m = (nth g.accs j).bal := by omega
      rw [e2]
      show { g with accs := g.accs.set j (nth g.accs j) } = g
      rw [set_same g.accs hj]
    · have e0 : ¬ ((findA (g.accs.set j { nth g.accs j with bal := (nth g.accs j).bal + m }) a).2 = false ∨ assetB u i = false) := by rw [(hfb a).2]; simp [hf, ha]
      have e3 : findA (g.accs.set j { nth g.accs j with bal := (nth g.accs j).bal + m }) a = ({ nth g.accs j with bal := (nth g.accs j).bal + m }, true) := by
        have := find_set h.accs hj hy
        rwa [k1] at this
      unfold lookF at e ⊢
      dsimp only at e ⊢
      rw [if_neg e0, if_pos hn, e3, e]
      simp only [Prod.mk.injEq, true_and, and_true]
      omega
    · by_cases hb : b = a
      · refine look_setA hj k1 k1 (.inr ?_)
        cases hvk : nativeB v k with
        | false => rfl
        | true =>
          obtain ⟨rfl, rfl⟩ := native_iff.1 hvk
          obtain ⟨rfl, rfl⟩ := native_iff.1 hn
          exact absurd ⟨hb, rfl, rfl⟩ hne
      · exact look_setA hj k1 k1 (.inl hb)
    · dsimp only
      rw [tot_set hj]; dsimp only; omega
  · rw [addL_own m hn hia]
    refine ⟨h, hf, addL_own _ hn hia, fun hh => absurd hia hh, fun _ => rfl, fun b v k _ => rfl, fun _ => ⟨rfl, by rw [if_pos hia]; omega⟩, fun hh => (by rw [hn] at hh; cases hh), fun v k _ => rfl, fun b => rfl, fun b v k => rfl, rfl, rfl, rfl, rfl, rfl, rfl, rfl⟩
  · rw [e] at h1 h2 hp
    dsimp only at h1 h2
    rw [addL_lin m hn hia k4]
    have hg := h.good _ (nth_mem _ j hj)
    unfold GoodL at hg
    have hat : nth (g.lins.set j { nth g.lins j with bal := (nth g.lins j).bal + m }) j = { nth g.lins j with bal := (nth g.lins j).bal + m } := by rw [nth_set _ _ _ _ hj, if_pos rfl]
    have hasc := asc_set (x := { nth g.lins j with bal := (nth g.lins j).bal + m }) hj rfl rfl rfl h.asc
    have hib := fun b v k => idxL_setB (x := { nth g.lins j with bal := (nth g.lins j).bal + m }) g.lins hj rfl rfl rfl b v k
    refine ⟨⟨h.accs, by simpa using h.len, fun x hx => ?_, hasc⟩, hf, ?_, fun _ => ?_, fun hh => absurd hh hia, fun b v k hne => look_set hj k1 k2 k3 k1 k2 k3 hne, fun _ => ⟨rfl, ?_⟩, fun hh => (by rw [hn] at hh; cases hh), fun v k hne => ?_, fun b => rfl, fun b v k => ?_, rfl, rfl, by simp, rfl, rfl, rfl, rfl⟩
    · rcases List.mem_or_eq_of_mem_set hx with q | q
      · exact h.good x q
      · subst q
        unfold GoodL
        dsimp only
        refine ⟨hg.1, hg.2.1, hg.2.2.1, hg.2.2.2.1, hg.2.2.2.2.1, h1, by omega⟩
    · rw [addL_lin (-m) hn hia (by dsimp only; rw [hib]; exact k4)]
      dsimp only
      rw [hat, List.set_set]
      dsimp only
      have e2 : (nth g.lins j).bal + m + -m = (nth g.lins j).bal := by omega
      rw [e2]
      show { g with lins := g.lins.set j (nth g.lins j) } = g
      rw [set_same g.lins hj]
    · have e0 : ¬ ((findA g.accs a).2 = false ∨ assetB u i = false) := by simp [hf, ha]
      have e3 : findL (g.lins.set j { nth g.lins j with bal := (nth g.lins j).bal + m }) a u i = ({ nth g.lins j with bal := (nth g.lins j).bal + m }, true) := by
        have := findL_at hasc (j := j) (by simpa using hj)
        rw [hat] at this
        simpa only [k1, k2, k3] using this
      rw [e]
      unfold lookF
      dsimp only
      rw [if_neg e0, if_neg (by simp [hn]), if_neg hia, e3]
      simp only [Prod.mk.injEq, true_and, and_true]
      omega
    · dsimp only
      rw [sumT_set u i (x := { nth g.lins j with bal := (nth g.lins j).bal + m }) hj rfl rfl, if_neg hia, if_pos (eqT_iff.2 ⟨k2, k3⟩)]; dsimp only; omega
    · dsimp only
      rw [sumT_set v k (x := { nth g.lins j with bal := (nth g.lins j).bal + m }) hj rfl rfl, if_neg (fun hh => hne (by obtain ⟨q1, q2⟩ := eqT_iff.1 hh; exact ⟨q1.symm.trans k2, q2.symm.trans k3⟩))]; omega
    · dsimp only
      unfold findL
      rw [hib]
      split <;> rfl
  · rw [e] at hp; cases hp
theorem first_zero {g : Led} (h : RightG g) {a : Int} {u : ByteArray} {i n : Int} (hf : (findA g.accs a).2 = true) (ha : assetB u i = true) (hn : okA n = true) : firstF g a u i n = 0 := by
  unfold firstF
  rw [if_neg (by simp [rightL_iff.2 h]), if_neg (by simp [ha]), if_neg (by simp [hf]), if_neg (by simp [hn])]
theorem credit_eq {g : Led} (h : RightG g) {a : Int} {u : ByteArray} {i n : Int} (hf : (findA g.accs a).2 = true) (ha : assetB u i = true) (hn : okA n = true) :
    creditF g a u i n = if (lookF g a u i).2.2 = true ∧ n ≤ (lookF g a u i).2.1 then (addL g a u i n, 0) else (led0, if nativeB u i = true then 65 else 70) := by
  unfold creditF
  rw [first_zero h hf ha hn, if_neg (by simp)]
  rcases look_cases h hf ha with ⟨hn, hia, ho, j, hj, k1, k2, e⟩ | ⟨hn, hia, ho, e⟩ | ⟨hn, hia, ho, j, hj, k1, k2, k3, k4, e⟩ | ⟨hn, _, _, e⟩ <;> rw [e] <;> simp only [hn, if_true, Bool.false_eq_true, if_false, true_and, false_or, false_and, true_or, and_true]
  · by_cases c : 1000000000000 - (nth g.accs j).bal < n
    · rw [if_pos c, if_neg (by omega)]
    · rw [if_neg c, if_pos (by omega)]
  · by_cases c : 1000000000000 < n
    · rw [if_pos (by simp; omega), if_neg (by omega)]
    · rw [if_neg (by simp; omega), if_pos (by omega)]
  · by_cases c : (nth g.lins j).lim - (nth g.lins j).bal < n
    · rw [if_pos (by simp; omega), if_neg (by omega)]
    · rw [if_neg (by simp; omega), if_pos (by omega)]
theorem debit_eq {g : Led} (h : RightG g) {a : Int} {u : ByteArray} {i n : Int} (hf : (findA g.accs a).2 = true) (ha : assetB u i = true) (hn : okA n = true) :
    debitF g a u i n = if (lookF g a u i).2.2 = true ∧ n ≤ (lookF g a u i).1 then (addL g a u i (-n), 0) else (led0, if (lookF g a u i).2.2 = false then 70 else 66) := by
  unfold debitF
  rw [first_zero h hf ha hn, if_neg (by simp)]
  cases e : (lookF g a u i).2.2 with
  | false => simp
  | true =>
    simp only [Bool.true_eq_false, if_false, true_and]
    by_cases c : (lookF g a u i).1 < n
    · rw [if_pos c, if_neg (by omega)]
    · rw [if_neg c, if_pos (by omega)]
theorem place_iff {g : Led} (h : RightG g) {a : Int} {u : ByteArray} {i : Int} (hf : (findA g.accs a).2 = true) (ha : assetB u i = true) : (lookF g a u i).2.2 = true ↔ (findL g.lins a u i).2 = true ∨ i = a ∨ nativeB u i = true := by
  rcases look_cases h hf ha with ⟨hn, hia, ho, j, hj, k1, k2, e⟩ | ⟨hn, hia, ho, e⟩ | ⟨hn, hia, ho, j, hj, k1, k2, k3, k4, e⟩ | ⟨hn, hia, ho, e⟩ <;> rw [e] <;> simp [hn, hia, ho]
theorem held_look {g : Led} (h : RightG g) (a : Int) (u : ByteArray) (i : Int) : heldF g a u i = (lookF g a u i).1 ∧ roomF g a u i = (lookF g a u i).2.1 := by
  have hr := rightL_iff.2 h
  unfold heldF roomF
  rw [if_pos hr, if_pos hr]
  exact ⟨rfl, rfl⟩
theorem eqLin_refl (x : Lin) : eqLin x x = true := by simp [eqLin, eqS]
theorem eqLins_refl (l : List Lin) : eqLins l l = true := by
  induction l with
  | nil => rfl
  | cons x r ih => simp [eqLins, eqLin_refl, ih]
theorem eqOff_refl (x : Off) : eqOff x x = true := by simp [eqOff, eqS]
theorem eqOffs_refl (l : List Off) : eqOffs l l = true := by
  induction l with
  | nil => rfl
  | cons x r ih => simp [eqOffs, eqOff_refl, ih]
theorem eqLed_refl (g : Led) : eqLed g g = true := by simp [eqLed, eqAccs_refl, eqLins_refl, eqOffs_refl]

/-- Crediting, beside the statement: as far as there is room; taking back leads back. -/
theorem keep_credit {g : Led} (h : RightG g) {a : Int} {u : ByteArray} {i n : Int} (hf : (findA g.accs a).2 = true) (ha : assetB u i = true) (n0 : 0 ≤ n) (n1 : n ≤ 1000000000000) :
    ((creditF g a u i n).2 = 0 ↔ n ≤ roomF g a u i ∧ ((findL g.lins a u i).2 = true ∨ i = a ∨ nativeB u i = true)) ∧
    ((creditF g a u i n).2 = 0 → RightG (creditF g a u i n).1 ∧ debitF (creditF g a u i n).1 a u i n = (g, 0) ∧ (creditF g a u i n).1 = addL g a u i n ∧ ((findL g.lins a u i).2 = true → issued (creditF g a u i n).1.lins u i = issued g.lins u i + n ∧ heldF (creditF g a u i n).1 a u i = heldF g a u i + n)) := by
  have hok : okA n = true := okA_iff.2 ⟨n0, n1⟩
  rw [credit_eq h hf ha hok, (held_look h a u i).2, ← place_iff h hf ha]
  have hbd := look_bd h hf ha
  by_cases c : (lookF g a u i).2.2 = true ∧ n ≤ (lookF g a u i).2.1
  · rw [if_pos c]
    obtain ⟨s1, s2, s3, s4, s5, s6, s7, s8, s9⟩ := addL_spec h hf ha (m := n) c.1 (by omega) c.2
    refine ⟨⟨fun _ => ⟨c.2, c.1⟩, fun _ => rfl⟩, fun _ => ⟨s1, ?_, rfl, fun ho => ?_⟩⟩
    · dsimp only
      rw [debit_eq s1 s2 ha hok]
      by_cases hia : i = a
      · have e := s5 hia
        rw [e] at s3 ⊢
        have hb : n ≤ (lookF g a u i).1 := by
          rcases look_cases h hf ha with ⟨hn, hia, ho, j, hj, k1, k2, e⟩ | ⟨hn, hia, ho, e⟩ | ⟨hn, hia, ho, j, hj, k1, k2, k3, k4, e⟩ | ⟨hn, hia, ho, e⟩
          · exact absurd ‹i = a› hia
          · rw [e]; exact n1
          · exact absurd ‹i = a› hia
          · exact absurd ‹i = a› hia
        rw [if_pos ⟨c.1, hb⟩, s3]
      · rw [s4 hia]
        dsimp only
        rw [if_pos ⟨rfl, by omega⟩, s3]
    · have hna : nativeB u i = false ∧ ¬ i = a := by
        rcases look_cases h hf ha with ⟨hn, hia, ho', j, hj, k1, k2, e⟩ | ⟨hn, hia, ho', e⟩ | ⟨hn, hia, ho', j, hj, k1, k2, k3, k4, e⟩ | ⟨hn, hia, ho', e⟩
        · rw [ho] at ho'; cases ho'
        · rw [ho] at ho'; cases ho'
        · exact ⟨hn, hia⟩
        · rw [ho] at ho'; cases ho'
      dsimp only
      rw [issued_right s1, issued_right h, (s7 hna.1).2, if_neg hna.2, (held_look s1 a u i).1, (held_look h a u i).1, s4 hna.2]
      exact ⟨rfl, rfl⟩
  · rw [if_neg c]
    have hne : ¬ (if nativeB u i = true then (65 : Int) else 70) = 0 := by split <;> decide
    exact ⟨⟨fun hh => absurd hh hne, fun hh => absurd ⟨hh.2, hh.1⟩ c⟩, fun hh => absurd hh hne⟩
/-- Debiting, beside the statement. -/
theorem keep_debit {g : Led} (h : RightG g) {a : Int} {u : ByteArray} {i n : Int} (hf : (findA g.accs a).2 = true) (ha : assetB u i = true) (n0 : 0 ≤ n) (n1 : n ≤ 1000000000000) :
    ((debitF g a u i n).2 = 0 ↔ n ≤ heldF g a u i ∧ ((findL g.lins a u i).2 = true ∨ i = a ∨ nativeB u i = true)) ∧
    ((debitF g a u i n).2 = 0 → RightG (debitF g a u i n).1 ∧ (debitF g a u i n).1 = addL g a u i (-n) ∧ ((findL g.lins a u i).2 = true → issued (debitF g a u i n).1.lins u i = issued g.lins u i - n)) := by
  have hok : okA n = true := okA_iff.2 ⟨n0, n1⟩
  rw [debit_eq h hf ha hok, (held_look h a u i).1, ← place_iff h hf ha]
  have hbd := look_bd h hf ha
  by_cases c : (lookF g a u i).2.2 = true ∧ n ≤ (lookF g a u i).1
  · rw [if_pos c]
    obtain ⟨s1, s2, s3, s4, s5, s6, s7, s8, s9⟩ := addL_spec h hf ha (m := -n) c.1 (by omega) (by omega)
    refine ⟨⟨fun _ => ⟨c.2, c.1⟩, fun _ => rfl⟩, fun _ => ⟨s1, rfl, fun ho => ?_⟩⟩
    have hna : nativeB u i = false ∧ ¬ i = a := by
      rcases look_cases h hf ha with ⟨hn, hia, ho', j, hj, k1, k2, e⟩ | ⟨hn, hia, ho', e⟩ | ⟨hn, hia, ho', j, hj, k1, k2, k3, k4, e⟩ | ⟨hn, hia, ho', e⟩
      · rw [ho] at ho'; cases ho'
      · rw [ho] at ho'; cases ho'
      · exact ⟨hn, hia⟩
      · rw [ho] at ho'; cases ho'
    dsimp only
    rw [issued_right s1, issued_right h, (s7 hna.1).2, if_neg hna.2]; omega
  · rw [if_neg c]
    have hne : ¬ (if (lookF g a u i).2.2 = false then (70 : Int) else 66) = 0 := by split <;> decide
    exact ⟨⟨fun hh => absurd hh hne, fun hh => absurd ⟨hh.2, hh.1⟩ c⟩, fun hh => absurd hh hne⟩
/-- Moving an asset that is not the native one. -/
theorem move_debit {g : Led} (h : RightG g) {a : Int} {u : ByteArray} {i n : Int} (hf : (findA g.accs a).2 = true) (ha : assetB u i = true) (hn : nativeB u i = false) (n0 : 0 ≤ n) (n1 : n ≤ 1000000000000) :
    (¬ (debitF g a u i n).2 = 0 ∧ (debitF g a u i n).1 = led0) ∨ ((debitF g a u i n).2 = 0 ∧ RightG (debitF g a u i n).1 ∧ (debitF g a u i n).1.accs = g.accs ∧ (debitF g a u i n).1.lins.length = g.lins.length ∧ issued (debitF g a u i n).1.lins u i = issued g.lins u i - if i = a then 0 else n) := by
  have hok : okA n = true := okA_iff.2 ⟨n0, n1⟩
  rw [debit_eq h hf ha hok]
  have hbd := look_bd h hf ha
  by_cases c : (lookF g a u i).2.2 = true ∧ n ≤ (lookF g a u i).1
  · rw [if_pos c]
    obtain ⟨s1, s2, s3, s4, s5, s6, s7, s8, s9⟩ := addL_spec h hf ha (m := -n) c.1 (by omega) (by omega)
    refine .inr ⟨rfl, s1, (s7 hn).1, s9.2.2.2.2.2.1, ?_⟩
    dsimp only
    rw [issued_right s1, issued_right h, (s7 hn).2]; split <;> omega
  · rw [if_neg c]
    exact .inl ⟨by dsimp only; split <;> decide, rfl⟩
theorem move_credit {g : Led} (h : RightG g) {a : Int} {u : ByteArray} {i n : Int} (hf : (findA g.accs a).2 = true) (ha : assetB u i = true) (hn : nativeB u i = false) (n0 : 0 ≤ n) (n1 : n ≤ 1000000000000) :
    ((creditF g a u i n).2 = 70) ∨ ((creditF g a u i n).2 = 0 ∧ RightG (creditF g a u i n).1 ∧ (creditF g a u i n).1.accs = g.accs ∧ (creditF g a u i n).1.lins.length = g.lins.length ∧ issued (creditF g a u i n).1.lins u i = issued g.lins u i + if i = a then 0 else n) := by
  have hok : okA n = true := okA_iff.2 ⟨n0, n1⟩
  rw [credit_eq h hf ha hok]
  have hbd := look_bd h hf ha
  by_cases c : (lookF g a u i).2.2 = true ∧ n ≤ (lookF g a u i).2.1
  · rw [if_pos c]
    obtain ⟨s1, s2, s3, s4, s5, s6, s7, s8, s9⟩ := addL_spec h hf ha (m := n) c.1 (by omega) (by omega)
    refine .inr ⟨rfl, s1, (s7 hn).1, s9.2.2.2.2.2.1, ?_⟩
    dsimp only
    rw [issued_right s1, issued_right h, (s7 hn).2]
  · rw [if_neg c]
    exact .inl (by dsimp only; rw [if_neg (by simp [hn])])
end Go.Proofs.YtgebgpdoddjfhaaGreat
