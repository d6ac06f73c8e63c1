/- Contracts: the references of sets and trusts. -/
import Derived.Test.YtkjpnmodlmlhdaaGreatDoorQAH
import Derived.Lib.Join
import Derived.Lib.ItoaNum
namespace Go.Proofs.YtkjpnmodlmlhdaaGreatDoor
set_option linter.unusedSimpArgs false
set_option linter.unusedVariables false
set_option linter.unnecessarySimpa false
set_option linter.unusedSectionVars false
set_option maxRecDepth 100000
open Go Go.RowKit Go.Am Go.Proofs.Grow
section
variable {o : Oper} {t t' : TypeId} {x y : Operand} {T : Nat → Option AV} {M : Nat → Option AO} {a b : Nat}
theorem shrN_step (ho : o.op = .binOp .shr t x y t') (hx : evA T x = some (vI (a : Int))) (hy : evA T y = some (vI (b : Int))) (h0 : b ≤ 61 := by exact num) : StepOK Tryz.prog o T M ⟨vI ((a / 2 ^ b : Nat) : Int), [], []⟩ :=
  step_bits ho hx hy fun w => by
    have h1 : ¬ (b : Int) < 0 := by omega
    have e : ((a : Int)).fdiv (2 ^ (min b 64)) = ((a / 2 ^ b : Nat) : Int) := by
      rw [show min b 64 = b by omega, Int.fdiv_eq_ediv_of_nonneg _ (by exact Int.le_of_lt (Int.pow_pos (by decide))), Int.natCast_ediv, Int.natCast_pow]; rfl
    simp [binOp, Op.shift, IntKind.bits, h1, e]
theorem band1_step (ho : o.op = .binOp .and t x y t') (hx : evA T x = some (vI (a : Int))) (hy : evA T y = some (vI 1)) (ha : a < 4611686018427387904 := by exact num) : StepOK Tryz.prog o T M ⟨vI ((a &&& 1 : Nat) : Int), [], []⟩ :=
  bandN_step (b := 1) ho hx hy ha (by decide)
end
theorem validR_m (s : Int) : FnM Tryz.prog 33 [] [vI s] (vB (validS s)) [] := by
  refine FnM.of htb Tryz.func33 rfl rfl rfl rfl rfl fun cx hN h0 => ?_
  (repeat' (first | (refine nx ?_) | ((with_reducible apply WD_id); first | (refine WD_clr htb ?_)) | ((refine WD_tf (by exact rfl) (by exact rfl) ?_ ?_) <;> (intro hb; (fail_if_success (with_reducible injection hb)); rw [hb]; (try simp only [List.length_map] at hb)))))
  all_goals refine gE (.inr rfl) rfl (congrArg vB ?_) trivial
  all_goals first | (simp_all [validS]; done) | (simp_all [validS]; intros; omega) | (simp_all [validS]; omega)
theorem hasR_m (s : Nat) (k : Int) (hs : s < 1024) : FnM Tryz.prog 15 [] [vI (s : Int), vI k] (vB (hasB s k)) [] := by
  have hv := valid_nat hs
  refine FnM.of htb Tryz.func15 rfl rfl rfl rfl rfl fun cx hN h0 => ?_
  by_cases h1 : 0 ≤ k
  · have t1 : decide (k ≥ 0) = true := by simpa using h1
    by_cases h2 : k < 10
    · have t2 : decide (k < 10) = true := by simpa using h2
      obtain ⟨n, rfl⟩ : ∃ n : Nat, k = (n : Int) := ⟨k.toNat, by omega⟩
      have hn : n < 10 := by omega
      have hn61 : n ≤ 61 := by omega
      have hd : s / 2 ^ n < 4611686018427387904 := Nat.lt_of_le_of_lt (Nat.div_le_self _ _) (by omega)
      rw [has_nat hs hn]
      (repeat' (first | ((with_reducible apply WD_id); first | (refine WD_eq (shrN_step rfl rfl rfl) ?_) | (refine WD_eq (band1_step rfl rfl rfl) ?_)) | (refine nx ?_) | (refine WD_call (by exact rfl) ?_; first | (refine WD_c0 (validR_m _) ?_)) | ((with_reducible apply WD_id); first | (refine WD_clr htb ?_))))
      exact gE (.inr rfl) rfl (congrArg vB (by
        rw [Nat.testBit, Nat.shiftRight_eq_div_pow, Nat.and_comm 1]
        have := Nat.and_one_is_mod (s / 2 ^ n)
        rcases Nat.mod_two_eq_zero_or_one (s / 2 ^ n) with h | h <;> simp [this, h])) trivial
    · have t2 : decide (k < 10) = false := by simpa using h2
      (repeat' (first | (refine nx ?_) | (refine WD_call (by exact rfl) ?_; first | (refine WD_c0 (validR_m _) ?_)) | ((with_reducible apply WD_id); first | (refine WD_clr htb ?_))))
      exact gE (.inr rfl) rfl (congrArg vB (by simp [hasB, nodeB, h2])) trivial
  · have t1 : decide (k ≥ 0) = false := by simpa using h1
    (repeat' (first | (refine nx ?_) | (refine WD_call (by exact rfl) ?_; first | (refine WD_c0 (validR_m _) ?_)) | ((with_reducible apply WD_id); first | (refine WD_clr htb ?_))))
    exact gE (.inr rfl) rfl (congrArg vB (by simp [hasB, nodeB, h1])) trivial
theorem ofR_m (l : List Int) (hl : l.length ≤ 1000) : FnM Tryz.prog 218 [] [lI l] (.tup [vI (ofI l 0).1, vI (ofI l 0).2]) [] := by
  refine FnM.of htb Tryz.func218 rfl rfl rfl rfl rfl fun cx hN h0 => ?_
  (repeat' (first | (refine nx ?_) | ((with_reducible apply WD_id); first | (refine WD_clr htb ?_))))
  (refine WA_anyV (α := Nat × Nat) (fun x => l.length - x.1) ((0, 0)) [9, 4] [] (fun x => [(9, vI x.1), (4, vI ((x.2 : Nat) : Int))]) (fun x => []) (fun x => x.1 ≤ l.length ∧ x.2 < 1024 ∧ ofI l 0 = ofI (l.drop x.1) ((x.2 : Nat) : Int)) ?h0 ?_)
  case h0 => exact ⟨Nat.zero_le _, by decide, rfl⟩
  rintro ⟨k, a⟩ ⟨hk, ha, hI⟩
  dsimp only at hk ha hI ⊢
  rcases Nat.lt_or_ge k l.length with hk' | hk'
  · have t1 : decide ((k : Int) < (l.length : Int)) = true := by simp; omega
    rw [ofI_step hk'] at hI
    cases hn : nodeB (nth l k) with
    | false =>
      rw [if_pos hn] at hI
      rw [hI]
      have hn2 : ¬ (0 ≤ nth l k ∧ nth l k < 10) := by intro h; simp [nodeB, h] at hn
      by_cases h0 : nth l k < 0
      · have t2 : decide (nth l k < 0) = true := by simp; omega
        (repeat' (first | (refine nx ?_) | ((with_reducible apply WD_id); first | (refine WD_clr htb ?_))))
        exact gE (.inr rfl) rfl rfl trivial
      · have t2 : decide (nth l k < 0) = false := by simp; omega
        have t3 : decide (nth l k ≥ 10) = true := by simp; omega
        (repeat' (first | (refine nx ?_) | ((with_reducible apply WD_id); first | (refine WD_clr htb ?_))))
        exact gE (.inr rfl) rfl rfl trivial
    | true =>
      have hn2 : 0 ≤ nth l k ∧ nth l k < 10 := by simpa [nodeB] using hn
      have t2 : decide (nth l k < 0) = false := by simp; omega
      have t3 : decide (nth l k ≥ 10) = false := by simp; omega
      rw [if_neg (by simp [hn])] at hI
      cases hh : hasB (a : Int) (nth l k) with
      | true =>
        rw [if_pos hh] at hI
        rw [hI]
        (repeat' (first | (refine nx ?_) | (refine WD_call (by exact rfl) ?_; first | (refine WD_c0 (hasR_m _ _ ?_) ?_; (exact hyp))) | ((with_reducible apply WD_id); first | (refine WD_clr htb ?_))))
        exact gE (.inr rfl) rfl rfl trivial
      | false =>
        rw [if_neg (by simp [hh])] at hI
        have hp := pow_lt (k := (nth l k).toNat) (by omega)
        have e : borI (a : Int) (shlI (nth l k)) = ((a ||| 2 ^ (nth l k).toNat : Nat) : Int) := by
          have e1 := shl_nat (k := (nth l k).toNat) (by omega)
          rw [show (((nth l k).toNat : Nat) : Int) = nth l k by omega] at e1
          rw [e1, bor_nat (by omega) (by omega)]
        (repeat' (first | ((with_reducible apply WD_id); first | (refine WD_eq (shl_step rfl rfl rfl) ?_) | (refine WD_eq (bor_step rfl rfl rfl) ?_)) | (refine nx ?_) | (refine WD_call (by exact rfl) ?_; first | (refine WD_c0 (hasR_m _ _ ?_) ?_; (exact hyp))) | ((with_reducible apply WD_id); first | (refine WD_clr htb ?_))))
        refine ⟨(k + 1, a ||| 2 ^ (nth l k).toNat), (by dsimp only; omega), ⟨hk', or_lt10 ha hp, by rw [hI, e]⟩, ?_⟩
        rw [show (((a ||| 2 ^ (nth l k).toNat : Nat)) : Int) = borI (a : Int) (shlI (nth l k)) from e.symm]
        (exact LeV [])
  · have t1 : decide ((k : Int) < (l.length : Int)) = false := by simp; omega
    rw [List.drop_eq_nil_of_le hk'] at hI
    rw [hI]
    (repeat' (first | (refine nx ?_) | ((with_reducible apply WD_id); first | (refine WD_clr htb ?_))))
    exact gE (.inr rfl) rfl rfl trivial
theorem dep_r : ∀ (d : Nat) (t : Tr) (hd : hT t ≤ d) (hs : sizT t ≤ 1000), FnM Tryz.prog 86 [] [aTr t] (vI (depT t)) [] := by
  intro d
  induction d with
  | zero => intro t hd; cases t; simp [hT] at hd
  | succ d ih =>
    intro t hd hs
    have hl := siz_len t
    have depQ_m : ∀ (x : Tr) (hx : hT x ≤ d ∧ sizT x ≤ 1000), FnM Tryz.prog 86 [] [aTr x] (vI (depT x)) [] := fun x hx => ih x hx.1 hx.2
    have hh : hT t = hL t.is + 1 := by cases t; simp only [hT, Tr.is]
    have hh2 := h_siz t
    have ed : depT t = depL t.is 0 + 1 := by cases t; simp only [depT, Tr.is]
    show FnM _ _ _ [.agg [vI t.k, lI t.ns, .d (.rows 3 (t.is.map rTr))]] _ _
    rw [rTr_p, ed]
    refine FnM.of htb Tryz.func86 rfl rfl rfl rfl rfl fun cx hN h0 => ?_
    (repeat' (first | (refine nx ?_) | ((with_reducible apply WD_id); first | (refine WD_clr htb ?_))))
    (refine WA_forV (t.is.length) [9, 3] [] (fun k => [(9, vI k), (3, vI (depL (t.is.take k) 0))]) (fun k => []) (fun k => True) ?h0 ?_)
    case h0 => trivial
    intro k hk _
    rcases Nat.lt_or_ge k t.is.length with hk' | hk'
    · have t1 : decide ((k : Int) < (t.is.length : Int)) = true := by simp; omega
      have hw := depL_take (a := 0) hk'
      have hm := nth_mem t.is k hk'
      have hx : hT (nth t.is k) ≤ d ∧ sizT (nth t.is k) ≤ 1000 := by have := hT_mem hm; have := siz_mem hm; omega
      (repeat' (first | (refine nx ?_) | (refine WD_call (by exact rfl) ?_; first | (refine WD_c0 (depQ_m _ ?_) ?_; (exact hyp))) | ((with_reducible apply WD_id); first | (refine WD_clr htb ?_))))
      refine ⟨hk', trivial, ?_⟩
      rw [hw]
      (exact LeV [])
    · have t1 : decide ((k : Int) < (t.is.length : Int)) = false := by simp; omega
      have e1 : t.is.take k = t.is := take_all hk'
      rw [e1]
      have hb : 0 ≤ depL t.is 0 ∧ depL t.is 0 ≤ 1001 := by
        have := depL_h t.is 0
        rw [show ((0 : Nat) : Int) = 0 from rfl] at this
        omega
      (repeat' (first | (refine nx ?_) | ((with_reducible apply WD_id); first | (refine WD_clr htb ?_))))
      exact gE (.inr rfl) rfl rfl trivial
theorem siz_r : ∀ (d : Nat) (t : Tr) (hd : hT t ≤ d) (hs : sizT t ≤ 1000), FnM Tryz.prog 85 [] [aTr t] (vI (sizT t)) [] := by
  intro d
  induction d with
  | zero => intro t hd; cases t; simp [hT] at hd
  | succ d ih =>
    intro t hd hs
    have hl := siz_len t
    have sizQ_m : ∀ (x : Tr) (hx : hT x ≤ d ∧ sizT x ≤ 1000), FnM Tryz.prog 85 [] [aTr x] (vI (sizT x)) [] := fun x hx => ih x hx.1 hx.2
    have ed : sizT t = sizL t.is ((t.ns.length : Int) + (t.is.length : Int)) := by cases t; simp only [sizT, Tr.is, Tr.ns]
    show FnM _ _ _ [.agg [vI t.k, lI t.ns, .d (.rows 3 (t.is.map rTr))]] _ _
    rw [rTr_p]
    refine FnM.of htb Tryz.func85 rfl rfl rfl rfl rfl fun cx hN h0 => ?_
    (repeat' (first | (refine nx ?_) | ((with_reducible apply WD_id); first | (refine WD_clr htb ?_))))
    (refine WA_forV (t.is.length) [16, 3] [] (fun k => [(16, vI k), (3, vI (sizL (t.is.take k) ((t.ns.length : Int) + (t.is.length : Int))))]) (fun k => []) (fun k => True) ?h0 ?_)
    case h0 => trivial
    intro k hk _
    rcases Nat.lt_or_ge k t.is.length with hk' | hk'
    · have t1 : decide ((k : Int) < (t.is.length : Int)) = true := by simp; omega
      have hw := sizL_take1 (a := (t.ns.length : Int) + (t.is.length : Int)) hk'
      have hm := nth_mem t.is k hk'
      have hx : hT (nth t.is k) ≤ d ∧ sizT (nth t.is k) ≤ 1000 := by have := hT_mem hm; have := siz_mem hm; omega
      have hb1 := sizL_take (l := t.is) (k := k + 1) (a := (t.ns.length : Int) + (t.is.length : Int))
      have hb2 := sizL_nn (t.is.take k) ((t.ns.length : Int) + (t.is.length : Int))
      have hb3 := siz_nn (nth t.is k)
      rw [hw, ← ed] at hb1
      (repeat' (first | (refine nx ?_) | (refine WD_call (by exact rfl) ?_; first | (refine WD_c0 (sizQ_m _ ?_) ?_; (exact hyp))) | ((with_reducible apply WD_id); first | (refine WD_clr htb ?_))))
      refine ⟨hk', trivial, ?_⟩
      rw [hw]
      (exact LeV [])
    · have t1 : decide ((k : Int) < (t.is.length : Int)) = false := by simp; omega
      have e1 : t.is.take k = t.is := take_all hk'
      rw [e1, ← ed]
      (repeat' (first | (refine nx ?_) | ((with_reducible apply WD_id); first | (refine WD_clr htb ?_))))
      exact gE (.inr rfl) rfl rfl trivial
theorem lev_r : ∀ (d : Nat) (t : Tr) (hd : hT t ≤ d) (hs : sizT t ≤ 1000), FnM Tryz.prog 170 [] [aTr t] (vI (levT t)) [] := by
  intro d
  induction d with
  | zero => intro t hd; cases t; simp [hT] at hd
  | succ d ih =>
    intro t hd hs
    have hl := siz_len t
    have hn := hs
    have levQ_m : ∀ (x : Tr) (hx : hT x ≤ d ∧ sizT x ≤ 1000), FnM Tryz.prog 170 [] [aTr x] (vI (levT x)) [] := fun x hx => ih x hx.1 hx.2
    show FnM _ _ _ [.agg [vI t.k, lI t.ns, .d (.rows 3 (t.is.map rTr))]] _ _
    rw [rTr_p, levT_eq]
    refine FnM.of htb Tryz.func170 rfl rfl rfl rfl rfl fun cx hN h0 => ?_
    by_cases hc1 : t.k < 1
    · have t1 : decide (t.k < 1) = true := by simp; omega
      rw [if_pos (.inl hc1)]
      (repeat' (first | (refine nx ?_) | ((with_reducible apply WD_id); first | (refine WD_clr htb ?_))))
      exact gE (.inr rfl) rfl rfl trivial
    have t1 : decide (t.k < 1) = false := by simp; omega
    by_cases hc2 : (t.ns.length : Int) + (t.is.length : Int) < t.k
    · have t2 : decide (t.k > (t.ns.length : Int) + (t.is.length : Int)) = true := by simp; omega
      rw [if_pos (.inr hc2)]
      (repeat' (first | (refine nx ?_) | ((with_reducible apply WD_id); first | (refine WD_clr htb ?_))))
      exact gE (.inr rfl) rfl rfl trivial
    have t2 : decide (t.k > (t.ns.length : Int) + (t.is.length : Int)) = false := by simp; omega
    rw [if_neg (by omega)]
    (repeat' (first | (refine nx ?_) | ((with_reducible apply WD_id); first | (refine WD_clr htb ?_))))
    (refine WA_forV (t.ns.length) [28] [] (fun k => [(28, vI k)]) (fun k => []) (fun k => idxF (fun k => !nodeB k) 0 t.ns = idxF (fun k => !nodeB k) k (t.ns.drop k)) ?h0 ?_)
    case h0 => rfl
    intro q hq hJ
    rcases Nat.lt_or_ge q t.ns.length with hq' | hq'
    · have t3 : decide ((q : Int) < (t.ns.length : Int)) = true := by simp; omega
      cases hnd : nodeB (nth t.ns q) with
      | false =>
        have hn2 : ¬ (0 ≤ nth t.ns q ∧ nth t.ns q < 10) := by intro h; simp [nodeB, h] at hnd
        have e5 := idx_hit hJ hq' (by simp [hnd])
        have e6 : decide (idxF (fun k => !nodeB k) 0 t.ns ≥ 0) = true := by rw [e5]; simp
        rw [e6, if_pos rfl]
        by_cases h0 : nth t.ns q < 0
        · have t4 : decide (nth t.ns q < 0) = true := by simp; omega
          (repeat' (first | (refine nx ?_) | ((with_reducible apply WD_id); first | (refine WD_clr htb ?_))))
          exact gE (.inr rfl) rfl rfl trivial
        · have t4 : decide (nth t.ns q < 0) = false := by simp; omega
          have t5 : decide (nth t.ns q ≥ 10) = true := by simp; omega
          (repeat' (first | (refine nx ?_) | ((with_reducible apply WD_id); first | (refine WD_clr htb ?_))))
          exact gE (.inr rfl) rfl rfl trivial
      | true =>
        have hn2 : 0 ≤ nth t.ns q ∧ nth t.ns q < 10 := by simpa [nodeB] using hnd
        have t4 : decide (nth t.ns q < 0) = false := by simp; omega
        have t5 : decide (nth t.ns q ≥ 10) = false := by simp; omega
        (repeat' (first | (refine nx ?_) | ((with_reducible apply WD_id); first | (refine WD_clr htb ?_))))
        refine ⟨hq', idx_miss hJ hq' (by simp [hnd]), ?_⟩
        (exact LeV [])
    have t3 : decide ((q : Int) < (t.ns.length : Int)) = false := by simp; omega
    have e5 := idx_end hJ hq'
    rw [if_neg (by rw [e5]; simp)]
    by_cases hc4 : (ofI t.ns 0).2 ≠ 0
    · rw [if_pos hc4]
      have t4 : ((ofI t.ns 0).2 != 0) = true := by simpa using hc4
      (repeat' (first | (refine nx ?_) | (refine WD_call (by exact rfl) ?_; first | (refine WD_c0 (ofR_m _ ?_) ?_; (exact hyp))) | ((with_reducible apply WD_id); first | (refine WD_clr htb ?_))))
      exact gE (.inr rfl) rfl rfl trivial
    · rw [if_neg hc4]
      have t4 : ((ofI t.ns 0).2 != 0) = false := by simpa using hc4
      (repeat' (first | (refine nx ?_) | (refine WD_call (by exact rfl) ?_; first | (refine WD_c0 (ofR_m _ ?_) ?_; (exact hyp))) | ((with_reducible apply WD_id); first | (refine WD_clr htb ?_))))
      (refine WA_forV (t.is.length) [51] [] (fun k => [(51, vI k)]) (fun k => []) (fun k => levL t.is = levL (t.is.drop k)) ?h0 ?_)
      case h0 => rfl
      intro k hk hI
      rcases Nat.lt_or_ge k t.is.length with hk' | hk'
      · have t5 : decide ((k : Int) < (t.is.length : Int)) = true := by simp; omega
        have hm := nth_mem t.is k hk'
        have hx : hT (nth t.is k) ≤ d ∧ sizT (nth t.is k) ≤ 1000 := by have := hT_mem hm; have := siz_mem hm; omega
        rw [levL_step hk'] at hI
        by_cases hy : levT (nth t.is k) ≠ 0
        · rw [if_pos hy] at hI
          have t6 : (levT (nth t.is k) != 0) = true := by simpa using hy
          (repeat' (first | (refine nx ?_) | (refine WD_call (by exact rfl) ?_; first | (refine WD_c0 (levQ_m _ ?_) ?_; (exact hyp))) | ((with_reducible apply WD_id); first | (refine WD_clr htb ?_))))
          exact gE (.inr rfl) rfl (congrArg vI hI.symm) trivial
        · rw [if_neg hy] at hI
          have t6 : (levT (nth t.is k) != 0) = false := by simpa using hy
          (repeat' (first | (refine nx ?_) | (refine WD_call (by exact rfl) ?_; first | (refine WD_c0 (levQ_m _ ?_) ?_; (exact hyp))) | ((with_reducible apply WD_id); first | (refine WD_clr htb ?_))))
          refine ⟨hk', hI, ?_⟩
          (exact LeV [])
      · have t5 : decide ((k : Int) < (t.is.length : Int)) = false := by simp; omega
        rw [List.drop_eq_nil_of_le hk'] at hI
        (repeat' (first | (refine nx ?_) | ((with_reducible apply WD_id); first | (refine WD_clr htb ?_))))
        exact gE (.inr rfl) rfl (congrArg vI hI.symm) trivial
theorem chkR_m (t : Tr) (hs : sizT t ≤ 1000) : FnM Tryz.prog 125 [] [aTr t] (vI (chkT t)) [] := by
  have hh : hT t ≤ hT t ∧ sizT t ≤ 1000 := ⟨Nat.le_refl _, hs⟩
  have depQ_m : ∀ (x : Tr) (hx : hT x ≤ hT t ∧ sizT x ≤ 1000), FnM Tryz.prog 86 [] [aTr x] (vI (depT x)) [] := fun x hx => dep_r (hT t) x hx.1 hx.2
  have sizQ_m : ∀ (x : Tr) (hx : hT x ≤ hT t ∧ sizT x ≤ 1000), FnM Tryz.prog 85 [] [aTr x] (vI (sizT x)) [] := fun x hx => siz_r (hT t) x hx.1 hx.2
  have levQ_m : ∀ (x : Tr) (hx : hT x ≤ hT t ∧ sizT x ≤ 1000), FnM Tryz.prog 170 [] [aTr x] (vI (levT x)) [] := fun x hx => lev_r (hT t) x hx.1 hx.2
  refine FnM.of htb Tryz.func125 rfl rfl rfl rfl rfl fun cx hN h0 => ?_
  by_cases h1 : depT t > 4
  · have t1 : decide (depT t > 4) = true := by simpa using h1
    (repeat' (first | (refine nx ?_) | (refine WD_call (by exact rfl) ?_; first | (refine WD_c0 (depQ_m _ ?_) ?_; (exact hyp))) | ((with_reducible apply WD_id); first | (refine WD_clr htb ?_))))
    exact gE (.inr rfl) rfl (congrArg vI (by unfold chkT; rw [if_pos (.inl h1)])) trivial
  have t1 : decide (depT t > 4) = false := by simpa using h1
  by_cases h2 : sizT t > 200
  · have t2 : decide (sizT t > 200) = true := by simpa using h2
    (repeat' (first | (refine nx ?_) | (refine WD_call (by exact rfl) ?_; first | (refine WD_c0 (depQ_m _ ?_) ?_; (exact hyp)) | (refine WD_c0 (sizQ_m _ ?_) ?_; (exact hyp))) | ((with_reducible apply WD_id); first | (refine WD_clr htb ?_))))
    exact gE (.inr rfl) rfl (congrArg vI (by unfold chkT; rw [if_pos (.inr h2)])) trivial
  have t2 : decide (sizT t > 200) = false := by simpa using h2
  (repeat' (first | (refine nx ?_) | (refine WD_call (by exact rfl) ?_; first | (refine WD_c0 (depQ_m _ ?_) ?_; (exact hyp)) | (refine WD_c0 (sizQ_m _ ?_) ?_; (exact hyp)) | (refine WD_c0 (levQ_m _ ?_) ?_; (exact hyp))) | ((with_reducible apply WD_id); first | (refine WD_clr htb ?_))))
  exact gE (.inr rfl) rfl (congrArg vI (by unfold chkT; rw [if_neg (by omega)])) trivial
end Go.Proofs.YtkjpnmodlmlhdaaGreatDoor
/- Contracts: the tape of numbers. -/
namespace Go.Proofs.YtkjpnmodlmlhdaaGreatDoor
set_option linter.unusedSimpArgs false
set_option linter.unusedVariables false
set_option linter.unnecessarySimpa false
set_option linter.unusedSectionVars false
set_option maxRecDepth 100000
open Go Go.RowKit Go.Am Go.Proofs.Grow
abbrev tpB (s : Sc) : AO := .box 68 [lI s.l, vI s.i]
theorem tm_neg (x : Int) {k : Int} (h : 1 ≤ k) (hn : x.tmod k < 0) : x.tmod k + k = x % k := by
  have hb := tmod_bd x h
  have e3 := tmod_emod x h
  generalize x.tmod k = z at hb e3 hn ⊢
  rw [← e3, Int.tmod_eq_of_lt (by omega) (by omega)]
theorem tm_pos (x : Int) {k : Int} (h : 1 ≤ k) (hn : ¬ x.tmod k < 0) : x.tmod k = x % k := by
  have hb := tmod_bd x h
  have e3 := tmod_emod x h
  generalize x.tmod k = z at hb e3 hn ⊢
  rw [← e3, Int.tmod_eq_emod_of_nonneg (by omega), Int.add_emod_right, Int.emod_eq_of_lt (by omega) (by omega)]
theorem tN_m (s : Sc) (k : Int) (hs : s.ok) (h1 : 1 ≤ k) (h2 : k ≤ 1000000) : FnM Tryz.prog 9 [(9000, tpB s)] [.ptr 9000 0, vI k] (vI (s.n k)) [(9000, tpB (s.x k))] := by
  obtain ⟨hs1, hs2⟩ := hs
  refine FnM.of htb Tryz.func9 rfl rfl rfl rfl rfl fun cx hN h0 => ?_
  by_cases hi : s.i < s.l.length
  case neg =>
    have e1 : s.n k = 0 := by unfold Sc.n; rw [if_neg (by omega)]
    have e2 : s.x k = s := by unfold Sc.x; rw [if_neg (by omega)]
    rw [e1, e2]
    have t1 : decide ((s.i : Int) ≥ (s.l.length : Int)) = true := by simp only [decide_eq_true_eq]; omega
    (repeat' (first | ((with_reducible apply WD_id); first | (refine WD_sum ?_) | (refine WD_nxt htb (by exact rfl) ?_) | (refine WD_idx htb ?_) | (refine WD_rem ?_)) | (with_reducible apply WA_seq) | ((with_reducible apply gR hmix hN); exact (by kernel_rfl); (try dsimp only [List.append_eq, List.cons_append, List.nil_append])) | ((with_reducible apply WD_end); (first | exact no_draw | (intro _; kernel_rfl)); try simp only [thn, inB, List.length_map, List.cons_append, List.nil_append]) | ((with_reducible apply gCt); exact rfl; exact rfl) | ((with_reducible apply gCf); exact rfl; exact rfl) | ((with_reducible apply gCk); exact rfl; exact known; intro hb; rw [hb]; clear hb) | ((with_reducible apply gCn); exact rfl; exact known; intro hb; rw [hb]; clear hb) | (with_reducible apply WA_block) | ((with_reducible first | apply WA_skip | apply WA_ret | apply WA_exit | apply WA_label); try simp only [thn, inB, List.length_map, List.cons_append, List.nil_append])))
    exact gE (.inr rfl) rfl rfl ⟨rfl, trivial⟩
  have t1 : decide ((s.i : Int) ≥ (s.l.length : Int)) = false := by simp only [decide_eq_false_iff_not]; omega
  have hb := tmod_bd (nth s.l s.i) h1
  have e1 : s.n k = nth s.l s.i % k := by unfold Sc.n; rw [if_pos ⟨hi, h1⟩]
  have e2 : s.x k = ⟨s.l, s.i + 1⟩ := by unfold Sc.x; rw [if_pos ⟨hi, h1⟩]
  rw [e1, e2]
  by_cases hn : (nth s.l s.i).tmod k < 0
  · have t2 : decide ((nth s.l s.i).tmod k < 0) = true := by simpa using hn
    have e4 := tm_neg (nth s.l s.i) h1 hn
    rw [← e4]
    (repeat' (first | ((with_reducible apply WD_id); first | (refine WD_sum ?_) | (refine WD_nxt htb (by exact rfl) ?_) | (refine WD_idx htb ?_) | (refine WD_rem ?_)) | (with_reducible apply WA_seq) | ((with_reducible apply gR hmix hN); exact (by kernel_rfl); (try dsimp only [List.append_eq, List.cons_append, List.nil_append])) | ((with_reducible apply WD_end); (first | exact no_draw | (intro _; kernel_rfl)); try simp only [thn, inB, List.length_map, List.cons_append, List.nil_append]) | ((with_reducible apply gCt); exact rfl; exact rfl) | ((with_reducible apply gCf); exact rfl; exact rfl) | ((with_reducible apply gCk); exact rfl; exact known; intro hb; rw [hb]; clear hb) | ((with_reducible apply gCn); exact rfl; exact known; intro hb; rw [hb]; clear hb) | (with_reducible apply WA_block) | ((with_reducible first | apply WA_skip | apply WA_ret | apply WA_exit | apply WA_label); try simp only [thn, inB, List.length_map, List.cons_append, List.nil_append])))
    exact gE (.inr rfl) rfl rfl ⟨rfl, trivial⟩
  · have t2 : decide ((nth s.l s.i).tmod k < 0) = false := by simpa using hn
    have e4 := tm_pos (nth s.l s.i) h1 hn
    rw [← e4]
    (repeat' (first | ((with_reducible apply WD_id); first | (refine WD_sum ?_) | (refine WD_nxt htb (by exact rfl) ?_) | (refine WD_idx htb ?_) | (refine WD_rem ?_)) | (with_reducible apply WA_seq) | ((with_reducible apply gR hmix hN); exact (by kernel_rfl); (try dsimp only [List.append_eq, List.cons_append, List.nil_append])) | ((with_reducible apply WD_end); (first | exact no_draw | (intro _; kernel_rfl)); try simp only [thn, inB, List.length_map, List.cons_append, List.nil_append]) | ((with_reducible apply gCt); exact rfl; exact rfl) | ((with_reducible apply gCf); exact rfl; exact rfl) | ((with_reducible apply gCk); exact rfl; exact known; intro hb; rw [hb]; clear hb) | ((with_reducible apply gCn); exact rfl; exact known; intro hb; rw [hb]; clear hb) | (with_reducible apply WA_block) | ((with_reducible first | apply WA_skip | apply WA_ret | apply WA_exit | apply WA_label); try simp only [thn, inB, List.length_map, List.cons_append, List.nil_append])))
    exact gE (.inr rfl) rfl rfl ⟨rfl, trivial⟩
theorem tR_m (s : Sc) (a b : Int) (hs : s.ok) (h1 : 0 ≤ a) (h2 : a ≤ b) (h3 : b ≤ 1000) : FnM Tryz.prog 6 [(9000, tpB s)] [.ptr 9000 0, vI a, vI b] (vI (a + s.n (b - a + 1))) [(9000, tpB (s.x (b - a + 1)))] := by
  refine FnM.of htb Tryz.func6 rfl rfl rfl rfl rfl fun cx hN h0 => ?_
  have hb := s.n_bd (k := b - a + 1) (by omega)
  (repeat' (first | ((with_reducible apply WD_id); first | (refine WD_sum ?_) | (refine WD_nxt htb (by exact rfl) ?_) | (refine WD_call (by exact rfl) ?_; first | (refine WD_cM (tN_m _ _ ?_ ?_ ?_) ?_; (exact hyp); (exact hyp); (exact hyp)))) | (with_reducible apply WA_seq) | ((with_reducible apply gR hmix hN); exact (by kernel_rfl); (try dsimp only [List.append_eq, List.cons_append, List.nil_append])) | ((with_reducible apply WD_end); (first | exact no_draw | (intro _; kernel_rfl)); try simp only [thn, inB, List.length_map, List.cons_append, List.nil_append]) | (with_reducible apply WA_block) | ((with_reducible first | apply WA_skip | apply WA_ret | apply WA_exit | apply WA_label); try simp only [thn, inB, List.length_map, List.cons_append, List.nil_append])))
  exact gE (.inr rfl) rfl rfl ⟨rfl, trivial⟩
theorem tP_m (s : Sc) (l : List Int) (hs : s.ok) (h1 : 1 ≤ l.length) (h2 : l.length ≤ 1000) : FnM Tryz.prog 173 [(9000, tpB s)] [.ptr 9000 0, lI l] (vI (nth l (s.n l.length).toNat)) [(9000, tpB (s.x l.length))] := by
  refine FnM.of htb Tryz.func173 rfl rfl rfl rfl rfl fun cx hN h0 => ?_
  have hb := s.n_bd (k := l.length) (by omega)
  rw [← List.length_map (f := rI)] at *
  (repeat' (first | ((with_reducible apply WD_id); first | (refine WD_nxt htb (by exact rfl) ?_) | (refine WD_call (by exact rfl) ?_; first | (refine WD_cM (tN_m _ _ ?_ ?_ ?_) ?_; (exact hyp); (exact hyp); (exact hyp))) | (refine WD_idx htb ?_)) | (with_reducible apply WA_seq) | ((with_reducible apply gR hmix hN); exact (by kernel_rfl); (try dsimp only [List.append_eq, List.cons_append, List.nil_append])) | ((with_reducible apply WD_end); (first | exact no_draw | (intro _; kernel_rfl)); try simp only [thn, inB, List.length_map, List.cons_append, List.nil_append]) | (with_reducible apply WA_block) | ((with_reducible first | apply WA_skip | apply WA_ret | apply WA_exit | apply WA_label); try simp only [thn, inB, List.length_map, List.cons_append, List.nil_append])))
  exact gE (.inr rfl) rfl rfl ⟨rfl, trivial⟩
theorem tNew_m (l : List Int) : FnM Tryz.prog 4 [] [lI l] (.ptr 9000 0) [(9000, tpB ⟨l.take 400, 0⟩)] := by
  refine FnM.of htb Tryz.func4 rfl rfl rfl rfl rfl fun cx hN h0 => ?_
  (repeat' (first | ((with_reducible apply WD_id); first | (refine WD_nxt htb (by exact rfl) ?_) | (refine WD_slc htb ?_)) | (with_reducible apply WA_seq) | ((with_reducible apply gR hmix hN); exact (by kernel_rfl); (try dsimp only [List.append_eq, List.cons_append, List.nil_append])) | ((with_reducible apply WD_end); (first | exact no_draw | (intro _; kernel_rfl)); try simp only [thn, inB, List.length_map, List.cons_append, List.nil_append]) | (with_reducible apply WA_block) | ((with_reducible first | apply WA_skip | apply WA_ret | apply WA_exit | apply WA_label); try simp only [thn, inB, List.length_map, List.cons_append, List.nil_append])))
  have e : List.drop 0 (List.take (if (400 : Int) < (l.length : Int) then (400 : Int) else (l.length : Int)).toNat (List.map rI l)) = (l.take 400).map rI := by
    rw [List.drop_zero, List.map_take]
    split
    · rfl
    · rw [List.take_of_length_le (by simp), List.take_of_length_le (by simp; omega)]
  rw [e]
  (exact glV [(2, .ptr 9000 0)] [(9000, tpB ⟨l.take 400, 0⟩)] (LeV [(9000, 9)]))
def swpN (l : List Nat) (i k : Nat) : List Nat := (l.set i (nth l k)).set k (nth l i)
def ordT : Nat → Sc → List Nat → List Nat × Sc
  | 0, s, l => (l, s)
  | i + 1, s, l => ordT i (s.x ((i : Int) + 2)) (swpN l (i + 1) (s.n ((i : Int) + 2)).toNat)
def ordF (s : Sc) (n : Nat) : List Nat × Sc := ordT (n - 1) s (List.range n)
theorem swpN_mem {l : List Nat} {i k n : Nat} (hi : i < l.length) (hk : k < l.length) (h : ∀ x ∈ l, x < n) : ∀ x ∈ swpN l i k, x < n := by
  intro x hx
  unfold swpN at hx
  rcases List.mem_or_eq_of_mem_set hx with hx | rfl
  · rcases List.mem_or_eq_of_mem_set hx with hx | rfl
    · exact h x hx
    · exact h _ (nth_mem l k hk)
  · exact h _ (nth_mem l i hi)
theorem swpN_len (l : List Nat) (i k : Nat) : (swpN l i k).length = l.length := by simp [swpN]
theorem ordT_spec {n : Nat} : ∀ (i : Nat) (s : Sc) (l : List Nat), s.ok → l.length = n → i < n → (∀ x ∈ l, x < n) → (ordT i s l).1.length = n ∧ (∀ x ∈ (ordT i s l).1, x < n) ∧ (ordT i s l).2.ok
  | 0, s, l, hs, hl, _, h => ⟨hl, h, hs⟩
  | i + 1, s, l, hs, hl, hi, h => by
    have hb := s.n_bd (k := (i : Int) + 2) (by omega)
    exact ordT_spec i _ _ (Sc.ok_x hs _) (by rw [swpN_len, hl]) (by omega) (swpN_mem (by omega) (by omega) h)
theorem ordF_spec {s : Sc} {n : Nat} (hs : s.ok) (hn : 1 ≤ n) : (ordF s n).1.length = n ∧ (∀ x ∈ (ordF s n).1, x < n) ∧ (ordF s n).2.ok :=
  ordT_spec (n - 1) s _ hs (by simp) (by omega) (by simp)
theorem tO_m (s : Sc) (n : Nat) (hs : s.ok) (h1 : 1 ≤ n) (h2 : n ≤ 10) : FnM Tryz.prog 172 [(9000, tpB s)] [.ptr 9000 0, vI (n : Int)] (lN (ordF s n).1) [(9000, tpB (ordF s n).2)] := by
  refine FnM.of htb Tryz.func172 rfl rfl rfl rfl rfl fun cx hN h0 => ?_
  (repeat' (first | ((with_reducible apply WD_id); first | (refine WD_sum ?_) | (refine WD_nxt htb (by exact rfl) ?_) | (refine WD_idxo htb ?_) | (refine WD_lde1 htb ?_) | (refine WD_ste htb ?_) | (refine WD_ap htb ?_)) | (with_reducible apply WA_seq) | ((with_reducible apply gR hmix hN); exact (by kernel_rfl); (try dsimp only [List.append_eq, List.cons_append, List.nil_append])) | ((with_reducible apply WD_end); (first | exact no_draw | (intro _; kernel_rfl)); try simp only [thn, inB, List.length_map, List.cons_append, List.nil_append]) | ((with_reducible apply gCt); exact rfl; exact rfl) | ((with_reducible apply gCf); exact rfl; exact rfl) | ((with_reducible apply gCk); exact rfl; exact known; intro hb; rw [hb]; clear hb) | ((with_reducible apply gCn); exact rfl; exact known; intro hb; rw [hb]; clear hb) | (with_reducible apply WA_block) | ((with_reducible first | apply WA_skip | apply WA_ret | apply WA_exit | apply WA_label); try simp only [thn, inB, List.length_map, List.cons_append, List.nil_append])))
  refine WA_le (Le_nilT 60 5 3 1 rfl rfl) ?_
  (refine WA_forV (n) [6, 5] [60] (fun k => [(6, vI k), (5, .own 60)]) (fun k => [(60, .arr 3 1 ((List.range k).map rN))]) (fun k => True) ?h0 ?_)
  case h0 => trivial
  intro k hk _
  rcases Nat.lt_or_ge k n with hk' | hk'
  · have t1 : decide ((k : Int) < (n : Int)) = true := by simp; omega
    have hlr : (List.range k).length ≤ 10 := by simp; omega
    (repeat' (first | ((with_reducible apply WD_id); first | (refine WD_sum ?_) | (refine WD_nxt htb (by exact rfl) ?_) | (refine WD_idxo htb ?_) | (refine WD_lde1 htb ?_) | (refine WD_ste htb ?_) | (refine WD_ap htb ?_)) | (with_reducible apply WA_seq) | ((with_reducible apply gR hmix hN); exact (by kernel_rfl); (try dsimp only [List.append_eq, List.cons_append, List.nil_append])) | ((with_reducible apply WD_end); (first | exact no_draw | (intro _; kernel_rfl)); try simp only [thn, inB, List.length_map, List.cons_append, List.nil_append]) | ((with_reducible apply gCt); exact rfl; exact rfl) | ((with_reducible apply gCf); exact rfl; exact rfl) | ((with_reducible apply gCk); exact rfl; exact known; intro hb; rw [hb]; clear hb) | ((with_reducible apply gCn); exact rfl; exact known; intro hb; rw [hb]; clear hb) | (with_reducible apply WA_block) | ((with_reducible first | apply WA_skip | apply WA_ret | apply WA_exit | apply WA_label); try simp only [thn, inB, List.length_map, List.cons_append, List.nil_append])))
    refine ⟨hk', trivial, ?_⟩
    rw [List.range_succ, List.map_append]
    (exact LeV [(60, 17)])
  have t1 : decide ((k : Int) < (n : Int)) = false := by simp; omega
  obtain rfl : k = n := by omega
  (repeat' (first | ((with_reducible apply WD_id); first | (refine WD_sum ?_) | (refine WD_nxt htb (by exact rfl) ?_) | (refine WD_idxo htb ?_) | (refine WD_lde1 htb ?_) | (refine WD_ste htb ?_) | (refine WD_ap htb ?_)) | (with_reducible apply WA_seq) | ((with_reducible apply gR hmix hN); exact (by kernel_rfl); (try dsimp only [List.append_eq, List.cons_append, List.nil_append])) | ((with_reducible apply WD_end); (first | exact no_draw | (intro _; kernel_rfl)); try simp only [thn, inB, List.length_map, List.cons_append, List.nil_append]) | ((with_reducible apply gCt); exact rfl; exact rfl) | ((with_reducible apply gCf); exact rfl; exact rfl) | ((with_reducible apply gCk); exact rfl; exact known; intro hb; rw [hb]; clear hb) | ((with_reducible apply gCn); exact rfl; exact known; intro hb; rw [hb]; clear hb) | (with_reducible apply WA_block) | ((with_reducible first | apply WA_skip | apply WA_ret | apply WA_exit | apply WA_label); try simp only [thn, inB, List.length_map, List.cons_append, List.nil_append])))
  rw [show (k : Int) - 1 = ((k - 1 : Nat) : Int) by omega]
  (refine WA_anyV (α := Nat × Sc × List Nat) (fun x => x.1) ((k - 1, s, List.range k)) [7] [9000, 60] (fun x => [(7, vI ((x.1 : Nat) : Int))]) (fun x => [(9000, tpB x.2.1), (60, .arr 3 1 (x.2.2.map rN))]) (fun x => x.1 < k ∧ x.2.1.ok ∧ x.2.2.length = k ∧ ordF s k = ordT x.1 x.2.1 x.2.2) ?h0 ?_)
  case h0 => exact ⟨by omega, hs, by simp, rfl⟩
  rintro ⟨i, s1, l⟩ ⟨hi, hs1, hl, hI⟩
  dsimp only at hi hs1 hl hI ⊢
  rw [hI]
  cases i with
  | zero =>
    have t2 : decide (((0 : Nat) : Int) > 0) = false := by simp
    (repeat' (first | ((with_reducible apply WD_id); first | (refine WD_sum ?_) | (refine WD_nxt htb (by exact rfl) ?_) | (refine WD_idxo htb ?_) | (refine WD_lde1 htb ?_) | (refine WD_ste htb ?_) | (refine WD_ap htb ?_)) | (with_reducible apply WA_seq) | ((with_reducible apply gR hmix hN); exact (by kernel_rfl); (try dsimp only [List.append_eq, List.cons_append, List.nil_append])) | ((with_reducible apply WD_end); (first | exact no_draw | (intro _; kernel_rfl)); try simp only [thn, inB, List.length_map, List.cons_append, List.nil_append]) | ((with_reducible apply gCt); exact rfl; exact rfl) | ((with_reducible apply gCf); exact rfl; exact rfl) | ((with_reducible apply gCk); exact rfl; exact known; intro hb; rw [hb]; clear hb) | ((with_reducible apply gCn); exact rfl; exact known; intro hb; rw [hb]; clear hb) | (with_reducible apply WA_block) | ((with_reducible first | apply WA_skip | apply WA_ret | apply WA_exit | apply WA_label); try simp only [thn, inB, List.length_map, List.cons_append, List.nil_append])))
    (exact glV [(4, lN l)] [(9000, tpB s1)] (LeV []))
  | succ i =>
    have t2 : decide (((i + 1 : Nat) : Int) > 0) = true := by simp <;> omega
    have hb := s1.n_bd (k := (i : Int) + 2) (by omega)
    have hs2 := Sc.ok_x hs1 ((i : Int) + 2)
    obtain ⟨q, hq⟩ : ∃ q : Nat, s1.n ((i : Int) + 2) = (q : Int) := ⟨(s1.n ((i : Int) + 2)).toNat, by omega⟩
    have hqk : q < l.length := by omega
    have hil : i + 1 < l.length := by omega
    have e0 : ((i + 1 : Nat) : Int) + 1 = (i : Int) + 2 := by omega
    have tNX_m : FnM Tryz.prog 9 [(9000, tpB s1)] [.ptr 9000 0, vI (((i + 1 : Nat) : Int) + 1)] (vI (q : Int)) [(9000, tpB (s1.x ((i : Int) + 2)))] := by
      have := tN_m s1 ((i : Int) + 2) hs1 (by omega) (by omega)
      rw [hq] at this
      rw [e0]; exact this
    have e5 : swpN l (i + 1) (s1.n ((i : Int) + 2)).toNat = swpN l (i + 1) q := by rw [hq]; rfl
    have hrow : ((l.map rN).set (i + 1) (rN (nth l q)))[q]? = some (rN (nth (l.set (i + 1) (nth l q)) q)) := by
      rw [show (l.map rN).set (i + 1) (rN (nth l q)) = (l.set (i + 1) (nth l q)).map rN by rw [List.map_set]]
      exact rowGet _ _ (by simp; omega)
    (repeat' (first | ((with_reducible apply WD_id); first | (refine WD_sum ?_) | (refine WD_nxt htb (by exact rfl) ?_) | (refine WD_call (by exact rfl) ?_; first | (refine WD_cM (tNX_m) ?_)) | (refine WD_idxo htb ?_) | (refine WD_lde1 htb ?_) | (refine WD_ste htb ?_) | (refine WD_ap htb ?_)) | (with_reducible apply WA_seq) | ((with_reducible apply gR hmix hN); exact (by kernel_rfl); (try dsimp only [List.append_eq, List.cons_append, List.nil_append])) | ((with_reducible apply WD_end); (first | exact no_draw | (intro _; kernel_rfl)); try simp only [thn, inB, List.length_map, List.cons_append, List.nil_append]) | ((with_reducible apply gCt); exact rfl; exact rfl) | ((with_reducible apply gCf); exact rfl; exact rfl) | ((with_reducible apply gCk); exact rfl; exact known; intro hb; rw [hb]; clear hb) | ((with_reducible apply gCn); exact rfl; exact known; intro hb; rw [hb]; clear hb) | (with_reducible apply WA_block) | ((with_reducible first | apply WA_skip | apply WA_ret | apply WA_exit | apply WA_label); try simp only [thn, inB, List.length_map, List.cons_append, List.nil_append])))
    refine WD_ste htb ?_ (hr := hrow)
    (repeat' (first | ((with_reducible apply WD_id); first | (refine WD_sum ?_) | (refine WD_nxt htb (by exact rfl) ?_) | (refine WD_idxo htb ?_) | (refine WD_lde1 htb ?_) | (refine WD_ste htb ?_) | (refine WD_ap htb ?_)) | (with_reducible apply WA_seq) | ((with_reducible apply gR hmix hN); exact (by kernel_rfl); (try dsimp only [List.append_eq, List.cons_append, List.nil_append])) | ((with_reducible apply WD_end); (first | exact no_draw | (intro _; kernel_rfl)); try simp only [thn, inB, List.length_map, List.cons_append, List.nil_append]) | ((with_reducible apply gCt); exact rfl; exact rfl) | ((with_reducible apply gCf); exact rfl; exact rfl) | ((with_reducible apply gCk); exact rfl; exact known; intro hb; rw [hb]; clear hb) | ((with_reducible apply gCn); exact rfl; exact known; intro hb; rw [hb]; clear hb) | (with_reducible apply WA_block) | ((with_reducible first | apply WA_skip | apply WA_ret | apply WA_exit | apply WA_label); try simp only [thn, inB, List.length_map, List.cons_append, List.nil_append])))
    refine ⟨(i, s1.x ((i : Int) + 2), swpN l (i + 1) q), by dsimp only; omega, ⟨by dsimp only; omega, hs2, by rw [swpN_len, hl], by rw [ordT, e5]⟩, ?_⟩
    rw [show (swpN l (i + 1) q).map rN = ((l.map rN).set (i + 1) (rN (nth l q))).set q (rN (nth l (i + 1))) by simp [swpN, List.map_set]]
    (exact LeV [])
end Go.Proofs.YtkjpnmodlmlhdaaGreatDoor
/- Contracts: trusts that are drawn. -/
namespace Go.Proofs.YtkjpnmodlmlhdaaGreatDoor
set_option linter.unusedSimpArgs false
set_option linter.unusedVariables false
set_option linter.unnecessarySimpa false
set_option linter.unusedSectionVars false
set_option maxRecDepth 100000
open Go Go.RowKit Go.Am Go.Proofs.Grow
def rgN (s : Sc) (b : Nat) : Nat := (s.n b).toNat + 1
theorem rgN_bd {s : Sc} {b : Nat} (h : 1 ≤ b) : 1 ≤ rgN s b ∧ rgN s b ≤ b := by
  have := s.n_bd (k := b) (by omega)
  unfold rgN; omega
theorem tRg_m (s : Sc) (b : Nat) (e : Int) (hs : s.ok) (h1 : 1 ≤ b) (h2 : b ≤ 1000) (he : e = (b : Int)) : FnM Tryz.prog 6 [(9000, tpB s)] [.ptr 9000 0, vI 1, vI e] (vI ((rgN s b : Nat) : Int)) [(9000, tpB (s.x b))] := by
  subst he
  have hb := s.n_bd (k := b) (by omega)
  have := tR_m s 1 b hs (by omega) (by omega) (by omega)
  rw [show (b : Int) - 1 + 1 = b by omega, show (1 : Int) + s.n b = ((rgN s b : Nat) : Int) by unfold rgN; omega] at this
  exact this
theorem castI (l : List Nat) : (l.map fun x : Nat => (x : Int)).map rI = l.map rN := by rw [List.map_map]; rfl
theorem aTr_cast (k : Int) (m : List Nat) (is : List Tr) : aTr (.mk k (m.map fun x : Nat => (x : Int)) is) = .agg [vI k, lN m, lTr is] := by
  show AV.agg [vI k, .d (.rows 1 ((m.map fun x : Nat => (x : Int)).map rI)), lTr is] = _
  rw [castI]
/-- A trust of one level. -/
def tr1F (s : Sc) (n : Nat) : Tr × Sc :=
  let p := ordF s n
  let r := rgN p.2 n
  let s2 := p.2.x n
  (.mk ((rgN s2 r : Nat) : Int) ((p.1.take r).map fun x : Nat => (x : Int)) [], s2.x r)
theorem tr1_m (s : Sc) (n : Nat) (hs : s.ok) (h1 : 1 ≤ n) (h2 : n ≤ 5) : FnM Tryz.prog 128 [(9000, tpB s)] [.ptr 9000 0, vI (n : Int), vI 1] (aTr (tr1F s n).1) [(9000, tpB (tr1F s n).2)] := by
  obtain ⟨ho1, ho2, ho3⟩ := ordF_spec hs h1
  unfold tr1F
  generalize hp : ordF s n = p at *
  obtain ⟨l, s1⟩ := p
  dsimp only at ho1 ho2 ho3 ⊢
  have hr := rgN_bd (s := s1) h1
  have hs2 := Sc.ok_x ho3 (n : Int)
  have rgA_m := tRg_m s1 n (if (5 : Int) < (n : Int) then 5 else (n : Int)) ho3 h1 (by omega) (by rw [if_neg (by omega)])
  have hrl : (l.take (rgN s1 n)).length = rgN s1 n := by rw [List.length_take]; omega
  have rgB_m := tRg_m (s1.x n) (rgN s1 n) ((((l.take (rgN s1 n)).map rN).length : Int) + 0) hs2 hr.1 (by omega) (by rw [List.length_map]; omega)
  generalize hrr : rgN s1 n = r at *
  have hlr : r ≤ (l.map rN).length := by rw [List.length_map]; omega
  refine FnM.of htb Tryz.func128 rfl rfl rfl rfl rfl fun cx hN h0 => ?_
  have tOX : FnM Tryz.prog 172 [(9000, tpB s)] [.ptr 9000 0, vI (n : Int)] (lN l) [(9000, tpB s1)] := by
    have := tO_m s n hs h1 (by omega)
    rw [hp] at this; exact this
  have tOX_m := tOX
  (repeat' (first | ((with_reducible apply WD_id); first | (refine WD_sum ?_) | (refine WD_nxt htb (by exact rfl) ?_) | (refine WD_call (by exact rfl) ?_; first | (refine WD_cM (tOX_m) ?_) | (refine WD_cM (rgA_m) ?_)) | (refine WD_idx htb ?_) | (refine WD_ap htb ?_) | (refine WD_slc htb ?_)) | (with_reducible apply WA_seq) | ((with_reducible apply gR hmix hN); exact (by kernel_rfl); (try dsimp only [List.append_eq, List.cons_append, List.nil_append])) | ((with_reducible apply WD_end); (first | exact no_draw | (intro _; kernel_rfl)); try simp only [thn, inB, List.length_map, List.cons_append, List.nil_append]) | ((with_reducible apply gCt); exact rfl; exact rfl) | ((with_reducible apply gCf); exact rfl; exact rfl) | ((with_reducible apply gCk); exact rfl; exact known; intro hb; rw [hb]; clear hb) | ((with_reducible apply gCn); exact rfl; exact known; intro hb; rw [hb]; clear hb) | (with_reducible apply WA_block) | ((with_reducible first | apply WA_skip | apply WA_ret | apply WA_exit | apply WA_label); try simp only [thn, inB, List.length_map, List.cons_append, List.nil_append])))
  rw [show List.drop 0 (List.take r (List.map rN l)) = (l.take r).map rN by rw [List.drop_zero, List.map_take], List.length_map]
  refine WA_le (Le_nilM 60 7 1 3 1 rfl rfl rfl rfl) ?_
  generalize hm : l.take r = m at *
  (refine WA_forV (m.length) [22] [7, 60, 9000] (fun k => [(22, vI k)]) (fun k => [(9000, tpB (s1.x n)), (7, .box 37 [vI 0, .own 60, .d (.v (.slice none 0 0))]), (60, .arr 3 1 ((m.take k).map rN))]) (fun k => True) ?h0 ?_)
  case h0 => trivial
  intro k hk _
  have hlk : (m.take k).length ≤ k := by rw [List.length_take]; omega
  rcases Nat.lt_or_ge k m.length with hk' | hk'
  · have t1 : decide ((k : Int) < (m.length : Int)) = true := by simp; omega
    have hw : (m.take (k + 1)) = m.take k ++ [nth m k] := by rw [List.take_succ_eq_append_getElem hk', nth_getElem _ _ hk']
    (repeat' (first | ((with_reducible apply WD_id); first | (refine WD_sum ?_) | (refine WD_nxt htb (by exact rfl) ?_) | (refine WD_idx htb ?_) | (refine WD_ap htb ?_) | (refine WD_slc htb ?_)) | (with_reducible apply WA_seq) | ((with_reducible apply gR hmix hN); exact (by kernel_rfl); (try dsimp only [List.append_eq, List.cons_append, List.nil_append])) | ((with_reducible apply WD_end); (first | exact no_draw | (intro _; kernel_rfl)); try simp only [thn, inB, List.length_map, List.cons_append, List.nil_append]) | ((with_reducible apply gCt); exact rfl; exact rfl) | ((with_reducible apply gCf); exact rfl; exact rfl) | ((with_reducible apply gCk); exact rfl; exact known; intro hb; rw [hb]; clear hb) | ((with_reducible apply gCn); exact rfl; exact known; intro hb; rw [hb]; clear hb) | (with_reducible apply WA_block) | ((with_reducible first | apply WA_skip | apply WA_ret | apply WA_exit | apply WA_label); try simp only [thn, inB, List.length_map, List.cons_append, List.nil_append])))
    refine ⟨hk', trivial, ?_⟩
    rw [hw, List.map_append, List.map_cons, List.map_nil]
    (exact LeV [(60, 30)])
  · have t1 : decide ((k : Int) < (m.length : Int)) = false := by simp; omega
    have e1 : m.take k = m := take_all hk'
    rw [e1]
    have hml : (m.map rN).length ≤ 10 := by rw [List.length_map]; omega
    (repeat' (first | ((with_reducible apply WD_id); first | (refine WD_sum ?_) | (refine WD_nxt htb (by exact rfl) ?_) | (refine WD_call (by exact rfl) ?_; first | (refine WD_cM (rgB_m) ?_)) | (refine WD_idx htb ?_) | (refine WD_ap htb ?_) | (refine WD_slc htb ?_)) | (with_reducible apply WA_seq) | ((with_reducible apply gR hmix hN); exact (by kernel_rfl); (try dsimp only [List.append_eq, List.cons_append, List.nil_append])) | ((with_reducible apply WD_end); (first | exact no_draw | (intro _; kernel_rfl)); try simp only [thn, inB, List.length_map, List.cons_append, List.nil_append]) | ((with_reducible apply gCt); exact rfl; exact rfl) | ((with_reducible apply gCf); exact rfl; exact rfl) | ((with_reducible apply gCk); exact rfl; exact known; intro hb; rw [hb]; clear hb) | ((with_reducible apply gCn); exact rfl; exact known; intro hb; rw [hb]; clear hb) | (with_reducible apply WA_block) | ((with_reducible first | apply WA_skip | apply WA_ret | apply WA_exit | apply WA_label); try simp only [thn, inB, List.length_map, List.cons_append, List.nil_append])))
    rw [aTr_cast]
    (exact glV [(6, .ptr 6 0)] [(6, .box 37 [vI ((rgN (s1.x n) r : Nat) : Int), lN m, .d (.rows 3 [])]), (9000, tpB ((s1.x n).x r))] (LeV []))
def innF : Nat → Sc → Nat → List Tr → List Tr × Sc
  | 0, s, _, o => (o, s)
  | i + 1, s, n, o => innF i (tr1F s n).2 n (o ++ [(tr1F s n).1])
def picks : List Int := [0, 0, 1, 1, 2, 3]
/-- A trust of two levels. -/
def tr2F (s : Sc) (n : Nat) : Tr × Sc :=
  let p := ordF s n
  let r := rgN p.2 n
  let s2 := p.2.x n
  let i := nth picks (s2.n 6).toNat
  let q := innF i.toNat (s2.x 6) n []
  if q.1.length = 0 then (.mk ((rgN q.2 r : Nat) : Int) ((p.1.take r).map fun x : Nat => (x : Int)) [], q.2.x r)
  else if q.2.n 3 = 0 then (.mk ((rgN (q.2.x 3) q.1.length : Nat) : Int) [] q.1, (q.2.x 3).x q.1.length)
  else (.mk ((rgN (q.2.x 3) (r + q.1.length) : Nat) : Int) ((p.1.take r).map fun x : Nat => (x : Int)) q.1, (q.2.x 3).x (r + q.1.length : Nat))
/-- Trusts over few nodes, of few levels. -/
structure GoodT (n : Nat) (t : Tr) : Prop where
  ns : ∀ x ∈ t.ns, 0 ≤ x ∧ x < (n : Int)
  nl : t.ns.length ≤ 5
  il : t.is.length ≤ 3
  inn : ∀ y ∈ t.is, y.is = [] ∧ y.ns.length ≤ 5 ∧ ∀ x ∈ y.ns, 0 ≤ x ∧ x < (n : Int)
theorem tr1_spec {s : Sc} {n : Nat} (hs : s.ok) (h1 : 1 ≤ n) (h2 : n ≤ 5) : GoodT n (tr1F s n).1 ∧ (tr1F s n).1.is = [] ∧ (tr1F s n).2.ok := by
  obtain ⟨ho1, ho2, ho3⟩ := ordF_spec hs h1
  unfold tr1F
  refine ⟨⟨fun x hx => ?_, ?_, by simp [Tr.is], fun y hy => by simp [Tr.is] at hy⟩, rfl, Sc.ok_x (Sc.ok_x ho3 _) _⟩
  · simp only [Tr.ns, List.mem_map] at hx
    obtain ⟨y, hy, rfl⟩ := hx
    have := ho2 y (List.mem_of_mem_take hy)
    omega
  · simp only [Tr.ns, List.length_map, List.length_take]; omega
theorem inn_spec {n : Nat} (h1 : 1 ≤ n) (h2 : n ≤ 5) : ∀ (i : Nat) (s : Sc) (o : List Tr), s.ok → (∀ y ∈ o, y.is = [] ∧ y.ns.length ≤ 5 ∧ ∀ x ∈ y.ns, 0 ≤ x ∧ x < (n : Int)) →
    (innF i s n o).1.length = o.length + i ∧ (∀ y ∈ (innF i s n o).1, y.is = [] ∧ y.ns.length ≤ 5 ∧ ∀ x ∈ y.ns, 0 ≤ x ∧ x < (n : Int)) ∧ (innF i s n o).2.ok
  | 0, s, o, hs, h => ⟨rfl, h, hs⟩
  | i + 1, s, o, hs, h => by
    obtain ⟨g1, g2, g3⟩ := tr1_spec hs h1 h2
    have := inn_spec h1 h2 i (tr1F s n).2 (o ++ [(tr1F s n).1]) g3 (fun y hy => by
      rcases List.mem_append.1 hy with hy | hy
      · exact h y hy
      · obtain rfl : y = (tr1F s n).1 := by simpa using hy
        exact ⟨g2, g1.nl, g1.ns⟩)
    simp only [List.length_append, List.length_cons, List.length_nil] at this
    exact ⟨by rw [innF]; omega, this.2.1, this.2.2⟩
theorem pick_bd {k : Nat} (h : k < 6) : 0 ≤ nth picks k ∧ nth picks k ≤ 3 := by
  obtain rfl | rfl | rfl | rfl | rfl | rfl : k = 0 ∨ k = 1 ∨ k = 2 ∨ k = 3 ∨ k = 4 ∨ k = 5 := by omega
  all_goals decide
end Go.Proofs.YtkjpnmodlmlhdaaGreatDoor
/- Plain law: the text of a small trust tells it apart from others. No program stands here. -/
namespace Go.Proofs.YtkjpnmodlmlhdaaGreatDoor
set_option linter.unusedSimpArgs false
set_option linter.unusedVariables false
set_option linter.unnecessarySimpa false
set_option linter.unusedSectionVars false
set_option maxRecDepth 100000
open Go Go.RowKit
def ofB : List UInt8 := [32, 111, 102, 32, 40]
def sepB : List UInt8 := [44, 32]
mutual
def wrT : Tr → List UInt8
  | .mk k ns is => Lib.decDigits k.toNat ++ ofB ++ Lib.join (ns.map (fun n => Lib.decDigits n.toNat) ++ wrTs is) sepB ++ [41]
def wrTs : List Tr → List (List UInt8)
  | [] => []
  | t :: r => wrT t :: wrTs r
end
theorem wrTs_map : ∀ l : List Tr, wrTs l = l.map wrT
  | [] => rfl
  | t :: r => by simp only [wrTs, List.map_cons, wrTs_map r]
/-- Small numbers, at most two levels. -/
def Sm1 (t : Tr) : Prop := t.is = [] ∧ (0 ≤ t.k ∧ t.k ≤ 9) ∧ ∀ x ∈ t.ns, 0 ≤ x ∧ x ≤ 9
def Sm2 (t : Tr) : Prop := (0 ≤ t.k ∧ t.k ≤ 9) ∧ (∀ x ∈ t.ns, 0 ≤ x ∧ x ≤ 9) ∧ ∀ y ∈ t.is, Sm1 y
def dg1 (n : Int) : UInt8 := UInt8.ofNat (48 + n.toNat)
theorem dec_1 {n : Int} (h : 0 ≤ n ∧ n ≤ 9) : Lib.decDigits n.toNat = [dg1 n] := Lib.decDigits_one (by omega)
theorem dg1_nat {n : Int} (h : 0 ≤ n ∧ n ≤ 9) : (dg1 n).toNat = 48 + n.toNat := by
  unfold dg1; rw [UInt8.toNat_ofNat']; omega
theorem dg1_inj {a b : Int} (ha : 0 ≤ a ∧ a ≤ 9) (hb : 0 ≤ b ∧ b ≤ 9) (h : dg1 a = dg1 b) : a = b := by
  have := congrArg UInt8.toNat h
  rw [dg1_nat ha, dg1_nat hb] at this
  omega
theorem dg1_ne {a : Int} (ha : 0 ≤ a ∧ a ≤ 9) {c : UInt8} (hc : c.toNat < 48) : dg1 a ≠ c := fun h => by
  have := congrArg UInt8.toNat h
  rw [dg1_nat ha] at this
  omega
theorem jt_cons (x : List UInt8) (r : List (List UInt8)) : Lib.joinTail sepB (x :: r) = 44 :: 32 :: (x ++ Lib.joinTail sepB r) := by simp [Lib.joinTail, sepB]
theorem jt_nil : Lib.joinTail sepB [] = [] := rfl
abbrev Nine (l : List Int) : Prop := ∀ x ∈ l, 0 ≤ x ∧ x ≤ 9
theorem nt_inj : ∀ (a b : List Int) (r q : List UInt8), Nine a → Nine b → Lib.joinTail sepB (a.map fun x => [dg1 x]) ++ 41 :: r = Lib.joinTail sepB (b.map fun x => [dg1 x]) ++ 41 :: q → a = b ∧ r = q
  | [], [], r, q, _, _, h => by simpa [jt_nil] using h
  | [], y :: b, r, q, _, _, h => by rw [List.map_cons, jt_cons] at h; simp [jt_nil] at h
  | x :: a, [], r, q, _, _, h => by rw [List.map_cons, jt_cons] at h; simp [jt_nil] at h
  | x :: a, y :: b, r, q, ha, hb, h => by
    rw [List.map_cons, List.map_cons, jt_cons, jt_cons] at h
    simp only [List.cons_append, List.nil_append, List.cons.injEq, true_and] at h
    have e := dg1_inj (ha x (by simp)) (hb y (by simp)) h.1
    obtain ⟨e1, e2⟩ := nt_inj a b r q (fun z hz => ha z (by simp [hz])) (fun z hz => hb z (by simp [hz])) h.2
    exact ⟨by rw [e, e1], e2⟩
theorem nj_inj (a b : List Int) (r q : List UInt8) (ha : Nine a) (hb : Nine b) (h : Lib.join (a.map fun x => [dg1 x]) sepB ++ 41 :: r = Lib.join (b.map fun x => [dg1 x]) sepB ++ 41 :: q) : a = b ∧ r = q := by
  match a, b, ha, hb, h with
  | [], [], _, _, h => simpa [Lib.join_nil] using h
  | [], y :: b, _, hb, h =>
    rw [List.map_cons, Lib.join_cons] at h
    simp only [List.map_nil, Lib.join_nil, List.nil_append, List.cons_append, List.cons.injEq] at h
    exact absurd h.1.symm (dg1_ne (hb y (by simp)) (by decide))
  | x :: a, [], ha, _, h =>
    rw [List.map_cons, Lib.join_cons] at h
    simp only [List.map_nil, Lib.join_nil, List.nil_append, List.cons_append, List.cons.injEq] at h
    exact absurd h.1 (dg1_ne (ha x (by simp)) (by decide))
  | x :: a, y :: b, ha, hb, h =>
    rw [List.map_cons, List.map_cons, Lib.join_cons, Lib.join_cons] at h
    simp only [List.cons_append, List.nil_append, List.cons.injEq] at h
    have e := dg1_inj (ha x (by simp)) (hb y (by simp)) h.1
    obtain ⟨e1, e2⟩ := nt_inj a b r q (fun z hz => ha z (by simp [hz])) (fun z hz => hb z (by simp [hz])) h.2
    exact ⟨by rw [e, e1], e2⟩
theorem wr_leaf {t : Tr} (h : Sm1 t) : wrT t = dg1 t.k :: (ofB ++ (Lib.join (t.ns.map fun x => [dg1 x]) sepB ++ [41])) := by
  obtain ⟨k, ns, is⟩ := t
  obtain ⟨h1, h2, h3⟩ := h
  simp only [Tr.k, Tr.ns, Tr.is] at h1 h2 h3
  subst h1
  have e : (ns.map fun n => Lib.decDigits n.toNat) = ns.map fun x => [dg1 x] := List.map_congr_left fun x hx => dec_1 (h3 x hx)
  simp only [wrT, wrTs, List.append_nil, Tr.k, Tr.ns]
  rw [dec_1 h2, e]
  simp
/-- A word: a node, or a trust of one level. -/
inductive Wd where
  | n (k : Int)
  | l (t : Tr)
def Wd.ok : Wd → Prop
  | .n k => 0 ≤ k ∧ k ≤ 9
  | .l t => Sm1 t
def Wd.e : Wd → List UInt8
  | .n k => [dg1 k]
  | .l t => wrT t
abbrev Sp (c : UInt8) : Prop := c = 44 ∨ c = 41
theorem wd_inj {v w : Wd} {c d : UInt8} {r q : List UInt8} (hv : v.ok) (hw : w.ok) (hc : Sp c) (hd : Sp d) (h : v.e ++ c :: r = w.e ++ d :: q) : v = w ∧ c = d ∧ r = q := by
  cases v with
  | n a =>
    cases w with
    | n b =>
      simp only [Wd.e, List.cons_append, List.nil_append, List.cons.injEq] at h
      exact ⟨by rw [dg1_inj hv hw h.1], h.2⟩
    | l u =>
      have hw' : Sm1 u := hw
      simp only [Wd.e, wr_leaf hw', ofB, List.cons_append, List.nil_append, List.cons.injEq] at h
      rcases hc with rfl | rfl <;> exact absurd h.2.1 (by decide)
  | l t =>
    have hv' : Sm1 t := hv
    cases w with
    | n b =>
      simp only [Wd.e, wr_leaf hv', ofB, List.cons_append, List.nil_append, List.cons.injEq] at h
      rcases hd with rfl | rfl <;> exact absurd h.2.1 (by decide)
    | l u =>
      have hw' : Sm1 u := hw
      simp only [Wd.e, wr_leaf hv', wr_leaf hw', List.cons_append, List.append_assoc, List.cons.injEq] at h
      have h2 := List.append_cancel_left h.2
      simp only [List.nil_append] at h2
      obtain ⟨e1, e2⟩ := nj_inj _ _ _ _ hv'.2.2 hw'.2.2 h2
      have e3 := dg1_inj hv'.2.1 hw'.2.1 h.1
      have e4 : t = u := by rw [k_eq t, k_eq u, e1, e3, hv'.1, hw'.1]
      simp only [List.cons.injEq] at e2
      exact ⟨by rw [e4], e2⟩
theorem tl_cons (a : List Wd) (r : List UInt8) : ∃ c q, Sp c ∧ Lib.joinTail sepB (a.map Wd.e) ++ 41 :: r = c :: q := by
  cases a with
  | nil => exact ⟨41, r, .inr rfl, by simp [jt_nil]⟩
  | cons x a => rw [List.map_cons, jt_cons]; exact ⟨44, _, .inl rfl, rfl⟩
theorem wt_inj : ∀ (a b : List Wd) (r q : List UInt8), (∀ x ∈ a, x.ok) → (∀ x ∈ b, x.ok) → Lib.joinTail sepB (a.map Wd.e) ++ 41 :: r = Lib.joinTail sepB (b.map Wd.e) ++ 41 :: q → a = b ∧ r = q
  | [], [], r, q, _, _, h => by simpa [jt_nil] using h
  | [], y :: b, r, q, _, _, h => by rw [List.map_cons, jt_cons] at h; simp [jt_nil] at h
  | x :: a, [], r, q, _, _, h => by rw [List.map_cons, jt_cons] at h; simp [jt_nil] at h
  | x :: a, y :: b, r, q, ha, hb, h => by
    rw [List.map_cons, List.map_cons, jt_cons, jt_cons] at h
    simp only [List.cons_append, List.append_assoc, List.cons.injEq, true_and] at h
    obtain ⟨c, u, hc, e1⟩ := tl_cons a r
    obtain ⟨d, v, hd, e2⟩ := tl_cons b q
    rw [e1, e2] at h
    obtain ⟨k1, k2, k3⟩ := wd_inj (ha x (by simp)) (hb y (by simp)) hc hd h
    obtain ⟨m1, m2⟩ := wt_inj a b r q (fun z hz => ha z (by simp [hz])) (fun z hz => hb z (by simp [hz])) (by rw [e1, e2, k2, k3])
    exact ⟨by rw [k1, m1], m2⟩
theorem wd_head {w : Wd} (h : w.ok) : ∃ k r, (0 ≤ k ∧ k ≤ 9) ∧ w.e = dg1 k :: r := by
  cases w with
  | n k => exact ⟨k, [], h, rfl⟩
  | l t => have h' : Sm1 t := h; exact ⟨t.k, _, h'.2.1, wr_leaf h'⟩
theorem wj_inj (a b : List Wd) (r q : List UInt8) (ha : ∀ x ∈ a, x.ok) (hb : ∀ x ∈ b, x.ok) (h : Lib.join (a.map Wd.e) sepB ++ 41 :: r = Lib.join (b.map Wd.e) sepB ++ 41 :: q) : a = b ∧ r = q := by
  match a, b, ha, hb, h with
  | [], [], _, _, h => simpa [Lib.join_nil] using h
  | [], y :: b, _, hb, h =>
    obtain ⟨k, u, hk, e⟩ := wd_head (hb y (by simp))
    rw [List.map_cons, Lib.join_cons, e] at h
    simp only [List.map_nil, Lib.join_nil, List.nil_append, List.cons_append, List.cons.injEq] at h
    exact absurd h.1.symm (dg1_ne hk (by decide))
  | x :: a, [], ha, _, h =>
    obtain ⟨k, u, hk, e⟩ := wd_head (ha x (by simp))
    rw [List.map_cons, Lib.join_cons, e] at h
    simp only [List.map_nil, Lib.join_nil, List.nil_append, List.cons_append, List.cons.injEq] at h
    exact absurd h.1 (dg1_ne hk (by decide))
  | x :: a, y :: b, ha, hb, h =>
    rw [List.map_cons, List.map_cons, Lib.join_cons, Lib.join_cons] at h
    simp only [List.append_assoc] at h
    obtain ⟨c, u, hc, e1⟩ := tl_cons a r
    obtain ⟨d, v, hd, e2⟩ := tl_cons b q
    rw [e1, e2] at h
    obtain ⟨k1, k2, k3⟩ := wd_inj (ha x (by simp)) (hb y (by simp)) hc hd h
    obtain ⟨m1, m2⟩ := wt_inj a b r q (fun z hz => ha z (by simp [hz])) (fun z hz => hb z (by simp [hz])) (by rw [e1, e2, k2, k3])
    exact ⟨by rw [k1, m1], m2⟩
def wds (t : Tr) : List Wd := t.ns.map .n ++ t.is.map .l
theorem wds_ok {t : Tr} (h : Sm2 t) : ∀ x ∈ wds t, x.ok := by
  intro x hx
  rcases List.mem_append.1 hx with hx | hx
  · obtain ⟨y, hy, rfl⟩ := List.mem_map.1 hx; exact h.2.1 y hy
  · obtain ⟨y, hy, rfl⟩ := List.mem_map.1 hx; exact h.2.2 y hy
theorem map_l_inj : ∀ {b d : List Tr}, b.map Wd.l = d.map Wd.l → b = d
  | [], [], _ => rfl
  | [], _ :: _, h => by cases h
  | _ :: _, [], h => by cases h
  | x :: b, y :: d, h => by
    simp only [List.map_cons, List.cons.injEq, Wd.l.injEq] at h
    rw [h.1, map_l_inj h.2]
theorem wds_inj : ∀ {a c : List Int} {b d : List Tr}, a.map Wd.n ++ b.map Wd.l = c.map Wd.n ++ d.map Wd.l → a = c ∧ b = d
  | [], [], b, d, h => by
    refine ⟨rfl, ?_⟩
    simp only [List.map_nil, List.nil_append] at h
    exact map_l_inj h
  | [], y :: c, b, d, h => by
    cases b <;> simp at h
  | x :: a, [], b, d, h => by
    cases d <;> simp at h
  | x :: a, y :: c, b, d, h => by
    simp only [List.map_cons, List.cons_append, List.cons.injEq, Wd.n.injEq] at h
    obtain ⟨e1, e2⟩ := wds_inj h.2
    exact ⟨by rw [h.1, e1], e2⟩
theorem wr_words {t : Tr} (h : Sm2 t) : wrT t = dg1 t.k :: (ofB ++ (Lib.join ((wds t).map Wd.e) sepB ++ [41])) := by
  obtain ⟨k, ns, is⟩ := t
  obtain ⟨h2, h3, h4⟩ := h
  simp only [Tr.k, Tr.ns, Tr.is] at h2 h3 h4
  have e : (ns.map fun n => Lib.decDigits n.toNat) = ns.map fun x => [dg1 x] := List.map_congr_left fun x hx => dec_1 (h3 x hx)
  have e2 : ((wds (.mk k ns is)).map Wd.e) = (ns.map fun x => [dg1 x]) ++ is.map wrT := by
    simp only [wds, Tr.ns, Tr.is, List.map_append, List.map_map]
    rfl
  rw [e2]
  simp only [wrT, wrTs_map, Tr.k]
  rw [dec_1 h2, e]
  simp
theorem wr_inj {t u : Tr} (ht : Sm2 t) (hu : Sm2 u) (h : wrT t = wrT u) : t = u := by
  rw [wr_words ht, wr_words hu] at h
  simp only [List.cons.injEq] at h
  have h2 := List.append_cancel_left h.2
  obtain ⟨e1, _⟩ := wj_inj _ _ [] [] (wds_ok ht) (wds_ok hu) h2
  obtain ⟨e2, e3⟩ := wds_inj e1
  have e4 := dg1_inj ht.1 hu.1 h.1
  rw [k_eq t, k_eq u, e2, e3, e4]
end Go.Proofs.YtkjpnmodlmlhdaaGreatDoor
