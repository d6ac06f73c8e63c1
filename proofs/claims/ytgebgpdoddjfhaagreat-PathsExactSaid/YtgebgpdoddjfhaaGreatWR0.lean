/- Contracts of the reference's functions on accounts. -/
import Derived.Test.YtgebgpdoddjfhaaGreatAmZ
import Derived.Test.YtgebgpdoddjfhaaGreatPE
namespace Go.Proofs.YtgebgpdoddjfhaaGreat
set_option linter.unusedSimpArgs false
set_option linter.unusedVariables false
set_option linter.unnecessarySimpa false
set_option linter.unusedSectionVars false
set_option maxRecDepth 100000
open Go Go.RowKit Go.Am Go.Proofs.Grow

set_option maxHeartbeats 2000000 in
theorem chkA_rm (l : List Acc) : FnM Tryz.prog 55 [] [lA l] (vI (chkA l)) [] := by
  refine FnM.of htb Tryz.func55 rfl rfl rfl rfl rfl fun cx hN h0 => ?_
  (repeat' (first | (refine nx ?_) | (refine WD_unk (by exact rfl) ?_; ((refine WD_tf (by exact rfl) (by exact rfl) ?_ ?_) <;> (intro hb; (fail_if_success (with_reducible injection hb)); rw [hb]; (try simp only [List.length_map] at hb)))) | (refine WD_call (by exact rfl) ?_; first | (refine WD_c0 (okA_rm _) ?_)) | ((refine WD_tf (by exact rfl) (by exact rfl) ?_ ?_) <;> (intro hb; (fail_if_success (with_reducible injection hb)); rw [hb]; (try simp only [List.length_map] at hb))) | (((with_reducible apply gC2); exact rfl) <;> (intro hb; rw [hb]))))
  · refine gE (.inr rfl) rfl ?_ trivial
    have : 20 < l.length := by simp at hb; omega
    simp [tupOf, chkA, this]
  have h20 : ¬ 20 < l.length := by simp at hb; omega
  (refine WA_forV (l.length) [10] [] (fun k => [(10, vI k)]) (fun k => []) (fun k => accsOk none l = accsOk (prevId l k) (l.drop k)) ?h0 ?_)
  case h0 => rfl
  intro k hk hI
  have hkl := @chk_step l k h20
  have hp : 0 < k → prevId l k = some (nth l ((k : Int) - 1).toNat).id := fun h => by
    rw [show ((k : Int) - 1).toNat = k - 1 by omega]; simp [prevId]; omega
  have hp0 : ¬ 0 < k → prevId l k = none := fun h => by simp [prevId]; omega
  (repeat' (first | (refine nx ?_) | (refine WD_unk (by exact rfl) ?_; ((refine WD_tf (by exact rfl) (by exact rfl) ?_ ?_) <;> (intro hb; (fail_if_success (with_reducible injection hb)); rw [hb]; (try simp only [List.length_map] at hb)))) | (refine WD_call (by exact rfl) ?_; first | (refine WD_c0 (okA_rm _) ?_)) | ((refine WD_tf (by exact rfl) (by exact rfl) ?_ ?_) <;> (intro hb; (fail_if_success (with_reducible injection hb)); rw [hb]; (try simp only [List.length_map] at hb))) | (((with_reducible apply gC2); exact rfl) <;> (intro hb; rw [hb]))))
  all_goals try simp only [Bool.not_eq_true', Bool.not_eq_false', decide_eq_true_eq, decide_eq_false_iff_not, bne_iff_ne, bne_eq_false_iff_eq, beq_iff_eq, beq_eq_false_iff_ne] at *
  all_goals try (
    refine gE (.inr rfl) rfl ?_ trivial
    have bad : accOk (prevId l k) (nth l k) = false := by
      rw [Bool.eq_false_iff]
      intro hc
      rw [acc_iff2] at hc
      by_cases h : 0 < k
      · rw [hp h] at hc; simp only [ltO, decide_eq_true_eq] at hc; first | omega | simp_all
      · rw [hp0 h] at hc; first | omega | simp_all
    exact congrArg vI ((hkl (by omega) hI).1 bad).symm)
  all_goals first
    | (refine ⟨by omega, (hkl (by omega) hI).2 ?_, ?_⟩
       rotate_left
       (exact LeV [])
       rw [acc_iff2]
       by_cases h : 0 < k
       · rw [hp h]; simp only [ltO, decide_eq_true_eq]; exact ⟨by omega, by omega, by assumption, by omega, by omega⟩
       · rw [hp0 h]; exact ⟨by omega, rfl, by assumption, by omega, by omega⟩)
    | exact gE (.inr rfl) rfl (congrArg vI (chk_end h20 (by omega) hI).symm) trivial


theorem idxA_rm (l : List Acc) (i : Int) (hl : l.length ≤ 1000) : FnM Tryz.prog 80 [] [lA l, vI i] (vI (idxA l i)) [] := by
  refine FnM.of htb Tryz.func80 rfl rfl rfl rfl rfl fun cx hN h0 => ?_
  (repeat' (first | (refine nx ?_) | (refine WD_unk (by exact rfl) ?_; ((refine WD_tf (by exact rfl) (by exact rfl) ?_ ?_) <;> (intro hb; (fail_if_success (with_reducible injection hb)); rw [hb]; (try simp only [List.length_map] at hb)))) | ((refine WD_tf (by exact rfl) (by exact rfl) ?_ ?_) <;> (intro hb; (fail_if_success (with_reducible injection hb)); rw [hb]; (try simp only [List.length_map] at hb))) | (((with_reducible apply gC2); exact rfl) <;> (intro hb; rw [hb]))))
  ((refine WA_forV (l.length) [9] [] (fun k => [(9, vI k)]) (fun k => []) (fun k => idxA l i = idxF (hasId i) k (l.drop k)) ?h0 ?_); (case h0 => rfl); intro k hk hI; (repeat' (first | (refine nx ?_) | (refine WD_unk (by exact rfl) ?_; ((refine WD_tf (by exact rfl) (by exact rfl) ?_ ?_) <;> (intro hb; (fail_if_success (with_reducible injection hb)); rw [hb]; (try simp only [List.length_map] at hb)))) | ((refine WD_tf (by exact rfl) (by exact rfl) ?_ ?_) <;> (intro hb; (fail_if_success (with_reducible injection hb)); rw [hb]; (try simp only [List.length_map] at hb))) | (((with_reducible apply gC2); exact rfl) <;> (intro hb; rw [hb])))); (all_goals first | exact gE (.inr rfl) rfl (congrArg vI (idx_hit hI (by simp only [decide_eq_true_eq, decide_eq_false_iff_not] at *; omega) (by first | with_reducible assumption | (simp only [decide_eq_true_eq, decide_eq_false_iff_not, hasId] at *; simp_all))).symm) trivial | (refine ⟨(by simp only [decide_eq_true_eq, decide_eq_false_iff_not] at *; omega), idx_miss hI (by simp only [decide_eq_true_eq, decide_eq_false_iff_not] at *; omega) (by first | with_reducible assumption | (simp only [decide_eq_true_eq, decide_eq_false_iff_not, hasId] at *; simp_all)), ?_⟩; (exact LeV [])) | exact gE (.inr rfl) rfl (congrArg vI (idx_end hI (by simp only [decide_eq_true_eq, decide_eq_false_iff_not] at *; omega)).symm) trivial))
theorem findA_rm (l : List Acc) (i : Int) (hl : l.length ≤ 1000) : FnM Tryz.prog 50 [] [lA l, vI i] (.tup [aA (findA l i).1, vB (findA l i).2]) [] := by
  refine FnM.of htb Tryz.func50 rfl rfl rfl rfl rfl fun cx hN h0 => ?_
  have hi := idxF_bd (hasId i) l
  have hi2 : idxA l i = idxF (hasId i) 0 l := rfl
  (repeat' (first | (refine nx ?_) | (refine WD_unk (by exact rfl) ?_; ((refine WD_tf (by exact rfl) (by exact rfl) ?_ ?_) <;> (intro hb; (fail_if_success (with_reducible injection hb)); rw [hb]; (try simp only [List.length_map] at hb)))) | (refine WD_call (by exact rfl) ?_; first | (refine WD_c0 (idxA_rm _ _ ?y0) ?_; (case y0 => exact hyp))) | ((refine WD_tf (by exact rfl) (by exact rfl) ?_ ?_) <;> (intro hb; (fail_if_success (with_reducible injection hb)); rw [hb]; (try simp only [List.length_map] at hb))) | (((with_reducible apply gC2); exact rfl) <;> (intro hb; rw [hb]))))
  · exact gE (.inr rfl) rfl (by rw [findA_yes (by simp at *; omega)]; rfl) trivial
  · exact gE (.inr rfl) rfl (by rw [findA_no (by simp at *; omega)]; rfl) trivial
theorem sameA_rm (l m : List Acc) (hl : l.length ≤ 1000) : FnM Tryz.prog 73 [] [lA l, lA m] (vB (eqAccs l m)) [] := by
  refine FnM.of htb Tryz.func73 rfl rfl rfl rfl rfl fun cx hN h0 => ?_
  (repeat' (first | ((with_reducible apply WD_id); first | (refine WD_eq (neA_step rfl rfl rfl) ?_)) | (refine nx ?_) | (refine WD_unk (by exact rfl) ?_; ((refine WD_tf (by exact rfl) (by exact rfl) ?_ ?_) <;> (intro hb; (fail_if_success (with_reducible injection hb)); rw [hb]; (try simp only [List.length_map] at hb)))) | ((refine WD_tf (by exact rfl) (by exact rfl) ?_ ?_) <;> (intro hb; (fail_if_success (with_reducible injection hb)); rw [hb]; (try simp only [List.length_map] at hb))) | (((with_reducible apply gC2); exact rfl) <;> (intro hb; rw [hb]))))
  · exact gE (.inr rfl) rfl (congrArg vB (eqAccs_len l m (by simp at hb; omega)).symm) trivial
  have hlm : l.length = m.length := by simp at hb; omega
  ((refine WA_forV (l.length) [13] [] (fun k => [(13, vI k)]) (fun k => []) (fun k => eqAccs l m = eqAccs (l.drop k) (m.drop k)) ?h0 ?_); (case h0 => rfl); intro k hk hI; (repeat' (first | ((with_reducible apply WD_id); first | (refine WD_eq (neA_step rfl rfl rfl) ?_)) | (refine nx ?_) | (refine WD_unk (by exact rfl) ?_; ((refine WD_tf (by exact rfl) (by exact rfl) ?_ ?_) <;> (intro hb; (fail_if_success (with_reducible injection hb)); rw [hb]; (try simp only [List.length_map] at hb)))) | ((refine WD_tf (by exact rfl) (by exact rfl) ?_ ?_) <;> (intro hb; (fail_if_success (with_reducible injection hb)); rw [hb]; (try simp only [List.length_map] at hb))) | (((with_reducible apply gC2); exact rfl) <;> (intro hb; rw [hb])))); (all_goals first | exact gE (.inr rfl) rfl (congrArg vB ((eqAccs_step (by simp only [decide_eq_true_eq, decide_eq_false_iff_not, bne_iff_ne, bne_eq_false_iff_eq] at *; omega) (by simp only [decide_eq_true_eq, decide_eq_false_iff_not, bne_iff_ne, bne_eq_false_iff_eq] at *; omega) hI).1 (by first | with_reducible assumption | (simp at *; simp_all))).symm) trivial | (refine ⟨(by simp only [decide_eq_true_eq, decide_eq_false_iff_not, bne_iff_ne, bne_eq_false_iff_eq] at *; omega), (eqAccs_step (by simp only [decide_eq_true_eq, decide_eq_false_iff_not, bne_iff_ne, bne_eq_false_iff_eq] at *; omega) (by simp only [decide_eq_true_eq, decide_eq_false_iff_not, bne_iff_ne, bne_eq_false_iff_eq] at *; omega) hI).2 (by first | with_reducible assumption | (simp at *; simp_all)), ?_⟩; (exact LeV [])) | exact gE (.inr rfl) rfl (congrArg vB (eqAccs_end (by simp only [decide_eq_true_eq, decide_eq_false_iff_not, bne_iff_ne, bne_eq_false_iff_eq] at *; omega) (by rwa [show k = l.length by simp at *; omega] at hI)).symm) trivial))
end Go.Proofs.YtgebgpdoddjfhaaGreat
