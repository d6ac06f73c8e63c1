/- Contracts of the functions on accounts, of the program, in the abstract view: checking, finding. -/
import Derived.Test.YtgebgpdoddjfhaaGreatAmZ
import Derived.Test.YtgebgpdoddjfhaaGreatPW
namespace Go.Proofs.YtgebgpdoddjfhaaGreat
set_option linter.unusedSimpArgs false
set_option linter.unusedVariables false
set_option linter.unnecessarySimpa false
set_option linter.unusedSectionVars false
set_option maxRecDepth 100000
open Go Go.RowKit Go.Am Go.Proofs.Grow

theorem okId_m (n : Int) : FnM Tryz.prog 110 [] [vI n] (vB (okId n)) [] := by
  refine FnM.of htb Tryz.func110 rfl rfl rfl rfl rfl fun cx hN h0 => ?_
  (repeat' (first | (refine nx ?_) | (refine WD_unk (by exact rfl) ?_; ((refine WD_tf (by exact rfl) (by exact rfl) ?_ ?_) <;> (intro hb; (fail_if_success (with_reducible injection hb)); rw [hb]; (try simp only [List.length_map] at hb)))) | ((refine WD_tf (by exact rfl) (by exact rfl) ?_ ?_) <;> (intro hb; (fail_if_success (with_reducible injection hb)); rw [hb]; (try simp only [List.length_map] at hb))) | (((with_reducible apply gC2); exact rfl) <;> (intro hb; rw [hb]))))
  all_goals refine gE (.inr rfl) rfl ?_ trivial
  all_goals simp_all [tupOf, okId]
  all_goals omega

set_option maxHeartbeats 2000000 in
theorem chkA_pm (l : List Acc) : FnM Tryz.prog 85 [] [lA l] (vI (chkA l)) [] := by
  refine FnM.of htb Tryz.func85 rfl rfl rfl rfl rfl fun cx hN h0 => ?_
  (repeat' (first | (refine nx ?_) | (refine WD_unk (by exact rfl) ?_; ((refine WD_tf (by exact rfl) (by exact rfl) ?_ ?_) <;> (intro hb; (fail_if_success (with_reducible injection hb)); rw [hb]; (try simp only [List.length_map] at hb)))) | (refine WD_call (by exact rfl) ?_; first | (refine WD_c0 (okId_m _) ?_) | (refine WD_c0 (okA_pm _) ?_)) | ((refine WD_tf (by exact rfl) (by exact rfl) ?_ ?_) <;> (intro hb; (fail_if_success (with_reducible injection hb)); rw [hb]; (try simp only [List.length_map] at hb))) | (((with_reducible apply gC2); exact rfl) <;> (intro hb; rw [hb]))))
  · refine gE (.inr rfl) rfl ?_ trivial
    have : 20 < l.length := by simp at hb; omega
    simp [tupOf, chkA, this]
  have h20 : ¬ 20 < l.length := by simp at hb; omega
  (refine WA_forV (l.length) [10] [] (fun k => [(10, vI k)]) (fun k => []) (fun k => accsOk none l = accsOk (prevId l k) (l.drop k)) ?h0 ?_)
  case h0 => rfl
  intro k hk hI
  have hkl := @chk_step l k h20
  have hp : 0 < k → prevId l k = some (nth l ((k : Int) - 1).toNat).id := fun h => by
    rw [show ((k : Int) - 1).toNat = k - 1 by omega]; simp [prevId]; omega
  have hp0 : ¬ 0 < k → prevId l k = none := fun h => by simp [prevId]; omega
  (repeat' (first | (refine nx ?_) | (refine WD_unk (by exact rfl) ?_; ((refine WD_tf (by exact rfl) (by exact rfl) ?_ ?_) <;> (intro hb; (fail_if_success (with_reducible injection hb)); rw [hb]; (try simp only [List.length_map] at hb)))) | (refine WD_call (by exact rfl) ?_; first | (refine WD_c0 (okId_m _) ?_) | (refine WD_c0 (okA_pm _) ?_)) | ((refine WD_tf (by exact rfl) (by exact rfl) ?_ ?_) <;> (intro hb; (fail_if_success (with_reducible injection hb)); rw [hb]; (try simp only [List.length_map] at hb))) | (((with_reducible apply gC2); exact rfl) <;> (intro hb; rw [hb]))))
  all_goals try simp only [Bool.not_eq_true', Bool.not_eq_false', decide_eq_true_eq, decide_eq_false_iff_not, bne_iff_ne, bne_eq_false_iff_eq, beq_iff_eq, beq_eq_false_iff_ne] at *
  all_goals try (
    refine gE (.inr rfl) rfl ?_ trivial
    have bad : accOk (prevId l k) (nth l k) = false := by
      rw [Bool.eq_false_iff]
      intro hc
      rw [acc_iff] at hc
      by_cases h : 0 < k
      · rw [hp h] at hc; simp only [ltO, decide_eq_true_eq] at hc; first | omega | simp_all
      · rw [hp0 h] at hc; first | omega | simp_all
    exact congrArg vI ((hkl (by omega) hI).1 bad).symm)
  all_goals first
    | (refine ⟨by omega, (hkl (by omega) hI).2 ?_, ?_⟩
       rotate_left
       (exact LeV [])
       rw [acc_iff]
       by_cases h : 0 < k
       · rw [hp h]; simp only [ltO, decide_eq_true_eq]; exact ⟨by assumption, by omega, by assumption, by omega, by omega⟩
       · rw [hp0 h]; exact ⟨by assumption, rfl, by assumption, by omega, by omega⟩)
    | exact gE (.inr rfl) rfl (congrArg vI (chk_end h20 (by omega) hI).symm) trivial
end Go.Proofs.YtgebgpdoddjfhaaGreat
