/- The reference compares ledgers. -/
import Derived.Test.YtgebgpdoddjfhaaGreatAmZ
import Derived.Test.YtgebgpdoddjfhaaGreatWR2
import Derived.Test.YtgebgpdoddjfhaaGreatWL0
namespace Go.Proofs.YtgebgpdoddjfhaaGreat
set_option linter.unusedSimpArgs false
set_option linter.unusedVariables false
set_option linter.unnecessarySimpa false
set_option linter.unusedSectionVars false
set_option maxRecDepth 100000
open Go Go.RowKit Go.Am Go.Proofs.Grow

theorem sameL_rm (l m : List Lin) (hl : l.length ≤ 1000) : FnM Tryz.prog 74 [] [lL l, lL m] (vB (eqLins l m)) [] := by
  refine FnM.of htb Tryz.func74 rfl rfl rfl rfl rfl fun cx hN h0 => ?_
  (repeat' (first | ((with_reducible apply WD_id); first | (refine WD_eq (eqL_step rfl rfl rfl) ?_)) | (refine nx ?_) | (refine WD_unk (by exact rfl) ?_; ((refine WD_tf (by exact rfl) (by exact rfl) ?_ ?_) <;> (intro hb; (fail_if_success (with_reducible injection hb)); rw [hb]; (try simp only [List.length_map] at hb)))) | ((refine WD_tf (by exact rfl) (by exact rfl) ?_ ?_) <;> (intro hb; (fail_if_success (with_reducible injection hb)); rw [hb]; (try simp only [List.length_map] at hb))) | (((with_reducible apply gC2); exact rfl) <;> (intro hb; rw [hb]))))
  · exact gE (.inr rfl) rfl (congrArg vB (eqLins_len l m (by simp at hb; omega)).symm) trivial
  have hlm : l.length = m.length := by simp at hb; omega
  ((refine WA_forV (l.length) [13] [] (fun k => [(13, vI k)]) (fun k => []) (fun k => eqLins l m = eqLins (l.drop k) (m.drop k)) ?h0 ?_); (case h0 => rfl); intro k hk hI; (repeat' (first | ((with_reducible apply WD_id); first | (refine WD_eq (eqL_step rfl rfl rfl) ?_)) | (refine nx ?_) | (refine WD_unk (by exact rfl) ?_; ((refine WD_tf (by exact rfl) (by exact rfl) ?_ ?_) <;> (intro hb; (fail_if_success (with_reducible injection hb)); rw [hb]; (try simp only [List.length_map] at hb)))) | ((refine WD_tf (by exact rfl) (by exact rfl) ?_ ?_) <;> (intro hb; (fail_if_success (with_reducible injection hb)); rw [hb]; (try simp only [List.length_map] at hb))) | (((with_reducible apply gC2); exact rfl) <;> (intro hb; rw [hb])))); (all_goals first | exact gE (.inr rfl) rfl (congrArg vB ((eqLins_step (by simp only [decide_eq_true_eq, decide_eq_false_iff_not, bne_iff_ne, bne_eq_false_iff_eq] at *; omega) (by simp only [decide_eq_true_eq, decide_eq_false_iff_not, bne_iff_ne, bne_eq_false_iff_eq] at *; omega) hI).1 (by first | with_reducible assumption | (simp at *; simp_all))).symm) trivial | (refine ⟨(by simp only [decide_eq_true_eq, decide_eq_false_iff_not, bne_iff_ne, bne_eq_false_iff_eq] at *; omega), (eqLins_step (by simp only [decide_eq_true_eq, decide_eq_false_iff_not, bne_iff_ne, bne_eq_false_iff_eq] at *; omega) (by simp only [decide_eq_true_eq, decide_eq_false_iff_not, bne_iff_ne, bne_eq_false_iff_eq] at *; omega) hI).2 (by first | with_reducible assumption | (simp at *; simp_all)), ?_⟩; (exact LeV [])) | exact gE (.inr rfl) rfl (congrArg vB (eqLins_end (by simp only [decide_eq_true_eq, decide_eq_false_iff_not, bne_iff_ne, bne_eq_false_iff_eq] at *; omega) (by rwa [show k = l.length by simp at *; omega] at hI)).symm) trivial))
set_option maxHeartbeats 4000000 in
theorem sameG_rm (g h : Led) (hl : g.lins.length ≤ 1000) (ha : g.accs.length ≤ 1000) (ho : g.offs.length ≤ 1000) : FnM Tryz.prog 45 [] [aG g, aG h] (vB (eqLed g h)) [] := by
  refine FnM.of htb Tryz.func45 rfl rfl rfl rfl rfl fun cx hN h0 => ?_
  (repeat' (first | (refine nx ?_) | (refine WD_unk (by exact rfl) ?_; ((refine WD_tf (by exact rfl) (by exact rfl) ?_ ?_) <;> (intro hb; (fail_if_success (with_reducible injection hb)); rw [hb]; (try simp only [List.length_map] at hb)))) | (refine WD_call (by exact rfl) ?_; first | (refine WD_c0 (sameA_rm _ _ ?y0) ?_; (case y0 => exact hyp)) | (refine WD_c0 (sameL_rm _ _ ?y0) ?_; (case y0 => exact hyp))) | ((refine WD_tf (by exact rfl) (by exact rfl) ?_ ?_) <;> (intro hb; (fail_if_success (with_reducible injection hb)); rw [hb]; (try simp only [List.length_map] at hb))) | (((with_reducible apply gC2); exact rfl) <;> (intro hb; rw [hb]))))
  all_goals try simp only [Bool.not_eq_true', Bool.not_eq_false', decide_eq_true_eq, decide_eq_false_iff_not, bne_iff_ne, bne_eq_false_iff_eq, beq_iff_eq, beq_eq_false_iff_ne] at *
  all_goals try (
    refine gE (.inr rfl) rfl (congrArg vB (?_ : false = eqLed g h)) trivial
    have hne := fun q : ¬ ((g.offs.length : Int) = h.offs.length) => eqOffs_len g.offs h.offs (by omega)
    simp_all [eqLed]
    done)
  have hlm : g.offs.length = h.offs.length := by omega
  have e : eqLed g h = eqOffs g.offs h.offs := by simp_all [eqLed]
  rw [e]
  ((refine WA_forV (g.offs.length) [60] [] (fun k => [(60, vI k)]) (fun k => []) (fun k => eqOffs g.offs h.offs = eqOffs (g.offs.drop k) (h.offs.drop k)) ?h0 ?_); (case h0 => rfl); intro k hk hI; (repeat' (first | ((with_reducible apply WD_id); first | (refine WD_eq (eqO_step rfl rfl rfl) ?_)) | (refine nx ?_) | (refine WD_unk (by exact rfl) ?_; ((refine WD_tf (by exact rfl) (by exact rfl) ?_ ?_) <;> (intro hb; (fail_if_success (with_reducible injection hb)); rw [hb]; (try simp only [List.length_map] at hb)))) | ((refine WD_tf (by exact rfl) (by exact rfl) ?_ ?_) <;> (intro hb; (fail_if_success (with_reducible injection hb)); rw [hb]; (try simp only [List.length_map] at hb))) | (((with_reducible apply gC2); exact rfl) <;> (intro hb; rw [hb])))); (all_goals first | exact gE (.inr rfl) rfl (congrArg vB ((eqOffs_step (by simp only [decide_eq_true_eq, decide_eq_false_iff_not, bne_iff_ne, bne_eq_false_iff_eq] at *; omega) (by simp only [decide_eq_true_eq, decide_eq_false_iff_not, bne_iff_ne, bne_eq_false_iff_eq] at *; omega) hI).1 (by first | with_reducible assumption | (simp at *; simp_all))).symm) trivial | (refine ⟨(by simp only [decide_eq_true_eq, decide_eq_false_iff_not, bne_iff_ne, bne_eq_false_iff_eq] at *; omega), (eqOffs_step (by simp only [decide_eq_true_eq, decide_eq_false_iff_not, bne_iff_ne, bne_eq_false_iff_eq] at *; omega) (by simp only [decide_eq_true_eq, decide_eq_false_iff_not, bne_iff_ne, bne_eq_false_iff_eq] at *; omega) hI).2 (by first | with_reducible assumption | (simp at *; simp_all)), ?_⟩; (exact LeV [])) | exact gE (.inr rfl) rfl (congrArg vB (eqOffs_end (by simp only [decide_eq_true_eq, decide_eq_false_iff_not, bne_iff_ne, bne_eq_false_iff_eq] at *; omega) (by rwa [show k = g.offs.length by simp at *; omega] at hI)).symm) trivial))
end Go.Proofs.YtgebgpdoddjfhaaGreat
