/- Contracts of the reference's functions on lines: checking, finding. -/
import Derived.Test.YtgebgpdoddjfhaaGreatAmZ
import Derived.Test.YtgebgpdoddjfhaaGreatWR0
namespace Go.Proofs.YtgebgpdoddjfhaaGreat
set_option linter.unusedSimpArgs false
set_option linter.unusedVariables false
set_option linter.unnecessarySimpa false
set_option linter.unusedSectionVars false
set_option maxRecDepth 100000
open Go Go.RowKit Go.Am Go.Proofs.Grow

theorem bef_rm (x : Lin) (a : Int) (u : ByteArray) (i : Int) : FnM Tryz.prog 92 [] [aL x, vI a, aT u i] (vB (befL x a u i)) [] := by
  refine FnM.of htb Tryz.func92 rfl rfl rfl rfl rfl fun cx hN h0 => ?_
  (repeat' (first | (refine nx ?_) | (refine WD_unk (by exact rfl) ?_; ((refine WD_tf (by exact rfl) (by exact rfl) ?_ ?_) <;> (intro hb; (fail_if_success (with_reducible injection hb)); rw [hb]; (try simp only [List.length_map] at hb)))) | (refine WD_call (by exact rfl) ?_; first | (refine WD_c0 (lessA_rm _ _ _ _) ?_)) | ((refine WD_tf (by exact rfl) (by exact rfl) ?_ ?_) <;> (intro hb; (fail_if_success (with_reducible injection hb)); rw [hb]; (try simp only [List.length_map] at hb))) | (((with_reducible apply gC2); exact rfl) <;> (intro hb; rw [hb]))))
  all_goals try simp only [Bool.not_eq_true', Bool.not_eq_false', decide_eq_true_eq, decide_eq_false_iff_not, bne_iff_ne, bne_eq_false_iff_eq, beq_iff_eq, beq_eq_false_iff_ne] at *
  all_goals refine gE (.inr rfl) rfl (congrArg vB ?_) trivial
  all_goals simp only [befL]
  · simp [hb]
  · simp [*]
  · simp [*]
set_option maxHeartbeats 4000000 in
theorem chkL_rm (l : List Lin) (all : List Acc) (hl : l.length ≤ 1000) (hall : all.length ≤ 1000) : FnM Tryz.prog 68 [] [lL l, lA all] (vI (chkL l all)) [] := by
  refine FnM.of htb Tryz.func68 rfl rfl rfl rfl rfl fun cx hN h0 => ?_
  (repeat' (first | (refine nx ?_) | (refine WD_unk (by exact rfl) ?_; ((refine WD_tf (by exact rfl) (by exact rfl) ?_ ?_) <;> (intro hb; (fail_if_success (with_reducible injection hb)); rw [hb]; (try simp only [List.length_map] at hb)))) | (refine WD_call (by exact rfl) ?_; first | (refine WD_c0 (chkA_rm _) ?_)) | ((refine WD_tf (by exact rfl) (by exact rfl) ?_ ?_) <;> (intro hb; (fail_if_success (with_reducible injection hb)); rw [hb]; (try simp only [List.length_map] at hb))) | (((with_reducible apply gC2); exact rfl) <;> (intro hb; rw [hb]))))
  · exact gE (.inr rfl) rfl (congrArg vI (by unfold chkL; rw [if_pos (by simpa using hb)])) trivial
  · exact gE (.inr rfl) rfl (congrArg vI (by unfold chkL; rw [if_neg (by simp at *; assumption), if_pos (by simp at hb; omega)])) trivial
  have hA : chkA all = 0 := by simp at *; assumption
  have h60 : ¬ 60 < l.length := by simp at hb; omega
  (refine WA_forV (l.length) [20] [] (fun k => [(20, vI k)]) (fun k => []) (fun k => linsOk all none l = linsOk all (prevL l k) (l.drop k)) ?h0 ?_)
  case h0 => rfl
  intro k hk hI
  have hkl := @lin_step all l k hA h60
  have hp := @prevL_pos Lin _ l k
  have hp0 := @prevL_zero Lin _ l k
  (repeat' (first | (refine nx ?_) | (refine WD_unk (by exact rfl) ?_; ((refine WD_tf (by exact rfl) (by exact rfl) ?_ ?_) <;> (intro hb; (fail_if_success (with_reducible injection hb)); rw [hb]; (try simp only [List.length_map] at hb)))) | (refine WD_call (by exact rfl) ?_; first | (refine WD_c0 (findA_rm _ _ ?y0) ?_; (case y0 => exact hyp)) | (refine WD_c0 (asset_rm _ _) ?_) | (refine WD_c0 (native_rm _ _) ?_) | (refine WD_c0 (okA_rm _) ?_) | (refine WD_c0 (bef_rm _ _ _ _) ?_)) | ((refine WD_tf (by exact rfl) (by exact rfl) ?_ ?_) <;> (intro hb; (fail_if_success (with_reducible injection hb)); rw [hb]; (try simp only [List.length_map] at hb))) | (((with_reducible apply gC2); exact rfl) <;> (intro hb; rw [hb]))))
  (all_goals try simp only [Bool.not_eq_true', Bool.not_eq_false', decide_eq_true_eq, decide_eq_false_iff_not, bne_iff_ne, bne_eq_false_iff_eq, beq_iff_eq, beq_eq_false_iff_ne] at *
   all_goals first
    | (refine gE (.inr rfl) rfl (congrArg vI ((hkl (by omega) hI).1 ?_).symm) trivial
       rw [Bool.eq_false_iff]
       intro hc
       rw [lin_iff] at hc
       by_cases h : 0 < k
       · rw [hp h] at hc; simp only [befO] at hc; first | omega | simp_all
       · rw [hp0 h] at hc; first | omega | simp_all)
    | (refine ⟨by omega, (hkl (by omega) hI).2 ?_, ?_⟩
       rotate_left
       (exact LeV [])
       rw [lin_iff]
       by_cases h : 0 < k
       · rw [hp h]; simp only [befO]; repeat' (first | assumption | omega | (refine ⟨?_, ?_⟩) | (simp_all; done))
       · rw [hp0 h]; repeat' (first | assumption | omega | rfl | (refine ⟨?_, ?_⟩) | (simp_all; done)))
    | exact gE (.inr rfl) rfl (congrArg vI (lin_end hA h60 (by omega) hI).symm) trivial)
theorem idxL_rm (l : List Lin) (a : Int) (u : ByteArray) (i : Int) (hl : l.length ≤ 1000) : FnM Tryz.prog 71 [] [lL l, vI a, aT u i] (vI (idxL l a u i)) [] := by
  refine FnM.of htb Tryz.func71 rfl rfl rfl rfl rfl fun cx hN h0 => ?_
  (repeat' (first | (refine nx ?_) | (refine WD_unk (by exact rfl) ?_; ((refine WD_tf (by exact rfl) (by exact rfl) ?_ ?_) <;> (intro hb; (fail_if_success (with_reducible injection hb)); rw [hb]; (try simp only [List.length_map] at hb)))) | ((refine WD_tf (by exact rfl) (by exact rfl) ?_ ?_) <;> (intro hb; (fail_if_success (with_reducible injection hb)); rw [hb]; (try simp only [List.length_map] at hb))) | (((with_reducible apply gC2); exact rfl) <;> (intro hb; rw [hb]))))
  ((refine WA_forV (l.length) [11] [] (fun k => [(11, vI k)]) (fun k => []) (fun k => idxL l a u i = idxF (hasKey a u i) k (l.drop k)) ?h0 ?_); (case h0 => rfl); intro k hk hI; (repeat' (first | ((with_reducible apply WD_id); first | (refine WD_eq (eqT_step rfl rfl rfl) ?_)) | (refine nx ?_) | (refine WD_unk (by exact rfl) ?_; ((refine WD_tf (by exact rfl) (by exact rfl) ?_ ?_) <;> (intro hb; (fail_if_success (with_reducible injection hb)); rw [hb]; (try simp only [List.length_map] at hb)))) | ((refine WD_tf (by exact rfl) (by exact rfl) ?_ ?_) <;> (intro hb; (fail_if_success (with_reducible injection hb)); rw [hb]; (try simp only [List.length_map] at hb))) | (((with_reducible apply gC2); exact rfl) <;> (intro hb; rw [hb])))); (all_goals first | exact gE (.inr rfl) rfl (congrArg vI (idx_hit hI (by simp only [decide_eq_true_eq, decide_eq_false_iff_not] at *; omega) (by first | with_reducible assumption | (simp only [decide_eq_true_eq, decide_eq_false_iff_not, hasKey] at *; simp_all))).symm) trivial | (refine ⟨(by simp only [decide_eq_true_eq, decide_eq_false_iff_not] at *; omega), idx_miss hI (by simp only [decide_eq_true_eq, decide_eq_false_iff_not] at *; omega) (by first | with_reducible assumption | (simp only [decide_eq_true_eq, decide_eq_false_iff_not, hasKey] at *; simp_all)), ?_⟩; (exact LeV [])) | exact gE (.inr rfl) rfl (congrArg vI (idx_end hI (by simp only [decide_eq_true_eq, decide_eq_false_iff_not] at *; omega)).symm) trivial))
theorem findL_rm (l : List Lin) (a : Int) (u : ByteArray) (i : Int) (hl : l.length ≤ 1000) : FnM Tryz.prog 83 [] [lL l, vI a, aT u i] (.tup [aL (findL l a u i).1, vB (findL l a u i).2]) [] := by
  refine FnM.of htb Tryz.func83 rfl rfl rfl rfl rfl fun cx hN h0 => ?_
  have hi := idxF_bd (hasKey a u i) l
  have hi2 : idxL l a u i = idxF (hasKey a u i) 0 l := rfl
  (repeat' (first | (refine nx ?_) | (refine WD_unk (by exact rfl) ?_; ((refine WD_tf (by exact rfl) (by exact rfl) ?_ ?_) <;> (intro hb; (fail_if_success (with_reducible injection hb)); rw [hb]; (try simp only [List.length_map] at hb)))) | (refine WD_call (by exact rfl) ?_; first | (refine WD_c0 (idxL_rm _ _ _ _ ?y0) ?_; (case y0 => exact hyp))) | ((refine WD_tf (by exact rfl) (by exact rfl) ?_ ?_) <;> (intro hb; (fail_if_success (with_reducible injection hb)); rw [hb]; (try simp only [List.length_map] at hb))) | (((with_reducible apply gC2); exact rfl) <;> (intro hb; rw [hb]))))
  · exact gE (.inr rfl) rfl (by rw [show findL l a u i = (nth l (idxL l a u i).toNat, true) from if_neg (by simp at *; omega)]; rfl) trivial
  · exact gE (.inr rfl) rfl (by rw [show findL l a u i = (⟨0, ⟨#[]⟩, 0, 0, 0⟩, false) from if_pos (by simp at *; omega)]; rfl) trivial
theorem rightG_rm (g : Led) (hl : g.lins.length ≤ 1000) (ha : g.accs.length ≤ 1000) : FnM Tryz.prog 84 [] [aG g] (vB (rightL g)) [] := by
  refine FnM.of htb Tryz.func84 rfl rfl rfl rfl rfl fun cx hN h0 => ?_
  (repeat' (first | (refine nx ?_) | (refine WD_unk (by exact rfl) ?_; ((refine WD_tf (by exact rfl) (by exact rfl) ?_ ?_) <;> (intro hb; (fail_if_success (with_reducible injection hb)); rw [hb]; (try simp only [List.length_map] at hb)))) | (refine WD_call (by exact rfl) ?_; first | (refine WD_c0 (chkL_rm _ _ ?y0 ?y1) ?_; (case y0 => exact hyp); (case y1 => exact hyp))) | ((refine WD_tf (by exact rfl) (by exact rfl) ?_ ?_) <;> (intro hb; (fail_if_success (with_reducible injection hb)); rw [hb]; (try simp only [List.length_map] at hb))) | (((with_reducible apply gC2); exact rfl) <;> (intro hb; rw [hb]))))
  exact gE (.inr rfl) rfl rfl trivial
end Go.Proofs.YtgebgpdoddjfhaaGreat
