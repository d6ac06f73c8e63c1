/- Contracts of the reference's functions on lines and offers: what is held, checking. -/
import Derived.Test.YtgebgpdoddjfhaaGreatAmZ
import Derived.Test.YtgebgpdoddjfhaaGreatWR1
namespace Go.Proofs.YtgebgpdoddjfhaaGreat
set_option linter.unusedSimpArgs false
set_option linter.unusedVariables false
set_option linter.unnecessarySimpa false
set_option linter.unusedSectionVars false
set_option maxRecDepth 100000
open Go Go.RowKit Go.Am Go.Proofs.Grow

theorem held_rm (g : Led) (a : Int) (u : ByteArray) (i : Int) (hl : g.lins.length ≤ 1000) (ha : g.accs.length ≤ 1000) : FnM Tryz.prog 58 [] [aG g, vI a, aT u i] (vI (heldF g a u i)) [] := by
  refine FnM.of htb Tryz.func58 rfl rfl rfl rfl rfl fun cx hN h0 => ?_
  (repeat' (first | (refine nx ?_) | (refine WD_unk (by exact rfl) ?_; ((refine WD_tf (by exact rfl) (by exact rfl) ?_ ?_) <;> (intro hb; (fail_if_success (with_reducible injection hb)); rw [hb]; (try simp only [List.length_map] at hb)))) | (refine WD_call (by exact rfl) ?_; first | (refine WD_c0 (findA_rm _ _ ?y0) ?_; (case y0 => exact hyp)) | (refine WD_c0 (rightG_rm _ ?y0 ?y1) ?_; (case y0 => exact hyp); (case y1 => exact hyp)) | (refine WD_c0 (asset_rm _ _) ?_) | (refine WD_c0 (native_rm _ _) ?_) | (refine WD_c0 (findL_rm _ _ _ _ ?y0) ?_; (case y0 => exact hyp))) | ((refine WD_tf (by exact rfl) (by exact rfl) ?_ ?_) <;> (intro hb; (fail_if_success (with_reducible injection hb)); rw [hb]; (try simp only [List.length_map] at hb))) | (((with_reducible apply gC2); exact rfl) <;> (intro hb; rw [hb]))))
  all_goals try simp only [Bool.not_eq_true', Bool.not_eq_false', decide_eq_true_eq, decide_eq_false_iff_not, bne_iff_ne, bne_eq_false_iff_eq, beq_iff_eq, beq_eq_false_iff_ne] at *
  all_goals refine gE (.inr rfl) rfl (congrArg vI ?_) trivial
  all_goals simp_all [heldF, lookF]
theorem holds_rm (g : Led) (a : Int) (u : ByteArray) (i : Int) (hl : g.lins.length ≤ 1000) : FnM Tryz.prog 57 [] [aG g, vI a, aT u i] (vB (holdsF g a u i)) [] := by
  refine FnM.of htb Tryz.func57 rfl rfl rfl rfl rfl fun cx hN h0 => ?_
  (repeat' (first | (refine nx ?_) | (refine WD_unk (by exact rfl) ?_; ((refine WD_tf (by exact rfl) (by exact rfl) ?_ ?_) <;> (intro hb; (fail_if_success (with_reducible injection hb)); rw [hb]; (try simp only [List.length_map] at hb)))) | (refine WD_call (by exact rfl) ?_; first | (refine WD_c0 (findL_rm _ _ _ _ ?y0) ?_; (case y0 => exact hyp)) | (refine WD_c0 (native_rm _ _) ?_)) | ((refine WD_tf (by exact rfl) (by exact rfl) ?_ ?_) <;> (intro hb; (fail_if_success (with_reducible injection hb)); rw [hb]; (try simp only [List.length_map] at hb))) | (((with_reducible apply gC2); exact rfl) <;> (intro hb; rw [hb]))))
  all_goals try simp only [Bool.not_eq_true', Bool.not_eq_false', decide_eq_true_eq, decide_eq_false_iff_not, bne_iff_ne, bne_eq_false_iff_eq, beq_iff_eq, beq_eq_false_iff_ne] at *
  all_goals refine gE (.inr rfl) rfl (congrArg vB ?_) trivial
  all_goals simp [holdsF, *]
set_option maxHeartbeats 8000000 in
theorem chkO_rm (g : Led) (hl : g.lins.length ≤ 1000) (ha : g.accs.length ≤ 1000) (ho : g.offs.length ≤ 1000) : FnM Tryz.prog 41 [] [aG g] (vI (chkO g)) [] := by
  refine FnM.of htb Tryz.func41 rfl rfl rfl rfl rfl fun cx hN h0 => ?_
  (repeat' (first | (refine nx ?_) | (refine WD_unk (by exact rfl) ?_; ((refine WD_tf (by exact rfl) (by exact rfl) ?_ ?_) <;> (intro hb; (fail_if_success (with_reducible injection hb)); rw [hb]; (try simp only [List.length_map] at hb)))) | (refine WD_call (by exact rfl) ?_; first | (refine WD_c0 (chkL_rm _ _ ?y0 ?y1) ?_; (case y0 => exact hyp); (case y1 => exact hyp)) | (refine WD_c0 (okA_rm _) ?_)) | ((refine WD_tf (by exact rfl) (by exact rfl) ?_ ?_) <;> (intro hb; (fail_if_success (with_reducible injection hb)); rw [hb]; (try simp only [List.length_map] at hb))) | (((with_reducible apply gC2); exact rfl) <;> (intro hb; rw [hb]))))
  · exact gE (.inr rfl) rfl (congrArg vI (by unfold chkO; rw [if_pos (by simpa using hb)])) trivial
  · exact gE (.inr rfl) rfl (congrArg vI (by unfold chkO; rw [if_neg (by simp at *; assumption), if_pos (by simp at hb; omega)])) trivial
  all_goals
    have hL : chkL g.lins g.accs = 0 := by simp at *; assumption
    have h40 : ¬ 40 < g.offs.length := by simp at *; omega
  all_goals try (
    have hH : headOk g = false := by
      rw [Bool.eq_false_iff, Ne, head_iff]
      try simp only [Bool.not_eq_true', Bool.not_eq_false', decide_eq_true_eq, decide_eq_false_iff_not, bne_iff_ne, bne_eq_false_iff_eq, beq_iff_eq, beq_eq_false_iff_ne] at *
      first | omega | simp_all
    exact gE (.inr rfl) rfl (congrArg vI (head_bad hL h40 hH).symm) trivial)
  have hH : headOk g = true := by
    rw [head_iff]
    try simp only [Bool.not_eq_true', Bool.not_eq_false', decide_eq_true_eq, decide_eq_false_iff_not, bne_iff_ne, bne_eq_false_iff_eq, beq_iff_eq, beq_eq_false_iff_ne] at *
    refine ⟨?_, ?_, ?_, ?_, ?_⟩ <;> first | omega | assumption
  (refine WA_forV (g.offs.length) [49] [] (fun k => [(49, vI k)]) (fun k => []) (fun k => offsOk g none g.offs = offsOk g (prevL g.offs k) (g.offs.drop k)) ?h0 ?_)
  case h0 => rfl
  intro k hk hI
  have hkl := @off_step g k hL h40 hH
  have hp := @prevL_pos Off _ g.offs k
  have hp0 := @prevL_zero Off _ g.offs k
  (repeat' (first | ((with_reducible apply WD_id); first | (refine WD_eq (eqT_step rfl rfl rfl) ?_)) | (refine nx ?_) | (refine WD_unk (by exact rfl) ?_; ((refine WD_tf (by exact rfl) (by exact rfl) ?_ ?_) <;> (intro hb; (fail_if_success (with_reducible injection hb)); rw [hb]; (try simp only [List.length_map] at hb)))) | (refine WD_call (by exact rfl) ?_; first | (refine WD_c0 (findA_rm _ _ ?y0) ?_; (case y0 => exact hyp)) | (refine WD_c0 (red_rm _ _) ?_) | (refine WD_c0 (asset_rm _ _) ?_) | (refine WD_c0 (okA_rm _) ?_)) | ((refine WD_tf (by exact rfl) (by exact rfl) ?_ ?_) <;> (intro hb; (fail_if_success (with_reducible injection hb)); rw [hb]; (try simp only [List.length_map] at hb))) | (((with_reducible apply gC2); exact rfl) <;> (intro hb; rw [hb]))))
  (all_goals try simp only [Bool.not_eq_true', Bool.not_eq_false', decide_eq_true_eq, decide_eq_false_iff_not, bne_iff_ne, bne_eq_false_iff_eq, beq_iff_eq, beq_eq_false_iff_ne] at *
   all_goals first
    | (refine gE (.inr rfl) rfl (congrArg vI ((hkl (by omega) hI).1 ?_).symm) trivial
       rw [Bool.eq_false_iff]
       intro hc
       rw [off_iff] at hc
       by_cases h : 0 < k
       · rw [hp h] at hc; simp only [leP, decide_eq_false_iff_not, Int.not_le] at hc; first | omega | simp_all
       · rw [hp0 h] at hc; first | omega | simp_all)
    | (refine ⟨by omega, (hkl (by omega) hI).2 ?_, ?_⟩
       rotate_left
       (exact LeV [])
       rw [off_iff]
       by_cases h : 0 < k
       · rw [hp h]; simp only [leP, decide_eq_false_iff_not, Int.not_le]; repeat' (first | assumption | omega | (refine ⟨?_, ?_⟩) | (simp_all; done))
       · rw [hp0 h]; repeat' (first | assumption | omega | rfl | (refine ⟨?_, ?_⟩) | (simp_all; done)))
    | exact gE (.inr rfl) rfl (congrArg vI (off_end hL h40 hH (by omega) hI).symm) trivial)
end Go.Proofs.YtgebgpdoddjfhaaGreat
