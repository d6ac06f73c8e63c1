/- Contracts of the functions on accounts, of the program, in the abstract view: checking, finding. -/
import Derived.Test.YteppnjgobaggaaaGreatPW
namespace Go.Proofs.YteppnjgobaggaaaGreat
set_option linter.unusedSimpArgs false
set_option linter.unusedVariables false
set_option linter.unnecessarySimpa false
set_option linter.unusedSectionVars false
set_option maxRecDepth 100000
open Go Go.RowKit Go.Am Go.Proofs.Grow

theorem okId_m (n : Int) : FnM Tryz.prog 159 [] [vI n] (vB (okId n)) [] := by
  refine FnM.of htb Tryz.func159 rfl rfl rfl rfl rfl fun cx hN h0 => ?_
  (repeat' (first | ((with_reducible apply WD_id); first | (refine WD_sum ?_) | (refine WD_nxt htb (by exact rfl) ?_) | (refine WD_unk (by exact rfl) ?_; first | (refine WD_t (by exact rfl) (by exact rfl) (by exact known) fun hb => ?_; rw [hb]; clear hb) | (refine WD_f (by exact rfl) (by exact rfl) (by exact known) fun hb => ?_; rw [hb]; clear hb) | ((refine WD_tf (by exact rfl) (by exact rfl) ?_ ?_) <;> (intro hb; (fail_if_success (with_reducible injection hb)); rw [hb]; (try simp only [List.length_map] at hb)))) | (refine WD_idx htb ?_) | (refine WD_idxo htb ?_) | (refine WD_lde1 htb ?_) | (refine WD_lde htb ?_) | (refine WD_ste htb ?_) | (refine WD_ap htb ?_) | (refine WD_ap0 htb ?_) | (refine WD_nil htb ?_) | (refine WD_nilr htb ?_) | (refine WD_rem ?_) | (refine WD_quo ?_) | (refine WD_slc htb ?_) | (refine WD_ixa htb ?_) | (refine WD_ix1 htb ?_) | (refine WD_t (by exact rfl) (by exact rfl) (by exact known) fun hb => ?_; rw [hb]; clear hb) | (refine WD_f (by exact rfl) (by exact rfl) (by exact known) fun hb => ?_; rw [hb]; clear hb) | ((refine WD_tf (by exact rfl) (by exact rfl) ?_ ?_) <;> (intro hb; (fail_if_success (with_reducible injection hb)); rw [hb]; (try simp only [List.length_map] at hb)))) | (with_reducible apply WA_seq) | ((with_reducible apply gR hmix hN); exact (by kernel_rfl); (try dsimp only [List.append_eq, List.cons_append, List.nil_append])) | ((with_reducible apply WD_end); (first | exact no_draw | (intro _; kernel_rfl)); try simp only [thn, inB, List.length_map, List.cons_append, List.nil_append]) | ((with_reducible apply gCt); exact rfl; exact rfl) | ((with_reducible apply gCf); exact rfl; exact rfl) | ((with_reducible apply gCk); exact rfl; exact known; intro hb; rw [hb]; clear hb) | ((with_reducible apply gCn); exact rfl; exact known; intro hb; rw [hb]; clear hb) | (((with_reducible apply gC2); exact rfl) <;> (intro hb; rw [hb])) | (with_reducible apply WA_block) | ((with_reducible first | apply WA_skip | apply WA_ret | apply WA_exit | apply WA_label); try simp only [thn, inB, List.length_map, List.cons_append, List.nil_append])))
  all_goals refine gE (.inr rfl) rfl ?_ trivial
  all_goals simp_all [tupOf, okId]
  all_goals omega

set_option maxHeartbeats 2000000 in
theorem chkA_pm (l : List Acc) : FnM Tryz.prog 122 [] [lA l] (vI (chkA l)) [] := by
  refine FnM.of htb Tryz.func122 rfl rfl rfl rfl rfl fun cx hN h0 => ?_
  (repeat' (first | ((with_reducible apply WD_id); first | (refine WD_sum ?_) | (refine WD_nxt htb (by exact rfl) ?_) | (refine WD_unk (by exact rfl) ?_; first | (refine WD_t (by exact rfl) (by exact rfl) (by exact known) fun hb => ?_; rw [hb]; clear hb) | (refine WD_f (by exact rfl) (by exact rfl) (by exact known) fun hb => ?_; rw [hb]; clear hb) | ((refine WD_tf (by exact rfl) (by exact rfl) ?_ ?_) <;> (intro hb; (fail_if_success (with_reducible injection hb)); rw [hb]; (try simp only [List.length_map] at hb)))) | (refine WD_call (by exact rfl) ?_; first | (refine WD_c0 (okId_m _) ?_) | (refine WD_c0 (okA_pm _) ?_)) | (refine WD_idx htb ?_) | (refine WD_idxo htb ?_) | (refine WD_lde1 htb ?_) | (refine WD_lde htb ?_) | (refine WD_ste htb ?_) | (refine WD_ap htb ?_) | (refine WD_ap0 htb ?_) | (refine WD_nil htb ?_) | (refine WD_nilr htb ?_) | (refine WD_rem ?_) | (refine WD_quo ?_) | (refine WD_slc htb ?_) | (refine WD_ixa htb ?_) | (refine WD_ix1 htb ?_) | (refine WD_t (by exact rfl) (by exact rfl) (by exact known) fun hb => ?_; rw [hb]; clear hb) | (refine WD_f (by exact rfl) (by exact rfl) (by exact known) fun hb => ?_; rw [hb]; clear hb) | ((refine WD_tf (by exact rfl) (by exact rfl) ?_ ?_) <;> (intro hb; (fail_if_success (with_reducible injection hb)); rw [hb]; (try simp only [List.length_map] at hb)))) | (with_reducible apply WA_seq) | ((with_reducible apply gR hmix hN); exact (by kernel_rfl); (try dsimp only [List.append_eq, List.cons_append, List.nil_append])) | ((with_reducible apply WD_end); (first | exact no_draw | (intro _; kernel_rfl)); try simp only [thn, inB, List.length_map, List.cons_append, List.nil_append]) | ((with_reducible apply gCt); exact rfl; exact rfl) | ((with_reducible apply gCf); exact rfl; exact rfl) | ((with_reducible apply gCk); exact rfl; exact known; intro hb; rw [hb]; clear hb) | ((with_reducible apply gCn); exact rfl; exact known; intro hb; rw [hb]; clear hb) | (((with_reducible apply gC2); exact rfl) <;> (intro hb; rw [hb])) | (with_reducible apply WA_block) | ((with_reducible first | apply WA_skip | apply WA_ret | apply WA_exit | apply WA_label); try simp only [thn, inB, List.length_map, List.cons_append, List.nil_append])))
  · refine gE (.inr rfl) rfl ?_ trivial
    have : 20 < l.length := by simp at hb; omega
    simp [tupOf, chkA, this]
  have h20 : ¬ 20 < l.length := by simp at hb; omega
  (refine WA_forV (l.length) [10] [] (fun k => [(10, vI k)]) (fun k => []) (fun k => accsOk none l = accsOk (prevId l k) (l.drop k)) ?h0 ?_)
  case h0 => rfl
  intro k hk hI
  have hkl := @chk_step l k h20
  have hp : 0 < k → prevId l k = some (nth l ((k : Int) - 1).toNat).id := fun h => by
    rw [show ((k : Int) - 1).toNat = k - 1 by omega]; simp [prevId]; omega
  have hp0 : ¬ 0 < k → prevId l k = none := fun h => by simp [prevId]; omega
  (repeat' (first | ((with_reducible apply WD_id); first | (refine WD_sum ?_) | (refine WD_nxt htb (by exact rfl) ?_) | (refine WD_unk (by exact rfl) ?_; first | (refine WD_t (by exact rfl) (by exact rfl) (by exact known) fun hb => ?_; rw [hb]; clear hb) | (refine WD_f (by exact rfl) (by exact rfl) (by exact known) fun hb => ?_; rw [hb]; clear hb) | ((refine WD_tf (by exact rfl) (by exact rfl) ?_ ?_) <;> (intro hb; (fail_if_success (with_reducible injection hb)); rw [hb]; (try simp only [List.length_map] at hb)))) | (refine WD_call (by exact rfl) ?_; first | (refine WD_c0 (okId_m _) ?_) | (refine WD_c0 (okA_pm _) ?_)) | (refine WD_idx htb ?_) | (refine WD_idxo htb ?_) | (refine WD_lde1 htb ?_) | (refine WD_lde htb ?_) | (refine WD_ste htb ?_) | (refine WD_ap htb ?_) | (refine WD_ap0 htb ?_) | (refine WD_nil htb ?_) | (refine WD_nilr htb ?_) | (refine WD_rem ?_) | (refine WD_quo ?_) | (refine WD_slc htb ?_) | (refine WD_ixa htb ?_) | (refine WD_ix1 htb ?_) | (refine WD_t (by exact rfl) (by exact rfl) (by exact known) fun hb => ?_; rw [hb]; clear hb) | (refine WD_f (by exact rfl) (by exact rfl) (by exact known) fun hb => ?_; rw [hb]; clear hb) | ((refine WD_tf (by exact rfl) (by exact rfl) ?_ ?_) <;> (intro hb; (fail_if_success (with_reducible injection hb)); rw [hb]; (try simp only [List.length_map] at hb)))) | (with_reducible apply WA_seq) | ((with_reducible apply gR hmix hN); exact (by kernel_rfl); (try dsimp only [List.append_eq, List.cons_append, List.nil_append])) | ((with_reducible apply WD_end); (first | exact no_draw | (intro _; kernel_rfl)); try simp only [thn, inB, List.length_map, List.cons_append, List.nil_append]) | ((with_reducible apply gCt); exact rfl; exact rfl) | ((with_reducible apply gCf); exact rfl; exact rfl) | ((with_reducible apply gCk); exact rfl; exact known; intro hb; rw [hb]; clear hb) | ((with_reducible apply gCn); exact rfl; exact known; intro hb; rw [hb]; clear hb) | (((with_reducible apply gC2); exact rfl) <;> (intro hb; rw [hb])) | (with_reducible apply WA_block) | ((with_reducible first | apply WA_skip | apply WA_ret | apply WA_exit | apply WA_label); try simp only [thn, inB, List.length_map, List.cons_append, List.nil_append])))
  all_goals try simp only [Bool.not_eq_true', Bool.not_eq_false', decide_eq_true_eq, decide_eq_false_iff_not, bne_iff_ne, bne_eq_false_iff_eq, beq_iff_eq, beq_eq_false_iff_ne] at *
  all_goals try (
    refine gE (.inr rfl) rfl ?_ trivial
    have bad : accOk (prevId l k) (nth l k) = false := by
      rw [Bool.eq_false_iff]
      intro hc
      rw [acc_iff] at hc
      by_cases h : 0 < k
      · rw [hp h] at hc; simp only [ltO, decide_eq_true_eq] at hc; first | omega | simp_all
      · rw [hp0 h] at hc; first | omega | simp_all
    exact congrArg vI ((hkl (by omega) hI).1 bad).symm)
  all_goals first
    | (refine ⟨by omega, (hkl (by omega) hI).2 ?_, ?_⟩
       rotate_left
       (exact LeV [])
       rw [acc_iff]
       by_cases h : 0 < k
       · rw [hp h]; simp only [ltO, decide_eq_true_eq]; exact ⟨by assumption, by omega, by assumption, by omega, by omega⟩
       · rw [hp0 h]; exact ⟨by assumption, rfl, by assumption, by omega, by omega⟩)
    | exact gE (.inr rfl) rfl (congrArg vI (chk_end h20 (by omega) hI).symm) trivial
end Go.Proofs.YteppnjgobaggaaaGreat
