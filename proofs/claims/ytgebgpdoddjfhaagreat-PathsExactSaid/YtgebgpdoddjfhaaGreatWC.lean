/- Contracts in the abstract view: copies of lists. -/
import Derived.Test.YtgebgpdoddjfhaaGreatAmZ
import Derived.Test.YtgebgpdoddjfhaaGreatPW
namespace Go.Proofs.YtgebgpdoddjfhaaGreat
set_option linter.unusedSimpArgs false
set_option linter.unusedVariables false
set_option linter.unnecessarySimpa false
set_option linter.unusedSectionVars false
set_option maxRecDepth 100000
open Go Go.RowKit Go.Am Go.Proofs.Grow

theorem cloneA_pm (l : List Acc) (hl : l.length ≤ 1000) : FnM Tryz.prog 121 [] [lA l] (.own 50) [(50, .arr 63 3 (l.map rA))] := by
  cases l with
  | nil =>
    refine FnM.nil_cases 0 rfl ?_ fun ad cap => ?_
    all_goals
      refine FnM.of htb Tryz.func121 rfl rfl rfl rfl rfl fun cx hN h0 => ?_
      (repeat' (first | (refine nx ?_) | (refine WD_unk (by exact rfl) ?_; ((refine WD_tf (by exact rfl) (by exact rfl) ?_ ?_) <;> (intro hb; (fail_if_success (with_reducible injection hb)); rw [hb]; (try simp only [List.length_map] at hb)))) | ((refine WD_tf (by exact rfl) (by exact rfl) ?_ ?_) <;> (intro hb; (fail_if_success (with_reducible injection hb)); rw [hb]; (try simp only [List.length_map] at hb))) | (((with_reducible apply gC2); exact rfl) <;> (intro hb; rw [hb]))))
    · exact gL (.inr rfl) (Le_nilT 50 2 63 3 rfl rfl) rfl rfl ⟨rfl, trivial⟩
    · refine gL (.inr rfl) (T' := [(2, .own 50)]) (M' := [(50, .arr 63 3 [])]) ?_ rfl rfl ⟨rfl, trivial⟩
      (exact LeV [(50, 7)])
  | cons x r =>
    refine FnM.of htb Tryz.func121 rfl rfl rfl rfl rfl fun cx hN h0 => ?_
    (repeat' (first | (refine nx ?_) | (refine WD_unk (by exact rfl) ?_; ((refine WD_tf (by exact rfl) (by exact rfl) ?_ ?_) <;> (intro hb; (fail_if_success (with_reducible injection hb)); rw [hb]; (try simp only [List.length_map] at hb)))) | ((refine WD_tf (by exact rfl) (by exact rfl) ?_ ?_) <;> (intro hb; (fail_if_success (with_reducible injection hb)); rw [hb]; (try simp only [List.length_map] at hb))) | (((with_reducible apply gC2); exact rfl) <;> (intro hb; rw [hb]))))
    refine gL (.inr rfl) (T' := [(2, .own 50)]) (M' := [(50, .arr 63 3 ((x :: r).map rA))]) ?_ rfl rfl ⟨rfl, trivial⟩
    (exact LeV [(50, 7)])
theorem cloneL_pm (l : List Lin) (hl : l.length ≤ 1000) : FnM Tryz.prog 122 [] [lL l] (.own 51) [(51, .arr 69 5 (l.map rL))] := by
  cases l with
  | nil =>
    refine FnM.nil_cases 0 rfl ?_ fun ad cap => ?_
    all_goals
      refine FnM.of htb Tryz.func122 rfl rfl rfl rfl rfl fun cx hN h0 => ?_
      (repeat' (first | (refine nx ?_) | (refine WD_unk (by exact rfl) ?_; ((refine WD_tf (by exact rfl) (by exact rfl) ?_ ?_) <;> (intro hb; (fail_if_success (with_reducible injection hb)); rw [hb]; (try simp only [List.length_map] at hb)))) | ((refine WD_tf (by exact rfl) (by exact rfl) ?_ ?_) <;> (intro hb; (fail_if_success (with_reducible injection hb)); rw [hb]; (try simp only [List.length_map] at hb))) | (((with_reducible apply gC2); exact rfl) <;> (intro hb; rw [hb]))))
    · exact gL (.inr rfl) (Le_nilT 51 2 69 5 rfl rfl) rfl rfl ⟨rfl, trivial⟩
    · refine gL (.inr rfl) (T' := [(2, .own 51)]) (M' := [(51, .arr 69 5 [])]) ?_ rfl rfl ⟨rfl, trivial⟩
      (exact LeV [(51, 7)])
  | cons x r =>
    refine FnM.of htb Tryz.func122 rfl rfl rfl rfl rfl fun cx hN h0 => ?_
    (repeat' (first | (refine nx ?_) | (refine WD_unk (by exact rfl) ?_; ((refine WD_tf (by exact rfl) (by exact rfl) ?_ ?_) <;> (intro hb; (fail_if_success (with_reducible injection hb)); rw [hb]; (try simp only [List.length_map] at hb)))) | ((refine WD_tf (by exact rfl) (by exact rfl) ?_ ?_) <;> (intro hb; (fail_if_success (with_reducible injection hb)); rw [hb]; (try simp only [List.length_map] at hb))) | (((with_reducible apply gC2); exact rfl) <;> (intro hb; rw [hb]))))
    refine gL (.inr rfl) (T' := [(2, .own 51)]) (M' := [(51, .arr 69 5 ((x :: r).map rL))]) ?_ rfl rfl ⟨rfl, trivial⟩
    (exact LeV [(51, 7)])
theorem cloneO_pm (l : List Off) (hl : l.length ≤ 1000) : FnM Tryz.prog 123 [] [lO l] (.own 52) [(52, .arr 76 9 (l.map rO))] := by
  cases l with
  | nil =>
    refine FnM.nil_cases 0 rfl ?_ fun ad cap => ?_
    all_goals
      refine FnM.of htb Tryz.func123 rfl rfl rfl rfl rfl fun cx hN h0 => ?_
      (repeat' (first | (refine nx ?_) | (refine WD_unk (by exact rfl) ?_; ((refine WD_tf (by exact rfl) (by exact rfl) ?_ ?_) <;> (intro hb; (fail_if_success (with_reducible injection hb)); rw [hb]; (try simp only [List.length_map] at hb)))) | ((refine WD_tf (by exact rfl) (by exact rfl) ?_ ?_) <;> (intro hb; (fail_if_success (with_reducible injection hb)); rw [hb]; (try simp only [List.length_map] at hb))) | (((with_reducible apply gC2); exact rfl) <;> (intro hb; rw [hb]))))
    · exact gL (.inr rfl) (Le_nilT 52 2 76 9 rfl rfl) rfl rfl ⟨rfl, trivial⟩
    · refine gL (.inr rfl) (T' := [(2, .own 52)]) (M' := [(52, .arr 76 9 [])]) ?_ rfl rfl ⟨rfl, trivial⟩
      (exact LeV [(52, 7)])
  | cons x r =>
    refine FnM.of htb Tryz.func123 rfl rfl rfl rfl rfl fun cx hN h0 => ?_
    (repeat' (first | (refine nx ?_) | (refine WD_unk (by exact rfl) ?_; ((refine WD_tf (by exact rfl) (by exact rfl) ?_ ?_) <;> (intro hb; (fail_if_success (with_reducible injection hb)); rw [hb]; (try simp only [List.length_map] at hb)))) | ((refine WD_tf (by exact rfl) (by exact rfl) ?_ ?_) <;> (intro hb; (fail_if_success (with_reducible injection hb)); rw [hb]; (try simp only [List.length_map] at hb))) | (((with_reducible apply gC2); exact rfl) <;> (intro hb; rw [hb]))))
    refine gL (.inr rfl) (T' := [(2, .own 52)]) (M' := [(52, .arr 76 9 ((x :: r).map rO))]) ?_ rfl rfl ⟨rfl, trivial⟩
    (exact LeV [(52, 7)])
end Go.Proofs.YtgebgpdoddjfhaaGreat
