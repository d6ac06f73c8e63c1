/- Contracts of the program's functions on lines: what an account holds, and how this is changed. -/
import Derived.Test.YtgebgpdoddjfhaaGreatAmZ
import Derived.Test.YtgebgpdoddjfhaaGreatWL0
import Derived.Test.YtgebgpdoddjfhaaGreatWC
import Derived.Test.YtgebgpdoddjfhaaGreatPlainM
namespace Go.Proofs.YtgebgpdoddjfhaaGreat
set_option linter.unusedSimpArgs false
set_option linter.unusedVariables false
set_option linter.unnecessarySimpa false
set_option linter.unusedSectionVars false
set_option maxRecDepth 100000
open Go Go.RowKit Go.Am Go.Proofs.Grow

theorem findA_bd {l : List Acc} (h : RightA l) (a : Int) : 0 ≤ (findA l a).1.bal ∧ (findA l a).1.bal ≤ 1000000000000 := by
  rcases findA_cases l a with ⟨_, e, _⟩ | ⟨j, hj, _, e, _⟩
  · rw [e]; exact ⟨by decide, by decide⟩
  · rw [e]; exact (h.2.1 _ (nth_mem l j hj)).2.1
theorem findL_bd {g : Led} (h : RightG g) (a : Int) (u : ByteArray) (i : Int) : 0 ≤ (findL g.lins a u i).1.bal ∧ (findL g.lins a u i).1.bal ≤ (findL g.lins a u i).1.lim ∧ (findL g.lins a u i).1.lim ≤ 1000000000000 := by
  rcases findL_cases g.lins a u i with ⟨_, e⟩ | ⟨j, hj, _, e, _⟩
  · rw [e]; exact ⟨by decide, by decide, by decide⟩
  · rw [e]
    have := h.good _ (nth_mem _ j hj)
    unfold GoodL at this
    dsimp only; omega
theorem look_pm (g : Led) (a : Int) (u : ByteArray) (i : Int) (hl : g.lins.length ≤ 1000) (ha : g.accs.length ≤ 1000) (hr : rightL g = true) : FnM Tryz.prog 90 [] [aG g, vI a, aT u i] (.tup [.agg [vI (lookF g a u i).1, vI (lookF g a u i).2.1], vB (lookF g a u i).2.2]) [] := by
  refine FnM.of htb Tryz.func90 rfl rfl rfl rfl rfl fun cx hN h0 => ?_
  have hg := rightL_iff.1 hr
  have b1 := findA_bd hg.accs a
  have b2 := findL_bd hg a u i
  (repeat' (first | (refine nx ?_) | (refine WD_unk (by exact rfl) ?_; ((refine WD_tf (by exact rfl) (by exact rfl) ?_ ?_) <;> (intro hb; (fail_if_success (with_reducible injection hb)); rw [hb]; (try simp only [List.length_map] at hb)))) | (refine WD_call (by exact rfl) ?_; first | (refine WD_c0 (findA_pm _ _ ?y0) ?_; (case y0 => exact hyp)) | (refine WD_c0 (asset_pm _ _) ?_) | (refine WD_c0 (native_pm _ _) ?_) | (refine WD_c0 (findL_pm _ _ _ _ ?y0) ?_; (case y0 => exact hyp))) | ((refine WD_tf (by exact rfl) (by exact rfl) ?_ ?_) <;> (intro hb; (fail_if_success (with_reducible injection hb)); rw [hb]; (try simp only [List.length_map] at hb))) | (((with_reducible apply gC2); exact rfl) <;> (intro hb; rw [hb]))))
  all_goals try simp only [Bool.not_eq_true', Bool.not_eq_false', decide_eq_true_eq, decide_eq_false_iff_not, bne_iff_ne, bne_eq_false_iff_eq, beq_iff_eq, beq_eq_false_iff_ne] at *
  all_goals refine gE (.inr rfl) rfl ?_ trivial
  all_goals simp_all [tupOf, lookF]
theorem room_pm (g : Led) (a : Int) (u : ByteArray) (i : Int) (hl : g.lins.length ≤ 1000) (ha : g.accs.length ≤ 1000) : FnM Tryz.prog 148 [] [aG g, vI a, aT u i] (vI (roomF g a u i)) [] := by
  refine FnM.of htb Tryz.func148 rfl rfl rfl rfl rfl fun cx hN h0 => ?_
  cases hr : rightL g with
  | true =>
    have hr2 : (!rightL g) = false := by simp [hr]
    (repeat' (first | (refine nx ?_) | (refine WD_unk (by exact rfl) ?_; ((refine WD_tf (by exact rfl) (by exact rfl) ?_ ?_) <;> (intro hb; (fail_if_success (with_reducible injection hb)); rw [hb]; (try simp only [List.length_map] at hb)))) | (refine WD_call (by exact rfl) ?_; first | (refine WD_c0 (rightG_pm _ ?y0 ?y1) ?_; (case y0 => exact hyp); (case y1 => exact hyp)) | (refine WD_c0 (look_pm _ _ _ _ ?y0 ?y1 ?y2) ?_; (case y0 => exact hyp); (case y1 => exact hyp); (case y2 => exact hyp))) | ((refine WD_tf (by exact rfl) (by exact rfl) ?_ ?_) <;> (intro hb; (fail_if_success (with_reducible injection hb)); rw [hb]; (try simp only [List.length_map] at hb))) | (((with_reducible apply gC2); exact rfl) <;> (intro hb; rw [hb]))))
    exact gE (.inr rfl) rfl (by rw [show roomF g a u i = (lookF g a u i).2.1 from if_pos hr]; rfl) trivial
  | false =>
    have hr2 : (!rightL g) = true := by simp [hr]
    (repeat' (first | (refine nx ?_) | (refine WD_unk (by exact rfl) ?_; ((refine WD_tf (by exact rfl) (by exact rfl) ?_ ?_) <;> (intro hb; (fail_if_success (with_reducible injection hb)); rw [hb]; (try simp only [List.length_map] at hb)))) | (refine WD_call (by exact rfl) ?_; first | (refine WD_c0 (rightG_pm _ ?y0 ?y1) ?_; (case y0 => exact hyp); (case y1 => exact hyp)) | (refine WD_c0 (look_pm _ _ _ _ ?y0 ?y1 ?y2) ?_; (case y0 => exact hyp); (case y1 => exact hyp); (case y2 => exact hyp))) | ((refine WD_tf (by exact rfl) (by exact rfl) ?_ ?_) <;> (intro hb; (fail_if_success (with_reducible injection hb)); rw [hb]; (try simp only [List.length_map] at hb))) | (((with_reducible apply gC2); exact rfl) <;> (intro hb; rw [hb]))))
    exact gE (.inr rfl) rfl (by rw [show roomF g a u i = 0 from if_neg (by simp [hr])]; rfl) trivial
theorem held_pm (g : Led) (a : Int) (u : ByteArray) (i : Int) (hl : g.lins.length ≤ 1000) (ha : g.accs.length ≤ 1000) : FnM Tryz.prog 147 [] [aG g, vI a, aT u i] (vI (heldF g a u i)) [] := by
  refine FnM.of htb Tryz.func147 rfl rfl rfl rfl rfl fun cx hN h0 => ?_
  cases hr : rightL g with
  | true =>
    have hr2 : (!rightL g) = false := by simp [hr]
    (repeat' (first | (refine nx ?_) | (refine WD_unk (by exact rfl) ?_; ((refine WD_tf (by exact rfl) (by exact rfl) ?_ ?_) <;> (intro hb; (fail_if_success (with_reducible injection hb)); rw [hb]; (try simp only [List.length_map] at hb)))) | (refine WD_call (by exact rfl) ?_; first | (refine WD_c0 (rightG_pm _ ?y0 ?y1) ?_; (case y0 => exact hyp); (case y1 => exact hyp)) | (refine WD_c0 (look_pm _ _ _ _ ?y0 ?y1 ?y2) ?_; (case y0 => exact hyp); (case y1 => exact hyp); (case y2 => exact hyp))) | ((refine WD_tf (by exact rfl) (by exact rfl) ?_ ?_) <;> (intro hb; (fail_if_success (with_reducible injection hb)); rw [hb]; (try simp only [List.length_map] at hb))) | (((with_reducible apply gC2); exact rfl) <;> (intro hb; rw [hb]))))
    exact gE (.inr rfl) rfl (by rw [show heldF g a u i = (lookF g a u i).1 from if_pos hr]; rfl) trivial
  | false =>
    have hr2 : (!rightL g) = true := by simp [hr]
    (repeat' (first | (refine nx ?_) | (refine WD_unk (by exact rfl) ?_; ((refine WD_tf (by exact rfl) (by exact rfl) ?_ ?_) <;> (intro hb; (fail_if_success (with_reducible injection hb)); rw [hb]; (try simp only [List.length_map] at hb)))) | (refine WD_call (by exact rfl) ?_; first | (refine WD_c0 (rightG_pm _ ?y0 ?y1) ?_; (case y0 => exact hyp); (case y1 => exact hyp)) | (refine WD_c0 (look_pm _ _ _ _ ?y0 ?y1 ?y2) ?_; (case y0 => exact hyp); (case y1 => exact hyp); (case y2 => exact hyp))) | ((refine WD_tf (by exact rfl) (by exact rfl) ?_ ?_) <;> (intro hb; (fail_if_success (with_reducible injection hb)); rw [hb]; (try simp only [List.length_map] at hb))) | (((with_reducible apply gC2); exact rfl) <;> (intro hb; rw [hb]))))
    exact gE (.inr rfl) rfl (by rw [show heldF g a u i = 0 from if_neg (by simp [hr])]; rfl) trivial
theorem first_pm (g : Led) (a : Int) (u : ByteArray) (i n : Int) (hl : g.lins.length ≤ 1000) (ha : g.accs.length ≤ 1000) : FnM Tryz.prog 89 [] [aG g, vI a, aT u i, vI n] (vI (firstF g a u i n)) [] := by
  refine FnM.of htb Tryz.func89 rfl rfl rfl rfl rfl fun cx hN h0 => ?_
  (repeat' (first | (refine nx ?_) | (refine WD_unk (by exact rfl) ?_; ((refine WD_tf (by exact rfl) (by exact rfl) ?_ ?_) <;> (intro hb; (fail_if_success (with_reducible injection hb)); rw [hb]; (try simp only [List.length_map] at hb)))) | (refine WD_call (by exact rfl) ?_; first | (refine WD_c0 (findA_pm _ _ ?y0) ?_; (case y0 => exact hyp)) | (refine WD_c0 (rightG_pm _ ?y0 ?y1) ?_; (case y0 => exact hyp); (case y1 => exact hyp)) | (refine WD_c0 (asset_pm _ _) ?_) | (refine WD_c0 (okA_pm _) ?_)) | ((refine WD_tf (by exact rfl) (by exact rfl) ?_ ?_) <;> (intro hb; (fail_if_success (with_reducible injection hb)); rw [hb]; (try simp only [List.length_map] at hb))) | (((with_reducible apply gC2); exact rfl) <;> (intro hb; rw [hb]))))
  all_goals try simp only [Bool.not_eq_true', Bool.not_eq_false', decide_eq_true_eq, decide_eq_false_iff_not, bne_iff_ne, bne_eq_false_iff_eq, beq_iff_eq, beq_eq_false_iff_ne] at *
  all_goals refine gE (.inr rfl) rfl (congrArg vI ?_) trivial
  all_goals simp_all [firstF]
theorem copied_pm (g : Led) (hl : g.lins.length ≤ 1000) (ha : g.accs.length ≤ 1000) (ho : g.offs.length ≤ 1000) : FnM Tryz.prog 116 [] [aG g] (.agg [vI g.num, .own 50, .own 51, .own 52, vI g.nid, vI g.fees, vU g.link])
    [(50, .arr 63 3 (g.accs.map rA)), (51, .arr 69 5 (g.lins.map rL)), (52, .arr 76 9 (g.offs.map rO))] := by
  refine FnM.of htb Tryz.func116 rfl rfl rfl rfl rfl fun cx hN h0 => ?_
  (repeat' (first | (refine nx ?_) | (refine WD_unk (by exact rfl) ?_; ((refine WD_tf (by exact rfl) (by exact rfl) ?_ ?_) <;> (intro hb; (fail_if_success (with_reducible injection hb)); rw [hb]; (try simp only [List.length_map] at hb)))) | (refine WD_call (by exact rfl) ?_; first | (refine WD_cM (cloneA_pm _ ?y0) ?_; (case y0 => exact hyp)) | (refine WD_cM (cloneL_pm _ ?y0) ?_; (case y0 => exact hyp)) | (refine WD_cM (cloneO_pm _ ?y0) ?_; (case y0 => exact hyp))) | ((refine WD_tf (by exact rfl) (by exact rfl) ?_ ?_) <;> (intro hb; (fail_if_success (with_reducible injection hb)); rw [hb]; (try simp only [List.length_map] at hb))) | (((with_reducible apply gC2); exact rfl) <;> (intro hb; rw [hb]))))
  exact gE (.inr rfl) rfl rfl ⟨rfl, rfl, rfl, trivial⟩
theorem issF_app (u : ByteArray) (i : Int) (l : List Lin) (x : Lin) : ∀ s, issF u i s (l ++ [x]) = if eqT x.code x.iss u i = true then wrap64 (issF u i s l + x.bal) else issF u i s l := by
  induction l with
  | nil => intro s; rfl
  | cons y r ih => intro s; exact ih _
theorem issF_take (u : ByteArray) (i : Int) {l : List Lin} {k : Nat} (hk : k < l.length) : issF u i 0 (l.take (k + 1)) = if eqT (nth l k).code (nth l k).iss u i = true then IntKind.i64.wrap (issF u i 0 (l.take k) + (nth l k).bal) else issF u i 0 (l.take k) := by
  rw [List.take_succ_eq_append_getElem hk, issF_app, nth_getElem l k hk, IntWalk.i64_left]
end Go.Proofs.YtgebgpdoddjfhaaGreat
