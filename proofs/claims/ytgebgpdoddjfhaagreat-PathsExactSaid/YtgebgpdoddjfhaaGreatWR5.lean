/- Contracts of the reference's functions: rooms, sums, comparing. -/
import Derived.Test.YtgebgpdoddjfhaaGreatAmZ
import Derived.Test.YtgebgpdoddjfhaaGreatWR4
import Derived.Test.YtgebgpdoddjfhaaGreatWL1
namespace Go.Proofs.YtgebgpdoddjfhaaGreat
set_option linter.unusedSimpArgs false
set_option linter.unusedVariables false
set_option linter.unnecessarySimpa false
set_option linter.unusedSectionVars false
set_option maxRecDepth 100000
open Go Go.RowKit Go.Am Go.Proofs.Grow

theorem room_rm (g : Led) (a : Int) (u : ByteArray) (i : Int) (hl : g.lins.length ≤ 1000) (ha : g.accs.length ≤ 1000) : FnM Tryz.prog 134 [] [aG g, vI a, aT u i] (vI (roomF g a u i)) [] := by
  refine FnM.of htb Tryz.func134 rfl rfl rfl rfl rfl fun cx hN h0 => ?_
  cases hr : rightL g with
  | true =>
    have hr2 : (!rightL g) = false := by simp [hr]
    have hg := rightL_iff.1 hr
    have b1 := findA_bd hg.accs a
    have b2 := findL_bd hg a u i
    (repeat' (first | (refine nx ?_) | (refine WD_unk (by exact rfl) ?_; ((refine WD_tf (by exact rfl) (by exact rfl) ?_ ?_) <;> (intro hb; (fail_if_success (with_reducible injection hb)); rw [hb]; (try simp only [List.length_map] at hb)))) | (refine WD_call (by exact rfl) ?_; first | (refine WD_c0 (findA_rm _ _ ?y0) ?_; (case y0 => exact hyp)) | (refine WD_c0 (rightG_rm _ ?y0 ?y1) ?_; (case y0 => exact hyp); (case y1 => exact hyp)) | (refine WD_c0 (asset_rm _ _) ?_) | (refine WD_c0 (native_rm _ _) ?_) | (refine WD_c0 (findL_rm _ _ _ _ ?y0) ?_; (case y0 => exact hyp))) | ((refine WD_tf (by exact rfl) (by exact rfl) ?_ ?_) <;> (intro hb; (fail_if_success (with_reducible injection hb)); rw [hb]; (try simp only [List.length_map] at hb))) | (((with_reducible apply gC2); exact rfl) <;> (intro hb; rw [hb]))))
    all_goals try simp only [Bool.not_eq_true', Bool.not_eq_false', decide_eq_true_eq, decide_eq_false_iff_not, bne_iff_ne, bne_eq_false_iff_eq, beq_iff_eq, beq_eq_false_iff_ne] at *
    all_goals refine gE (.inr rfl) rfl (congrArg vI ?_) trivial
    all_goals simp_all [roomF, lookF]
  | false =>
    have hr2 : (!rightL g) = true := by simp [hr]
    have e : roomF g a u i = 0 := by unfold roomF; rw [if_neg (by simp [hr])]
    rw [e]
    (repeat' (first | (refine nx ?_) | (refine WD_unk (by exact rfl) ?_; ((refine WD_tf (by exact rfl) (by exact rfl) ?_ ?_) <;> (intro hb; (fail_if_success (with_reducible injection hb)); rw [hb]; (try simp only [List.length_map] at hb)))) | (refine WD_call (by exact rfl) ?_; first | (refine WD_c0 (findA_rm _ _ ?y0) ?_; (case y0 => exact hyp)) | (refine WD_c0 (rightG_rm _ ?y0 ?y1) ?_; (case y0 => exact hyp); (case y1 => exact hyp)) | (refine WD_c0 (asset_rm _ _) ?_) | (refine WD_c0 (native_rm _ _) ?_) | (refine WD_c0 (findL_rm _ _ _ _ ?y0) ?_; (case y0 => exact hyp))) | ((refine WD_tf (by exact rfl) (by exact rfl) ?_ ?_) <;> (intro hb; (fail_if_success (with_reducible injection hb)); rw [hb]; (try simp only [List.length_map] at hb))) | (((with_reducible apply gC2); exact rfl) <;> (intro hb; rw [hb]))))
    all_goals exact gE (.inr rfl) rfl rfl trivial
theorem tot_rm (l : List Acc) (hl : l.length ≤ 1000) : FnM Tryz.prog 28 [] [lA l] (vI (totA l)) [] := by
  refine FnM.of htb Tryz.func28 rfl rfl rfl rfl rfl fun cx hN h0 => ?_
  (repeat' (first | (refine nx ?_) | (refine WD_unk (by exact rfl) ?_; ((refine WD_tf (by exact rfl) (by exact rfl) ?_ ?_) <;> (intro hb; (fail_if_success (with_reducible injection hb)); rw [hb]; (try simp only [List.length_map] at hb)))) | (refine WD_call (by exact rfl) ?_; first | (refine WD_c0 (chkA_rm _) ?_)) | ((refine WD_tf (by exact rfl) (by exact rfl) ?_ ?_) <;> (intro hb; (fail_if_success (with_reducible injection hb)); rw [hb]; (try simp only [List.length_map] at hb))) | (((with_reducible apply gC2); exact rfl) <;> (intro hb; rw [hb]))))
  · exact gE (.inr rfl) rfl (by rw [show totA l = 0 by unfold totA; rw [if_neg (by simpa using hb)]]; rfl) trivial
  have h0 : chkA l = 0 := by simpa using hb
  (refine WA_forV (l.length) [11, 3] [] (fun k => [(11, vI k), (3, vI (wsumA 0 (l.take k)))]) (fun k => []) (fun k => True) ?h0 ?_)
  case h0 => trivial
  intro k hk _
  have hw : k < l.length → wsumA 0 (l.take (k + 1)) = IntKind.i64.wrap (wsumA 0 (l.take k) + (nth l k).bal) := wsum_take
  (repeat' (first | (refine nx ?_) | (refine WD_unk (by exact rfl) ?_; ((refine WD_tf (by exact rfl) (by exact rfl) ?_ ?_) <;> (intro hb; (fail_if_success (with_reducible injection hb)); rw [hb]; (try simp only [List.length_map] at hb)))) | (refine WD_call (by exact rfl) ?_; first | (refine WD_c0 (chkA_rm _) ?_)) | ((refine WD_tf (by exact rfl) (by exact rfl) ?_ ?_) <;> (intro hb; (fail_if_success (with_reducible injection hb)); rw [hb]; (try simp only [List.length_map] at hb))) | (((with_reducible apply gC2); exact rfl) <;> (intro hb; rw [hb]))))
  · have hk' : k < l.length := by simp at *; omega
    refine ⟨hk', trivial, ?_⟩
    rw [hw hk']
    (exact LeV [])
  · have hkl : k = l.length := by simp at *; omega
    exact gE (.inr rfl) rfl (by rw [show totA l = wsumA 0 (l.take k) by unfold totA; rw [if_pos h0, hkl, List.take_length, wsumA_right h0]]; rfl) trivial
theorem issG_app (u : ByteArray) (i : Int) (l : List Lin) (x : Lin) : ∀ s, issF u i s (l ++ [x]) = if eqT x.code x.iss u i = true then wrap64 (issF u i s l + x.bal) else issF u i s l := by
  induction l with
  | nil => intro s; rfl
  | cons y r ih => intro s; exact ih _
theorem issG_take (u : ByteArray) (i : Int) {l : List Lin} {k : Nat} (hk : k < l.length) : issF u i 0 (l.take (k + 1)) = if eqT (nth l k).code (nth l k).iss u i = true then IntKind.i64.wrap (issF u i 0 (l.take k) + (nth l k).bal) else issF u i 0 (l.take k) := by
  rw [List.take_succ_eq_append_getElem hk, issG_app, nth_getElem l k hk, IntWalk.i64_left]
theorem sameO_rm (g h : Led) (hl : g.lins.length ≤ 1000) (ha : g.accs.length ≤ 1000) (ho : g.offs.length ≤ 1000) : FnM Tryz.prog 17 [] [aG g, aG h] (vB (eqLed g h)) [] := by
  refine FnM.of htb Tryz.func17 rfl rfl rfl rfl rfl fun cx hN h0 => ?_
  (repeat' (first | (refine nx ?_) | (refine WD_unk (by exact rfl) ?_; ((refine WD_tf (by exact rfl) (by exact rfl) ?_ ?_) <;> (intro hb; (fail_if_success (with_reducible injection hb)); rw [hb]; (try simp only [List.length_map] at hb)))) | (refine WD_call (by exact rfl) ?_; first | (refine WD_c0 (sameG_rm _ _ ?y0 ?y1 ?y2) ?_; (case y0 => exact hyp); (case y1 => exact hyp); (case y2 => exact hyp))) | ((refine WD_tf (by exact rfl) (by exact rfl) ?_ ?_) <;> (intro hb; (fail_if_success (with_reducible injection hb)); rw [hb]; (try simp only [List.length_map] at hb))) | (((with_reducible apply gC2); exact rfl) <;> (intro hb; rw [hb]))))
  exact gE (.inr rfl) rfl rfl trivial
end Go.Proofs.YtgebgpdoddjfhaaGreat
