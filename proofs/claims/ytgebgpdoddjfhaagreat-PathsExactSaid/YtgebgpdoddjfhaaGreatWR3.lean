/- The reference adds an offer. -/
import Derived.Test.YtgebgpdoddjfhaaGreatAmZ
import Derived.Test.YtgebgpdoddjfhaaGreatWR2
namespace Go.Proofs.YtgebgpdoddjfhaaGreat
set_option linter.unusedSimpArgs false
set_option linter.unusedVariables false
set_option linter.unnecessarySimpa false
set_option linter.unusedSectionVars false
set_option maxRecDepth 100000
open Go Go.RowKit Go.Am Go.Proofs.Grow

set_option maxHeartbeats 8000000 in
theorem add_rm (g : Led) (a : Int) (u : ByteArray) (i : Int) (v : ByteArray) (j n p q : Int) (hl : g.lins.length ≤ 1000) (ha : g.accs.length ≤ 1000) (ho : g.offs.length ≤ 1000) :
    FnM Tryz.prog 31 [] [aG g, vI a, aT u i, aT v j, vI n, vI p, vI q] (.tup [aG (addO g a u i v j n p q).1, vI (addO g a u i v j n p q).2.1, vI (addO g a u i v j n p q).2.2]) [] := by
  refine FnM.of htb Tryz.func31 rfl rfl rfl rfl rfl fun cx hN h0 => ?_
  by_cases hc : chkO g = 0
  case neg =>
    have ht : (chkO g != 0) = true := by simp [hc]
    have e : addO g a u i v j n p q = (led0, 0, chkO g) := if_pos hc
    rw [e]
    (repeat' (first | (refine nx ?_) | (refine WD_unk (by exact rfl) ?_; ((refine WD_tf (by exact rfl) (by exact rfl) ?_ ?_) <;> (intro hb; (fail_if_success (with_reducible injection hb)); rw [hb]; (try simp only [List.length_map] at hb)))) | (refine WD_call (by exact rfl) ?_; first | (refine WD_c0 (chkO_rm _ ?y0 ?y1 ?y2) ?_; (case y0 => exact hyp); (case y1 => exact hyp); (case y2 => exact hyp))) | ((refine WD_tf (by exact rfl) (by exact rfl) ?_ ?_) <;> (intro hb; (fail_if_success (with_reducible injection hb)); rw [hb]; (try simp only [List.length_map] at hb))) | (((with_reducible apply gC2); exact rfl) <;> (intro hb; rw [hb]))))
    (exact glV [(14, .ptr 14 0), (15, vI 0), (16, vI (chkO g))] [(14, .box 28 (cellsOf (aG led0)))] (LeV []))
  have ht : (chkO g != 0) = false := by simp [hc]
  obtain ⟨n1, n2⟩ := chkO_nid hc
  (repeat' (first | ((with_reducible apply WD_id); first | (refine WD_eq (eqT_step rfl rfl rfl) ?_)) | (refine nx ?_) | (refine WD_unk (by exact rfl) ?_; ((refine WD_tf (by exact rfl) (by exact rfl) ?_ ?_) <;> (intro hb; (fail_if_success (with_reducible injection hb)); rw [hb]; (try simp only [List.length_map] at hb)))) | (refine WD_call (by exact rfl) ?_; first | (refine WD_c0 (chkO_rm _ ?y0 ?y1 ?y2) ?_; (case y0 => exact hyp); (case y1 => exact hyp); (case y2 => exact hyp)) | (refine WD_c0 (findA_rm _ _ ?y0) ?_; (case y0 => exact hyp)) | (refine WD_c0 (asset_rm _ _) ?_) | (refine WD_c0 (okA_rm _) ?_) | (refine WD_c0 (price_rm _ _) ?_) | (refine WD_c0 (holds_rm _ _ _ _ ?y0) ?_; (case y0 => exact hyp)) | (refine WD_c0 (held_rm _ _ _ _ ?y0 ?y1) ?_; (case y0 => exact hyp); (case y1 => exact hyp)) | (refine WD_c0 (red_rm _ _) ?_)) | ((refine WD_tf (by exact rfl) (by exact rfl) ?_ ?_) <;> (intro hb; (fail_if_success (with_reducible injection hb)); rw [hb]; (try simp only [List.length_map] at hb))) | (((with_reducible apply gC2); exact rfl) <;> (intro hb; rw [hb]))))
  all_goals try simp only [Bool.not_eq_true', Bool.not_eq_false', decide_eq_true_eq, decide_eq_false_iff_not, bne_iff_ne, bne_eq_false_iff_eq, beq_iff_eq, beq_eq_false_iff_ne] at *
  all_goals try (first
    | (have e : addO g a u i v j n p q = (led0, 0, 67) := by (simp [addO, *]; done)
       rw [e]
       (exact glV [(14, .ptr 14 0), (15, vI 0), (16, vI (67))] [(14, .box 28 (cellsOf (aG led0)))] (LeV [])))
    | (have e : addO g a u i v j n p q = (led0, 0, 71) := by (simp [addO, *]; done)
       rw [e]
       (exact glV [(14, .ptr 14 0), (15, vI 0), (16, vI (71))] [(14, .box 28 (cellsOf (aG led0)))] (LeV [])))
    | (have e : addO g a u i v j n p q = (led0, 0, 72) := by (simp [addO, *]; done)
       rw [e]
       (exact glV [(14, .ptr 14 0), (15, vI 0), (16, vI (72))] [(14, .box 28 (cellsOf (aG led0)))] (LeV [])))
    | (have e : addO g a u i v j n p q = (led0, 0, 70) := by (simp [addO, *]; done)
       rw [e]
       (exact glV [(14, .ptr 14 0), (15, vI 0), (16, vI (70))] [(14, .box 28 (cellsOf (aG led0)))] (LeV [])))
    | (have e : addO g a u i v j n p q = (led0, 0, 66) := by (simp [addO, *]; done)
       rw [e]
       (exact glV [(14, .ptr 14 0), (15, vI 0), (16, vI (66))] [(14, .box 28 (cellsOf (aG led0)))] (LeV [])))
    | (have e : addO g a u i v j n p q = (led0, 0, 3) := by (have h40 : g.offs.length = 40 ∨ g.nid = 1000000 := (by omega); simp [addO, *]; done)
       rw [e]
       (exact glV [(14, .ptr 14 0), (15, vI 0), (16, vI (3))] [(14, .box 28 (cellsOf (aG led0)))] (LeV []))))
  have h40 : ¬ g.offs.length = 40 := by omega
  have e : addO g a u i v j n p q = ({ g with offs := g.offs ++ [⟨g.nid, a, u, i, v, j, n, (redF p q).1, (redF p q).2⟩], nid := g.nid + 1 }, g.nid, 0) := by
    simp [addO, *]
  rw [e]
  (exact glV [(14, .ptr 14 0), (15, vI g.nid), (16, vI 0)] [(14, .box 28 (cellsOf (aG { g with offs := g.offs ++ [⟨g.nid, a, u, i, v, j, n, (redF p q).1, (redF p q).2⟩], nid := g.nid + 1 })))] (LeV []))
end Go.Proofs.YtgebgpdoddjfhaaGreat
