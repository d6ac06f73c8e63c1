/- Contracts of the reference's functions: changing balances. -/
import Derived.Test.YtgebgpdoddjfhaaGreatWR5
import Derived.Test.YtgebgpdoddjfhaaGreatAmZ
import Derived.Test.YtgebgpdoddjfhaaGreatWL2
import Derived.Test.YtgebgpdoddjfhaaGreatWO2
import Derived.Test.YtgebgpdoddjfhaaGreatWO4
import Derived.Test.YtgebgpdoddjfhaaGreatWO5
namespace Go.Proofs.YtgebgpdoddjfhaaGreat
set_option linter.unusedSimpArgs false
set_option linter.unusedVariables false
set_option linter.unnecessarySimpa false
set_option linter.unusedSectionVars false
set_option maxRecDepth 100000
open Go Go.RowKit Go.Am Go.Proofs.Grow

set_option maxHeartbeats 4000000 in
theorem changeG_rm (l : List Acc) (i n : Int) (hl : l.length ≤ 1000) : FnM Tryz.prog 93 [] [lA l, vI i, vI n, vI 1] (.tup [lA (giveF l i n).1, vI (giveF l i n).2]) [] := by
  refine FnM.of htb Tryz.func93 rfl rfl rfl rfl rfl fun cx hN h0 => ?_
  have hi := idxF_bd (hasId i) l
  have hi2 : idxA l i = idxF (hasId i) 0 l := rfl
  by_cases hc : chkA l = 0
  case neg =>
    have t1 : (chkA l != 0) = true := by simp [hc]
    have e : giveF l i n = ([], 74) := by unfold giveF changeF; rw [if_pos hc]
    rw [e]
    (repeat' (first | (refine nx ?_) | (refine WD_unk (by exact rfl) ?_; ((refine WD_tf (by exact rfl) (by exact rfl) ?_ ?_) <;> (intro hb; (fail_if_success (with_reducible injection hb)); rw [hb]; (try simp only [List.length_map] at hb)))) | (refine WD_call (by exact rfl) ?_; first | (refine WD_c0 (chkA_rm _) ?_) | (refine WD_c0 (idxA_rm _ _ ?_) ?_; (exact hyp)) | (refine WD_c0 (okA_rm _) ?_)) | ((refine WD_tf (by exact rfl) (by exact rfl) ?_ ?_) <;> (intro hb; (fail_if_success (with_reducible injection hb)); rw [hb]; (try simp only [List.length_map] at hb))) | (((with_reducible apply gC2); exact rfl) <;> (intro hb; rw [hb]))))
    (exact glV [(8, lA []), (9, vI 74)] [] (LeV []))
  have t1 : (chkA l != 0) = false := by simp [hc]
  by_cases hx : idxA l i < 0
  · have t2 : decide (idxA l i < 0) = true := by simp [hx]
    have e : giveF l i n = ([], 67) := by unfold giveF changeF; rw [if_neg (by simp [hc]), if_pos hx]
    rw [e]
    (repeat' (first | (refine nx ?_) | (refine WD_unk (by exact rfl) ?_; ((refine WD_tf (by exact rfl) (by exact rfl) ?_ ?_) <;> (intro hb; (fail_if_success (with_reducible injection hb)); rw [hb]; (try simp only [List.length_map] at hb)))) | (refine WD_call (by exact rfl) ?_; first | (refine WD_c0 (chkA_rm _) ?_) | (refine WD_c0 (idxA_rm _ _ ?_) ?_; (exact hyp)) | (refine WD_c0 (okA_rm _) ?_)) | ((refine WD_tf (by exact rfl) (by exact rfl) ?_ ?_) <;> (intro hb; (fail_if_success (with_reducible injection hb)); rw [hb]; (try simp only [List.length_map] at hb))) | (((with_reducible apply gC2); exact rfl) <;> (intro hb; rw [hb]))))
    (exact glV [(8, lA []), (9, vI 67)] [] (LeV []))
  have t2 : decide (idxA l i < 0) = false := by simp; omega
  obtain ⟨g1, g2, g3⟩ := @good_all l hc (idxA l i).toNat (by omega)
  by_cases hv : okA n = true ∧ okA ((nth l (idxA l i).toNat).bal + n) = true
  case neg =>
    have e : giveF l i n = ([], 65) := by
      have e1 : giveS n (nth l (idxA l i).toNat) = (nth l (idxA l i).toNat, 65) := by unfold giveS; rw [if_neg (by simpa using hv)]
      unfold giveF changeF; rw [if_neg (by simp [hc]), if_neg hx, if_pos (by rw [e1]; simp), e1]
    rw [e]
    cases hn : okA n with
    | false =>
      have t3 : (!okA n) = true := by simp [hn]
      (repeat' (first | (refine nx ?_) | (refine WD_unk (by exact rfl) ?_; ((refine WD_tf (by exact rfl) (by exact rfl) ?_ ?_) <;> (intro hb; (fail_if_success (with_reducible injection hb)); rw [hb]; (try simp only [List.length_map] at hb)))) | (refine WD_call (by exact rfl) ?_; first | (refine WD_c0 (chkA_rm _) ?_) | (refine WD_c0 (idxA_rm _ _ ?_) ?_; (exact hyp)) | (refine WD_c0 (okA_rm _) ?_)) | ((refine WD_tf (by exact rfl) (by exact rfl) ?_ ?_) <;> (intro hb; (fail_if_success (with_reducible injection hb)); rw [hb]; (try simp only [List.length_map] at hb))) | (((with_reducible apply gC2); exact rfl) <;> (intro hb; rw [hb]))))
      (exact glV [(8, lA []), (9, vI 65)] [] (LeV []))
    | true =>
      have hn2 := okA_iff.1 hn
      have t3 : (!okA n) = false := by simp [hn]
      have t4 : (!okA ((nth l (idxA l i).toNat).bal + n)) = true := by simp [hn] at hv; simp [hv]
      (repeat' (first | (refine nx ?_) | (refine WD_unk (by exact rfl) ?_; ((refine WD_tf (by exact rfl) (by exact rfl) ?_ ?_) <;> (intro hb; (fail_if_success (with_reducible injection hb)); rw [hb]; (try simp only [List.length_map] at hb)))) | (refine WD_call (by exact rfl) ?_; first | (refine WD_c0 (chkA_rm _) ?_) | (refine WD_c0 (idxA_rm _ _ ?_) ?_; (exact hyp)) | (refine WD_c0 (okA_rm _) ?_)) | ((refine WD_tf (by exact rfl) (by exact rfl) ?_ ?_) <;> (intro hb; (fail_if_success (with_reducible injection hb)); rw [hb]; (try simp only [List.length_map] at hb))) | (((with_reducible apply gC2); exact rfl) <;> (intro hb; rw [hb]))))
      (exact glV [(8, lA []), (9, vI 65)] [] (LeV []))
  have hn2 := okA_iff.1 hv.1
  have t3 : (!okA n) = false := by simp [hv.1]
  have t4 : (!okA ((nth l (idxA l i).toNat).bal + n)) = false := by simp [hv.2]
  have e1 : giveS n (nth l (idxA l i).toNat) = ({ nth l (idxA l i).toNat with bal := (nth l (idxA l i).toNat).bal + n }, 0) := by unfold giveS; rw [if_pos (by simpa using hv)]
  have e : giveF l i n = (l.set (idxA l i).toNat { nth l (idxA l i).toNat with bal := (nth l (idxA l i).toNat).bal + n }, 0) := by
    unfold giveF changeF; rw [if_neg (by simp [hc]), if_neg hx, if_neg (by rw [e1]; simp), e1]
  rw [e]
  (repeat' (first | (refine nx ?_) | (refine WD_unk (by exact rfl) ?_; ((refine WD_tf (by exact rfl) (by exact rfl) ?_ ?_) <;> (intro hb; (fail_if_success (with_reducible injection hb)); rw [hb]; (try simp only [List.length_map] at hb)))) | (refine WD_call (by exact rfl) ?_; first | (refine WD_c0 (chkA_rm _) ?_) | (refine WD_c0 (idxA_rm _ _ ?_) ?_; (exact hyp)) | (refine WD_c0 (okA_rm _) ?_)) | ((refine WD_tf (by exact rfl) (by exact rfl) ?_ ?_) <;> (intro hb; (fail_if_success (with_reducible injection hb)); rw [hb]; (try simp only [List.length_map] at hb))) | (((with_reducible apply gC2); exact rfl) <;> (intro hb; rw [hb]))))
  rw [Int.one_mul]
  have hset : (l.map rA).set (idxA l i).toNat (rA { nth l (idxA l i).toNat with bal := (nth l (idxA l i).toNat).bal + n }) = (l.set (idxA l i).toNat { nth l (idxA l i).toNat with bal := (nth l (idxA l i).toNat).bal + n }).map rA := (List.map_set ..).symm
  (exact glV [(8, lA (l.set (idxA l i).toNat { nth l (idxA l i).toNat with bal := (nth l (idxA l i).toNat).bal + n })), (9, vI 0)] [] (LeV []))
set_option maxHeartbeats 4000000 in
theorem changeT_rm (l : List Acc) (i n : Int) (hl : l.length ≤ 1000) : FnM Tryz.prog 93 [] [lA l, vI i, vI n, vI (-1)] (.tup [lA (takeF l i n).1, vI (takeF l i n).2]) [] := by
  refine FnM.of htb Tryz.func93 rfl rfl rfl rfl rfl fun cx hN h0 => ?_
  have hi := idxF_bd (hasId i) l
  have hi2 : idxA l i = idxF (hasId i) 0 l := rfl
  by_cases hc : chkA l = 0
  case neg =>
    have t1 : (chkA l != 0) = true := by simp [hc]
    have e : takeF l i n = ([], 74) := by unfold takeF changeF; rw [if_pos hc]
    rw [e]
    (repeat' (first | (refine nx ?_) | (refine WD_unk (by exact rfl) ?_; ((refine WD_tf (by exact rfl) (by exact rfl) ?_ ?_) <;> (intro hb; (fail_if_success (with_reducible injection hb)); rw [hb]; (try simp only [List.length_map] at hb)))) | (refine WD_call (by exact rfl) ?_; first | (refine WD_c0 (chkA_rm _) ?_) | (refine WD_c0 (idxA_rm _ _ ?_) ?_; (exact hyp)) | (refine WD_c0 (okA_rm _) ?_)) | ((refine WD_tf (by exact rfl) (by exact rfl) ?_ ?_) <;> (intro hb; (fail_if_success (with_reducible injection hb)); rw [hb]; (try simp only [List.length_map] at hb))) | (((with_reducible apply gC2); exact rfl) <;> (intro hb; rw [hb]))))
    (exact glV [(8, lA []), (9, vI 74)] [] (LeV []))
  have t1 : (chkA l != 0) = false := by simp [hc]
  by_cases hx : idxA l i < 0
  · have t2 : decide (idxA l i < 0) = true := by simp [hx]
    have e : takeF l i n = ([], 67) := by unfold takeF changeF; rw [if_neg (by simp [hc]), if_pos hx]
    rw [e]
    (repeat' (first | (refine nx ?_) | (refine WD_unk (by exact rfl) ?_; ((refine WD_tf (by exact rfl) (by exact rfl) ?_ ?_) <;> (intro hb; (fail_if_success (with_reducible injection hb)); rw [hb]; (try simp only [List.length_map] at hb)))) | (refine WD_call (by exact rfl) ?_; first | (refine WD_c0 (chkA_rm _) ?_) | (refine WD_c0 (idxA_rm _ _ ?_) ?_; (exact hyp)) | (refine WD_c0 (okA_rm _) ?_)) | ((refine WD_tf (by exact rfl) (by exact rfl) ?_ ?_) <;> (intro hb; (fail_if_success (with_reducible injection hb)); rw [hb]; (try simp only [List.length_map] at hb))) | (((with_reducible apply gC2); exact rfl) <;> (intro hb; rw [hb]))))
    (exact glV [(8, lA []), (9, vI 67)] [] (LeV []))
  have t2 : decide (idxA l i < 0) = false := by simp; omega
  obtain ⟨g1, g2, g3⟩ := @good_all l hc (idxA l i).toNat (by omega)
  cases hn : okA n with
  | false =>
    have t3 : (!okA n) = true := by simp [hn]
    have e1 : takeS n (nth l (idxA l i).toNat) = (nth l (idxA l i).toNat, 65) := by unfold takeS; rw [if_pos hn]
    have e : takeF l i n = ([], 65) := by
      unfold takeF changeF; rw [if_neg (by simp [hc]), if_neg hx, if_pos (by rw [e1]; simp), e1]
    rw [e]
    (repeat' (first | (refine nx ?_) | (refine WD_unk (by exact rfl) ?_; ((refine WD_tf (by exact rfl) (by exact rfl) ?_ ?_) <;> (intro hb; (fail_if_success (with_reducible injection hb)); rw [hb]; (try simp only [List.length_map] at hb)))) | (refine WD_call (by exact rfl) ?_; first | (refine WD_c0 (chkA_rm _) ?_) | (refine WD_c0 (idxA_rm _ _ ?_) ?_; (exact hyp)) | (refine WD_c0 (okA_rm _) ?_)) | ((refine WD_tf (by exact rfl) (by exact rfl) ?_ ?_) <;> (intro hb; (fail_if_success (with_reducible injection hb)); rw [hb]; (try simp only [List.length_map] at hb))) | (((with_reducible apply gC2); exact rfl) <;> (intro hb; rw [hb]))))
    (exact glV [(8, lA []), (9, vI 65)] [] (LeV []))
  | true =>
  have hn2 := okA_iff.1 hn
  have t3 : (!okA n) = false := by simp [hn]
  by_cases hb : (nth l (idxA l i).toNat).bal < n
  · have t4 : decide ((nth l (idxA l i).toNat).bal < n) = true := by simp [hb]
    have e1 : takeS n (nth l (idxA l i).toNat) = (nth l (idxA l i).toNat, 66) := by unfold takeS; rw [if_neg (by simp [hn]), if_pos hb]
    have e : takeF l i n = ([], 66) := by
      unfold takeF changeF; rw [if_neg (by simp [hc]), if_neg hx, if_pos (by rw [e1]; simp), e1]
    rw [e]
    (repeat' (first | (refine nx ?_) | (refine WD_unk (by exact rfl) ?_; ((refine WD_tf (by exact rfl) (by exact rfl) ?_ ?_) <;> (intro hb; (fail_if_success (with_reducible injection hb)); rw [hb]; (try simp only [List.length_map] at hb)))) | (refine WD_call (by exact rfl) ?_; first | (refine WD_c0 (chkA_rm _) ?_) | (refine WD_c0 (idxA_rm _ _ ?_) ?_; (exact hyp)) | (refine WD_c0 (okA_rm _) ?_)) | ((refine WD_tf (by exact rfl) (by exact rfl) ?_ ?_) <;> (intro hb; (fail_if_success (with_reducible injection hb)); rw [hb]; (try simp only [List.length_map] at hb))) | (((with_reducible apply gC2); exact rfl) <;> (intro hb; rw [hb]))))
    (exact glV [(8, lA []), (9, vI 66)] [] (LeV []))
  have t4 : decide ((nth l (idxA l i).toNat).bal < n) = false := by simp; omega
  have e1 : takeS n (nth l (idxA l i).toNat) = ({ nth l (idxA l i).toNat with bal := (nth l (idxA l i).toNat).bal - n }, 0) := by unfold takeS; rw [if_neg (by simp [hn]), if_neg hb]
  have e : takeF l i n = (l.set (idxA l i).toNat { nth l (idxA l i).toNat with bal := (nth l (idxA l i).toNat).bal - n }, 0) := by
    unfold takeF changeF; rw [if_neg (by simp [hc]), if_neg hx, if_neg (by rw [e1]; simp), e1]
  rw [e]
  (repeat' (first | (refine nx ?_) | (refine WD_unk (by exact rfl) ?_; ((refine WD_tf (by exact rfl) (by exact rfl) ?_ ?_) <;> (intro hb; (fail_if_success (with_reducible injection hb)); rw [hb]; (try simp only [List.length_map] at hb)))) | (refine WD_call (by exact rfl) ?_; first | (refine WD_c0 (chkA_rm _) ?_) | (refine WD_c0 (idxA_rm _ _ ?_) ?_; (exact hyp)) | (refine WD_c0 (okA_rm _) ?_)) | ((refine WD_tf (by exact rfl) (by exact rfl) ?_ ?_) <;> (intro hb; (fail_if_success (with_reducible injection hb)); rw [hb]; (try simp only [List.length_map] at hb))) | (((with_reducible apply gC2); exact rfl) <;> (intro hb; rw [hb]))))
  rw [show (nth l (idxA l i).toNat).bal + -1 * n = (nth l (idxA l i).toNat).bal - n by omega]
  have hset : (l.map rA).set (idxA l i).toNat (rA { nth l (idxA l i).toNat with bal := (nth l (idxA l i).toNat).bal - n }) = (l.set (idxA l i).toNat { nth l (idxA l i).toNat with bal := (nth l (idxA l i).toNat).bal - n }).map rA := (List.map_set ..).symm
  (exact glV [(8, lA (l.set (idxA l i).toNat { nth l (idxA l i).toNat with bal := (nth l (idxA l i).toNat).bal - n })), (9, vI 0)] [] (LeV []))
theorem give_rm (l : List Acc) (i n : Int) (hl : l.length ≤ 1000) : FnM Tryz.prog 72 [] [lA l, vI i, vI n] (.tup [lA (giveF l i n).1, vI (giveF l i n).2]) [] := by
  refine FnM.of htb Tryz.func72 rfl rfl rfl rfl rfl fun cx hN h0 => ?_
  (repeat' (first | (refine nx ?_) | (refine WD_unk (by exact rfl) ?_; ((refine WD_tf (by exact rfl) (by exact rfl) ?_ ?_) <;> (intro hb; (fail_if_success (with_reducible injection hb)); rw [hb]; (try simp only [List.length_map] at hb)))) | (refine WD_call (by exact rfl) ?_; first | (refine WD_c0 (changeG_rm _ _ _ ?_) ?_; (exact hyp))) | ((refine WD_tf (by exact rfl) (by exact rfl) ?_ ?_) <;> (intro hb; (fail_if_success (with_reducible injection hb)); rw [hb]; (try simp only [List.length_map] at hb))) | (((with_reducible apply gC2); exact rfl) <;> (intro hb; rw [hb]))))
  exact gE (.inr rfl) rfl rfl trivial
theorem take_rm (l : List Acc) (i n : Int) (hl : l.length ≤ 1000) : FnM Tryz.prog 70 [] [lA l, vI i, vI n] (.tup [lA (takeF l i n).1, vI (takeF l i n).2]) [] := by
  refine FnM.of htb Tryz.func70 rfl rfl rfl rfl rfl fun cx hN h0 => ?_
  (repeat' (first | (refine nx ?_) | (refine WD_unk (by exact rfl) ?_; ((refine WD_tf (by exact rfl) (by exact rfl) ?_ ?_) <;> (intro hb; (fail_if_success (with_reducible injection hb)); rw [hb]; (try simp only [List.length_map] at hb)))) | (refine WD_call (by exact rfl) ?_; first | (refine WD_c0 (changeT_rm _ _ _ ?_) ?_; (exact hyp))) | ((refine WD_tf (by exact rfl) (by exact rfl) ?_ ?_) <;> (intro hb; (fail_if_success (with_reducible injection hb)); rw [hb]; (try simp only [List.length_map] at hb))) | (((with_reducible apply gC2); exact rfl) <;> (intro hb; rw [hb]))))
  exact gE (.inr rfl) rfl rfl trivial
end Go.Proofs.YtgebgpdoddjfhaaGreat

/- Contracts of the reference's functions: crediting and debiting. -/
namespace Go.Proofs.YtgebgpdoddjfhaaGreat
set_option linter.unusedSimpArgs false
set_option linter.unusedVariables false
set_option linter.unnecessarySimpa false
set_option linter.unusedSectionVars false
set_option maxRecDepth 100000
open Go Go.RowKit Go.Am Go.Proofs.Grow

theorem give_yes {l : List Acc} {i n : Int} {j : Nat} (hc : chkA l = 0) (hj : idxA l i = (j : Int)) (h1 : okA n = true) (h2 : okA ((nth l j).bal + n) = true) : giveF l i n = (l.set j { nth l j with bal := (nth l j).bal + n }, 0) := by
  have e1 : giveS n (nth l j) = ({ nth l j with bal := (nth l j).bal + n }, 0) := by unfold giveS; rw [if_pos (by simp [h1, h2])]
  have hx : ¬ idxA l i < 0 := by omega
  have ej : (idxA l i).toNat = j := by omega
  unfold giveF changeF; rw [if_neg (by simp [hc]), if_neg hx, ej, if_neg (by rw [e1]; simp), e1]
theorem give_no {l : List Acc} {i n : Int} {j : Nat} (hc : chkA l = 0) (hj : idxA l i = (j : Int)) (h2 : okA ((nth l j).bal + n) = false) : giveF l i n = ([], 65) := by
  have e1 : giveS n (nth l j) = (nth l j, 65) := by unfold giveS; rw [if_neg (by simp [h2])]
  have hx : ¬ idxA l i < 0 := by omega
  have ej : (idxA l i).toNat = j := by omega
  unfold giveF changeF; rw [if_neg (by simp [hc]), if_neg hx, ej, if_pos (by rw [e1]; simp), e1]
theorem take_yes {l : List Acc} {i n : Int} {j : Nat} (hc : chkA l = 0) (hj : idxA l i = (j : Int)) (h1 : okA n = true) (h2 : n ≤ (nth l j).bal) : takeF l i n = (l.set j { nth l j with bal := (nth l j).bal + -n }, 0) := by
  have e1 : takeS n (nth l j) = ({ nth l j with bal := (nth l j).bal - n }, 0) := by unfold takeS; rw [if_neg (by simp [h1]), if_neg (by omega)]
  have hx : ¬ idxA l i < 0 := by omega
  have ej : (idxA l i).toNat = j := by omega
  unfold takeF changeF; rw [if_neg (by simp [hc]), if_neg hx, ej, if_neg (by rw [e1]; simp), e1]; rfl
theorem take_no {l : List Acc} {i n : Int} {j : Nat} (hc : chkA l = 0) (hj : idxA l i = (j : Int)) (h1 : okA n = true) (h2 : (nth l j).bal < n) : takeF l i n = ([], 66) := by
  have e1 : takeS n (nth l j) = (nth l j, 66) := by unfold takeS; rw [if_neg (by simp [h1]), if_pos h2]
  have hx : ¬ idxA l i < 0 := by omega
  have ej : (idxA l i).toNat = j := by omega
  unfold takeF changeF; rw [if_neg (by simp [hc]), if_neg hx, ej, if_pos (by rw [e1]; simp), e1]
theorem giveE_rm (l : List Acc) (i n : Int) (x : List Acc) (e : Int) (hl : l.length ≤ 1000) (he : giveF l i n = (x, e)) : FnM Tryz.prog 72 [] [lA l, vI i, vI n] (.tup [lA x, vI e]) [] := by
  have := give_rm l i n hl
  rwa [he] at this
theorem takeE_rm (l : List Acc) (i n : Int) (x : List Acc) (e : Int) (hl : l.length ≤ 1000) (he : takeF l i n = (x, e)) : FnM Tryz.prog 70 [] [lA l, vI i, vI n] (.tup [lA x, vI e]) [] := by
  have := take_rm l i n hl
  rwa [he] at this
theorem first_rm (g : Led) (a : Int) (u : ByteArray) (i n : Int) (hl : g.lins.length ≤ 1000) (ha : g.accs.length ≤ 1000) : FnM Tryz.prog 69 [] [aG g, vI a, aT u i, vI n] (vI (firstF g a u i n)) [] := by
  refine FnM.of htb Tryz.func69 rfl rfl rfl rfl rfl fun cx hN h0 => ?_
  (repeat' (first | (refine nx ?_) | (refine WD_unk (by exact rfl) ?_; ((refine WD_tf (by exact rfl) (by exact rfl) ?_ ?_) <;> (intro hb; (fail_if_success (with_reducible injection hb)); rw [hb]; (try simp only [List.length_map] at hb)))) | (refine WD_call (by exact rfl) ?_; first | (refine WD_c0 (findA_rm _ _ ?_) ?_; (exact hyp)) | (refine WD_c0 (rightG_rm _ ?_ ?_) ?_; (exact hyp); (exact hyp)) | (refine WD_c0 (asset_rm _ _) ?_) | (refine WD_c0 (okA_rm _) ?_)) | ((refine WD_tf (by exact rfl) (by exact rfl) ?_ ?_) <;> (intro hb; (fail_if_success (with_reducible injection hb)); rw [hb]; (try simp only [List.length_map] at hb))) | (((with_reducible apply gC2); exact rfl) <;> (intro hb; rw [hb]))))
  all_goals try simp only [Bool.not_eq_true', Bool.not_eq_false', decide_eq_true_eq, decide_eq_false_iff_not, bne_iff_ne, bne_eq_false_iff_eq, beq_iff_eq, beq_eq_false_iff_ne] at *
  all_goals refine gE (.inr rfl) rfl (congrArg vI ?_) trivial
  all_goals simp_all [firstF]
set_option maxHeartbeats 4000000 in
theorem credit_rm (g : Led) (a : Int) (u : ByteArray) (i n : Int) (hl : g.lins.length ≤ 1000) (ha : g.accs.length ≤ 1000) : FnM Tryz.prog 44 [] [aG g, vI a, aT u i, vI n] (.tup [aG (creditF g a u i n).1, vI (creditF g a u i n).2]) [] := by
  refine FnM.of htb Tryz.func44 rfl rfl rfl rfl rfl fun cx hN h0 => ?_
  by_cases hc : firstF g a u i n = 0
  case neg =>
    have e : creditF g a u i n = (led0, firstF g a u i n) := by unfold creditF; rw [if_pos hc]
    have hd : (firstF g a u i n != 0) = true := by simp [hc]
    rw [e]
    (repeat' (first | (refine nx ?_) | (refine WD_unk (by exact rfl) ?_; ((refine WD_tf (by exact rfl) (by exact rfl) ?_ ?_) <;> (intro hb; (fail_if_success (with_reducible injection hb)); rw [hb]; (try simp only [List.length_map] at hb)))) | (refine WD_call (by exact rfl) ?_; first | (refine WD_c0 (first_rm _ _ _ _ _ ?_ ?_) ?_; (exact hyp); (exact hyp))) | ((refine WD_tf (by exact rfl) (by exact rfl) ?_ ?_) <;> (intro hb; (fail_if_success (with_reducible injection hb)); rw [hb]; (try simp only [List.length_map] at hb))) | (((with_reducible apply gC2); exact rfl) <;> (intro hb; rw [hb]))))
    (exact glV [(8, .ptr 8 0), (9, vI (firstF g a u i n))] [(8, .box 28 (cellsOf (aG led0)))] (LeV []))
  obtain ⟨hr, hu, hf, hn⟩ := first_iff.1 hc
  have hg := rightL_iff.1 hr
  have hd : (firstF g a u i n != 0) = false := by simp [hc]
  have hnn := okA_iff.1 hn
  have hcA : chkA g.accs = 0 := chkA_zero.2 hg.accs
  have e := credit_eq hg hf hu hn
  rcases look_cases hg hf hu with ⟨hna, hia, ho, j, hj, k1, k2, el⟩ | ⟨hna, hia, ho, el⟩ | ⟨hna, hia, ho, j, hj, k1, k2, k3, k4, el⟩ | ⟨hna, hia, ho, el⟩
  · rw [el] at e
    dsimp only at e
    by_cases c : n ≤ 1000000000000 - (nth g.accs j).bal
    · rw [if_pos ⟨rfl, c⟩] at e
      have hb := (hg.accs.2.1 _ (nth_mem _ j hj)).2.1
      have eg := give_yes (n := n) hcA k2 hn (okA_iff.2 (by omega))
      have e2 : addL g a u i n = { g with accs := g.accs.set j { nth g.accs j with bal := (nth g.accs j).bal + n } } := by unfold addL; rw [if_pos hna, k2]; simp
      rw [e, e2]
      (repeat' (first | (refine nx ?_) | (refine WD_unk (by exact rfl) ?_; ((refine WD_tf (by exact rfl) (by exact rfl) ?_ ?_) <;> (intro hb; (fail_if_success (with_reducible injection hb)); rw [hb]; (try simp only [List.length_map] at hb)))) | (refine WD_call (by exact rfl) ?_; first | (refine WD_c0 (first_rm _ _ _ _ _ ?_ ?_) ?_; (exact hyp); (exact hyp)) | (refine WD_c0 (native_rm _ _) ?_) | (refine WD_e0 (fun h => giveE_rm _ _ _ _ _ ?_ h) ?_; (exact hyp))) | ((refine WD_tf (by exact rfl) (by exact rfl) ?_ ?_) <;> (intro hb; (fail_if_success (with_reducible injection hb)); rw [hb]; (try simp only [List.length_map] at hb))) | (((with_reducible apply gC2); exact rfl) <;> (intro hb; rw [hb]))))
      (exact glV [(8, .ptr 8 0), (9, vI 0)] [(8, .box 28 (cellsOf (aG { g with accs := g.accs.set j { nth g.accs j with bal := (nth g.accs j).bal + n } })))] (LeV []))
    · rw [if_neg (by simp; omega)] at e
      have eg := give_no (n := n) hcA k2 (by rw [Bool.eq_false_iff]; intro h; have := okA_iff.1 h; omega)
      rw [hna] at e
      rw [e]
      (repeat' (first | (refine nx ?_) | (refine WD_unk (by exact rfl) ?_; ((refine WD_tf (by exact rfl) (by exact rfl) ?_ ?_) <;> (intro hb; (fail_if_success (with_reducible injection hb)); rw [hb]; (try simp only [List.length_map] at hb)))) | (refine WD_call (by exact rfl) ?_; first | (refine WD_c0 (first_rm _ _ _ _ _ ?_ ?_) ?_; (exact hyp); (exact hyp)) | (refine WD_c0 (native_rm _ _) ?_) | (refine WD_e0 (fun h => giveE_rm _ _ _ _ _ ?_ h) ?_; (exact hyp))) | ((refine WD_tf (by exact rfl) (by exact rfl) ?_ ?_) <;> (intro hb; (fail_if_success (with_reducible injection hb)); rw [hb]; (try simp only [List.length_map] at hb))) | (((with_reducible apply gC2); exact rfl) <;> (intro hb; rw [hb]))))
      (exact glV [(8, .ptr 8 0), (9, vI 65)] [(8, .box 28 (cellsOf (aG led0)))] (LeV []))
  · rw [el] at e
    dsimp only at e
    rw [if_pos ⟨rfl, hnn.2⟩, addL_own n hna hia] at e
    have t1 : (i == a) = true := by simp [hia]
    rw [e]
    (repeat' (first | (refine nx ?_) | (refine WD_unk (by exact rfl) ?_; ((refine WD_tf (by exact rfl) (by exact rfl) ?_ ?_) <;> (intro hb; (fail_if_success (with_reducible injection hb)); rw [hb]; (try simp only [List.length_map] at hb)))) | (refine WD_call (by exact rfl) ?_; first | (refine WD_c0 (first_rm _ _ _ _ _ ?_ ?_) ?_; (exact hyp); (exact hyp)) | (refine WD_c0 (native_rm _ _) ?_)) | ((refine WD_tf (by exact rfl) (by exact rfl) ?_ ?_) <;> (intro hb; (fail_if_success (with_reducible injection hb)); rw [hb]; (try simp only [List.length_map] at hb))) | (((with_reducible apply gC2); exact rfl) <;> (intro hb; rw [hb]))))
    (exact glV [(8, .ptr 8 0), (9, vI 0)] [(8, .box 28 (cellsOf (aG g)))] (LeV []))
  · rw [el] at e
    dsimp only at e
    have hb := (hg.good _ (nth_mem _ j hj)).2.2.2.2
    have t1 : (i == a) = false := by simp [hia]
    have ej : (idxL g.lins a u i).toNat = j := by omega
    have t2 : decide (idxL g.lins a u i < 0) = false := by simp; omega
    rw [← ej] at e hb hj
    by_cases c : n ≤ (nth g.lins (idxL g.lins a u i).toNat).lim - (nth g.lins (idxL g.lins a u i).toNat).bal
    · rw [if_pos ⟨rfl, c⟩] at e
      have t3 : decide (n > (nth g.lins (idxL g.lins a u i).toNat).lim - (nth g.lins (idxL g.lins a u i).toNat).bal) = false := by simp; omega
      have e2 : addL g a u i n = { g with lins := g.lins.set (idxL g.lins a u i).toNat { nth g.lins (idxL g.lins a u i).toNat with bal := (nth g.lins (idxL g.lins a u i).toNat).bal + n } } := by rw [addL_lin n hna hia k4, k4]; rfl
      rw [e, e2]
      (repeat' (first | (refine nx ?_) | (refine WD_unk (by exact rfl) ?_; ((refine WD_tf (by exact rfl) (by exact rfl) ?_ ?_) <;> (intro hb; (fail_if_success (with_reducible injection hb)); rw [hb]; (try simp only [List.length_map] at hb)))) | (refine WD_call (by exact rfl) ?_; first | (refine WD_c0 (first_rm _ _ _ _ _ ?_ ?_) ?_; (exact hyp); (exact hyp)) | (refine WD_c0 (native_rm _ _) ?_) | (refine WD_c0 (idxL_rm _ _ _ _ ?_) ?_; (exact hyp))) | ((refine WD_tf (by exact rfl) (by exact rfl) ?_ ?_) <;> (intro hb; (fail_if_success (with_reducible injection hb)); rw [hb]; (try simp only [List.length_map] at hb))) | (((with_reducible apply gC2); exact rfl) <;> (intro hb; rw [hb]))))
      (exact glV [(8, .ptr 8 0), (9, vI 0)] [(8, .box 28 (cellsOf (aG { g with lins := g.lins.set (idxL g.lins a u i).toNat { nth g.lins (idxL g.lins a u i).toNat with bal := (nth g.lins (idxL g.lins a u i).toNat).bal + n } })))] (LeV []))
    · rw [if_neg (by simp; omega)] at e
      have t3 : decide (n > (nth g.lins (idxL g.lins a u i).toNat).lim - (nth g.lins (idxL g.lins a u i).toNat).bal) = true := by simp; omega
      rw [hna] at e
      rw [e]
      (repeat' (first | (refine nx ?_) | (refine WD_unk (by exact rfl) ?_; ((refine WD_tf (by exact rfl) (by exact rfl) ?_ ?_) <;> (intro hb; (fail_if_success (with_reducible injection hb)); rw [hb]; (try simp only [List.length_map] at hb)))) | (refine WD_call (by exact rfl) ?_; first | (refine WD_c0 (first_rm _ _ _ _ _ ?_ ?_) ?_; (exact hyp); (exact hyp)) | (refine WD_c0 (native_rm _ _) ?_) | (refine WD_c0 (idxL_rm _ _ _ _ ?_) ?_; (exact hyp))) | ((refine WD_tf (by exact rfl) (by exact rfl) ?_ ?_) <;> (intro hb; (fail_if_success (with_reducible injection hb)); rw [hb]; (try simp only [List.length_map] at hb))) | (((with_reducible apply gC2); exact rfl) <;> (intro hb; rw [hb]))))
      (exact glV [(8, .ptr 8 0), (9, vI 70)] [(8, .box 28 (cellsOf (aG led0)))] (LeV []))
  · rw [el] at e
    dsimp only at e
    rw [if_neg (by simp), hna] at e
    have t1 : (i == a) = false := by simp [hia]
    have t2 : decide (idxL g.lins a u i < 0) = true := by
      rcases idxL_cases g.lins a u i with ⟨q, _⟩ | ⟨j, hj, q, _⟩
      · rw [q]; rfl
      · unfold findL at ho; rw [if_neg (by omega)] at ho; cases ho
    rw [e]
    (repeat' (first | (refine nx ?_) | (refine WD_unk (by exact rfl) ?_; ((refine WD_tf (by exact rfl) (by exact rfl) ?_ ?_) <;> (intro hb; (fail_if_success (with_reducible injection hb)); rw [hb]; (try simp only [List.length_map] at hb)))) | (refine WD_call (by exact rfl) ?_; first | (refine WD_c0 (first_rm _ _ _ _ _ ?_ ?_) ?_; (exact hyp); (exact hyp)) | (refine WD_c0 (native_rm _ _) ?_) | (refine WD_c0 (idxL_rm _ _ _ _ ?_) ?_; (exact hyp))) | ((refine WD_tf (by exact rfl) (by exact rfl) ?_ ?_) <;> (intro hb; (fail_if_success (with_reducible injection hb)); rw [hb]; (try simp only [List.length_map] at hb))) | (((with_reducible apply gC2); exact rfl) <;> (intro hb; rw [hb]))))
    (exact glV [(8, .ptr 8 0), (9, vI 70)] [(8, .box 28 (cellsOf (aG led0)))] (LeV []))
set_option maxHeartbeats 4000000 in
theorem debit_rm (g : Led) (a : Int) (u : ByteArray) (i n : Int) (hl : g.lins.length ≤ 1000) (ha : g.accs.length ≤ 1000) : FnM Tryz.prog 43 [] [aG g, vI a, aT u i, vI n] (.tup [aG (debitF g a u i n).1, vI (debitF g a u i n).2]) [] := by
  refine FnM.of htb Tryz.func43 rfl rfl rfl rfl rfl fun cx hN h0 => ?_
  by_cases hc : firstF g a u i n = 0
  case neg =>
    have e : debitF g a u i n = (led0, firstF g a u i n) := by unfold debitF; rw [if_pos hc]
    have hd : (firstF g a u i n != 0) = true := by simp [hc]
    rw [e]
    (repeat' (first | (refine nx ?_) | (refine WD_unk (by exact rfl) ?_; ((refine WD_tf (by exact rfl) (by exact rfl) ?_ ?_) <;> (intro hb; (fail_if_success (with_reducible injection hb)); rw [hb]; (try simp only [List.length_map] at hb)))) | (refine WD_call (by exact rfl) ?_; first | (refine WD_c0 (first_rm _ _ _ _ _ ?_ ?_) ?_; (exact hyp); (exact hyp))) | ((refine WD_tf (by exact rfl) (by exact rfl) ?_ ?_) <;> (intro hb; (fail_if_success (with_reducible injection hb)); rw [hb]; (try simp only [List.length_map] at hb))) | (((with_reducible apply gC2); exact rfl) <;> (intro hb; rw [hb]))))
    (exact glV [(8, .ptr 8 0), (9, vI (firstF g a u i n))] [(8, .box 28 (cellsOf (aG led0)))] (LeV []))
  obtain ⟨hr, hu, hf, hn⟩ := first_iff.1 hc
  have hg := rightL_iff.1 hr
  have hd : (firstF g a u i n != 0) = false := by simp [hc]
  have hnn := okA_iff.1 hn
  have hcA : chkA g.accs = 0 := chkA_zero.2 hg.accs
  have e := debit_eq hg hf hu hn
  rcases look_cases hg hf hu with ⟨hna, hia, ho, j, hj, k1, k2, el⟩ | ⟨hna, hia, ho, el⟩ | ⟨hna, hia, ho, j, hj, k1, k2, k3, k4, el⟩ | ⟨hna, hia, ho, el⟩
  · rw [el] at e
    dsimp only at e
    by_cases c : n ≤ (nth g.accs j).bal
    · rw [if_pos ⟨rfl, c⟩] at e
      have hb := (hg.accs.2.1 _ (nth_mem _ j hj)).2.1
      have eg := take_yes (n := n) hcA k2 hn c
      have e2 : addL g a u i (-n) = { g with accs := g.accs.set j { nth g.accs j with bal := (nth g.accs j).bal + -n } } := by unfold addL; rw [if_pos hna, k2]; simp
      rw [e, e2]
      (repeat' (first | (refine nx ?_) | (refine WD_unk (by exact rfl) ?_; ((refine WD_tf (by exact rfl) (by exact rfl) ?_ ?_) <;> (intro hb; (fail_if_success (with_reducible injection hb)); rw [hb]; (try simp only [List.length_map] at hb)))) | (refine WD_call (by exact rfl) ?_; first | (refine WD_c0 (first_rm _ _ _ _ _ ?_ ?_) ?_; (exact hyp); (exact hyp)) | (refine WD_c0 (native_rm _ _) ?_) | (refine WD_e0 (fun h => takeE_rm _ _ _ _ _ ?_ h) ?_; (exact hyp))) | ((refine WD_tf (by exact rfl) (by exact rfl) ?_ ?_) <;> (intro hb; (fail_if_success (with_reducible injection hb)); rw [hb]; (try simp only [List.length_map] at hb))) | (((with_reducible apply gC2); exact rfl) <;> (intro hb; rw [hb]))))
      (exact glV [(8, .ptr 8 0), (9, vI 0)] [(8, .box 28 (cellsOf (aG { g with accs := g.accs.set j { nth g.accs j with bal := (nth g.accs j).bal + -n } })))] (LeV []))
    · rw [if_neg (by simp; omega), if_neg (by simp)] at e
      have eg := take_no (n := n) hcA k2 hn (by omega)
      rw [e]
      (repeat' (first | (refine nx ?_) | (refine WD_unk (by exact rfl) ?_; ((refine WD_tf (by exact rfl) (by exact rfl) ?_ ?_) <;> (intro hb; (fail_if_success (with_reducible injection hb)); rw [hb]; (try simp only [List.length_map] at hb)))) | (refine WD_call (by exact rfl) ?_; first | (refine WD_c0 (first_rm _ _ _ _ _ ?_ ?_) ?_; (exact hyp); (exact hyp)) | (refine WD_c0 (native_rm _ _) ?_) | (refine WD_e0 (fun h => takeE_rm _ _ _ _ _ ?_ h) ?_; (exact hyp))) | ((refine WD_tf (by exact rfl) (by exact rfl) ?_ ?_) <;> (intro hb; (fail_if_success (with_reducible injection hb)); rw [hb]; (try simp only [List.length_map] at hb))) | (((with_reducible apply gC2); exact rfl) <;> (intro hb; rw [hb]))))
      (exact glV [(8, .ptr 8 0), (9, vI 66)] [(8, .box 28 (cellsOf (aG led0)))] (LeV []))
  · rw [el] at e
    dsimp only at e
    rw [if_pos ⟨rfl, hnn.2⟩, addL_own (-n) hna hia] at e
    have t1 : (i == a) = true := by simp [hia]
    rw [e]
    (repeat' (first | (refine nx ?_) | (refine WD_unk (by exact rfl) ?_; ((refine WD_tf (by exact rfl) (by exact rfl) ?_ ?_) <;> (intro hb; (fail_if_success (with_reducible injection hb)); rw [hb]; (try simp only [List.length_map] at hb)))) | (refine WD_call (by exact rfl) ?_; first | (refine WD_c0 (first_rm _ _ _ _ _ ?_ ?_) ?_; (exact hyp); (exact hyp)) | (refine WD_c0 (native_rm _ _) ?_)) | ((refine WD_tf (by exact rfl) (by exact rfl) ?_ ?_) <;> (intro hb; (fail_if_success (with_reducible injection hb)); rw [hb]; (try simp only [List.length_map] at hb))) | (((with_reducible apply gC2); exact rfl) <;> (intro hb; rw [hb]))))
    (exact glV [(8, .ptr 8 0), (9, vI 0)] [(8, .box 28 (cellsOf (aG g)))] (LeV []))
  · rw [el] at e
    dsimp only at e
    have hb := (hg.good _ (nth_mem _ j hj)).2.2.2.2
    have t1 : (i == a) = false := by simp [hia]
    have ej : (idxL g.lins a u i).toNat = j := by omega
    have t2 : decide (idxL g.lins a u i < 0) = false := by simp; omega
    rw [← ej] at e hb hj
    by_cases c : n ≤ (nth g.lins (idxL g.lins a u i).toNat).bal
    · rw [if_pos ⟨rfl, c⟩] at e
      have t3 : decide (n > (nth g.lins (idxL g.lins a u i).toNat).bal) = false := by simp; omega
      have e2 : addL g a u i (-n) = { g with lins := g.lins.set (idxL g.lins a u i).toNat { nth g.lins (idxL g.lins a u i).toNat with bal := (nth g.lins (idxL g.lins a u i).toNat).bal - n } } := by rw [addL_lin (-n) hna hia k4, k4]; rfl
      rw [e, e2]
      (repeat' (first | (refine nx ?_) | (refine WD_unk (by exact rfl) ?_; ((refine WD_tf (by exact rfl) (by exact rfl) ?_ ?_) <;> (intro hb; (fail_if_success (with_reducible injection hb)); rw [hb]; (try simp only [List.length_map] at hb)))) | (refine WD_call (by exact rfl) ?_; first | (refine WD_c0 (first_rm _ _ _ _ _ ?_ ?_) ?_; (exact hyp); (exact hyp)) | (refine WD_c0 (native_rm _ _) ?_) | (refine WD_c0 (idxL_rm _ _ _ _ ?_) ?_; (exact hyp))) | ((refine WD_tf (by exact rfl) (by exact rfl) ?_ ?_) <;> (intro hb; (fail_if_success (with_reducible injection hb)); rw [hb]; (try simp only [List.length_map] at hb))) | (((with_reducible apply gC2); exact rfl) <;> (intro hb; rw [hb]))))
      (exact glV [(8, .ptr 8 0), (9, vI 0)] [(8, .box 28 (cellsOf (aG { g with lins := g.lins.set (idxL g.lins a u i).toNat { nth g.lins (idxL g.lins a u i).toNat with bal := (nth g.lins (idxL g.lins a u i).toNat).bal - n } })))] (LeV []))
    · rw [if_neg (by simp; omega), if_neg (by simp)] at e
      have t3 : decide (n > (nth g.lins (idxL g.lins a u i).toNat).bal) = true := by simp; omega
      rw [e]
      (repeat' (first | (refine nx ?_) | (refine WD_unk (by exact rfl) ?_; ((refine WD_tf (by exact rfl) (by exact rfl) ?_ ?_) <;> (intro hb; (fail_if_success (with_reducible injection hb)); rw [hb]; (try simp only [List.length_map] at hb)))) | (refine WD_call (by exact rfl) ?_; first | (refine WD_c0 (first_rm _ _ _ _ _ ?_ ?_) ?_; (exact hyp); (exact hyp)) | (refine WD_c0 (native_rm _ _) ?_) | (refine WD_c0 (idxL_rm _ _ _ _ ?_) ?_; (exact hyp))) | ((refine WD_tf (by exact rfl) (by exact rfl) ?_ ?_) <;> (intro hb; (fail_if_success (with_reducible injection hb)); rw [hb]; (try simp only [List.length_map] at hb))) | (((with_reducible apply gC2); exact rfl) <;> (intro hb; rw [hb]))))
      (exact glV [(8, .ptr 8 0), (9, vI 66)] [(8, .box 28 (cellsOf (aG led0)))] (LeV []))
  · rw [el] at e
    dsimp only at e
    rw [if_neg (by simp), if_pos rfl] at e
    have t1 : (i == a) = false := by simp [hia]
    have t2 : decide (idxL g.lins a u i < 0) = true := by
      rcases idxL_cases g.lins a u i with ⟨q, _⟩ | ⟨j, hj, q, _⟩
      · rw [q]; rfl
      · unfold findL at ho; rw [if_neg (by omega)] at ho; cases ho
    rw [e]
    (repeat' (first | (refine nx ?_) | (refine WD_unk (by exact rfl) ?_; ((refine WD_tf (by exact rfl) (by exact rfl) ?_ ?_) <;> (intro hb; (fail_if_success (with_reducible injection hb)); rw [hb]; (try simp only [List.length_map] at hb)))) | (refine WD_call (by exact rfl) ?_; first | (refine WD_c0 (first_rm _ _ _ _ _ ?_ ?_) ?_; (exact hyp); (exact hyp)) | (refine WD_c0 (native_rm _ _) ?_) | (refine WD_c0 (idxL_rm _ _ _ _ ?_) ?_; (exact hyp))) | ((refine WD_tf (by exact rfl) (by exact rfl) ?_ ?_) <;> (intro hb; (fail_if_success (with_reducible injection hb)); rw [hb]; (try simp only [List.length_map] at hb))) | (((with_reducible apply gC2); exact rfl) <;> (intro hb; rw [hb]))))
    (exact glV [(8, .ptr 8 0), (9, vI 70)] [(8, .box 28 (cellsOf (aG led0)))] (LeV []))
end Go.Proofs.YtgebgpdoddjfhaaGreat

/- Contracts of the reference's functions: what of an offer can be paid and had. -/
namespace Go.Proofs.YtgebgpdoddjfhaaGreat
set_option linter.unusedSimpArgs false
set_option linter.unusedVariables false
set_option linter.unnecessarySimpa false
set_option linter.unusedSectionVars false
set_option maxRecDepth 100000
open Go Go.RowKit Go.Am Go.Proofs.Grow

theorem cost_rm (x : Off) (n : Int) : FnM Tryz.prog 104 [] [aO x, vI n] (.tup [vI (costF x n).1, vI (costF x n).2]) [] := by
  refine FnM.of htb Tryz.func104 rfl rfl rfl rfl rfl fun cx hN h0 => ?_
  (repeat' (first | (refine nx ?_) | (refine WD_unk (by exact rfl) ?_; ((refine WD_tf (by exact rfl) (by exact rfl) ?_ ?_) <;> (intro hb; (fail_if_success (with_reducible injection hb)); rw [hb]; (try simp only [List.length_map] at hb)))) | (refine WD_call (by exact rfl) ?_; first | (refine WD_c0 (up_rm _ _ _) ?_)) | ((refine WD_tf (by exact rfl) (by exact rfl) ?_ ?_) <;> (intro hb; (fail_if_success (with_reducible injection hb)); rw [hb]; (try simp only [List.length_map] at hb))) | (((with_reducible apply gC2); exact rfl) <;> (intro hb; rw [hb]))))
  exact gE (.inr rfl) rfl rfl trivial
/-- An amount can be paid. -/
def payB (x : Off) (money n : Int) : Bool := (costF x n).2 == 0 && decide ((costF x n).1 ≤ money)
theorem payB_iff {x : Off} (hp : priceB x.num x.den = true) {n money : Int} (n0 : 0 ≤ n) (n1 : n ≤ 1000000000000) (hm : money ≤ 1000000000000) : payB x money n = true ↔ n ≤ money * x.den / x.num := by
  have hp2 := price_iff.1 hp
  have h0 := ceil_nonneg (x := x) hp2.2.1 (by omega) n0
  rw [le_quo hp2.1.1, ← ceil_le hp2.2.1]
  have e1 : (okA n && priceB x.num x.den) = true := by rw [hp, okA_iff.2 ⟨n0, n1⟩]; rfl
  unfold payB costF upF scaleF
  rw [if_pos e1]
  show ((allA [ceilP x n] (ceilP x n)).2 == 0 && decide ((allA [ceilP x n] (ceilP x n)).1 ≤ money)) = true ↔ _
  unfold allA
  simp only [List.all_cons, List.all_nil, Bool.and_true]
  cases e2 : okA (ceilP x n) with
  | true => simp
  | false =>
    have : ¬ ceilP x n ≤ 1000000000000 := fun h => by have := okA_iff.2 ⟨h0, h⟩; rw [e2] at this; cases this
    simp; omega
set_option maxHeartbeats 2000000 in
theorem aff_rm (x : Off) (m money : Int) (hp : priceB x.num x.den = true) (hm : 0 ≤ m ∧ m ≤ 1000000000000) (hmo : 0 ≤ money ∧ money ≤ 1000000000000) : FnM Tryz.prog 102 [] [aO x, vI m, vI money] (vI (min2 m (money * x.den / x.num))) [] := by
  refine FnM.of htb Tryz.func102 rfl rfl rfl rfl rfl fun cx hN h0 => ?_
  have hk := fun n n0 n1 => @payB_iff x hp n money n0 n1 hmo.2
  have hq0 : 0 ≤ money * x.den / x.num := by
    have hp2 := price_iff.1 hp
    exact Int.ediv_nonneg (Int.mul_nonneg hmo.1 (by omega)) (by omega)
  generalize money * x.den / x.num = q at *
  have hb := min2_le m q
  (repeat' (first | (refine nx ?_) | (refine WD_unk (by exact rfl) ?_; ((refine WD_tf (by exact rfl) (by exact rfl) ?_ ?_) <;> (intro hb; (fail_if_success (with_reducible injection hb)); rw [hb]; (try simp only [List.length_map] at hb)))) | ((refine WD_tf (by exact rfl) (by exact rfl) ?_ ?_) <;> (intro hb; (fail_if_success (with_reducible injection hb)); rw [hb]; (try simp only [List.length_map] at hb))) | (((with_reducible apply gC2); exact rfl) <;> (intro hb; rw [hb]))))
  (refine WA_anyV (α := Int × Int) (fun x => (x.2 - x.1).toNat) (((0 : Int), m)) [7, 8] [] (fun x => [(7, vI x.1), (8, vI x.2)]) (fun x => []) (fun x => 0 ≤ x.1 ∧ x.1 ≤ min2 m q ∧ min2 m q ≤ x.2 ∧ x.2 ≤ m) ?h0 ?_)
  case h0 => exact ⟨by simp, by dsimp only; omega, hb.1, by simp⟩
  rintro ⟨a, b⟩ ⟨h1, h2, h3, h4⟩
  dsimp only at h1 h2 h3 h4
  by_cases hab : a < b
  case neg =>
    have d1 : decide (a < b) = false := by simp [hab]
    obtain rfl : a = min2 m q := by omega
    (repeat' (first | (refine nx ?_) | (refine WD_unk (by exact rfl) ?_; ((refine WD_tf (by exact rfl) (by exact rfl) ?_ ?_) <;> (intro hb; (fail_if_success (with_reducible injection hb)); rw [hb]; (try simp only [List.length_map] at hb)))) | ((refine WD_tf (by exact rfl) (by exact rfl) ?_ ?_) <;> (intro hb; (fail_if_success (with_reducible injection hb)); rw [hb]; (try simp only [List.length_map] at hb))) | (((with_reducible apply gC2); exact rfl) <;> (intro hb; rw [hb]))))
    exact gE (.inr rfl) rfl rfl trivial
  have d1 : decide (a < b) = true := by simp [hab]
  have hmid : (a + b + 1).tdiv 2 = (a + b + 1) / 2 := Int.tdiv_eq_ediv_of_nonneg (by omega)
  have hbd : 0 ≤ (a + b + 1).tdiv 2 ∧ (a + b + 1).tdiv 2 ≤ 1000000000000 := by omega
  have hkm := hk ((a + b + 1).tdiv 2) hbd.1 hbd.2
  cases hP : payB x money ((a + b + 1).tdiv 2) with
  | true =>
    have hkk := hkm.1 hP
    unfold payB at hP
    rw [Bool.and_eq_true] at hP
    obtain ⟨t1, t2⟩ := hP
    clear hk hkm
    (repeat' (first | (refine nx ?_) | (refine WD_unk (by exact rfl) ?_; ((refine WD_tf (by exact rfl) (by exact rfl) ?_ ?_) <;> (intro hb; (fail_if_success (with_reducible injection hb)); rw [hb]; (try simp only [List.length_map] at hb)))) | ((refine WD_tf (by exact rfl) (by exact rfl) ?_ ?_) <;> (intro hb; (fail_if_success (with_reducible injection hb)); rw [hb]; (try simp only [List.length_map] at hb))) | (((with_reducible apply gC2); exact rfl) <;> (intro hb; rw [hb]))))
    rw [IntWalk.i64_in ((a + b + 1).tdiv 2) (by omega)]
    (repeat' (first | (refine nx ?_) | (refine WD_unk (by exact rfl) ?_; ((refine WD_tf (by exact rfl) (by exact rfl) ?_ ?_) <;> (intro hb; (fail_if_success (with_reducible injection hb)); rw [hb]; (try simp only [List.length_map] at hb)))) | (refine WD_call (by exact rfl) ?_; first | (refine WD_c0 (cost_rm _ _) ?_)) | ((refine WD_tf (by exact rfl) (by exact rfl) ?_ ?_) <;> (intro hb; (fail_if_success (with_reducible injection hb)); rw [hb]; (try simp only [List.length_map] at hb))) | (((with_reducible apply gC2); exact rfl) <;> (intro hb; rw [hb]))))
    refine ⟨((a + b + 1).tdiv 2, b), by dsimp only; omega, ⟨by dsimp only; omega, by dsimp only; unfold min2; split <;> omega, h3, h4⟩, ?_⟩
    (exact LeV [])
  | false =>
    have hkk : ¬ (a + b + 1).tdiv 2 ≤ q := fun h => by rw [hkm.2 h] at hP; cases hP
    have hlt : min2 m q ≤ (a + b + 1).tdiv 2 - 1 := by omega
    cases t1 : ((costF x ((a + b + 1).tdiv 2)).2 == 0) with
    | false =>
      clear hk hkm hP
      (repeat' (first | (refine nx ?_) | (refine WD_unk (by exact rfl) ?_; ((refine WD_tf (by exact rfl) (by exact rfl) ?_ ?_) <;> (intro hb; (fail_if_success (with_reducible injection hb)); rw [hb]; (try simp only [List.length_map] at hb)))) | ((refine WD_tf (by exact rfl) (by exact rfl) ?_ ?_) <;> (intro hb; (fail_if_success (with_reducible injection hb)); rw [hb]; (try simp only [List.length_map] at hb))) | (((with_reducible apply gC2); exact rfl) <;> (intro hb; rw [hb]))))
      rw [IntWalk.i64_in ((a + b + 1).tdiv 2) (by omega)]
      (repeat' (first | (refine nx ?_) | (refine WD_unk (by exact rfl) ?_; ((refine WD_tf (by exact rfl) (by exact rfl) ?_ ?_) <;> (intro hb; (fail_if_success (with_reducible injection hb)); rw [hb]; (try simp only [List.length_map] at hb)))) | (refine WD_call (by exact rfl) ?_; first | (refine WD_c0 (cost_rm _ _) ?_)) | ((refine WD_tf (by exact rfl) (by exact rfl) ?_ ?_) <;> (intro hb; (fail_if_success (with_reducible injection hb)); rw [hb]; (try simp only [List.length_map] at hb))) | (((with_reducible apply gC2); exact rfl) <;> (intro hb; rw [hb]))))
      refine ⟨(a, (a + b + 1).tdiv 2 - 1), by dsimp only; omega, ⟨h1, by dsimp only; omega, by dsimp only; omega, by dsimp only; omega⟩, ?_⟩
      (exact LeV [])
    | true =>
      have t2 : decide ((costF x ((a + b + 1).tdiv 2)).1 ≤ money) = false := by unfold payB at hP; rw [t1, Bool.true_and] at hP; exact hP
      clear hk hkm hP
      (repeat' (first | (refine nx ?_) | (refine WD_unk (by exact rfl) ?_; ((refine WD_tf (by exact rfl) (by exact rfl) ?_ ?_) <;> (intro hb; (fail_if_success (with_reducible injection hb)); rw [hb]; (try simp only [List.length_map] at hb)))) | ((refine WD_tf (by exact rfl) (by exact rfl) ?_ ?_) <;> (intro hb; (fail_if_success (with_reducible injection hb)); rw [hb]; (try simp only [List.length_map] at hb))) | (((with_reducible apply gC2); exact rfl) <;> (intro hb; rw [hb]))))
      rw [IntWalk.i64_in ((a + b + 1).tdiv 2) (by omega)]
      (repeat' (first | (refine nx ?_) | (refine WD_unk (by exact rfl) ?_; ((refine WD_tf (by exact rfl) (by exact rfl) ?_ ?_) <;> (intro hb; (fail_if_success (with_reducible injection hb)); rw [hb]; (try simp only [List.length_map] at hb)))) | (refine WD_call (by exact rfl) ?_; first | (refine WD_c0 (cost_rm _ _) ?_)) | ((refine WD_tf (by exact rfl) (by exact rfl) ?_ ?_) <;> (intro hb; (fail_if_success (with_reducible injection hb)); rw [hb]; (try simp only [List.length_map] at hb))) | (((with_reducible apply gC2); exact rfl) <;> (intro hb; rw [hb]))))
      refine ⟨(a, (a + b + 1).tdiv 2 - 1), by dsimp only; omega, ⟨h1, by dsimp only; omega, by dsimp only; omega, by dsimp only; omega⟩, ?_⟩
      (exact LeV [])
/-- What the reference's function answers of a ledger that is right. -/
theorem able_min {g : Led} {x : Off} (hc : chkO g = 0) (hp : priceB x.num x.den = true) : ableF g x = max2 0 (min2 (min2 x.amt (heldF g x.seller x.sc x.si)) (roomF g x.seller x.bc x.bi * x.den / x.num)) := by
  unfold ableF
  rw [if_neg (by simp [hc, hp])]
  unfold max2 min2
  generalize heldF g x.seller x.sc x.si = h at *
  generalize roomF g x.seller x.bc x.bi * x.den / x.num = q at *
  repeat' (first | split | omega)
set_option maxHeartbeats 2000000 in
theorem Able_rm (g : Led) (x : Off) (hl : g.lins.length ≤ 1000) (ha : g.accs.length ≤ 1000) (ho : g.offs.length ≤ 1000) (hx : chkO g = 0 → x.amt ≤ 1000000000000 ∧ (findA g.accs x.seller).2 = true ∧ assetB x.sc x.si = true ∧ assetB x.bc x.bi = true) : FnM Tryz.prog 103 [] [aG g, aO x] (vI (ableF g x)) [] := by
  refine FnM.of htb Tryz.func103 rfl rfl rfl rfl rfl fun cx hN h0 => ?_
  by_cases hc : chkO g = 0
  case neg =>
    have t1 : (chkO g != 0) = true := by simp [hc]
    have e : ableF g x = 0 := by unfold ableF; rw [if_pos (.inl hc)]
    rw [e]
    (repeat' (first | (refine nx ?_) | (refine WD_unk (by exact rfl) ?_; ((refine WD_tf (by exact rfl) (by exact rfl) ?_ ?_) <;> (intro hb; (fail_if_success (with_reducible injection hb)); rw [hb]; (try simp only [List.length_map] at hb)))) | (refine WD_call (by exact rfl) ?_; first | (refine WD_c0 (chkO_rm _ ?_ ?_ ?_) ?_; (exact hyp); (exact hyp); (exact hyp)) | (refine WD_c0 (price_rm _ _) ?_)) | ((refine WD_tf (by exact rfl) (by exact rfl) ?_ ?_) <;> (intro hb; (fail_if_success (with_reducible injection hb)); rw [hb]; (try simp only [List.length_map] at hb))) | (((with_reducible apply gC2); exact rfl) <;> (intro hb; rw [hb]))))
    exact gE (.inr rfl) rfl rfl trivial
  have t1 : (chkO g != 0) = false := by simp [hc]
  obtain ⟨x1, x2, x3, x4⟩ := hx hc
  have hr := (chkO_zero.1 hc).right
  have bh := look_bd hr x2 x3
  have bk := look_bd hr x2 x4
  rw [← (held_look hr x.seller x.sc x.si).1] at bh
  rw [← (held_look hr x.seller x.bc x.bi).2] at bk
  cases hp : priceB x.num x.den with
  | false =>
    have t2 : (!priceB x.num x.den) = true := by simp [hp]
    have e : ableF g x = 0 := by unfold ableF; rw [if_pos (.inr hp)]
    rw [e]
    (repeat' (first | (refine nx ?_) | (refine WD_unk (by exact rfl) ?_; ((refine WD_tf (by exact rfl) (by exact rfl) ?_ ?_) <;> (intro hb; (fail_if_success (with_reducible injection hb)); rw [hb]; (try simp only [List.length_map] at hb)))) | (refine WD_call (by exact rfl) ?_; first | (refine WD_c0 (chkO_rm _ ?_ ?_ ?_) ?_; (exact hyp); (exact hyp); (exact hyp)) | (refine WD_c0 (price_rm _ _) ?_)) | ((refine WD_tf (by exact rfl) (by exact rfl) ?_ ?_) <;> (intro hb; (fail_if_success (with_reducible injection hb)); rw [hb]; (try simp only [List.length_map] at hb))) | (((with_reducible apply gC2); exact rfl) <;> (intro hb; rw [hb]))))
    exact gE (.inr rfl) rfl rfl trivial
  | true =>
    have t2 : (!priceB x.num x.den) = false := by simp [hp]
    rw [able_min hc hp]
    have hp2 := price_iff.1 hp
    have hq : 0 ≤ roomF g x.seller x.bc x.bi * x.den / x.num := Int.ediv_nonneg (Int.mul_nonneg bk.2.2.1 (by omega)) (by omega)
    have hroom : 0 ≤ roomF g x.seller x.bc x.bi ∧ roomF g x.seller x.bc x.bi ≤ 1000000000000 := bk.2.2
    (repeat' (first | (refine nx ?_) | (refine WD_unk (by exact rfl) ?_; ((refine WD_tf (by exact rfl) (by exact rfl) ?_ ?_) <;> (intro hb; (fail_if_success (with_reducible injection hb)); rw [hb]; (try simp only [List.length_map] at hb)))) | (refine WD_call (by exact rfl) ?_; first | (refine WD_c0 (chkO_rm _ ?_ ?_ ?_) ?_; (exact hyp); (exact hyp); (exact hyp)) | (refine WD_c0 (price_rm _ _) ?_) | (refine WD_c0 (held_rm _ _ _ _ ?_ ?_) ?_; (exact hyp); (exact hyp))) | ((refine WD_tf (by exact rfl) (by exact rfl) ?_ ?_) <;> (intro hb; (fail_if_success (with_reducible injection hb)); rw [hb]; (try simp only [List.length_map] at hb))) | (((with_reducible apply gC2); exact rfl) <;> (intro hb; rw [hb]))))
    · refine gE (.inr rfl) rfl (congrArg vI ?_) trivial
      have hb' : min2 x.amt (heldF g x.seller x.sc x.si) < 0 := by simpa [min2] using hb
      generalize min2 x.amt (heldF g x.seller x.sc x.si) = m at *
      generalize roomF g x.seller x.bc x.bi * x.den / x.num = q at *
      unfold max2 min2
      repeat' (first | split | omega)
    · have hm : 0 ≤ (if heldF g x.seller x.sc x.si < x.amt then heldF g x.seller x.sc x.si else x.amt) ∧ (if heldF g x.seller x.sc x.si < x.amt then heldF g x.seller x.sc x.si else x.amt) ≤ 1000000000000 := by
        simp only [decide_eq_false_iff_not] at hb
        refine ⟨by omega, ?_⟩
        split <;> omega
      (repeat' (first | (refine nx ?_) | (refine WD_unk (by exact rfl) ?_; ((refine WD_tf (by exact rfl) (by exact rfl) ?_ ?_) <;> (intro hb; (fail_if_success (with_reducible injection hb)); rw [hb]; (try simp only [List.length_map] at hb)))) | (refine WD_call (by exact rfl) ?_; first | (refine WD_c0 (room_rm _ _ _ _ ?_ ?_) ?_; (exact hyp); (exact hyp)) | (refine WD_c0 (aff_rm _ _ _ ?_ ?_ ?_) ?_; (exact hyp); (exact hyp); (exact hyp))) | ((refine WD_tf (by exact rfl) (by exact rfl) ?_ ?_) <;> (intro hb; (fail_if_success (with_reducible injection hb)); rw [hb]; (try simp only [List.length_map] at hb))) | (((with_reducible apply gC2); exact rfl) <;> (intro hb; rw [hb]))))
      refine gE (.inr rfl) rfl (congrArg vI ?_) trivial
      show min2 (min2 x.amt (heldF g x.seller x.sc x.si)) _ = _
      replace hm : 0 ≤ min2 x.amt (heldF g x.seller x.sc x.si) := hm.1
      generalize min2 x.amt (heldF g x.seller x.sc x.si) = m at *
      generalize roomF g x.seller x.bc x.bi * x.den / x.num = q at *
      clear hb
      unfold max2 min2
      repeat' (first | split | omega)
end Go.Proofs.YtgebgpdoddjfhaaGreat

/- Contracts of the reference's functions: finding, taking away, making less. -/
namespace Go.Proofs.YtgebgpdoddjfhaaGreat
set_option linter.unusedSimpArgs false
set_option linter.unusedVariables false
set_option linter.unnecessarySimpa false
set_option linter.unusedSectionVars false
set_option maxRecDepth 100000
open Go Go.RowKit Go.Am Go.Proofs.Grow

def offR0 : Off := ⟨0, 0, ⟨#[]⟩, 0, ⟨#[]⟩, 0, 0, 0, 0⟩
def findO (l : List Off) (i : Int) : Off × Bool := if idxO l i < 0 then (offR0, false) else (nth l (idxO l i).toNat, true)
theorem findO_rm (l : List Off) (i : Int) (hl : l.length ≤ 1000) : FnM Tryz.prog 101 [] [lO l, vI i] (.tup [aO (findO l i).1, vB (findO l i).2]) [] := by
  refine FnM.of htb Tryz.func101 rfl rfl rfl rfl rfl fun cx hN h0 => ?_
  (repeat' (first | (refine nx ?_) | (refine WD_unk (by exact rfl) ?_; ((refine WD_tf (by exact rfl) (by exact rfl) ?_ ?_) <;> (intro hb; (fail_if_success (with_reducible injection hb)); rw [hb]; (try simp only [List.length_map] at hb)))) | ((refine WD_tf (by exact rfl) (by exact rfl) ?_ ?_) <;> (intro hb; (fail_if_success (with_reducible injection hb)); rw [hb]; (try simp only [List.length_map] at hb))) | (((with_reducible apply gC2); exact rfl) <;> (intro hb; rw [hb]))))
  (refine WA_forV (l.length) [10] [] (fun k => [(10, vI k)]) (fun k => []) (fun k => idxO l i = idxF (hasOff i) k (l.drop k)) ?h0 ?_)
  case h0 => rfl
  intro k hk hI
  by_cases hk2 : k < l.length
  case neg =>
    have d1 : decide ((k : Int) < (l.length : Int)) = false := by simp; omega
    have e := idx_end hI (by omega)
    rw [show findO l i = (offR0, false) by unfold findO; rw [if_pos (by omega)]]
    (repeat' (first | (refine nx ?_) | (refine WD_unk (by exact rfl) ?_; ((refine WD_tf (by exact rfl) (by exact rfl) ?_ ?_) <;> (intro hb; (fail_if_success (with_reducible injection hb)); rw [hb]; (try simp only [List.length_map] at hb)))) | ((refine WD_tf (by exact rfl) (by exact rfl) ?_ ?_) <;> (intro hb; (fail_if_success (with_reducible injection hb)); rw [hb]; (try simp only [List.length_map] at hb))) | (((with_reducible apply gC2); exact rfl) <;> (intro hb; rw [hb]))))
    (exact glV [(4, .ptr 4 0), (5, vB false)] [(4, .box 76 (cellsOf (aO offR0)))] (LeV []))
  have d1 : decide ((k : Int) < (l.length : Int)) = true := by simp; omega
  cases h : ((nth l k).id == i) with
  | true =>
    have e := idx_hit hI hk2 h
    rw [show findO l i = (nth l k, true) by unfold findO; rw [if_neg (by omega)]; simp [e]]
    (repeat' (first | (refine nx ?_) | (refine WD_unk (by exact rfl) ?_; ((refine WD_tf (by exact rfl) (by exact rfl) ?_ ?_) <;> (intro hb; (fail_if_success (with_reducible injection hb)); rw [hb]; (try simp only [List.length_map] at hb)))) | ((refine WD_tf (by exact rfl) (by exact rfl) ?_ ?_) <;> (intro hb; (fail_if_success (with_reducible injection hb)); rw [hb]; (try simp only [List.length_map] at hb))) | (((with_reducible apply gC2); exact rfl) <;> (intro hb; rw [hb]))))
    (exact glV [(4, .ptr 4 0), (5, vB true)] [(4, .box 76 (cellsOf (aO (nth l k))))] (LeV []))
  | false =>
    have e := idx_miss hI hk2 h
    (repeat' (first | (refine nx ?_) | (refine WD_unk (by exact rfl) ?_; ((refine WD_tf (by exact rfl) (by exact rfl) ?_ ?_) <;> (intro hb; (fail_if_success (with_reducible injection hb)); rw [hb]; (try simp only [List.length_map] at hb)))) | ((refine WD_tf (by exact rfl) (by exact rfl) ?_ ?_) <;> (intro hb; (fail_if_success (with_reducible injection hb)); rw [hb]; (try simp only [List.length_map] at hb))) | (((with_reducible apply gC2); exact rfl) <;> (intro hb; rw [hb]))))
    refine ⟨hk2, e, ?_⟩
    (exact LeV [])
def withoutO (l : List Off) (i : Int) : List Off := l.filter fun o => o.id != i
theorem without_take {l : List Off} {i : Int} {k : Nat} (hk : k < l.length) : withoutO (l.take (k + 1)) i = if ((nth l k).id != i) = true then withoutO (l.take k) i ++ [nth l k] else withoutO (l.take k) i := by
  unfold withoutO
  rw [List.take_succ_eq_append_getElem hk, List.filter_append, ← nth_getElem l k hk]
  cases h : ((nth l k).id != i) <;> simp [h]
theorem without_rm (l : List Off) (i : Int) (hl : l.length ≤ 1000) : FnM Tryz.prog 106 [] [lO l, vI i] (lO (withoutO l i)) [] := by
  refine FnM.of htb Tryz.func106 rfl rfl rfl rfl rfl fun cx hN h0 => ?_
  (repeat' (first | (refine nx ?_) | (refine WD_unk (by exact rfl) ?_; ((refine WD_tf (by exact rfl) (by exact rfl) ?_ ?_) <;> (intro hb; (fail_if_success (with_reducible injection hb)); rw [hb]; (try simp only [List.length_map] at hb)))) | ((refine WD_tf (by exact rfl) (by exact rfl) ?_ ?_) <;> (intro hb; (fail_if_success (with_reducible injection hb)); rw [hb]; (try simp only [List.length_map] at hb))) | (((with_reducible apply gC2); exact rfl) <;> (intro hb; rw [hb]))))
  refine WA_le (Le_nilT 60 5 76 9 rfl rfl) ?_
  (refine WA_forV (l.length) [10, 5] [60] (fun k => [(10, vI k), (5, .own 60)]) (fun k => [(60, .arr 76 9 ((withoutO (l.take k) i).map rO))]) (fun k => True) ?h0 ?_)
  case h0 => trivial
  intro k hk _
  have hlen : (withoutO (l.take k) i).length ≤ 1000 := Nat.le_trans (List.length_filter_le ..) (by rw [List.length_take]; omega)
  by_cases hk2 : k < l.length
  case neg =>
    have d1 : decide ((k : Int) < (l.length : Int)) = false := by simp; omega
    obtain rfl : k = l.length := by omega
    rw [List.take_length]
    (repeat' (first | (refine nx ?_) | (refine WD_unk (by exact rfl) ?_; ((refine WD_tf (by exact rfl) (by exact rfl) ?_ ?_) <;> (intro hb; (fail_if_success (with_reducible injection hb)); rw [hb]; (try simp only [List.length_map] at hb)))) | ((refine WD_tf (by exact rfl) (by exact rfl) ?_ ?_) <;> (intro hb; (fail_if_success (with_reducible injection hb)); rw [hb]; (try simp only [List.length_map] at hb))) | (((with_reducible apply gC2); exact rfl) <;> (intro hb; rw [hb]))))
    (exact glV [(4, lO (withoutO l i))] [] (LeV []))
  have d1 : decide ((k : Int) < (l.length : Int)) = true := by simp; omega
  have hst := @without_take l i k hk2
  cases h : ((nth l k).id != i) with
  | false =>
    rw [h, if_neg (by simp)] at hst
    (repeat' (first | (refine nx ?_) | (refine WD_unk (by exact rfl) ?_; ((refine WD_tf (by exact rfl) (by exact rfl) ?_ ?_) <;> (intro hb; (fail_if_success (with_reducible injection hb)); rw [hb]; (try simp only [List.length_map] at hb)))) | ((refine WD_tf (by exact rfl) (by exact rfl) ?_ ?_) <;> (intro hb; (fail_if_success (with_reducible injection hb)); rw [hb]; (try simp only [List.length_map] at hb))) | (((with_reducible apply gC2); exact rfl) <;> (intro hb; rw [hb]))))
    refine ⟨hk2, trivial, ?_⟩
    rw [hst]
    (exact LeV [])
  | true =>
    rw [h, if_pos rfl] at hst
    have hrow : (withoutO (l.take k) i).map rO ++ [rO (nth l k)] = (withoutO (l.take (k + 1)) i).map rO := by rw [hst]; simp
    (repeat' (first | (refine nx ?_) | (refine WD_unk (by exact rfl) ?_; ((refine WD_tf (by exact rfl) (by exact rfl) ?_ ?_) <;> (intro hb; (fail_if_success (with_reducible injection hb)); rw [hb]; (try simp only [List.length_map] at hb)))) | ((refine WD_tf (by exact rfl) (by exact rfl) ?_ ?_) <;> (intro hb; (fail_if_success (with_reducible injection hb)); rw [hb]; (try simp only [List.length_map] at hb))) | (((with_reducible apply gC2); exact rfl) <;> (intro hb; rw [hb]))))
    refine ⟨hk2, trivial, ?_⟩
    (exact LeV [(60, 21)])
theorem without_om (l : List Off) (i : Int) (hl : l.length ≤ 1000) : FnM Tryz.prog 106 [(10, .arr 76 9 (l.map rO))] [.own 10, vI i] (.own 60) [(60, .arr 76 9 ((withoutO l i).map rO)), (10, .arr 76 9 (l.map rO))] := by
  refine FnM.of htb Tryz.func106 rfl rfl rfl rfl rfl fun cx hN h0 => ?_
  (repeat' (first | (refine nx ?_) | (refine WD_unk (by exact rfl) ?_; ((refine WD_tf (by exact rfl) (by exact rfl) ?_ ?_) <;> (intro hb; (fail_if_success (with_reducible injection hb)); rw [hb]; (try simp only [List.length_map] at hb)))) | ((refine WD_tf (by exact rfl) (by exact rfl) ?_ ?_) <;> (intro hb; (fail_if_success (with_reducible injection hb)); rw [hb]; (try simp only [List.length_map] at hb))) | (((with_reducible apply gC2); exact rfl) <;> (intro hb; rw [hb]))))
  refine WA_le (Le_nilT 60 5 76 9 rfl rfl) ?_
  (refine WA_forV (l.length) [10, 5] [60] (fun k => [(10, vI k), (5, .own 60)]) (fun k => [(60, .arr 76 9 ((withoutO (l.take k) i).map rO))]) (fun k => True) ?h0 ?_)
  case h0 => trivial
  intro k hk _
  have hlen : (withoutO (l.take k) i).length ≤ 1000 := Nat.le_trans (List.length_filter_le ..) (by rw [List.length_take]; omega)
  by_cases hk2 : k < l.length
  case neg =>
    have d1 : decide ((k : Int) < (l.length : Int)) = false := by simp; omega
    obtain rfl : k = l.length := by omega
    rw [List.take_length]
    (repeat' (first | (refine nx ?_) | (refine WD_unk (by exact rfl) ?_; ((refine WD_tf (by exact rfl) (by exact rfl) ?_ ?_) <;> (intro hb; (fail_if_success (with_reducible injection hb)); rw [hb]; (try simp only [List.length_map] at hb)))) | ((refine WD_tf (by exact rfl) (by exact rfl) ?_ ?_) <;> (intro hb; (fail_if_success (with_reducible injection hb)); rw [hb]; (try simp only [List.length_map] at hb))) | (((with_reducible apply gC2); exact rfl) <;> (intro hb; rw [hb]))))
    (exact glV [(4, .own 60)] [(60, .arr 76 9 ((withoutO l i).map rO)), (10, .arr 76 9 (l.map rO))] (LeV []))
  have d1 : decide ((k : Int) < (l.length : Int)) = true := by simp; omega
  have hst := @without_take l i k hk2
  cases h : ((nth l k).id != i) with
  | false =>
    rw [h, if_neg (by simp)] at hst
    (repeat' (first | (refine nx ?_) | (refine WD_unk (by exact rfl) ?_; ((refine WD_tf (by exact rfl) (by exact rfl) ?_ ?_) <;> (intro hb; (fail_if_success (with_reducible injection hb)); rw [hb]; (try simp only [List.length_map] at hb)))) | ((refine WD_tf (by exact rfl) (by exact rfl) ?_ ?_) <;> (intro hb; (fail_if_success (with_reducible injection hb)); rw [hb]; (try simp only [List.length_map] at hb))) | (((with_reducible apply gC2); exact rfl) <;> (intro hb; rw [hb]))))
    refine ⟨hk2, trivial, ?_⟩
    rw [hst]
    (exact LeV [])
  | true =>
    rw [h, if_pos rfl] at hst
    have hrow : (withoutO (l.take k) i).map rO ++ [rO (nth l k)] = (withoutO (l.take (k + 1)) i).map rO := by rw [hst]; simp
    (repeat' (first | (refine nx ?_) | (refine WD_unk (by exact rfl) ?_; ((refine WD_tf (by exact rfl) (by exact rfl) ?_ ?_) <;> (intro hb; (fail_if_success (with_reducible injection hb)); rw [hb]; (try simp only [List.length_map] at hb)))) | ((refine WD_tf (by exact rfl) (by exact rfl) ?_ ?_) <;> (intro hb; (fail_if_success (with_reducible injection hb)); rw [hb]; (try simp only [List.length_map] at hb))) | (((with_reducible apply gC2); exact rfl) <;> (intro hb; rw [hb]))))
    refine ⟨hk2, trivial, ?_⟩
    (exact LeV [(60, 21)])
theorem without_erase : ∀ (l : List Off), (l.map Off.id).Pairwise (· < ·) → ∀ j, j < l.length → withoutO l (nth l j).id = l.eraseIdx j := by
  intro l
  induction l with
  | nil => intro _ j hj; simp at hj
  | cons x r ih =>
    intro h j hj
    rw [List.map_cons, List.pairwise_cons] at h
    have hr : ∀ y ∈ r, x.id < y.id := fun y hy => h.1 _ (List.mem_map.2 ⟨y, hy, rfl⟩)
    cases j with
    | zero =>
      show List.filter (fun o => o.id != x.id) (x :: r) = r
      rw [List.filter_cons, if_neg (by simp), List.filter_eq_self]
      intro y hy
      have := hr y hy
      simp; omega
    | succ j =>
      have hj' : j < r.length := by simpa using hj
      have := hr _ (nth_mem r j hj')
      show List.filter (fun o => o.id != (nth r j).id) (x :: r) = x :: r.eraseIdx j
      rw [List.filter_cons, if_pos (by simp; omega)]
      exact congrArg (x :: ·) (ih h.2 j hj')
def soldS (l : List Off) (j : Nat) (n : Int) (k : Nat) : List Off := if j < k then l.set j (cutO (nth l j) n) else l
def soldF (l : List Off) (j : Nat) (n : Int) : List Off := if (nth l j).amt - n = 0 then l.eraseIdx j else l.set j (cutO (nth l j) n)
theorem set_idsR (l : List Off) (j : Nat) (n : Int) (hj : j < l.length) : (l.set j (cutO (nth l j) n)).map Off.id = l.map Off.id := by
  rw [List.map_set]
  refine List.ext_getElem (by simp) fun k h1 h2 => ?_
  rw [List.getElem_set]
  split
  · rename_i e
    subst e
    rw [List.getElem_map, ← nth_getElem l j hj]; rfl
  · rfl
theorem nth_set_at {l : List Off} {j : Nat} (y : Off) (hj : j < l.length) : nth (l.set j y) j = y := by
  rw [nth_getElem _ j (by simpa using hj), List.getElem_set_self]
theorem nth_set_off {l : List Off} {j k : Nat} (y : Off) (hk : k < l.length) (h : ¬ j = k) : nth (l.set j y) k = nth l k := by
  rw [nth_getElem _ k (by simpa using hk), List.getElem_set_ne h, ← nth_getElem l k hk]
set_option maxHeartbeats 2000000 in
theorem sold_rm (l : List Off) (i n : Int) (j : Nat) (hl : l.length ≤ 1000) (hj : j < l.length) (hi : (nth l j).id = i) (hasc : (l.map Off.id).Pairwise (· < ·)) (hb : 0 ≤ n ∧ n ≤ (nth l j).amt ∧ (nth l j).amt ≤ 1000000000000) : FnM Tryz.prog 105 [] [lO l, vI i, vI n] (lO (soldF l j n)) [] := by
  refine FnM.of htb Tryz.func105 rfl rfl rfl rfl rfl fun cx hN h0 => ?_
  have hne : ∀ k, k < l.length → ¬ k = j → ¬ (nth l k).id = i := by
    intro k hk hkj e
    have e1 := idxO_at hasc hk
    have e2 := idxO_at hasc hj
    rw [e, ← hi] at e1
    omega
  (repeat' (first | (refine nx ?_) | (refine WD_unk (by exact rfl) ?_; ((refine WD_tf (by exact rfl) (by exact rfl) ?_ ?_) <;> (intro hb; (fail_if_success (with_reducible injection hb)); rw [hb]; (try simp only [List.length_map] at hb)))) | ((refine WD_tf (by exact rfl) (by exact rfl) ?_ ?_) <;> (intro hb; (fail_if_success (with_reducible injection hb)); rw [hb]; (try simp only [List.length_map] at hb))) | (((with_reducible apply gC2); exact rfl) <;> (intro hb; rw [hb]))))
  (refine WA_forV (l.length) [13] [10] (fun k => [(13, vI k)]) (fun k => [(10, .arr 76 9 ((soldS l j n k).map rO))]) (fun k => j < k → ¬ (nth l j).amt - n = 0) ?h0 ?_)
  case h0 => exact fun h => absurd h (by omega)
  intro k hk hI
  have hls : (soldS l j n k).length = l.length := by unfold soldS; split <;> simp
  by_cases hk2 : k < l.length
  case neg =>
    have d1 : decide ((k : Int) < (l.length : Int)) = false := by simp; omega
    have e : soldF l j n = soldS l j n k := by unfold soldF soldS; rw [if_neg (hI (by omega)), if_pos (by omega)]
    rw [e]
    (repeat' (first | (refine nx ?_) | (refine WD_unk (by exact rfl) ?_; ((refine WD_tf (by exact rfl) (by exact rfl) ?_ ?_) <;> (intro hb; (fail_if_success (with_reducible injection hb)); rw [hb]; (try simp only [List.length_map] at hb)))) | ((refine WD_tf (by exact rfl) (by exact rfl) ?_ ?_) <;> (intro hb; (fail_if_success (with_reducible injection hb)); rw [hb]; (try simp only [List.length_map] at hb))) | (((with_reducible apply gC2); exact rfl) <;> (intro hb; rw [hb]))))
    (exact glV [(6, lO (soldS l j n k))] [] (LeV []))
  have d1 : decide ((k : Int) < (l.length : Int)) = true := by simp; omega
  by_cases hkj : k = j
  case neg =>
    have e1 : nth (soldS l j n k) k = nth l k := by
      unfold soldS
      split
      · exact nth_set_off _ hk2 (by omega)
      · rfl
    have e2 : soldS l j n (k + 1) = soldS l j n k := by
      unfold soldS
      by_cases h : j < k
      · rw [if_pos (by omega), if_pos h]
      · rw [if_neg (by omega), if_neg h]
    have t1 : ((nth (soldS l j n k) k).id == i) = false := by rw [e1]; simp [hne k hk2 hkj]
    (repeat' (first | (refine nx ?_) | (refine WD_unk (by exact rfl) ?_; ((refine WD_tf (by exact rfl) (by exact rfl) ?_ ?_) <;> (intro hb; (fail_if_success (with_reducible injection hb)); rw [hb]; (try simp only [List.length_map] at hb)))) | ((refine WD_tf (by exact rfl) (by exact rfl) ?_ ?_) <;> (intro hb; (fail_if_success (with_reducible injection hb)); rw [hb]; (try simp only [List.length_map] at hb))) | (((with_reducible apply gC2); exact rfl) <;> (intro hb; rw [hb]))))
    refine ⟨hk2, fun h => hI (by omega), ?_⟩
    rw [e2]
    (exact LeV [])
  subst hkj
  have e1 : soldS l k n k = l := by unfold soldS; rw [if_neg (by omega)]
  have e2 : soldS l k n (k + 1) = l.set k (cutO (nth l k) n) := by unfold soldS; rw [if_pos (by omega)]
  have t1 : ((nth l k).id == i) = true := by simp [hi]
  rw [e1]
  have hlc : (l.set k (cutO (nth l k) n)).length ≤ 1000 := by simpa using hl
  (repeat' (first | (refine nx ?_) | (refine WD_unk (by exact rfl) ?_; ((refine WD_tf (by exact rfl) (by exact rfl) ?_ ?_) <;> (intro hb; (fail_if_success (with_reducible injection hb)); rw [hb]; (try simp only [List.length_map] at hb)))) | ((refine WD_tf (by exact rfl) (by exact rfl) ?_ ?_) <;> (intro hb; (fail_if_success (with_reducible injection hb)); rw [hb]; (try simp only [List.length_map] at hb))) | (((with_reducible apply gC2); exact rfl) <;> (intro hb; rw [hb]))))
  · rw [cut_rows]
    have hz : (nth l k).amt - n = 0 := by simpa using hb
    have e : soldF l k n = withoutO (l.set k (cutO (nth l k) n)) i := by
      have h1 := without_erase (l.set k (cutO (nth l k) n)) (by rw [set_idsR l k n hk2]; exact hasc) k (by simpa using hk2)
      rw [nth_set_at _ hk2] at h1
      unfold soldF
      rw [if_pos hz, ← hi]
      refine Eq.trans ?_ h1.symm
      rw [List.eraseIdx_eq_take_drop_succ, List.eraseIdx_eq_take_drop_succ, List.take_set_of_le (Nat.le_refl k), List.drop_set_of_lt (by omega)]
    rw [e]
    (repeat' (first | (refine nx ?_) | (refine WD_unk (by exact rfl) ?_; ((refine WD_tf (by exact rfl) (by exact rfl) ?_ ?_) <;> (intro hb; (fail_if_success (with_reducible injection hb)); rw [hb]; (try simp only [List.length_map] at hb)))) | (refine WD_call (by exact rfl) ?_; first | (refine WD_cM (without_om (l := l.set k (cutO (nth l k) n)) (i := i) ?_) ?_; (exact hyp))) | ((refine WD_tf (by exact rfl) (by exact rfl) ?_ ?_) <;> (intro hb; (fail_if_success (with_reducible injection hb)); rw [hb]; (try simp only [List.length_map] at hb))) | (((with_reducible apply gC2); exact rfl) <;> (intro hb; rw [hb]))))
    (exact glV [(6, lO (withoutO (l.set k (cutO (nth l k) n)) i))] [] (LeV []))
  · rw [cut_rows]
    refine ⟨hk2, fun _ => by simpa using hb, ?_⟩
    rw [e2]
    (exact LeV [])
end Go.Proofs.YtgebgpdoddjfhaaGreat

/- Contracts of the reference's functions: the book. -/
namespace Go.Proofs.YtgebgpdoddjfhaaGreat
set_option linter.unusedSimpArgs false
set_option linter.unusedVariables false
set_option linter.unnecessarySimpa false
set_option linter.unusedSectionVars false
set_option maxRecDepth 100000
open Go Go.RowKit Go.Am Go.Proofs.Grow

theorem cmp_bd (a b c d : Int) : -1 ≤ cmpP a b c d ∧ cmpP a b c d ≤ 1 := by
  unfold cmpP cmpI
  repeat' (first | split | decide)
theorem better_rm (x y : Off) : FnM Tryz.prog 150 [] [aO x, aO y] (vB (betO x y)) [] := by
  refine FnM.of htb Tryz.func150 rfl rfl rfl rfl rfl fun cx hN h0 => ?_
  (repeat' (first | (refine nx ?_) | (refine WD_unk (by exact rfl) ?_; ((refine WD_tf (by exact rfl) (by exact rfl) ?_ ?_) <;> (intro hb; (fail_if_success (with_reducible injection hb)); rw [hb]; (try simp only [List.length_map] at hb)))) | (refine WD_call (by exact rfl) ?_; first | (refine WD_c0 (cmpP_rm _ _ _ _) ?_)) | ((with_reducible apply WD_id); first | (refine WD_cut htb ?_) | (refine WD_cut3 htb ?_) | (refine WD_lens htb ?_) | (refine WD_caps htb ?_) | (refine WD_cps htb ?_) | (refine WD_cpp htb ?_) | (refine WD_api htb ?_) | (refine WD_apz htb ?_) | (refine WD_clr htb ?_)) | ((refine WD_tf (by exact rfl) (by exact rfl) ?_ ?_) <;> (intro hb; (fail_if_success (with_reducible injection hb)); rw [hb]; (try simp only [List.length_map] at hb))) | (((with_reducible apply gC2); exact rfl) <;> (intro hb; rw [hb]))))
  all_goals try simp only [Bool.not_eq_true', Bool.not_eq_false', decide_eq_true_eq, decide_eq_false_iff_not, bne_iff_ne, bne_eq_false_iff_eq, beq_iff_eq, beq_eq_false_iff_ne] at *
  all_goals refine gE (.inr rfl) rfl (congrArg vB ?_) trivial
  all_goals simp_all [betO]
theorem bookF_app (u : ByteArray) (i : Int) (v : ByteArray) (j : Int) (x : Off) (l : List Off) : ∀ o, bookF u i v j o (l ++ [x]) = if pairO u i v j x = true then putO x (bookF u i v j o l) else bookF u i v j o l := by
  induction l with
  | nil => intro o; rfl
  | cons y r ih => intro o; exact ih _
theorem bookF_take {u : ByteArray} {i : Int} {v : ByteArray} {j : Int} {l : List Off} {k : Nat} (hk : k < l.length) : bookF u i v j [] (l.take (k + 1)) = if pairO u i v j (nth l k) = true then putO (nth l k) (bookF u i v j [] (l.take k)) else bookF u i v j [] (l.take k) := by
  rw [List.take_succ_eq_append_getElem hk, bookF_app, ← nth_getElem l k hk]
theorem bookF_len (u : ByteArray) (i : Int) (v : ByteArray) (j : Int) (l : List Off) : ∀ o, (bookF u i v j o l).length ≤ o.length + l.length := by
  induction l with
  | nil => intro o; simp [bookF]
  | cons y r ih =>
    intro o
    unfold bookF
    have := ih (if pairO u i v j y = true then putO y o else o)
    split at this
    · rename_i h; rw [if_pos h]; rw [putO_len] at this; simp only [List.length_cons]; omega
    · rename_i h; rw [if_neg h]; simp only [List.length_cons]; omega
theorem putO_at (y : Off) : ∀ (l : List Off) (k : Nat), k ≤ l.length → (∀ m, m < k → betO y (nth l m) = false) → (k < l.length → betO y (nth l k) = true) → putO y l = l.take k ++ [y] ++ l.drop k := by
  intro l
  induction l with
  | nil => intro k hk _ _; obtain rfl : k = 0 := by simpa using hk
           rfl
  | cons x r ih =>
    intro k hk h1 h2
    cases k with
    | zero =>
      have : betO y x = true := h2 (by simp)
      show (if betO y x = true then y :: x :: r else x :: putO y r) = _
      rw [if_pos this]; rfl
    | succ k =>
      have h0 : betO y x = false := h1 0 (by omega)
      show (if betO y x = true then y :: x :: r else x :: putO y r) = _
      rw [if_neg (by simp [h0]), ih k (by simpa using hk) (fun m hm => h1 (m + 1) (by omega)) (fun h => h2 (by simpa using h))]
      rfl
set_option maxHeartbeats 4000000 in
theorem book_rm (g : Led) (u : ByteArray) (i : Int) (v : ByteArray) (j : Int) (ho : g.offs.length ≤ 500) : FnM Tryz.prog 133 [] [aG g, aT u i, aT v j] (lO (bookO g u i v j)) [] := by
  refine FnM.of htb Tryz.func133 rfl rfl rfl rfl rfl fun cx hN h0 => ?_
  (repeat' (first | (refine nx ?_) | (refine WD_unk (by exact rfl) ?_; ((refine WD_tf (by exact rfl) (by exact rfl) ?_ ?_) <;> (intro hb; (fail_if_success (with_reducible injection hb)); rw [hb]; (try simp only [List.length_map] at hb)))) | ((with_reducible apply WD_id); first | (refine WD_cut htb ?_) | (refine WD_cut3 htb ?_) | (refine WD_lens htb ?_) | (refine WD_caps htb ?_) | (refine WD_cps htb ?_) | (refine WD_cpp htb ?_) | (refine WD_api htb ?_) | (refine WD_apz htb ?_) | (refine WD_clr htb ?_)) | ((refine WD_tf (by exact rfl) (by exact rfl) ?_ ?_) <;> (intro hb; (fail_if_success (with_reducible injection hb)); rw [hb]; (try simp only [List.length_map] at hb))) | (((with_reducible apply gC2); exact rfl) <;> (intro hb; rw [hb]))))
  (refine WA_forV (g.offs.length) [14, 7] [] (fun k => [(14, vI k), (7, lO (bookF u i v j [] (g.offs.take k)))]) (fun k => []) (fun k => True) ?h0 ?_)
  case h0 => trivial
  intro k hk _
  have hlen : (bookF u i v j [] (g.offs.take k)).length ≤ 500 := Nat.le_trans (bookF_len ..) (by simp; omega)
  by_cases hk2 : k < g.offs.length
  case neg =>
    have d1 : decide ((k : Int) < (g.offs.length : Int)) = false := by simp; omega
    obtain rfl : k = g.offs.length := by omega
    rw [List.take_length]
    (repeat' (first | (refine nx ?_) | (refine WD_unk (by exact rfl) ?_; ((refine WD_tf (by exact rfl) (by exact rfl) ?_ ?_) <;> (intro hb; (fail_if_success (with_reducible injection hb)); rw [hb]; (try simp only [List.length_map] at hb)))) | ((with_reducible apply WD_id); first | (refine WD_cut htb ?_) | (refine WD_cut3 htb ?_) | (refine WD_lens htb ?_) | (refine WD_caps htb ?_) | (refine WD_cps htb ?_) | (refine WD_cpp htb ?_) | (refine WD_api htb ?_) | (refine WD_apz htb ?_) | (refine WD_clr htb ?_)) | ((refine WD_tf (by exact rfl) (by exact rfl) ?_ ?_) <;> (intro hb; (fail_if_success (with_reducible injection hb)); rw [hb]; (try simp only [List.length_map] at hb))) | (((with_reducible apply gC2); exact rfl) <;> (intro hb; rw [hb]))))
    exact gE (.inr rfl) rfl rfl trivial
  have d1 : decide ((k : Int) < (g.offs.length : Int)) = true := by simp; omega
  have hst := @bookF_take u i v j g.offs k hk2
  generalize bookF u i v j [] (g.offs.take k) = out at *
  cases hp : pairO u i v j (nth g.offs k) with
  | false =>
    rw [hp, if_neg (by simp)] at hst
    have hp' : eqT (nth g.offs k).sc (nth g.offs k).si u i = false ∨ eqT (nth g.offs k).bc (nth g.offs k).bi v j = false := by
      unfold pairO at hp; rw [Bool.and_eq_false_iff] at hp; exact hp
    (repeat' (first | ((with_reducible apply WD_id); first | (refine WD_eq (neT_step rfl rfl rfl) ?_)) | (refine nx ?_) | (refine WD_unk (by exact rfl) ?_; ((refine WD_tf (by exact rfl) (by exact rfl) ?_ ?_) <;> (intro hb; (fail_if_success (with_reducible injection hb)); rw [hb]; (try simp only [List.length_map] at hb)))) | ((with_reducible apply WD_id); first | (refine WD_cut htb ?_) | (refine WD_cut3 htb ?_) | (refine WD_lens htb ?_) | (refine WD_caps htb ?_) | (refine WD_cps htb ?_) | (refine WD_cpp htb ?_) | (refine WD_api htb ?_) | (refine WD_apz htb ?_) | (refine WD_clr htb ?_)) | ((refine WD_tf (by exact rfl) (by exact rfl) ?_ ?_) <;> (intro hb; (fail_if_success (with_reducible injection hb)); rw [hb]; (try simp only [List.length_map] at hb))) | (((with_reducible apply gC2); exact rfl) <;> (intro hb; rw [hb]))))
    all_goals first
      | (exfalso; simp_all; done)
      | (refine ⟨hk2, trivial, ?_⟩
         rw [hst]
         (exact LeV []))
  | true =>
    rw [hp, if_pos rfl] at hst
    unfold pairO at hp
    rw [Bool.and_eq_true] at hp
    have t1 : (!eqT (nth g.offs k).sc (nth g.offs k).si u i) = false := by simp [hp.1]
    have t2 : (!eqT (nth g.offs k).bc (nth g.offs k).bi v j) = false := by simp [hp.2]
    (repeat' (first | ((with_reducible apply WD_id); first | (refine WD_eq (neT_step rfl rfl rfl) ?_)) | (refine nx ?_) | (refine WD_unk (by exact rfl) ?_; ((refine WD_tf (by exact rfl) (by exact rfl) ?_ ?_) <;> (intro hb; (fail_if_success (with_reducible injection hb)); rw [hb]; (try simp only [List.length_map] at hb)))) | ((with_reducible apply WD_id); first | (refine WD_cut htb ?_) | (refine WD_cut3 htb ?_) | (refine WD_lens htb ?_) | (refine WD_caps htb ?_) | (refine WD_cps htb ?_) | (refine WD_cpp htb ?_) | (refine WD_api htb ?_) | (refine WD_apz htb ?_) | (refine WD_clr htb ?_)) | ((refine WD_tf (by exact rfl) (by exact rfl) ?_ ?_) <;> (intro hb; (fail_if_success (with_reducible injection hb)); rw [hb]; (try simp only [List.length_map] at hb))) | (((with_reducible apply gC2); exact rfl) <;> (intro hb; rw [hb]))))
    (refine WA_anyV (α := Nat) (fun x => out.length - x) (0) [10] [9] (fun x => [(10, vI x)]) (fun x => [(9, .box 76 (cellsOf (aO (nth g.offs k))))]) (fun x => x ≤ out.length ∧ ∀ m, m < x → betO (nth g.offs k) (nth out m) = false) ?h0 ?_)
    case h0 => exact ⟨Nat.zero_le _, fun m hm => absurd hm (by omega)⟩
    rintro q ⟨i1, i2⟩
    have hat := putO_at (nth g.offs k) out q i1 i2
    by_cases hq : q < out.length
    case neg =>
      have d2 : decide ((q : Int) < (out.length : Int)) = false := by simp; omega
      have e := hat (fun h => absurd h hq)
      (repeat' (first | (refine nx ?_) | (refine WD_unk (by exact rfl) ?_; ((refine WD_tf (by exact rfl) (by exact rfl) ?_ ?_) <;> (intro hb; (fail_if_success (with_reducible injection hb)); rw [hb]; (try simp only [List.length_map] at hb)))) | ((with_reducible apply WD_id); first | (refine WD_cut htb ?_) | (refine WD_cut3 htb ?_) | (refine WD_lens htb ?_) | (refine WD_caps htb ?_) | (refine WD_cps htb ?_) | (refine WD_cpp htb ?_) | (refine WD_api htb ?_) | (refine WD_apz htb ?_) | (refine WD_clr htb ?_)) | ((refine WD_tf (by exact rfl) (by exact rfl) ?_ ?_) <;> (intro hb; (fail_if_success (with_reducible injection hb)); rw [hb]; (try simp only [List.length_map] at hb))) | (((with_reducible apply gC2); exact rfl) <;> (intro hb; rw [hb]))))
      have hrow : List.drop 0 (List.take q (out.map rO)) ++ [[dI (nth g.offs k).id, dI (nth g.offs k).seller, dS (nth g.offs k).sc, dI (nth g.offs k).si, dS (nth g.offs k).bc, dI (nth g.offs k).bi, dI (nth g.offs k).amt, dI (nth g.offs k).num, dI (nth g.offs k).den]] ++ List.drop q (List.take out.length (out.map rO)) = (bookF u i v j [] (g.offs.take (k + 1))).map rO := by
        rw [hst, e, List.drop_zero, show List.take out.length (out.map rO) = out.map rO from List.take_of_length_le (by simp), List.map_append, List.map_append, List.map_take, List.map_drop]
        rfl
      refine ⟨hk2, trivial, ?_⟩
      rw [hrow]
      (exact LeV [])
    have d2 : decide ((q : Int) < (out.length : Int)) = true := by simp; omega
    cases hb : betO (nth g.offs k) (nth out q) with
    | false =>
      have t3 : (!betO (nth g.offs k) (nth out q)) = true := by simp [hb]
      (repeat' (first | (refine nx ?_) | (refine WD_unk (by exact rfl) ?_; ((refine WD_tf (by exact rfl) (by exact rfl) ?_ ?_) <;> (intro hb; (fail_if_success (with_reducible injection hb)); rw [hb]; (try simp only [List.length_map] at hb)))) | (refine WD_call (by exact rfl) ?_; first | (refine WD_c0 (better_rm _ _) ?_)) | ((with_reducible apply WD_id); first | (refine WD_cut htb ?_) | (refine WD_cut3 htb ?_) | (refine WD_lens htb ?_) | (refine WD_caps htb ?_) | (refine WD_cps htb ?_) | (refine WD_cpp htb ?_) | (refine WD_api htb ?_) | (refine WD_apz htb ?_) | (refine WD_clr htb ?_)) | ((refine WD_tf (by exact rfl) (by exact rfl) ?_ ?_) <;> (intro hb; (fail_if_success (with_reducible injection hb)); rw [hb]; (try simp only [List.length_map] at hb))) | (((with_reducible apply gC2); exact rfl) <;> (intro hb; rw [hb]))))
      refine ⟨q + 1, by omega, ⟨by omega, fun m hm => ?_⟩, ?_⟩
      · rcases (by omega : m < q ∨ m = q) with h | h
        · exact i2 m h
        · rw [h]; exact hb
      · (exact LeV [])
    | true =>
      have t3 : (!betO (nth g.offs k) (nth out q)) = false := by simp [hb]
      have e := hat (fun _ => hb)
      (repeat' (first | (refine nx ?_) | (refine WD_unk (by exact rfl) ?_; ((refine WD_tf (by exact rfl) (by exact rfl) ?_ ?_) <;> (intro hb; (fail_if_success (with_reducible injection hb)); rw [hb]; (try simp only [List.length_map] at hb)))) | (refine WD_call (by exact rfl) ?_; first | (refine WD_c0 (better_rm _ _) ?_)) | ((with_reducible apply WD_id); first | (refine WD_cut htb ?_) | (refine WD_cut3 htb ?_) | (refine WD_lens htb ?_) | (refine WD_caps htb ?_) | (refine WD_cps htb ?_) | (refine WD_cpp htb ?_) | (refine WD_api htb ?_) | (refine WD_apz htb ?_) | (refine WD_clr htb ?_)) | ((refine WD_tf (by exact rfl) (by exact rfl) ?_ ?_) <;> (intro hb; (fail_if_success (with_reducible injection hb)); rw [hb]; (try simp only [List.length_map] at hb))) | (((with_reducible apply gC2); exact rfl) <;> (intro hb; rw [hb]))))
      have hrow : List.drop 0 (List.take q (out.map rO)) ++ [[dI (nth g.offs k).id, dI (nth g.offs k).seller, dS (nth g.offs k).sc, dI (nth g.offs k).si, dS (nth g.offs k).bc, dI (nth g.offs k).bi, dI (nth g.offs k).amt, dI (nth g.offs k).num, dI (nth g.offs k).den]] ++ List.drop q (List.take out.length (out.map rO)) = (bookF u i v j [] (g.offs.take (k + 1))).map rO := by
        rw [hst, e, List.drop_zero, show List.take out.length (out.map rO) = out.map rO from List.take_of_length_le (by simp), List.map_append, List.map_append, List.map_take, List.map_drop]
        rfl
      refine ⟨hk2, trivial, ?_⟩
      rw [hrow]
      (exact LeV [])
set_option maxHeartbeats 4000000 in
theorem Book_rm (g : Led) (u : ByteArray) (i : Int) (v : ByteArray) (j : Int) (hl : g.lins.length ≤ 1000) (ha : g.accs.length ≤ 1000) (ho : g.offs.length ≤ 500) : FnM Tryz.prog 100 [] [aG g, aT u i, aT v j] (lI (bookI g u i v j)) [] := by
  refine FnM.of htb Tryz.func100 rfl rfl rfl rfl rfl fun cx hN h0 => ?_
  have ho2 : g.offs.length ≤ 1000 := by omega
  by_cases hc : chkO g = 0
  case neg =>
    have t1 : (chkO g != 0) = true := by simp [hc]
    rw [show bookI g u i v j = [] from if_neg hc]
    (repeat' (first | (refine nx ?_) | (refine WD_unk (by exact rfl) ?_; ((refine WD_tf (by exact rfl) (by exact rfl) ?_ ?_) <;> (intro hb; (fail_if_success (with_reducible injection hb)); rw [hb]; (try simp only [List.length_map] at hb)))) | (refine WD_call (by exact rfl) ?_; first | (refine WD_c0 (chkO_rm _ ?_ ?_ ?_) ?_; (exact hyp); (exact hyp); (exact hyp))) | ((with_reducible apply WD_id); first | (refine WD_cut htb ?_) | (refine WD_cut3 htb ?_) | (refine WD_lens htb ?_) | (refine WD_caps htb ?_) | (refine WD_cps htb ?_) | (refine WD_cpp htb ?_) | (refine WD_api htb ?_) | (refine WD_apz htb ?_) | (refine WD_clr htb ?_)) | ((refine WD_tf (by exact rfl) (by exact rfl) ?_ ?_) <;> (intro hb; (fail_if_success (with_reducible injection hb)); rw [hb]; (try simp only [List.length_map] at hb))) | (((with_reducible apply gC2); exact rfl) <;> (intro hb; rw [hb]))))
    (exact glV [(6, lI [])] [] (LeV []))
  have t1 : (chkO g != 0) = false := by simp [hc]
  rw [show bookI g u i v j = (bookO g u i v j).map Off.id from if_pos hc]
  have hlen : (bookO g u i v j).length ≤ 500 := Nat.le_trans (bookF_len ..) (by simp; omega)
  (repeat' (first | (refine nx ?_) | (refine WD_unk (by exact rfl) ?_; ((refine WD_tf (by exact rfl) (by exact rfl) ?_ ?_) <;> (intro hb; (fail_if_success (with_reducible injection hb)); rw [hb]; (try simp only [List.length_map] at hb)))) | (refine WD_call (by exact rfl) ?_; first | (refine WD_c0 (chkO_rm _ ?_ ?_ ?_) ?_; (exact hyp); (exact hyp); (exact hyp)) | (refine WD_c0 (book_rm _ _ _ _ _ ?_) ?_; (exact hyp))) | ((with_reducible apply WD_id); first | (refine WD_cut htb ?_) | (refine WD_cut3 htb ?_) | (refine WD_lens htb ?_) | (refine WD_caps htb ?_) | (refine WD_cps htb ?_) | (refine WD_cpp htb ?_) | (refine WD_api htb ?_) | (refine WD_apz htb ?_) | (refine WD_clr htb ?_)) | ((refine WD_tf (by exact rfl) (by exact rfl) ?_ ?_) <;> (intro hb; (fail_if_success (with_reducible injection hb)); rw [hb]; (try simp only [List.length_map] at hb))) | (((with_reducible apply gC2); exact rfl) <;> (intro hb; rw [hb]))))
  generalize bookO g u i v j = B at *
  refine WA_le (Le_nilT 60 7 3 1 rfl rfl) ?_
  (refine WA_forV (B.length) [18, 7] [60] (fun k => [(18, vI k), (7, .own 60)]) (fun k => [(60, .arr 3 1 (((B.take k).map Off.id).map rI))]) (fun k => True) ?h0 ?_)
  case h0 => trivial
  intro k hk _
  have hlk : ((B.take k).map Off.id).length ≤ 1000 := by simp; omega
  by_cases hk2 : k < B.length
  case neg =>
    have d1 : decide ((k : Int) < (B.length : Int)) = false := by simp; omega
    obtain rfl : k = B.length := by omega
    rw [List.take_length]
    (repeat' (first | (refine nx ?_) | (refine WD_unk (by exact rfl) ?_; ((refine WD_tf (by exact rfl) (by exact rfl) ?_ ?_) <;> (intro hb; (fail_if_success (with_reducible injection hb)); rw [hb]; (try simp only [List.length_map] at hb)))) | ((with_reducible apply WD_id); first | (refine WD_cut htb ?_) | (refine WD_cut3 htb ?_) | (refine WD_lens htb ?_) | (refine WD_caps htb ?_) | (refine WD_cps htb ?_) | (refine WD_cpp htb ?_) | (refine WD_api htb ?_) | (refine WD_apz htb ?_) | (refine WD_clr htb ?_)) | ((refine WD_tf (by exact rfl) (by exact rfl) ?_ ?_) <;> (intro hb; (fail_if_success (with_reducible injection hb)); rw [hb]; (try simp only [List.length_map] at hb))) | (((with_reducible apply gC2); exact rfl) <;> (intro hb; rw [hb]))))
    (exact glV [(6, lI (B.map Off.id))] [] (LeV []))
  have d1 : decide ((k : Int) < (B.length : Int)) = true := by simp; omega
  have hrow : ((B.take k).map Off.id).map rI ++ [rI (nth B k).id] = ((B.take (k + 1)).map Off.id).map rI := by
    rw [List.take_succ_eq_append_getElem hk2, ← nth_getElem B k hk2]; simp
  (repeat' (first | (refine nx ?_) | (refine WD_unk (by exact rfl) ?_; ((refine WD_tf (by exact rfl) (by exact rfl) ?_ ?_) <;> (intro hb; (fail_if_success (with_reducible injection hb)); rw [hb]; (try simp only [List.length_map] at hb)))) | ((with_reducible apply WD_id); first | (refine WD_cut htb ?_) | (refine WD_cut3 htb ?_) | (refine WD_lens htb ?_) | (refine WD_caps htb ?_) | (refine WD_cps htb ?_) | (refine WD_cpp htb ?_) | (refine WD_api htb ?_) | (refine WD_apz htb ?_) | (refine WD_clr htb ?_)) | ((refine WD_tf (by exact rfl) (by exact rfl) ?_ ?_) <;> (intro hb; (fail_if_success (with_reducible injection hb)); rw [hb]; (try simp only [List.length_map] at hb))) | (((with_reducible apply gC2); exact rfl) <;> (intro hb; rw [hb]))))
  refine ⟨hk2, trivial, ?_⟩
  (exact LeV [(60, 26)])
end Go.Proofs.YtgebgpdoddjfhaaGreat

/- Contract of the reference's crossing. -/
namespace Go.Proofs.YtgebgpdoddjfhaaGreat
set_option linter.unusedSimpArgs false
set_option linter.unusedVariables false
set_option linter.unnecessarySimpa false
set_option linter.unusedSectionVars false
set_option maxRecDepth 100000
open Go Go.RowKit Go.Am Go.Proofs.Grow

abbrev wO (z : Led) (l : List Off) : Led := ⟨z.num, z.accs, z.lins, l, z.nid, z.fees, z.link⟩
theorem findOE_rm (l : List Off) (i : Int) (p : Off × Bool) (hl : l.length ≤ 1000) (he : findO l i = p) : FnM Tryz.prog 101 [] [lO l, vI i] (.tup [aO p.1, vB p.2]) [] := he ▸ findO_rm l i hl
theorem AbleE_rm (g : Led) (x : Off) (n : Int) (hl : g.lins.length ≤ 1000) (ha : g.accs.length ≤ 1000) (ho : g.offs.length ≤ 1000) (hx : chkO g = 0 → x.amt ≤ 1000000000000 ∧ (findA g.accs x.seller).2 = true ∧ assetB x.sc x.si = true ∧ assetB x.bc x.bi = true) (he : ableF g x = n) : FnM Tryz.prog 103 [] [aG g, aO x] (vI n) [] := he ▸ Able_rm g x hl ha ho hx
theorem costE_rm (x : Off) (n : Int) (c : Int) (he : costF x n = (c, 0)) : FnM Tryz.prog 104 [] [aO x, vI n] (.tup [vI c, vI 0]) [] := by
  have := cost_rm x n
  rwa [he] at this
theorem debitE_rm (g : Led) (a : Int) (u : ByteArray) (i n : Int) (y : Led) (e : Int) (hl : g.lins.length ≤ 1000) (ha : g.accs.length ≤ 1000) (he : debitF g a u i n = (y, e)) : FnM Tryz.prog 43 [] [aG g, vI a, aT u i, vI n] (.tup [aG y, vI e]) [] := by
  have := debit_rm g a u i n hl ha
  rwa [he] at this
theorem creditE_rm (g : Led) (a : Int) (u : ByteArray) (i n : Int) (y : Led) (e : Int) (hl : g.lins.length ≤ 1000) (ha : g.accs.length ≤ 1000) (he : creditF g a u i n = (y, e)) : FnM Tryz.prog 44 [] [aG g, vI a, aT u i, vI n] (.tup [aG y, vI e]) [] := by
  have := credit_rm g a u i n hl ha
  rwa [he] at this
theorem affE_rm (x : Off) (m money r : Int) (hp : priceB x.num x.den = true) (hm : 0 ≤ m ∧ m ≤ 1000000000000) (hmo : 0 ≤ money ∧ money ≤ 1000000000000) (he : min2 m (money * x.den / x.num) = r) : FnM Tryz.prog 102 [] [aO x, vI m, vI money] (vI r) [] := he ▸ aff_rm x m money hp hm hmo
theorem withoutE_rm (l : List Off) (i : Int) (r : List Off) (hl : l.length ≤ 1000) (he : withoutO l i = r) : FnM Tryz.prog 106 [] [lO l, vI i] (lO r) [] := he ▸ without_rm l i hl
theorem paid_right {d : Deal} {id : Int} {j : Nat} {n c : Int} {y z : Led} (h : PaidO d id j n c y z) (hamt : n < (nth d.g.offs j).amt) : RightO (paidD d z j n c).g := by
  have hr := h.at_.right
  have hj := h.at_.lt
  have hx := hr.good _ (nth_mem _ j hj)
  obtain ⟨b1, b2, b3, b4, b5⟩ := useN_bd hr hx h.at_.w0 h.at_.l0
  have hn0 : 0 < useN d (nth d.g.offs j) := by rw [h.hn]; exact h.n0
  obtain ⟨s1, s2, s3, s4, s5, _⟩ := sale hr.right hx hn0 b3
  have hs := sold_spec hr.right hx hn0 b3
  rw [h.hn] at s1 s2 s3 hs
  have e1 := h.s3.symm.trans s3
  have ec : c = ceilP (nth d.g.offs j) n := congrArg Prod.fst e1
  have e2 := h.s1.symm.trans s1
  have ey := congrArg Prod.fst e2
  dsimp only at ey
  have e3 := h.s2
  rw [ey, ec, s2] at e3
  have ez : soldG d.g (nth d.g.offs j) n = z := congrArg Prod.fst e3
  rw [ez] at hs
  have hlen := hr.len
  have hn1 := h.n0
  unfold paidD
  dsimp only
  refine ⟨hs.right.offs _, by simpa using hlen, hs.head hr.head _, fun y hy => ?_, fun y hy => ?_, ?_⟩
  · dsimp only at hy ⊢
    rcases List.mem_or_eq_of_mem_set hy with q | q
    · exact hs.good (hr.good y q)
    · subst q
      have hg := hs.good hx
      exact ⟨hg.seller, hg.id, hg.sell, hg.buy, hg.two, by have := hx.amt; show 1 ≤ (nth d.g.offs j).amt - n ∧ (nth d.g.offs j).amt - n ≤ 1000000000000; omega, hg.num, hg.den, hg.low⟩
  · dsimp only at hy ⊢
    rw [hs.nid]
    rcases List.mem_or_eq_of_mem_set hy with q | q
    · exact hr.next y q
    · subst q; exact (show (nth d.g.offs j).id < d.g.nid from hr.next _ (nth_mem _ j hj))
  · dsimp only
    rw [ids_same (y := cutO (nth d.g.offs j) n) hj rfl]; exact hr.asc
theorem find_at {l : List Off} (hasc : (l.map Off.id).Pairwise (· < ·)) {j : Nat} (hj : j < l.length) : findO l (nth l j).id = (nth l j, true) := by
  have := idxO_at hasc hj
  unfold findO
  rw [if_neg (by omega), this]; rfl
theorem able_hyp {g : Led} (hr : RightO g) {x : Off} (hx : x ∈ g.offs) : chkO g = 0 → x.amt ≤ 1000000000000 ∧ (findA g.accs x.seller).2 = true ∧ assetB x.sc x.si = true ∧ assetB x.bc x.bi = true := fun _ => by
  have := hr.good x hx
  exact ⟨this.amt.2, this.seller, this.sell, this.buy⟩
theorem use_aff {d : Deal} {x : Off} (hp : priceB x.num x.den = true) (w1 : d.want ≤ 1000000000000) : min2 (min2 d.want (ablP d.g x)) (d.left * x.den / x.num) = useN d x := by
  unfold useN withinF
  rw [if_pos hp]
  generalize ablP d.g x = a at *
  generalize d.left * x.den / x.num = q at *
  unfold min2
  repeat' (first | split | omega)
theorem credit_offs {g : Led} {a : Int} {u : ByteArray} {i n : Int} {x : Led} (h : creditF g a u i n = (x, 0)) : x.offs = g.offs := by
  unfold creditF at h
  split at h
  · rename_i hf; exact absurd (congrArg Prod.snd h) hf
  · split at h
    · split at h
      · exact absurd (congrArg Prod.snd h) (by simp)
      · have e := congrArg Prod.fst h
        dsimp only at e
        rw [← e]; exact addL_offs ..
    · split at h
      · exact absurd (congrArg Prod.snd h) (by simp)
      · have e := congrArg Prod.fst h
        dsimp only at e
        rw [← e]; exact addL_offs ..
structure SoldOk (l : List Off) (i n : Int) (r : List Off) : Prop where
  ex : ∃ j, j < l.length ∧ (nth l j).id = i ∧ (l.map Off.id).Pairwise (· < ·) ∧ (0 ≤ n ∧ n ≤ (nth l j).amt ∧ (nth l j).amt ≤ 1000000000000) ∧ soldF l j n = r
  len : l.length ≤ 1000
theorem soldE_rm (l : List Off) (i n : Int) (r : List Off) (h : SoldOk l i n r) : FnM Tryz.prog 105 [] [lO l, vI i, vI n] (lO r) [] := by
  obtain ⟨j, h1, h2, h3, h4, h5⟩ := h.ex
  exact h5 ▸ sold_rm l i n j h.len h1 h2 h3 h4
theorem find_gone {l : List Off} {i : Int} : findO (withoutO l i) i = (offR0, false) := by
  rcases idxO_cases (withoutO l i) i with ⟨h, _⟩ | ⟨j, hj, h, e⟩
  · unfold findO; rw [if_pos (by omega)]
  · have := nth_mem (withoutO l i) j hj
    unfold withoutO at this
    rw [List.mem_filter] at this
    have h2 := this.2
    unfold withoutO at e
    simp [e] at h2
theorem without_twice (l : List Off) (i : Int) : withoutO (withoutO l i) i = withoutO l i := by
  unfold withoutO; rw [List.filter_filter]; simp
theorem able_cut {g : Led} {x : Off} {n : Int} (h : x.amt - n = 0) : ablP g (cutO x n) = 0 := by
  have e : (cutO x n).amt = 0 := h
  unfold ablP
  rw [e]
  unfold max2 min2
  generalize heldF g (cutO x n).seller (cutO x n).sc (cutO x n).si = a
  generalize withinF (cutO x n) (roomF g (cutO x n).seller (cutO x n).bc (cutO x n).bi) = b
  repeat' (first | split | omega)
theorem nth_ids (b : List Off) {k : Nat} (hk : k < b.length) : nth (b.map Off.id) k = (nth b k).id := by
  rw [nth_getElem _ k (by simpa using hk), List.getElem_map, ← nth_getElem b k hk]
set_option maxHeartbeats 8000000 in
theorem crossR_rm (g : Led) (t : Int) (u : ByteArray) (i : Int) (v : ByteArray) (j n most : Int) (hl : g.lins.length ≤ 1000) (ha : g.accs.length ≤ 1000) (ho : g.offs.length ≤ 12) :
    FnM Tryz.prog 81 [] [aG g, vI t, aT u i, aT v j, vI n, vI most] (.tup [aG (crossF g t u i v j n most).1, vI (crossF g t u i v j n most).2.1, vI (crossF g t u i v j n most).2.2.1, vI (crossF g t u i v j n most).2.2.2]) [] := by
  refine FnM.of htb Tryz.func81 rfl rfl rfl rfl rfl fun cx hN h0 => ?_
  by_cases hc : chkO g = 0
  case neg =>
    have hd : (chkO g != 0) = true := by simp [hc]
    have e : crossF g t u i v j n most = (led0, 0, 0, chkO g) := if_pos hc
    rw [e]
    (repeat' (first | (refine nx ?_) | (refine WD_unk (by exact rfl) ?_; ((refine WD_tf (by exact rfl) (by exact rfl) ?_ ?_) <;> (intro hb; (fail_if_success (with_reducible injection hb)); rw [hb]; (try simp only [List.length_map] at hb)))) | (refine WD_call (by exact rfl) ?_; first | (refine WD_c0 (chkO_rm _ ?_ ?_ ?_) ?_; (exact hyp); (exact hyp); (exact hyp))) | ((with_reducible apply WD_id); first | (refine WD_cut htb ?_) | (refine WD_cut3 htb ?_) | (refine WD_lens htb ?_) | (refine WD_caps htb ?_) | (refine WD_cps htb ?_) | (refine WD_cpp htb ?_) | (refine WD_api htb ?_) | (refine WD_apz htb ?_) | (refine WD_clr htb ?_)) | ((refine WD_tf (by exact rfl) (by exact rfl) ?_ ?_) <;> (intro hb; (fail_if_success (with_reducible injection hb)); rw [hb]; (try simp only [List.length_map] at hb))) | (((with_reducible apply gC2); exact rfl) <;> (intro hb; rw [hb]))))
    (exact glV [(12, .ptr 12 0), (13, vI 0), (14, vI 0), (15, vI (chkO g))] [(12, .box 28 (cellsOf (aG led0)))] (LeV []))
  have hd : (chkO g != 0) = false := by simp [hc]
  have hr := chkO_zero.1 hc
  (repeat' (first | ((with_reducible apply WD_id); first | (refine WD_eq (eqT_step rfl rfl rfl) ?_)) | (refine nx ?_) | (refine WD_unk (by exact rfl) ?_; ((refine WD_tf (by exact rfl) (by exact rfl) ?_ ?_) <;> (intro hb; (fail_if_success (with_reducible injection hb)); rw [hb]; (try simp only [List.length_map] at hb)))) | (refine WD_call (by exact rfl) ?_; first | (refine WD_c0 (chkO_rm _ ?_ ?_ ?_) ?_; (exact hyp); (exact hyp); (exact hyp)) | (refine WD_c0 (asset_rm _ _) ?_) | (refine WD_c0 (okA_rm _) ?_) | (refine WD_c0 (Book_rm _ _ _ _ _ ?_ ?_ ?_) ?_; (exact hyp); (exact hyp); (exact hyp))) | ((with_reducible apply WD_id); first | (refine WD_cut htb ?_) | (refine WD_cut3 htb ?_) | (refine WD_lens htb ?_) | (refine WD_caps htb ?_) | (refine WD_cps htb ?_) | (refine WD_cpp htb ?_) | (refine WD_api htb ?_) | (refine WD_apz htb ?_) | (refine WD_clr htb ?_)) | ((refine WD_tf (by exact rfl) (by exact rfl) ?_ ?_) <;> (intro hb; (fail_if_success (with_reducible injection hb)); rw [hb]; (try simp only [List.length_map] at hb))) | (((with_reducible apply gC2); exact rfl) <;> (intro hb; rw [hb]))))
  all_goals try simp only [Bool.not_eq_true', Bool.not_eq_false', decide_eq_true_eq, decide_eq_false_iff_not, bne_iff_ne, bne_eq_false_iff_eq, beq_iff_eq, beq_eq_false_iff_ne] at *
  all_goals try (first
    | (have e : crossF g t u i v j n most = (led0, 0, 0, 71) := by (simp [crossF, *]; done)
       rw [e]
       (exact glV [(12, .ptr 12 0), (13, vI 0), (14, vI 0), (15, vI 71)] [(12, .box 28 (cellsOf (aG led0)))] (LeV [])))
    | (have e : crossF g t u i v j n most = (led0, 0, 0, 65) := by (simp [crossF, *]; done)
       rw [e]
       (exact glV [(12, .ptr 12 0), (13, vI 0), (14, vI 0), (15, vI 65)] [(12, .box 28 (cellsOf (aG led0)))] (LeV []))))
  have q1 : okA n = true := by assumption
  have q2 : okA most = true := by assumption
  have e : crossF g t u i v j n most = ((crossL t (bookO g u i v j) ⟨g, n, most⟩).g, n - (crossL t (bookO g u i v j) ⟨g, n, most⟩).want, most - (crossL t (bookO g u i v j) ⟨g, n, most⟩).left, 0) := by
    simp [crossF, crossD, *]
  rw [e]
  clear e
  have n2 := okA_iff.1 q1
  have m2 := okA_iff.1 q2
  have hst := CrI.start (t := t) hr u i v j n2.1 m2.1
  have hbl : (bookO g u i v j).length ≤ 12 := by
    have h1 := (book_srt hr u i v j).2.2.2
    have h2 := List.length_filter_le (pairO u i v j) g.offs
    omega
  have hbi : bookI g u i v j = (bookO g u i v j).map Off.id := if_pos hc
  rw [hbi]
  have hpair : ∀ x ∈ bookO g u i v j, x.sc = u ∧ x.si = i ∧ x.bc = v ∧ x.bi = j := by
    intro x hx
    have h1 := (((book_srt hr u i v j).2.2.1 x).1 hx).2
    unfold pairO at h1
    rw [Bool.and_eq_true, eqT_iff, eqT_iff] at h1
    exact ⟨h1.1.1, h1.1.2, h1.2.1, h1.2.2⟩
  generalize bookO g u i v j = b at *
  (refine WA_anyV (α := Nat × Deal × Int × Int) (fun x => b.length - x.1) ((0, ⟨g, n, most⟩, 0, 0)) [62, 17, 18] [6] (fun x => [(62, vI x.1), (17, vI x.2.2.1), (18, vI x.2.2.2)]) (fun x => [(6, .box 28 (cellsOf (aG x.2.1.g)))]) (fun x => CrI t g n most b x.1 x.2.1 ∧ x.2.2.1 = n - x.2.1.want ∧ x.2.2.2 = most - x.2.1.left) ?h0 ?_)
  case h0 => exact ⟨hst, by dsimp only; omega, by dsimp only; omega⟩
  rintro ⟨k, d, p, q⟩ ⟨hI, hp, hq⟩
  dsimp only at hI hp hq
  have s2 := hI.w0
  have s3 := hI.w1
  have s4 := hI.l0
  have s5 := hI.l1
  have hbm : (b.map Off.id).length = b.length := by simp
  by_cases hk : k < b.length
  case neg =>
    have d1 : decide ((k : Int) < ((b.map Off.id).length : Int)) = false := by rw [hbm]; simp; omega
    have d2 : decide ((k : Int) < (b.length : Int)) = false := by simp; omega
    have hkl := hI.kl
    obtain rfl : k = b.length := by omega
    have s1 := hI.fin
    rw [s1, ← hp, ← hq]
    (repeat' (first | (refine nx ?_) | (refine WD_unk (by exact rfl) ?_; ((refine WD_tf (by exact rfl) (by exact rfl) ?_ ?_) <;> (intro hb; (fail_if_success (with_reducible injection hb)); rw [hb]; (try simp only [List.length_map] at hb)))) | ((with_reducible apply WD_id); first | (refine WD_cut htb ?_) | (refine WD_cut3 htb ?_) | (refine WD_lens htb ?_) | (refine WD_caps htb ?_) | (refine WD_cps htb ?_) | (refine WD_cpp htb ?_) | (refine WD_api htb ?_) | (refine WD_apz htb ?_) | (refine WD_clr htb ?_)) | ((refine WD_tf (by exact rfl) (by exact rfl) ?_ ?_) <;> (intro hb; (fail_if_success (with_reducible injection hb)); rw [hb]; (try simp only [List.length_map] at hb))) | (((with_reducible apply gC2); exact rfl) <;> (intro hb; rw [hb]))))
    (exact glV [(12, .ptr 12 0), (13, vI p), (14, vI q), (15, vI 0)] [(12, .box 28 (cellsOf (aG d.g)))] (LeV []))
  have d1 : decide ((k : Int) < ((b.map Off.id).length : Int)) = true := by rw [hbm]; simp; omega
  have d2 : decide ((k : Int) < (b.length : Int)) = true := by simp; omega
  have hid := nth_ids b hk
  obtain ⟨j', ha', hx'⟩ := hI.at hk n2.2 m2.2
  have hxm : nth b k ∈ b := nth_mem b k hk
  have hpr := hpair _ hxm
  obtain ⟨L1, L2, L3, L4⟩ := ha'.lens
  have hra := ha'.right
  have hca := chkO_zero.2 hra
  have hja := ha'.lt
  have hidj : nth (b.map Off.id) k = (nth d.g.offs j').id := by rw [hid, hx']
  have hf1 : findO d.g.offs (nth (b.map Off.id) k) = (nth d.g.offs j', true) := by rw [hidj]; exact find_at hra.asc hja
  rw [← hx'] at hpr
  have hgo := hra.good _ (nth_mem _ j' hja)
  by_cases ht : (nth b k).seller = t
  · have t1 : ((nth d.g.offs j').seller == t) = true := by rw [hx']; simp [ht]
    (repeat' (first | (refine nx ?_) | (refine WD_unk (by exact rfl) ?_; ((refine WD_tf (by exact rfl) (by exact rfl) ?_ ?_) <;> (intro hb; (fail_if_success (with_reducible injection hb)); rw [hb]; (try simp only [List.length_map] at hb)))) | (refine WD_call (by exact rfl) ?_; first | (refine WD_e0 (fun h => findOE_rm _ _ _ ?_ h) ?_; (exact hyp))) | ((with_reducible apply WD_id); first | (refine WD_cut htb ?_) | (refine WD_cut3 htb ?_) | (refine WD_lens htb ?_) | (refine WD_caps htb ?_) | (refine WD_cps htb ?_) | (refine WD_cpp htb ?_) | (refine WD_api htb ?_) | (refine WD_apz htb ?_) | (refine WD_clr htb ?_)) | ((refine WD_tf (by exact rfl) (by exact rfl) ?_ ?_) <;> (intro hb; (fail_if_success (with_reducible injection hb)); rw [hb]; (try simp only [List.length_map] at hb))) | (((with_reducible apply gC2); exact rfl) <;> (intro hb; rw [hb]))))
    refine ⟨(k + 1, d, p, q), by dsimp only; omega, ⟨hI.skip hk ht, hp, hq⟩, ?_⟩
    (exact LeV [])
  have t1 : ((nth d.g.offs j').seller == t) = false := by rw [hx']; simp [ht]
  have hab := able_hyp hra (nth_mem _ j' hja)
  have hae : ableF d.g (nth d.g.offs j') = ablP d.g (nth d.g.offs j') := by rw [able_eqP, if_pos hca]
  have hpp := hgo.price
  have huse := use_aff (d := d) hpp ha'.w1
  have ub := useN_bd hra hgo ha'.w0 ha'.l0
  have han := able_nonneg d.g (nth d.g.offs j')
  have hw : n - p = d.want := by omega
  have hlf : most - q = d.left := by omega
  have hm1 : 0 ≤ (if ablP d.g (nth d.g.offs j') < n - p then ablP d.g (nth d.g.offs j') else n - p) ∧ (if ablP d.g (nth d.g.offs j') < n - p then ablP d.g (nth d.g.offs j') else n - p) ≤ 1000000000000 := by split <;> omega
  have hm2 : 0 ≤ most - q ∧ most - q ≤ 1000000000000 := by omega
  have hua : min2 (if ablP d.g (nth d.g.offs j') < n - p then ablP d.g (nth d.g.offs j') else n - p) ((most - q) * (nth d.g.offs j').den / (nth d.g.offs j').num) = useN d (nth d.g.offs j') := by rw [hw, hlf]; exact huse
  have hbn : 0 ≤ p ∧ p ≤ n ∧ 0 ≤ q ∧ q ≤ most := by omega
  have hwo : withoutO d.g.offs (nth (b.map Off.id) k) = d.g.offs.eraseIdx j' := by rw [hidj]; exact without_erase _ hra.asc _ hja
  rcases use_cases ha' with ⟨e1, e2, e3⟩ | ⟨e1, e2, e3⟩ | ⟨n', c', y', z', hP, hBD⟩
  · obtain ⟨s1, _⟩ := hI.stop hk ht ha' e3
    rw [s1, ← hp, ← hq]
    rw [e1] at hua
    have t3 : decide (ablP d.g (nth d.g.offs j') > 0) = true := by simp [e2]
    (repeat' (first | (refine nx ?_) | (refine WD_unk (by exact rfl) ?_; ((refine WD_tf (by exact rfl) (by exact rfl) ?_ ?_) <;> (intro hb; (fail_if_success (with_reducible injection hb)); rw [hb]; (try simp only [List.length_map] at hb)))) | (refine WD_call (by exact rfl) ?_; first | (refine WD_e0 (fun h => findOE_rm _ _ _ ?_ h) ?_; (exact hyp)) | (refine WD_e0 (fun h => AbleE_rm (n := ablP d.g (nth d.g.offs j')) _ _ ?_ ?_ ?_ ?_ h) ?_; (exact hyp); (exact hyp); (exact hyp); (exact hyp)) | (refine WD_e0 (fun h => affE_rm (r := 0) _ _ _ ?_ ?_ ?_ h) ?_; (exact hyp); (exact hyp); (exact hyp))) | ((with_reducible apply WD_id); first | (refine WD_cut htb ?_) | (refine WD_cut3 htb ?_) | (refine WD_lens htb ?_) | (refine WD_caps htb ?_) | (refine WD_cps htb ?_) | (refine WD_cpp htb ?_) | (refine WD_api htb ?_) | (refine WD_apz htb ?_) | (refine WD_clr htb ?_)) | ((refine WD_tf (by exact rfl) (by exact rfl) ?_ ?_) <;> (intro hb; (fail_if_success (with_reducible injection hb)); rw [hb]; (try simp only [List.length_map] at hb))) | (((with_reducible apply gC2); exact rfl) <;> (intro hb; rw [hb]))))
    (exact glV [(12, .ptr 12 0), (13, vI p), (14, vI q), (15, vI 0)] [(12, .box 28 (cellsOf (aG d.g)))] (LeV []))
  · rw [e1] at hua
    have t3 : decide (ablP d.g (nth d.g.offs j') > 0) = false := by simp [e2]
    (repeat' (first | (refine nx ?_) | (refine WD_unk (by exact rfl) ?_; ((refine WD_tf (by exact rfl) (by exact rfl) ?_ ?_) <;> (intro hb; (fail_if_success (with_reducible injection hb)); rw [hb]; (try simp only [List.length_map] at hb)))) | (refine WD_call (by exact rfl) ?_; first | (refine WD_e0 (fun h => findOE_rm _ _ _ ?_ h) ?_; (exact hyp)) | (refine WD_e0 (fun h => AbleE_rm (n := ablP d.g (nth d.g.offs j')) _ _ ?_ ?_ ?_ ?_ h) ?_; (exact hyp); (exact hyp); (exact hyp); (exact hyp)) | (refine WD_e0 (fun h => affE_rm (r := 0) _ _ _ ?_ ?_ ?_ h) ?_; (exact hyp); (exact hyp); (exact hyp)) | (refine WD_e0 (fun h => withoutE_rm (r := d.g.offs.eraseIdx j') _ _ ?_ h) ?_; (exact hyp))) | ((with_reducible apply WD_id); first | (refine WD_cut htb ?_) | (refine WD_cut3 htb ?_) | (refine WD_lens htb ?_) | (refine WD_caps htb ?_) | (refine WD_cps htb ?_) | (refine WD_cpp htb ?_) | (refine WD_api htb ?_) | (refine WD_apz htb ?_) | (refine WD_clr htb ?_)) | ((refine WD_tf (by exact rfl) (by exact rfl) ?_ ?_) <;> (intro hb; (fail_if_success (with_reducible injection hb)); rw [hb]; (try simp only [List.length_map] at hb))) | (((with_reducible apply gC2); exact rfl) <;> (intro hb; rw [hb]))))
    refine ⟨(k + 1, _, p, q), by dsimp only; omega, ⟨hI.next hk ht ha' hx' e3, hp, hq⟩, ?_⟩
    (exact LeV [])
  have hua' := hua.trans hP.hn
  have hn0 := hP.n0
  have hnw := hP.nw
  have hc0 := hP.c0
  have hcl := hP.cl
  have t2 : decide (n' > 0) = true := by simp [hn0]
  have hco := hP.s3
  have hdb := hP.s1
  have hcr := hP.s2
  have hzo := (credit_offs hcr).trans hP.yo
  rw [hpr.1, hpr.2.1] at hdb
  rw [hpr.2.2.1, hpr.2.2.2] at hcr
  have M1 := hP.ya
  have M2 := hP.yl
  have M3 := hP.za
  have M4 := hP.zl
  have hna := hP.na
  have ham := hP.am
  have hsold : ∀ r, soldF d.g.offs j' n' = r → SoldOk z'.offs (nth (b.map Off.id) k) n' r := by
    intro r hr
    rw [hzo]
    exact ⟨⟨j', hja, hidj.symm, hra.asc, ⟨by omega, hna, ham⟩, hr⟩, L3⟩
  have hle : (d.g.offs.eraseIdx j').length ≤ 1000 := Nat.le_trans (List.length_eraseIdx_le ..) L3
  have hbn2 : 0 ≤ p + n' ∧ p + n' ≤ n ∧ 0 ≤ q + c' ∧ q + c' ≤ most := by omega
  have hp3 : p + n' = n - (paidD d z' j' n' c').want := by show p + n' = n - (d.want - n'); omega
  have hq3 : q + c' = most - (paidD d z' j' n' c').left := by show q + c' = most - (d.left - c'); omega
  clear hua hw hlf huse ub hbn hab
  have hab := able_hyp hra (nth_mem _ j' hja)
  by_cases hz : (nth d.g.offs j').amt - n' = 0
  · have h0 : ablP z' (cutO (nth d.g.offs j') n') = 0 := able_cut hz
    rcases hBD with ⟨e2, _⟩ | ⟨_, e3⟩
    · omega
    have hso := hsold (d.g.offs.eraseIdx j') (by unfold soldF; rw [if_pos hz])
    have hf2 : findO (d.g.offs.eraseIdx j') (nth (b.map Off.id) k) = (offR0, false) := by rw [← hwo]; exact find_gone
    have hw2 : withoutO (d.g.offs.eraseIdx j') (nth (b.map Off.id) k) = d.g.offs.eraseIdx j' := by rw [← hwo]; exact without_twice ..
    (repeat' (first | (refine nx ?_) | (refine WD_unk (by exact rfl) ?_; ((refine WD_tf (by exact rfl) (by exact rfl) ?_ ?_) <;> (intro hb; (fail_if_success (with_reducible injection hb)); rw [hb]; (try simp only [List.length_map] at hb)))) | (refine WD_call (by exact rfl) ?_; first | (refine WD_e0 (fun h => findOE_rm (l := d.g.offs) _ _ ?_ h) ?_; (exact hyp)) | (refine WD_e0 (fun h => findOE_rm (l := d.g.offs.eraseIdx j') (p := (offR0, false)) _ ?_ h) ?_; (exact hyp)) | (refine WD_e0 (fun h => AbleE_rm (g := d.g) (n := ablP d.g (nth d.g.offs j')) _ ?_ ?_ ?_ ?_ h) ?_; (exact hyp); (exact hyp); (exact hyp); (exact hyp)) | (refine WD_e0 (fun h => affE_rm (r := n') _ _ _ ?_ ?_ ?_ h) ?_; (exact hyp); (exact hyp); (exact hyp)) | (refine WD_e0 (fun h => costE_rm _ _ _ h) ?_) | (refine WD_e0 (fun h => debitE_rm (y := y') (e := 0) _ _ _ _ _ ?_ ?_ h) ?_; (exact hyp); (exact hyp)) | (refine WD_e0 (fun h => creditE_rm (g := y') (y := z') (e := 0) _ _ _ _ ?_ ?_ h) ?_; (exact hyp); (exact hyp)) | (refine WD_e0 (fun h => soldE_rm (r := d.g.offs.eraseIdx j') _ _ _ h) ?_) | (refine WD_e0 (fun h => withoutE_rm (l := d.g.offs.eraseIdx j') (r := d.g.offs.eraseIdx j') _ ?_ h) ?_; (exact hyp))) | ((with_reducible apply WD_id); first | (refine WD_cut htb ?_) | (refine WD_cut3 htb ?_) | (refine WD_lens htb ?_) | (refine WD_caps htb ?_) | (refine WD_cps htb ?_) | (refine WD_cpp htb ?_) | (refine WD_api htb ?_) | (refine WD_apz htb ?_) | (refine WD_clr htb ?_)) | ((refine WD_tf (by exact rfl) (by exact rfl) ?_ ?_) <;> (intro hb; (fail_if_success (with_reducible injection hb)); rw [hb]; (try simp only [List.length_map] at hb))) | (((with_reducible apply gC2); exact rfl) <;> (intro hb; rw [hb]))))
    refine ⟨(k + 1, _, p + n', q + c'), by dsimp only; omega, ⟨hI.next hk ht ha' hx' e3, hp3, hq3⟩, ?_⟩
    (exact LeV [])
  · have hlt : n' < (nth d.g.offs j').amt := by omega
    have hr2 := paid_right hP hlt
    have hc2 : chkO (wO z' (d.g.offs.set j' (cutO (nth d.g.offs j') n'))) = 0 := chkO_zero.2 hr2
    have hso := hsold (d.g.offs.set j' (cutO (nth d.g.offs j') n')) (by unfold soldF; rw [if_neg hz])
    have hset : (d.g.offs.set j' (cutO (nth d.g.offs j') n')).length ≤ 1000 := by simpa using L3
    have hasc2 : ((d.g.offs.set j' (cutO (nth d.g.offs j') n')).map Off.id).Pairwise (· < ·) := by rw [set_idsR _ _ _ hja]; exact hra.asc
    have hj2 : j' < (d.g.offs.set j' (cutO (nth d.g.offs j') n')).length := by simpa using hja
    have hf2 : findO (d.g.offs.set j' (cutO (nth d.g.offs j') n')) (nth (b.map Off.id) k) = (cutO (nth d.g.offs j') n', true) := by
      have h := find_at hasc2 hj2
      rw [nth_set_at _ hja] at h
      rw [hidj]; exact h
    have hw2 : withoutO (d.g.offs.set j' (cutO (nth d.g.offs j') n')) (nth (b.map Off.id) k) = d.g.offs.eraseIdx j' := by
      have h := without_erase _ hasc2 _ hj2
      rw [nth_set_at _ hja] at h
      rw [hidj]
      refine Eq.trans h ?_
      rw [List.eraseIdx_eq_take_drop_succ, List.eraseIdx_eq_take_drop_succ, List.take_set_of_le (Nat.le_refl j'), List.drop_set_of_lt (by omega)]
    have hmem : cutO (nth d.g.offs j') n' ∈ d.g.offs.set j' (cutO (nth d.g.offs j') n') := by
      have h := nth_mem _ j' hj2
      rwa [nth_set_at _ hja] at h
    have hab2 : chkO (wO z' (d.g.offs.set j' (cutO (nth d.g.offs j') n'))) = 0 → (cutO (nth d.g.offs j') n').amt ≤ 1000000000000 ∧ (findA (wO z' (d.g.offs.set j' (cutO (nth d.g.offs j') n'))).accs (cutO (nth d.g.offs j') n').seller).2 = true ∧ assetB (cutO (nth d.g.offs j') n').sc (cutO (nth d.g.offs j') n').si = true ∧ assetB (cutO (nth d.g.offs j') n').bc (cutO (nth d.g.offs j') n').bi = true := able_hyp hr2 hmem
    have hae2 : ableF (wO z' (d.g.offs.set j' (cutO (nth d.g.offs j') n'))) (cutO (nth d.g.offs j') n') = ablP z' (cutO (nth d.g.offs j') n') := by rw [able_eqP, if_pos hc2]; rfl
    have M5 : (wO z' (d.g.offs.set j' (cutO (nth d.g.offs j') n'))).lins.length ≤ 1000 := M4
    have M6 : (wO z' (d.g.offs.set j' (cutO (nth d.g.offs j') n'))).accs.length ≤ 1000 := M3
    have M7 : (wO z' (d.g.offs.set j' (cutO (nth d.g.offs j') n'))).offs.length ≤ 1000 := hset
    rcases hBD with ⟨e2, e3⟩ | ⟨e2, e3⟩
    · obtain ⟨s1, _⟩ := hI.stop hk ht ha' e3
      rw [s1, ← hp3, ← hq3]
      have t3 : decide (ablP z' (cutO (nth d.g.offs j') n') > 0) = true := by simp [e2]
      (repeat' (first | (refine nx ?_) | (refine WD_unk (by exact rfl) ?_; ((refine WD_tf (by exact rfl) (by exact rfl) ?_ ?_) <;> (intro hb; (fail_if_success (with_reducible injection hb)); rw [hb]; (try simp only [List.length_map] at hb)))) | (refine WD_call (by exact rfl) ?_; first | (refine WD_e0 (fun h => findOE_rm (l := d.g.offs) _ _ ?_ h) ?_; (exact hyp)) | (refine WD_e0 (fun h => findOE_rm (l := d.g.offs.set j' (cutO (nth d.g.offs j') n')) (p := (cutO (nth d.g.offs j') n', true)) _ ?_ h) ?_; (exact hyp)) | (refine WD_e0 (fun h => AbleE_rm (g := d.g) (n := ablP d.g (nth d.g.offs j')) _ ?_ ?_ ?_ ?_ h) ?_; (exact hyp); (exact hyp); (exact hyp); (exact hyp)) | (refine WD_e0 (fun h => AbleE_rm (g := (wO z' (d.g.offs.set j' (cutO (nth d.g.offs j') n')))) (n := ablP z' (cutO (nth d.g.offs j') n')) _ ?_ ?_ ?_ ?_ h) ?_; (exact hyp); (exact hyp); (exact hyp); (exact hyp)) | (refine WD_e0 (fun h => affE_rm (r := n') _ _ _ ?_ ?_ ?_ h) ?_; (exact hyp); (exact hyp); (exact hyp)) | (refine WD_e0 (fun h => costE_rm _ _ _ h) ?_) | (refine WD_e0 (fun h => debitE_rm (y := y') (e := 0) _ _ _ _ _ ?_ ?_ h) ?_; (exact hyp); (exact hyp)) | (refine WD_e0 (fun h => creditE_rm (g := y') (y := z') (e := 0) _ _ _ _ ?_ ?_ h) ?_; (exact hyp); (exact hyp)) | (refine WD_e0 (fun h => soldE_rm (r := d.g.offs.set j' (cutO (nth d.g.offs j') n')) _ _ _ h) ?_)) | ((with_reducible apply WD_id); first | (refine WD_cut htb ?_) | (refine WD_cut3 htb ?_) | (refine WD_lens htb ?_) | (refine WD_caps htb ?_) | (refine WD_cps htb ?_) | (refine WD_cpp htb ?_) | (refine WD_api htb ?_) | (refine WD_apz htb ?_) | (refine WD_clr htb ?_)) | ((refine WD_tf (by exact rfl) (by exact rfl) ?_ ?_) <;> (intro hb; (fail_if_success (with_reducible injection hb)); rw [hb]; (try simp only [List.length_map] at hb))) | (((with_reducible apply gC2); exact rfl) <;> (intro hb; rw [hb]))))
      (exact glV [(12, .ptr 12 0), (13, vI (p + n')), (14, vI (q + c')), (15, vI 0)] [(12, .box 28 (cellsOf (aG (paidD d z' j' n' c').g)))] (LeV []))
    · have t3 : decide (ablP z' (cutO (nth d.g.offs j') n') > 0) = false := by simp [e2]
      (repeat' (first | (refine nx ?_) | (refine WD_unk (by exact rfl) ?_; ((refine WD_tf (by exact rfl) (by exact rfl) ?_ ?_) <;> (intro hb; (fail_if_success (with_reducible injection hb)); rw [hb]; (try simp only [List.length_map] at hb)))) | (refine WD_call (by exact rfl) ?_; first | (refine WD_e0 (fun h => findOE_rm (l := d.g.offs) _ _ ?_ h) ?_; (exact hyp)) | (refine WD_e0 (fun h => findOE_rm (l := d.g.offs.set j' (cutO (nth d.g.offs j') n')) (p := (cutO (nth d.g.offs j') n', true)) _ ?_ h) ?_; (exact hyp)) | (refine WD_e0 (fun h => AbleE_rm (g := d.g) (n := ablP d.g (nth d.g.offs j')) _ ?_ ?_ ?_ ?_ h) ?_; (exact hyp); (exact hyp); (exact hyp); (exact hyp)) | (refine WD_e0 (fun h => AbleE_rm (g := (wO z' (d.g.offs.set j' (cutO (nth d.g.offs j') n')))) (n := ablP z' (cutO (nth d.g.offs j') n')) _ ?_ ?_ ?_ ?_ h) ?_; (exact hyp); (exact hyp); (exact hyp); (exact hyp)) | (refine WD_e0 (fun h => affE_rm (r := n') _ _ _ ?_ ?_ ?_ h) ?_; (exact hyp); (exact hyp); (exact hyp)) | (refine WD_e0 (fun h => costE_rm _ _ _ h) ?_) | (refine WD_e0 (fun h => debitE_rm (y := y') (e := 0) _ _ _ _ _ ?_ ?_ h) ?_; (exact hyp); (exact hyp)) | (refine WD_e0 (fun h => creditE_rm (g := y') (y := z') (e := 0) _ _ _ _ ?_ ?_ h) ?_; (exact hyp); (exact hyp)) | (refine WD_e0 (fun h => soldE_rm (r := d.g.offs.set j' (cutO (nth d.g.offs j') n')) _ _ _ h) ?_) | (refine WD_e0 (fun h => withoutE_rm (l := d.g.offs.set j' (cutO (nth d.g.offs j') n')) (r := d.g.offs.eraseIdx j') _ ?_ h) ?_; (exact hyp))) | ((with_reducible apply WD_id); first | (refine WD_cut htb ?_) | (refine WD_cut3 htb ?_) | (refine WD_lens htb ?_) | (refine WD_caps htb ?_) | (refine WD_cps htb ?_) | (refine WD_cpp htb ?_) | (refine WD_api htb ?_) | (refine WD_apz htb ?_) | (refine WD_clr htb ?_)) | ((refine WD_tf (by exact rfl) (by exact rfl) ?_ ?_) <;> (intro hb; (fail_if_success (with_reducible injection hb)); rw [hb]; (try simp only [List.length_map] at hb))) | (((with_reducible apply gC2); exact rfl) <;> (intro hb; rw [hb]))))
      refine ⟨(k + 1, _, p + n', q + c'), by dsimp only; omega, ⟨hI.next hk ht ha' hx' e3, hp3, hq3⟩, ?_⟩
      (exact LeV [])
end Go.Proofs.YtgebgpdoddjfhaaGreat
