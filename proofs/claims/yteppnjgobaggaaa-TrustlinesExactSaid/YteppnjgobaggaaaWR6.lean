/- Contracts of the reference's functions: changing balances. -/
import Derived.Test.YteppnjgobaggaaaWR5
import Derived.Test.YteppnjgobaggaaaAmZ
namespace Go.Proofs.Yteppnjgobaggaaa
set_option linter.unusedSimpArgs false
set_option linter.unusedVariables false
set_option linter.unnecessarySimpa false
set_option linter.unusedSectionVars false
set_option maxRecDepth 100000
open Go Go.RowKit Go.Am Go.Proofs.Grow

set_option maxHeartbeats 4000000 in
theorem changeG_rm (l : List Acc) (i n : Int) (hl : l.length ≤ 1000) : FnM Try.prog 83 [] [lA l, vI i, vI n, vI 1] (.tup [lA (giveF l i n).1, vI (giveF l i n).2]) [] := by
  refine FnM.of htb Try.func83 rfl rfl rfl rfl rfl fun cx hN h0 => ?_
  have hi := idxF_bd (hasId i) l
  have hi2 : idxA l i = idxF (hasId i) 0 l := rfl
  by_cases hc : chkA l = 0
  case neg =>
    have t1 : (chkA l != 0) = true := by simp [hc]
    have e : giveF l i n = ([], 74) := by unfold giveF changeF; rw [if_pos hc]
    rw [e]
    (repeat' (first | (refine nx ?_) | (refine WD_unk (by exact rfl) ?_; ((refine WD_tf (by exact rfl) (by exact rfl) ?_ ?_) <;> (intro hb; (fail_if_success (with_reducible injection hb)); rw [hb]; (try simp only [List.length_map] at hb)))) | (refine WD_call (by exact rfl) ?_; first | (refine WD_c0 (chkA_rm _) ?_) | (refine WD_c0 (idxA_rm _ _ ?_) ?_; (exact hyp)) | (refine WD_c0 (okA_rm _) ?_)) | ((refine WD_tf (by exact rfl) (by exact rfl) ?_ ?_) <;> (intro hb; (fail_if_success (with_reducible injection hb)); rw [hb]; (try simp only [List.length_map] at hb))) | (((with_reducible apply gC2); exact rfl) <;> (intro hb; rw [hb]))))
    (exact glV [(8, lA []), (9, vI 74)] [] (LeV []))
  have t1 : (chkA l != 0) = false := by simp [hc]
  by_cases hx : idxA l i < 0
  · have t2 : decide (idxA l i < 0) = true := by simp [hx]
    have e : giveF l i n = ([], 67) := by unfold giveF changeF; rw [if_neg (by simp [hc]), if_pos hx]
    rw [e]
    (repeat' (first | (refine nx ?_) | (refine WD_unk (by exact rfl) ?_; ((refine WD_tf (by exact rfl) (by exact rfl) ?_ ?_) <;> (intro hb; (fail_if_success (with_reducible injection hb)); rw [hb]; (try simp only [List.length_map] at hb)))) | (refine WD_call (by exact rfl) ?_; first | (refine WD_c0 (chkA_rm _) ?_) | (refine WD_c0 (idxA_rm _ _ ?_) ?_; (exact hyp)) | (refine WD_c0 (okA_rm _) ?_)) | ((refine WD_tf (by exact rfl) (by exact rfl) ?_ ?_) <;> (intro hb; (fail_if_success (with_reducible injection hb)); rw [hb]; (try simp only [List.length_map] at hb))) | (((with_reducible apply gC2); exact rfl) <;> (intro hb; rw [hb]))))
    (exact glV [(8, lA []), (9, vI 67)] [] (LeV []))
  have t2 : decide (idxA l i < 0) = false := by simp; omega
  obtain ⟨g1, g2, g3⟩ := @good_all l hc (idxA l i).toNat (by omega)
  by_cases hv : okA n = true ∧ okA ((nth l (idxA l i).toNat).bal + n) = true
  case neg =>
    have e : giveF l i n = ([], 65) := by
      have e1 : giveS n (nth l (idxA l i).toNat) = (nth l (idxA l i).toNat, 65) := by unfold giveS; rw [if_neg (by simpa using hv)]
      unfold giveF changeF; rw [if_neg (by simp [hc]), if_neg hx, if_pos (by rw [e1]; simp), e1]
    rw [e]
    cases hn : okA n with
    | false =>
      have t3 : (!okA n) = true := by simp [hn]
      (repeat' (first | (refine nx ?_) | (refine WD_unk (by exact rfl) ?_; ((refine WD_tf (by exact rfl) (by exact rfl) ?_ ?_) <;> (intro hb; (fail_if_success (with_reducible injection hb)); rw [hb]; (try simp only [List.length_map] at hb)))) | (refine WD_call (by exact rfl) ?_; first | (refine WD_c0 (chkA_rm _) ?_) | (refine WD_c0 (idxA_rm _ _ ?_) ?_; (exact hyp)) | (refine WD_c0 (okA_rm _) ?_)) | ((refine WD_tf (by exact rfl) (by exact rfl) ?_ ?_) <;> (intro hb; (fail_if_success (with_reducible injection hb)); rw [hb]; (try simp only [List.length_map] at hb))) | (((with_reducible apply gC2); exact rfl) <;> (intro hb; rw [hb]))))
      (exact glV [(8, lA []), (9, vI 65)] [] (LeV []))
    | true =>
      have hn2 := okA_iff.1 hn
      have t3 : (!okA n) = false := by simp [hn]
      have t4 : (!okA ((nth l (idxA l i).toNat).bal + n)) = true := by simp [hn] at hv; simp [hv]
      (repeat' (first | (refine nx ?_) | (refine WD_unk (by exact rfl) ?_; ((refine WD_tf (by exact rfl) (by exact rfl) ?_ ?_) <;> (intro hb; (fail_if_success (with_reducible injection hb)); rw [hb]; (try simp only [List.length_map] at hb)))) | (refine WD_call (by exact rfl) ?_; first | (refine WD_c0 (chkA_rm _) ?_) | (refine WD_c0 (idxA_rm _ _ ?_) ?_; (exact hyp)) | (refine WD_c0 (okA_rm _) ?_)) | ((refine WD_tf (by exact rfl) (by exact rfl) ?_ ?_) <;> (intro hb; (fail_if_success (with_reducible injection hb)); rw [hb]; (try simp only [List.length_map] at hb))) | (((with_reducible apply gC2); exact rfl) <;> (intro hb; rw [hb]))))
      (exact glV [(8, lA []), (9, vI 65)] [] (LeV []))
  have hn2 := okA_iff.1 hv.1
  have t3 : (!okA n) = false := by simp [hv.1]
  have t4 : (!okA ((nth l (idxA l i).toNat).bal + n)) = false := by simp [hv.2]
  have e1 : giveS n (nth l (idxA l i).toNat) = ({ nth l (idxA l i).toNat with bal := (nth l (idxA l i).toNat).bal + n }, 0) := by unfold giveS; rw [if_pos (by simpa using hv)]
  have e : giveF l i n = (l.set (idxA l i).toNat { nth l (idxA l i).toNat with bal := (nth l (idxA l i).toNat).bal + n }, 0) := by
    unfold giveF changeF; rw [if_neg (by simp [hc]), if_neg hx, if_neg (by rw [e1]; simp), e1]
  rw [e]
  (repeat' (first | (refine nx ?_) | (refine WD_unk (by exact rfl) ?_; ((refine WD_tf (by exact rfl) (by exact rfl) ?_ ?_) <;> (intro hb; (fail_if_success (with_reducible injection hb)); rw [hb]; (try simp only [List.length_map] at hb)))) | (refine WD_call (by exact rfl) ?_; first | (refine WD_c0 (chkA_rm _) ?_) | (refine WD_c0 (idxA_rm _ _ ?_) ?_; (exact hyp)) | (refine WD_c0 (okA_rm _) ?_)) | ((refine WD_tf (by exact rfl) (by exact rfl) ?_ ?_) <;> (intro hb; (fail_if_success (with_reducible injection hb)); rw [hb]; (try simp only [List.length_map] at hb))) | (((with_reducible apply gC2); exact rfl) <;> (intro hb; rw [hb]))))
  rw [Int.one_mul]
  have hset : (l.map rA).set (idxA l i).toNat (rA { nth l (idxA l i).toNat with bal := (nth l (idxA l i).toNat).bal + n }) = (l.set (idxA l i).toNat { nth l (idxA l i).toNat with bal := (nth l (idxA l i).toNat).bal + n }).map rA := (List.map_set ..).symm
  (exact glV [(8, lA (l.set (idxA l i).toNat { nth l (idxA l i).toNat with bal := (nth l (idxA l i).toNat).bal + n })), (9, vI 0)] [] (LeV []))
set_option maxHeartbeats 4000000 in
theorem changeT_rm (l : List Acc) (i n : Int) (hl : l.length ≤ 1000) : FnM Try.prog 83 [] [lA l, vI i, vI n, vI (-1)] (.tup [lA (takeF l i n).1, vI (takeF l i n).2]) [] := by
  refine FnM.of htb Try.func83 rfl rfl rfl rfl rfl fun cx hN h0 => ?_
  have hi := idxF_bd (hasId i) l
  have hi2 : idxA l i = idxF (hasId i) 0 l := rfl
  by_cases hc : chkA l = 0
  case neg =>
    have t1 : (chkA l != 0) = true := by simp [hc]
    have e : takeF l i n = ([], 74) := by unfold takeF changeF; rw [if_pos hc]
    rw [e]
    (repeat' (first | (refine nx ?_) | (refine WD_unk (by exact rfl) ?_; ((refine WD_tf (by exact rfl) (by exact rfl) ?_ ?_) <;> (intro hb; (fail_if_success (with_reducible injection hb)); rw [hb]; (try simp only [List.length_map] at hb)))) | (refine WD_call (by exact rfl) ?_; first | (refine WD_c0 (chkA_rm _) ?_) | (refine WD_c0 (idxA_rm _ _ ?_) ?_; (exact hyp)) | (refine WD_c0 (okA_rm _) ?_)) | ((refine WD_tf (by exact rfl) (by exact rfl) ?_ ?_) <;> (intro hb; (fail_if_success (with_reducible injection hb)); rw [hb]; (try simp only [List.length_map] at hb))) | (((with_reducible apply gC2); exact rfl) <;> (intro hb; rw [hb]))))
    (exact glV [(8, lA []), (9, vI 74)] [] (LeV []))
  have t1 : (chkA l != 0) = false := by simp [hc]
  by_cases hx : idxA l i < 0
  · have t2 : decide (idxA l i < 0) = true := by simp [hx]
    have e : takeF l i n = ([], 67) := by unfold takeF changeF; rw [if_neg (by simp [hc]), if_pos hx]
    rw [e]
    (repeat' (first | (refine nx ?_) | (refine WD_unk (by exact rfl) ?_; ((refine WD_tf (by exact rfl) (by exact rfl) ?_ ?_) <;> (intro hb; (fail_if_success (with_reducible injection hb)); rw [hb]; (try simp only [List.length_map] at hb)))) | (refine WD_call (by exact rfl) ?_; first | (refine WD_c0 (chkA_rm _) ?_) | (refine WD_c0 (idxA_rm _ _ ?_) ?_; (exact hyp)) | (refine WD_c0 (okA_rm _) ?_)) | ((refine WD_tf (by exact rfl) (by exact rfl) ?_ ?_) <;> (intro hb; (fail_if_success (with_reducible injection hb)); rw [hb]; (try simp only [List.length_map] at hb))) | (((with_reducible apply gC2); exact rfl) <;> (intro hb; rw [hb]))))
    (exact glV [(8, lA []), (9, vI 67)] [] (LeV []))
  have t2 : decide (idxA l i < 0) = false := by simp; omega
  obtain ⟨g1, g2, g3⟩ := @good_all l hc (idxA l i).toNat (by omega)
  cases hn : okA n with
  | false =>
    have t3 : (!okA n) = true := by simp [hn]
    have e1 : takeS n (nth l (idxA l i).toNat) = (nth l (idxA l i).toNat, 65) := by unfold takeS; rw [if_pos hn]
    have e : takeF l i n = ([], 65) := by
      unfold takeF changeF; rw [if_neg (by simp [hc]), if_neg hx, if_pos (by rw [e1]; simp), e1]
    rw [e]
    (repeat' (first | (refine nx ?_) | (refine WD_unk (by exact rfl) ?_; ((refine WD_tf (by exact rfl) (by exact rfl) ?_ ?_) <;> (intro hb; (fail_if_success (with_reducible injection hb)); rw [hb]; (try simp only [List.length_map] at hb)))) | (refine WD_call (by exact rfl) ?_; first | (refine WD_c0 (chkA_rm _) ?_) | (refine WD_c0 (idxA_rm _ _ ?_) ?_; (exact hyp)) | (refine WD_c0 (okA_rm _) ?_)) | ((refine WD_tf (by exact rfl) (by exact rfl) ?_ ?_) <;> (intro hb; (fail_if_success (with_reducible injection hb)); rw [hb]; (try simp only [List.length_map] at hb))) | (((with_reducible apply gC2); exact rfl) <;> (intro hb; rw [hb]))))
    (exact glV [(8, lA []), (9, vI 65)] [] (LeV []))
  | true =>
  have hn2 := okA_iff.1 hn
  have t3 : (!okA n) = false := by simp [hn]
  by_cases hb : (nth l (idxA l i).toNat).bal < n
  · have t4 : decide ((nth l (idxA l i).toNat).bal < n) = true := by simp [hb]
    have e1 : takeS n (nth l (idxA l i).toNat) = (nth l (idxA l i).toNat, 66) := by unfold takeS; rw [if_neg (by simp [hn]), if_pos hb]
    have e : takeF l i n = ([], 66) := by
      unfold takeF changeF; rw [if_neg (by simp [hc]), if_neg hx, if_pos (by rw [e1]; simp), e1]
    rw [e]
    (repeat' (first | (refine nx ?_) | (refine WD_unk (by exact rfl) ?_; ((refine WD_tf (by exact rfl) (by exact rfl) ?_ ?_) <;> (intro hb; (fail_if_success (with_reducible injection hb)); rw [hb]; (try simp only [List.length_map] at hb)))) | (refine WD_call (by exact rfl) ?_; first | (refine WD_c0 (chkA_rm _) ?_) | (refine WD_c0 (idxA_rm _ _ ?_) ?_; (exact hyp)) | (refine WD_c0 (okA_rm _) ?_)) | ((refine WD_tf (by exact rfl) (by exact rfl) ?_ ?_) <;> (intro hb; (fail_if_success (with_reducible injection hb)); rw [hb]; (try simp only [List.length_map] at hb))) | (((with_reducible apply gC2); exact rfl) <;> (intro hb; rw [hb]))))
    (exact glV [(8, lA []), (9, vI 66)] [] (LeV []))
  have t4 : decide ((nth l (idxA l i).toNat).bal < n) = false := by simp; omega
  have e1 : takeS n (nth l (idxA l i).toNat) = ({ nth l (idxA l i).toNat with bal := (nth l (idxA l i).toNat).bal - n }, 0) := by unfold takeS; rw [if_neg (by simp [hn]), if_neg hb]
  have e : takeF l i n = (l.set (idxA l i).toNat { nth l (idxA l i).toNat with bal := (nth l (idxA l i).toNat).bal - n }, 0) := by
    unfold takeF changeF; rw [if_neg (by simp [hc]), if_neg hx, if_neg (by rw [e1]; simp), e1]
  rw [e]
  (repeat' (first | (refine nx ?_) | (refine WD_unk (by exact rfl) ?_; ((refine WD_tf (by exact rfl) (by exact rfl) ?_ ?_) <;> (intro hb; (fail_if_success (with_reducible injection hb)); rw [hb]; (try simp only [List.length_map] at hb)))) | (refine WD_call (by exact rfl) ?_; first | (refine WD_c0 (chkA_rm _) ?_) | (refine WD_c0 (idxA_rm _ _ ?_) ?_; (exact hyp)) | (refine WD_c0 (okA_rm _) ?_)) | ((refine WD_tf (by exact rfl) (by exact rfl) ?_ ?_) <;> (intro hb; (fail_if_success (with_reducible injection hb)); rw [hb]; (try simp only [List.length_map] at hb))) | (((with_reducible apply gC2); exact rfl) <;> (intro hb; rw [hb]))))
  rw [show (nth l (idxA l i).toNat).bal + -1 * n = (nth l (idxA l i).toNat).bal - n by omega]
  have hset : (l.map rA).set (idxA l i).toNat (rA { nth l (idxA l i).toNat with bal := (nth l (idxA l i).toNat).bal - n }) = (l.set (idxA l i).toNat { nth l (idxA l i).toNat with bal := (nth l (idxA l i).toNat).bal - n }).map rA := (List.map_set ..).symm
  (exact glV [(8, lA (l.set (idxA l i).toNat { nth l (idxA l i).toNat with bal := (nth l (idxA l i).toNat).bal - n })), (9, vI 0)] [] (LeV []))
theorem give_rm (l : List Acc) (i n : Int) (hl : l.length ≤ 1000) : FnM Try.prog 41 [] [lA l, vI i, vI n] (.tup [lA (giveF l i n).1, vI (giveF l i n).2]) [] := by
  refine FnM.of htb Try.func41 rfl rfl rfl rfl rfl fun cx hN h0 => ?_
  (repeat' (first | (refine nx ?_) | (refine WD_unk (by exact rfl) ?_; ((refine WD_tf (by exact rfl) (by exact rfl) ?_ ?_) <;> (intro hb; (fail_if_success (with_reducible injection hb)); rw [hb]; (try simp only [List.length_map] at hb)))) | (refine WD_call (by exact rfl) ?_; first | (refine WD_c0 (changeG_rm _ _ _ ?_) ?_; (exact hyp))) | ((refine WD_tf (by exact rfl) (by exact rfl) ?_ ?_) <;> (intro hb; (fail_if_success (with_reducible injection hb)); rw [hb]; (try simp only [List.length_map] at hb))) | (((with_reducible apply gC2); exact rfl) <;> (intro hb; rw [hb]))))
  exact gE (.inr rfl) rfl rfl trivial
theorem take_rm (l : List Acc) (i n : Int) (hl : l.length ≤ 1000) : FnM Try.prog 43 [] [lA l, vI i, vI n] (.tup [lA (takeF l i n).1, vI (takeF l i n).2]) [] := by
  refine FnM.of htb Try.func43 rfl rfl rfl rfl rfl fun cx hN h0 => ?_
  (repeat' (first | (refine nx ?_) | (refine WD_unk (by exact rfl) ?_; ((refine WD_tf (by exact rfl) (by exact rfl) ?_ ?_) <;> (intro hb; (fail_if_success (with_reducible injection hb)); rw [hb]; (try simp only [List.length_map] at hb)))) | (refine WD_call (by exact rfl) ?_; first | (refine WD_c0 (changeT_rm _ _ _ ?_) ?_; (exact hyp))) | ((refine WD_tf (by exact rfl) (by exact rfl) ?_ ?_) <;> (intro hb; (fail_if_success (with_reducible injection hb)); rw [hb]; (try simp only [List.length_map] at hb))) | (((with_reducible apply gC2); exact rfl) <;> (intro hb; rw [hb]))))
  exact gE (.inr rfl) rfl rfl trivial
end Go.Proofs.Yteppnjgobaggaaa
