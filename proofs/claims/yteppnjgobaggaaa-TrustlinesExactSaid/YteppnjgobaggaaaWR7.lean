/- Contracts of the reference's functions: crediting and debiting. -/
import Derived.Test.YteppnjgobaggaaaWR6
import Derived.Test.YteppnjgobaggaaaWL2
namespace Go.Proofs.Yteppnjgobaggaaa
set_option linter.unusedSimpArgs false
set_option linter.unusedVariables false
set_option linter.unnecessarySimpa false
set_option linter.unusedSectionVars false
set_option maxRecDepth 100000
open Go Go.RowKit Go.Am Go.Proofs.Grow

theorem give_yes {l : List Acc} {i n : Int} {j : Nat} (hc : chkA l = 0) (hj : idxA l i = (j : Int)) (h1 : okA n = true) (h2 : okA ((nth l j).bal + n) = true) : giveF l i n = (l.set j { nth l j with bal := (nth l j).bal + n }, 0) := by
  have e1 : giveS n (nth l j) = ({ nth l j with bal := (nth l j).bal + n }, 0) := by unfold giveS; rw [if_pos (by simp [h1, h2])]
  have hx : ¬ idxA l i < 0 := by omega
  have ej : (idxA l i).toNat = j := by omega
  unfold giveF changeF; rw [if_neg (by simp [hc]), if_neg hx, ej, if_neg (by rw [e1]; simp), e1]
theorem give_no {l : List Acc} {i n : Int} {j : Nat} (hc : chkA l = 0) (hj : idxA l i = (j : Int)) (h2 : okA ((nth l j).bal + n) = false) : giveF l i n = ([], 65) := by
  have e1 : giveS n (nth l j) = (nth l j, 65) := by unfold giveS; rw [if_neg (by simp [h2])]
  have hx : ¬ idxA l i < 0 := by omega
  have ej : (idxA l i).toNat = j := by omega
  unfold giveF changeF; rw [if_neg (by simp [hc]), if_neg hx, ej, if_pos (by rw [e1]; simp), e1]
theorem take_yes {l : List Acc} {i n : Int} {j : Nat} (hc : chkA l = 0) (hj : idxA l i = (j : Int)) (h1 : okA n = true) (h2 : n ≤ (nth l j).bal) : takeF l i n = (l.set j { nth l j with bal := (nth l j).bal + -n }, 0) := by
  have e1 : takeS n (nth l j) = ({ nth l j with bal := (nth l j).bal - n }, 0) := by unfold takeS; rw [if_neg (by simp [h1]), if_neg (by omega)]
  have hx : ¬ idxA l i < 0 := by omega
  have ej : (idxA l i).toNat = j := by omega
  unfold takeF changeF; rw [if_neg (by simp [hc]), if_neg hx, ej, if_neg (by rw [e1]; simp), e1]; rfl
theorem take_no {l : List Acc} {i n : Int} {j : Nat} (hc : chkA l = 0) (hj : idxA l i = (j : Int)) (h1 : okA n = true) (h2 : (nth l j).bal < n) : takeF l i n = ([], 66) := by
  have e1 : takeS n (nth l j) = (nth l j, 66) := by unfold takeS; rw [if_neg (by simp [h1]), if_pos h2]
  have hx : ¬ idxA l i < 0 := by omega
  have ej : (idxA l i).toNat = j := by omega
  unfold takeF changeF; rw [if_neg (by simp [hc]), if_neg hx, ej, if_pos (by rw [e1]; simp), e1]
theorem giveE_rm (l : List Acc) (i n : Int) (x : List Acc) (e : Int) (hl : l.length ≤ 1000) (he : giveF l i n = (x, e)) : FnM Try.prog 41 [] [lA l, vI i, vI n] (.tup [lA x, vI e]) [] := by
  have := give_rm l i n hl
  rwa [he] at this
theorem takeE_rm (l : List Acc) (i n : Int) (x : List Acc) (e : Int) (hl : l.length ≤ 1000) (he : takeF l i n = (x, e)) : FnM Try.prog 43 [] [lA l, vI i, vI n] (.tup [lA x, vI e]) [] := by
  have := take_rm l i n hl
  rwa [he] at this
theorem first_rm (g : Led) (a : Int) (u : ByteArray) (i n : Int) (hl : g.lins.length ≤ 1000) (ha : g.accs.length ≤ 1000) : FnM Try.prog 95 [] [aG g, vI a, aT u i, vI n] (vI (firstF g a u i n)) [] := by
  refine FnM.of htb Try.func95 rfl rfl rfl rfl rfl fun cx hN h0 => ?_
  (repeat' (first | (refine nx ?_) | (refine WD_unk (by exact rfl) ?_; ((refine WD_tf (by exact rfl) (by exact rfl) ?_ ?_) <;> (intro hb; (fail_if_success (with_reducible injection hb)); rw [hb]; (try simp only [List.length_map] at hb)))) | (refine WD_call (by exact rfl) ?_; first | (refine WD_c0 (findA_rm _ _ ?_) ?_; (exact hyp)) | (refine WD_c0 (rightG_rm _ ?_ ?_) ?_; (exact hyp); (exact hyp)) | (refine WD_c0 (asset_rm _ _) ?_) | (refine WD_c0 (okA_rm _) ?_)) | ((refine WD_tf (by exact rfl) (by exact rfl) ?_ ?_) <;> (intro hb; (fail_if_success (with_reducible injection hb)); rw [hb]; (try simp only [List.length_map] at hb))) | (((with_reducible apply gC2); exact rfl) <;> (intro hb; rw [hb]))))
  all_goals try simp only [Bool.not_eq_true', Bool.not_eq_false', decide_eq_true_eq, decide_eq_false_iff_not, bne_iff_ne, bne_eq_false_iff_eq, beq_iff_eq, beq_eq_false_iff_ne] at *
  all_goals refine gE (.inr rfl) rfl (congrArg vI ?_) trivial
  all_goals simp_all [firstF]
set_option maxHeartbeats 4000000 in
theorem credit_rm (g : Led) (a : Int) (u : ByteArray) (i n : Int) (hl : g.lins.length ≤ 1000) (ha : g.accs.length ≤ 1000) : FnM Try.prog 56 [] [aG g, vI a, aT u i, vI n] (.tup [aG (creditF g a u i n).1, vI (creditF g a u i n).2]) [] := by
  refine FnM.of htb Try.func56 rfl rfl rfl rfl rfl fun cx hN h0 => ?_
  by_cases hc : firstF g a u i n = 0
  case neg =>
    have e : creditF g a u i n = (led0, firstF g a u i n) := by unfold creditF; rw [if_pos hc]
    have hd : (firstF g a u i n != 0) = true := by simp [hc]
    rw [e]
    (repeat' (first | (refine nx ?_) | (refine WD_unk (by exact rfl) ?_; ((refine WD_tf (by exact rfl) (by exact rfl) ?_ ?_) <;> (intro hb; (fail_if_success (with_reducible injection hb)); rw [hb]; (try simp only [List.length_map] at hb)))) | (refine WD_call (by exact rfl) ?_; first | (refine WD_c0 (first_rm _ _ _ _ _ ?_ ?_) ?_; (exact hyp); (exact hyp))) | ((refine WD_tf (by exact rfl) (by exact rfl) ?_ ?_) <;> (intro hb; (fail_if_success (with_reducible injection hb)); rw [hb]; (try simp only [List.length_map] at hb))) | (((with_reducible apply gC2); exact rfl) <;> (intro hb; rw [hb]))))
    (exact glV [(8, .ptr 8 0), (9, vI (firstF g a u i n))] [(8, .box 30 (cellsOf (aG led0)))] (LeV []))
  obtain ⟨hr, hu, hf, hn⟩ := first_iff.1 hc
  have hg := rightL_iff.1 hr
  have hd : (firstF g a u i n != 0) = false := by simp [hc]
  have hnn := okA_iff.1 hn
  have hcA : chkA g.accs = 0 := chkA_zero.2 hg.accs
  have e := credit_eq hg hf hu hn
  rcases look_cases hg hf hu with ⟨hna, hia, ho, j, hj, k1, k2, el⟩ | ⟨hna, hia, ho, el⟩ | ⟨hna, hia, ho, j, hj, k1, k2, k3, k4, el⟩ | ⟨hna, hia, ho, el⟩
  · rw [el] at e
    dsimp only at e
    by_cases c : n ≤ 1000000000000 - (nth g.accs j).bal
    · rw [if_pos ⟨rfl, c⟩] at e
      have hb := (hg.accs.2.1 _ (nth_mem _ j hj)).2.1
      have eg := give_yes (n := n) hcA k2 hn (okA_iff.2 (by omega))
      have e2 : addL g a u i n = { g with accs := g.accs.set j { nth g.accs j with bal := (nth g.accs j).bal + n } } := by unfold addL; rw [if_pos hna, k2]; simp
      rw [e, e2]
      (repeat' (first | (refine nx ?_) | (refine WD_unk (by exact rfl) ?_; ((refine WD_tf (by exact rfl) (by exact rfl) ?_ ?_) <;> (intro hb; (fail_if_success (with_reducible injection hb)); rw [hb]; (try simp only [List.length_map] at hb)))) | (refine WD_call (by exact rfl) ?_; first | (refine WD_c0 (first_rm _ _ _ _ _ ?_ ?_) ?_; (exact hyp); (exact hyp)) | (refine WD_c0 (native_rm _ _) ?_) | (refine WD_e0 (fun h => giveE_rm _ _ _ _ _ ?_ h) ?_; (exact hyp))) | ((refine WD_tf (by exact rfl) (by exact rfl) ?_ ?_) <;> (intro hb; (fail_if_success (with_reducible injection hb)); rw [hb]; (try simp only [List.length_map] at hb))) | (((with_reducible apply gC2); exact rfl) <;> (intro hb; rw [hb]))))
      (exact glV [(8, .ptr 8 0), (9, vI 0)] [(8, .box 30 (cellsOf (aG { g with accs := g.accs.set j { nth g.accs j with bal := (nth g.accs j).bal + n } })))] (LeV []))
    · rw [if_neg (by simp; omega)] at e
      have eg := give_no (n := n) hcA k2 (by rw [Bool.eq_false_iff]; intro h; have := okA_iff.1 h; omega)
      rw [hna] at e
      rw [e]
      (repeat' (first | (refine nx ?_) | (refine WD_unk (by exact rfl) ?_; ((refine WD_tf (by exact rfl) (by exact rfl) ?_ ?_) <;> (intro hb; (fail_if_success (with_reducible injection hb)); rw [hb]; (try simp only [List.length_map] at hb)))) | (refine WD_call (by exact rfl) ?_; first | (refine WD_c0 (first_rm _ _ _ _ _ ?_ ?_) ?_; (exact hyp); (exact hyp)) | (refine WD_c0 (native_rm _ _) ?_) | (refine WD_e0 (fun h => giveE_rm _ _ _ _ _ ?_ h) ?_; (exact hyp))) | ((refine WD_tf (by exact rfl) (by exact rfl) ?_ ?_) <;> (intro hb; (fail_if_success (with_reducible injection hb)); rw [hb]; (try simp only [List.length_map] at hb))) | (((with_reducible apply gC2); exact rfl) <;> (intro hb; rw [hb]))))
      (exact glV [(8, .ptr 8 0), (9, vI 65)] [(8, .box 30 (cellsOf (aG led0)))] (LeV []))
  · rw [el] at e
    dsimp only at e
    rw [if_pos ⟨rfl, hnn.2⟩, addL_own n hna hia] at e
    have t1 : (i == a) = true := by simp [hia]
    rw [e]
    (repeat' (first | (refine nx ?_) | (refine WD_unk (by exact rfl) ?_; ((refine WD_tf (by exact rfl) (by exact rfl) ?_ ?_) <;> (intro hb; (fail_if_success (with_reducible injection hb)); rw [hb]; (try simp only [List.length_map] at hb)))) | (refine WD_call (by exact rfl) ?_; first | (refine WD_c0 (first_rm _ _ _ _ _ ?_ ?_) ?_; (exact hyp); (exact hyp)) | (refine WD_c0 (native_rm _ _) ?_)) | ((refine WD_tf (by exact rfl) (by exact rfl) ?_ ?_) <;> (intro hb; (fail_if_success (with_reducible injection hb)); rw [hb]; (try simp only [List.length_map] at hb))) | (((with_reducible apply gC2); exact rfl) <;> (intro hb; rw [hb]))))
    (exact glV [(8, .ptr 8 0), (9, vI 0)] [(8, .box 30 (cellsOf (aG g)))] (LeV []))
  · rw [el] at e
    dsimp only at e
    have hb := (hg.good _ (nth_mem _ j hj)).2.2.2.2
    have t1 : (i == a) = false := by simp [hia]
    have ej : (idxL g.lins a u i).toNat = j := by omega
    have t2 : decide (idxL g.lins a u i < 0) = false := by simp; omega
    rw [← ej] at e hb hj
    by_cases c : n ≤ (nth g.lins (idxL g.lins a u i).toNat).lim - (nth g.lins (idxL g.lins a u i).toNat).bal
    · rw [if_pos ⟨rfl, c⟩] at e
      have t3 : decide (n > (nth g.lins (idxL g.lins a u i).toNat).lim - (nth g.lins (idxL g.lins a u i).toNat).bal) = false := by simp; omega
      have e2 : addL g a u i n = { g with lins := g.lins.set (idxL g.lins a u i).toNat { nth g.lins (idxL g.lins a u i).toNat with bal := (nth g.lins (idxL g.lins a u i).toNat).bal + n } } := by rw [addL_lin n hna hia k4, k4]; rfl
      rw [e, e2]
      (repeat' (first | (refine nx ?_) | (refine WD_unk (by exact rfl) ?_; ((refine WD_tf (by exact rfl) (by exact rfl) ?_ ?_) <;> (intro hb; (fail_if_success (with_reducible injection hb)); rw [hb]; (try simp only [List.length_map] at hb)))) | (refine WD_call (by exact rfl) ?_; first | (refine WD_c0 (first_rm _ _ _ _ _ ?_ ?_) ?_; (exact hyp); (exact hyp)) | (refine WD_c0 (native_rm _ _) ?_) | (refine WD_c0 (idxL_rm _ _ _ _ ?_) ?_; (exact hyp))) | ((refine WD_tf (by exact rfl) (by exact rfl) ?_ ?_) <;> (intro hb; (fail_if_success (with_reducible injection hb)); rw [hb]; (try simp only [List.length_map] at hb))) | (((with_reducible apply gC2); exact rfl) <;> (intro hb; rw [hb]))))
      (exact glV [(8, .ptr 8 0), (9, vI 0)] [(8, .box 30 (cellsOf (aG { g with lins := g.lins.set (idxL g.lins a u i).toNat { nth g.lins (idxL g.lins a u i).toNat with bal := (nth g.lins (idxL g.lins a u i).toNat).bal + n } })))] (LeV []))
    · rw [if_neg (by simp; omega)] at e
      have t3 : decide (n > (nth g.lins (idxL g.lins a u i).toNat).lim - (nth g.lins (idxL g.lins a u i).toNat).bal) = true := by simp; omega
      rw [hna] at e
      rw [e]
      (repeat' (first | (refine nx ?_) | (refine WD_unk (by exact rfl) ?_; ((refine WD_tf (by exact rfl) (by exact rfl) ?_ ?_) <;> (intro hb; (fail_if_success (with_reducible injection hb)); rw [hb]; (try simp only [List.length_map] at hb)))) | (refine WD_call (by exact rfl) ?_; first | (refine WD_c0 (first_rm _ _ _ _ _ ?_ ?_) ?_; (exact hyp); (exact hyp)) | (refine WD_c0 (native_rm _ _) ?_) | (refine WD_c0 (idxL_rm _ _ _ _ ?_) ?_; (exact hyp))) | ((refine WD_tf (by exact rfl) (by exact rfl) ?_ ?_) <;> (intro hb; (fail_if_success (with_reducible injection hb)); rw [hb]; (try simp only [List.length_map] at hb))) | (((with_reducible apply gC2); exact rfl) <;> (intro hb; rw [hb]))))
      (exact glV [(8, .ptr 8 0), (9, vI 70)] [(8, .box 30 (cellsOf (aG led0)))] (LeV []))
  · rw [el] at e
    dsimp only at e
    rw [if_neg (by simp), hna] at e
    have t1 : (i == a) = false := by simp [hia]
    have t2 : decide (idxL g.lins a u i < 0) = true := by
      rcases idxL_cases g.lins a u i with ⟨q, _⟩ | ⟨j, hj, q, _⟩
      · rw [q]; rfl
      · unfold findL at ho; rw [if_neg (by omega)] at ho; cases ho
    rw [e]
    (repeat' (first | (refine nx ?_) | (refine WD_unk (by exact rfl) ?_; ((refine WD_tf (by exact rfl) (by exact rfl) ?_ ?_) <;> (intro hb; (fail_if_success (with_reducible injection hb)); rw [hb]; (try simp only [List.length_map] at hb)))) | (refine WD_call (by exact rfl) ?_; first | (refine WD_c0 (first_rm _ _ _ _ _ ?_ ?_) ?_; (exact hyp); (exact hyp)) | (refine WD_c0 (native_rm _ _) ?_) | (refine WD_c0 (idxL_rm _ _ _ _ ?_) ?_; (exact hyp))) | ((refine WD_tf (by exact rfl) (by exact rfl) ?_ ?_) <;> (intro hb; (fail_if_success (with_reducible injection hb)); rw [hb]; (try simp only [List.length_map] at hb))) | (((with_reducible apply gC2); exact rfl) <;> (intro hb; rw [hb]))))
    (exact glV [(8, .ptr 8 0), (9, vI 70)] [(8, .box 30 (cellsOf (aG led0)))] (LeV []))
set_option maxHeartbeats 4000000 in
theorem debit_rm (g : Led) (a : Int) (u : ByteArray) (i n : Int) (hl : g.lins.length ≤ 1000) (ha : g.accs.length ≤ 1000) : FnM Try.prog 57 [] [aG g, vI a, aT u i, vI n] (.tup [aG (debitF g a u i n).1, vI (debitF g a u i n).2]) [] := by
  refine FnM.of htb Try.func57 rfl rfl rfl rfl rfl fun cx hN h0 => ?_
  by_cases hc : firstF g a u i n = 0
  case neg =>
    have e : debitF g a u i n = (led0, firstF g a u i n) := by unfold debitF; rw [if_pos hc]
    have hd : (firstF g a u i n != 0) = true := by simp [hc]
    rw [e]
    (repeat' (first | (refine nx ?_) | (refine WD_unk (by exact rfl) ?_; ((refine WD_tf (by exact rfl) (by exact rfl) ?_ ?_) <;> (intro hb; (fail_if_success (with_reducible injection hb)); rw [hb]; (try simp only [List.length_map] at hb)))) | (refine WD_call (by exact rfl) ?_; first | (refine WD_c0 (first_rm _ _ _ _ _ ?_ ?_) ?_; (exact hyp); (exact hyp))) | ((refine WD_tf (by exact rfl) (by exact rfl) ?_ ?_) <;> (intro hb; (fail_if_success (with_reducible injection hb)); rw [hb]; (try simp only [List.length_map] at hb))) | (((with_reducible apply gC2); exact rfl) <;> (intro hb; rw [hb]))))
    (exact glV [(8, .ptr 8 0), (9, vI (firstF g a u i n))] [(8, .box 30 (cellsOf (aG led0)))] (LeV []))
  obtain ⟨hr, hu, hf, hn⟩ := first_iff.1 hc
  have hg := rightL_iff.1 hr
  have hd : (firstF g a u i n != 0) = false := by simp [hc]
  have hnn := okA_iff.1 hn
  have hcA : chkA g.accs = 0 := chkA_zero.2 hg.accs
  have e := debit_eq hg hf hu hn
  rcases look_cases hg hf hu with ⟨hna, hia, ho, j, hj, k1, k2, el⟩ | ⟨hna, hia, ho, el⟩ | ⟨hna, hia, ho, j, hj, k1, k2, k3, k4, el⟩ | ⟨hna, hia, ho, el⟩
  · rw [el] at e
    dsimp only at e
    by_cases c : n ≤ (nth g.accs j).bal
    · rw [if_pos ⟨rfl, c⟩] at e
      have hb := (hg.accs.2.1 _ (nth_mem _ j hj)).2.1
      have eg := take_yes (n := n) hcA k2 hn c
      have e2 : addL g a u i (-n) = { g with accs := g.accs.set j { nth g.accs j with bal := (nth g.accs j).bal + -n } } := by unfold addL; rw [if_pos hna, k2]; simp
      rw [e, e2]
      (repeat' (first | (refine nx ?_) | (refine WD_unk (by exact rfl) ?_; ((refine WD_tf (by exact rfl) (by exact rfl) ?_ ?_) <;> (intro hb; (fail_if_success (with_reducible injection hb)); rw [hb]; (try simp only [List.length_map] at hb)))) | (refine WD_call (by exact rfl) ?_; first | (refine WD_c0 (first_rm _ _ _ _ _ ?_ ?_) ?_; (exact hyp); (exact hyp)) | (refine WD_c0 (native_rm _ _) ?_) | (refine WD_e0 (fun h => takeE_rm _ _ _ _ _ ?_ h) ?_; (exact hyp))) | ((refine WD_tf (by exact rfl) (by exact rfl) ?_ ?_) <;> (intro hb; (fail_if_success (with_reducible injection hb)); rw [hb]; (try simp only [List.length_map] at hb))) | (((with_reducible apply gC2); exact rfl) <;> (intro hb; rw [hb]))))
      (exact glV [(8, .ptr 8 0), (9, vI 0)] [(8, .box 30 (cellsOf (aG { g with accs := g.accs.set j { nth g.accs j with bal := (nth g.accs j).bal + -n } })))] (LeV []))
    · rw [if_neg (by simp; omega), if_neg (by simp)] at e
      have eg := take_no (n := n) hcA k2 hn (by omega)
      rw [e]
      (repeat' (first | (refine nx ?_) | (refine WD_unk (by exact rfl) ?_; ((refine WD_tf (by exact rfl) (by exact rfl) ?_ ?_) <;> (intro hb; (fail_if_success (with_reducible injection hb)); rw [hb]; (try simp only [List.length_map] at hb)))) | (refine WD_call (by exact rfl) ?_; first | (refine WD_c0 (first_rm _ _ _ _ _ ?_ ?_) ?_; (exact hyp); (exact hyp)) | (refine WD_c0 (native_rm _ _) ?_) | (refine WD_e0 (fun h => takeE_rm _ _ _ _ _ ?_ h) ?_; (exact hyp))) | ((refine WD_tf (by exact rfl) (by exact rfl) ?_ ?_) <;> (intro hb; (fail_if_success (with_reducible injection hb)); rw [hb]; (try simp only [List.length_map] at hb))) | (((with_reducible apply gC2); exact rfl) <;> (intro hb; rw [hb]))))
      (exact glV [(8, .ptr 8 0), (9, vI 66)] [(8, .box 30 (cellsOf (aG led0)))] (LeV []))
  · rw [el] at e
    dsimp only at e
    rw [if_pos ⟨rfl, hnn.2⟩, addL_own (-n) hna hia] at e
    have t1 : (i == a) = true := by simp [hia]
    rw [e]
    (repeat' (first | (refine nx ?_) | (refine WD_unk (by exact rfl) ?_; ((refine WD_tf (by exact rfl) (by exact rfl) ?_ ?_) <;> (intro hb; (fail_if_success (with_reducible injection hb)); rw [hb]; (try simp only [List.length_map] at hb)))) | (refine WD_call (by exact rfl) ?_; first | (refine WD_c0 (first_rm _ _ _ _ _ ?_ ?_) ?_; (exact hyp); (exact hyp)) | (refine WD_c0 (native_rm _ _) ?_)) | ((refine WD_tf (by exact rfl) (by exact rfl) ?_ ?_) <;> (intro hb; (fail_if_success (with_reducible injection hb)); rw [hb]; (try simp only [List.length_map] at hb))) | (((with_reducible apply gC2); exact rfl) <;> (intro hb; rw [hb]))))
    (exact glV [(8, .ptr 8 0), (9, vI 0)] [(8, .box 30 (cellsOf (aG g)))] (LeV []))
  · rw [el] at e
    dsimp only at e
    have hb := (hg.good _ (nth_mem _ j hj)).2.2.2.2
    have t1 : (i == a) = false := by simp [hia]
    have ej : (idxL g.lins a u i).toNat = j := by omega
    have t2 : decide (idxL g.lins a u i < 0) = false := by simp; omega
    rw [← ej] at e hb hj
    by_cases c : n ≤ (nth g.lins (idxL g.lins a u i).toNat).bal
    · rw [if_pos ⟨rfl, c⟩] at e
      have t3 : decide (n > (nth g.lins (idxL g.lins a u i).toNat).bal) = false := by simp; omega
      have e2 : addL g a u i (-n) = { g with lins := g.lins.set (idxL g.lins a u i).toNat { nth g.lins (idxL g.lins a u i).toNat with bal := (nth g.lins (idxL g.lins a u i).toNat).bal - n } } := by rw [addL_lin (-n) hna hia k4, k4]; rfl
      rw [e, e2]
      (repeat' (first | (refine nx ?_) | (refine WD_unk (by exact rfl) ?_; ((refine WD_tf (by exact rfl) (by exact rfl) ?_ ?_) <;> (intro hb; (fail_if_success (with_reducible injection hb)); rw [hb]; (try simp only [List.length_map] at hb)))) | (refine WD_call (by exact rfl) ?_; first | (refine WD_c0 (first_rm _ _ _ _ _ ?_ ?_) ?_; (exact hyp); (exact hyp)) | (refine WD_c0 (native_rm _ _) ?_) | (refine WD_c0 (idxL_rm _ _ _ _ ?_) ?_; (exact hyp))) | ((refine WD_tf (by exact rfl) (by exact rfl) ?_ ?_) <;> (intro hb; (fail_if_success (with_reducible injection hb)); rw [hb]; (try simp only [List.length_map] at hb))) | (((with_reducible apply gC2); exact rfl) <;> (intro hb; rw [hb]))))
      (exact glV [(8, .ptr 8 0), (9, vI 0)] [(8, .box 30 (cellsOf (aG { g with lins := g.lins.set (idxL g.lins a u i).toNat { nth g.lins (idxL g.lins a u i).toNat with bal := (nth g.lins (idxL g.lins a u i).toNat).bal - n } })))] (LeV []))
    · rw [if_neg (by simp; omega), if_neg (by simp)] at e
      have t3 : decide (n > (nth g.lins (idxL g.lins a u i).toNat).bal) = true := by simp; omega
      rw [e]
      (repeat' (first | (refine nx ?_) | (refine WD_unk (by exact rfl) ?_; ((refine WD_tf (by exact rfl) (by exact rfl) ?_ ?_) <;> (intro hb; (fail_if_success (with_reducible injection hb)); rw [hb]; (try simp only [List.length_map] at hb)))) | (refine WD_call (by exact rfl) ?_; first | (refine WD_c0 (first_rm _ _ _ _ _ ?_ ?_) ?_; (exact hyp); (exact hyp)) | (refine WD_c0 (native_rm _ _) ?_) | (refine WD_c0 (idxL_rm _ _ _ _ ?_) ?_; (exact hyp))) | ((refine WD_tf (by exact rfl) (by exact rfl) ?_ ?_) <;> (intro hb; (fail_if_success (with_reducible injection hb)); rw [hb]; (try simp only [List.length_map] at hb))) | (((with_reducible apply gC2); exact rfl) <;> (intro hb; rw [hb]))))
      (exact glV [(8, .ptr 8 0), (9, vI 66)] [(8, .box 30 (cellsOf (aG led0)))] (LeV []))
  · rw [el] at e
    dsimp only at e
    rw [if_neg (by simp), if_pos rfl] at e
    have t1 : (i == a) = false := by simp [hia]
    have t2 : decide (idxL g.lins a u i < 0) = true := by
      rcases idxL_cases g.lins a u i with ⟨q, _⟩ | ⟨j, hj, q, _⟩
      · rw [q]; rfl
      · unfold findL at ho; rw [if_neg (by omega)] at ho; cases ho
    rw [e]
    (repeat' (first | (refine nx ?_) | (refine WD_unk (by exact rfl) ?_; ((refine WD_tf (by exact rfl) (by exact rfl) ?_ ?_) <;> (intro hb; (fail_if_success (with_reducible injection hb)); rw [hb]; (try simp only [List.length_map] at hb)))) | (refine WD_call (by exact rfl) ?_; first | (refine WD_c0 (first_rm _ _ _ _ _ ?_ ?_) ?_; (exact hyp); (exact hyp)) | (refine WD_c0 (native_rm _ _) ?_) | (refine WD_c0 (idxL_rm _ _ _ _ ?_) ?_; (exact hyp))) | ((refine WD_tf (by exact rfl) (by exact rfl) ?_ ?_) <;> (intro hb; (fail_if_success (with_reducible injection hb)); rw [hb]; (try simp only [List.length_map] at hb))) | (((with_reducible apply gC2); exact rfl) <;> (intro hb; rw [hb]))))
    (exact glV [(8, .ptr 8 0), (9, vI 70)] [(8, .box 30 (cellsOf (aG led0)))] (LeV []))
end Go.Proofs.Yteppnjgobaggaaa
