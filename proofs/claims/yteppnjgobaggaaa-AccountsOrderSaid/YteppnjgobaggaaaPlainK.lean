/- Plain laws of AccountsOrder and AccountsKeep. No program stands here. -/
import Derived.Test.YteppnjgobaggaaaPM
import Derived.Test.YteppnjgobaggaaaPBegin
namespace Go.Proofs.Yteppnjgobaggaaa
set_option linter.unusedSimpArgs false
set_option linter.unusedVariables false
set_option linter.unnecessarySimpa false
set_option linter.unusedSectionVars false
set_option maxRecDepth 100000
open Go Go.RowKit Go.Am Go.Proofs.Grow

theorem asc_nth {l : List Acc} (h : (l.map Acc.id).Pairwise (· < ·)) {i j : Nat} (hij : i < j) (hj : j < l.length) : (nth l i).id < (nth l j).id := by
  rw [List.pairwise_iff_getElem] at h
  have := h i j (by simp; omega) (by simpa using hj) hij
  rw [nth_getElem l i (by omega), nth_getElem l j hj]
  simpa using this
/-- A new account, or one that is there: what the statement asks. -/
theorem order_law {l : List Acc} (h : MadeA l) {k : Int} (k1 : 1 ≤ k) (k2 : k ≤ 1000) :
    (createF l k 7 = ([], 67) ∧ (findA l k).2 = true) ∨
    (∃ x, createF l k 7 = (x, 0) ∧ x.length = l.length + 1 ∧ (findA l k).2 = false ∧ ∀ i, i < x.length → (0 < i → (nth x (i - 1)).id < (nth x i).id) ∧ ((findA l (nth x i).id).2 = true → eqAcc (findA l (nth x i).id).1 (nth x i) = true) ∧ ((findA l (nth x i).id).2 = false → (nth x i).id = k ∧ (nth x i).bal = 7 ∧ (nth x i).seq = 0)) := by
  have hr := h.right
  by_cases hx : ∀ y ∈ l, ¬ y.id = k
  · have hlen := h.five
    refine .inr ⟨_, create_no hr (okId_iff.2 ⟨k1, k2⟩) hx (okA_iff.2 (by omega)) (by omega), ins_len _ _, by rw [find_none hx], fun i hi => ?_⟩
    have ha := ins_asc (x := ⟨k, 7, 0⟩) hr.2.2 hx
    refine ⟨fun h0 => asc_nth ha (by omega) hi, fun hf => ?_, fun hf => ?_⟩
    · rcases ins_mem.1 (nth_mem _ i hi) with e | e
      · rw [e] at hf; rw [find_none hx] at hf; cases hf
      · rw [find_mem hr e]; exact eqAcc_refl _
    · rcases ins_mem.1 (nth_mem _ i hi) with e | e
      · rw [e]; exact ⟨rfl, rfl, rfl⟩
      · rw [find_mem hr e] at hf; cases hf
  · obtain ⟨y, hy, rfl⟩ : ∃ y ∈ l, y.id = k := Classical.byContradiction fun hn => hx fun y hy e => hn ⟨y, hy, e⟩
    exact .inl ⟨create_there hr hy 7, by rw [find_mem hr hy]⟩
/-- A payment keeps the total; giving back leads back. -/
theorem keep_law {l : List Acc} (h : MadeA l) {a b n : Int} (a1 : 1 ≤ a) (a2 : a ≤ l.length) (b1 : 1 ≤ b) (b2 : b ≤ l.length) (n0 : 0 ≤ n) (n1 : n ≤ 1199) :
    (takeF l a n = ([], 66) ∧ (findA l a).1.bal < n) ∨
    (∃ x y m, takeF l a n = (x, 0) ∧ giveF x b n = (y, 0) ∧ giveF x a n = (l, 0) ∧ createF l 500 n = (m, 0) ∧ totA y = totA l ∧ totA m = totA l + n ∧ chkA m = 0 ∧ x.length ≤ 1000 ∧ y.length ≤ 1000 ∧ m.length ≤ 1000) := by
  have hr := h.right
  have hlen := h.five
  obtain ⟨j, hj, rfl⟩ := h.place a1 a2
  obtain ⟨q, hq, rfl⟩ := h.place b1 b2
  have hok : okA n = true := okA_iff.2 (by omega)
  rw [take_at hr hj hok, findA_at hr.2.2 hj]
  by_cases hb : (nth l j).bal < n
  · rw [if_pos hb]; exact .inl ⟨rfl, hb⟩
  rw [if_neg hb]
  have hbj := h.bals _ (nth_mem l j hj)
  have hbq := h.bals _ (nth_mem l q hq)
  obtain ⟨g1, g2, g3⟩ := hr.2.1 _ (nth_mem l j hj)
  have hr2 : RightA (l.set j { nth l j with bal := (nth l j).bal - n }) := right_set hr hj rfl ⟨g1, by dsimp only; omega, g3⟩
  have hj2 : j < (l.set j { nth l j with bal := (nth l j).bal - n }).length := by simpa using hj
  have hq2 : q < (l.set j { nth l j with bal := (nth l j).bal - n }).length := by simpa using hq
  have hn2 : nth (l.set j { nth l j with bal := (nth l j).bal - n }) j = { nth l j with bal := (nth l j).bal - n } := by rw [nth_set _ _ _ _ hj, if_pos rfl]
  have hnq : (nth (l.set j { nth l j with bal := (nth l j).bal - n }) q).id = (nth l q).id ∧ 0 ≤ (nth (l.set j { nth l j with bal := (nth l j).bal - n }) q).bal ∧ (nth (l.set j { nth l j with bal := (nth l j).bal - n }) q).bal ≤ 1000 := by
    rw [nth_set _ _ _ _ hq]
    split
    · rename_i e; subst e; exact ⟨rfl, by dsimp only; omega, by dsimp only; omega⟩
    · exact ⟨rfl, hbq.1, hbq.2⟩
  have e1 := give_at hr2 hj2 hok (by rw [hn2]; exact okA_iff.2 (by dsimp only; omega))
  have e2 := give_at hr2 hq2 hok (okA_iff.2 (by omega))
  rw [hn2] at e1
  rw [hnq.1] at e2
  have t1 := totA_right hr
  have t2 := totA_right hr2
  obtain ⟨p1, p2, p3⟩ := hr2.2.1 _ (nth_mem _ q hq2)
  have hr3 : RightA ((l.set j { nth l j with bal := (nth l j).bal - n }).set q { nth (l.set j { nth l j with bal := (nth l j).bal - n }) q with bal := (nth (l.set j { nth l j with bal := (nth l j).bal - n }) q).bal + n }) := right_set hr2 hq2 rfl ⟨p1, by have h5 := hnq.2; dsimp only at h5 ⊢; omega, p3⟩
  have hx : ∀ y ∈ l, ¬ y.id = 500 := by
    intro y hy e
    obtain ⟨k, hk, rfl⟩ := mem_nth hy
    have := h.ids k hk; omega
  have hr4 : RightA (insA ⟨500, n, 0⟩ l) := right_ins hr (by omega) ⟨by dsimp only; omega, by dsimp only; omega, by dsimp only; omega⟩ hx
  refine .inr ⟨_, _, _, rfl, e2, ?_, create_no hr (okId_iff.2 (by omega)) hx hok (by omega), ?_, ?_, chkA_zero.2 hr4, by simp; omega, by simp; omega, by rw [ins_len]; omega⟩
  · rw [e1, List.set_set]
    dsimp only
    have e3 : (nth l j).bal - n + n = (nth l j).bal := by omega
    rw [e3]
    show (l.set j (nth l j), (0 : Int)) = _
    rw [set_same l hj]
  · rw [totA_right hr3, t1, tot_set hq2, tot_set hj]; dsimp only; omega
  · rw [totA_right hr4, t1, tot_ins]
end Go.Proofs.Yteppnjgobaggaaa
