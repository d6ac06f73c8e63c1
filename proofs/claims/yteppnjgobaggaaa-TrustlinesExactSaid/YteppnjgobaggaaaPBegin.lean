/- The plain law of AccountsBegin: one round of the statement's loop. No program stands here. -/
import Derived.Test.YteppnjgobaggaaaPlainA
namespace Go.Proofs.Yteppnjgobaggaaa
set_option linter.unusedSimpArgs false
set_option linter.unusedVariables false
set_option linter.unnecessarySimpa false
set_option linter.unusedSectionVars false
set_option maxRecDepth 100000
open Go.RowKit Go.Proofs.Grow Go.Sort

/-- What the loop of the statement keeps: the accounts are right, and one of them has the number, with a small sequence. -/
def BeginInv (l : List Acc) (i : Int) (k : Nat) : Prop := RightA l ∧ ∃ j, j < l.length ∧ (nth l j).id = i ∧ (nth l j).seq ≤ 2 + (k : Int)
theorem MadeA.begin {l : List Acc} (h : MadeA l) {i : Int} (h1 : 1 ≤ i) (h2 : i ≤ l.length) : BeginInv l i 0 := by
  obtain ⟨j, hj, e⟩ := h.place h1 h2
  have := h.seqs _ (nth_mem l j hj)
  exact ⟨h.right, j, hj, e, by omega⟩
/-- One round: the account is found, a wrong sequence is refused, and the right one takes just the fee, or there is too little. -/
theorem begin_round {l : List Acc} {i : Int} {k : Nat} (h : BeginInv l i k) (hk : k < 4) {n : Int} (n1 : 1 ≤ n) (n2 : n ≤ 30) :
    ∃ a : Acc, findA l i = (a, true) ∧ 0 ≤ a.seq ∧ a.seq ≤ 1000 ∧ 0 ≤ a.bal ∧ a.bal ≤ 1000000000000 ∧ beginF l i (a.seq + 2) n = ([], 68) ∧ beginF l i a.seq n = ([], 68) ∧
      ((a.bal < n ∧ beginF l i (a.seq + 1) n = ([], 66)) ∨ (n ≤ a.bal ∧ ∃ m, beginF l i (a.seq + 1) n = (m, 0) ∧ BeginInv m i (k + 1) ∧ findA m i = (⟨i, a.bal - n, a.seq + 1⟩, true) ∧ totA m = totA l - n)) := by
  obtain ⟨hr, j, hj, rfl, hs⟩ := h
  obtain ⟨g1, g2, g3⟩ := hr.2.1 _ (nth_mem l j hj)
  refine ⟨nth l j, findA_at hr.2.2 hj, g3.1, by omega, g2.1, g2.2, begin_wrong hr hj n (by omega), begin_wrong hr hj n (by omega), ?_⟩
  by_cases hb : (nth l j).bal < n
  · exact .inl ⟨hb, begin_poor hr hj (by omega) (by omega) (by omega) hb⟩
  · obtain ⟨e1, e2, e3, e4⟩ := begin_ok hr hj (n := n) (by omega) (by omega) (by omega) (by omega)
    refine .inr ⟨by omega, _, e1, ⟨e2, j, by simpa using hj, ?_, ?_⟩, e3, e4⟩
    · rw [nth_set _ _ _ _ hj, if_pos rfl]
    · rw [nth_set _ _ _ _ hj, if_pos rfl]; show (nth l j).seq + 1 ≤ _; omega
theorem totA_bd {l : List Acc} (h : RightA l) : 0 ≤ totA l ∧ totA l ≤ 20000000000000 := by
  rw [totA_right h]
  have := tot_bd (l := l) (fun x hx => (h.2.1 x hx).2.1)
  have := h.1
  omega
end Go.Proofs.Yteppnjgobaggaaa
