/- Plain functions of the payments, and the plain law of PathsPay. No program stands here. -/
import Derived.Test.YtgebgpdoddjfhaaGreatPlainV
import Derived.Test.YtgebgpdoddjfhaaGreatPlainA
namespace Go.Proofs.YtgebgpdoddjfhaaGreat
set_option linter.unusedSimpArgs false
set_option linter.unusedVariables false
set_option linter.unnecessarySimpa false
set_option linter.unusedSectionVars false
set_option maxRecDepth 100000
open Go Go.RowKit Go.Am Go.Proofs.Grow

/-- An amount of an asset is taken from one account, and an amount of an asset given to another one. -/
def moveF (g : Led) (a : Int) (v : ByteArray) (j p : Int) (b : Int) (u : ByteArray) (i n : Int) : Led × Int :=
  if ¬ (debitF g a v j p).2 = 0 then (led0, (debitF g a v j p).2) else
  if ¬ (creditF (debitF g a v j p).1 b u i n).2 = 0 then (led0, (creditF (debitF g a v j p).1 b u i n).2) else ((creditF (debitF g a v j p).1 b u i n).1, 0)
def payF (g : Led) (a b : Int) (u : ByteArray) (i n : Int) : Led × Int :=
  if ¬ chkO g = 0 then (led0, chkO g) else if ¬ 0 < n ∨ okA n = false then (led0, 65) else if a = b then (led0, 67) else moveF g a u i n b u i n
theorem room_made {g : Led} (h : RightG g) (hm : MadeA g.accs) {b : Int} {u : ByteArray} {i : Int} (hf : (findA g.accs b).2 = true) (ha : assetB u i = true) (hn : nativeB u i = true) : 999999999000 ≤ (lookF g b u i).2.1 ∧ (lookF g b u i).2.2 = true := by
  rcases look_cases h hf ha with ⟨_, _, _, j, hj, _, _, e⟩ | ⟨q, _⟩ | ⟨q, _⟩ | ⟨q, _⟩
  · rw [e]
    have := hm.bals _ (nth_mem _ j hj)
    exact ⟨by dsimp only; omega, rfl⟩
  all_goals rw [q] at hn; cases hn
/-- What the walk of PathsPay asks. -/
theorem pay_law {g : Led} (h : chkO g = 0) (hm : MadeA g.accs) (l2 : g.lins.length ≤ 10) (l3 : g.offs.length ≤ 5) {a b : Int} {u : ByteArray} {i n : Int} (hf : (findA g.accs a).2 = true) (hf2 : (findA g.accs b).2 = true) (ha : assetB u i = true) (n0 : 1 ≤ n) (n1 : n ≤ 90) :
    (a = b ∧ payF g a b u i n = (led0, 67)) ∨ (¬ a = b ∧ ∃ (x : Led) (e : Int), payF g a b u i n = (x, e) ∧ ((e = 70 ∨ e = 66) ∨
      (e = 0 ∧ chkO x = 0 ∧ x.accs.length ≤ 5 ∧ x.lins.length ≤ 10 ∧ x.offs.length ≤ 5 ∧ payF x b a u i n = (g, 0) ∧ (0 ≤ heldF g a u i ∧ heldF g a u i ≤ 1000000000000) ∧ (0 ≤ heldF g b u i ∧ heldF g b u i ≤ 1000000000000) ∧ (¬ i = a → heldF x a u i = heldF g a u i - n) ∧ (¬ i = b → heldF x b u i = heldF g b u i + n)))) := by
  have hr := chkO_zero.1 h
  have hk : okA n = true := okA_iff.2 (by omega)
  by_cases hab : a = b
  · refine .inl ⟨hab, ?_⟩
    unfold payF
    rw [if_neg (by simp [h]), if_neg (by simp [hk]; omega), if_pos hab]
  · refine .inr ⟨hab, (payF g a b u i n).1, (payF g a b u i n).2, rfl, ?_⟩
    have hp : payF g a b u i n = moveF g a u i n b u i n := by
      unfold payF
      rw [if_neg (by simp [h]), if_neg (by simp [hk]; omega), if_neg hab]
    rw [hp]
    have hbd := look_bd hr.right hf ha
    have hbd2 := look_bd hr.right hf2 ha
    unfold moveF
    rw [debit_eq hr.right hf ha hk]
    by_cases c1 : (lookF g a u i).2.2 = true ∧ n ≤ (lookF g a u i).1
    · rw [if_pos c1]
      dsimp only
      rw [if_neg (by simp)]
      have hR := right_add hr hf ha (m := -n) c1.1 (by omega) (by omega)
      obtain ⟨s1, s2, s3, s4, s5, s6, s7, s8, s9, s10, s11, s12, s13, s14, s15, s16, s17, s18⟩ := addL_spec hr.right hf ha (m := -n) c1.1 (by omega) (by omega)
      rw [Int.neg_neg] at s3
      have hfb : (findA (addL g a u i (-n)).accs b).2 = true := by rw [s10]; exact hf2
      have lb := s6 b u i (fun q => hab q.1.symm)
      rw [credit_eq s1 hfb ha hk, lb]
      by_cases c2 : (lookF g b u i).2.2 = true ∧ n ≤ (lookF g b u i).2.1
      · rw [if_pos c2]
        dsimp only
        rw [if_neg (by simp)]
        have hR3 := right_add hR hfb ha (m := n) (by rw [lb]; exact c2.1) (by rw [lb]; omega) (by rw [lb]; exact c2.2)
        obtain ⟨t1, t2, t3, t4, t5, t6, t7, t8, t9, t10, t11, t12, t13, t14, t15, t16, t17, t18⟩ := addL_spec s1 hfb ha (m := n) (by rw [lb]; exact c2.1) (by rw [lb]; omega) (by rw [lb]; exact c2.2)
        rw [lb] at t4
        have h5 := hm.five
        have la := t6 a u i (fun q => hab q.1)
        refine .inr ⟨rfl, chkO_zero.2 hR3, by dsimp only; omega, by dsimp only; omega, by dsimp only; rw [t12, s12]; exact l3, ?_, ?_, ?_, fun q => ?_, fun q => ?_⟩
        · dsimp only
          unfold payF
          rw [if_neg (by simp [chkO_zero.2 hR3]), if_neg (by simp [hk]; omega), if_neg (fun q => hab q.symm)]
          unfold moveF
          have hx : (lookF (addL (addL g a u i (-n)) b u i n) b u i).2.2 = true ∧ n ≤ (lookF (addL (addL g a u i (-n)) b u i n) b u i).1 := by
            by_cases q : i = b
            · rw [t5 q, lb]
              refine ⟨c2.1, ?_⟩
              rcases look_cases hr.right hf2 ha with ⟨_, q1, _⟩ | ⟨_, _, _, e⟩ | ⟨_, q1, _⟩ | ⟨_, q1, _⟩
              · exact absurd q q1
              · rw [e]; dsimp only; omega
              · exact absurd q q1
              · exact absurd q q1
            · rw [t4 q]; exact ⟨rfl, by dsimp only; omega⟩
          rw [debit_eq t1 t2 ha hk, if_pos hx]
          dsimp only
          rw [if_neg (by simp), t3]
          have ha2 : (lookF (addL g a u i (-n)) a u i).2.2 = true ∧ n ≤ (lookF (addL g a u i (-n)) a u i).2.1 := by
            by_cases q : i = a
            · rw [s5 q]
              refine ⟨c1.1, ?_⟩
              rcases look_cases hr.right hf ha with ⟨_, q1, _⟩ | ⟨_, _, _, e⟩ | ⟨_, q1, _⟩ | ⟨_, q1, _⟩
              · exact absurd q q1
              · rw [e]; dsimp only; omega
              · exact absurd q q1
              · exact absurd q q1
            · rw [s4 q]; exact ⟨rfl, by dsimp only; omega⟩
          rw [credit_eq s1 s2 ha hk, if_pos ha2]
          dsimp only
          rw [if_neg (by simp), s3]
        · rw [(held_look hr.right a u i).1]; omega
        · rw [(held_look hr.right b u i).1]; omega
        · dsimp only
          rw [(held_look t1 a u i).1, (held_look hr.right a u i).1, la, s4 q]
          dsimp only; omega
        · dsimp only
          rw [(held_look t1 b u i).1, (held_look hr.right b u i).1, t4 q]
      · rw [if_neg c2]
        dsimp only
        rw [if_pos (by cases nativeB u i <;> simp)]
        refine .inl (.inl ?_)
        dsimp only
        cases q : nativeB u i with
        | false => rfl
        | true =>
          have := room_made hr.right hm hf2 ha q
          exact absurd ⟨this.2, by omega⟩ c2
    · rw [if_neg c1]
      dsimp only
      rw [if_pos (by cases (lookF g a u i).2.2 <;> simp)]
      left
      dsimp only
      cases (lookF g a u i).2.2 <;> simp
end Go.Proofs.YtgebgpdoddjfhaaGreat
