/- Plain law of TrustlinesKeep and TrustlinesMove, as the walks use it. No program stands here. -/
import Derived.Test.YtgebgpdoddjfhaaGreatPlainM
namespace Go.Proofs.YtgebgpdoddjfhaaGreat
set_option linter.unusedSimpArgs false
set_option linter.unusedVariables false
set_option linter.unnecessarySimpa false
set_option linter.unusedSectionVars false
set_option maxRecDepth 100000
open Go Go.RowKit Go.Am Go.Proofs.Grow

theorem asset3_ok {x : Int} (h0 : 0 ≤ x) (h : x ≤ 2) : assetB (nth assets3 x.toNat).1 (nth assets3 x.toNat).2 = true := by
  rcases (by omega : x = 0 ∨ x = 1 ∨ x = 2) with rfl | rfl | rfl <;> decide +kernel
theorem native_eqT (u : ByteArray) (i : Int) : eqT u i ⟨#[]⟩ 0 = nativeB u i := by
  rw [Bool.eq_iff_iff, eqT_iff, native_iff]
theorem issued_bd {g : Led} (h : RightG g) (u : ByteArray) (i : Int) : 0 ≤ issued g.lins u i ∧ issued g.lins u i ≤ 1000000000000000 := by
  rw [issued_right h]
  have key : ∀ l : List Lin, (∀ x ∈ l, 0 ≤ x.bal ∧ x.bal ≤ 1000000000000) → 0 ≤ sumT u i l ∧ sumT u i l ≤ 1000000000000 * l.length := by
    intro l
    induction l with
    | nil => intro _; simp [sumT]
    | cons x r ih =>
      intro hb
      have h1 := hb x (by simp)
      have h2 := ih fun y hy => hb y (by simp [hy])
      simp only [sumT, List.length_cons]
      split <;> omega
  have := key g.lins fun x hx => by have := h.good x hx; unfold GoodL at this; omega
  have := h.len
  omega
theorem beq_iff {a b : Bool} (h : a = true ↔ b = true) : a = b := by cases a <;> cases b <;> simp_all
/-- All that the walk of TrustlinesKeep asks. -/
theorem keep_pack {g : Led} (h : RightG g) (h60 : g.lins.length ≤ 60) {a : Int} {u : ByteArray} {i n : Int} (hf : (findA g.accs a).2 = true) (ha : assetB u i = true) (n0 : 0 ≤ n) (n1 : n ≤ 699) :
    ∃ (x y : Led) (e f : Int) (lo : Lin) (own : Bool), creditF g a u i n = (x, e) ∧ debitF g a u i n = (y, f) ∧ findL g.lins a u i = (lo, own) ∧
      (e == 0) = (decide (n ≤ roomF g a u i) && (own || ((i == a) || eqT u i ⟨#[]⟩ 0))) ∧ (f == 0) = (decide (n ≤ heldF g a u i) && (own || ((i == a) || eqT u i ⟨#[]⟩ 0))) ∧
      (e = 0 → chkL x.lins x.accs = 0 ∧ debitF x a u i n = (g, 0) ∧ (own = true → issued x.lins u i = issued g.lins u i + n ∧ heldF x a u i = heldF g a u i + n)) ∧
      (own = true → f = 0 → issued y.lins u i = issued g.lins u i - n) ∧ x.lins.length ≤ 1000 ∧ x.accs.length ≤ 1000 ∧ x.offs.length ≤ g.offs.length ∧ y.lins.length ≤ 1000 ∧ (0 ≤ heldF g a u i ∧ heldF g a u i ≤ 1000000000000) ∧ (0 ≤ issued g.lins u i ∧ issued g.lins u i ≤ 1000000000000000) ∧
      (own = true → (i == a) = false ∧ eqT u i ⟨#[]⟩ 0 = false) ∧ (eqT u i ⟨#[]⟩ 0 = true → (i == a) = false) := by
  obtain ⟨c1, c2⟩ := keep_credit h hf ha n0 (n := n) (by omega)
  obtain ⟨d1, d2⟩ := keep_debit h hf ha n0 (n := n) (by omega)
  have hb := look_bd h hf ha
  have hh := held_look h a u i
  have hp : ∀ m, (lookF g a u i).2.2 = true → 0 ≤ (lookF g a u i).1 + m → m ≤ (lookF g a u i).2.1 → (addL g a u i m).lins.length ≤ 1000 ∧ (addL g a u i m).accs.length ≤ 1000 ∧ (addL g a u i m).offs.length ≤ g.offs.length := by
    intro m q1 q2 q3
    obtain ⟨_, _, _, _, _, _, _, _, _, _, _, s1, s2, s3, _⟩ := addL_spec h hf ha q1 q2 q3
    have := h.accs.1
    rw [s1, s2, s3]; exact ⟨by omega, by omega, by omega⟩
  have hcl : (creditF g a u i n).1.lins.length ≤ 1000 ∧ (creditF g a u i n).1.accs.length ≤ 1000 ∧ (creditF g a u i n).1.offs.length ≤ g.offs.length := by
    rw [credit_eq h hf ha (okA_iff.2 (by omega))]
    split
    · rename_i hc; exact hp n hc.1 (by omega) hc.2
    · exact ⟨by simp [led0], by simp [led0], Nat.zero_le _⟩
  have hdl : (debitF g a u i n).1.lins.length ≤ 1000 := by
    rw [debit_eq h hf ha (okA_iff.2 (by omega))]
    split
    · rename_i hc; exact (hp (-n) hc.1 (by omega) (by omega)).1
    · exact Nat.zero_le _
  refine ⟨(creditF g a u i n).1, (debitF g a u i n).1, (creditF g a u i n).2, (debitF g a u i n).2, (findL g.lins a u i).1, (findL g.lins a u i).2, rfl, rfl, rfl, ?_, ?_, fun he => ?_, fun ho hf0 => (d2 hf0).2.2 ho, hcl.1, hcl.2.1, hcl.2.2, hdl, by omega, issued_bd h u i, fun ho => ?_, fun hh => ?_⟩
  · refine beq_iff ?_
    rw [beq_iff_eq, c1, native_eqT]; simp
  · refine beq_iff ?_
    rw [beq_iff_eq, d1, native_eqT]; simp
  · obtain ⟨q1, q2, q3, q4⟩ := c2 he
    exact ⟨chkL_zero.2 q1, q2, q4⟩
  · rw [native_eqT]
    rcases look_cases h hf ha with ⟨hn, hia, ho', _⟩ | ⟨hn, hia, ho', e⟩ | ⟨hn, hia, ho', _⟩ | ⟨hn, hia, ho', e⟩
    · rw [ho'] at ho; cases ho
    · rw [ho'] at ho; cases ho
    · exact ⟨by simp [hia], hn⟩
    · rw [ho'] at ho; cases ho
  · rw [native_eqT] at hh
    have hp := found_pos h.accs hf
    have := native_iff.1 hh
    simp; omega
/-- All that the walk of TrustlinesMove asks. -/
theorem move_pack {g : Led} (h : RightG g) {a b : Int} {u : ByteArray} {i n : Int} (hf : (findA g.accs a).2 = true) (hf2 : (findA g.accs b).2 = true) (ha : assetB u i = true) (hn : nativeB u i = false) (n0 : 0 ≤ n) (n1 : n ≤ 299) (h60 : g.offs.length ≤ 1000) :
    ∃ (x : Led) (e : Int), debitF g a u i n = (x, e) ∧ x.lins.length ≤ 1000 ∧ x.accs.length ≤ 1000 ∧ x.offs.length ≤ 1000 ∧ (¬ e = 0 → issued x.lins u i = 0) ∧
      (e = 0 → ∃ (y : Led) (f : Int), creditF x b u i n = (y, f) ∧ y.lins.length ≤ 1000 ∧ y.accs.length ≤ 1000 ∧ (¬ f = 0 → f = 70) ∧
        (f = 0 → chkL y.lins y.accs = 0 ∧ (0 ≤ issued g.lins u i ∧ issued g.lins u i ≤ 1000000000000000) ∧ issued y.lins u i = issued g.lins u i + ((if a = i then n else 0) - (if b = i then n else 0)))) := by
  have hok : okA n = true := okA_iff.2 (by omega)
  have hb := look_bd h hf ha
  refine ⟨(debitF g a u i n).1, (debitF g a u i n).2, rfl, ?_⟩
  rw [debit_eq h hf ha hok]
  by_cases c : (lookF g a u i).2.2 = true ∧ n ≤ (lookF g a u i).1
  · rw [if_pos c]
    obtain ⟨s1, s2, s3, s4, s5, s6, s7, s8, s9, s10, s11, s12, s13, s14, s15⟩ := addL_spec h hf ha (m := -n) c.1 (by omega) (by omega)
    have hl := s1.len
    have hal := s1.accs.1
    refine ⟨by dsimp only; omega, by dsimp only; omega, by dsimp only; rw [s12]; exact h60, fun hh => absurd rfl hh, fun _ => ?_⟩
    have hf3 : (findA (addL g a u i (-n)).accs b).2 = true := by rw [s10]; exact hf2
    have hb2 := look_bd s1 hf3 ha
    refine ⟨(creditF (addL g a u i (-n)) b u i n).1, (creditF (addL g a u i (-n)) b u i n).2, rfl, ?_⟩
    rw [credit_eq s1 hf3 ha hok]
    by_cases c2 : (lookF (addL g a u i (-n)) b u i).2.2 = true ∧ n ≤ (lookF (addL g a u i (-n)) b u i).2.1
    · rw [if_pos c2]
      obtain ⟨r1, r2, r3, r4, r5, r6, r7, r8, r9, r10, r11, r12, r13, r14, r15⟩ := addL_spec s1 hf3 ha (m := n) c2.1 (by omega) c2.2
      have hl2 := r1.len
      have hal2 := r1.accs.1
      refine ⟨by dsimp only; omega, by dsimp only; omega, fun hh => absurd rfl hh, fun _ => ⟨chkL_zero.2 r1, issued_bd h u i, ?_⟩⟩
      dsimp only
      rw [issued_right r1, (r7 hn).2, (s7 hn).2, issued_right h]
      have e1 : (if i = a then (0 : Int) else -n) = (if a = i then n else 0) - n := by
        by_cases q : i = a
        · rw [if_pos q, if_pos q.symm]; omega
        · rw [if_neg q, if_neg (fun q2 => q q2.symm)]; omega
      have e2 : (if i = b then (0 : Int) else n) = n - (if b = i then n else 0) := by
        by_cases q : i = b
        · rw [if_pos q, if_pos q.symm]; omega
        · rw [if_neg q, if_neg (fun q2 => q q2.symm)]; omega
      rw [e1, e2]; omega
    · rw [if_neg c2]
      refine ⟨Nat.zero_le _, Nat.zero_le _, fun _ => by dsimp only; rw [if_neg (by simp [hn])], fun hh => ?_⟩
      dsimp only at hh
      rw [if_neg (by simp [hn])] at hh
      exact absurd hh (by decide)
  · rw [if_neg c]
    refine ⟨Nat.zero_le _, Nat.zero_le _, Nat.zero_le _, fun _ => rfl, fun hh => ?_⟩
    dsimp only at hh
    split at hh <;> exact absurd hh (by decide)
end Go.Proofs.YtgebgpdoddjfhaaGreat
