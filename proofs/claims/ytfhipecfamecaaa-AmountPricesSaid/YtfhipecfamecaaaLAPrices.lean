/- AmountPrices: the walk of the statement, and the plain law on reduced prices. -/
import Derived.Test.YtfhipecfamecaaaLARounds
namespace Go.Proofs.Ytfhipecfamecaaa
set_option linter.unusedSimpArgs false
set_option linter.unusedVariables false
set_option linter.unnecessarySimpa false
set_option linter.unusedSectionVars false
open Go.RowKit Go.Proofs.Grow Go.Sort

theorem wrap_in {x : Int} (h : 0 ≤ x ∧ x ≤ 1000000000000000000) : wrap64 x = x := by unfold wrap64; omega
/-- The reduced price: a common factor, and the two parts. -/
theorem red_ex {n d : Int} (hn : 1 ≤ n ∧ n ≤ 1000000) (hd : 1 ≤ d ∧ d ≤ 1000000) :
    ∃ g p q : Int, g = gcdI n d ∧ redF n d = (p, q) ∧ 1 ≤ g ∧ n = g * p ∧ d = g * q ∧ 1 ≤ p ∧ p ≤ n ∧ 1 ≤ q ∧ q ≤ d := by
  have hg : 1 ≤ gcdI n d := gcd_pos hn.1
  have d1 : gcdI n d ∣ n := by
    unfold gcdI
    have := Nat.gcd_dvd_left n.toNat d.toNat
    have h2 : (n.toNat : Int) = n := Int.toNat_of_nonneg (by omega)
    have h3 := Int.natCast_dvd_natCast.2 this
    rwa [h2] at h3
  have d2 : gcdI n d ∣ d := by
    unfold gcdI
    have := Nat.gcd_dvd_right n.toNat d.toNat
    have h2 : (d.toNat : Int) = d := Int.toNat_of_nonneg (by omega)
    have h3 := Int.natCast_dvd_natCast.2 this
    rwa [h2] at h3
  have e1 : gcdI n d * (n / gcdI n d) = n := Int.mul_ediv_cancel' d1
  have e2 : gcdI n d * (d / gcdI n d) = d := Int.mul_ediv_cancel' d2
  have hr : redF n d = (n / gcdI n d, d / gcdI n d) := by simp [redF, price_iff.2 ⟨hn, hd⟩]
  have l1 : n / gcdI n d ≤ n := Int.ediv_le_self _ (by omega)
  have l2 : d / gcdI n d ≤ d := Int.ediv_le_self _ (by omega)
  have z1 : 0 ≤ n / gcdI n d := Int.ediv_nonneg (by omega) (by omega)
  have z2 : 0 ≤ d / gcdI n d := Int.ediv_nonneg (by omega) (by omega)
  generalize n / gcdI n d = p at *
  generalize d / gcdI n d = q at *
  refine ⟨_, p, q, rfl, hr, hg, e1.symm, e2.symm, ?_, l1, ?_, l2⟩
  · rcases Int.lt_or_eq_of_le z1 with h | h
    · omega
    · subst h; simp at e1; omega
  · rcases Int.lt_or_eq_of_le z2 with h | h
    · omega
    · subst h; simp at e2; omega
theorem gcd_mul {n d f : Int} (hn : 0 ≤ n) (hd : 0 ≤ d) (hf : 0 ≤ f) : gcdI (n * f) (d * f) = gcdI n d * f := by
  unfold gcdI
  obtain ⟨x, rfl⟩ := Int.eq_ofNat_of_zero_le hn
  obtain ⟨y, rfl⟩ := Int.eq_ofNat_of_zero_le hd
  obtain ⟨z, rfl⟩ := Int.eq_ofNat_of_zero_le hf
  rw [show ((x : Int) * z) = ((x * z : Nat) : Int) by simp, show ((y : Int) * z) = ((y * z : Nat) : Int) by simp]
  simp only [Int.toNat_natCast]
  rw [Nat.gcd_mul_right]
  simp
theorem cmp_neg (x y : Int) : cmpI x y = -cmpI y x := by
  unfold cmpI; repeat' split
  all_goals omega
/-- All that the statement asks of prices. -/
theorem prices (a b c d f : Int) (a0 : 1 ≤ a) (a1 : a ≤ 65536) (b0 : 1 ≤ b) (b1 : b ≤ 65536) (c0 : 1 ≤ c) (c1 : c ≤ 65536) (d0 : 1 ≤ d) (d1 : d ≤ 65536) (f0 : 1 ≤ f) (f1 : f ≤ 10) :
    ∃ n m z : Int, redF a b = (n, m) ∧ cmpP a b n m = 0 ∧ cmpP a b c d = z ∧ cmpP c d a b = -z ∧ redF (a * f) (b * f) = (n, m) ∧ addF a c = (a + c, 0) ∧ subF (a + c) c = (a, 0) ∧
      (z = -1 ∧ a * d < c * b ∨ z = 0 ∧ ¬ a * d < c * b ∨ z = 1 ∧ ¬ a * d < c * b) ∧ n * b = m * a ∧
      1 ≤ n ∧ n ≤ a ∧ 1 ≤ m ∧ m ≤ b ∧ 0 ≤ n * b ∧ n * b ≤ 1000000000000 ∧ 0 ≤ a * d ∧ a * d ≤ 1000000000000 ∧ 0 ≤ c * b ∧ c * b ≤ 1000000000000 ∧ 1 ≤ a * f ∧ a * f ≤ 1000000 ∧ 1 ≤ b * f ∧ b * f ≤ 1000000 := by
  obtain ⟨g, n, m, hg, hr, g1, e1, e2, n1, n2, m1, m2⟩ := red_ex (n := a) (d := b) (by omega) (by omega)
  have af : 1 ≤ a * f ∧ a * f ≤ 1000000 := ⟨by
      have := Int.mul_le_mul_of_nonneg_right a0 (show 0 ≤ f by omega); omega, by
      calc a * f ≤ 65536 * f := Int.mul_le_mul_of_nonneg_right a1 (by omega)
        _ ≤ 1000000 := by omega⟩
  have bf : 1 ≤ b * f ∧ b * f ≤ 1000000 := ⟨by
      have := Int.mul_le_mul_of_nonneg_right b0 (show 0 ≤ f by omega); omega, by
      calc b * f ≤ 65536 * f := Int.mul_le_mul_of_nonneg_right b1 (by omega)
        _ ≤ 1000000 := by omega⟩
  have nb : n * b = m * a := by rw [e1, e2, Int.mul_comm g m, ← Int.mul_assoc, Int.mul_comm n m, Int.mul_assoc, Int.mul_comm n g]
  have hpa : priceB a b = true := price_iff.2 (by omega)
  have hpc : priceB c d = true := price_iff.2 (by omega)
  have hpn : priceB n m = true := price_iff.2 (by omega)
  have hpf : priceB (a * f) (b * f) = true := price_iff.2 ⟨af, bf⟩
  have b1' := mul_bd2 (a := n) (n := b) (by omega) (by omega)
  have b2' := mul_bd2 (a := a) (n := d) (by omega) (by omega)
  have b3' := mul_bd2 (a := c) (n := b) (by omega) (by omega)
  have hz : cmpP a b c d = cmpI (a * d) (c * b) := by simp [cmpP, hpa, hpc]
  have hz2 : cmpP c d a b = cmpI (c * b) (a * d) := by simp [cmpP, hpa, hpc]
  have h0 : cmpP a b n m = 0 := by
    simp only [cmpP, hpa, hpn, Bool.and_self, if_true]
    rw [nb, Int.mul_comm a m]; simp [cmpI]
  have hrf : redF (a * f) (b * f) = (n, m) := by
    have hgf := gcd_mul (n := a) (d := b) (f := f) (by omega) (by omega) (by omega)
    rw [← hg] at hgf
    have q1 : a * f / (g * f) = n := by
      rw [Int.mul_ediv_mul_of_pos_left _ _ (by omega)]
      exact Int.ediv_eq_of_eq_mul_right (by omega) e1
    have q2 : b * f / (g * f) = m := by
      rw [Int.mul_ediv_mul_of_pos_left _ _ (by omega)]
      exact Int.ediv_eq_of_eq_mul_right (by omega) e2
    simp only [redF, hpf, if_true]
    rw [hgf, q1, q2]
  have ha : addF a c = (a + c, 0) := by
    simp [addF, allA, wrap_in (x := a + c) (by omega), okA]; omega
  have hs : subF (a + c) c = (a, 0) := by
    have : a + c - c = a := by omega
    simp [subF, allA, this, wrap_in (x := a) (by omega), okA]; omega
  refine ⟨n, m, _, hr, h0, hz, by rw [hz2, cmp_neg], hrf, ha, hs, ?_, nb, n1, n2, m1, m2, b1'.1, b1'.2, b2'.1, b2'.2, b3'.1, b3'.2, af.1, af.2, bf.1, bf.2⟩
  unfold cmpI
  by_cases h : a * d < c * b
  · simp [h]
  · by_cases h' : c * b < a * d
    · simp [h, h']
    · simp [h, h']

set_option maxRecDepth 100000 in
set_option maxHeartbeats 1000000 in
theorem law_AmountPrices (a0 a1 a2 a3 a4 : Int) (w0 : (Lit.int .u16 a0).wf = true) (w1 : (Lit.int .u16 a1).wf = true) (w2 : (Lit.int .u16 a2).wf = true) (w3 : (Lit.int .u16 a3).wf = true) (w4 : (Lit.int .u8 a4).wf = true) (w : World) :
    Calls Try.prog 11 #[.int .u16 a0, .int .u16 a1, .int .u16 a2, .int .u16 a3, .int .u8 a4] w fun e w' => e = .returned (.bool true) ∧ Ex w w' := by
  have h0 : 0 ≤ a0 ∧ a0 ≤ 65535 := by simpa [Lit.wf, IntKind.min, IntKind.max, IntKind.bits, IntKind.signed] using w0
  have h1 : 0 ≤ a1 ∧ a1 ≤ 65535 := by simpa [Lit.wf, IntKind.min, IntKind.max, IntKind.bits, IntKind.signed] using w1
  have h2 : 0 ≤ a2 ∧ a2 ≤ 65535 := by simpa [Lit.wf, IntKind.min, IntKind.max, IntKind.bits, IntKind.signed] using w2
  have h3 : 0 ≤ a3 ∧ a3 ≤ 65535 := by simpa [Lit.wf, IntKind.min, IntKind.max, IntKind.bits, IntKind.signed] using w3
  have h4 : 0 ≤ a4 ∧ a4 ≤ 255 := by simpa [Lit.wf, IntKind.min, IntKind.max, IntKind.bits, IntKind.signed] using w4
  obtain ⟨p0, p1⟩ := h0
  obtain ⟨p2, p3⟩ := h1
  obtain ⟨p4, p5⟩ := h2
  obtain ⟨p6, p7⟩ := h3
  obtain ⟨p8, p9⟩ := h4
  clear w0 w1 w2 w3 w4
  obtain ⟨n, m, z, f1, f2, f3, f4, f5, f6, f7, g1, g2, m1, m2, m3, m4, m5, m6, m7, m8, m9, m10, k1, k2, k3, k4⟩ := prices (1 + a0) (1 + a1) (1 + a2) (1 + a3) (1 + a4 % 10) (by omega) (by omega) (by omega) (by omega) (by omega) (by omega) (by omega) (by omega) (by omega) (by omega)
  have q1 : 1 ≤ 1 + a0 := by omega
  have q2 : 1 + a0 ≤ 65536 := by omega
  have q3 : 1 ≤ 1 + a1 := by omega
  have q4 : 1 + a1 ≤ 65536 := by omega
  have q5 : 1 ≤ 1 + a2 := by omega
  have q6 : 1 + a2 ≤ 65536 := by omega
  have q7 : 1 ≤ 1 + a3 := by omega
  have q8 : 1 + a3 ≤ 65536 := by omega
  have q9 : 1 ≤ 1 + a4 % 10 := by omega
  have q10 : 1 + a4 % 10 ≤ 10 := by omega
  have F1 := Lib.hid f1; have F2 := Lib.hid f2; have F3 := Lib.hid f3; have F4 := Lib.hid f4; have F5 := Lib.hid f5; have F6 := Lib.hid f6; have F7 := Lib.hid f7
  have n1 : ¬ 1 + a0 < n := by omega
  have n2 : ¬ 1 + a1 < m := by omega
  have n3 : (n * (1 + a1) != m * (1 + a0)) = false := by simpa using g2
  have m11 : m * (1 + a0) ≤ 1000000000000 := by omega
  have m12 : 0 ≤ m * (1 + a0) := by omega
  clear f1 f2 f3 f4 f5 f6 f7 g2
  rcases g1 with ⟨rfl, hl⟩ | ⟨rfl, hl⟩ | ⟨rfl, hl⟩
  all_goals
    go_enter Try.func11, Try.ntmps11
    go_wp2_with fail
    generalize 1 + a0 = a at *
    generalize 1 + a1 = b at *
    generalize 1 + a2 = c at *
    generalize 1 + a3 = d at *
    refine (red_p _ _ _).mono ?_
    rw [F1.out]
    rintro e w1 ⟨rfl, hx1⟩
    go_wp2_with fail
    refine (cmpP_p _ _ _ _ _).mono ?_
    rw [F2.out]
    rintro e w2 ⟨rfl, rfl⟩
    go_wp2_with fail
    refine (cmpP_p _ _ _ _ _).mono ?_
    rw [F3.out]
    rintro e w2 ⟨rfl, rfl⟩
    go_wp2_with fail
    refine (cmpP_p _ _ _ _ _).mono ?_
    rw [F4.out]
    rintro e w2 ⟨rfl, rfl⟩
    go_wp2_with fail
    generalize 1 + a4 % 10 = f at *
    refine (red_p _ _ _).mono ?_
    rw [F5.out]
    rintro e w3 ⟨rfl, hx3⟩
    go_wp2_with fail
    refine (add_p _ _ _).mono ?_
    rw [F6.out]
    rintro e w4 ⟨rfl, hx4⟩
    go_wp2_with fail
    refine (sub_p _ _ _).mono ?_
    rw [F7.out]
    rintro e w5 ⟨rfl, hx5⟩
    go_wp2_with fail
    refine (cmpP_p _ _ _ _ _).mono ?_
    rw [F3.out]
    rintro e w6 ⟨rfl, rfl⟩
    go_wp2_with (first | (go_at_call 33; refine (sane35 _).mono ?_; rintro e w_sane35 ⟨rfl, hb_sane35⟩; have hr_sane35 := hb_sane35.rules; obtain ⟨hc_sane35, hf_sane35⟩ := hr_sane35; have hs_sane35 := hb_sane35.sz; (try simp only [World.size_alloc, World.size_setCell, World.size_drew] at hs_sane35)))
    go_ret
    exact ⟨by simp [hl], (by repeat (first | exact Ex.refl _ | assumption | apply Ex.alloc | apply Ex.drew | apply Ex.drewN | (refine Ex.setAt ?_ _ ?_; (first | exact Nat.le_refl _ | omega | (simp; omega))) | (apply Ex.after; assumption)))⟩
end Go.Proofs.Ytfhipecfamecaaa
