/- AmountRounds: the walk of the statement, and the plain law on rounding. -/
import Derived.Test.YtfhipecfamecaaaS35
namespace Go.Proofs.Ytfhipecfamecaaa
set_option linter.unusedSimpArgs false
set_option linter.unusedVariables false
set_option linter.unnecessarySimpa false
set_option linter.unusedSectionVars false
open Go.RowKit Go.Proofs.Grow Go.Sort

theorem down_val {x n d q : Int} (hx : okA x = true) (hp : priceB n d = true) (hq : q = x * n / d) (ho : okA q = true) : downF x n d = (q, 0) := by
  subst hq; simp [downF, scaleF, hx, hp, all1, ho]
theorem up_val {x n d q : Int} (hx : okA x = true) (hp : priceB n d = true) (hq : q = (x * n + (d - 1)) / d) (ho : okA q = true) : upF x n d = (q, 0) := by
  subst hq; simp [upF, scaleF, hx, hp, all1, ho]
theorem div_lo {p d : Int} (hd : 1 ≤ d) : p / d * d ≤ p ∧ p < p / d * d + d := by
  have h1 := Int.mul_ediv_add_emod p d
  have h2 := Int.emod_nonneg p (show d ≠ 0 by omega)
  have h3 := Int.emod_lt_of_pos p (show 0 < d by omega)
  rw [Int.mul_comm] at h1
  omega
theorem le_of_mul {a b d : Int} (hd : 1 ≤ d) (h : a * d ≤ b * d) : a ≤ b := Int.le_of_mul_le_mul_right h (by omega)
theorem lt_of_mul {a b d : Int} (hd : 1 ≤ d) (h : a * d < b * d) : a < b := Int.lt_of_mul_lt_mul_right h (by omega)
/-- All that the statement asks of the two quotients. -/
theorem rounds (x n d : Int) (x0 : 0 ≤ x) (x1 : x ≤ 1000000) (n1 : 1 ≤ n) (n2 : n ≤ 1000) (d1 : 1 ≤ d) (d2 : d ≤ 1000) :
    ∃ u v b o : Int, downF x n d = (u, 0) ∧ upF x n d = (v, 0) ∧ downF u d n = (b, 0) ∧ upF v d n = (o, 0) ∧ u ≤ v ∧ v ≤ u + 1 ∧ (u = v ↔ x * n % d = 0) ∧ u * d ≤ x * n ∧ x * n ≤ v * d ∧ b ≤ x ∧ x ≤ o ∧
      0 ≤ u ∧ u ≤ 1000000000 ∧ v ≤ 1000000001 ∧ 0 ≤ x * n ∧ x * n ≤ 1000000000 ∧ 0 ≤ u * d ∧ v * d ≤ 2000000000 := by
  have hP0 : 0 ≤ x * n := Int.mul_nonneg x0 (by omega)
  have hP1 : x * n ≤ 1000000000 := by
    calc x * n ≤ 1000000 * n := Int.mul_le_mul_of_nonneg_right x1 (by omega)
      _ ≤ 1000000 * 1000 := Int.mul_le_mul_of_nonneg_left n2 (by omega)
      _ = 1000000000 := by decide
  have hu := div_lo (p := x * n) d1
  have hv := div_lo (p := x * n + (d - 1)) d1
  have hu0 : 0 ≤ x * n / d := Int.ediv_nonneg hP0 (by omega)
  have hu1 : x * n / d ≤ x * n := Int.ediv_le_self _ hP0
  have hv0 : 0 ≤ (x * n + (d - 1)) / d := Int.ediv_nonneg (by omega) (by omega)
  have hv1 : (x * n + (d - 1)) / d ≤ x * n + (d - 1) := Int.ediv_le_self _ (by omega)
  have hm := Int.mul_ediv_add_emod (x * n) d
  rw [Int.mul_comm] at hm
  have hm0 := Int.emod_nonneg (x * n) (show d ≠ 0 by omega)
  have hm1 := Int.emod_lt_of_pos (x * n) (show 0 < d by omega)
  generalize hU : x * n / d = u at *
  generalize hV : (x * n + (d - 1)) / d = v at *
  generalize hM : x * n % d = m at *
  have huv : u ≤ v := le_of_mul d1 (by omega)
  have hvu : v ≤ u + 1 := by
    have : v * d < (u + 2) * d := by rw [Int.add_mul]; omega
    have := lt_of_mul d1 this; omega
  have hb := div_lo (p := u * d) n1
  have ho := div_lo (p := v * d + (n - 1)) n1
  have hud0 : 0 ≤ u * d := Int.mul_nonneg hu0 (by omega)
  have hb0 : 0 ≤ u * d / n := Int.ediv_nonneg hud0 (by omega)
  have hb1 : u * d / n ≤ u * d := Int.ediv_le_self _ hud0
  have ho0 : 0 ≤ (v * d + (n - 1)) / n := Int.ediv_nonneg (by omega) (by omega)
  have ho1 : (v * d + (n - 1)) / n ≤ v * d + (n - 1) := Int.ediv_le_self _ (by omega)
  generalize hB : u * d / n = b at *
  generalize hO : (v * d + (n - 1)) / n = o at *
  have hpr : priceB n d = true := price_iff.2 (by omega)
  have hpr2 : priceB d n = true := price_iff.2 (by omega)
  have hvd : v * d ≤ 1000001000 := by omega
  refine ⟨u, v, b, o, down_val (okA_iff.2 (by omega)) hpr hU.symm (okA_iff.2 (by omega)), up_val (okA_iff.2 (by omega)) hpr hV.symm (okA_iff.2 (by omega)), down_val (okA_iff.2 (by omega)) hpr2 hB.symm (okA_iff.2 (by omega)), up_val (okA_iff.2 (by omega)) hpr2 hO.symm (okA_iff.2 (by omega)), huv, hvu, ?_, hu.1, by omega, ?_, ?_, hu0, by omega, by omega, hP0, hP1, hud0, by omega⟩
  · constructor
    · intro h
      subst h
      omega
    · intro h
      have : v * d < (u + 1) * d := by rw [Int.add_mul]; omega
      have := lt_of_mul d1 this; omega
  · exact le_of_mul n1 (by omega)
  · have : (x - 1) * n < o * n := by rw [Int.sub_mul]; omega
    have := lt_of_mul n1 this; omega

set_option maxRecDepth 100000 in
set_option maxHeartbeats 1000000 in
theorem law_AmountRounds (a0 a1 a2 : Int) (w0 : (Lit.int .u16 a0).wf = true) (w1 : (Lit.int .u16 a1).wf = true) (w2 : (Lit.int .u16 a2).wf = true) (w : World) :
    Calls Try.prog 8 #[.int .u16 a0, .int .u16 a1, .int .u16 a2] w fun e w' => e = .returned (.bool true) ∧ Ex w w' := by
  have h0 : 0 ≤ a0 ∧ a0 ≤ 65535 := by simpa [Lit.wf, IntKind.min, IntKind.max, IntKind.bits, IntKind.signed] using w0
  have h1 : 0 ≤ a1 ∧ a1 ≤ 65535 := by simpa [Lit.wf, IntKind.min, IntKind.max, IntKind.bits, IntKind.signed] using w1
  have h2 : 0 ≤ a2 ∧ a2 ≤ 65535 := by simpa [Lit.wf, IntKind.min, IntKind.max, IntKind.bits, IntKind.signed] using w2
  obtain ⟨b0, b1⟩ := h0
  obtain ⟨b2, b3⟩ := h1
  obtain ⟨b4, b5⟩ := h2
  clear w0 w1 w2
  have x0 : 0 ≤ a0 * 15 := by omega
  have x1 : a0 * 15 ≤ 1000000 := by omega
  have n1 : 1 ≤ 1 + a1 % 1000 := by omega
  have n2 : 1 + a1 % 1000 ≤ 1000 := by omega
  have d1 : 1 ≤ 1 + a2 % 1000 := by omega
  have d2 : 1 + a2 % 1000 ≤ 1000 := by omega
  go_enter Try.func8, Try.ntmps8
  go_wp2_with fail
  generalize a0 * 15 = x at *
  generalize 1 + a1 % 1000 = n at *
  generalize 1 + a2 % 1000 = d at *
  obtain ⟨u, v, b, o, f1, f2, f3, f4, g1, g2, g3, g4, g5, g6, g7, g8, g9, g10, g11, g12, g13, g14⟩ := rounds x n d x0 x1 n1 n2 d1 d2
  have F1 := Lib.hid f1; have F2 := Lib.hid f2; have F3 := Lib.hid f3; have F4 := Lib.hid f4; have G3 := Lib.hid g3
  clear f1 f2 f3 f4 g3
  have hud : u * d ≤ 1000000000 := by omega
  have hvd : 0 ≤ v * d := by omega
  refine (down_p _ _ _ _).mono ?_
  rw [F1.out]
  rintro e w1 ⟨rfl, hx1⟩
  go_wp2_with fail
  refine (up_p _ _ _ _).mono ?_
  rw [F2.out]
  rintro e w2 ⟨rfl, hx2⟩
  by_cases hm : x * n % d = 0
  · have e1 : (u == v) = true := by simpa using G3.out.2 hm
    have e2 : (x * n % d == 0) = true := by simpa using hm
    clear hm G3
    go_wp2_with fail
    refine (down_p _ _ _ _).mono ?_
    rw [F3.out]
    rintro e w3 ⟨rfl, hx3⟩
    go_wp2_with fail
    refine (up_p _ _ _ _).mono ?_
    rw [F4.out]
    rintro e w4 ⟨rfl, hx4⟩
    go_wp2_with (first | (go_at_call 33; refine (sane35 _).mono ?_; rintro e w_sane35 ⟨rfl, hb_sane35⟩; have hr_sane35 := hb_sane35.rules; obtain ⟨hc_sane35, hf_sane35⟩ := hr_sane35; have hs_sane35 := hb_sane35.sz; (try simp only [World.size_alloc, World.size_setCell, World.size_drew] at hs_sane35)))
    go_ret
    exact ⟨rfl, (by repeat (first | exact Ex.refl _ | assumption | apply Ex.alloc | apply Ex.drew | apply Ex.drewN | (refine Ex.setAt ?_ _ ?_; (first | exact Nat.le_refl _ | omega | (simp; omega))) | (apply Ex.after; assumption)))⟩
  · have e1 : (u == v) = false := by simpa using mt G3.out.1 hm
    have e2 : (x * n % d == 0) = false := by simpa using hm
    clear hm G3
    go_wp2_with fail
    refine (down_p _ _ _ _).mono ?_
    rw [F3.out]
    rintro e w3 ⟨rfl, hx3⟩
    go_wp2_with fail
    refine (up_p _ _ _ _).mono ?_
    rw [F4.out]
    rintro e w4 ⟨rfl, hx4⟩
    go_wp2_with (first | (go_at_call 33; refine (sane35 _).mono ?_; rintro e w_sane35 ⟨rfl, hb_sane35⟩; have hr_sane35 := hb_sane35.rules; obtain ⟨hc_sane35, hf_sane35⟩ := hr_sane35; have hs_sane35 := hb_sane35.sz; (try simp only [World.size_alloc, World.size_setCell, World.size_drew] at hs_sane35)))
    go_ret
    exact ⟨rfl, (by repeat (first | exact Ex.refl _ | assumption | apply Ex.alloc | apply Ex.drew | apply Ex.drewN | (refine Ex.setAt ?_ _ ?_; (first | exact Nat.le_refl _ | omega | (simp; omega))) | (apply Ex.after; assumption)))⟩
end Go.Proofs.Ytfhipecfamecaaa
