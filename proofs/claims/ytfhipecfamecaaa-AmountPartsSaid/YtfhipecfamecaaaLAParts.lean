/- AmountParts: the walk of the statement, and the plain law on paying in parts. -/
import Derived.Test.YtfhipecfamecaaaLARounds
namespace Go.Proofs.Ytfhipecfamecaaa
set_option linter.unusedSimpArgs false
set_option linter.unusedVariables false
set_option linter.unnecessarySimpa false
set_option linter.unusedSectionVars false
open Go.RowKit Go.Proofs.Grow Go.Sort

theorem parts (x y n d : Int) (x0 : 0 ≤ x) (x1 : x ≤ 65535) (y0 : 0 ≤ y) (y1 : y ≤ 65535) (n1 : 1 ≤ n) (n2 : n ≤ 500) (d1 : 1 ≤ d) (d2 : d ≤ 500) :
    ∃ p q r u v : Int, upF x n d = (p, 0) ∧ upF y n d = (q, 0) ∧ upF (x + y) n d = (r, 0) ∧ downF x n d = (u, 0) ∧ downF (x + y) n d = (v, 0) ∧ r ≤ p + q ∧ p + q ≤ r + 1 ∧ p ≤ r ∧ u ≤ v ∧
      0 ≤ p ∧ 0 ≤ q ∧ p ≤ 100000000 ∧ q ≤ 100000000 ∧ 0 ≤ r ∧ r ≤ 200000000 := by
  have mb : ∀ z : Int, 0 ≤ z → z ≤ 65535 → 0 ≤ z * n ∧ z * n ≤ 32767500 := fun z z0 z1 => ⟨Int.mul_nonneg z0 (by omega), by
    calc z * n ≤ 65535 * n := Int.mul_le_mul_of_nonneg_right z1 (by omega)
      _ ≤ 65535 * 500 := Int.mul_le_mul_of_nonneg_left n2 (by omega)
      _ = 32767500 := by decide⟩
  obtain ⟨px0, px1⟩ := mb x x0 x1
  obtain ⟨py0, py1⟩ := mb y y0 y1
  have hpr : priceB n d = true := price_iff.2 (by omega)
  have e : (x + y) * n = x * n + y * n := Int.add_mul _ _ _
  have db : ∀ z : Int, 0 ≤ z → 0 ≤ z / d ∧ z / d ≤ z ∧ z / d * d ≤ z ∧ z < z / d * d + d := fun z z0 => ⟨Int.ediv_nonneg z0 (by omega), Int.ediv_le_self _ z0, (div_lo d1).1, (div_lo d1).2⟩
  have hp := db (x * n + (d - 1)) (by omega)
  have hq := db (y * n + (d - 1)) (by omega)
  have hr := db (x * n + y * n + (d - 1)) (by omega)
  have hu := db (x * n) px0
  have hv := db (x * n + y * n) (by omega)
  generalize hP : (x * n + (d - 1)) / d = p at *
  generalize hQ : (y * n + (d - 1)) / d = q at *
  generalize hR : (x * n + y * n + (d - 1)) / d = r at *
  generalize hU : x * n / d = u at *
  generalize hV : (x * n + y * n) / d = v at *
  refine ⟨p, q, r, u, v, up_val (okA_iff.2 (by omega)) hpr hP.symm (okA_iff.2 (by omega)), up_val (okA_iff.2 (by omega)) hpr hQ.symm (okA_iff.2 (by omega)), up_val (okA_iff.2 (by omega)) hpr (by rw [e]; exact hR.symm) (okA_iff.2 (by omega)), down_val (okA_iff.2 (by omega)) hpr hU.symm (okA_iff.2 (by omega)), down_val (okA_iff.2 (by omega)) hpr (by rw [e]; exact hV.symm) (okA_iff.2 (by omega)), ?_, ?_, ?_, ?_, by omega, by omega, by omega, by omega, by omega, by omega⟩
  · have : r * d < (p + q + 1) * d := by rw [Int.add_mul, Int.add_mul]; omega
    have := lt_of_mul d1 this; omega
  · have : (p + q) * d < (r + 2) * d := by rw [Int.add_mul, Int.add_mul]; omega
    have := lt_of_mul d1 this; omega
  · have : p * d < (r + 1) * d := by rw [Int.add_mul]; omega
    have := lt_of_mul d1 this; omega
  · have : u * d < (v + 1) * d := by rw [Int.add_mul]; omega
    have := lt_of_mul d1 this; omega

set_option maxRecDepth 100000 in
set_option maxHeartbeats 1000000 in
theorem law_AmountParts (a0 a1 a2 a3 : Int) (w0 : (Lit.int .u16 a0).wf = true) (w1 : (Lit.int .u16 a1).wf = true) (w2 : (Lit.int .u16 a2).wf = true) (w3 : (Lit.int .u16 a3).wf = true) (w : World) :
    Calls Try.prog 9 #[.int .u16 a0, .int .u16 a1, .int .u16 a2, .int .u16 a3] w fun e w' => e = .returned (.bool true) ∧ Ex w w' := by
  have h0 : 0 ≤ a0 ∧ a0 ≤ 65535 := by simpa [Lit.wf, IntKind.min, IntKind.max, IntKind.bits, IntKind.signed] using w0
  have h1 : 0 ≤ a1 ∧ a1 ≤ 65535 := by simpa [Lit.wf, IntKind.min, IntKind.max, IntKind.bits, IntKind.signed] using w1
  have h2 : 0 ≤ a2 ∧ a2 ≤ 65535 := by simpa [Lit.wf, IntKind.min, IntKind.max, IntKind.bits, IntKind.signed] using w2
  have h3 : 0 ≤ a3 ∧ a3 ≤ 65535 := by simpa [Lit.wf, IntKind.min, IntKind.max, IntKind.bits, IntKind.signed] using w3
  obtain ⟨b0, b1⟩ := h0
  obtain ⟨b2, b3⟩ := h1
  obtain ⟨b4, b5⟩ := h2
  obtain ⟨b6, b7⟩ := h3
  clear w0 w1 w2 w3
  have n1 : 1 ≤ 1 + a2 % 500 := by omega
  have n2 : 1 + a2 % 500 ≤ 500 := by omega
  have d1 : 1 ≤ 1 + a3 % 500 := by omega
  have d2 : 1 + a3 % 500 ≤ 500 := by omega
  go_enter Try.func9, Try.ntmps9
  go_wp2_with fail
  generalize 1 + a2 % 500 = n at *
  generalize 1 + a3 % 500 = d at *
  obtain ⟨p, q, r, u, v, f1, f2, f3, f4, f5, g1, g2, g3, g4, g5, g6, g7, g8, g9, g10⟩ := parts a0 a1 n d b0 b1 b2 b3 n1 n2 d1 d2
  have F1 := Lib.hid f1; have F2 := Lib.hid f2; have F3 := Lib.hid f3; have F4 := Lib.hid f4; have F5 := Lib.hid f5
  clear f1 f2 f3 f4 f5
  refine (up_p _ _ _ _).mono ?_
  rw [F1.out]
  rintro e w1 ⟨rfl, hx1⟩
  go_wp2_with fail
  refine (up_p _ _ _ _).mono ?_
  rw [F2.out]
  rintro e w2 ⟨rfl, hx2⟩
  go_wp2_with fail
  refine (up_p _ _ _ _).mono ?_
  rw [F3.out]
  rintro e w3 ⟨rfl, hx3⟩
  go_wp2_with fail
  refine (down_p _ _ _ _).mono ?_
  rw [F4.out]
  rintro e w4 ⟨rfl, hx4⟩
  go_wp2_with fail
  refine (down_p _ _ _ _).mono ?_
  rw [F5.out]
  rintro e w5 ⟨rfl, hx5⟩
  go_wp2_with (first | (go_at_call 33; refine (sane35 _).mono ?_; rintro e w_sane35 ⟨rfl, hb_sane35⟩; have hr_sane35 := hb_sane35.rules; obtain ⟨hc_sane35, hf_sane35⟩ := hr_sane35; have hs_sane35 := hb_sane35.sz; (try simp only [World.size_alloc, World.size_setCell, World.size_drew] at hs_sane35)))
  go_ret
  exact ⟨rfl, (by repeat (first | exact Ex.refl _ | assumption | apply Ex.alloc | apply Ex.drew | apply Ex.drewN | (refine Ex.setAt ?_ _ ?_; (first | exact Nat.le_refl _ | omega | (simp; omega))) | (apply Ex.after; assumption)))⟩
end Go.Proofs.Ytfhipecfamecaaa
