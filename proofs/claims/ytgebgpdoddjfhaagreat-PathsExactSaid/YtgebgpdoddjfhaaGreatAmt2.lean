/- Contracts of adding, taking away and scaling amounts, of the program and of the reference alike. -/
import Derived.Test.YtgebgpdoddjfhaaGreatAmt
namespace Go.Proofs.YtgebgpdoddjfhaaGreat
set_option linter.unusedSimpArgs false
set_option linter.unusedVariables false
set_option linter.unnecessarySimpa false
set_option linter.unusedSectionVars false
set_option maxRecDepth 100000
open Go.RowKit Go.Proofs.Grow Go.Sort

theorem all1 (a x : Int) : allA [a] x = if okA a = true then (x, 0) else (0, 65) := by simp [allA]
theorem all3 (a b c x : Int) : allA [a, b, c] x = if (okA a && (okA b && okA c)) = true then (x, 0) else (0, 65) := by simp [allA]

theorem scale_p (a n d m : Int) (w : World) (m1 : 0 ≤ m) (m2 : m ≤ 1000000) :
    Calls Tryz.prog 170 #[.int .i64 (a), .int .i64 (n), .int .i64 (d), .int .i64 (m)] w fun e w' => e = .returned (.tuple #[.int .i64 (scaleF a n d m).1, .int .i64 (scaleF a n d m).2]) ∧ Ex w w' := by
  cases h1 : okA a
  · have HE : Hid (scaleF a n d m = (0, 65)) := by simp only [scaleF, h1, Bool.false_and]; exact Lib.hid rfl
    go_enter Tryz.func170, Tryz.ntmps170
    go_wp2_with (first | (go_at_call 64; refine (okA_p _ _).mono ?_; rintro e _w ⟨rfl, rfl⟩) | (go_at_call 113; refine (price_p _ _ _).mono ?_; rintro e _w ⟨rfl, rfl⟩))
    go_ret2
    exact ⟨by rw [HE.out]; rfl, (by repeat (first | (with_reducible exact Ex.refl _) | (with_reducible assumption) | ((with_reducible refine Ex.setAt ?_ _ ?_); (first | exact Nat.le_refl _ | omega | (simp; omega))) | (with_reducible apply Ex.alloc) | (with_reducible apply Ex.drew) | (with_reducible apply Ex.drewN) | ((with_reducible apply Ex.after); with_reducible assumption) | exact Ex.refl _ | assumption | apply Ex.alloc | apply Ex.drew | apply Ex.drewN | (refine Ex.setAt ?_ _ ?_; (first | exact Nat.le_refl _ | omega | (simp; omega))) | (apply Ex.after; assumption)))⟩
  · cases h2 : priceB n d
    · have HE : Hid (scaleF a n d m = (0, 65)) := by simp only [scaleF, h1, h2, Bool.true_and]; exact Lib.hid rfl
      go_enter Tryz.func170, Tryz.ntmps170
      go_wp2_with (first | (go_at_call 64; refine (okA_p _ _).mono ?_; rintro e _w ⟨rfl, rfl⟩) | (go_at_call 113; refine (price_p _ _ _).mono ?_; rintro e _w ⟨rfl, rfl⟩))
      go_ret2
      exact ⟨by rw [HE.out]; rfl, (by repeat (first | (with_reducible exact Ex.refl _) | (with_reducible assumption) | ((with_reducible refine Ex.setAt ?_ _ ?_); (first | exact Nat.le_refl _ | omega | (simp; omega))) | (with_reducible apply Ex.alloc) | (with_reducible apply Ex.drew) | (with_reducible apply Ex.drewN) | ((with_reducible apply Ex.after); with_reducible assumption) | exact Ex.refl _ | assumption | apply Ex.alloc | apply Ex.drew | apply Ex.drewN | (refine Ex.setAt ?_ _ ?_; (first | exact Nat.le_refl _ | omega | (simp; omega))) | (apply Ex.after; assumption)))⟩
    · have HE : Hid (scaleF a n d m = allA [(a * n + m) / d] ((a * n + m) / d)) := Lib.hid (by simp [scaleF, h1, h2])
      obtain ⟨⟨n1, n2⟩, d1, d2⟩ := price_iff.1 h2
      obtain ⟨b1, b2⟩ := mul_bd h1 ⟨n1, n2⟩
      have b3 : 0 ≤ (a * n + m) / d := Int.ediv_nonneg (by omega) (by omega)
      have b4 : (a * n + m) / d ≤ a * n + m := Int.ediv_le_self _ (by omega)
      go_enter Tryz.func170, Tryz.ntmps170
      go_wp2_with (first | (go_at_call 180; refine (checked_nil _ _).mono ?_; rintro e w1 ⟨rfl, hx⟩) | (first | (go_at_call 64; refine (okA_p _ _).mono ?_; rintro e _w ⟨rfl, rfl⟩) | (go_at_call 113; refine (price_p _ _ _).mono ?_; rintro e _w ⟨rfl, rfl⟩)))
      go_ret2
      exact ⟨by rw [HE.out]; rfl, (by repeat (first | (with_reducible exact Ex.refl _) | (with_reducible assumption) | ((with_reducible refine Ex.setAt ?_ _ ?_); (first | exact Nat.le_refl _ | omega | (simp; omega))) | (with_reducible apply Ex.alloc) | (with_reducible apply Ex.drew) | (with_reducible apply Ex.drewN) | ((with_reducible apply Ex.after); with_reducible assumption) | exact Ex.refl _ | assumption | apply Ex.alloc | apply Ex.drew | apply Ex.drewN | (refine Ex.setAt ?_ _ ?_; (first | exact Nat.le_refl _ | omega | (simp; omega))) | (apply Ex.after; assumption)))⟩

theorem scale_no (a n d m : Int) (w : World) (h2 : priceB n d = false) :
    Calls Tryz.prog 170 #[.int .i64 a, .int .i64 n, .int .i64 d, .int .i64 m] w fun e w' => e = .returned (.tuple #[.int .i64 0, .int .i64 65]) ∧ Ex w w' := by
  cases h1 : okA a
  all_goals
    go_enter Tryz.func170, Tryz.ntmps170
    go_wp2_with (first | (go_at_call 64; refine (okA_p _ _).mono ?_; rintro e _w ⟨rfl, rfl⟩) | (go_at_call 113; refine (price_p _ _ _).mono ?_; rintro e _w ⟨rfl, rfl⟩))
    go_ret2
    exact ⟨rfl, (by repeat (first | (with_reducible exact Ex.refl _) | (with_reducible assumption) | ((with_reducible refine Ex.setAt ?_ _ ?_); (first | exact Nat.le_refl _ | omega | (simp; omega))) | (with_reducible apply Ex.alloc) | (with_reducible apply Ex.drew) | (with_reducible apply Ex.drewN) | ((with_reducible apply Ex.after); with_reducible assumption) | exact Ex.refl _ | assumption | apply Ex.alloc | apply Ex.drew | apply Ex.drewN | (refine Ex.setAt ?_ _ ?_; (first | exact Nat.le_refl _ | omega | (simp; omega))) | (apply Ex.after; assumption)))⟩

theorem up_p (a n d : Int) (w : World) :
    Calls Tryz.prog 149 #[.int .i64 (a), .int .i64 (n), .int .i64 (d)] w fun e w' => e = .returned (.tuple #[.int .i64 (upF a n d).1, .int .i64 (upF a n d).2]) ∧ Ex w w' := by
  by_cases hd : 1 ≤ d ∧ d ≤ 1000000
  · obtain ⟨d1, d2⟩ := hd
    go_enter Tryz.func149, Tryz.ntmps149
    go_wp2_with (go_at_call 170; refine (scale_p _ _ _ _ _ (by omega) (by omega)).mono ?_; rintro e w1 ⟨rfl, hx⟩)
    go_ret2
    exact ⟨rfl, (by repeat (first | (with_reducible exact Ex.refl _) | (with_reducible assumption) | ((with_reducible refine Ex.setAt ?_ _ ?_); (first | exact Nat.le_refl _ | omega | (simp; omega))) | (with_reducible apply Ex.alloc) | (with_reducible apply Ex.drew) | (with_reducible apply Ex.drewN) | ((with_reducible apply Ex.after); with_reducible assumption) | exact Ex.refl _ | assumption | apply Ex.alloc | apply Ex.drew | apply Ex.drewN | (refine Ex.setAt ?_ _ ?_; (first | exact Nat.le_refl _ | omega | (simp; omega))) | (apply Ex.after; assumption)))⟩
  · have hp : priceB n d = false := by
      rw [Bool.eq_false_iff]; intro h
      exact hd (price_iff.1 h).2
    have HE : Hid (upF a n d = (0, 65)) := by simp only [upF, scaleF, hp, Bool.and_false]; exact Lib.hid rfl
    go_enter Tryz.func149, Tryz.ntmps149
    go_wp2_with (go_at_call 170; refine (scale_no _ _ _ _ _ hp).mono ?_; rintro e w1 ⟨rfl, hx⟩)
    go_ret2
    exact ⟨by rw [HE.out]; rfl, (by repeat (first | (with_reducible exact Ex.refl _) | (with_reducible assumption) | ((with_reducible refine Ex.setAt ?_ _ ?_); (first | exact Nat.le_refl _ | omega | (simp; omega))) | (with_reducible apply Ex.alloc) | (with_reducible apply Ex.drew) | (with_reducible apply Ex.drewN) | ((with_reducible apply Ex.after); with_reducible assumption) | exact Ex.refl _ | assumption | apply Ex.alloc | apply Ex.drew | apply Ex.drewN | (refine Ex.setAt ?_ _ ?_; (first | exact Nat.le_refl _ | omega | (simp; omega))) | (apply Ex.after; assumption)))⟩

theorem up_r (a n d : Int) (w : World) :
    Calls Tryz.prog 135 #[.int .i64 (a), .int .i64 (n), .int .i64 (d)] w fun e w' => e = .returned (.tuple #[.int .i64 (upF a n d).1, .int .i64 (upF a n d).2]) ∧ Ex w w' := by
  cases h1 : okA a
  · have HE : Hid (upF a n d = (0, 65)) := by simp only [upF, scaleF, h1, Bool.false_and]; exact Lib.hid rfl
    go_enter Tryz.func135, Tryz.ntmps135
    go_wp2_with (first | (go_at_call 42; refine (okA_r _ _).mono ?_; rintro e _w ⟨rfl, rfl⟩) | (go_at_call 56; refine (price_r _ _ _).mono ?_; rintro e _w ⟨rfl, rfl⟩))
    go_ret2
    exact ⟨by rw [HE.out]; rfl, (by repeat (first | (with_reducible exact Ex.refl _) | (with_reducible assumption) | ((with_reducible refine Ex.setAt ?_ _ ?_); (first | exact Nat.le_refl _ | omega | (simp; omega))) | (with_reducible apply Ex.alloc) | (with_reducible apply Ex.drew) | (with_reducible apply Ex.drewN) | ((with_reducible apply Ex.after); with_reducible assumption) | exact Ex.refl _ | assumption | apply Ex.alloc | apply Ex.drew | apply Ex.drewN | (refine Ex.setAt ?_ _ ?_; (first | exact Nat.le_refl _ | omega | (simp; omega))) | (apply Ex.after; assumption)))⟩
  · cases h2 : priceB n d
    · have HE : Hid (upF a n d = (0, 65)) := by simp only [upF, scaleF, h1, h2, Bool.true_and]; exact Lib.hid rfl
      go_enter Tryz.func135, Tryz.ntmps135
      go_wp2_with (first | (go_at_call 42; refine (okA_r _ _).mono ?_; rintro e _w ⟨rfl, rfl⟩) | (go_at_call 56; refine (price_r _ _ _).mono ?_; rintro e _w ⟨rfl, rfl⟩))
      go_ret2
      exact ⟨by rw [HE.out]; rfl, (by repeat (first | (with_reducible exact Ex.refl _) | (with_reducible assumption) | ((with_reducible refine Ex.setAt ?_ _ ?_); (first | exact Nat.le_refl _ | omega | (simp; omega))) | (with_reducible apply Ex.alloc) | (with_reducible apply Ex.drew) | (with_reducible apply Ex.drewN) | ((with_reducible apply Ex.after); with_reducible assumption) | exact Ex.refl _ | assumption | apply Ex.alloc | apply Ex.drew | apply Ex.drewN | (refine Ex.setAt ?_ _ ?_; (first | exact Nat.le_refl _ | omega | (simp; omega))) | (apply Ex.after; assumption)))⟩
    · obtain ⟨⟨n1, n2⟩, d1, d2⟩ := price_iff.1 h2
      have eq : (a * n + (d - 1)) / d = (a * n + d - 1) / d := by congr 1; omega
      have HF : Hid (upF a n d = if okA ((a * n + d - 1) / d) = true then ((a * n + d - 1) / d, 0) else (0, 65)) := Lib.hid (by rw [← all1, ← eq]; simp only [upF, scaleF, h1, h2]; rfl)
      clear eq
      obtain ⟨b1, b2⟩ := mul_bd h1 ⟨n1, n2⟩
      have b3 : 0 ≤ (a * n + d - 1) / d := Int.ediv_nonneg (by omega) (by omega)
      have b4 : (a * n + d - 1) / d ≤ a * n + (d - 1) := by
        refine Int.le_trans (Int.ediv_le_self _ (by omega)) (by omega)
      cases h3 : okA ((a * n + d - 1) / d)
      · have HE : Hid (upF a n d = (0, 65)) := by rw [HF.out, h3]; exact Lib.hid rfl
        go_enter Tryz.func135, Tryz.ntmps135
        go_wp2_with (first | (go_at_call 42; refine (okA_r _ _).mono ?_; rintro e _w ⟨rfl, rfl⟩) | (go_at_call 56; refine (price_r _ _ _).mono ?_; rintro e _w ⟨rfl, rfl⟩))
        go_ret2
        exact ⟨by rw [HE.out]; rfl, (by repeat (first | (with_reducible exact Ex.refl _) | (with_reducible assumption) | ((with_reducible refine Ex.setAt ?_ _ ?_); (first | exact Nat.le_refl _ | omega | (simp; omega))) | (with_reducible apply Ex.alloc) | (with_reducible apply Ex.drew) | (with_reducible apply Ex.drewN) | ((with_reducible apply Ex.after); with_reducible assumption) | exact Ex.refl _ | assumption | apply Ex.alloc | apply Ex.drew | apply Ex.drewN | (refine Ex.setAt ?_ _ ?_; (first | exact Nat.le_refl _ | omega | (simp; omega))) | (apply Ex.after; assumption)))⟩
      · have HE : Hid (upF a n d = ((a * n + d - 1) / d, 0)) := by rw [HF.out, h3]; exact Lib.hid rfl
        go_enter Tryz.func135, Tryz.ntmps135
        go_wp2_with (first | (go_at_call 42; refine (okA_r _ _).mono ?_; rintro e _w ⟨rfl, rfl⟩) | (go_at_call 56; refine (price_r _ _ _).mono ?_; rintro e _w ⟨rfl, rfl⟩))
        go_ret2
        exact ⟨by rw [HE.out]; rfl, (by repeat (first | (with_reducible exact Ex.refl _) | (with_reducible assumption) | ((with_reducible refine Ex.setAt ?_ _ ?_); (first | exact Nat.le_refl _ | omega | (simp; omega))) | (with_reducible apply Ex.alloc) | (with_reducible apply Ex.drew) | (with_reducible apply Ex.drewN) | ((with_reducible apply Ex.after); with_reducible assumption) | exact Ex.refl _ | assumption | apply Ex.alloc | apply Ex.drew | apply Ex.drewN | (refine Ex.setAt ?_ _ ?_; (first | exact Nat.le_refl _ | omega | (simp; omega))) | (apply Ex.after; assumption)))⟩
end Go.Proofs.YtgebgpdoddjfhaaGreat
