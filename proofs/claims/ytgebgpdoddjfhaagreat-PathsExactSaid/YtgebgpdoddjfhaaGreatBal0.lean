/- Contracts of the first of two numbers that is not 0, and of comparing, as they are met by callers. -/
import Derived.Test.YtgebgpdoddjfhaaGreatCmp
namespace Go.Proofs.YtgebgpdoddjfhaaGreat
set_option linter.unusedSimpArgs false
set_option linter.unusedVariables false
set_option linter.unnecessarySimpa false
set_option linter.unusedSectionVars false
set_option maxRecDepth 100000
open Go.RowKit Go.Proofs.Grow Go.Sort

theorem cmpI_neg (a b : Int) : cmpI a b < 0 ↔ a < b := by unfold cmpI; split <;> (try split) <;> omega
theorem cmpI_zero (a b : Int) : cmpI a b = 0 ↔ a = b := by unfold cmpI; split <;> (try split) <;> omega
theorem orI2 (x y : Int) : orI [x, y] = if x = 0 then y else x := by
  by_cases h : x = 0 <;> by_cases k : y = 0 <;> simp [orI, h, k]
theorem or_two (x y : Int) (w : World) :
    Calls Tryz.prog 111 #[.slice (some ⟨w.heap.size, 0, none⟩) 2 2] (w.alloc (.cells #[.int .i64 x, .int .i64 y] 3)) fun e w' => e = .returned (.int .i64 (orI [x, y])) ∧ Ex (w.alloc (.cells #[.int .i64 x, .int .i64 y] 3)) w' := by
  refine (or_int w.heap.size 0 2 [x, y] _ (by simp) ?_).mono ?_
  · intro i hi
    match i, hi with
    | 0, _ => simp [atI, go_sem]
    | 1, _ => simp [atI, go_sem]
  · rintro e w' ⟨he, rfl⟩; exact ⟨he, Ex.refl _⟩

theorem cmpI_ex (x y : Int) (w : World) :
    Calls Tryz.prog 112 #[.int .i64 x, .int .i64 y] w fun e w' => e = .returned (.int .i64 (cmpI x y)) ∧ Ex w w' :=
  (cmp_int x y w).mono fun _ _ ⟨he, hw⟩ => ⟨he, hw ▸ Ex.refl _⟩

theorem cmpS_ex (x y : ByteArray) (w : World) :
    Calls Tryz.prog 138 #[.string x, .string y] w fun e w' => e = .returned (.int .i64 (cmpS x y)) ∧ Ex w w' :=
  (cmp_str x y w).mono fun _ _ ⟨he, hw⟩ => ⟨he, hw ▸ Ex.refl _⟩
end Go.Proofs.YtgebgpdoddjfhaaGreat
