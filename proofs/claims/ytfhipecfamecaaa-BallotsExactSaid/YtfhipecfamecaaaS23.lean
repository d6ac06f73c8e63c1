/- The sanity check of the statements on ballots: it returns true, and changes nothing that was there. -/
import Derived.Test.YtfhipecfamecaaaLow
import Derived.Test.YtfhipecfamecaaaSrc
namespace Go.Proofs.Ytfhipecfamecaaa
set_option linter.unusedSimpArgs false
set_option linter.unusedVariables false
set_option linter.unnecessarySimpa false
set_option linter.unusedSectionVars false
open Go.RowKit Go.Proofs.Grow Go.Sort
theorem sane23 (w : World) :
    Calls Try.prog 19 #[] w fun e w' => e = .returned (.bool true) ∧ Ex w w' := by
  have h1 : abB 3 ⟨#[98]⟩ 3 ⟨#[97]⟩ = true := by decide +kernel
  have h2 : abB 3 ⟨#[98]⟩ 2 ⟨#[99]⟩ = true := by decide +kernel
  have h3 : abB 3 ⟨#[98]⟩ 3 ⟨#[99]⟩ = false := by decide +kernel
  have h4 : lowest ⟨#[97]⟩ 2 ⟨4, ⟨#[98]⟩⟩ ⟨0, ⟨#[]⟩⟩ = 5 := by decide +kernel
  have h5 : (lowest ⟨#[97]⟩ 2 ⟨4, ⟨#[98]⟩⟩ ⟨0, ⟨#[]⟩⟩ == 5) = true := by rw [h4]; rfl
  clear h4
  go_enter Try.func19, Try.ntmps19
  go_wp2_with (first | (go_at_call 17; refine (low_p _ _ ⟨4, ⟨#[98]⟩⟩ ⟨0, ⟨#[]⟩⟩ _).mono ?_; rintro e w_l ⟨rfl, hb_l⟩) | (first | (go_at_call 23; refine (abB_p _ _ _ _ _).mono ?_; rintro e w_abB_p ⟨rfl, hb_abB_p⟩; have hr_abB_p := hb_abB_p.rules; obtain ⟨hc_abB_p, hf_abB_p⟩ := hr_abB_p; have hs_abB_p := hb_abB_p.sz; (try simp only [World.size_alloc, World.size_setCell, World.size_drew] at hs_abB_p); have hz0_abB_p : w.heap.size < w_abB_p.heap.size := (by omega))))
  go_ret
  exact ⟨rfl, (by repeat (first | exact Ex.refl _ | assumption | apply Ex.alloc | apply Ex.drew | apply Ex.drewN | (refine Ex.setAt ?_ _ ?_; (first | exact Nat.le_refl _ | omega | (simp; omega))) | (apply Ex.after; assumption)))⟩
end Go.Proofs.Ytfhipecfamecaaa
