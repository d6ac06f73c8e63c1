/- The sanity check of the statements on amounts: it returns true, and changes nothing that was there. -/
import Derived.Test.YtfhipecfamecaaaAst
namespace Go.Proofs.Ytfhipecfamecaaa
set_option linter.unusedSimpArgs false
set_option linter.unusedVariables false
set_option linter.unnecessarySimpa false
set_option linter.unusedSectionVars false
open Go.RowKit Go.Proofs.Grow Go.Sort
theorem sane35 (w : World) :
    Calls Try.prog 33 #[] w fun e w' => e = .returned (.bool true) ∧ Ex w w' := by
  have h1 : downF 10 1 3 = (3, 0) := by decide +kernel
  have h2 : upF 10 1 3 = (4, 0) := by decide +kernel
  have h3 : redF 4 6 = (2, 3) := by decide +kernel
  have h4 : cmpP 1 2 2 3 = -1 := by decide +kernel
  have h5 : assetB ⟨#[]⟩ 0 = true := by decide +kernel
  have h6 : nativeB ⟨#[]⟩ 0 = true := by decide +kernel
  go_enter Try.func33, Try.ntmps33
  go_wp2_with (first | (go_at_call 31; refine (down_p _ _ _ _).mono ?_; rintro e w_down_p ⟨rfl, hb_down_p⟩; have hr_down_p := hb_down_p.rules; obtain ⟨hc_down_p, hf_down_p⟩ := hr_down_p; have hs_down_p := hb_down_p.sz; (try simp only [World.size_alloc, World.size_setCell, World.size_drew] at hs_down_p)) | (go_at_call 32; refine (up_p _ _ _ _).mono ?_; rintro e w_up_p ⟨rfl, hb_up_p⟩; have hr_up_p := hb_up_p.rules; obtain ⟨hc_up_p, hf_up_p⟩ := hr_up_p; have hs_up_p := hb_up_p.sz; (try simp only [World.size_alloc, World.size_setCell, World.size_drew] at hs_up_p)) | (go_at_call 46; refine (red_p _ _ _).mono ?_; rintro e w_red_p ⟨rfl, hb_red_p⟩; have hr_red_p := hb_red_p.rules; obtain ⟨hc_red_p, hf_red_p⟩ := hr_red_p; have hs_red_p := hb_red_p.sz; (try simp only [World.size_alloc, World.size_setCell, World.size_drew] at hs_red_p)) | (go_at_call 47; refine (cmpP_p _ _ _ _ _).mono ?_; rintro e _w ⟨rfl, rfl⟩) | (go_at_call 52; refine (asset_p _ _ _).mono ?_; rintro e w_asset_p ⟨rfl, hb_asset_p⟩; have hr_asset_p := hb_asset_p.rules; obtain ⟨hc_asset_p, hf_asset_p⟩ := hr_asset_p; have hs_asset_p := hb_asset_p.sz; (try simp only [World.size_alloc, World.size_setCell, World.size_drew] at hs_asset_p)) | (go_at_call 53; refine (native_p _ _ _).mono ?_; rintro e w_native_p ⟨rfl, hb_native_p⟩; have hr_native_p := hb_native_p.rules; obtain ⟨hc_native_p, hf_native_p⟩ := hr_native_p; have hs_native_p := hb_native_p.sz; (try simp only [World.size_alloc, World.size_setCell, World.size_drew] at hs_native_p)))
  go_ret
  exact ⟨rfl, (by repeat (first | exact Ex.refl _ | assumption | apply Ex.alloc | apply Ex.drew | apply Ex.drewN | (refine Ex.setAt ?_ _ ?_; (first | exact Nat.le_refl _ | omega | (simp; omega))) | (apply Ex.after; assumption)))⟩
end Go.Proofs.Ytfhipecfamecaaa
