/- AmountAssets: the walk of the statement, and the plain law on the order of assets. -/
import Derived.Test.YtfhipecfamecaaaSrcA
import Derived.Test.YtfhipecfamecaaaS35
namespace Go.Proofs.Ytfhipecfamecaaa
set_option linter.unusedSimpArgs false
set_option linter.unusedVariables false
set_option linter.unnecessarySimpa false
set_option linter.unusedSectionVars false
open Go.RowKit Go.Proofs.Grow Go.Sort

def A3 (u : ByteArray) (i : Int) : Prop := (u = ⟨#[]⟩ ∧ i = 0) ∨ (u = ⟨#[85, 83, 68]⟩ ∧ i = 1) ∨ (u = ⟨#[69, 85, 82]⟩ ∧ i = 2)
theorem IsA.ex {v : Value} (h : IsA v) : ∃ u i, v = .agg #[.string u, .int .i64 i] ∧ A3 u i := by
  rcases h with rfl | rfl | rfl
  · exact ⟨_, _, rfl, .inl ⟨rfl, rfl⟩⟩
  · exact ⟨_, _, rfl, .inr (.inl ⟨rfl, rfl⟩)⟩
  · exact ⟨_, _, rfl, .inr (.inr ⟨rfl, rfl⟩)⟩
theorem ast_tri {u v : ByteArray} {i j : Int} (h : A3 u i) (k : A3 v j) :
    (lessA u i v j = true ∧ lessA v j u i = false) ∨ (lessA u i v j = false ∧ lessA v j u i = true) ∨ (lessA u i v j = false ∧ lessA v j u i = false ∧ v = u ∧ j = i) := by
  rcases h with ⟨rfl, rfl⟩ | ⟨rfl, rfl⟩ | ⟨rfl, rfl⟩ <;> rcases k with ⟨rfl, rfl⟩ | ⟨rfl, rfl⟩ | ⟨rfl, rfl⟩
  all_goals first
    | exact .inl ⟨by decide +kernel, by decide +kernel⟩
    | exact .inr (.inl ⟨by decide +kernel, by decide +kernel⟩)
    | exact .inr (.inr ⟨by decide +kernel, by decide +kernel, rfl, rfl⟩)
theorem ast_trans {u v t : ByteArray} {i j k : Int} (h : A3 u i) (h2 : A3 v j) (h3 : A3 t k) (l1 : lessA u i v j = true) (l2 : lessA v j t k = true) : lessA u i t k = true := by
  rcases h with ⟨rfl, rfl⟩ | ⟨rfl, rfl⟩ | ⟨rfl, rfl⟩ <;> rcases h2 with ⟨rfl, rfl⟩ | ⟨rfl, rfl⟩ | ⟨rfl, rfl⟩ <;> rcases h3 with ⟨rfl, rfl⟩ | ⟨rfl, rfl⟩ | ⟨rfl, rfl⟩
  all_goals first
    | decide +kernel
    | exact absurd l1 (by decide +kernel)
    | exact absurd l2 (by decide +kernel)

set_option maxRecDepth 100000 in
set_option maxHeartbeats 4000000 in
theorem law_AmountAssets (a0 : Option Addr) (len0 cap0 : Nat) (z0 : List Int) (w : World) (w0 : IsRow .i64 w a0 len0 cap0 z0) :
    Calls Try.prog 12 #[.slice a0 len0 cap0] w fun e w' => e = .returned (.bool true) ∧ Ex w w' := by
  have x1 : assetB ⟨#[88, 65, 85]⟩ 9 = true := by decide +kernel
  have x2 : assetB ⟨#[88, 65, 85]⟩ 0 = false := by decide +kernel
  go_enter Try.func12, Try.ntmps12
  go_wp2_with fail
  refine (make_Src _ _ _ _ _ w0).mono ?_
  rintro e w1 ⟨b, rfl, hwb, hx1, hs1⟩
  have hbl := hs1.lt
  go_wp2_with fail
  refine (draw_Asset b _ (by repeat (first | assumption | apply Src.alloc | apply Src.drew | (apply Src.later; assumption)))).mono ?_
  rintro e w2 ⟨_, rfl, ha, hx2, hs2⟩
  go_wp2_with fail
  refine (draw_Asset b _ (by repeat (first | assumption | apply Src.alloc | apply Src.drew | (apply Src.later; assumption)))).mono ?_
  rintro e w3 ⟨_, rfl, hb, hx3, hs3⟩
  go_wp2_with fail
  refine (draw_Asset b _ (by repeat (first | assumption | apply Src.alloc | apply Src.drew | (apply Src.later; assumption)))).mono ?_
  rintro e w4 ⟨_, rfl, hc, hx4, hs4⟩
  obtain ⟨u, i, rfl, ka⟩ := ha.ex
  obtain ⟨v, j, rfl, kb⟩ := hb.ex
  obtain ⟨t, k, rfl, kc⟩ := hc.ex
  have hx : Ex w w4 := hx1.exb hwb ((hx2.trans hx3).trans hx4)
  clear hx1 hx2 hx3 hx4 hs1 hs2 hs3 hs4 ha hb hc
  have tri := ast_tri ka kb
  have tra := ast_trans ka kb kc
  have hAs : assetB u i = true := by rcases ka with ⟨rfl, rfl⟩ | ⟨rfl, rfl⟩ | ⟨rfl, rfl⟩ <;> decide +kernel
  have hLs : lessA u i ⟨#[]⟩ 0 = false := by rcases ka with ⟨rfl, rfl⟩ | ⟨rfl, rfl⟩ | ⟨rfl, rfl⟩ <;> decide +kernel
  have hE : ∃ e : Bool, nativeB u i = e ∧ ∀ w, (binOp .eql 59 (.agg #[.string u, .int .i64 i]) (.agg #[.string ⟨#[]⟩, .int .i64 0])).run Try.prog w = .ok (.bool e) w := by
    rcases ka with ⟨rfl, rfl⟩ | ⟨rfl, rfl⟩ | ⟨rfl, rfl⟩
    · exact ⟨true, by decide +kernel, fun w => by simp [go_sem]⟩
    · exact ⟨false, by decide +kernel, fun w => by simp [go_sem]⟩
    · exact ⟨false, by decide +kernel, fun w => by simp [go_sem]⟩
  have hN : ∀ w, (binOp .neq 59 (.agg #[.string u, .int .i64 i]) (.agg #[.string u, .int .i64 i])).run Try.prog w = .ok (.bool false) w := by
    intro w; simp [go_sem]
  obtain ⟨eb, hE1, hE2⟩ := hE
  clear ka kb kc
  have hz4 : w4.heap.size < w4.heap.size + 1 := by omega
  rcases tri with ⟨l1, l2⟩ | ⟨l1, l2⟩ | ⟨l1, l2, rfl, rfl⟩
  · cases l3 : lessA v j t k
    · clear tra
      go_wp2_with (first | (go_at_call 51; refine (lessA_p _ _ _ _ _).mono ?_; rintro e w_lessA_p ⟨rfl, hb_lessA_p⟩; have hr_lessA_p := hb_lessA_p.rules; obtain ⟨hc_lessA_p, hf_lessA_p⟩ := hr_lessA_p; have hs_lessA_p := hb_lessA_p.sz; (try simp only [World.size_alloc, World.size_setCell, World.size_drew] at hs_lessA_p); have hz0_lessA_p : w4.heap.size < w_lessA_p.heap.size := (by omega); have hz1_lessA_p : w4.heap.size + 1 < w_lessA_p.heap.size := (by omega); have hz2_lessA_p : w4.heap.size + 1 + 1 < w_lessA_p.heap.size := (by omega)) | (go_at_call 52; refine (asset_p _ _ _).mono ?_; rintro e w_asset_p ⟨rfl, hb_asset_p⟩; have hr_asset_p := hb_asset_p.rules; obtain ⟨hc_asset_p, hf_asset_p⟩ := hr_asset_p; have hs_asset_p := hb_asset_p.sz; (try simp only [World.size_alloc, World.size_setCell, World.size_drew] at hs_asset_p); have hz0_asset_p : w4.heap.size < w_asset_p.heap.size := (by omega); have hz1_asset_p : w4.heap.size + 1 < w_asset_p.heap.size := (by omega); have hz2_asset_p : w4.heap.size + 1 + 1 < w_asset_p.heap.size := (by omega)) | (go_at_call 53; refine (native_p _ _ _).mono ?_; rintro e w_native_p ⟨rfl, hb_native_p⟩; have hr_native_p := hb_native_p.rules; obtain ⟨hc_native_p, hf_native_p⟩ := hr_native_p; have hs_native_p := hb_native_p.sz; (try simp only [World.size_alloc, World.size_setCell, World.size_drew] at hs_native_p); have hz0_native_p : w4.heap.size < w_native_p.heap.size := (by omega); have hz1_native_p : w4.heap.size + 1 < w_native_p.heap.size := (by omega); have hz2_native_p : w4.heap.size + 1 + 1 < w_native_p.heap.size := (by omega)) | (go_at_call 33; refine (sane35 _).mono ?_; rintro e w_sane35 ⟨rfl, hb_sane35⟩; have hr_sane35 := hb_sane35.rules; obtain ⟨hc_sane35, hf_sane35⟩ := hr_sane35; have hs_sane35 := hb_sane35.sz; (try simp only [World.size_alloc, World.size_setCell, World.size_drew] at hs_sane35); have hz0_sane35 : w4.heap.size < w_sane35.heap.size := (by omega); have hz1_sane35 : w4.heap.size + 1 < w_sane35.heap.size := (by omega); have hz2_sane35 : w4.heap.size + 1 + 1 < w_sane35.heap.size := (by omega)))
      refine wp_region_quiet_below (by kernel_rfl) (by kernel_rfl) ?_
      repeat (quiet_step (first | exact quiet_ex (asset_p _ _ _) | exact quiet_ex (lessA_p _ _ _ _ _) | exact quiet_ex (native_p _ _ _) | exact quiet_ex (sane35 _)))
      refine wpQuiet_nil ?_
      intro wq hq
      have hbq := In.ex hq
      clear hq
      go_wp2
      go_ret
      exact ⟨rfl, (by repeat (first | exact Ex.refl _ | assumption | apply Ex.alloc | apply Ex.drew | apply Ex.drewN | (refine Ex.setAt ?_ _ ?_; (first | exact Nat.le_refl _ | omega | (simp; omega))) | (apply Ex.after; assumption)))⟩
    · have l4 := tra l1 l3
      clear tra
      go_wp2_with (first | (go_at_call 51; refine (lessA_p _ _ _ _ _).mono ?_; rintro e w_lessA_p ⟨rfl, hb_lessA_p⟩; have hr_lessA_p := hb_lessA_p.rules; obtain ⟨hc_lessA_p, hf_lessA_p⟩ := hr_lessA_p; have hs_lessA_p := hb_lessA_p.sz; (try simp only [World.size_alloc, World.size_setCell, World.size_drew] at hs_lessA_p); have hz0_lessA_p : w4.heap.size < w_lessA_p.heap.size := (by omega); have hz1_lessA_p : w4.heap.size + 1 < w_lessA_p.heap.size := (by omega); have hz2_lessA_p : w4.heap.size + 1 + 1 < w_lessA_p.heap.size := (by omega)) | (go_at_call 52; refine (asset_p _ _ _).mono ?_; rintro e w_asset_p ⟨rfl, hb_asset_p⟩; have hr_asset_p := hb_asset_p.rules; obtain ⟨hc_asset_p, hf_asset_p⟩ := hr_asset_p; have hs_asset_p := hb_asset_p.sz; (try simp only [World.size_alloc, World.size_setCell, World.size_drew] at hs_asset_p); have hz0_asset_p : w4.heap.size < w_asset_p.heap.size := (by omega); have hz1_asset_p : w4.heap.size + 1 < w_asset_p.heap.size := (by omega); have hz2_asset_p : w4.heap.size + 1 + 1 < w_asset_p.heap.size := (by omega)) | (go_at_call 53; refine (native_p _ _ _).mono ?_; rintro e w_native_p ⟨rfl, hb_native_p⟩; have hr_native_p := hb_native_p.rules; obtain ⟨hc_native_p, hf_native_p⟩ := hr_native_p; have hs_native_p := hb_native_p.sz; (try simp only [World.size_alloc, World.size_setCell, World.size_drew] at hs_native_p); have hz0_native_p : w4.heap.size < w_native_p.heap.size := (by omega); have hz1_native_p : w4.heap.size + 1 < w_native_p.heap.size := (by omega); have hz2_native_p : w4.heap.size + 1 + 1 < w_native_p.heap.size := (by omega)) | (go_at_call 33; refine (sane35 _).mono ?_; rintro e w_sane35 ⟨rfl, hb_sane35⟩; have hr_sane35 := hb_sane35.rules; obtain ⟨hc_sane35, hf_sane35⟩ := hr_sane35; have hs_sane35 := hb_sane35.sz; (try simp only [World.size_alloc, World.size_setCell, World.size_drew] at hs_sane35); have hz0_sane35 : w4.heap.size < w_sane35.heap.size := (by omega); have hz1_sane35 : w4.heap.size + 1 < w_sane35.heap.size := (by omega); have hz2_sane35 : w4.heap.size + 1 + 1 < w_sane35.heap.size := (by omega)))
      refine wp_region_quiet_below (by kernel_rfl) (by kernel_rfl) ?_
      repeat (quiet_step (first | exact quiet_ex (asset_p _ _ _) | exact quiet_ex (lessA_p _ _ _ _ _) | exact quiet_ex (native_p _ _ _) | exact quiet_ex (sane35 _)))
      refine wpQuiet_nil ?_
      intro wq hq
      have hbq := In.ex hq
      clear hq
      go_wp2
      go_ret
      exact ⟨rfl, (by repeat (first | exact Ex.refl _ | assumption | apply Ex.alloc | apply Ex.drew | apply Ex.drewN | (refine Ex.setAt ?_ _ ?_; (first | exact Nat.le_refl _ | omega | (simp; omega))) | (apply Ex.after; assumption)))⟩
  · clear tra
    go_wp2_with (first | (go_at_call 51; refine (lessA_p _ _ _ _ _).mono ?_; rintro e w_lessA_p ⟨rfl, hb_lessA_p⟩; have hr_lessA_p := hb_lessA_p.rules; obtain ⟨hc_lessA_p, hf_lessA_p⟩ := hr_lessA_p; have hs_lessA_p := hb_lessA_p.sz; (try simp only [World.size_alloc, World.size_setCell, World.size_drew] at hs_lessA_p); have hz0_lessA_p : w4.heap.size < w_lessA_p.heap.size := (by omega); have hz1_lessA_p : w4.heap.size + 1 < w_lessA_p.heap.size := (by omega); have hz2_lessA_p : w4.heap.size + 1 + 1 < w_lessA_p.heap.size := (by omega)) | (go_at_call 52; refine (asset_p _ _ _).mono ?_; rintro e w_asset_p ⟨rfl, hb_asset_p⟩; have hr_asset_p := hb_asset_p.rules; obtain ⟨hc_asset_p, hf_asset_p⟩ := hr_asset_p; have hs_asset_p := hb_asset_p.sz; (try simp only [World.size_alloc, World.size_setCell, World.size_drew] at hs_asset_p); have hz0_asset_p : w4.heap.size < w_asset_p.heap.size := (by omega); have hz1_asset_p : w4.heap.size + 1 < w_asset_p.heap.size := (by omega); have hz2_asset_p : w4.heap.size + 1 + 1 < w_asset_p.heap.size := (by omega)) | (go_at_call 53; refine (native_p _ _ _).mono ?_; rintro e w_native_p ⟨rfl, hb_native_p⟩; have hr_native_p := hb_native_p.rules; obtain ⟨hc_native_p, hf_native_p⟩ := hr_native_p; have hs_native_p := hb_native_p.sz; (try simp only [World.size_alloc, World.size_setCell, World.size_drew] at hs_native_p); have hz0_native_p : w4.heap.size < w_native_p.heap.size := (by omega); have hz1_native_p : w4.heap.size + 1 < w_native_p.heap.size := (by omega); have hz2_native_p : w4.heap.size + 1 + 1 < w_native_p.heap.size := (by omega)) | (go_at_call 33; refine (sane35 _).mono ?_; rintro e w_sane35 ⟨rfl, hb_sane35⟩; have hr_sane35 := hb_sane35.rules; obtain ⟨hc_sane35, hf_sane35⟩ := hr_sane35; have hs_sane35 := hb_sane35.sz; (try simp only [World.size_alloc, World.size_setCell, World.size_drew] at hs_sane35); have hz0_sane35 : w4.heap.size < w_sane35.heap.size := (by omega); have hz1_sane35 : w4.heap.size + 1 < w_sane35.heap.size := (by omega); have hz2_sane35 : w4.heap.size + 1 + 1 < w_sane35.heap.size := (by omega)))
    refine wp_region_quiet_below (by kernel_rfl) (by kernel_rfl) ?_
    repeat (quiet_step (first | exact quiet_ex (asset_p _ _ _) | exact quiet_ex (lessA_p _ _ _ _ _) | exact quiet_ex (native_p _ _ _) | exact quiet_ex (sane35 _)))
    refine wpQuiet_nil ?_
    intro wq hq
    have hbq := In.ex hq
    clear hq
    go_wp2
    go_ret
    exact ⟨rfl, (by repeat (first | exact Ex.refl _ | assumption | apply Ex.alloc | apply Ex.drew | apply Ex.drewN | (refine Ex.setAt ?_ _ ?_; (first | exact Nat.le_refl _ | omega | (simp; omega))) | (apply Ex.after; assumption)))⟩
  · clear tra
    go_wp2_with (first | (go_at_call 51; refine (lessA_p _ _ _ _ _).mono ?_; rintro e w_lessA_p ⟨rfl, hb_lessA_p⟩; have hr_lessA_p := hb_lessA_p.rules; obtain ⟨hc_lessA_p, hf_lessA_p⟩ := hr_lessA_p; have hs_lessA_p := hb_lessA_p.sz; (try simp only [World.size_alloc, World.size_setCell, World.size_drew] at hs_lessA_p); have hz0_lessA_p : w4.heap.size < w_lessA_p.heap.size := (by omega); have hz1_lessA_p : w4.heap.size + 1 < w_lessA_p.heap.size := (by omega); have hz2_lessA_p : w4.heap.size + 1 + 1 < w_lessA_p.heap.size := (by omega)) | (go_at_call 52; refine (asset_p _ _ _).mono ?_; rintro e w_asset_p ⟨rfl, hb_asset_p⟩; have hr_asset_p := hb_asset_p.rules; obtain ⟨hc_asset_p, hf_asset_p⟩ := hr_asset_p; have hs_asset_p := hb_asset_p.sz; (try simp only [World.size_alloc, World.size_setCell, World.size_drew] at hs_asset_p); have hz0_asset_p : w4.heap.size < w_asset_p.heap.size := (by omega); have hz1_asset_p : w4.heap.size + 1 < w_asset_p.heap.size := (by omega); have hz2_asset_p : w4.heap.size + 1 + 1 < w_asset_p.heap.size := (by omega)) | (go_at_call 53; refine (native_p _ _ _).mono ?_; rintro e w_native_p ⟨rfl, hb_native_p⟩; have hr_native_p := hb_native_p.rules; obtain ⟨hc_native_p, hf_native_p⟩ := hr_native_p; have hs_native_p := hb_native_p.sz; (try simp only [World.size_alloc, World.size_setCell, World.size_drew] at hs_native_p); have hz0_native_p : w4.heap.size < w_native_p.heap.size := (by omega); have hz1_native_p : w4.heap.size + 1 < w_native_p.heap.size := (by omega); have hz2_native_p : w4.heap.size + 1 + 1 < w_native_p.heap.size := (by omega)) | (go_at_call 33; refine (sane35 _).mono ?_; rintro e w_sane35 ⟨rfl, hb_sane35⟩; have hr_sane35 := hb_sane35.rules; obtain ⟨hc_sane35, hf_sane35⟩ := hr_sane35; have hs_sane35 := hb_sane35.sz; (try simp only [World.size_alloc, World.size_setCell, World.size_drew] at hs_sane35); have hz0_sane35 : w4.heap.size < w_sane35.heap.size := (by omega); have hz1_sane35 : w4.heap.size + 1 < w_sane35.heap.size := (by omega); have hz2_sane35 : w4.heap.size + 1 + 1 < w_sane35.heap.size := (by omega)))
    refine wp_region_quiet_below (by kernel_rfl) (by kernel_rfl) ?_
    repeat (quiet_step (first | exact quiet_ex (asset_p _ _ _) | exact quiet_ex (lessA_p _ _ _ _ _) | exact quiet_ex (native_p _ _ _) | exact quiet_ex (sane35 _)))
    refine wpQuiet_nil ?_
    intro wq hq
    have hbq := In.ex hq
    clear hq
    go_wp2
    go_ret
    exact ⟨rfl, (by repeat (first | exact Ex.refl _ | assumption | apply Ex.alloc | apply Ex.drew | apply Ex.drewN | (refine Ex.setAt ?_ _ ?_; (first | exact Nat.le_refl _ | omega | (simp; omega))) | (apply Ex.after; assumption)))⟩
end Go.Proofs.Ytfhipecfamecaaa
