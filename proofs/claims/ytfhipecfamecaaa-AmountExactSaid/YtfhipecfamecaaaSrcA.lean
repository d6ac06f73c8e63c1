/- Contracts of the source's assets. -/
import Derived.Test.YtfhipecfamecaaaSrc
import Derived.Test.YtfhipecfamecaaaAst
namespace Go.Proofs.Ytfhipecfamecaaa
set_option linter.unusedSimpArgs false
set_option linter.unusedVariables false
set_option linter.unnecessarySimpa false
set_option linter.unusedSectionVars false
open Go.RowKit Go.Proofs.Grow Go.Sort

def sUsd : ByteArray := ⟨#[85, 83, 68]⟩
def sEur : ByteArray := ⟨#[69, 85, 82]⟩
theorem usd_p (w : World) : Calls Try.prog 75 #[] w fun e w' => e = .returned (.agg #[.string ⟨#[85, 83, 68]⟩, .int .i64 1]) ∧ Ex w w' := by
  have hbx : Box (w.alloc (.cells #[.string ⟨#[]⟩, .int .i64 0] 59)) w.heap.size _ _ := Box.new w _ _
  have c0 := hbx.cell 0 _ rfl
  have c1 := hbx.cell 1 _ rfl
  have f0 := hbx.free 0
  have f1 := hbx.free 1
  go_enter Try.func75, Try.ntmps75
  go_wp2
  exact bodyPost_ret (v := .agg #[.string ⟨#[85, 83, 68]⟩, .int .i64 1]) (by simp [results, Try.results75, go_sem, c0, c1]) rfl ⟨rfl, (by repeat (first | exact Ex.refl _ | assumption | apply Ex.alloc | apply Ex.drew | apply Ex.drewN | (refine Ex.setAt ?_ _ ?_; (first | exact Nat.le_refl _ | omega | (simp; omega))) | (apply Ex.after; assumption)))⟩
theorem eur_p (w : World) : Calls Try.prog 76 #[] w fun e w' => e = .returned (.agg #[.string ⟨#[69, 85, 82]⟩, .int .i64 2]) ∧ Ex w w' := by
  have hbx : Box (w.alloc (.cells #[.string ⟨#[]⟩, .int .i64 0] 59)) w.heap.size _ _ := Box.new w _ _
  have c0 := hbx.cell 0 _ rfl
  have c1 := hbx.cell 1 _ rfl
  have f0 := hbx.free 0
  have f1 := hbx.free 1
  go_enter Try.func76, Try.ntmps76
  go_wp2
  exact bodyPost_ret (v := .agg #[.string ⟨#[69, 85, 82]⟩, .int .i64 2]) (by simp [results, Try.results76, go_sem, c0, c1]) rfl ⟨rfl, (by repeat (first | exact Ex.refl _ | assumption | apply Ex.alloc | apply Ex.drew | apply Ex.drewN | (refine Ex.setAt ?_ _ ?_; (first | exact Nat.le_refl _ | omega | (simp; omega))) | (apply Ex.after; assumption)))⟩
/-- An asset, of three. -/
def IsA (v : Value) : Prop := v = .agg #[.string ⟨#[]⟩, .int .i64 0] ∨ v = .agg #[.string ⟨#[85, 83, 68]⟩, .int .i64 1] ∨ v = .agg #[.string ⟨#[69, 85, 82]⟩, .int .i64 2]
theorem draw_Asset (b : Nat) (w : World) (hs : Src w b) :
    Calls Try.prog 50 #[.pointer (some ⟨b, 0, none⟩)] w (Draws b w IsA) := by
  have hbl := hs.lt
  go_enter Try.func50, Try.ntmps50
  go_wp2_with (first | (go_at_call 75; refine (usd_p _).mono ?_; rintro e w_usd_p ⟨rfl, hb_usd_p⟩; have hr_usd_p := hb_usd_p.rules; obtain ⟨hc_usd_p, hf_usd_p⟩ := hr_usd_p; have hs_usd_p := hb_usd_p.sz; (try simp only [World.size_alloc, World.size_setCell, World.size_drew] at hs_usd_p); have hz0_usd_p : w.heap.size < w_usd_p.heap.size := (by omega)) | (go_at_call 76; refine (eur_p _).mono ?_; rintro e w_eur_p ⟨rfl, hb_eur_p⟩; have hr_eur_p := hb_eur_p.rules; obtain ⟨hc_eur_p, hf_eur_p⟩ := hr_eur_p; have hs_eur_p := hb_eur_p.sz; (try simp only [World.size_alloc, World.size_setCell, World.size_drew] at hs_eur_p); have hz0_eur_p : w.heap.size < w_eur_p.heap.size := (by omega)))
  refine (draw_N b _ _ ((((hs.alloc _).ex hb_usd_p).ex hb_eur_p).alloc _) (by omega) (by omega)).mono ?_
  rintro e w1 ⟨_, rfl, ⟨k, rfl, hk0, hk1⟩, hx, hsrc⟩
  have hbe : b ≠ w_eur_p.heap.size := by omega
  have hbx := (Box.new w_eur_p [.string ⟨#[]⟩, .int .i64 0, .string ⟨#[85, 83, 68]⟩, .int .i64 1, .string ⟨#[69, 85, 82]⟩, .int .i64 2] 59).exb hx hbe.symm
  have c0 := hbx.cell 0 _ rfl
  have c1 := hbx.cell 1 _ rfl
  have c2 := hbx.cell 2 _ rfl
  have c3 := hbx.cell 3 _ rfl
  have c4 := hbx.cell 4 _ rfl
  have c5 := hbx.cell 5 _ rfl
  have hby : Box w1 w.heap.size [.string ⟨#[]⟩, .int .i64 0] 59 := ((((Box.new w _ _).ex hb_usd_p).ex hb_eur_p).alloc _).exb hx (by omega)
  have d0 := hby.cell 0 _ rfl
  have d1 := hby.cell 1 _ rfl
  have f0 := hby.free 0
  have f1 := hby.free 1
  have hX : Exb b w w1 := (Exb.of (((((Ex.refl w).alloc _).trans hb_usd_p).trans hb_eur_p).alloc _)).trans hx
  have hk : k = 0 ∨ k = 1 ∨ k = 2 := by omega
  rcases hk with rfl | rfl | rfl
  · go_wp2
    exact bodyPost_ret (v := .agg #[.string ⟨#[]⟩, .int .i64 0]) (by simp [results, Try.results50, go_sem, d0, d1]) rfl ⟨_, rfl, .inl rfl, .setNew (Nat.le_refl _) _ (.setNew (Nat.le_refl _) _ hX), .setNew hbl _ (.setNew hbl _ hsrc)⟩
  · go_wp2
    exact bodyPost_ret (v := .agg #[.string ⟨#[85, 83, 68]⟩, .int .i64 1]) (by simp [results, Try.results50, go_sem, d0, d1]) rfl ⟨_, rfl, .inr (.inl rfl), .setNew (Nat.le_refl _) _ (.setNew (Nat.le_refl _) _ hX), .setNew hbl _ (.setNew hbl _ hsrc)⟩
  · go_wp2
    exact bodyPost_ret (v := .agg #[.string ⟨#[69, 85, 82]⟩, .int .i64 2]) (by simp [results, Try.results50, go_sem, d0, d1]) rfl ⟨_, rfl, .inr (.inr rfl), .setNew (Nat.le_refl _) _ (.setNew (Nat.le_refl _) _ hX), .setNew hbl _ (.setNew hbl _ hsrc)⟩
end Go.Proofs.Ytfhipecfamecaaa
