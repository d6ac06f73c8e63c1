/- Contract of the source's odd assets. -/
import Derived.Test.YtfhipecfamecaaaSrcA
namespace Go.Proofs.Ytfhipecfamecaaa
set_option linter.unusedSimpArgs false
set_option linter.unusedVariables false
set_option linter.unnecessarySimpa false
set_option linter.unusedSectionVars false
open Go.RowKit Go.Proofs.Grow Go.Sort

/-- An asset of a short code. -/
def IsT (v : Value) : Prop := ∃ (u : ByteArray) (i : Int), v = .agg #[.string u, .int .i64 i] ∧ u.size ≤ 10 ∧ 0 ≤ i ∧ i ≤ 1001
theorem IsA.odd {v : Value} (h : IsA v) : IsT v := by
  rcases h with rfl | rfl | rfl
  · exact ⟨_, _, rfl, by decide, by decide, by decide⟩
  · exact ⟨_, _, rfl, by decide, by decide, by decide⟩
  · exact ⟨_, _, rfl, by decide, by decide, by decide⟩
theorem draw_AssetT (b : Nat) (w : World) (hs : Src w b) :
    Calls Try.prog 50 #[.pointer (some ⟨b, 0, none⟩)] w (Draws b w IsT) :=
  (draw_Asset b w hs).mono fun _ _ ⟨v, he, hv, hx, hs'⟩ => ⟨v, he, hv.odd, hx, hs'⟩
def oddL : List Value := [.string ⟨#[117, 115, 100]⟩, .int .i64 1, .string ⟨#[76, 79, 78, 71, 69, 82]⟩, .int .i64 1, .string ⟨#[85, 83, 68]⟩, .int .i64 0, .string ⟨#[]⟩, .int .i64 3, .string ⟨#[85, 83, 68]⟩, .int .i64 1001, .string ⟨#[88, 65, 85]⟩, .int .i64 9]
theorem oddL_get (k : Nat) (h : k < 6) : ∃ (u : ByteArray) (i : Int), oddL[k * 2]? = some (.string u) ∧ oddL[k * 2 + 1]? = some (.int .i64 i) ∧ u.size ≤ 10 ∧ 0 ≤ i ∧ i ≤ 1001 := by
  match k, h with
  | 0, _ => exact ⟨_, _, rfl, rfl, by decide, by decide, by decide⟩
  | 1, _ => exact ⟨_, _, rfl, rfl, by decide, by decide, by decide⟩
  | 2, _ => exact ⟨_, _, rfl, rfl, by decide, by decide, by decide⟩
  | 3, _ => exact ⟨_, _, rfl, rfl, by decide, by decide, by decide⟩
  | 4, _ => exact ⟨_, _, rfl, rfl, by decide, by decide, by decide⟩
  | 5, _ => exact ⟨_, _, rfl, rfl, by decide, by decide, by decide⟩
set_option maxHeartbeats 1000000 in
theorem draw_OddAsset (b : Nat) (w : World) (hs : Src w b) :
    Calls Try.prog 64 #[.pointer (some ⟨b, 0, none⟩)] w (Draws b w IsT) := by
  have hbl := hs.lt
  go_enter Try.func64, Try.ntmps64
  go_wp2_with fail
  refine (draw_N b _ _ (by repeat (first | assumption | apply Src.alloc | apply Src.drew | (apply Src.later; assumption))) (by omega) (by omega)).mono ?_
  rintro e w1 ⟨_, rfl, ⟨k, rfl, hk0, hk1⟩, hx, hsrc⟩
  obtain ⟨j, rfl⟩ := Int.eq_ofNat_of_zero_le hk0
  have hj : j < 6 := by omega
  obtain ⟨u, i, e0, e1, p1, p2, p3⟩ := oddL_get j hj
  have hbx : Box w1 (w.heap.size + 1) oddL 59 := Box.exb (Box.new_at _ oddL 59 _ (by simp)) hx (by omega)
  have c0 := hbx.cell (j * 2) _ e0
  have c1 := hbx.cell (j * 2 + 1) _ e1
  have hby : Box w1 w.heap.size [.string ⟨#[]⟩, .int .i64 0] 59 := ((Box.new w _ _).alloc _).exb hx (by omega)
  have d0 := hby.cell 0 _ rfl
  have d1 := hby.cell 1 _ rfl
  have f0 := hby.free 0
  have f1 := hby.free 1
  have hX : Exb b w w1 := (Exb.of (((Ex.refl w).alloc _).alloc _)).trans hx
  clear hbx hby e0 e1 hx
  go_wp2
  exact bodyPost_ret (v := .agg #[.string u, .int .i64 i]) (by simp [results, Try.results64, go_sem, d0, d1]) rfl ⟨_, rfl, ⟨u, i, rfl, p1, p2, p3⟩, .setNew (Nat.le_refl _) _ (.setNew (Nat.le_refl _) _ hX), .setNew hbl _ (.setNew hbl _ hsrc)⟩
end Go.Proofs.Ytfhipecfamecaaa
