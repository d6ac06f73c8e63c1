/- Nothing is claimed here: arguments that are accounts. -/
import Derived.Test.YteppnjgobaggaaaRawA
namespace Go.Proofs.Yteppnjgobaggaaa
set_option linter.unusedSimpArgs false
set_option linter.unusedVariables false
set_option linter.unnecessarySimpa false
set_option linter.unusedSectionVars false
set_option maxRecDepth 100000
open Go Go.ChangeShapes Go.WideShapes Go.Deep Go.RowKit Go.Am Go.Proofs.Grow

theorem Fits.uncons {k : Lk} {ks : List Lk} {cs : List Value} (h : Fits (k :: ks) cs) : ∃ v r, cs = v :: r ∧ k.holds v ∧ Fits ks r := by
  obtain ⟨h1, h2⟩ := h
  cases cs with
  | nil => simp at h1
  | cons v r =>
    obtain ⟨u, hu, hh⟩ := h2 0 k rfl
    obtain rfl : v = u := by simpa using hu
    exact ⟨v, r, rfl, hh, by simpa using h1, fun i k' hk => h2 (i + 1) k' (by simpa using hk)⟩
theorem Fits.unnil {cs : List Value} (h : Fits [] cs) : cs = [] := List.eq_nil_of_length_eq_zero h.1
theorem open_accs {H : Type} {enc : TypeId × Value → H} {w : World} {base : Nat} {spare : Nat → Bool} {held : Bool} {fuel : Nat} {v : Value} {x : DataW H × List MemPlace} (h : DataW.trod enc Try.prog w base spare held fuel 25 [v] = some x) :
    ∃ l : List Acc, VR (fun _ => False) (fun _ => none) w (lA l) v ∧ (l.length : Int) ≤ 9223372036854775807 :=
  open_rows (α := Acc) (fun x => [.int .i64 x.id, .int .i64 x.bal, .int .i64 x.seq]) (m := 5) (ks := [.i .i64, .i .i64, .i .i64]) Try.underlying25 (by kernel_rfl) (by kernel_rfl) (by decide)
    (fun cs hf => by
      obtain ⟨v0, r0, rfl, ⟨n0, rfl, _⟩, f0⟩ := hf.uncons
      obtain ⟨v1, r1, rfl, ⟨n1, rfl, _⟩, f1⟩ := f0.uncons
      obtain ⟨v2, r2, rfl, ⟨n2, rfl, _⟩, f2⟩ := f1.uncons
      obtain rfl := f2.unnil
      exact ⟨⟨n0, n1, n2⟩, rfl⟩) (fun _ => rfl) (fun y u hu => by simp at hu; rcases hu with rfl | rfl | rfl <;> rfl) h
end Go.Proofs.Yteppnjgobaggaaa
