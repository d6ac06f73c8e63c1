/- Plain functions: a source of numbers, and what is drawn from it. No program stands here. -/
import Derived.Test.YtbfafljcclfeaaaGreatDoorPW
namespace Go.Proofs.YtbfafljcclfeaaaGreatDoor
set_option linter.unusedSimpArgs false
set_option linter.unusedVariables false
set_option linter.unnecessarySimpa false
set_option linter.unusedSectionVars false
set_option maxRecDepth 100000
open Go Go.RowKit Go.Am Go.Proofs.Grow

structure Sc where
  l : List Int
  i : Nat
/-- A source: at most 800 numbers, and how many of them have been given out. -/
def Sc.ok (s : Sc) : Prop := s.i ≤ s.l.length ∧ s.l.length ≤ 800
/-- The number that is drawn, and the source behind it. -/
def Sc.n (s : Sc) (k : Int) : Int := if s.i < s.l.length ∧ 1 ≤ k then nth s.l s.i % k else 0
def Sc.x (s : Sc) (k : Int) : Sc := if s.i < s.l.length ∧ 1 ≤ k then ⟨s.l, s.i + 1⟩ else s
theorem Sc.ok_x {s : Sc} (h : s.ok) (k : Int) : (s.x k).ok := by
  unfold Sc.x; split
  · obtain ⟨h1, h2⟩ := h; exact ⟨by dsimp only; omega, h2⟩
  · exact h
theorem Sc.ok_x' {s : Sc} (h : s.ok) (k : Int) : (s.x k).ok := Sc.ok_x h k
theorem Sc.n_bd (s : Sc) {k : Int} (h : 1 ≤ k) : 0 ≤ s.n k ∧ s.n k ≤ k - 1 := by
  unfold Sc.n; split
  · have h1 := Int.emod_nonneg (nth s.l s.i) (show k ≠ 0 by omega)
    have h2 := Int.emod_lt_of_pos (nth s.l s.i) (show 0 < k by omega)
    omega
  · omega
theorem tmod_bd (x : Int) {k : Int} (h : 1 ≤ k) : -k < x.tmod k ∧ x.tmod k < k := by
  have h1 := Int.emod_nonneg x (show k ≠ 0 by omega)
  have h2 := Int.emod_lt_of_pos x (show 0 < k by omega)
  rw [Int.tmod_eq_emod]
  split <;> rename_i h3
  · omega
  · have : (k.natAbs : Int) = k := by omega
    rw [this]
    have : ¬ x % k = 0 := fun e => h3 (.inr (Int.dvd_of_emod_eq_zero e))
    omega
theorem tmod_emod (x : Int) {k : Int} (h : 1 ≤ k) : (x.tmod k + k).tmod k = x % k := by
  have hb := tmod_bd x h
  rw [Int.tmod_eq_emod_of_nonneg (by omega), Int.add_emod_right, Int.tmod_eq_emod]
  split
  · rw [show ((0 : Nat) : Int) = 0 from rfl, Int.sub_zero]; exact Int.emod_emod_of_dvd x (Int.dvd_refl k)
  · have e : (k.natAbs : Int) = k := by omega
    rw [e, Int.sub_emod, Int.emod_self, Int.sub_zero, Int.emod_emod_of_dvd _ (Int.dvd_refl k), Int.emod_emod_of_dvd _ (Int.dvd_refl k)]
def odds : List Int := [-1, 0, 1, 2, 9223372036854775807, -9223372036854775808, 1000000000000, 1000000000001, 1000000, 1000001, 1000000, 1000, 1001, 1000, 1001]
def assets3 : List (ByteArray × Int) := [(⟨#[]⟩, 0), (⟨#[85, 83, 68]⟩, 1), (⟨#[69, 85, 82]⟩, 2)]
def rT (x : ByteArray × Int) : List D := [dS x.1, dI x.2]
theorem hypS {p : Prop} (h : p := by first | with_reducible assumption | (with_reducible exact Sc.ok_x (by assumption) _) | ((with_reducible apply Sc.ok_x); repeat (first | with_reducible assumption | with_reducible apply Sc.ok_x)) | omega | (exact by decide) | (focus (simp only [List.length_cons, List.length_nil]; omega)) | (simp only [decide_eq_true_eq, decide_eq_false_iff_not, List.length_map] at *; omega)) : p := h
end Go.Proofs.YtbfafljcclfeaaaGreatDoor
