/- Plain definitions: sets in their order, intersection, dispensable sets, intact members. No program stands here. -/
import Derived.Test.YtbfafljcclfeaaaGreatDoorTnF
namespace Go.Proofs.YtbfafljcclfeaaaGreatDoor
set_option linter.unusedSimpArgs false
set_option linter.unusedVariables false
set_option linter.unnecessarySimpa false
set_option linter.unusedSectionVars false
set_option maxRecDepth 100000
open Go.RowKit Go.Proofs.Grow Go.Sort

def popN (s : Nat) : Nat := s % 2 + s / 2 % 2 + s / 4 % 2 + s / 8 % 2 + s / 16 % 2 + s / 32 % 2 + s / 64 % 2 + s / 128 % 2 + s / 256 % 2 + s / 512 % 2
theorem pop_le (s : Nat) : popN s ≤ 10 := by unfold popN; omega
theorem pop_bd {s n : Nat} (hn : n ≤ 10) (h : s < 2 ^ n) : popN s ≤ n := by
  unfold popN
  obtain rfl | rfl | rfl | rfl | rfl | rfl | rfl | rfl | rfl | rfl | rfl : n = 0 ∨ n = 1 ∨ n = 2 ∨ n = 3 ∨ n = 4 ∨ n = 5 ∨ n = 6 ∨ n = 7 ∨ n = 8 ∨ n = 9 ∨ n = 10 := by omega
  all_goals (simp only [Nat.reducePow] at h; omega)
theorem pop_first {k : Nat} (h : k ≤ 9) : popN (2 ^ (k + 1) - 1) = k + 1 := by
  obtain rfl | rfl | rfl | rfl | rfl | rfl | rfl | rfl | rfl | rfl : k = 0 ∨ k = 1 ∨ k = 2 ∨ k = 3 ∨ k = 4 ∨ k = 5 ∨ k = 6 ∨ k = 7 ∨ k = 8 ∨ k = 9 := by omega
  all_goals decide
/-- The next set of the same size. -/
def nxS (size : Nat) : Nat → Nat → Option Nat
  | 0, _ => none
  | f + 1, t => if popN t = size then some t else nxS size f (t + 1)
def nextF (s n : Nat) : Option Nat := match nxS (popN s) (2 ^ n - (s + 1)) (s + 1) with
  | some t => some t
  | none => if popN s = n then none else some (2 ^ (popN s + 1) - 1)
theorem nxS_some {size : Nat} : ∀ {f t u : Nat}, nxS size f t = some u → t ≤ u ∧ u < t + f ∧ popN u = size
  | 0, t, u, h => by cases h
  | f + 1, t, u, h => by
    unfold nxS at h
    split at h
    · rename_i hp; obtain rfl := Option.some.inj h; exact ⟨Nat.le_refl _, by omega, hp⟩
    · have := nxS_some h; omega
def muN (s : Nat) : Nat := (10 - popN s) * 1024 + (1023 - s)
theorem two_le {n : Nat} (hn : n ≤ 10) : 2 ^ n ≤ 1024 := Nat.pow_le_pow_right (n := 2) (by decide) hn
theorem next_some {s n t : Nat} (hn : n ≤ 10) (hs : s < 2 ^ n) (h : nextF s n = some t) : t < 2 ^ n ∧ muN t < muN s := by
  have h2 := two_le hn
  have hp := pop_bd hn hs
  unfold nextF at h
  split at h
  · rename_i u hu
    obtain rfl := Option.some.inj h
    obtain ⟨h1, h3, h4⟩ := nxS_some hu
    refine ⟨by omega, ?_⟩
    unfold muN; rw [h4]; omega
  · split at h
    · cases h
    · rename_i hne
      obtain rfl := Option.some.inj h
      have h5 : popN s + 1 ≤ n := by omega
      have h6 := pop_first (k := popN s) (by omega)
      have h7 : 2 ^ (popN s + 1) ≤ 2 ^ n := Nat.pow_le_pow_right (n := 2) (by decide) h5
      have h8 : 0 < 2 ^ (popN s + 1) := Nat.pow_pos (by decide)
      refine ⟨by omega, ?_⟩
      unfold muN; rw [h6]; omega
abbrev memN (c : List Mb) : Nat := 2 ^ c.length - 1
theorem mem_lt {c : List Mb} (h : c.length ≤ 10) : memN c < 1024 := by
  show 2 ^ c.length - 1 < 1024
  have := two_le h; have : 0 < 2 ^ c.length := Nat.pow_pos (by decide); omega
theorem mem_bit (c : List Mb) (k : Nat) : (memN c).testBit k = decide (k < c.length) := Nat.testBit_two_pow_sub_one _ _
/-- The first quorum for which there is a disjoint one, and the greatest one of these. -/
def fndN (c : List Mb) (s : Nat) : Nat × Nat :=
  if quoN c s = true ∧ (greatN c (andn (memN c) s)).1 ≠ 0 then (s, (greatN c (andn (memN c) s)).1)
  else match nextF s c.length with
    | none => (0, 0)
    | some t => if _h : muN t < muN s then fndN c t else (0, 0)
termination_by muN s
def allN (n : Nat) (p : Nat → Bool) : List Nat → List Nat := fun l => l.filter p
end Go.Proofs.YtbfafljcclfeaaaGreatDoor
