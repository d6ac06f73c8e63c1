/- Contracts of the functions on amounts and prices, of the program and of the reference alike: each gives the plain function that stands here, and changes nothing that was there. -/
import Derived.Test.YtahjhnijmmnkeaaCmp
import Derived.Test.YtahjhnijmmnkeaaRows2
namespace Go.Proofs.Ytahjhnijmmnkeaa
set_option linter.unusedSimpArgs false
set_option linter.unusedVariables false
set_option linter.unnecessarySimpa false
set_option linter.unusedSectionVars false
set_option maxRecDepth 100000
open Go.RowKit Go.Proofs.Grow Go.Sort

def okA (n : Int) : Bool := decide (0 ≤ n) && decide (n ≤ 1000000000000)
def okP (n : Int) : Bool := decide (1 ≤ n) && decide (n ≤ 1000000)
def priceB (n d : Int) : Bool := okP n && okP d
theorem okA_iff {n : Int} : okA n = true ↔ 0 ≤ n ∧ n ≤ 1000000000000 := by simp [okA]
theorem okP_iff {n : Int} : okP n = true ↔ 1 ≤ n ∧ n ≤ 1000000 := by simp [okP]
theorem price_iff {n d : Int} : priceB n d = true ↔ (1 ≤ n ∧ n ≤ 1000000) ∧ (1 ≤ d ∧ d ≤ 1000000) := by simp [priceB, okP_iff]
/-- An amount, if all of these are amounts; else the code 65. -/
def allA (l : List Int) (n : Int) : Int × Int := if (l.all okA) = true then (n, 0) else (0, 65)
def addF (a b : Int) : Int × Int := allA [a, b, wrap64 (a + b)] (wrap64 (a + b))
def subF (a b : Int) : Int × Int := allA [a, b, wrap64 (a - b)] (wrap64 (a - b))
def scaleF (a n d m : Int) : Int × Int := if (okA a && priceB n d) = true then allA [(a * n + m) / d] ((a * n + m) / d) else (0, 65)
def downF (a n d : Int) : Int × Int := scaleF a n d 0
def upF (a n d : Int) : Int × Int := scaleF a n d (d - 1)
def cmpP (an ad bn bd : Int) : Int := if (priceB an ad && priceB bn bd) = true then cmpI (an * bd) (bn * ad) else 0
def gcdI (a b : Int) : Int := (Nat.gcd a.toNat b.toNat : Int)
def redF (n d : Int) : Int × Int := if priceB n d = true then (n / gcdI n d, d / gcdI n d) else (0, 0)
def encI (n : Int) : List Value := [.int .i64 n]
theorem mul_bd {a n : Int} (ha : okA a = true) (hn : 1 ≤ n ∧ n ≤ 1000000) : 0 ≤ a * n ∧ a * n ≤ 1000000000000000000 := by
  rw [okA_iff] at ha
  exact ⟨Int.mul_nonneg ha.1 (by omega), by
    calc a * n ≤ 1000000000000 * n := Int.mul_le_mul_of_nonneg_right ha.2 (by omega)
      _ ≤ 1000000000000 * 1000000 := Int.mul_le_mul_of_nonneg_left hn.2 (by omega)
      _ = 1000000000000000000 := by decide⟩
theorem mul_bd2 {a n : Int} (ha : 1 ≤ a ∧ a ≤ 1000000) (hn : 1 ≤ n ∧ n ≤ 1000000) : 0 ≤ a * n ∧ a * n ≤ 1000000000000 := by
  exact ⟨Int.mul_nonneg (by omega) (by omega), by
    calc a * n ≤ 1000000 * n := Int.mul_le_mul_of_nonneg_right ha.2 (by omega)
      _ ≤ 1000000 * 1000000 := Int.mul_le_mul_of_nonneg_left hn.2 (by omega)
      _ = 1000000000000 := by decide⟩
theorem gcd_step {a b : Int} (ha : 0 ≤ a) (hb : 0 < b) : gcdI b (a % b) = gcdI a b := by
  unfold gcdI
  have h0 : 0 ≤ a % b := Int.emod_nonneg _ (by omega)
  obtain ⟨x, rfl⟩ := Int.eq_ofNat_of_zero_le ha
  obtain ⟨y, rfl⟩ := Int.eq_ofNat_of_zero_le (Int.le_of_lt hb)
  have : ((x : Int) % (y : Int)).toNat = x % y := by omega
  rw [this, Int.toNat_natCast, Int.toNat_natCast, Nat.gcd_comm y, ← Nat.gcd_rec, Nat.gcd_comm]
theorem gcd_end {a : Int} (ha : 0 ≤ a) : gcdI a 0 = a := by unfold gcdI; simp; omega
theorem gcd_pos {a b : Int} (ha : 1 ≤ a) : 1 ≤ gcdI a b := by
  unfold gcdI
  have : 0 < Nat.gcd a.toNat b.toNat := Nat.gcd_pos_of_pos_left _ (by omega)
  omega

theorem all_drop (l : List Int) (k : Nat) (h : k < l.length) : (l.drop k).all okA = (okA (nth l k) && (l.drop (k + 1)).all okA) := by
  rw [drop_nth l k h]; simp
theorem own_two (w : World) (a b : Int) : Own (w.alloc (.cells #[.int .i64 a, .int .i64 b] 3)) w.heap.size 3 encI 1 (.slice (some ⟨w.heap.size, 0, none⟩) 2 2) [a, b] := by
  refine ⟨rfl, .inr ⟨w.heap.size, 2, #[.int .i64 a, .int .i64 b], rfl, Nat.le_refl _, Box.new w [_, _] _, Nat.le_refl _, by decide, rfl, rfl⟩⟩
end Go.Proofs.Ytahjhnijmmnkeaa
