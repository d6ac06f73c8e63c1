/- Contracts of the functions on assets, of the program and of the reference alike. -/
import Derived.Test.YtahjhnijmmnkeaaBal0
import Derived.Test.YtahjhnijmmnkeaaAmt2
import Derived.Laws.RangeAny
namespace Go.Proofs.Ytahjhnijmmnkeaa
set_option linter.unusedSimpArgs false
set_option linter.unusedVariables false
set_option linter.unnecessarySimpa false
set_option linter.unusedSectionVars false
set_option maxRecDepth 100000
open Go.RowKit Go.Proofs.Grow Go.Sort

def nativeB (u : ByteArray) (i : Int) : Bool := u.toList.isEmpty && i == 0
/-- The byte at a place is a capital letter. -/
def upAt (s : ByteArray) (k : Nat) : Bool := if h : k < s.size then decide (65 ≤ (s[k]'h).toNat) && decide ((s[k]'h).toNat ≤ 90) else true
def upperB (s : ByteArray) : Bool := (List.range s.size).all (upAt s)
def sizeB (u : ByteArray) (i : Int) : Bool := (decide (1 ≤ (u.size : Int)) && decide ((u.size : Int) ≤ 4)) && (decide (1 ≤ i) && decide (i ≤ 1000))
def assetB (u : ByteArray) (i : Int) : Bool := nativeB u i || (upperB u && sizeB u i)
def ordA (u : ByteArray) (i : Int) (v : ByteArray) (j : Int) : Int := orI [cmpS u v, cmpI i j]
def lessA (u : ByteArray) (i : Int) (v : ByteArray) (j : Int) : Bool := Op.bytesLess u.toList v.toList || (u.toList == v.toList && decide (i < j))
theorem ordA_neg (u v : ByteArray) (i j : Int) : decide (ordA u i v j < 0) = lessA u i v j := by
  unfold ordA lessA
  rw [orI2]
  cases h : Op.bytesLess u.toList v.toList
  · cases k : (u.toList == v.toList)
    · simp [cmpS, h, k]
    · simp [cmpS, h, k, cmpI_neg]
  · simp [cmpS, h]
theorem upper_yes {s : ByteArray} (h : ∀ j, j < s.size → upAt s j = true) : upperB s = true := by
  simp only [upperB, List.all_eq_true, List.mem_range]; exact h
theorem upper_no {s : ByteArray} {k : Nat} (hk : k < s.size) (h : upAt s k = false) : upperB s = false := by
  rw [Bool.eq_false_iff]; intro q
  simp only [upperB, List.all_eq_true, List.mem_range] at q
  rw [q k hk] at h; cases h
theorem up_at {s : ByteArray} {k : Nat} (hk : k < s.size) : upAt s k = (decide (65 ≤ (s[k]'hk).toNat) && decide ((s[k]'hk).toNat ≤ 90)) := by simp [upAt, hk]

theorem size_no {u : ByteArray} {i : Int} (h : sizeB u i = false) : ¬ ((1 ≤ (u.size : Int) ∧ (u.size : Int) ≤ 4) ∧ (1 ≤ i ∧ i ≤ 1000)) := by
  intro q; rw [Bool.eq_false_iff] at h; apply h; simp [sizeB]; omega
end Go.Proofs.Ytahjhnijmmnkeaa
