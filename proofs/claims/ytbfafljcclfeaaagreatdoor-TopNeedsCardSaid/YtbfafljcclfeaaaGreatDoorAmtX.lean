/- Contracts of the first of two numbers that is not 0, and of comparing, as they are met by callers. -/
import Derived.Test.YtbfafljcclfeaaaGreatDoorCmp
import Derived.Test.YtbfafljcclfeaaaGreatDoorRows2
import Derived.Laws.RangeAny
namespace Go.Proofs.YtbfafljcclfeaaaGreatDoor
set_option linter.unusedSimpArgs false
set_option linter.unusedVariables false
set_option linter.unnecessarySimpa false
set_option linter.unusedSectionVars false
set_option maxRecDepth 100000
open Go.RowKit Go.Proofs.Grow Go.Sort

theorem cmpI_neg (a b : Int) : cmpI a b < 0 ↔ a < b := by unfold cmpI; split <;> (try split) <;> omega
theorem cmpI_zero (a b : Int) : cmpI a b = 0 ↔ a = b := by unfold cmpI; split <;> (try split) <;> omega
theorem orI2 (x y : Int) : orI [x, y] = if x = 0 then y else x := by
  by_cases h : x = 0 <;> by_cases k : y = 0 <;> simp [orI, h, k]
theorem or_two (x y : Int) (w : World) :
    Calls Tryz.prog 79 #[.slice (some ⟨w.heap.size, 0, none⟩) 2 2] (w.alloc (.cells #[.int .i64 x, .int .i64 y] 3)) fun e w' => e = .returned (.int .i64 (orI [x, y])) ∧ Ex (w.alloc (.cells #[.int .i64 x, .int .i64 y] 3)) w' := by
  refine (or_int w.heap.size 0 2 [x, y] _ (by simp) ?_).mono ?_
  · intro i hi
    match i, hi with
    | 0, _ => simp [atI, go_sem]
    | 1, _ => simp [atI, go_sem]
  · rintro e w' ⟨he, rfl⟩; exact ⟨he, Ex.refl _⟩

theorem cmpI_ex (x y : Int) (w : World) :
    Calls Tryz.prog 80 #[.int .i64 x, .int .i64 y] w fun e w' => e = .returned (.int .i64 (cmpI x y)) ∧ Ex w w' :=
  (cmp_int x y w).mono fun _ _ ⟨he, hw⟩ => ⟨he, hw ▸ Ex.refl _⟩

end Go.Proofs.YtbfafljcclfeaaaGreatDoor

/- Contracts of the functions on amounts and prices, of the program and of the reference alike: each gives the plain function that stands here, and changes nothing that was there. -/
namespace Go.Proofs.YtbfafljcclfeaaaGreatDoor
set_option linter.unusedSimpArgs false
set_option linter.unusedVariables false
set_option linter.unnecessarySimpa false
set_option linter.unusedSectionVars false
set_option maxRecDepth 100000
open Go.RowKit Go.Proofs.Grow Go.Sort

def okA (n : Int) : Bool := decide (0 ≤ n) && decide (n ≤ 1000000000000)
def okP (n : Int) : Bool := decide (1 ≤ n) && decide (n ≤ 1000000)
def priceB (n d : Int) : Bool := okP n && okP d
theorem okA_iff {n : Int} : okA n = true ↔ 0 ≤ n ∧ n ≤ 1000000000000 := by simp [okA]
theorem okP_iff {n : Int} : okP n = true ↔ 1 ≤ n ∧ n ≤ 1000000 := by simp [okP]
theorem price_iff {n d : Int} : priceB n d = true ↔ (1 ≤ n ∧ n ≤ 1000000) ∧ (1 ≤ d ∧ d ≤ 1000000) := by simp [priceB, okP_iff]
/-- An amount, if all of these are amounts; else the code 65. -/
def allA (l : List Int) (n : Int) : Int × Int := if (l.all okA) = true then (n, 0) else (0, 65)
def addF (a b : Int) : Int × Int := allA [a, b, wrap64 (a + b)] (wrap64 (a + b))
def subF (a b : Int) : Int × Int := allA [a, b, wrap64 (a - b)] (wrap64 (a - b))
def scaleF (a n d m : Int) : Int × Int := if (okA a && priceB n d) = true then allA [(a * n + m) / d] ((a * n + m) / d) else (0, 65)
def downF (a n d : Int) : Int × Int := scaleF a n d 0
def upF (a n d : Int) : Int × Int := scaleF a n d (d - 1)
def cmpP (an ad bn bd : Int) : Int := if (priceB an ad && priceB bn bd) = true then cmpI (an * bd) (bn * ad) else 0
def gcdI (a b : Int) : Int := (Nat.gcd a.toNat b.toNat : Int)
def redF (n d : Int) : Int × Int := if priceB n d = true then (n / gcdI n d, d / gcdI n d) else (0, 0)
def encI (n : Int) : List Value := [.int .i64 n]
theorem mul_bd {a n : Int} (ha : okA a = true) (hn : 1 ≤ n ∧ n ≤ 1000000) : 0 ≤ a * n ∧ a * n ≤ 1000000000000000000 := by
  rw [okA_iff] at ha
  exact ⟨Int.mul_nonneg ha.1 (by omega), by
    calc a * n ≤ 1000000000000 * n := Int.mul_le_mul_of_nonneg_right ha.2 (by omega)
      _ ≤ 1000000000000 * 1000000 := Int.mul_le_mul_of_nonneg_left hn.2 (by omega)
      _ = 1000000000000000000 := by decide⟩
theorem mul_bd2 {a n : Int} (ha : 1 ≤ a ∧ a ≤ 1000000) (hn : 1 ≤ n ∧ n ≤ 1000000) : 0 ≤ a * n ∧ a * n ≤ 1000000000000 := by
  exact ⟨Int.mul_nonneg (by omega) (by omega), by
    calc a * n ≤ 1000000 * n := Int.mul_le_mul_of_nonneg_right ha.2 (by omega)
      _ ≤ 1000000 * 1000000 := Int.mul_le_mul_of_nonneg_left hn.2 (by omega)
      _ = 1000000000000 := by decide⟩
theorem gcd_step {a b : Int} (ha : 0 ≤ a) (hb : 0 < b) : gcdI b (a % b) = gcdI a b := by
  unfold gcdI
  have h0 : 0 ≤ a % b := Int.emod_nonneg _ (by omega)
  obtain ⟨x, rfl⟩ := Int.eq_ofNat_of_zero_le ha
  obtain ⟨y, rfl⟩ := Int.eq_ofNat_of_zero_le (Int.le_of_lt hb)
  have : ((x : Int) % (y : Int)).toNat = x % y := by omega
  rw [this, Int.toNat_natCast, Int.toNat_natCast, Nat.gcd_comm y, ← Nat.gcd_rec, Nat.gcd_comm]
theorem gcd_end {a : Int} (ha : 0 ≤ a) : gcdI a 0 = a := by unfold gcdI; simp; omega
theorem gcd_pos {a b : Int} (ha : 1 ≤ a) : 1 ≤ gcdI a b := by
  unfold gcdI
  have : 0 < Nat.gcd a.toNat b.toNat := Nat.gcd_pos_of_pos_left _ (by omega)
  omega

theorem all_drop (l : List Int) (k : Nat) (h : k < l.length) : (l.drop k).all okA = (okA (nth l k) && (l.drop (k + 1)).all okA) := by
  rw [drop_nth l k h]; simp
theorem own_two (w : World) (a b : Int) : Own (w.alloc (.cells #[.int .i64 a, .int .i64 b] 3)) w.heap.size 3 encI 1 (.slice (some ⟨w.heap.size, 0, none⟩) 2 2) [a, b] := by
  refine ⟨rfl, .inr ⟨w.heap.size, 2, #[.int .i64 a, .int .i64 b], rfl, Nat.le_refl _, Box.new w [_, _] _, Nat.le_refl _, by decide, rfl, rfl⟩⟩
end Go.Proofs.YtbfafljcclfeaaaGreatDoor

/- Contracts of adding, taking away and scaling amounts, of the program and of the reference alike. -/
namespace Go.Proofs.YtbfafljcclfeaaaGreatDoor
set_option linter.unusedSimpArgs false
set_option linter.unusedVariables false
set_option linter.unnecessarySimpa false
set_option linter.unusedSectionVars false
set_option maxRecDepth 100000
open Go.RowKit Go.Proofs.Grow Go.Sort

theorem all1 (a x : Int) : allA [a] x = if okA a = true then (x, 0) else (0, 65) := by simp [allA]
theorem all3 (a b c x : Int) : allA [a, b, c] x = if (okA a && (okA b && okA c)) = true then (x, 0) else (0, 65) := by simp [allA]

end Go.Proofs.YtbfafljcclfeaaaGreatDoor

/- Contracts of the functions on assets, of the program and of the reference alike. -/
namespace Go.Proofs.YtbfafljcclfeaaaGreatDoor
set_option linter.unusedSimpArgs false
set_option linter.unusedVariables false
set_option linter.unnecessarySimpa false
set_option linter.unusedSectionVars false
set_option maxRecDepth 100000
open Go.RowKit Go.Proofs.Grow Go.Sort

def nativeB (u : ByteArray) (i : Int) : Bool := u.toList.isEmpty && i == 0
/-- The byte at a place is a capital letter. -/
def upAt (s : ByteArray) (k : Nat) : Bool := if h : k < s.size then decide (65 ≤ (s[k]'h).toNat) && decide ((s[k]'h).toNat ≤ 90) else true
def upperB (s : ByteArray) : Bool := (List.range s.size).all (upAt s)
def sizeB (u : ByteArray) (i : Int) : Bool := (decide (1 ≤ (u.size : Int)) && decide ((u.size : Int) ≤ 4)) && (decide (1 ≤ i) && decide (i ≤ 1000))
def assetB (u : ByteArray) (i : Int) : Bool := nativeB u i || (upperB u && sizeB u i)
def ordA (u : ByteArray) (i : Int) (v : ByteArray) (j : Int) : Int := orI [cmpS u v, cmpI i j]
def lessA (u : ByteArray) (i : Int) (v : ByteArray) (j : Int) : Bool := Op.bytesLess u.toList v.toList || (u.toList == v.toList && decide (i < j))
theorem ordA_neg (u v : ByteArray) (i j : Int) : decide (ordA u i v j < 0) = lessA u i v j := by
  unfold ordA lessA
  rw [orI2]
  cases h : Op.bytesLess u.toList v.toList
  · cases k : (u.toList == v.toList)
    · simp [cmpS, h, k]
    · simp [cmpS, h, k, cmpI_neg]
  · simp [cmpS, h]
theorem upper_yes {s : ByteArray} (h : ∀ j, j < s.size → upAt s j = true) : upperB s = true := by
  simp only [upperB, List.all_eq_true, List.mem_range]; exact h
theorem upper_no {s : ByteArray} {k : Nat} (hk : k < s.size) (h : upAt s k = false) : upperB s = false := by
  rw [Bool.eq_false_iff]; intro q
  simp only [upperB, List.all_eq_true, List.mem_range] at q
  rw [q k hk] at h; cases h
theorem up_at {s : ByteArray} {k : Nat} (hk : k < s.size) : upAt s k = (decide (65 ≤ (s[k]'hk).toNat) && decide ((s[k]'hk).toNat ≤ 90)) := by simp [upAt, hk]

theorem size_no {u : ByteArray} {i : Int} (h : sizeB u i = false) : ¬ ((1 ≤ (u.size : Int) ∧ (u.size : Int) ≤ 4) ∧ (1 ≤ i ∧ i ≤ 1000)) := by
  intro q; rw [Bool.eq_false_iff] at h; apply h; simp [sizeB]; omega
end Go.Proofs.YtbfafljcclfeaaaGreatDoor
