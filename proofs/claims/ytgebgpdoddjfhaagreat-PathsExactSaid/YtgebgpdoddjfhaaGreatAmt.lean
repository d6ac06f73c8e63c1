/- Contracts of the functions on amounts and prices, of the program and of the reference alike: each gives the plain function that stands here, and changes nothing that was there. -/
import Derived.Test.YtgebgpdoddjfhaaGreatCmp
import Derived.Test.YtgebgpdoddjfhaaGreatRows2
namespace Go.Proofs.YtgebgpdoddjfhaaGreat
set_option linter.unusedSimpArgs false
set_option linter.unusedVariables false
set_option linter.unnecessarySimpa false
set_option linter.unusedSectionVars false
set_option maxRecDepth 100000
open Go.RowKit Go.Proofs.Grow Go.Sort

def okA (n : Int) : Bool := decide (0 ≤ n) && decide (n ≤ 1000000000000)
def okP (n : Int) : Bool := decide (1 ≤ n) && decide (n ≤ 1000000)
def priceB (n d : Int) : Bool := okP n && okP d
theorem okA_iff {n : Int} : okA n = true ↔ 0 ≤ n ∧ n ≤ 1000000000000 := by simp [okA]
theorem okP_iff {n : Int} : okP n = true ↔ 1 ≤ n ∧ n ≤ 1000000 := by simp [okP]
theorem price_iff {n d : Int} : priceB n d = true ↔ (1 ≤ n ∧ n ≤ 1000000) ∧ (1 ≤ d ∧ d ≤ 1000000) := by simp [priceB, okP_iff]
/-- An amount, if all of these are amounts; else the code 65. -/
def allA (l : List Int) (n : Int) : Int × Int := if (l.all okA) = true then (n, 0) else (0, 65)
def addF (a b : Int) : Int × Int := allA [a, b, wrap64 (a + b)] (wrap64 (a + b))
def subF (a b : Int) : Int × Int := allA [a, b, wrap64 (a - b)] (wrap64 (a - b))
def scaleF (a n d m : Int) : Int × Int := if (okA a && priceB n d) = true then allA [(a * n + m) / d] ((a * n + m) / d) else (0, 65)
def downF (a n d : Int) : Int × Int := scaleF a n d 0
def upF (a n d : Int) : Int × Int := scaleF a n d (d - 1)
def cmpP (an ad bn bd : Int) : Int := if (priceB an ad && priceB bn bd) = true then cmpI (an * bd) (bn * ad) else 0
def gcdI (a b : Int) : Int := (Nat.gcd a.toNat b.toNat : Int)
def redF (n d : Int) : Int × Int := if priceB n d = true then (n / gcdI n d, d / gcdI n d) else (0, 0)
def encI (n : Int) : List Value := [.int .i64 n]
theorem mul_bd {a n : Int} (ha : okA a = true) (hn : 1 ≤ n ∧ n ≤ 1000000) : 0 ≤ a * n ∧ a * n ≤ 1000000000000000000 := by
  rw [okA_iff] at ha
  exact ⟨Int.mul_nonneg ha.1 (by omega), by
    calc a * n ≤ 1000000000000 * n := Int.mul_le_mul_of_nonneg_right ha.2 (by omega)
      _ ≤ 1000000000000 * 1000000 := Int.mul_le_mul_of_nonneg_left hn.2 (by omega)
      _ = 1000000000000000000 := by decide⟩
theorem mul_bd2 {a n : Int} (ha : 1 ≤ a ∧ a ≤ 1000000) (hn : 1 ≤ n ∧ n ≤ 1000000) : 0 ≤ a * n ∧ a * n ≤ 1000000000000 := by
  exact ⟨Int.mul_nonneg (by omega) (by omega), by
    calc a * n ≤ 1000000 * n := Int.mul_le_mul_of_nonneg_right ha.2 (by omega)
      _ ≤ 1000000 * 1000000 := Int.mul_le_mul_of_nonneg_left hn.2 (by omega)
      _ = 1000000000000 := by decide⟩
theorem gcd_step {a b : Int} (ha : 0 ≤ a) (hb : 0 < b) : gcdI b (a % b) = gcdI a b := by
  unfold gcdI
  have h0 : 0 ≤ a % b := Int.emod_nonneg _ (by omega)
  obtain ⟨x, rfl⟩ := Int.eq_ofNat_of_zero_le ha
  obtain ⟨y, rfl⟩ := Int.eq_ofNat_of_zero_le (Int.le_of_lt hb)
  have : ((x : Int) % (y : Int)).toNat = x % y := by omega
  rw [this, Int.toNat_natCast, Int.toNat_natCast, Nat.gcd_comm y, ← Nat.gcd_rec, Nat.gcd_comm]
theorem gcd_end {a : Int} (ha : 0 ≤ a) : gcdI a 0 = a := by unfold gcdI; simp; omega
theorem gcd_pos {a b : Int} (ha : 1 ≤ a) : 1 ≤ gcdI a b := by
  unfold gcdI
  have : 0 < Nat.gcd a.toNat b.toNat := Nat.gcd_pos_of_pos_left _ (by omega)
  omega

theorem okA_p (n : Int) (w : World) :
    Calls Tryz.prog 64 #[.int .i64 n] w fun e w' => e = .returned (.bool (okA n)) ∧ w = w' := by
  by_cases h1 : 0 ≤ n <;> by_cases h2 : n ≤ 1000000000000
  all_goals
    go_enter Tryz.func64, Tryz.ntmps64
    go_wp2
    go_ret
    exact ⟨by simp [okA, h1, h2], rfl⟩

theorem okP_p (n : Int) (w : World) :
    Calls Tryz.prog 140 #[.int .i64 n] w fun e w' => e = .returned (.bool (okP n)) ∧ w = w' := by
  by_cases h1 : 1 ≤ n <;> by_cases h2 : n ≤ 1000000
  all_goals
    go_enter Tryz.func140, Tryz.ntmps140
    go_wp2
    go_ret
    exact ⟨by simp [okP, h1, h2], rfl⟩

theorem price_p (n d : Int) (w : World) :
    Calls Tryz.prog 113 #[.int .i64 n, .int .i64 d] w fun e w' => e = .returned (.bool (priceB n d)) ∧ w = w' := by
  cases h1 : okP n
  all_goals
    go_enter Tryz.func113, Tryz.ntmps113
    go_wp2_with (first | (go_at_call 140; refine (okP_p _ _).mono ?_; rintro e _w ⟨rfl, rfl⟩))
    go_ret
    exact ⟨by simp [priceB, h1], rfl⟩

theorem cmpP_p (an ad bn bd : Int) (w : World) :
    Calls Tryz.prog 145 #[.int .i64 an, .int .i64 ad, .int .i64 bn, .int .i64 bd] w fun e w' => e = .returned (.int .i64 (cmpP an ad bn bd)) ∧ w = w' := by
  cases h1 : priceB an ad
  · go_enter Tryz.func145, Tryz.ntmps145
    go_wp2_with (first | (go_at_call 113; refine (price_p _ _ _).mono ?_; rintro e _w ⟨rfl, rfl⟩))
    go_ret
    exact ⟨by simp [cmpP, h1], rfl⟩
  · cases h2 : priceB bn bd
    · go_enter Tryz.func145, Tryz.ntmps145
      go_wp2_with (first | (go_at_call 113; refine (price_p _ _ _).mono ?_; rintro e _w ⟨rfl, rfl⟩))
      go_ret
      exact ⟨by simp [cmpP, h1, h2], rfl⟩
    · obtain ⟨a1, a2⟩ := price_iff.1 h1
      obtain ⟨b1, b2⟩ := price_iff.1 h2
      obtain ⟨m1, m2⟩ := mul_bd2 a1 b2
      obtain ⟨m3, m4⟩ := mul_bd2 b1 a2
      clear a1 a2 b1 b2
      go_enter Tryz.func145, Tryz.ntmps145
      go_wp2_with (first | (go_at_call 113; refine (price_p _ _ _).mono ?_; rintro e _w ⟨rfl, rfl⟩) | (go_at_call 112; refine (cmp_int _ _ _).mono ?_; rintro e _w ⟨rfl, rfl⟩))
      go_ret
      exact ⟨by simp [cmpP, h1, h2], rfl⟩

theorem red_p (n d : Int) (w : World) :
    Calls Tryz.prog 88 #[.int .i64 n, .int .i64 d] w fun e w' => e = .returned (.tuple #[.int .i64 (redF n d).1, .int .i64 (redF n d).2]) ∧ Ex w w' := by
  cases h1 : priceB n d
  · go_enter Tryz.func88, Tryz.ntmps88
    go_wp2_with (first | (go_at_call 113; refine (price_p _ _ _).mono ?_; rintro e _w ⟨rfl, rfl⟩))
    go_ret2
    exact ⟨by simp [redF, h1], Ex.refl _⟩
  · obtain ⟨a1, a2⟩ := price_iff.1 h1
    obtain ⟨n1, n2⟩ := a1
    obtain ⟨d1, d2⟩ := a2
    have he : redF n d = (n / gcdI n d, d / gcdI n d) := by simp [redF, h1]
    have HE := Lib.hid he; clear he
    go_enter Tryz.func88, Tryz.ntmps88
    go_wp2_with (first | (go_at_call 113; refine (price_p _ _ _).mono ?_; rintro e _w ⟨rfl, rfl⟩))
    go_loopg [6, 7] d.toNat (fun m x y wr => Ex w wr ∧ ∃ a b : Int, x = .int .i64 a ∧ y = .int .i64 b ∧ 1 ≤ a ∧ a ≤ 1000000 ∧ 0 ≤ b ∧ b ≤ m ∧ b ≤ 1000000 ∧ Hid (gcdI n d = gcdI a b))
    case atStart => exact ⟨Ex.refl _, n, d, rfl, rfl, n1, n2, by omega, by omega, d2, Lib.hid rfl⟩
    case round =>
      obtain ⟨hx, a, b, rfl, rfl, r1, r2, r3, r4, r5, HG⟩ := hrel
      by_cases hb : 0 < b
      · have e1 : a.tmod b = a % b := Int.tmod_eq_emod_of_nonneg (by omega)
        have e2 : 0 ≤ a % b := Int.emod_nonneg _ (by omega)
        have e3 : a % b < b := Int.emod_lt_of_pos _ hb
        have hb0 : (b != 0) = true := by rw [bne_iff_ne]; omega
        have hb1 : ¬ b = 0 := by omega
        have HS := Lib.hid (gcd_step (a := a) (b := b) (by omega) hb)
        go_wp2_with fail
        go_quiet (fail)
        go_wp2_with fail
        go_roundg (a % b).toNat
        case measure => omega
        case rel => exact ⟨(by repeat (first | (with_reducible exact Ex.refl _) | (with_reducible assumption) | ((with_reducible refine Ex.setAt ?_ _ ?_); (first | exact Nat.le_refl _ | omega | (simp; omega))) | (with_reducible apply Ex.alloc) | (with_reducible apply Ex.drew) | (with_reducible apply Ex.drewN) | ((with_reducible apply Ex.after); with_reducible assumption) | exact Ex.refl _ | assumption | apply Ex.alloc | apply Ex.drew | apply Ex.drewN | (refine Ex.setAt ?_ _ ?_; (first | exact Nat.le_refl _ | omega | (simp; omega))) | (apply Ex.after; assumption))), _, _, rfl, rfl, by omega, by omega, e2, by omega, by omega, by rw [HG.out, ← HS.out]; exact Lib.hid rfl⟩
      · obtain rfl : b = 0 := by omega
        have hg : gcdI n d = a := by rw [HG.out]; exact gcd_end (by omega)
        have HA := Lib.hid hg; clear hg HG
        have e1 : n.tdiv a = n / a := Int.tdiv_eq_ediv_of_nonneg (by omega)
        have e2 : d.tdiv a = d / a := Int.tdiv_eq_ediv_of_nonneg (by omega)
        have ha0 : ¬ a = 0 := by omega
        have b1 : 0 ≤ n / a := Int.ediv_nonneg (by omega) (by omega)
        have b2 : n / a ≤ n := Int.ediv_le_self _ (by omega)
        have b3 : 0 ≤ d / a := Int.ediv_nonneg (by omega) (by omega)
        have b4 : d / a ≤ d := Int.ediv_le_self _ (by omega)
        have w1 : IntKind.i64.wrap (n / a) = n / a := IntWalk.i64_in _ (by omega)
        have w2 : IntKind.i64.wrap (d / a) = d / a := IntWalk.i64_in _ (by omega)
        go_wp2_with fail
        go_quiet (fail)
        clear w1 w2
        go_wp2_with fail
        go_ret2
        exact ⟨by rw [HE.out, HA.out]; rfl, (by repeat (first | (with_reducible exact Ex.refl _) | (with_reducible assumption) | ((with_reducible refine Ex.setAt ?_ _ ?_); (first | exact Nat.le_refl _ | omega | (simp; omega))) | (with_reducible apply Ex.alloc) | (with_reducible apply Ex.drew) | (with_reducible apply Ex.drewN) | ((with_reducible apply Ex.after); with_reducible assumption) | exact Ex.refl _ | assumption | apply Ex.alloc | apply Ex.drew | apply Ex.drewN | (refine Ex.setAt ?_ _ ?_; (first | exact Nat.le_refl _ | omega | (simp; omega))) | (apply Ex.after; assumption)))⟩

theorem okA_r (n : Int) (w : World) :
    Calls Tryz.prog 42 #[.int .i64 n] w fun e w' => e = .returned (.bool (okA n)) ∧ w = w' := by
  by_cases h1 : 0 ≤ n <;> by_cases h2 : n ≤ 1000000000000
  all_goals
    go_enter Tryz.func42, Tryz.ntmps42
    go_wp2
    go_ret
    exact ⟨by simp [okA, h1, h2], rfl⟩

theorem price_r (n d : Int) (w : World) :
    Calls Tryz.prog 56 #[.int .i64 n, .int .i64 d] w fun e w' => e = .returned (.bool (priceB n d)) ∧ w = w' := by
  by_cases h1 : 1 ≤ n <;> by_cases h2 : n ≤ 1000000 <;> by_cases h3 : 1 ≤ d <;> by_cases h4 : d ≤ 1000000
  all_goals first
    | (exfalso; omega)
    | (go_enter Tryz.func56, Tryz.ntmps56
       go_wp2
       go_ret
       exact ⟨by simp [priceB, okP, h1, h2, h3, h4], rfl⟩)

theorem cmpP_r (an ad bn bd : Int) (w : World) :
    Calls Tryz.prog 171 #[.int .i64 an, .int .i64 ad, .int .i64 bn, .int .i64 bd] w fun e w' => e = .returned (.int .i64 (cmpP an ad bn bd)) ∧ w = w' := by
  cases h1 : priceB an ad
  · go_enter Tryz.func171, Tryz.ntmps171
    go_wp2_with (first | (go_at_call 56; refine (price_r _ _ _).mono ?_; rintro e _w ⟨rfl, rfl⟩))
    go_ret
    exact ⟨by simp [cmpP, h1], rfl⟩
  · cases h2 : priceB bn bd
    · go_enter Tryz.func171, Tryz.ntmps171
      go_wp2_with (first | (go_at_call 56; refine (price_r _ _ _).mono ?_; rintro e _w ⟨rfl, rfl⟩))
      go_ret
      exact ⟨by simp [cmpP, h1, h2], rfl⟩
    · obtain ⟨a1, a2⟩ := price_iff.1 h1
      obtain ⟨b1, b2⟩ := price_iff.1 h2
      obtain ⟨m1, m2⟩ := mul_bd2 a1 b2
      obtain ⟨m3, m4⟩ := mul_bd2 b1 a2
      clear a1 a2 b1 b2
      by_cases h3 : an * bd < bn * ad
      · go_enter Tryz.func171, Tryz.ntmps171
        go_wp2_with (first | (go_at_call 56; refine (price_r _ _ _).mono ?_; rintro e _w ⟨rfl, rfl⟩))
        go_ret
        exact ⟨by simp [cmpP, h1, h2, cmpI, h3], rfl⟩
      · by_cases h4 : bn * ad < an * bd
        · have HE : Hid (cmpP an ad bn bd = 1) := by simp only [cmpP, h1, h2, cmpI, if_neg h3, if_pos h4]; exact Lib.hid rfl
          go_enter Tryz.func171, Tryz.ntmps171
          go_wp2_with (first | (go_at_call 56; refine (price_r _ _ _).mono ?_; rintro e _w ⟨rfl, rfl⟩))
          go_ret
          exact ⟨by rw [HE.out]; rfl, rfl⟩
        · have HE : Hid (cmpP an ad bn bd = 0) := by simp only [cmpP, h1, h2, cmpI, if_neg h3, if_neg h4]; exact Lib.hid rfl
          go_enter Tryz.func171, Tryz.ntmps171
          go_wp2_with (first | (go_at_call 56; refine (price_r _ _ _).mono ?_; rintro e _w ⟨rfl, rfl⟩))
          go_ret
          exact ⟨by rw [HE.out]; rfl, rfl⟩

theorem red_r (n d : Int) (w : World) :
    Calls Tryz.prog 59 #[.int .i64 n, .int .i64 d] w fun e w' => e = .returned (.tuple #[.int .i64 (redF n d).1, .int .i64 (redF n d).2]) ∧ Ex w w' := by
  cases h1 : priceB n d
  · go_enter Tryz.func59, Tryz.ntmps59
    go_wp2_with (first | (go_at_call 56; refine (price_r _ _ _).mono ?_; rintro e _w ⟨rfl, rfl⟩))
    go_ret2
    exact ⟨by simp [redF, h1], Ex.refl _⟩
  · obtain ⟨a1, a2⟩ := price_iff.1 h1
    obtain ⟨n1, n2⟩ := a1
    obtain ⟨d1, d2⟩ := a2
    have he : redF n d = (n / gcdI n d, d / gcdI n d) := by simp [redF, h1]
    have HE := Lib.hid he; clear he
    go_enter Tryz.func59, Tryz.ntmps59
    go_wp2_with (first | (go_at_call 56; refine (price_r _ _ _).mono ?_; rintro e _w ⟨rfl, rfl⟩))
    go_loopg [6, 7] d.toNat (fun m x y wr => Ex w wr ∧ ∃ a b : Int, x = .int .i64 a ∧ y = .int .i64 b ∧ 1 ≤ a ∧ a ≤ 1000000 ∧ 0 ≤ b ∧ b ≤ m ∧ b ≤ 1000000 ∧ Hid (gcdI n d = gcdI a b))
    case atStart => exact ⟨Ex.refl _, n, d, rfl, rfl, n1, n2, by omega, by omega, d2, Lib.hid rfl⟩
    case round =>
      obtain ⟨hx, a, b, rfl, rfl, r1, r2, r3, r4, r5, HG⟩ := hrel
      by_cases hb : 0 < b
      · have e1 : a.tmod b = a % b := Int.tmod_eq_emod_of_nonneg (by omega)
        have e2 : 0 ≤ a % b := Int.emod_nonneg _ (by omega)
        have e3 : a % b < b := Int.emod_lt_of_pos _ hb
        have hb0 : (b != 0) = true := by rw [bne_iff_ne]; omega
        have hb1 : ¬ b = 0 := by omega
        have HS := Lib.hid (gcd_step (a := a) (b := b) (by omega) hb)
        go_wp2_with fail
        go_quiet (fail)
        go_wp2_with fail
        go_roundg (a % b).toNat
        case measure => omega
        case rel => exact ⟨(by repeat (first | (with_reducible exact Ex.refl _) | (with_reducible assumption) | ((with_reducible refine Ex.setAt ?_ _ ?_); (first | exact Nat.le_refl _ | omega | (simp; omega))) | (with_reducible apply Ex.alloc) | (with_reducible apply Ex.drew) | (with_reducible apply Ex.drewN) | ((with_reducible apply Ex.after); with_reducible assumption) | exact Ex.refl _ | assumption | apply Ex.alloc | apply Ex.drew | apply Ex.drewN | (refine Ex.setAt ?_ _ ?_; (first | exact Nat.le_refl _ | omega | (simp; omega))) | (apply Ex.after; assumption))), _, _, rfl, rfl, by omega, by omega, e2, by omega, by omega, by rw [HG.out, ← HS.out]; exact Lib.hid rfl⟩
      · obtain rfl : b = 0 := by omega
        have hg : gcdI n d = a := by rw [HG.out]; exact gcd_end (by omega)
        have HA := Lib.hid hg; clear hg HG
        have e1 : n.tdiv a = n / a := Int.tdiv_eq_ediv_of_nonneg (by omega)
        have e2 : d.tdiv a = d / a := Int.tdiv_eq_ediv_of_nonneg (by omega)
        have ha0 : ¬ a = 0 := by omega
        have b1 : 0 ≤ n / a := Int.ediv_nonneg (by omega) (by omega)
        have b2 : n / a ≤ n := Int.ediv_le_self _ (by omega)
        have b3 : 0 ≤ d / a := Int.ediv_nonneg (by omega) (by omega)
        have b4 : d / a ≤ d := Int.ediv_le_self _ (by omega)
        have w1 : IntKind.i64.wrap (n / a) = n / a := IntWalk.i64_in _ (by omega)
        have w2 : IntKind.i64.wrap (d / a) = d / a := IntWalk.i64_in _ (by omega)
        go_wp2_with fail
        go_quiet (fail)
        clear w1 w2
        go_wp2_with fail
        go_ret2
        exact ⟨by rw [HE.out, HA.out]; rfl, (by repeat (first | (with_reducible exact Ex.refl _) | (with_reducible assumption) | ((with_reducible refine Ex.setAt ?_ _ ?_); (first | exact Nat.le_refl _ | omega | (simp; omega))) | (with_reducible apply Ex.alloc) | (with_reducible apply Ex.drew) | (with_reducible apply Ex.drewN) | ((with_reducible apply Ex.after); with_reducible assumption) | exact Ex.refl _ | assumption | apply Ex.alloc | apply Ex.drew | apply Ex.drewN | (refine Ex.setAt ?_ _ ?_; (first | exact Nat.le_refl _ | omega | (simp; omega))) | (apply Ex.after; assumption)))⟩

theorem all_drop (l : List Int) (k : Nat) (h : k < l.length) : (l.drop k).all okA = (okA (nth l k) && (l.drop (k + 1)).all okA) := by
  rw [drop_nth l k h]; simp
set_option maxHeartbeats 1000000 in
theorem checked_own (out : Int) (v : Value) (l : List Int) (base : Nat) (w : World) (hown : Own w base 3 encI 1 v l) (hlen : l.length ≤ 100) (hbase : base ≤ w.heap.size) :
    Calls Tryz.prog 180 #[.int .i64 out, v] w fun e w' => e = .returned (.tuple #[.int .i64 (allA (l ++ [out]) out).1, .int .i64 (allA (l ++ [out]) out).2]) ∧ ∀ w0, Ex w0 w → w0.heap.size ≤ base → Ex w0 w' := by
  have hown1 := hown.alloc (.cells #[.int .i64 out] 3)
  have hbx : Box (w.alloc (.cells #[.int .i64 out] 3)) w.heap.size (encI out) 3 := Box.new _ [_] _
  generalize hz : l ++ [out] = z
  have HZ0 := Lib.hid hz; clear hz
  go_enter Tryz.func180, Tryz.ntmps180
  go_wp2_with (at_builtin; refine append_one encI rfl (.tmp 8) (.tmp 10) 22 rfl base 3 (.int .i64 0) 1 8 (by kernel_rfl) Tryz.underlying22 rfl (by decide) (fun _ => rfl) v l out _ _ _ rfl rfl hown1 hbx (by simp [encI, Value.oneCell']) (by unfold maxLen; omega) (by omega) (by simp; omega) ?_; intro v' w4 hown4 hg4; rw [HZ0.out] at hown4; obtain ⟨a, cap, rfl, hcap, hsl, hblk⟩ := hown4.sl (fun _ => rfl))
  have hex : ∀ w0, Ex w0 w → w0.heap.size ≤ base → Ex w0 w4 := fun w0 h k => (h.alloc _).grown hown1 k hg4
  have HEX := Lib.hid hex
  clear hex hown hown1 hbx hown4 hg4 hblk
  have hal1 : 1 ≤ z.length := by rw [← HZ0.out]; simp
  have hal2 : z.length ≤ 101 := by rw [← HZ0.out]; simp; omega
  have HA := Lib.hid (show allA z out = if (z.all okA) = true then (out, 0) else (0, 65) from rfl)
  go_wp2_with fail
  go_loopg [7, 13] z.length (fun m _ i wr => Ex w4 wr ∧ ∃ k : Nat, k + m = z.length ∧ i = .int .i64 k ∧ Hid (allA z out = if ((z.drop k).all okA) = true then (out, 0) else (0, 65)))
  case atStart => exact ⟨Ex.refl _, 0, by omega, rfl, HA⟩
  case round =>
    obtain ⟨hxr, k, hk, rfl, HZ⟩ := hrel
    by_cases hlt : k < z.length
    · rcases hsl.ex hxr with rfl | ⟨g, off, rfl, hg, hcell⟩
      · simp at hal1
      · have d0 := hcell k 0 (by omega) (by omega)
        clear hcell
        rw [show (encI (nth z k))[0]? = some (.int .i64 (nth z k)) from rfl, Nat.add_zero, Nat.mul_one] at d0
        have HD := Lib.hid (all_drop z k (by omega))
        cases hok : okA (nth z k)
        · have HB : Hid (allA z out = (0, 65)) := by rw [HZ.out, HD.out, hok]; exact Lib.hid rfl
          go_wp2_with (first | (go_at_call 64; refine (okA_p _ _).mono ?_; rintro e _w ⟨rfl, rfl⟩))
          go_ret2
          exact ⟨by rw [HB.out]; rfl, fun w0 h1 h2 => (HEX.out w0 h1 h2).trans hxr⟩
        · have HB : Hid (allA z out = if ((z.drop (k + 1)).all okA) = true then (out, 0) else (0, 65)) := by rw [HZ.out, HD.out, hok, Bool.true_and]; exact Lib.hid rfl
          go_wp2_with (first | (go_at_call 64; refine (okA_p _ _).mono ?_; rintro e _w ⟨rfl, rfl⟩))
          go_roundg (gk - 1)
          case measure => omega
          case rel => exact ⟨(by repeat (first | (with_reducible exact Ex.refl _) | (with_reducible assumption) | ((with_reducible refine Ex.setAt ?_ _ ?_); (first | exact Nat.le_refl _ | omega | (simp; omega))) | (with_reducible apply Ex.alloc) | (with_reducible apply Ex.drew) | (with_reducible apply Ex.drewN) | ((with_reducible apply Ex.after); with_reducible assumption) | exact Ex.refl _ | assumption | apply Ex.alloc | apply Ex.drew | apply Ex.drewN | (refine Ex.setAt ?_ _ ?_; (first | exact Nat.le_refl _ | omega | (simp; omega))) | (apply Ex.after; assumption))), k + 1, by omega, by go_num, HB⟩
    · have HB : Hid (allA z out = (out, 0)) := by rw [HZ.out, List.drop_of_length_le (by omega)]; exact Lib.hid rfl
      go_wp2_with fail
      go_ret2
      exact ⟨by rw [HB.out]; rfl, fun w0 h1 h2 => (HEX.out w0 h1 h2).trans hxr⟩
theorem own_two (w : World) (a b : Int) : Own (w.alloc (.cells #[.int .i64 a, .int .i64 b] 3)) w.heap.size 3 encI 1 (.slice (some ⟨w.heap.size, 0, none⟩) 2 2) [a, b] := by
  refine ⟨rfl, .inr ⟨w.heap.size, 2, #[.int .i64 a, .int .i64 b], rfl, Nat.le_refl _, Box.new w [_, _] _, Nat.le_refl _, by decide, rfl, rfl⟩⟩
theorem checked_two (out a b : Int) (w : World) :
    Calls Tryz.prog 180 #[.int .i64 out, .slice (some ⟨w.heap.size, 0, none⟩) 2 2] (w.alloc (.cells #[.int .i64 a, .int .i64 b] 3)) fun e w' => e = .returned (.tuple #[.int .i64 (allA [a, b, out] out).1, .int .i64 (allA [a, b, out] out).2]) ∧ Ex w w' :=
  (checked_own out _ [a, b] w.heap.size _ (own_two w a b) (by simp) (by simp)).mono fun e w' ⟨h1, h2⟩ => ⟨h1, h2 w ((Ex.refl w).alloc _) (Nat.le_refl _)⟩
theorem checked_nil (out : Int) (w : World) :
    Calls Tryz.prog 180 #[.int .i64 out, .slice none 0 0] w fun e w' => e = .returned (.tuple #[.int .i64 (allA [out] out).1, .int .i64 (allA [out] out).2]) ∧ Ex w w' :=
  (checked_own out _ [] w.heap.size _ (Own.nil _ _ _ _ _) (by simp) (Nat.le_refl _)).mono fun e w' ⟨h1, h2⟩ => ⟨h1, h2 w (Ex.refl w) (Nat.le_refl _)⟩

end Go.Proofs.YtgebgpdoddjfhaaGreat
