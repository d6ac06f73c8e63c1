/- Contracts of the functions on ballots, of the program and of the reference alike: each gives the plain function of the ballots' counters and values that stands here, and changes nothing that was there. -/
import Derived.Test.YtfhipecfamecaaaBal0
namespace Go.Proofs.Ytfhipecfamecaaa
set_option linter.unusedSimpArgs false
set_option linter.unusedVariables false
set_option linter.unnecessarySimpa false
set_option linter.unusedSectionVars false
open Go.RowKit Go.Proofs.Grow Go.Sort

def zeroB (c : Int) (v : ByteArray) : Bool := c == 0 && v.toList.isEmpty
def compB (u v : ByteArray) : Bool := u.toList == v.toList
def lessV (u v : ByteArray) : Bool := if u.size = v.size then Op.bytesLess u.toList v.toList else decide (u.size < v.size)
def lessB (c : Int) (u : ByteArray) (d : Int) (v : ByteArray) : Bool := if c = d then lessV u v else decide (c < d)
def covB (c : Int) (u : ByteArray) (d : Int) (v : ByteArray) : Bool := !zeroB c u && (compB u v && decide (d ≤ c))
def abB (c : Int) (u : ByteArray) (d : Int) (v : ByteArray) : Bool := !zeroB c u && (!compB u v && lessB d v c u)
def prepB (c : Int) (u : ByteArray) (d : Int) (v : ByteArray) (b : Int) (x : ByteArray) : Bool := covB c u b x || (covB d v b x || (!zeroB d v && lessB b x d v))
def validB (c : Int) (v : ByteArray) : Bool := ((decide (1 ≤ c) && decide (c ≤ 1000)) || c == 1000000) && (decide (1 ≤ (v.size : Int)) && decide ((v.size : Int) ≤ 200))
def cmpV (u v : ByteArray) : Int := orI [cmpI u.size v.size, cmpS u v]
def cmpB (c : Int) (u : ByteArray) (d : Int) (v : ByteArray) : Int := orI [cmpI c d, cmpV u v]
theorem cmpV_neg (u v : ByteArray) : decide (cmpV u v < 0) = lessV u v := by
  unfold cmpV lessV
  rw [orI2]
  by_cases h : u.size = v.size
  · rw [if_pos ((cmpI_zero _ _).2 (by rw [h])), if_pos h]
    cases k : Op.bytesLess u.toList v.toList
    · simp only [cmpS, k]; split <;> (try split) <;> simp_all
    · simp [cmpS, k]
  · rw [if_neg (fun q => h (by have := (cmpI_zero _ _).1 q; omega)), if_neg h]
    simp [cmpI_neg]
theorem cmpB_neg (c d : Int) (u v : ByteArray) : decide (cmpB c u d v < 0) = lessB c u d v := by
  unfold cmpB lessB
  rw [orI2]
  by_cases h : c = d
  · rw [if_pos ((cmpI_zero _ _).2 h), if_pos h, cmpV_neg]
  · rw [if_neg (fun q => h ((cmpI_zero _ _).1 q)), if_neg h]
    simp [cmpI_neg]


theorem cmpV_any (u v : ByteArray) (w : World) :
    Calls Try.prog 72 #[.string u, .string v] w fun e w' => e = .returned (.int .i64 (cmpV u v)) ∧ Ex w w' := by
  go_enter Try.func72, Try.ntmps72
  go_wp2_with (first | (go_at_call 73; refine (cmp_int _ _ _).mono ?_; rintro e _w ⟨rfl, rfl⟩) | (go_at_call 80; refine (cmp_str _ _ _).mono ?_; rintro e _w ⟨rfl, rfl⟩) | (go_at_call 79; refine (or_two _ _ _).mono ?_; rintro e w_or_two ⟨rfl, hb_or_two⟩; have hr_or_two := hb_or_two.rules; obtain ⟨hc_or_two, hf_or_two⟩ := hr_or_two; have hs_or_two := hb_or_two.sz; (try simp only [World.size_alloc, World.size_setCell, World.size_drew] at hs_or_two)))
  go_ret
  exact ⟨rfl, (by repeat (first | exact Ex.refl _ | assumption | apply Ex.alloc | apply Ex.drew | apply Ex.drewN | (refine Ex.setAt ?_ _ ?_; (first | exact Nat.le_refl _ | omega | (simp; omega))) | (apply Ex.after; assumption)))⟩

theorem cmpB_any (c d : Int) (u v : ByteArray) (w : World) :
    Calls Try.prog 70 #[.agg #[.int .i64 c, .string u], .agg #[.int .i64 d, .string v]] w fun e w' => e = .returned (.int .i64 (cmpB c u d v)) ∧ Ex w w' := by
  go_enter Try.func70, Try.ntmps70
  go_wp2
  refine region_head_in 10 (by kernel_rfl) (by kernel_rfl) ?_
  simp only [List.take_succ_cons, List.take_zero, List.drop_succ_cons, List.drop_zero]
  repeat (quiet_step (first | exact quiet_ex (cmpI_ex _ _ _) | exact quiet_ex (cmpV_any _ _ _)))
  refine wpQuiet_nil ?_
  intro wq hq
  have hb := In.ex hq; clear hq
  go_wp2_with (first | (go_at_call 79; refine (or_two _ _ _).mono ?_; rintro e w_or_two ⟨rfl, hb_or_two⟩; have hr_or_two := hb_or_two.rules; obtain ⟨hc_or_two, hf_or_two⟩ := hr_or_two; have hs_or_two := hb_or_two.sz; (try simp only [World.size_alloc, World.size_setCell, World.size_drew] at hs_or_two)))
  go_ret
  exact ⟨rfl, (by repeat (first | exact Ex.refl _ | assumption | apply Ex.alloc | apply Ex.drew | apply Ex.drewN | (refine Ex.setAt ?_ _ ?_; (first | exact Nat.le_refl _ | omega | (simp; omega))) | (apply Ex.after; assumption)))⟩

theorem lessB_p (c d : Int) (u v : ByteArray) (w : World) :
    Calls Try.prog 21 #[.agg #[.int .i64 c, .string u], .agg #[.int .i64 d, .string v]] w fun e w' => e = .returned (.bool (lessB c u d v)) ∧ Ex w w' := by
  go_enter Try.func21, Try.ntmps21
  go_wp2_with (first | (go_at_call 70; refine (cmpB_any _ _ _ _ _).mono ?_; rintro e w_cmpB_any ⟨rfl, hb_cmpB_any⟩; have hr_cmpB_any := hb_cmpB_any.rules; obtain ⟨hc_cmpB_any, hf_cmpB_any⟩ := hr_cmpB_any; have hs_cmpB_any := hb_cmpB_any.sz; (try simp only [World.size_alloc, World.size_setCell, World.size_drew] at hs_cmpB_any)))
  go_ret
  exact ⟨by simp [← cmpB_neg], (by repeat (first | exact Ex.refl _ | assumption | apply Ex.alloc | apply Ex.drew | apply Ex.drewN | (refine Ex.setAt ?_ _ ?_; (first | exact Nat.le_refl _ | omega | (simp; omega))) | (apply Ex.after; assumption)))⟩

theorem lessV_p (u v : ByteArray) (w : World) :
    Calls Try.prog 40 #[.string u, .string v] w fun e w' => e = .returned (.bool (lessV u v)) ∧ Ex w w' := by
  go_enter Try.func40, Try.ntmps40
  go_wp2_with (first | (go_at_call 72; refine (cmpV_any _ _ _).mono ?_; rintro e w_cmpV_any ⟨rfl, hb_cmpV_any⟩; have hr_cmpV_any := hb_cmpV_any.rules; obtain ⟨hc_cmpV_any, hf_cmpV_any⟩ := hr_cmpV_any; have hs_cmpV_any := hb_cmpV_any.sz; (try simp only [World.size_alloc, World.size_setCell, World.size_drew] at hs_cmpV_any)))
  go_ret
  exact ⟨by simp [← cmpV_neg], (by repeat (first | exact Ex.refl _ | assumption | apply Ex.alloc | apply Ex.drew | apply Ex.drewN | (refine Ex.setAt ?_ _ ?_; (first | exact Nat.le_refl _ | omega | (simp; omega))) | (apply Ex.after; assumption)))⟩

theorem lessV_r (u v : ByteArray) (w : World) :
    Calls Try.prog 41 #[.string u, .string v] w fun e w' => e = .returned (.bool (lessV u v)) ∧ Ex w w' := by
  by_cases h : u.size = v.size
  · have h1 : ((u.size : Int) != (v.size : Int)) = false := by simp [h]
    have He : lessV u v = Op.bytesLess u.toList v.toList := by simp [lessV, h]
    rw [He]; clear He h
    go_enter Try.func41, Try.ntmps41
    go_wp2
    go_ret
    exact ⟨rfl, (by repeat (first | exact Ex.refl _ | assumption | apply Ex.alloc | apply Ex.drew | apply Ex.drewN | (refine Ex.setAt ?_ _ ?_; (first | exact Nat.le_refl _ | omega | (simp; omega))) | (apply Ex.after; assumption)))⟩
  · have h1 : ((u.size : Int) != (v.size : Int)) = true := by simp; omega
    have He : lessV u v = decide ((u.size : Int) < v.size) := by simp [lessV, h]
    rw [He]; clear He h
    go_enter Try.func41, Try.ntmps41
    go_wp2
    go_ret
    exact ⟨by simp, (by repeat (first | exact Ex.refl _ | assumption | apply Ex.alloc | apply Ex.drew | apply Ex.drewN | (refine Ex.setAt ?_ _ ?_; (first | exact Nat.le_refl _ | omega | (simp; omega))) | (apply Ex.after; assumption)))⟩

theorem lessB_r (c d : Int) (u v : ByteArray) (w : World) :
    Calls Try.prog 25 #[.agg #[.int .i64 c, .string u], .agg #[.int .i64 d, .string v]] w fun e w' => e = .returned (.bool (lessB c u d v)) ∧ Ex w w' := by
  by_cases h : c = d
  · subst h
    have He : lessB c u c v = lessV u v := by simp [lessB]
    rw [He]; clear He
    go_enter Try.func25, Try.ntmps25
    go_wp2_with (first | (go_at_call 41; refine (lessV_r _ _ _).mono ?_; rintro e w_lessV_r ⟨rfl, hb_lessV_r⟩; have hr_lessV_r := hb_lessV_r.rules; obtain ⟨hc_lessV_r, hf_lessV_r⟩ := hr_lessV_r; have hs_lessV_r := hb_lessV_r.sz; (try simp only [World.size_alloc, World.size_setCell, World.size_drew] at hs_lessV_r)))
    go_ret
    exact ⟨rfl, (by repeat (first | exact Ex.refl _ | assumption | apply Ex.alloc | apply Ex.drew | apply Ex.drewN | (refine Ex.setAt ?_ _ ?_; (first | exact Nat.le_refl _ | omega | (simp; omega))) | (apply Ex.after; assumption)))⟩
  · have h1 : (c != d) = true := by simpa using h
    have He : lessB c u d v = decide (c < d) := by simp [lessB, h]
    rw [He]; clear He h
    go_enter Try.func25, Try.ntmps25
    go_wp2
    go_ret
    exact ⟨by simp, (by repeat (first | exact Ex.refl _ | assumption | apply Ex.alloc | apply Ex.drew | apply Ex.drewN | (refine Ex.setAt ?_ _ ?_; (first | exact Nat.le_refl _ | omega | (simp; omega))) | (apply Ex.after; assumption)))⟩

theorem zeroB_p (c : Int) (u : ByteArray) (w : World) :
    Calls Try.prog 30 #[.agg #[.int .i64 c, .string u]] w fun e w' => e = .returned (.bool (zeroB c u)) ∧ Ex w w' := by
  by_cases h : c = 0
  · cases k : u.toList.isEmpty
    all_goals
      go_enter Try.func30, Try.ntmps30
      go_wp2
      all_goals first | contradiction | (go_ret; exact ⟨by simp_all [zeroB], (by repeat (first | exact Ex.refl _ | assumption | apply Ex.alloc | apply Ex.drew | apply Ex.drewN | (refine Ex.setAt ?_ _ ?_; (first | exact Nat.le_refl _ | omega | (simp; omega))) | (apply Ex.after; assumption)))⟩) | (exfalso; simp_all; done)
  · go_enter Try.func30, Try.ntmps30
    go_wp2
    go_ret
    exact ⟨by simp [zeroB, h], (by repeat (first | exact Ex.refl _ | assumption | apply Ex.alloc | apply Ex.drew | apply Ex.drewN | (refine Ex.setAt ?_ _ ?_; (first | exact Nat.le_refl _ | omega | (simp; omega))) | (apply Ex.after; assumption)))⟩

theorem compB_p (c d : Int) (u v : ByteArray) (w : World) :
    Calls Try.prog 24 #[.agg #[.int .i64 c, .string u], .agg #[.int .i64 d, .string v]] w fun e w' => e = .returned (.bool (compB u v)) ∧ Ex w w' := by
  go_enter Try.func24, Try.ntmps24
  go_wp2
  go_ret
  exact ⟨rfl, (by repeat (first | exact Ex.refl _ | assumption | apply Ex.alloc | apply Ex.drew | apply Ex.drewN | (refine Ex.setAt ?_ _ ?_; (first | exact Nat.le_refl _ | omega | (simp; omega))) | (apply Ex.after; assumption)))⟩

theorem covB_p (c d : Int) (u v : ByteArray) (w : World) :
    Calls Try.prog 22 #[.agg #[.int .i64 c, .string u], .agg #[.int .i64 d, .string v]] w fun e w' => e = .returned (.bool (covB c u d v)) ∧ Ex w w' := by
  cases h1 : zeroB c u <;> cases h2 : compB u v <;> by_cases h3 : d ≤ c
  all_goals
    go_enter Try.func22, Try.ntmps22
    go_wp2_with (first | (go_at_call 30; refine (zeroB_p _ _ _).mono ?_; rintro e w_zeroB_p ⟨rfl, hb_zeroB_p⟩; have hr_zeroB_p := hb_zeroB_p.rules; obtain ⟨hc_zeroB_p, hf_zeroB_p⟩ := hr_zeroB_p; have hs_zeroB_p := hb_zeroB_p.sz; (try simp only [World.size_alloc, World.size_setCell, World.size_drew] at hs_zeroB_p); have hz0_zeroB_p : w.heap.size < w_zeroB_p.heap.size := (by omega); have hz1_zeroB_p : w.heap.size + 1 < w_zeroB_p.heap.size := (by omega)) | (go_at_call 24; refine (compB_p _ _ _ _ _).mono ?_; rintro e w_compB_p ⟨rfl, hb_compB_p⟩; have hr_compB_p := hb_compB_p.rules; obtain ⟨hc_compB_p, hf_compB_p⟩ := hr_compB_p; have hs_compB_p := hb_compB_p.sz; (try simp only [World.size_alloc, World.size_setCell, World.size_drew] at hs_compB_p); have hz0_compB_p : w.heap.size < w_compB_p.heap.size := (by omega); have hz1_compB_p : w.heap.size + 1 < w_compB_p.heap.size := (by omega)))
    go_ret
    exact ⟨by simp [covB, h1, h2, h3], (by repeat (first | exact Ex.refl _ | assumption | apply Ex.alloc | apply Ex.drew | apply Ex.drewN | (refine Ex.setAt ?_ _ ?_; (first | exact Nat.le_refl _ | omega | (simp; omega))) | (apply Ex.after; assumption)))⟩

theorem abB_p (c d : Int) (u v : ByteArray) (w : World) :
    Calls Try.prog 23 #[.agg #[.int .i64 c, .string u], .agg #[.int .i64 d, .string v]] w fun e w' => e = .returned (.bool (abB c u d v)) ∧ Ex w w' := by
  cases h1 : zeroB c u <;> cases h2 : compB u v
  all_goals
    go_enter Try.func23, Try.ntmps23
    go_wp2_with (first | (go_at_call 30; refine (zeroB_p _ _ _).mono ?_; rintro e w_zeroB_p ⟨rfl, hb_zeroB_p⟩; have hr_zeroB_p := hb_zeroB_p.rules; obtain ⟨hc_zeroB_p, hf_zeroB_p⟩ := hr_zeroB_p; have hs_zeroB_p := hb_zeroB_p.sz; (try simp only [World.size_alloc, World.size_setCell, World.size_drew] at hs_zeroB_p); have hz0_zeroB_p : w.heap.size < w_zeroB_p.heap.size := (by omega); have hz1_zeroB_p : w.heap.size + 1 < w_zeroB_p.heap.size := (by omega)) | (go_at_call 24; refine (compB_p _ _ _ _ _).mono ?_; rintro e w_compB_p ⟨rfl, hb_compB_p⟩; have hr_compB_p := hb_compB_p.rules; obtain ⟨hc_compB_p, hf_compB_p⟩ := hr_compB_p; have hs_compB_p := hb_compB_p.sz; (try simp only [World.size_alloc, World.size_setCell, World.size_drew] at hs_compB_p); have hz0_compB_p : w.heap.size < w_compB_p.heap.size := (by omega); have hz1_compB_p : w.heap.size + 1 < w_compB_p.heap.size := (by omega)) | (go_at_call 21; refine (lessB_p _ _ _ _ _).mono ?_; rintro e w_lessB_p ⟨rfl, hb_lessB_p⟩; have hr_lessB_p := hb_lessB_p.rules; obtain ⟨hc_lessB_p, hf_lessB_p⟩ := hr_lessB_p; have hs_lessB_p := hb_lessB_p.sz; (try simp only [World.size_alloc, World.size_setCell, World.size_drew] at hs_lessB_p); have hz0_lessB_p : w.heap.size < w_lessB_p.heap.size := (by omega); have hz1_lessB_p : w.heap.size + 1 < w_lessB_p.heap.size := (by omega)))
    go_ret
    exact ⟨by simp [abB, h1, h2], (by repeat (first | exact Ex.refl _ | assumption | apply Ex.alloc | apply Ex.drew | apply Ex.drewN | (refine Ex.setAt ?_ _ ?_; (first | exact Nat.le_refl _ | omega | (simp; omega))) | (apply Ex.after; assumption)))⟩

theorem prepB_p (c d b : Int) (u v x : ByteArray) (w : World) :
    Calls Try.prog 27 #[.agg #[.int .i64 c, .string u], .agg #[.int .i64 d, .string v], .agg #[.int .i64 b, .string x]] w fun e w' => e = .returned (.bool (prepB c u d v b x)) ∧ Ex w w' := by
  cases h1 : covB c u b x <;> cases h2 : covB d v b x <;> cases h3 : zeroB d v
  all_goals
    go_enter Try.func27, Try.ntmps27
    go_wp2_with (first | (go_at_call 22; refine (covB_p _ _ _ _ _).mono ?_; rintro e w_covB_p ⟨rfl, hb_covB_p⟩; have hr_covB_p := hb_covB_p.rules; obtain ⟨hc_covB_p, hf_covB_p⟩ := hr_covB_p; have hs_covB_p := hb_covB_p.sz; (try simp only [World.size_alloc, World.size_setCell, World.size_drew] at hs_covB_p); have hz0_covB_p : w.heap.size < w_covB_p.heap.size := (by omega); have hz1_covB_p : w.heap.size + 1 < w_covB_p.heap.size := (by omega); have hz2_covB_p : w.heap.size + 2 < w_covB_p.heap.size := (by omega)) | (go_at_call 30; refine (zeroB_p _ _ _).mono ?_; rintro e w_zeroB_p ⟨rfl, hb_zeroB_p⟩; have hr_zeroB_p := hb_zeroB_p.rules; obtain ⟨hc_zeroB_p, hf_zeroB_p⟩ := hr_zeroB_p; have hs_zeroB_p := hb_zeroB_p.sz; (try simp only [World.size_alloc, World.size_setCell, World.size_drew] at hs_zeroB_p); have hz0_zeroB_p : w.heap.size < w_zeroB_p.heap.size := (by omega); have hz1_zeroB_p : w.heap.size + 1 < w_zeroB_p.heap.size := (by omega); have hz2_zeroB_p : w.heap.size + 2 < w_zeroB_p.heap.size := (by omega)) | (go_at_call 21; refine (lessB_p _ _ _ _ _).mono ?_; rintro e w_lessB_p ⟨rfl, hb_lessB_p⟩; have hr_lessB_p := hb_lessB_p.rules; obtain ⟨hc_lessB_p, hf_lessB_p⟩ := hr_lessB_p; have hs_lessB_p := hb_lessB_p.sz; (try simp only [World.size_alloc, World.size_setCell, World.size_drew] at hs_lessB_p); have hz0_lessB_p : w.heap.size < w_lessB_p.heap.size := (by omega); have hz1_lessB_p : w.heap.size + 1 < w_lessB_p.heap.size := (by omega); have hz2_lessB_p : w.heap.size + 2 < w_lessB_p.heap.size := (by omega)))
    go_ret
    exact ⟨by simp [prepB, h1, h2, h3], (by repeat (first | exact Ex.refl _ | assumption | apply Ex.alloc | apply Ex.drew | apply Ex.drewN | (refine Ex.setAt ?_ _ ?_; (first | exact Nat.le_refl _ | omega | (simp; omega))) | (apply Ex.after; assumption)))⟩

theorem validB_p (c : Int) (u : ByteArray) (w : World) :
    Calls Try.prog 38 #[.agg #[.int .i64 c, .string u]] w fun e w' => e = .returned (.bool (validB c u)) ∧ Ex w w' := by
  by_cases h1 : 1 ≤ c <;> by_cases h2 : c ≤ 1000 <;> by_cases h3 : (c == 1000000) = true <;> by_cases h4 : 1 ≤ (u.size : Int) <;> by_cases h5 : (u.size : Int) ≤ 200
  all_goals first
    | (exfalso; simp at h3; omega)
    | (go_enter Try.func38, Try.ntmps38
       go_wp2
       go_ret
       exact ⟨by simp_all [validB], (by repeat (first | exact Ex.refl _ | assumption | apply Ex.alloc | apply Ex.drew | apply Ex.drewN | (refine Ex.setAt ?_ _ ?_; (first | exact Nat.le_refl _ | omega | (simp; omega))) | (apply Ex.after; assumption)))⟩)

theorem zeroB_r (c : Int) (u : ByteArray) (w : World) :
    Calls Try.prog 37 #[.agg #[.int .i64 c, .string u]] w fun e w' => e = .returned (.bool (zeroB c u)) ∧ Ex w w' := by
  by_cases h : c = 0
  · cases k : u.toList.isEmpty
    all_goals
      go_enter Try.func37, Try.ntmps37
      go_wp2
      all_goals first | contradiction | (go_ret; exact ⟨by simp_all [zeroB], (by repeat (first | exact Ex.refl _ | assumption | apply Ex.alloc | apply Ex.drew | apply Ex.drewN | (refine Ex.setAt ?_ _ ?_; (first | exact Nat.le_refl _ | omega | (simp; omega))) | (apply Ex.after; assumption)))⟩) | (exfalso; simp_all; done)
  · go_enter Try.func37, Try.ntmps37
    go_wp2
    go_ret
    exact ⟨by simp [zeroB, h], (by repeat (first | exact Ex.refl _ | assumption | apply Ex.alloc | apply Ex.drew | apply Ex.drewN | (refine Ex.setAt ?_ _ ?_; (first | exact Nat.le_refl _ | omega | (simp; omega))) | (apply Ex.after; assumption)))⟩

theorem compB_r (c d : Int) (u v : ByteArray) (w : World) :
    Calls Try.prog 26 #[.agg #[.int .i64 c, .string u], .agg #[.int .i64 d, .string v]] w fun e w' => e = .returned (.bool (compB u v)) ∧ Ex w w' := by
  go_enter Try.func26, Try.ntmps26
  go_wp2
  go_ret
  exact ⟨rfl, (by repeat (first | exact Ex.refl _ | assumption | apply Ex.alloc | apply Ex.drew | apply Ex.drewN | (refine Ex.setAt ?_ _ ?_; (first | exact Nat.le_refl _ | omega | (simp; omega))) | (apply Ex.after; assumption)))⟩

theorem covB_r (c d : Int) (u v : ByteArray) (w : World) :
    Calls Try.prog 42 #[.agg #[.int .i64 c, .string u], .agg #[.int .i64 d, .string v]] w fun e w' => e = .returned (.bool (covB c u d v)) ∧ Ex w w' := by
  cases h1 : zeroB c u <;> cases h2 : compB u v <;> by_cases h3 : d ≤ c
  all_goals
    go_enter Try.func42, Try.ntmps42
    go_wp2_with (first | (go_at_call 37; refine (zeroB_r _ _ _).mono ?_; rintro e w_zeroB_r ⟨rfl, hb_zeroB_r⟩; have hr_zeroB_r := hb_zeroB_r.rules; obtain ⟨hc_zeroB_r, hf_zeroB_r⟩ := hr_zeroB_r; have hs_zeroB_r := hb_zeroB_r.sz; (try simp only [World.size_alloc, World.size_setCell, World.size_drew] at hs_zeroB_r); have hz0_zeroB_r : w.heap.size < w_zeroB_r.heap.size := (by omega); have hz1_zeroB_r : w.heap.size + 1 < w_zeroB_r.heap.size := (by omega)) | (go_at_call 26; refine (compB_r _ _ _ _ _).mono ?_; rintro e w_compB_r ⟨rfl, hb_compB_r⟩; have hr_compB_r := hb_compB_r.rules; obtain ⟨hc_compB_r, hf_compB_r⟩ := hr_compB_r; have hs_compB_r := hb_compB_r.sz; (try simp only [World.size_alloc, World.size_setCell, World.size_drew] at hs_compB_r); have hz0_compB_r : w.heap.size < w_compB_r.heap.size := (by omega); have hz1_compB_r : w.heap.size + 1 < w_compB_r.heap.size := (by omega)))
    go_ret
    exact ⟨by simp [covB, h1, h2, h3], (by repeat (first | exact Ex.refl _ | assumption | apply Ex.alloc | apply Ex.drew | apply Ex.drewN | (refine Ex.setAt ?_ _ ?_; (first | exact Nat.le_refl _ | omega | (simp; omega))) | (apply Ex.after; assumption)))⟩

theorem abB_r (c d : Int) (u v : ByteArray) (w : World) :
    Calls Try.prog 18 #[.agg #[.int .i64 c, .string u], .agg #[.int .i64 d, .string v]] w fun e w' => e = .returned (.bool (abB c u d v)) ∧ Ex w w' := by
  cases h1 : zeroB c u <;> cases h2 : compB u v
  all_goals
    go_enter Try.func18, Try.ntmps18
    go_wp2_with (first | (go_at_call 37; refine (zeroB_r _ _ _).mono ?_; rintro e w_zeroB_r ⟨rfl, hb_zeroB_r⟩; have hr_zeroB_r := hb_zeroB_r.rules; obtain ⟨hc_zeroB_r, hf_zeroB_r⟩ := hr_zeroB_r; have hs_zeroB_r := hb_zeroB_r.sz; (try simp only [World.size_alloc, World.size_setCell, World.size_drew] at hs_zeroB_r); have hz0_zeroB_r : w.heap.size < w_zeroB_r.heap.size := (by omega); have hz1_zeroB_r : w.heap.size + 1 < w_zeroB_r.heap.size := (by omega)) | (go_at_call 26; refine (compB_r _ _ _ _ _).mono ?_; rintro e w_compB_r ⟨rfl, hb_compB_r⟩; have hr_compB_r := hb_compB_r.rules; obtain ⟨hc_compB_r, hf_compB_r⟩ := hr_compB_r; have hs_compB_r := hb_compB_r.sz; (try simp only [World.size_alloc, World.size_setCell, World.size_drew] at hs_compB_r); have hz0_compB_r : w.heap.size < w_compB_r.heap.size := (by omega); have hz1_compB_r : w.heap.size + 1 < w_compB_r.heap.size := (by omega)) | (go_at_call 25; refine (lessB_r _ _ _ _ _).mono ?_; rintro e w_lessB_r ⟨rfl, hb_lessB_r⟩; have hr_lessB_r := hb_lessB_r.rules; obtain ⟨hc_lessB_r, hf_lessB_r⟩ := hr_lessB_r; have hs_lessB_r := hb_lessB_r.sz; (try simp only [World.size_alloc, World.size_setCell, World.size_drew] at hs_lessB_r); have hz0_lessB_r : w.heap.size < w_lessB_r.heap.size := (by omega); have hz1_lessB_r : w.heap.size + 1 < w_lessB_r.heap.size := (by omega)))
    go_ret
    exact ⟨by simp [abB, h1, h2], (by repeat (first | exact Ex.refl _ | assumption | apply Ex.alloc | apply Ex.drew | apply Ex.drewN | (refine Ex.setAt ?_ _ ?_; (first | exact Nat.le_refl _ | omega | (simp; omega))) | (apply Ex.after; assumption)))⟩

theorem prepB_r (c d b : Int) (u v x : ByteArray) (w : World) :
    Calls Try.prog 43 #[.agg #[.int .i64 c, .string u], .agg #[.int .i64 d, .string v], .agg #[.int .i64 b, .string x]] w fun e w' => e = .returned (.bool (prepB c u d v b x)) ∧ Ex w w' := by
  cases h1 : covB c u b x <;> cases h2 : covB d v b x <;> cases h3 : zeroB d v
  all_goals
    go_enter Try.func43, Try.ntmps43
    go_wp2_with (first | (go_at_call 42; refine (covB_r _ _ _ _ _).mono ?_; rintro e w_covB_r ⟨rfl, hb_covB_r⟩; have hr_covB_r := hb_covB_r.rules; obtain ⟨hc_covB_r, hf_covB_r⟩ := hr_covB_r; have hs_covB_r := hb_covB_r.sz; (try simp only [World.size_alloc, World.size_setCell, World.size_drew] at hs_covB_r); have hz0_covB_r : w.heap.size < w_covB_r.heap.size := (by omega); have hz1_covB_r : w.heap.size + 1 < w_covB_r.heap.size := (by omega); have hz2_covB_r : w.heap.size + 2 < w_covB_r.heap.size := (by omega)) | (go_at_call 37; refine (zeroB_r _ _ _).mono ?_; rintro e w_zeroB_r ⟨rfl, hb_zeroB_r⟩; have hr_zeroB_r := hb_zeroB_r.rules; obtain ⟨hc_zeroB_r, hf_zeroB_r⟩ := hr_zeroB_r; have hs_zeroB_r := hb_zeroB_r.sz; (try simp only [World.size_alloc, World.size_setCell, World.size_drew] at hs_zeroB_r); have hz0_zeroB_r : w.heap.size < w_zeroB_r.heap.size := (by omega); have hz1_zeroB_r : w.heap.size + 1 < w_zeroB_r.heap.size := (by omega); have hz2_zeroB_r : w.heap.size + 2 < w_zeroB_r.heap.size := (by omega)) | (go_at_call 25; refine (lessB_r _ _ _ _ _).mono ?_; rintro e w_lessB_r ⟨rfl, hb_lessB_r⟩; have hr_lessB_r := hb_lessB_r.rules; obtain ⟨hc_lessB_r, hf_lessB_r⟩ := hr_lessB_r; have hs_lessB_r := hb_lessB_r.sz; (try simp only [World.size_alloc, World.size_setCell, World.size_drew] at hs_lessB_r); have hz0_lessB_r : w.heap.size < w_lessB_r.heap.size := (by omega); have hz1_lessB_r : w.heap.size + 1 < w_lessB_r.heap.size := (by omega); have hz2_lessB_r : w.heap.size + 2 < w_lessB_r.heap.size := (by omega)))
    go_ret
    exact ⟨by simp [prepB, h1, h2, h3], (by repeat (first | exact Ex.refl _ | assumption | apply Ex.alloc | apply Ex.drew | apply Ex.drewN | (refine Ex.setAt ?_ _ ?_; (first | exact Nat.le_refl _ | omega | (simp; omega))) | (apply Ex.after; assumption)))⟩

theorem validB_r (c : Int) (u : ByteArray) (w : World) :
    Calls Try.prog 39 #[.agg #[.int .i64 c, .string u]] w fun e w' => e = .returned (.bool (validB c u)) ∧ Ex w w' := by
  by_cases h1 : 1 ≤ c <;> by_cases h2 : c ≤ 1000 <;> by_cases h3 : (c == 1000000) = true <;> by_cases h4 : 1 ≤ (u.size : Int) <;> by_cases h5 : (u.size : Int) ≤ 200
  all_goals first
    | (exfalso; simp at h3; omega)
    | (go_enter Try.func39, Try.ntmps39
       go_wp2
       go_ret
       exact ⟨by simp_all [validB], (by repeat (first | exact Ex.refl _ | assumption | apply Ex.alloc | apply Ex.drew | apply Ex.drewN | (refine Ex.setAt ?_ _ ?_; (first | exact Nat.le_refl _ | omega | (simp; omega))) | (apply Ex.after; assumption)))⟩)

/-- '==' between two ballots. -/
theorem balEq (c d : Int) (u v : ByteArray) (w : World) : (binOp .eql 26 (.agg #[.int .i64 c, .string u]) (.agg #[.int .i64 d, .string v])).run Try.prog w = .ok (.bool (c == d && u.toList == v.toList)) w := by
  by_cases h : c = d
  · subst h
    simp [go_sem]
    by_cases k : u.toList = v.toList <;> simp [k]
  · simp [go_sem, h]
end Go.Proofs.Ytfhipecfamecaaa
