/- BallotsOrder: the walk of the statement, and the plain laws on the order of ballots. -/
import Derived.Test.YtfhipecfamecaaaS23
import Derived.Deep.DeepCutAuto
import Derived.Deep.CutBlock
namespace Go.Proofs.Ytfhipecfamecaaa
set_option linter.unusedSimpArgs false
set_option linter.unusedVariables false
set_option linter.unnecessarySimpa false
set_option linter.unusedSectionVars false
open Go.RowKit Go.Proofs.Grow Go.Sort

theorem lessV_irrefl (u : ByteArray) : lessV u u = false := by simp [lessV, less_irrefl]
theorem lessV_trans {u v x : ByteArray} (h : lessV u v = true) (k : lessV v x = true) : lessV u x = true := by
  unfold lessV at *
  by_cases a : u.size = v.size <;> by_cases b : v.size = x.size <;> by_cases c : u.size = x.size
  all_goals simp only [a, b, c, if_true, if_false] at h k ⊢
  all_goals first
    | omega
    | (simp at h k ⊢; omega)
    | (exact less_trans _ _ _ h k)
    | (simp_all; done)
    | (simp_all; omega)
theorem lessV_total (u v : ByteArray) (h : lessV u v = false) (k : lessV v u = false) : u.toList = v.toList := by
  unfold lessV at *
  by_cases a : u.size = v.size
  · rw [if_pos a] at h; rw [if_pos a.symm] at k; exact less_total _ _ h k
  · rw [if_neg a] at h; rw [if_neg (fun q => a q.symm)] at k; simp at h k; omega
theorem lessB_asymm {c d : Int} {u v : ByteArray} (h : lessB c u d v = true) : lessB d v c u = false := by
  rw [Bool.eq_false_iff]; intro k
  unfold lessB at *
  by_cases e : c = d
  · subst e
    simp at h k
    have := lessV_trans h k
    rw [lessV_irrefl] at this; cases this
  · simp [e] at h
    rw [if_neg (fun q => e q.symm)] at k
    simp at k; omega
theorem lessB_trans {c d f : Int} {u v x : ByteArray} (h : lessB c u d v = true) (k : lessB d v f x = true) : lessB c u f x = true := by
  unfold lessB at *
  by_cases a : c = d <;> by_cases b : d = f <;> by_cases e : c = f
  all_goals simp only [a, b, e, if_true, if_false] at h k ⊢
  all_goals first
    | omega
    | (simp at h k ⊢; omega)
    | (exact lessV_trans h k)
    | (simp_all; done)
    | (simp_all; omega)
theorem size_eq {u v : ByteArray} (q : u.toList = v.toList) : u.size = v.size := by
  rw [ByteArray.toList_eq, ByteArray.toList_eq] at q
  have := congrArg List.length q
  simpa using this
theorem idx0 (x y z : Bool) : ∀ w, (Instr.index 33 (.agg #[.bool x, .bool y, .bool z]) (.int .i64 0)).run Try.prog w = .ok (.bool x) w := fun w => by kernel_rfl
theorem idx1 (x y z : Bool) : ∀ w, (Instr.index 33 (.agg #[.bool x, .bool y, .bool z]) (.int .i64 1)).run Try.prog w = .ok (.bool y) w := fun w => by kernel_rfl
theorem idx2 (x y z : Bool) : ∀ w, (Instr.index 33 (.agg #[.bool x, .bool y, .bool z]) (.int .i64 2)).run Try.prog w = .ok (.bool z) w := fun w => by kernel_rfl
theorem tri (c d : Int) (u v : ByteArray) :
    (lessB c u d v = true ∧ lessB d v c u = false ∧ (c == d && u.toList == v.toList) = false) ∨
    (lessB c u d v = false ∧ lessB d v c u = true ∧ (c == d && u.toList == v.toList) = false) ∨
    (lessB c u d v = false ∧ lessB d v c u = false ∧ (c == d && u.toList == v.toList) = true) := by
  cases h : lessB c u d v
  · cases k : lessB d v c u
    · right; right
      refine ⟨rfl, rfl, ?_⟩
      unfold lessB at h k
      by_cases e : c = d
      · subst e
        simp at h k
        simp [lessV_total u v h k]
      · simp [e] at h
        rw [if_neg (fun q => e q.symm)] at k
        simp at k; omega
    · right; left
      refine ⟨rfl, rfl, ?_⟩
      rw [Bool.eq_false_iff]; intro q
      simp at q
      obtain ⟨rfl, q⟩ := q
      have := lessB_asymm k
      unfold lessB lessV at k
      have hs : v.size = u.size := (size_eq q).symm
      simp [hs, q, less_irrefl] at k
  · left
    refine ⟨rfl, lessB_asymm h, ?_⟩
    rw [Bool.eq_false_iff]; intro q
    simp at q
    obtain ⟨rfl, q⟩ := q
    unfold lessB lessV at h
    have hs : u.size = v.size := size_eq q
    simp [hs, q, less_irrefl] at h

theorem zero_no {c : Int} {v : ByteArray} (h : 1 ≤ c) : zeroB c v = false := by
  have : (c == 0) = false := by simp; omega
  simp [zeroB, this]
theorem comp_iff {u v : ByteArray} : compB u v = true ↔ u.toList = v.toList := by simp [compB]
theorem cov_iff {c d : Int} {u v : ByteArray} (h : 1 ≤ c) : covB c u d v = true ↔ u.toList = v.toList ∧ d ≤ c := by simp [covB, zero_no h, compB]
theorem ab_iff2 {c d : Int} {u v : ByteArray} (h : 1 ≤ c) : abB c u d v = true ↔ u.toList ≠ v.toList ∧ lessB d v c u = true := by
  simp [abB, zero_no h, compB]
theorem less_le {c d : Int} {u v : ByteArray} (h : lessB c u d v = true) : c ≤ d := by
  unfold lessB at h
  by_cases e : c = d
  · omega
  · simp [e] at h; omega
theorem less_same {c d : Int} {u v : ByteArray} (h : u.toList = v.toList) : lessB c u d v = decide (c < d) := by
  unfold lessB lessV
  by_cases e : c = d
  · simp [e, size_eq h, h, less_irrefl]
  · simp [e]
theorem less_val {c : Int} {u v x : ByteArray} {d : Int} (h : u.toList = v.toList) : lessB c u d x = lessB c v d x := by
  unfold lessB lessV; rw [size_eq h, h]
theorem less_of_lt {c d : Int} {u v : ByteArray} (h : c < d) : lessB c u d v = true := by
  unfold lessB; rw [if_neg (by omega)]; simpa using h
theorem cov_ab {c d : Int} {u v : ByteArray} (h : 1 ≤ c) (k : covB c u d v = true) : abB c u d v = false := by
  rw [Bool.eq_false_iff]; intro q
  exact ((ab_iff2 h).1 q).1 ((cov_iff h).1 k).1
theorem ab_cov {c d f : Int} {u v x : ByteArray} (h : 1 ≤ c) (hd : 1 ≤ d) (k : abB c u d v = true) (l : covB d v f x = true) : abB c u f x = true := by
  rw [ab_iff2 h] at *
  rw [cov_iff hd] at l
  refine ⟨fun q => k.1 (q.trans l.1.symm), ?_⟩
  rw [← less_val l.1]
  by_cases e : f = d
  · rw [e]; exact k.2
  · have := less_le k.2
    exact less_of_lt (by omega)
theorem cov_trans {c d f : Int} {u v x : ByteArray} (h : 1 ≤ c) (hd : 1 ≤ d) (k : covB c u d v = true) (l : covB d v f x = true) : covB c u f x = true := by
  rw [cov_iff h] at *
  rw [cov_iff hd] at l
  exact ⟨k.1.trans l.1, by omega⟩
theorem cov_self {c : Int} {u : ByteArray} (h : 1 ≤ c) : covB c u c u = true := (cov_iff h).2 ⟨rfl, Int.le_refl _⟩

set_option maxRecDepth 100000 in
set_option maxHeartbeats 4000000 in
theorem law_BallotsOrder (a0 : Option Addr) (len0 cap0 : Nat) (z0 : List Int) (w : World) (w0 : IsRow .i64 w a0 len0 cap0 z0) :
    Calls Try.prog 4 #[.slice a0 len0 cap0] w fun e w' => e = .returned (.bool true) ∧ Ex w w' := by
  go_enter Try.func4, Try.ntmps4
  go_wp2_with fail
  refine (make_Src _ _ _ _ _ w0).mono ?_
  rintro e w1 ⟨b, rfl, hwb, hx1, hs1⟩
  have hbl := hs1.lt
  go_wp2_with fail
  refine (draw_Ballot b _ (by repeat (first | assumption | apply Src.alloc | apply Src.drew | (apply Src.later; assumption)))).mono ?_
  rintro e w2 ⟨_, rfl, ⟨pc, pv, rfl, p1, p2, p3, p4⟩, hx2, hs2⟩
  have hz2 := hx2.size
  go_wp2_with fail
  refine (draw_Ballot b _ (by repeat (first | assumption | apply Src.alloc | apply Src.drew | (apply Src.later; assumption)))).mono ?_
  rintro e w3 ⟨_, rfl, ⟨qc, qv, rfl, q1, q2, q3, q4⟩, hx3, hs3⟩
  have hz3 := hx3.size
  go_wp2_with fail
  refine (draw_Ballot b _ (by repeat (first | assumption | apply Src.alloc | apply Src.drew | (apply Src.later; assumption)))).mono ?_
  rintro e w4 ⟨_, rfl, ⟨rc, rv, rfl, r1, r2, r3, r4⟩, hx4, hs4⟩
  have hz4 := hx4.size
  have hx : Ex w w4 := hx1.exb hwb ((hx2.trans hx3).trans hx4)
  clear hx1 hx2 hx3 hx4 hs1 hs2 hs3 hs4
  go_wp2_with fail
  have heq := fun w => balEq pc qc pv qv w
  refine wp_region_quiet_below (by kernel_rfl) (by kernel_rfl) ?_
  repeat (quiet_step (exact quiet_ex (lessB_p _ _ _ _ _)))
  refine wpQuiet_nil ?_
  intro wq hq
  have hb := In.ex hq; clear hq
  go_upto_block 0 with fail
  go_cut [7, 20, 23, 26, 27] (fun s _ _ _ _ wx => s = .int .i64 1 ∧ wx = wq)
  case first =>
    rcases tri pc qc pv qv with ⟨e1, e2, e3⟩ | ⟨e1, e2, e3⟩ | ⟨e1, e2, e3⟩
    · rw [e1, e2, e3]
      clear e1 e2 e3
      have i0 := idx0 true false false
      have i1 := idx1 true false false
      have i2 := idx2 true false false
      go_wp2
      go_rounds 4
      go_meet
      case rel => exact ⟨rfl, rfl⟩
    · rw [e1, e2, e3]
      clear e1 e2 e3
      have i0 := idx0 false true false
      have i1 := idx1 false true false
      have i2 := idx2 false true false
      go_wp2
      go_rounds 4
      go_meet
      case rel => exact ⟨rfl, rfl⟩
    · rw [e1, e2, e3]
      clear e1 e2 e3
      have i0 := idx0 false false true
      have i1 := idx1 false false true
      have i2 := idx2 false false true
      go_wp2
      go_rounds 4
      go_meet
      case rel => exact ⟨rfl, rfl⟩
  case rest =>
    obtain ⟨rfl, rfl⟩ := hcut
    obtain ⟨wa, rfl⟩ : ∃ x : World, x = wc := ⟨_, rfl⟩
    have hr := hb.rules
    obtain ⟨hc, hf⟩ := hr
    have hsz := hb.sz
    simp only [World.size_alloc] at hsz
    have hz4 : w4.heap.size < wa.heap.size := by omega
    have hz5 : w4.heap.size + 1 < wa.heap.size := by omega
    have hz6 : w4.heap.size + 1 + 1 < wa.heap.size := by omega
    go_upto_region 10 with fail
    go_cut [62] (fun s wx => s = .bool false ∧ Ex wa wx)
    case first =>
      cases h1 : lessB pc pv qc qv
      · cases h2 : covB pc pv qc qv
        · have tok := h2
          go_wp2_with (first | (go_at_call 21; refine (lessB_p _ _ _ _ _).mono ?_; rintro e w_lessB_p ⟨rfl, hb_lessB_p⟩; have hr_lessB_p := hb_lessB_p.rules; obtain ⟨hc_lessB_p, hf_lessB_p⟩ := hr_lessB_p; have hs_lessB_p := hb_lessB_p.sz; (try simp only [World.size_alloc, World.size_setCell, World.size_drew] at hs_lessB_p); have hz0_lessB_p : w4.heap.size < w_lessB_p.heap.size := (by omega); have hz1_lessB_p : w4.heap.size + 1 < w_lessB_p.heap.size := (by omega); have hz2_lessB_p : w4.heap.size + 1 + 1 < w_lessB_p.heap.size := (by omega)) | (go_at_call 22; refine (covB_p _ _ _ _ _).mono ?_; rintro e w_covB_p ⟨rfl, hb_covB_p⟩; have hr_covB_p := hb_covB_p.rules; obtain ⟨hc_covB_p, hf_covB_p⟩ := hr_covB_p; have hs_covB_p := hb_covB_p.sz; (try simp only [World.size_alloc, World.size_setCell, World.size_drew] at hs_covB_p); have hz0_covB_p : w4.heap.size < w_covB_p.heap.size := (by omega); have hz1_covB_p : w4.heap.size + 1 < w_covB_p.heap.size := (by omega); have hz2_covB_p : w4.heap.size + 1 + 1 < w_covB_p.heap.size := (by omega)) | (go_at_call 23; refine (abB_p _ _ _ _ _).mono ?_; rintro e w_abB_p ⟨rfl, hb_abB_p⟩; have hr_abB_p := hb_abB_p.rules; obtain ⟨hc_abB_p, hf_abB_p⟩ := hr_abB_p; have hs_abB_p := hb_abB_p.sz; (try simp only [World.size_alloc, World.size_setCell, World.size_drew] at hs_abB_p); have hz0_abB_p : w4.heap.size < w_abB_p.heap.size := (by omega); have hz1_abB_p : w4.heap.size + 1 < w_abB_p.heap.size := (by omega); have hz2_abB_p : w4.heap.size + 1 + 1 < w_abB_p.heap.size := (by omega)))
          go_meet
          case rel => exact ⟨rfl, (by repeat (first | exact Ex.refl _ | assumption | apply Ex.alloc | apply Ex.drew | (refine Ex.setAt ?_ _ ?_; (first | exact Nat.le_refl _ | omega | (simp; omega))) | (apply Ex.after; assumption)))⟩
        · have h3 := cov_ab p1 h2
          go_wp2_with (first | (go_at_call 21; refine (lessB_p _ _ _ _ _).mono ?_; rintro e w_lessB_p ⟨rfl, hb_lessB_p⟩; have hr_lessB_p := hb_lessB_p.rules; obtain ⟨hc_lessB_p, hf_lessB_p⟩ := hr_lessB_p; have hs_lessB_p := hb_lessB_p.sz; (try simp only [World.size_alloc, World.size_setCell, World.size_drew] at hs_lessB_p); have hz0_lessB_p : w4.heap.size < w_lessB_p.heap.size := (by omega); have hz1_lessB_p : w4.heap.size + 1 < w_lessB_p.heap.size := (by omega); have hz2_lessB_p : w4.heap.size + 1 + 1 < w_lessB_p.heap.size := (by omega)) | (go_at_call 22; refine (covB_p _ _ _ _ _).mono ?_; rintro e w_covB_p ⟨rfl, hb_covB_p⟩; have hr_covB_p := hb_covB_p.rules; obtain ⟨hc_covB_p, hf_covB_p⟩ := hr_covB_p; have hs_covB_p := hb_covB_p.sz; (try simp only [World.size_alloc, World.size_setCell, World.size_drew] at hs_covB_p); have hz0_covB_p : w4.heap.size < w_covB_p.heap.size := (by omega); have hz1_covB_p : w4.heap.size + 1 < w_covB_p.heap.size := (by omega); have hz2_covB_p : w4.heap.size + 1 + 1 < w_covB_p.heap.size := (by omega)) | (go_at_call 23; refine (abB_p _ _ _ _ _).mono ?_; rintro e w_abB_p ⟨rfl, hb_abB_p⟩; have hr_abB_p := hb_abB_p.rules; obtain ⟨hc_abB_p, hf_abB_p⟩ := hr_abB_p; have hs_abB_p := hb_abB_p.sz; (try simp only [World.size_alloc, World.size_setCell, World.size_drew] at hs_abB_p); have hz0_abB_p : w4.heap.size < w_abB_p.heap.size := (by omega); have hz1_abB_p : w4.heap.size + 1 < w_abB_p.heap.size := (by omega); have hz2_abB_p : w4.heap.size + 1 + 1 < w_abB_p.heap.size := (by omega)))
          go_meet
          case rel => exact ⟨rfl, (by repeat (first | exact Ex.refl _ | assumption | apply Ex.alloc | apply Ex.drew | (refine Ex.setAt ?_ _ ?_; (first | exact Nat.le_refl _ | omega | (simp; omega))) | (apply Ex.after; assumption)))⟩
      · cases h4 : lessB qc qv rc rv
        · cases h2 : covB pc pv qc qv
          · have tok := h2
            go_wp2_with (first | (go_at_call 21; refine (lessB_p _ _ _ _ _).mono ?_; rintro e w_lessB_p ⟨rfl, hb_lessB_p⟩; have hr_lessB_p := hb_lessB_p.rules; obtain ⟨hc_lessB_p, hf_lessB_p⟩ := hr_lessB_p; have hs_lessB_p := hb_lessB_p.sz; (try simp only [World.size_alloc, World.size_setCell, World.size_drew] at hs_lessB_p); have hz0_lessB_p : w4.heap.size < w_lessB_p.heap.size := (by omega); have hz1_lessB_p : w4.heap.size + 1 < w_lessB_p.heap.size := (by omega); have hz2_lessB_p : w4.heap.size + 1 + 1 < w_lessB_p.heap.size := (by omega)) | (go_at_call 22; refine (covB_p _ _ _ _ _).mono ?_; rintro e w_covB_p ⟨rfl, hb_covB_p⟩; have hr_covB_p := hb_covB_p.rules; obtain ⟨hc_covB_p, hf_covB_p⟩ := hr_covB_p; have hs_covB_p := hb_covB_p.sz; (try simp only [World.size_alloc, World.size_setCell, World.size_drew] at hs_covB_p); have hz0_covB_p : w4.heap.size < w_covB_p.heap.size := (by omega); have hz1_covB_p : w4.heap.size + 1 < w_covB_p.heap.size := (by omega); have hz2_covB_p : w4.heap.size + 1 + 1 < w_covB_p.heap.size := (by omega)) | (go_at_call 23; refine (abB_p _ _ _ _ _).mono ?_; rintro e w_abB_p ⟨rfl, hb_abB_p⟩; have hr_abB_p := hb_abB_p.rules; obtain ⟨hc_abB_p, hf_abB_p⟩ := hr_abB_p; have hs_abB_p := hb_abB_p.sz; (try simp only [World.size_alloc, World.size_setCell, World.size_drew] at hs_abB_p); have hz0_abB_p : w4.heap.size < w_abB_p.heap.size := (by omega); have hz1_abB_p : w4.heap.size + 1 < w_abB_p.heap.size := (by omega); have hz2_abB_p : w4.heap.size + 1 + 1 < w_abB_p.heap.size := (by omega)))
            go_meet
            case rel => exact ⟨rfl, (by repeat (first | exact Ex.refl _ | assumption | apply Ex.alloc | apply Ex.drew | (refine Ex.setAt ?_ _ ?_; (first | exact Nat.le_refl _ | omega | (simp; omega))) | (apply Ex.after; assumption)))⟩
          · have h3 := cov_ab p1 h2
            go_wp2_with (first | (go_at_call 21; refine (lessB_p _ _ _ _ _).mono ?_; rintro e w_lessB_p ⟨rfl, hb_lessB_p⟩; have hr_lessB_p := hb_lessB_p.rules; obtain ⟨hc_lessB_p, hf_lessB_p⟩ := hr_lessB_p; have hs_lessB_p := hb_lessB_p.sz; (try simp only [World.size_alloc, World.size_setCell, World.size_drew] at hs_lessB_p); have hz0_lessB_p : w4.heap.size < w_lessB_p.heap.size := (by omega); have hz1_lessB_p : w4.heap.size + 1 < w_lessB_p.heap.size := (by omega); have hz2_lessB_p : w4.heap.size + 1 + 1 < w_lessB_p.heap.size := (by omega)) | (go_at_call 22; refine (covB_p _ _ _ _ _).mono ?_; rintro e w_covB_p ⟨rfl, hb_covB_p⟩; have hr_covB_p := hb_covB_p.rules; obtain ⟨hc_covB_p, hf_covB_p⟩ := hr_covB_p; have hs_covB_p := hb_covB_p.sz; (try simp only [World.size_alloc, World.size_setCell, World.size_drew] at hs_covB_p); have hz0_covB_p : w4.heap.size < w_covB_p.heap.size := (by omega); have hz1_covB_p : w4.heap.size + 1 < w_covB_p.heap.size := (by omega); have hz2_covB_p : w4.heap.size + 1 + 1 < w_covB_p.heap.size := (by omega)) | (go_at_call 23; refine (abB_p _ _ _ _ _).mono ?_; rintro e w_abB_p ⟨rfl, hb_abB_p⟩; have hr_abB_p := hb_abB_p.rules; obtain ⟨hc_abB_p, hf_abB_p⟩ := hr_abB_p; have hs_abB_p := hb_abB_p.sz; (try simp only [World.size_alloc, World.size_setCell, World.size_drew] at hs_abB_p); have hz0_abB_p : w4.heap.size < w_abB_p.heap.size := (by omega); have hz1_abB_p : w4.heap.size + 1 < w_abB_p.heap.size := (by omega); have hz2_abB_p : w4.heap.size + 1 + 1 < w_abB_p.heap.size := (by omega)))
            go_meet
            case rel => exact ⟨rfl, (by repeat (first | exact Ex.refl _ | assumption | apply Ex.alloc | apply Ex.drew | (refine Ex.setAt ?_ _ ?_; (first | exact Nat.le_refl _ | omega | (simp; omega))) | (apply Ex.after; assumption)))⟩
        · have h5 := lessB_trans h1 h4
          cases h2 : covB pc pv qc qv
          · have tok := h2
            go_wp2_with (first | (go_at_call 21; refine (lessB_p _ _ _ _ _).mono ?_; rintro e w_lessB_p ⟨rfl, hb_lessB_p⟩; have hr_lessB_p := hb_lessB_p.rules; obtain ⟨hc_lessB_p, hf_lessB_p⟩ := hr_lessB_p; have hs_lessB_p := hb_lessB_p.sz; (try simp only [World.size_alloc, World.size_setCell, World.size_drew] at hs_lessB_p); have hz0_lessB_p : w4.heap.size < w_lessB_p.heap.size := (by omega); have hz1_lessB_p : w4.heap.size + 1 < w_lessB_p.heap.size := (by omega); have hz2_lessB_p : w4.heap.size + 1 + 1 < w_lessB_p.heap.size := (by omega)) | (go_at_call 22; refine (covB_p _ _ _ _ _).mono ?_; rintro e w_covB_p ⟨rfl, hb_covB_p⟩; have hr_covB_p := hb_covB_p.rules; obtain ⟨hc_covB_p, hf_covB_p⟩ := hr_covB_p; have hs_covB_p := hb_covB_p.sz; (try simp only [World.size_alloc, World.size_setCell, World.size_drew] at hs_covB_p); have hz0_covB_p : w4.heap.size < w_covB_p.heap.size := (by omega); have hz1_covB_p : w4.heap.size + 1 < w_covB_p.heap.size := (by omega); have hz2_covB_p : w4.heap.size + 1 + 1 < w_covB_p.heap.size := (by omega)) | (go_at_call 23; refine (abB_p _ _ _ _ _).mono ?_; rintro e w_abB_p ⟨rfl, hb_abB_p⟩; have hr_abB_p := hb_abB_p.rules; obtain ⟨hc_abB_p, hf_abB_p⟩ := hr_abB_p; have hs_abB_p := hb_abB_p.sz; (try simp only [World.size_alloc, World.size_setCell, World.size_drew] at hs_abB_p); have hz0_abB_p : w4.heap.size < w_abB_p.heap.size := (by omega); have hz1_abB_p : w4.heap.size + 1 < w_abB_p.heap.size := (by omega); have hz2_abB_p : w4.heap.size + 1 + 1 < w_abB_p.heap.size := (by omega)))
            go_meet
            case rel => exact ⟨rfl, (by repeat (first | exact Ex.refl _ | assumption | apply Ex.alloc | apply Ex.drew | (refine Ex.setAt ?_ _ ?_; (first | exact Nat.le_refl _ | omega | (simp; omega))) | (apply Ex.after; assumption)))⟩
          · have h3 := cov_ab p1 h2
            go_wp2_with (first | (go_at_call 21; refine (lessB_p _ _ _ _ _).mono ?_; rintro e w_lessB_p ⟨rfl, hb_lessB_p⟩; have hr_lessB_p := hb_lessB_p.rules; obtain ⟨hc_lessB_p, hf_lessB_p⟩ := hr_lessB_p; have hs_lessB_p := hb_lessB_p.sz; (try simp only [World.size_alloc, World.size_setCell, World.size_drew] at hs_lessB_p); have hz0_lessB_p : w4.heap.size < w_lessB_p.heap.size := (by omega); have hz1_lessB_p : w4.heap.size + 1 < w_lessB_p.heap.size := (by omega); have hz2_lessB_p : w4.heap.size + 1 + 1 < w_lessB_p.heap.size := (by omega)) | (go_at_call 22; refine (covB_p _ _ _ _ _).mono ?_; rintro e w_covB_p ⟨rfl, hb_covB_p⟩; have hr_covB_p := hb_covB_p.rules; obtain ⟨hc_covB_p, hf_covB_p⟩ := hr_covB_p; have hs_covB_p := hb_covB_p.sz; (try simp only [World.size_alloc, World.size_setCell, World.size_drew] at hs_covB_p); have hz0_covB_p : w4.heap.size < w_covB_p.heap.size := (by omega); have hz1_covB_p : w4.heap.size + 1 < w_covB_p.heap.size := (by omega); have hz2_covB_p : w4.heap.size + 1 + 1 < w_covB_p.heap.size := (by omega)) | (go_at_call 23; refine (abB_p _ _ _ _ _).mono ?_; rintro e w_abB_p ⟨rfl, hb_abB_p⟩; have hr_abB_p := hb_abB_p.rules; obtain ⟨hc_abB_p, hf_abB_p⟩ := hr_abB_p; have hs_abB_p := hb_abB_p.sz; (try simp only [World.size_alloc, World.size_setCell, World.size_drew] at hs_abB_p); have hz0_abB_p : w4.heap.size < w_abB_p.heap.size := (by omega); have hz1_abB_p : w4.heap.size + 1 < w_abB_p.heap.size := (by omega); have hz2_abB_p : w4.heap.size + 1 + 1 < w_abB_p.heap.size := (by omega)))
            go_meet
            case rel => exact ⟨rfl, (by repeat (first | exact Ex.refl _ | assumption | apply Ex.alloc | apply Ex.drew | (refine Ex.setAt ?_ _ ?_; (first | exact Nat.le_refl _ | omega | (simp; omega))) | (apply Ex.after; assumption)))⟩
    case rest =>
      obtain ⟨rfl, hq_wd⟩ := hcut
      obtain ⟨wd, rfl⟩ : ∃ x : World, x = wc := ⟨_, rfl⟩
      have hr_wd := hq_wd.rules
      obtain ⟨hc_wd, hf_wd⟩ := hr_wd
      have hy4_wd : w4.heap.size < wd.heap.size := hq_wd.lt (by assumption)
      have hy5_wd : w4.heap.size + 1 < wd.heap.size := hq_wd.lt (by assumption)
      have hy6_wd : w4.heap.size + 1 + 1 < wd.heap.size := hq_wd.lt (by assumption)
      go_upto_region 12 with fail
      go_cut [92] (fun s wx => s = .bool false ∧ Ex wd wx)
      case first =>
        cases g0 : abB pc pv qc qv
        · have tok := g0
          cases g1 : covB pc pv qc qv
          · have tok := g1
            go_wp2_with (first | (go_at_call 21; refine (lessB_p _ _ _ _ _).mono ?_; rintro e w_lessB_p ⟨rfl, hb_lessB_p⟩; have hr_lessB_p := hb_lessB_p.rules; obtain ⟨hc_lessB_p, hf_lessB_p⟩ := hr_lessB_p; have hs_lessB_p := hb_lessB_p.sz; (try simp only [World.size_alloc, World.size_setCell, World.size_drew] at hs_lessB_p); have hz0_lessB_p : w4.heap.size < w_lessB_p.heap.size := (by omega); have hz1_lessB_p : w4.heap.size + 1 < w_lessB_p.heap.size := (by omega); have hz2_lessB_p : w4.heap.size + 1 + 1 < w_lessB_p.heap.size := (by omega)) | (go_at_call 22; refine (covB_p _ _ _ _ _).mono ?_; rintro e w_covB_p ⟨rfl, hb_covB_p⟩; have hr_covB_p := hb_covB_p.rules; obtain ⟨hc_covB_p, hf_covB_p⟩ := hr_covB_p; have hs_covB_p := hb_covB_p.sz; (try simp only [World.size_alloc, World.size_setCell, World.size_drew] at hs_covB_p); have hz0_covB_p : w4.heap.size < w_covB_p.heap.size := (by omega); have hz1_covB_p : w4.heap.size + 1 < w_covB_p.heap.size := (by omega); have hz2_covB_p : w4.heap.size + 1 + 1 < w_covB_p.heap.size := (by omega)) | (go_at_call 23; refine (abB_p _ _ _ _ _).mono ?_; rintro e w_abB_p ⟨rfl, hb_abB_p⟩; have hr_abB_p := hb_abB_p.rules; obtain ⟨hc_abB_p, hf_abB_p⟩ := hr_abB_p; have hs_abB_p := hb_abB_p.sz; (try simp only [World.size_alloc, World.size_setCell, World.size_drew] at hs_abB_p); have hz0_abB_p : w4.heap.size < w_abB_p.heap.size := (by omega); have hz1_abB_p : w4.heap.size + 1 < w_abB_p.heap.size := (by omega); have hz2_abB_p : w4.heap.size + 1 + 1 < w_abB_p.heap.size := (by omega)))
            go_meet
            case rel => exact ⟨rfl, (by repeat (first | exact Ex.refl _ | assumption | apply Ex.alloc | apply Ex.drew | (refine Ex.setAt ?_ _ ?_; (first | exact Nat.le_refl _ | omega | (simp; omega))) | (apply Ex.after; assumption)))⟩
          · cases g2 : covB qc qv rc rv
            · have tok := g2
              go_wp2_with (first | (go_at_call 21; refine (lessB_p _ _ _ _ _).mono ?_; rintro e w_lessB_p ⟨rfl, hb_lessB_p⟩; have hr_lessB_p := hb_lessB_p.rules; obtain ⟨hc_lessB_p, hf_lessB_p⟩ := hr_lessB_p; have hs_lessB_p := hb_lessB_p.sz; (try simp only [World.size_alloc, World.size_setCell, World.size_drew] at hs_lessB_p); have hz0_lessB_p : w4.heap.size < w_lessB_p.heap.size := (by omega); have hz1_lessB_p : w4.heap.size + 1 < w_lessB_p.heap.size := (by omega); have hz2_lessB_p : w4.heap.size + 1 + 1 < w_lessB_p.heap.size := (by omega)) | (go_at_call 22; refine (covB_p _ _ _ _ _).mono ?_; rintro e w_covB_p ⟨rfl, hb_covB_p⟩; have hr_covB_p := hb_covB_p.rules; obtain ⟨hc_covB_p, hf_covB_p⟩ := hr_covB_p; have hs_covB_p := hb_covB_p.sz; (try simp only [World.size_alloc, World.size_setCell, World.size_drew] at hs_covB_p); have hz0_covB_p : w4.heap.size < w_covB_p.heap.size := (by omega); have hz1_covB_p : w4.heap.size + 1 < w_covB_p.heap.size := (by omega); have hz2_covB_p : w4.heap.size + 1 + 1 < w_covB_p.heap.size := (by omega)) | (go_at_call 23; refine (abB_p _ _ _ _ _).mono ?_; rintro e w_abB_p ⟨rfl, hb_abB_p⟩; have hr_abB_p := hb_abB_p.rules; obtain ⟨hc_abB_p, hf_abB_p⟩ := hr_abB_p; have hs_abB_p := hb_abB_p.sz; (try simp only [World.size_alloc, World.size_setCell, World.size_drew] at hs_abB_p); have hz0_abB_p : w4.heap.size < w_abB_p.heap.size := (by omega); have hz1_abB_p : w4.heap.size + 1 < w_abB_p.heap.size := (by omega); have hz2_abB_p : w4.heap.size + 1 + 1 < w_abB_p.heap.size := (by omega)))
              go_meet
              case rel => exact ⟨rfl, (by repeat (first | exact Ex.refl _ | assumption | apply Ex.alloc | apply Ex.drew | (refine Ex.setAt ?_ _ ?_; (first | exact Nat.le_refl _ | omega | (simp; omega))) | (apply Ex.after; assumption)))⟩
            · have g3 := cov_trans p1 q1 g1 g2
              go_wp2_with (first | (go_at_call 21; refine (lessB_p _ _ _ _ _).mono ?_; rintro e w_lessB_p ⟨rfl, hb_lessB_p⟩; have hr_lessB_p := hb_lessB_p.rules; obtain ⟨hc_lessB_p, hf_lessB_p⟩ := hr_lessB_p; have hs_lessB_p := hb_lessB_p.sz; (try simp only [World.size_alloc, World.size_setCell, World.size_drew] at hs_lessB_p); have hz0_lessB_p : w4.heap.size < w_lessB_p.heap.size := (by omega); have hz1_lessB_p : w4.heap.size + 1 < w_lessB_p.heap.size := (by omega); have hz2_lessB_p : w4.heap.size + 1 + 1 < w_lessB_p.heap.size := (by omega)) | (go_at_call 22; refine (covB_p _ _ _ _ _).mono ?_; rintro e w_covB_p ⟨rfl, hb_covB_p⟩; have hr_covB_p := hb_covB_p.rules; obtain ⟨hc_covB_p, hf_covB_p⟩ := hr_covB_p; have hs_covB_p := hb_covB_p.sz; (try simp only [World.size_alloc, World.size_setCell, World.size_drew] at hs_covB_p); have hz0_covB_p : w4.heap.size < w_covB_p.heap.size := (by omega); have hz1_covB_p : w4.heap.size + 1 < w_covB_p.heap.size := (by omega); have hz2_covB_p : w4.heap.size + 1 + 1 < w_covB_p.heap.size := (by omega)) | (go_at_call 23; refine (abB_p _ _ _ _ _).mono ?_; rintro e w_abB_p ⟨rfl, hb_abB_p⟩; have hr_abB_p := hb_abB_p.rules; obtain ⟨hc_abB_p, hf_abB_p⟩ := hr_abB_p; have hs_abB_p := hb_abB_p.sz; (try simp only [World.size_alloc, World.size_setCell, World.size_drew] at hs_abB_p); have hz0_abB_p : w4.heap.size < w_abB_p.heap.size := (by omega); have hz1_abB_p : w4.heap.size + 1 < w_abB_p.heap.size := (by omega); have hz2_abB_p : w4.heap.size + 1 + 1 < w_abB_p.heap.size := (by omega)))
              go_meet
              case rel => exact ⟨rfl, (by repeat (first | exact Ex.refl _ | assumption | apply Ex.alloc | apply Ex.drew | (refine Ex.setAt ?_ _ ?_; (first | exact Nat.le_refl _ | omega | (simp; omega))) | (apply Ex.after; assumption)))⟩
        · cases g2 : covB qc qv rc rv
          · have tok := g2
            cases g1 : covB pc pv qc qv
            · have tok := g1
              go_wp2_with (first | (go_at_call 21; refine (lessB_p _ _ _ _ _).mono ?_; rintro e w_lessB_p ⟨rfl, hb_lessB_p⟩; have hr_lessB_p := hb_lessB_p.rules; obtain ⟨hc_lessB_p, hf_lessB_p⟩ := hr_lessB_p; have hs_lessB_p := hb_lessB_p.sz; (try simp only [World.size_alloc, World.size_setCell, World.size_drew] at hs_lessB_p); have hz0_lessB_p : w4.heap.size < w_lessB_p.heap.size := (by omega); have hz1_lessB_p : w4.heap.size + 1 < w_lessB_p.heap.size := (by omega); have hz2_lessB_p : w4.heap.size + 1 + 1 < w_lessB_p.heap.size := (by omega)) | (go_at_call 22; refine (covB_p _ _ _ _ _).mono ?_; rintro e w_covB_p ⟨rfl, hb_covB_p⟩; have hr_covB_p := hb_covB_p.rules; obtain ⟨hc_covB_p, hf_covB_p⟩ := hr_covB_p; have hs_covB_p := hb_covB_p.sz; (try simp only [World.size_alloc, World.size_setCell, World.size_drew] at hs_covB_p); have hz0_covB_p : w4.heap.size < w_covB_p.heap.size := (by omega); have hz1_covB_p : w4.heap.size + 1 < w_covB_p.heap.size := (by omega); have hz2_covB_p : w4.heap.size + 1 + 1 < w_covB_p.heap.size := (by omega)) | (go_at_call 23; refine (abB_p _ _ _ _ _).mono ?_; rintro e w_abB_p ⟨rfl, hb_abB_p⟩; have hr_abB_p := hb_abB_p.rules; obtain ⟨hc_abB_p, hf_abB_p⟩ := hr_abB_p; have hs_abB_p := hb_abB_p.sz; (try simp only [World.size_alloc, World.size_setCell, World.size_drew] at hs_abB_p); have hz0_abB_p : w4.heap.size < w_abB_p.heap.size := (by omega); have hz1_abB_p : w4.heap.size + 1 < w_abB_p.heap.size := (by omega); have hz2_abB_p : w4.heap.size + 1 + 1 < w_abB_p.heap.size := (by omega)))
              go_meet
              case rel => exact ⟨rfl, (by repeat (first | exact Ex.refl _ | assumption | apply Ex.alloc | apply Ex.drew | (refine Ex.setAt ?_ _ ?_; (first | exact Nat.le_refl _ | omega | (simp; omega))) | (apply Ex.after; assumption)))⟩
            · have tok := g1
              go_wp2_with (first | (go_at_call 21; refine (lessB_p _ _ _ _ _).mono ?_; rintro e w_lessB_p ⟨rfl, hb_lessB_p⟩; have hr_lessB_p := hb_lessB_p.rules; obtain ⟨hc_lessB_p, hf_lessB_p⟩ := hr_lessB_p; have hs_lessB_p := hb_lessB_p.sz; (try simp only [World.size_alloc, World.size_setCell, World.size_drew] at hs_lessB_p); have hz0_lessB_p : w4.heap.size < w_lessB_p.heap.size := (by omega); have hz1_lessB_p : w4.heap.size + 1 < w_lessB_p.heap.size := (by omega); have hz2_lessB_p : w4.heap.size + 1 + 1 < w_lessB_p.heap.size := (by omega)) | (go_at_call 22; refine (covB_p _ _ _ _ _).mono ?_; rintro e w_covB_p ⟨rfl, hb_covB_p⟩; have hr_covB_p := hb_covB_p.rules; obtain ⟨hc_covB_p, hf_covB_p⟩ := hr_covB_p; have hs_covB_p := hb_covB_p.sz; (try simp only [World.size_alloc, World.size_setCell, World.size_drew] at hs_covB_p); have hz0_covB_p : w4.heap.size < w_covB_p.heap.size := (by omega); have hz1_covB_p : w4.heap.size + 1 < w_covB_p.heap.size := (by omega); have hz2_covB_p : w4.heap.size + 1 + 1 < w_covB_p.heap.size := (by omega)) | (go_at_call 23; refine (abB_p _ _ _ _ _).mono ?_; rintro e w_abB_p ⟨rfl, hb_abB_p⟩; have hr_abB_p := hb_abB_p.rules; obtain ⟨hc_abB_p, hf_abB_p⟩ := hr_abB_p; have hs_abB_p := hb_abB_p.sz; (try simp only [World.size_alloc, World.size_setCell, World.size_drew] at hs_abB_p); have hz0_abB_p : w4.heap.size < w_abB_p.heap.size := (by omega); have hz1_abB_p : w4.heap.size + 1 < w_abB_p.heap.size := (by omega); have hz2_abB_p : w4.heap.size + 1 + 1 < w_abB_p.heap.size := (by omega)))
              go_meet
              case rel => exact ⟨rfl, (by repeat (first | exact Ex.refl _ | assumption | apply Ex.alloc | apply Ex.drew | (refine Ex.setAt ?_ _ ?_; (first | exact Nat.le_refl _ | omega | (simp; omega))) | (apply Ex.after; assumption)))⟩
          · have g4 := ab_cov p1 q1 g0 g2
            cases g1 : covB pc pv qc qv
            · have tok := g1
              go_wp2_with (first | (go_at_call 21; refine (lessB_p _ _ _ _ _).mono ?_; rintro e w_lessB_p ⟨rfl, hb_lessB_p⟩; have hr_lessB_p := hb_lessB_p.rules; obtain ⟨hc_lessB_p, hf_lessB_p⟩ := hr_lessB_p; have hs_lessB_p := hb_lessB_p.sz; (try simp only [World.size_alloc, World.size_setCell, World.size_drew] at hs_lessB_p); have hz0_lessB_p : w4.heap.size < w_lessB_p.heap.size := (by omega); have hz1_lessB_p : w4.heap.size + 1 < w_lessB_p.heap.size := (by omega); have hz2_lessB_p : w4.heap.size + 1 + 1 < w_lessB_p.heap.size := (by omega)) | (go_at_call 22; refine (covB_p _ _ _ _ _).mono ?_; rintro e w_covB_p ⟨rfl, hb_covB_p⟩; have hr_covB_p := hb_covB_p.rules; obtain ⟨hc_covB_p, hf_covB_p⟩ := hr_covB_p; have hs_covB_p := hb_covB_p.sz; (try simp only [World.size_alloc, World.size_setCell, World.size_drew] at hs_covB_p); have hz0_covB_p : w4.heap.size < w_covB_p.heap.size := (by omega); have hz1_covB_p : w4.heap.size + 1 < w_covB_p.heap.size := (by omega); have hz2_covB_p : w4.heap.size + 1 + 1 < w_covB_p.heap.size := (by omega)) | (go_at_call 23; refine (abB_p _ _ _ _ _).mono ?_; rintro e w_abB_p ⟨rfl, hb_abB_p⟩; have hr_abB_p := hb_abB_p.rules; obtain ⟨hc_abB_p, hf_abB_p⟩ := hr_abB_p; have hs_abB_p := hb_abB_p.sz; (try simp only [World.size_alloc, World.size_setCell, World.size_drew] at hs_abB_p); have hz0_abB_p : w4.heap.size < w_abB_p.heap.size := (by omega); have hz1_abB_p : w4.heap.size + 1 < w_abB_p.heap.size := (by omega); have hz2_abB_p : w4.heap.size + 1 + 1 < w_abB_p.heap.size := (by omega)))
              go_meet
              case rel => exact ⟨rfl, (by repeat (first | exact Ex.refl _ | assumption | apply Ex.alloc | apply Ex.drew | (refine Ex.setAt ?_ _ ?_; (first | exact Nat.le_refl _ | omega | (simp; omega))) | (apply Ex.after; assumption)))⟩
            · have g3 := cov_trans p1 q1 g1 g2
              go_wp2_with (first | (go_at_call 21; refine (lessB_p _ _ _ _ _).mono ?_; rintro e w_lessB_p ⟨rfl, hb_lessB_p⟩; have hr_lessB_p := hb_lessB_p.rules; obtain ⟨hc_lessB_p, hf_lessB_p⟩ := hr_lessB_p; have hs_lessB_p := hb_lessB_p.sz; (try simp only [World.size_alloc, World.size_setCell, World.size_drew] at hs_lessB_p); have hz0_lessB_p : w4.heap.size < w_lessB_p.heap.size := (by omega); have hz1_lessB_p : w4.heap.size + 1 < w_lessB_p.heap.size := (by omega); have hz2_lessB_p : w4.heap.size + 1 + 1 < w_lessB_p.heap.size := (by omega)) | (go_at_call 22; refine (covB_p _ _ _ _ _).mono ?_; rintro e w_covB_p ⟨rfl, hb_covB_p⟩; have hr_covB_p := hb_covB_p.rules; obtain ⟨hc_covB_p, hf_covB_p⟩ := hr_covB_p; have hs_covB_p := hb_covB_p.sz; (try simp only [World.size_alloc, World.size_setCell, World.size_drew] at hs_covB_p); have hz0_covB_p : w4.heap.size < w_covB_p.heap.size := (by omega); have hz1_covB_p : w4.heap.size + 1 < w_covB_p.heap.size := (by omega); have hz2_covB_p : w4.heap.size + 1 + 1 < w_covB_p.heap.size := (by omega)) | (go_at_call 23; refine (abB_p _ _ _ _ _).mono ?_; rintro e w_abB_p ⟨rfl, hb_abB_p⟩; have hr_abB_p := hb_abB_p.rules; obtain ⟨hc_abB_p, hf_abB_p⟩ := hr_abB_p; have hs_abB_p := hb_abB_p.sz; (try simp only [World.size_alloc, World.size_setCell, World.size_drew] at hs_abB_p); have hz0_abB_p : w4.heap.size < w_abB_p.heap.size := (by omega); have hz1_abB_p : w4.heap.size + 1 < w_abB_p.heap.size := (by omega); have hz2_abB_p : w4.heap.size + 1 + 1 < w_abB_p.heap.size := (by omega)))
              go_meet
              case rel => exact ⟨rfl, (by repeat (first | exact Ex.refl _ | assumption | apply Ex.alloc | apply Ex.drew | (refine Ex.setAt ?_ _ ?_; (first | exact Nat.le_refl _ | omega | (simp; omega))) | (apply Ex.after; assumption)))⟩
      case rest =>
        obtain ⟨rfl, hq_we⟩ := hcut
        obtain ⟨we, rfl⟩ : ∃ x : World, x = wc := ⟨_, rfl⟩
        have hr_we := hq_we.rules
        obtain ⟨hc_we, hf_we⟩ := hr_we
        have hy4_we : w4.heap.size < we.heap.size := hq_we.lt (by assumption)
        have hy5_we : w4.heap.size + 1 < we.heap.size := hq_we.lt (by assumption)
        have hy6_we : w4.heap.size + 1 + 1 < we.heap.size := hq_we.lt (by assumption)
        have k1 := cov_self (u := pv) p1
        have k2 := cov_ab p1 k1
        have k3 : (compB pv qv == (pv.toList == qv.toList)) = true := by simp [compB]
        go_upto_region 14 with fail
        refine wp_region_quiet_below (by kernel_rfl) (by kernel_rfl) ?_
        repeat (quiet_step (first | exact quiet_ex (compB_p _ _ _ _ _) | exact quiet_ex (covB_p _ _ _ _ _) | exact quiet_ex (abB_p _ _ _ _ _) | exact quiet_ex (sane23 _)))
        refine wpQuiet_nil ?_
        intro wq hq
        have hb := In.ex hq; clear hq
        go_wp2
        go_ret
        exact ⟨rfl, (by repeat (first | exact Ex.refl _ | assumption | apply Ex.alloc | apply Ex.drew | (refine Ex.setAt ?_ _ ?_; (first | exact Nat.le_refl _ | omega | (simp; omega))) | (apply Ex.after; assumption)))⟩
end Go.Proofs.Ytfhipecfamecaaa
