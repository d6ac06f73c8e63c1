/- Contracts of Lowest, of the program and of the reference alike. -/
import Derived.Test.YtfhipecfamecaaaGr
namespace Go.Proofs.Ytfhipecfamecaaa
set_option linter.unusedSimpArgs false
set_option linter.unusedVariables false
set_option linter.unnecessarySimpa false
set_option linter.unusedSectionVars false
open Go.RowKit Go.Proofs.Grow Go.Sort

def lowStep (v : ByteArray) (n : Int) (x : Ball) : Int :=
  if validB x.c x.v = true then (if abB x.c x.v n v = true then (if abB x.c x.v x.c v = true then x.c + 1 else x.c) else n) else n
def lowF (v : ByteArray) : Int → List Ball → Int
  | n, [] => n
  | n, x :: r => lowF v (lowStep v n x) r
def lowest (v : ByteArray) (n : Int) (p q : Ball) : Int := lowF v (if n < 1 then 1 else n) [p, q]
theorem valid_bd {c : Int} {v : ByteArray} (h : validB c v = true) : 1 ≤ c ∧ c ≤ 1000000 := by
  unfold validB at h; simp at h; omega
theorem lowStep1 {v : ByteArray} {n : Int} {x : Ball} (h : validB x.c x.v = false) : lowStep v n x = n := by simp [lowStep, h]
theorem lowStep2 {v : ByteArray} {n : Int} {x : Ball} (h : validB x.c x.v = true) (k : abB x.c x.v n v = false) : lowStep v n x = n := by simp [lowStep, h, k]
theorem lowStep3 {v : ByteArray} {n : Int} {x : Ball} (h : validB x.c x.v = true) (k : abB x.c x.v n v = true) (l : abB x.c x.v x.c v = false) : lowStep v n x = x.c := by simp [lowStep, h, k, l]
theorem lowStep4 {v : ByteArray} {n : Int} {x : Ball} (h : validB x.c x.v = true) (k : abB x.c x.v n v = true) (l : abB x.c x.v x.c v = true) : lowStep v n x = x.c + 1 := by simp [lowStep, h, k, l]
theorem drop2 (p q : Ball) (k : Nat) (h : k < 2) : [p, q].drop k = nth [p, q] k :: [p, q].drop (k + 1) := drop_nth _ k (by simpa using h)

set_option maxHeartbeats 2000000 in
theorem low_p (v : ByteArray) (n : Int) (p q : Ball) (w : World) :
    Calls Try.prog 17 #[.string v, .int .i64 n, .agg #[.int .i64 p.c, .string p.v], .agg #[.int .i64 q.c, .string q.v]] w fun e w' => e = .returned (.int .i64 (lowest v n p q)) ∧ Ex w w' := by
  by_cases hn : n < 1
  all_goals
    have hl : lowest v n p q = lowest v n p q := rfl
    conv at hl => rhs; unfold lowest
    first | rw [if_pos hn] at hl | rw [if_neg hn] at hl
    have HL := Lib.hid hl; clear hl
    go_enter Try.func17, Try.ntmps17
    go_wp2
    go_loopg [9, 18] 2 (fun g m i wr => Ex w wr ∧ Box wr (w.heap.size + 1 + 1) [.int .i64 p.c, .string p.v, .int .i64 q.c, .string q.v] 26 ∧ ∃ (k : Nat) (a : Int), k + g = 2 ∧ i = .int .i64 k ∧ m = .int .i64 a ∧ Hid (lowest v n p q = lowF v a ([p, q].drop k)))
    case atStart => exact ⟨(by repeat (first | exact Ex.refl _ | assumption | apply Ex.alloc | apply Ex.drew | apply Ex.drewN | (refine Ex.setAt ?_ _ ?_; (first | exact Nat.le_refl _ | omega | (simp; omega))) | (apply Ex.after; assumption))), (by repeat (first | assumption | (refine Box.new_at _ _ _ _ ?_; (first | rfl | omega | (simp; done))) | apply Box.alloc | apply Box.set | (refine Box.aside ?_ _ ?_; omega) | (apply Box.later; assumption) | rfl)), 0, _, by omega, rfl, rfl, HL⟩
    case round =>
      obtain ⟨hx, bp, k, a, hk, rfl, rfl, hz⟩ := hrel
      by_cases hlt : k < 2
      · have HD := Lib.hid (drop2 p q k hlt)
        have hs1 := bp.lt
        have e0 : wr.cell? ⟨w.heap.size + 1 + 1, k * 2, none⟩ = some (.int .i64 (nth [p, q] k).c) := by
          match k, hlt with
          | 0, _ => exact bp.cell 0 _ rfl
          | 1, _ => exact bp.cell 2 _ rfl
        have e1 : wr.cell? ⟨w.heap.size + 1 + 1, k * 2 + 1, none⟩ = some (.string (nth [p, q] k).v) := by
          match k, hlt with
          | 0, _ => exact bp.cell 1 _ rfl
          | 1, _ => exact bp.cell 3 _ rfl
        cases h1 : validB (nth [p, q] k).c (nth [p, q] k).v
        · have HE := Lib.hid (lowStep1 (v := v) (n := a) h1)
          go_wp2_with (first | (go_at_call 38; refine (validB_p _ _ _).mono ?_; rintro e w_validB_p ⟨rfl, hb_validB_p⟩; have hr_validB_p := hb_validB_p.rules; obtain ⟨hc_validB_p, hf_validB_p⟩ := hr_validB_p; have hs_validB_p := hb_validB_p.sz; (try simp only [World.size_alloc, World.size_setCell, World.size_drew] at hs_validB_p); have hz0_validB_p : wr.heap.size < w_validB_p.heap.size := (by omega)) | (go_at_call 23; refine (abB_p _ _ _ _ _).mono ?_; rintro e w_abB_p ⟨rfl, hb_abB_p⟩; have hr_abB_p := hb_abB_p.rules; obtain ⟨hc_abB_p, hf_abB_p⟩ := hr_abB_p; have hs_abB_p := hb_abB_p.sz; (try simp only [World.size_alloc, World.size_setCell, World.size_drew] at hs_abB_p); have hz0_abB_p : wr.heap.size < w_abB_p.heap.size := (by omega)))
          go_roundg (gk - 1)
          case measure => omega
          case rel => exact ⟨(by repeat (first | exact Ex.refl _ | assumption | apply Ex.alloc | apply Ex.drew | apply Ex.drewN | (refine Ex.setAt ?_ _ ?_; (first | exact Nat.le_refl _ | omega | (simp; omega))) | (apply Ex.after; assumption))), (by repeat (first | assumption | (refine Box.new_at _ _ _ _ ?_; (first | rfl | omega | (simp; done))) | apply Box.alloc | apply Box.set | (refine Box.aside ?_ _ ?_; omega) | (apply Box.later; assumption) | rfl)), k + 1, _, by omega, by go_num, rfl, by rw [hz.out, HD.out, lowF, HE.out]; exact Lib.hid rfl⟩
        · obtain ⟨hv1, hv2⟩ := valid_bd h1
          cases h2 : abB (nth [p, q] k).c (nth [p, q] k).v a v
          · have HE := Lib.hid (lowStep2 (v := v) (n := a) h1 h2)
            go_wp2_with (first | (go_at_call 38; refine (validB_p _ _ _).mono ?_; rintro e w_validB_p ⟨rfl, hb_validB_p⟩; have hr_validB_p := hb_validB_p.rules; obtain ⟨hc_validB_p, hf_validB_p⟩ := hr_validB_p; have hs_validB_p := hb_validB_p.sz; (try simp only [World.size_alloc, World.size_setCell, World.size_drew] at hs_validB_p); have hz0_validB_p : wr.heap.size < w_validB_p.heap.size := (by omega)) | (go_at_call 23; refine (abB_p _ _ _ _ _).mono ?_; rintro e w_abB_p ⟨rfl, hb_abB_p⟩; have hr_abB_p := hb_abB_p.rules; obtain ⟨hc_abB_p, hf_abB_p⟩ := hr_abB_p; have hs_abB_p := hb_abB_p.sz; (try simp only [World.size_alloc, World.size_setCell, World.size_drew] at hs_abB_p); have hz0_abB_p : wr.heap.size < w_abB_p.heap.size := (by omega)))
            go_roundg (gk - 1)
            case measure => omega
            case rel => exact ⟨(by repeat (first | exact Ex.refl _ | assumption | apply Ex.alloc | apply Ex.drew | apply Ex.drewN | (refine Ex.setAt ?_ _ ?_; (first | exact Nat.le_refl _ | omega | (simp; omega))) | (apply Ex.after; assumption))), (by repeat (first | assumption | (refine Box.new_at _ _ _ _ ?_; (first | rfl | omega | (simp; done))) | apply Box.alloc | apply Box.set | (refine Box.aside ?_ _ ?_; omega) | (apply Box.later; assumption) | rfl)), k + 1, _, by omega, by go_num, rfl, by rw [hz.out, HD.out, lowF, HE.out]; exact Lib.hid rfl⟩
          · cases h3 : abB (nth [p, q] k).c (nth [p, q] k).v (nth [p, q] k).c v
            · have HE := Lib.hid (lowStep3 (v := v) (n := a) h1 h2 h3)
              go_wp2_with (first | (go_at_call 38; refine (validB_p _ _ _).mono ?_; rintro e w_validB_p ⟨rfl, hb_validB_p⟩; have hr_validB_p := hb_validB_p.rules; obtain ⟨hc_validB_p, hf_validB_p⟩ := hr_validB_p; have hs_validB_p := hb_validB_p.sz; (try simp only [World.size_alloc, World.size_setCell, World.size_drew] at hs_validB_p); have hz0_validB_p : wr.heap.size < w_validB_p.heap.size := (by omega)) | (go_at_call 23; refine (abB_p _ _ _ _ _).mono ?_; rintro e w_abB_p ⟨rfl, hb_abB_p⟩; have hr_abB_p := hb_abB_p.rules; obtain ⟨hc_abB_p, hf_abB_p⟩ := hr_abB_p; have hs_abB_p := hb_abB_p.sz; (try simp only [World.size_alloc, World.size_setCell, World.size_drew] at hs_abB_p); have hz0_abB_p : wr.heap.size < w_abB_p.heap.size := (by omega)))
              go_roundg (gk - 1)
              case measure => omega
              case rel => exact ⟨(by repeat (first | exact Ex.refl _ | assumption | apply Ex.alloc | apply Ex.drew | apply Ex.drewN | (refine Ex.setAt ?_ _ ?_; (first | exact Nat.le_refl _ | omega | (simp; omega))) | (apply Ex.after; assumption))), (by repeat (first | assumption | (refine Box.new_at _ _ _ _ ?_; (first | rfl | omega | (simp; done))) | apply Box.alloc | apply Box.set | (refine Box.aside ?_ _ ?_; omega) | (apply Box.later; assumption) | rfl)), k + 1, _, by omega, by go_num, rfl, by rw [hz.out, HD.out, lowF, HE.out]; exact Lib.hid rfl⟩
            · have HE := Lib.hid (lowStep4 (v := v) (n := a) h1 h2 h3)
              go_wp2_with (first | (go_at_call 38; refine (validB_p _ _ _).mono ?_; rintro e w_validB_p ⟨rfl, hb_validB_p⟩; have hr_validB_p := hb_validB_p.rules; obtain ⟨hc_validB_p, hf_validB_p⟩ := hr_validB_p; have hs_validB_p := hb_validB_p.sz; (try simp only [World.size_alloc, World.size_setCell, World.size_drew] at hs_validB_p); have hz0_validB_p : wr.heap.size < w_validB_p.heap.size := (by omega)) | (go_at_call 23; refine (abB_p _ _ _ _ _).mono ?_; rintro e w_abB_p ⟨rfl, hb_abB_p⟩; have hr_abB_p := hb_abB_p.rules; obtain ⟨hc_abB_p, hf_abB_p⟩ := hr_abB_p; have hs_abB_p := hb_abB_p.sz; (try simp only [World.size_alloc, World.size_setCell, World.size_drew] at hs_abB_p); have hz0_abB_p : wr.heap.size < w_abB_p.heap.size := (by omega)))
              go_roundg (gk - 1)
              case measure => omega
              case rel => exact ⟨(by repeat (first | exact Ex.refl _ | assumption | apply Ex.alloc | apply Ex.drew | apply Ex.drewN | (refine Ex.setAt ?_ _ ?_; (first | exact Nat.le_refl _ | omega | (simp; omega))) | (apply Ex.after; assumption))), (by repeat (first | assumption | (refine Box.new_at _ _ _ _ ?_; (first | rfl | omega | (simp; done))) | apply Box.alloc | apply Box.set | (refine Box.aside ?_ _ ?_; omega) | (apply Box.later; assumption) | rfl)), k + 1, _, by omega, by go_num, rfl, by rw [hz.out, HD.out, lowF, HE.out]; exact Lib.hid rfl⟩
      · have e : lowest v n p q = a := by
          rw [hz.out]
          have : k = 2 := by omega
          subst this; rfl
        have HE := Lib.hid e; clear e
        go_wp2
        go_ret
        exact ⟨by rw [HE.out]; rfl, (by repeat (first | exact Ex.refl _ | assumption | apply Ex.alloc | apply Ex.drew | apply Ex.drewN | (refine Ex.setAt ?_ _ ?_; (first | exact Nat.le_refl _ | omega | (simp; omega))) | (apply Ex.after; assumption)))⟩

set_option maxHeartbeats 2000000 in
theorem low_r (v : ByteArray) (n : Int) (p q : Ball) (w : World) :
    Calls Try.prog 45 #[.string v, .int .i64 n, .agg #[.int .i64 p.c, .string p.v], .agg #[.int .i64 q.c, .string q.v]] w fun e w' => e = .returned (.int .i64 (lowest v n p q)) ∧ Ex w w' := by
  by_cases hn : n < 1
  all_goals
    have hl : lowest v n p q = lowest v n p q := rfl
    conv at hl => rhs; unfold lowest
    first | rw [if_pos hn] at hl | rw [if_neg hn] at hl
    have HL := Lib.hid hl; clear hl
    go_enter Try.func45, Try.ntmps45
    go_wp2
    go_loopg [9, 17] 2 (fun g m i wr => Ex w wr ∧ ∃ (k : Nat) (a : Int), k + g = 2 ∧ i = .int .i64 k ∧ m = .int .i64 a ∧ Hid (lowest v n p q = lowF v a ([p, q].drop k)))
    case atStart => exact ⟨(by repeat (first | exact Ex.refl _ | assumption | apply Ex.alloc | apply Ex.drew | apply Ex.drewN | (refine Ex.setAt ?_ _ ?_; (first | exact Nat.le_refl _ | omega | (simp; omega))) | (apply Ex.after; assumption))), 0, _, by omega, rfl, rfl, HL⟩
    case round =>
      obtain ⟨hx, k, a, hk, rfl, rfl, hz⟩ := hrel
      by_cases hlt : k < 2
      · have HD := Lib.hid (drop2 p q k hlt)
        have hs1 : True := trivial
        have hix : ∀ w, (Instr.index 74 (.agg #[.int .i64 p.c, .string p.v, .int .i64 q.c, .string q.v]) (.int .i64 k)).run Try.prog w = .ok (.agg #[.int .i64 (nth [p, q] k).c, .string (nth [p, q] k).v]) w := by
          match k, hlt with
          | 0, _ => exact fun w => by kernel_rfl
          | 1, _ => exact fun w => by kernel_rfl
        cases h1 : validB (nth [p, q] k).c (nth [p, q] k).v
        · have HE := Lib.hid (lowStep1 (v := v) (n := a) h1)
          go_wp2_with (first | (go_at_call 39; refine (validB_r _ _ _).mono ?_; rintro e w_validB_r ⟨rfl, hb_validB_r⟩; have hr_validB_r := hb_validB_r.rules; obtain ⟨hc_validB_r, hf_validB_r⟩ := hr_validB_r; have hs_validB_r := hb_validB_r.sz; (try simp only [World.size_alloc, World.size_setCell, World.size_drew] at hs_validB_r); have hz0_validB_r : wr.heap.size < w_validB_r.heap.size := (by omega)) | (go_at_call 18; refine (abB_r _ _ _ _ _).mono ?_; rintro e w_abB_r ⟨rfl, hb_abB_r⟩; have hr_abB_r := hb_abB_r.rules; obtain ⟨hc_abB_r, hf_abB_r⟩ := hr_abB_r; have hs_abB_r := hb_abB_r.sz; (try simp only [World.size_alloc, World.size_setCell, World.size_drew] at hs_abB_r); have hz0_abB_r : wr.heap.size < w_abB_r.heap.size := (by omega)))
          go_roundg (gk - 1)
          case measure => omega
          case rel => exact ⟨(by repeat (first | exact Ex.refl _ | assumption | apply Ex.alloc | apply Ex.drew | apply Ex.drewN | (refine Ex.setAt ?_ _ ?_; (first | exact Nat.le_refl _ | omega | (simp; omega))) | (apply Ex.after; assumption))), k + 1, _, by omega, by go_num, rfl, by rw [hz.out, HD.out, lowF, HE.out]; exact Lib.hid rfl⟩
        · obtain ⟨hv1, hv2⟩ := valid_bd h1
          cases h2 : abB (nth [p, q] k).c (nth [p, q] k).v a v
          · have HE := Lib.hid (lowStep2 (v := v) (n := a) h1 h2)
            go_wp2_with (first | (go_at_call 39; refine (validB_r _ _ _).mono ?_; rintro e w_validB_r ⟨rfl, hb_validB_r⟩; have hr_validB_r := hb_validB_r.rules; obtain ⟨hc_validB_r, hf_validB_r⟩ := hr_validB_r; have hs_validB_r := hb_validB_r.sz; (try simp only [World.size_alloc, World.size_setCell, World.size_drew] at hs_validB_r); have hz0_validB_r : wr.heap.size < w_validB_r.heap.size := (by omega)) | (go_at_call 18; refine (abB_r _ _ _ _ _).mono ?_; rintro e w_abB_r ⟨rfl, hb_abB_r⟩; have hr_abB_r := hb_abB_r.rules; obtain ⟨hc_abB_r, hf_abB_r⟩ := hr_abB_r; have hs_abB_r := hb_abB_r.sz; (try simp only [World.size_alloc, World.size_setCell, World.size_drew] at hs_abB_r); have hz0_abB_r : wr.heap.size < w_abB_r.heap.size := (by omega)))
            go_roundg (gk - 1)
            case measure => omega
            case rel => exact ⟨(by repeat (first | exact Ex.refl _ | assumption | apply Ex.alloc | apply Ex.drew | apply Ex.drewN | (refine Ex.setAt ?_ _ ?_; (first | exact Nat.le_refl _ | omega | (simp; omega))) | (apply Ex.after; assumption))), k + 1, _, by omega, by go_num, rfl, by rw [hz.out, HD.out, lowF, HE.out]; exact Lib.hid rfl⟩
          · cases h3 : abB (nth [p, q] k).c (nth [p, q] k).v (nth [p, q] k).c v
            · have HE := Lib.hid (lowStep3 (v := v) (n := a) h1 h2 h3)
              go_wp2_with (first | (go_at_call 39; refine (validB_r _ _ _).mono ?_; rintro e w_validB_r ⟨rfl, hb_validB_r⟩; have hr_validB_r := hb_validB_r.rules; obtain ⟨hc_validB_r, hf_validB_r⟩ := hr_validB_r; have hs_validB_r := hb_validB_r.sz; (try simp only [World.size_alloc, World.size_setCell, World.size_drew] at hs_validB_r); have hz0_validB_r : wr.heap.size < w_validB_r.heap.size := (by omega)) | (go_at_call 18; refine (abB_r _ _ _ _ _).mono ?_; rintro e w_abB_r ⟨rfl, hb_abB_r⟩; have hr_abB_r := hb_abB_r.rules; obtain ⟨hc_abB_r, hf_abB_r⟩ := hr_abB_r; have hs_abB_r := hb_abB_r.sz; (try simp only [World.size_alloc, World.size_setCell, World.size_drew] at hs_abB_r); have hz0_abB_r : wr.heap.size < w_abB_r.heap.size := (by omega)))
              go_roundg (gk - 1)
              case measure => omega
              case rel => exact ⟨(by repeat (first | exact Ex.refl _ | assumption | apply Ex.alloc | apply Ex.drew | apply Ex.drewN | (refine Ex.setAt ?_ _ ?_; (first | exact Nat.le_refl _ | omega | (simp; omega))) | (apply Ex.after; assumption))), k + 1, _, by omega, by go_num, rfl, by rw [hz.out, HD.out, lowF, HE.out]; exact Lib.hid rfl⟩
            · have HE := Lib.hid (lowStep4 (v := v) (n := a) h1 h2 h3)
              go_wp2_with (first | (go_at_call 39; refine (validB_r _ _ _).mono ?_; rintro e w_validB_r ⟨rfl, hb_validB_r⟩; have hr_validB_r := hb_validB_r.rules; obtain ⟨hc_validB_r, hf_validB_r⟩ := hr_validB_r; have hs_validB_r := hb_validB_r.sz; (try simp only [World.size_alloc, World.size_setCell, World.size_drew] at hs_validB_r); have hz0_validB_r : wr.heap.size < w_validB_r.heap.size := (by omega)) | (go_at_call 18; refine (abB_r _ _ _ _ _).mono ?_; rintro e w_abB_r ⟨rfl, hb_abB_r⟩; have hr_abB_r := hb_abB_r.rules; obtain ⟨hc_abB_r, hf_abB_r⟩ := hr_abB_r; have hs_abB_r := hb_abB_r.sz; (try simp only [World.size_alloc, World.size_setCell, World.size_drew] at hs_abB_r); have hz0_abB_r : wr.heap.size < w_abB_r.heap.size := (by omega)))
              go_roundg (gk - 1)
              case measure => omega
              case rel => exact ⟨(by repeat (first | exact Ex.refl _ | assumption | apply Ex.alloc | apply Ex.drew | apply Ex.drewN | (refine Ex.setAt ?_ _ ?_; (first | exact Nat.le_refl _ | omega | (simp; omega))) | (apply Ex.after; assumption))), k + 1, _, by omega, by go_num, rfl, by rw [hz.out, HD.out, lowF, HE.out]; exact Lib.hid rfl⟩
      · have e : lowest v n p q = a := by
          rw [hz.out]
          have : k = 2 := by omega
          subst this; rfl
        have HE := Lib.hid e; clear e
        go_wp2
        go_ret
        exact ⟨by rw [HE.out]; rfl, (by repeat (first | exact Ex.refl _ | assumption | apply Ex.alloc | apply Ex.drew | apply Ex.drewN | (refine Ex.setAt ?_ _ ?_; (first | exact Nat.le_refl _ | omega | (simp; omega))) | (apply Ex.after; assumption)))⟩
end Go.Proofs.Ytfhipecfamecaaa
