/- BallotsLowest: the walk of the statement, and the plain law on the lowest counter. -/
import Derived.Test.YtfhipecfamecaaaS23
namespace Go.Proofs.Ytfhipecfamecaaa
set_option linter.unusedSimpArgs false
set_option linter.unusedVariables false
set_option linter.unnecessarySimpa false
open Go.RowKit Go.Proofs.Grow Go.Sort

theorem ab_iff (x : Ball) (i : Int) (v : ByteArray) : abB x.c x.v i v = true ↔ (zeroB x.c x.v = false ∧ compB x.v v = false) ∧ (i < x.c ∨ i = x.c ∧ lessV v x.v = true) := by
  unfold abB lessB
  by_cases h : i = x.c
  · simp [h]
    cases zeroB x.c x.v <;> cases compB x.v v <;> simp
  · simp [h]
    cases zeroB x.c x.v <;> cases compB x.v v <;> simp
theorem ab_mono {x : Ball} {i j : Int} {v : ByteArray} (h : abB x.c x.v i v = true) (hj : j ≤ i) : abB x.c x.v j v = true := by
  rw [ab_iff] at *
  refine ⟨h.1, ?_⟩
  rcases h.2 with k | k
  · left; omega
  · by_cases e : j = x.c
    · right; exact ⟨e, k.2⟩
    · left; omega
theorem lowStep_spec (v : ByteArray) (n : Int) (x : Ball) (hv : validB x.c x.v = true) :
    n ≤ lowStep v n x ∧ abB x.c x.v (lowStep v n x) v = false ∧ (∀ i, n ≤ i → i < lowStep v n x → abB x.c x.v i v = true) ∧ (lowStep v n x = n ∨ lowStep v n x ≤ 1000001) := by
  have hb := valid_bd hv
  cases h1 : abB x.c x.v n v
  · rw [lowStep2 hv h1]
    exact ⟨Int.le_refl _, h1, fun i a b => by omega, .inl rfl⟩
  · have h1' := (ab_iff x n v).1 h1
    cases h2 : abB x.c x.v x.c v
    · rw [lowStep3 hv h1 h2]
      have hn : n < x.c := by
        rcases h1'.2 with k | ⟨k, _⟩
        · exact k
        · rw [k, h2] at h1; cases h1
      exact ⟨by omega, h2, fun i a b => (ab_iff x i v).2 ⟨h1'.1, .inl b⟩, .inr (by omega)⟩
    · rw [lowStep4 hv h1 h2]
      refine ⟨by rcases h1'.2 with k | k <;> omega, ?_, fun i a b => ab_mono h2 (by omega), .inr (by omega)⟩
      rw [Bool.eq_false_iff]; intro q
      have := ((ab_iff x (x.c + 1) v).1 q).2
      omega
theorem lowest_spec (v : ByteArray) (n : Int) (p q : Ball) (hn : 1 ≤ n) (hn2 : n ≤ 1000) (hp : validB p.c p.v = true) (hq : validB q.c q.v = true) :
    n ≤ lowest v n p q ∧ abB p.c p.v (lowest v n p q) v = false ∧ abB q.c q.v (lowest v n p q) v = false ∧ lowest v n p q ≤ 1000001 ∧
    (∀ i, n ≤ i → i < lowest v n p q → abB p.c p.v i v = true ∨ abB q.c q.v i v = true) := by
  have e : lowest v n p q = lowStep v (lowStep v n p) q := by unfold lowest; rw [if_neg (by omega)]; rfl
  rw [e]
  obtain ⟨a1, a2, a3, a4⟩ := lowStep_spec v n p hp
  obtain ⟨b1, b2, b3, b4⟩ := lowStep_spec v (lowStep v n p) q hq
  refine ⟨by omega, ?_, b2, by omega, fun i h1 h2 => ?_⟩
  · rw [Bool.eq_false_iff]; intro k
    rw [ab_mono k b1] at a2; cases a2
  · by_cases k : i < lowStep v n p
    · exact .inl (a3 i h1 k)
    · exact .inr (b3 i (by omega) h2)
theorem valid_small {c : Int} {s : ByteArray} (h1 : 1 ≤ c) (h2 : c ≤ 6) (h3 : 1 ≤ s.size) (h4 : s.size ≤ 2) : validB c s = true := by
  simp [validB]; omega

set_option maxHeartbeats 2000000 in
theorem law_BallotsLowest (a0 : Option Addr) (len0 cap0 : Nat) (z0 : List Int) (a1 : Int) (w : World) (w0 : IsRow .i64 w a0 len0 cap0 z0) (w1 : (Lit.int .u8 a1).wf = true) :
    Calls Try.prog 3 #[.slice a0 len0 cap0, .int .u8 a1] w fun e w' => e = .returned (.bool true) ∧ Ex w w' := by
  have hu : 0 ≤ a1 ∧ a1 ≤ 255 := by simpa [Lit.wf, IntKind.min, IntKind.max, IntKind.bits, IntKind.signed] using w1
  obtain ⟨hu0, hu1⟩ := hu
  clear w1
  go_enter Try.func3, Try.ntmps3
  go_wp2_with fail
  refine (make_Src _ _ _ _ _ w0).mono ?_
  rintro e w1 ⟨b, rfl, hwb, hx1, hs1⟩
  have hbl := hs1.lt
  go_wp2_with fail
  refine (draw_Low b _ (by repeat (first | assumption | apply Src.alloc | apply Src.drew | (apply Src.later; assumption)))).mono ?_
  rintro e w2 ⟨_, rfl, ⟨pc, pv, rfl, p1, p2, p3, p4⟩, hx2, hs2⟩
  have hz2 := hx2.size
  go_wp2_with fail
  refine (draw_Low b _ (by repeat (first | assumption | apply Src.alloc | apply Src.drew | (apply Src.later; assumption)))).mono ?_
  rintro e w3 ⟨_, rfl, ⟨qc, qv, rfl, q1, q2, q3, q4⟩, hx3, hs3⟩
  have hz3 := hx3.size
  go_wp2_with fail
  refine (draw_Value b _ (by repeat (first | assumption | apply Src.alloc | apply Src.drew | (apply Src.later; assumption)))).mono ?_
  rintro e w4 ⟨_, rfl, ⟨v, rfl, v1, v2⟩, hx4, hs4⟩
  have hz4 := hx4.size
  have hx : Ex w w4 := hx1.exb hwb ((hx2.trans hx3).trans hx4)
  have HS := lowest_spec v (1 + a1 % 8) ⟨pc, pv⟩ ⟨qc, qv⟩ (by omega) (by omega) (valid_small p1 p2 p3 p4) (valid_small q1 q2 q3 q4)
  generalize hk : lowest v (1 + a1 % 8) ⟨pc, pv⟩ ⟨qc, qv⟩ = k at HS
  have HK := Lib.hid hk; clear hk
  obtain ⟨k1, k2, k3, k4, k5⟩ := HS
  have H5 := Lib.hid k5; clear k5
  clear hx1 hx2 hx3 hx4 hs1 hs2 hs3 hs4
  go_wp2_with fail
  refine (low_p v (1 + a1 % 8) ⟨pc, pv⟩ ⟨qc, qv⟩ _).mono ?_
  rw [HK.out]
  rintro e w5 ⟨rfl, hb5⟩
  obtain ⟨hc5, hf5⟩ := hb5.rules
  have hs5 := hb5.sz
  simp only [World.size_alloc, World.size_setCell] at hs5
  have hz5 : w4.heap.size < w5.heap.size := by omega
  have hz6 : w4.heap.size + 1 < w5.heap.size := by omega
  go_wp2_with (first | (go_at_call 18; refine (abB_r _ _ _ _ _).mono ?_; rintro e w_abB_r ⟨rfl, hb_abB_r⟩; have hr_abB_r := hb_abB_r.rules; obtain ⟨hc_abB_r, hf_abB_r⟩ := hr_abB_r; have hs_abB_r := hb_abB_r.sz; (try simp only [World.size_alloc, World.size_setCell, World.size_drew] at hs_abB_r); have hz0_abB_r : w4.heap.size < w_abB_r.heap.size := (by omega); have hz1_abB_r : w4.heap.size + 1 < w_abB_r.heap.size := (by omega)))
  have hi1 : 1 ≤ 1 + a1 % 8 := by omega
  have hi2 : 1 + a1 % 8 ≤ 8 := by omega
  generalize hi : 1 + a1 % 8 = i0 at *
  clear hi
  go_loopg [11] (k - i0).toNat (fun m i wr => Ex w wr ∧ Box wr w4.heap.size [.int .i64 pc, .string pv] 26 ∧ Box wr (w4.heap.size + 1) [.int .i64 qc, .string qv] 26 ∧ ∃ j : Int, i = .int .i64 j ∧ i0 ≤ j ∧ j ≤ k ∧ j + m = k)
  case atStart => exact ⟨(by repeat (first | exact Ex.refl _ | assumption | apply Ex.alloc | apply Ex.drew | (refine Ex.setAt ?_ _ ?_; (first | exact Nat.le_refl _ | omega | (simp; omega))) | (apply Ex.after; assumption))), (by repeat (first | assumption | (refine Box.new_at _ _ _ _ ?_; (first | rfl | omega | (simp; done))) | apply Box.alloc | apply Box.set | (refine Box.aside ?_ _ ?_; omega) | (apply Box.later; assumption) | rfl)), (by repeat (first | assumption | (refine Box.new_at _ _ _ _ ?_; (first | rfl | omega | (simp; done))) | apply Box.alloc | apply Box.set | (refine Box.aside ?_ _ ?_; omega) | (apply Box.later; assumption) | rfl)), i0, rfl, by omega, by omega, by omega⟩
  case round =>
    obtain ⟨hxr, bp, bq, j, rfl, j1, j2, j3⟩ := hrel
    have cp0 := bp.cell 0 _ rfl
    have cp1 := bp.cell 1 _ rfl
    have cq0 := bq.cell 0 _ rfl
    have cq1 := bq.cell 1 _ rfl
    have lp := bp.lt
    have lq := bq.lt
    by_cases hlt : j < k
    · have h5 := H5.out j (by omega) hlt
      cases hp : abB pc pv j v
      · have hq : abB qc qv j v = true := by
          rcases h5 with h | h
          · rw [hp] at h; cases h
          · exact h
        clear h5
        go_wp2_with (first | (go_at_call 18; refine (abB_r _ _ _ _ _).mono ?_; rintro e w_abB_r ⟨rfl, hb_abB_r⟩; have hr_abB_r := hb_abB_r.rules; obtain ⟨hc_abB_r, hf_abB_r⟩ := hr_abB_r; have hs_abB_r := hb_abB_r.sz; (try simp only [World.size_alloc, World.size_setCell, World.size_drew] at hs_abB_r); have hz0_abB_r : w4.heap.size < w_abB_r.heap.size := (by omega); have hz1_abB_r : w4.heap.size + 1 < w_abB_r.heap.size := (by omega); have hz2_abB_r : wr.heap.size < w_abB_r.heap.size := (by omega)))
        go_roundg (gk - 1)
        case measure => omega
        case rel => exact ⟨(by repeat (first | exact Ex.refl _ | assumption | apply Ex.alloc | apply Ex.drew | (refine Ex.setAt ?_ _ ?_; (first | exact Nat.le_refl _ | omega | (simp; omega))) | (apply Ex.after; assumption))), (by repeat (first | assumption | (refine Box.new_at _ _ _ _ ?_; (first | rfl | omega | (simp; done))) | apply Box.alloc | apply Box.set | (refine Box.aside ?_ _ ?_; omega) | (apply Box.later; assumption) | rfl)), (by repeat (first | assumption | (refine Box.new_at _ _ _ _ ?_; (first | rfl | omega | (simp; done))) | apply Box.alloc | apply Box.set | (refine Box.aside ?_ _ ?_; omega) | (apply Box.later; assumption) | rfl)), j + 1, by go_num, by omega, by omega, by omega⟩
      · clear h5
        go_wp2_with (first | (go_at_call 18; refine (abB_r _ _ _ _ _).mono ?_; rintro e w_abB_r ⟨rfl, hb_abB_r⟩; have hr_abB_r := hb_abB_r.rules; obtain ⟨hc_abB_r, hf_abB_r⟩ := hr_abB_r; have hs_abB_r := hb_abB_r.sz; (try simp only [World.size_alloc, World.size_setCell, World.size_drew] at hs_abB_r); have hz0_abB_r : w4.heap.size < w_abB_r.heap.size := (by omega); have hz1_abB_r : w4.heap.size + 1 < w_abB_r.heap.size := (by omega); have hz2_abB_r : wr.heap.size < w_abB_r.heap.size := (by omega)))
        go_roundg (gk - 1)
        case measure => omega
        case rel => exact ⟨(by repeat (first | exact Ex.refl _ | assumption | apply Ex.alloc | apply Ex.drew | (refine Ex.setAt ?_ _ ?_; (first | exact Nat.le_refl _ | omega | (simp; omega))) | (apply Ex.after; assumption))), (by repeat (first | assumption | (refine Box.new_at _ _ _ _ ?_; (first | rfl | omega | (simp; done))) | apply Box.alloc | apply Box.set | (refine Box.aside ?_ _ ?_; omega) | (apply Box.later; assumption) | rfl)), (by repeat (first | assumption | (refine Box.new_at _ _ _ _ ?_; (first | rfl | omega | (simp; done))) | apply Box.alloc | apply Box.set | (refine Box.aside ?_ _ ?_; omega) | (apply Box.later; assumption) | rfl)), j + 1, by go_num, by omega, by omega, by omega⟩
    · go_wp2_with (first | (go_at_call 19; refine (sane23 _).mono ?_; rintro e w_sane23 ⟨rfl, hb_sane23⟩; have hr_sane23 := hb_sane23.rules; obtain ⟨hc_sane23, hf_sane23⟩ := hr_sane23; have hs_sane23 := hb_sane23.sz; (try simp only [World.size_alloc, World.size_setCell, World.size_drew] at hs_sane23)))
      go_ret
      exact ⟨rfl, (by repeat (first | exact Ex.refl _ | assumption | apply Ex.alloc | apply Ex.drew | (refine Ex.setAt ?_ _ ?_; (first | exact Nat.le_refl _ | omega | (simp; omega))) | (apply Ex.after; assumption)))⟩
end Go.Proofs.Ytfhipecfamecaaa
