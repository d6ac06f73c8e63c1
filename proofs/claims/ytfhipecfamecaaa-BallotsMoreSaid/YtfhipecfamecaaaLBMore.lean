/- BallotsMore: the walk of the statement, and the plain laws on greater counters. -/
import Derived.Test.YtfhipecfamecaaaLBOrder
import Derived.Deep.RegionWith
namespace Go.Proofs.Ytfhipecfamecaaa
set_option linter.unusedSimpArgs false
set_option linter.unusedVariables false
set_option linter.unnecessarySimpa false
open Go.RowKit Go.Proofs.Grow Go.Sort

theorem ab_more {c d f : Int} {u v : ByteArray} (h : 1 ≤ c) (hd : c ≤ d) (k : abB c u f v = true) : abB d u f v = true := by
  rw [ab_iff2 h] at k
  rw [ab_iff2 (by omega)]
  refine ⟨k.1, ?_⟩
  by_cases e : c = d
  · rw [← e]; exact k.2
  · have := less_le k.2
    exact less_of_lt (by omega)
theorem cov_more {c d f : Int} {u v : ByteArray} (h : 1 ≤ c) (hd : c ≤ d) (k : covB c u f v = true) : covB d u f v = true := by
  rw [cov_iff h] at k
  rw [cov_iff (by omega)]
  exact ⟨k.1, by omega⟩
theorem prep_more {c d f : Int} {u v : ByteArray} (h : 1 ≤ c) (hd : c ≤ d) (k : prepB c u 0 ⟨#[]⟩ f v = true) : prepB d u 0 ⟨#[]⟩ f v = true := by
  have hz : zeroB 0 ⟨#[]⟩ = true := by decide +kernel
  unfold prepB at *
  simp only [hz, covB, Bool.not_true, Bool.false_and, Bool.or_false] at k ⊢
  exact cov_more h hd k

set_option maxRecDepth 100000 in
set_option maxHeartbeats 4000000 in
theorem law_BallotsMore (a0 : Option Addr) (len0 cap0 : Nat) (z0 : List Int) (w : World) (w0 : IsRow .i64 w a0 len0 cap0 z0) :
    Calls Try.prog 6 #[.slice a0 len0 cap0] w fun e w' => e = .returned (.bool true) ∧ Ex w w' := by
  go_enter Try.func6, Try.ntmps6
  go_wp2_with fail
  refine (make_Src _ _ _ _ _ w0).mono ?_
  rintro e w1 ⟨b, rfl, hwb, hx1, hs1⟩
  have hbl := hs1.lt
  go_wp2_with fail
  refine (draw_Low b _ (by repeat (first | assumption | apply Src.alloc | apply Src.drew | (apply Src.later; assumption)))).mono ?_
  rintro e w2 ⟨_, rfl, ⟨pc, pv, rfl, p1, p2, p3, p4⟩, hx2, hs2⟩
  have hz2 := hx2.size
  go_wp2_with fail
  refine (draw_Low b _ (by repeat (first | assumption | apply Src.alloc | apply Src.drew | (apply Src.later; assumption)))).mono ?_
  rintro e w3 ⟨_, rfl, ⟨qc, qv, rfl, q1, q2, q3, q4⟩, hx3, hs3⟩
  have hz3 := hx3.size
  have hx : Ex w w3 := hx1.exb hwb (hx2.trans hx3)
  go_wp2_with fail
  have hsrc : Src (((w3.alloc (.cells #[.int .i64 pc, .string pv] 26)).alloc (.cells #[.int .i64 qc, .string qv] 26)).alloc (.cells #[.int .i64 pc, .string pv] 26)) b := (by repeat (first | assumption | apply Src.alloc | apply Src.drew | (apply Src.later; assumption)))
  have bp : Box (((w3.alloc (.cells #[.int .i64 pc, .string pv] 26)).alloc (.cells #[.int .i64 qc, .string qv] 26)).alloc (.cells #[.int .i64 pc, .string pv] 26)) w3.heap.size [.int .i64 pc, .string pv] 26 := (by repeat (first | assumption | (refine Box.new_at _ _ _ _ ?_; (first | rfl | omega | (simp; done))) | apply Box.alloc | apply Box.set | (refine Box.aside ?_ _ ?_; omega) | (apply Box.later; assumption) | rfl))
  have bq : Box (((w3.alloc (.cells #[.int .i64 pc, .string pv] 26)).alloc (.cells #[.int .i64 qc, .string qv] 26)).alloc (.cells #[.int .i64 pc, .string pv] 26)) (w3.heap.size + 1) [.int .i64 qc, .string qv] 26 := (by repeat (first | assumption | (refine Box.new_at _ _ _ _ ?_; (first | rfl | omega | (simp; done))) | apply Box.alloc | apply Box.set | (refine Box.aside ?_ _ ?_; omega) | (apply Box.later; assumption) | rfl))
  have br : Box (((w3.alloc (.cells #[.int .i64 pc, .string pv] 26)).alloc (.cells #[.int .i64 qc, .string qv] 26)).alloc (.cells #[.int .i64 pc, .string pv] 26)) (w3.heap.size + 1 + 1) [.int .i64 pc, .string pv] 26 := (by repeat (first | assumption | (refine Box.new_at _ _ _ _ ?_; (first | rfl | omega | (simp; done))) | apply Box.alloc | apply Box.set | (refine Box.aside ?_ _ ?_; omega) | (apply Box.later; assumption) | rfl))
  have hxW : Ex w (((w3.alloc (.cells #[.int .i64 pc, .string pv] 26)).alloc (.cells #[.int .i64 qc, .string qv] 26)).alloc (.cells #[.int .i64 pc, .string pv] 26)) := (by repeat (first | exact Ex.refl _ | assumption | apply Ex.alloc | apply Ex.drew | (refine Ex.setAt ?_ _ ?_; (first | exact Nat.le_refl _ | omega | (simp; omega))) | (apply Ex.after; assumption)))
  generalize ((w3.alloc (.cells #[.int .i64 pc, .string pv] 26)).alloc (.cells #[.int .i64 qc, .string qv] 26)).alloc (.cells #[.int .i64 pc, .string pv] 26) = W at *
  clear hx hx1 hx2 hx3 hs1 hs2 hs3
  have c0 := br.cell 0 _ rfl
  have f0 := br.free 0
  go_cut [] (fun wx => ∃ k : Int, 0 ≤ k ∧ k ≤ 3 ∧ Ex w wx ∧ Box wx w3.heap.size [.int .i64 pc, .string pv] 26 ∧ Box wx (w3.heap.size + 1) [.int .i64 qc, .string qv] 26 ∧ Box wx (w3.heap.size + 1 + 1) [.int .i64 (pc + k), .string pv] 26)
  case first =>
    go_region_with (go_at_call 28; refine (draw_N b _ _ (by repeat (first | assumption | apply Src.alloc | apply Src.drew | (apply Src.later; assumption))) (by omega) (by omega)).mono ?_; rintro e wn ⟨_, rfl, ⟨k, rfl, hk0, hk1⟩, hxn, hsn⟩; have bn := (br.drew).exb hxn (by omega); have cn := bn.cell 0 _ rfl; have fn := bn.free 0)
    all_goals
      go_wp2_with fail
      go_meet
      exact ⟨k, hk0, by omega, .setAt (by omega) _ (hxW.drew.exb hwb hxn), (bp.drew.exb hxn (by omega)).aside (by omega) _, (bq.drew.exb hxn (by omega)).aside (by omega) _, bn.set 0 _ (by rw [IntWalk.i64_in _ (by omega)]; rfl)⟩
  case rest =>
    obtain ⟨k, hk0, hk1, hx5, bp5, bq5, br5⟩ := hcut
    have e0 := bp5.cell 0 _ rfl
    have e1 := bp5.cell 1 _ rfl
    have e2 := bq5.cell 0 _ rfl
    have e3 := bq5.cell 1 _ rfl
    have e4 := br5.cell 0 _ rfl
    have e5 := br5.cell 1 _ rfl
    have l0 := bp5.lt
    have l1 := bq5.lt
    have l2 := br5.lt
    have r1 := prep_more (c := pc) (d := pc + k) (f := qc) (u := pv) (v := qv) p1 (by omega)
    have r2 := fun h => cov_ab (by omega) (cov_more (c := pc) (d := pc + k) (f := qc) (u := pv) (v := qv) p1 (by omega) h)
    have r3 := ab_more (c := pc) (d := pc + k) (f := qc) (u := pv) (v := qv) p1 (by omega)
    have R1 := Lib.hid r1; clear r1
    have R2 := Lib.hid r2; clear r2
    have R3 := Lib.hid r3; clear r3
    clear hxW bp bq br hsrc c0 f0
    cases g1 : prepB pc pv 0 ⟨#[]⟩ qc qv
    · have tok := g1
      cases g2 : covB pc pv qc qv
      · cases g3 : abB pc pv qc qv
        · have tok := g3
          go_wp2_with (first | (go_at_call 27; refine (prepB_p _ 0 _ _ ⟨#[]⟩ _ _).mono ?_; rintro e w_pr ⟨rfl, hb_pr⟩; obtain ⟨hc_pr, hf_pr⟩ := hb_pr.rules; have hs_pr := hb_pr.sz; have hz0_pr : w3.heap.size < w_pr.heap.size := (by omega); have hz1_pr : w3.heap.size + 1 < w_pr.heap.size := (by omega); have hz2_pr : w3.heap.size + 1 + 1 < w_pr.heap.size := (by omega)) | (first | (go_at_call 27; refine (prepB_p _ _ _ _ _ _ _).mono ?_; rintro e w_prepB_p ⟨rfl, hb_prepB_p⟩; have hr_prepB_p := hb_prepB_p.rules; obtain ⟨hc_prepB_p, hf_prepB_p⟩ := hr_prepB_p; have hs_prepB_p := hb_prepB_p.sz; (try simp only [World.size_alloc, World.size_setCell, World.size_drew] at hs_prepB_p); have hz0_prepB_p : w3.heap.size < w_prepB_p.heap.size := (by omega); have hz1_prepB_p : w3.heap.size + 1 < w_prepB_p.heap.size := (by omega); have hz2_prepB_p : w3.heap.size + 1 + 1 < w_prepB_p.heap.size := (by omega)) | (go_at_call 22; refine (covB_p _ _ _ _ _).mono ?_; rintro e w_covB_p ⟨rfl, hb_covB_p⟩; have hr_covB_p := hb_covB_p.rules; obtain ⟨hc_covB_p, hf_covB_p⟩ := hr_covB_p; have hs_covB_p := hb_covB_p.sz; (try simp only [World.size_alloc, World.size_setCell, World.size_drew] at hs_covB_p); have hz0_covB_p : w3.heap.size < w_covB_p.heap.size := (by omega); have hz1_covB_p : w3.heap.size + 1 < w_covB_p.heap.size := (by omega); have hz2_covB_p : w3.heap.size + 1 + 1 < w_covB_p.heap.size := (by omega)) | (go_at_call 23; refine (abB_p _ _ _ _ _).mono ?_; rintro e w_abB_p ⟨rfl, hb_abB_p⟩; have hr_abB_p := hb_abB_p.rules; obtain ⟨hc_abB_p, hf_abB_p⟩ := hr_abB_p; have hs_abB_p := hb_abB_p.sz; (try simp only [World.size_alloc, World.size_setCell, World.size_drew] at hs_abB_p); have hz0_abB_p : w3.heap.size < w_abB_p.heap.size := (by omega); have hz1_abB_p : w3.heap.size + 1 < w_abB_p.heap.size := (by omega); have hz2_abB_p : w3.heap.size + 1 + 1 < w_abB_p.heap.size := (by omega)) | (go_at_call 19; refine (sane23 _).mono ?_; rintro e w_sane23 ⟨rfl, hb_sane23⟩; have hr_sane23 := hb_sane23.rules; obtain ⟨hc_sane23, hf_sane23⟩ := hr_sane23; have hs_sane23 := hb_sane23.sz; (try simp only [World.size_alloc, World.size_setCell, World.size_drew] at hs_sane23); have hz0_sane23 : w3.heap.size < w_sane23.heap.size := (by omega); have hz1_sane23 : w3.heap.size + 1 < w_sane23.heap.size := (by omega); have hz2_sane23 : w3.heap.size + 1 + 1 < w_sane23.heap.size := (by omega))))
          go_ret
          exact ⟨rfl, (by repeat (first | exact Ex.refl _ | assumption | apply Ex.alloc | apply Ex.drew | (refine Ex.setAt ?_ _ ?_; (first | exact Nat.le_refl _ | omega | (simp; omega))) | (apply Ex.after; assumption)))⟩
        · have g4 := R3.out g3
          go_wp2_with (first | (go_at_call 27; refine (prepB_p _ 0 _ _ ⟨#[]⟩ _ _).mono ?_; rintro e w_pr ⟨rfl, hb_pr⟩; obtain ⟨hc_pr, hf_pr⟩ := hb_pr.rules; have hs_pr := hb_pr.sz; have hz0_pr : w3.heap.size < w_pr.heap.size := (by omega); have hz1_pr : w3.heap.size + 1 < w_pr.heap.size := (by omega); have hz2_pr : w3.heap.size + 1 + 1 < w_pr.heap.size := (by omega)) | (first | (go_at_call 27; refine (prepB_p _ _ _ _ _ _ _).mono ?_; rintro e w_prepB_p ⟨rfl, hb_prepB_p⟩; have hr_prepB_p := hb_prepB_p.rules; obtain ⟨hc_prepB_p, hf_prepB_p⟩ := hr_prepB_p; have hs_prepB_p := hb_prepB_p.sz; (try simp only [World.size_alloc, World.size_setCell, World.size_drew] at hs_prepB_p); have hz0_prepB_p : w3.heap.size < w_prepB_p.heap.size := (by omega); have hz1_prepB_p : w3.heap.size + 1 < w_prepB_p.heap.size := (by omega); have hz2_prepB_p : w3.heap.size + 1 + 1 < w_prepB_p.heap.size := (by omega)) | (go_at_call 22; refine (covB_p _ _ _ _ _).mono ?_; rintro e w_covB_p ⟨rfl, hb_covB_p⟩; have hr_covB_p := hb_covB_p.rules; obtain ⟨hc_covB_p, hf_covB_p⟩ := hr_covB_p; have hs_covB_p := hb_covB_p.sz; (try simp only [World.size_alloc, World.size_setCell, World.size_drew] at hs_covB_p); have hz0_covB_p : w3.heap.size < w_covB_p.heap.size := (by omega); have hz1_covB_p : w3.heap.size + 1 < w_covB_p.heap.size := (by omega); have hz2_covB_p : w3.heap.size + 1 + 1 < w_covB_p.heap.size := (by omega)) | (go_at_call 23; refine (abB_p _ _ _ _ _).mono ?_; rintro e w_abB_p ⟨rfl, hb_abB_p⟩; have hr_abB_p := hb_abB_p.rules; obtain ⟨hc_abB_p, hf_abB_p⟩ := hr_abB_p; have hs_abB_p := hb_abB_p.sz; (try simp only [World.size_alloc, World.size_setCell, World.size_drew] at hs_abB_p); have hz0_abB_p : w3.heap.size < w_abB_p.heap.size := (by omega); have hz1_abB_p : w3.heap.size + 1 < w_abB_p.heap.size := (by omega); have hz2_abB_p : w3.heap.size + 1 + 1 < w_abB_p.heap.size := (by omega)) | (go_at_call 19; refine (sane23 _).mono ?_; rintro e w_sane23 ⟨rfl, hb_sane23⟩; have hr_sane23 := hb_sane23.rules; obtain ⟨hc_sane23, hf_sane23⟩ := hr_sane23; have hs_sane23 := hb_sane23.sz; (try simp only [World.size_alloc, World.size_setCell, World.size_drew] at hs_sane23); have hz0_sane23 : w3.heap.size < w_sane23.heap.size := (by omega); have hz1_sane23 : w3.heap.size + 1 < w_sane23.heap.size := (by omega); have hz2_sane23 : w3.heap.size + 1 + 1 < w_sane23.heap.size := (by omega))))
          go_ret
          exact ⟨rfl, (by repeat (first | exact Ex.refl _ | assumption | apply Ex.alloc | apply Ex.drew | (refine Ex.setAt ?_ _ ?_; (first | exact Nat.le_refl _ | omega | (simp; omega))) | (apply Ex.after; assumption)))⟩
      · have g5 := R2.out g2
        cases g3 : abB pc pv qc qv
        · have tok := g3
          go_wp2_with (first | (go_at_call 27; refine (prepB_p _ 0 _ _ ⟨#[]⟩ _ _).mono ?_; rintro e w_pr ⟨rfl, hb_pr⟩; obtain ⟨hc_pr, hf_pr⟩ := hb_pr.rules; have hs_pr := hb_pr.sz; have hz0_pr : w3.heap.size < w_pr.heap.size := (by omega); have hz1_pr : w3.heap.size + 1 < w_pr.heap.size := (by omega); have hz2_pr : w3.heap.size + 1 + 1 < w_pr.heap.size := (by omega)) | (first | (go_at_call 27; refine (prepB_p _ _ _ _ _ _ _).mono ?_; rintro e w_prepB_p ⟨rfl, hb_prepB_p⟩; have hr_prepB_p := hb_prepB_p.rules; obtain ⟨hc_prepB_p, hf_prepB_p⟩ := hr_prepB_p; have hs_prepB_p := hb_prepB_p.sz; (try simp only [World.size_alloc, World.size_setCell, World.size_drew] at hs_prepB_p); have hz0_prepB_p : w3.heap.size < w_prepB_p.heap.size := (by omega); have hz1_prepB_p : w3.heap.size + 1 < w_prepB_p.heap.size := (by omega); have hz2_prepB_p : w3.heap.size + 1 + 1 < w_prepB_p.heap.size := (by omega)) | (go_at_call 22; refine (covB_p _ _ _ _ _).mono ?_; rintro e w_covB_p ⟨rfl, hb_covB_p⟩; have hr_covB_p := hb_covB_p.rules; obtain ⟨hc_covB_p, hf_covB_p⟩ := hr_covB_p; have hs_covB_p := hb_covB_p.sz; (try simp only [World.size_alloc, World.size_setCell, World.size_drew] at hs_covB_p); have hz0_covB_p : w3.heap.size < w_covB_p.heap.size := (by omega); have hz1_covB_p : w3.heap.size + 1 < w_covB_p.heap.size := (by omega); have hz2_covB_p : w3.heap.size + 1 + 1 < w_covB_p.heap.size := (by omega)) | (go_at_call 23; refine (abB_p _ _ _ _ _).mono ?_; rintro e w_abB_p ⟨rfl, hb_abB_p⟩; have hr_abB_p := hb_abB_p.rules; obtain ⟨hc_abB_p, hf_abB_p⟩ := hr_abB_p; have hs_abB_p := hb_abB_p.sz; (try simp only [World.size_alloc, World.size_setCell, World.size_drew] at hs_abB_p); have hz0_abB_p : w3.heap.size < w_abB_p.heap.size := (by omega); have hz1_abB_p : w3.heap.size + 1 < w_abB_p.heap.size := (by omega); have hz2_abB_p : w3.heap.size + 1 + 1 < w_abB_p.heap.size := (by omega)) | (go_at_call 19; refine (sane23 _).mono ?_; rintro e w_sane23 ⟨rfl, hb_sane23⟩; have hr_sane23 := hb_sane23.rules; obtain ⟨hc_sane23, hf_sane23⟩ := hr_sane23; have hs_sane23 := hb_sane23.sz; (try simp only [World.size_alloc, World.size_setCell, World.size_drew] at hs_sane23); have hz0_sane23 : w3.heap.size < w_sane23.heap.size := (by omega); have hz1_sane23 : w3.heap.size + 1 < w_sane23.heap.size := (by omega); have hz2_sane23 : w3.heap.size + 1 + 1 < w_sane23.heap.size := (by omega))))
          go_ret
          exact ⟨rfl, (by repeat (first | exact Ex.refl _ | assumption | apply Ex.alloc | apply Ex.drew | (refine Ex.setAt ?_ _ ?_; (first | exact Nat.le_refl _ | omega | (simp; omega))) | (apply Ex.after; assumption)))⟩
        · have g4 := R3.out g3
          rw [g5] at g4; cases g4
    · have g6 := R1.out g1
      cases g2 : covB pc pv qc qv
      · cases g3 : abB pc pv qc qv
        · have tok := g3
          go_wp2_with (first | (go_at_call 27; refine (prepB_p _ 0 _ _ ⟨#[]⟩ _ _).mono ?_; rintro e w_pr ⟨rfl, hb_pr⟩; obtain ⟨hc_pr, hf_pr⟩ := hb_pr.rules; have hs_pr := hb_pr.sz; have hz0_pr : w3.heap.size < w_pr.heap.size := (by omega); have hz1_pr : w3.heap.size + 1 < w_pr.heap.size := (by omega); have hz2_pr : w3.heap.size + 1 + 1 < w_pr.heap.size := (by omega)) | (first | (go_at_call 27; refine (prepB_p _ _ _ _ _ _ _).mono ?_; rintro e w_prepB_p ⟨rfl, hb_prepB_p⟩; have hr_prepB_p := hb_prepB_p.rules; obtain ⟨hc_prepB_p, hf_prepB_p⟩ := hr_prepB_p; have hs_prepB_p := hb_prepB_p.sz; (try simp only [World.size_alloc, World.size_setCell, World.size_drew] at hs_prepB_p); have hz0_prepB_p : w3.heap.size < w_prepB_p.heap.size := (by omega); have hz1_prepB_p : w3.heap.size + 1 < w_prepB_p.heap.size := (by omega); have hz2_prepB_p : w3.heap.size + 1 + 1 < w_prepB_p.heap.size := (by omega)) | (go_at_call 22; refine (covB_p _ _ _ _ _).mono ?_; rintro e w_covB_p ⟨rfl, hb_covB_p⟩; have hr_covB_p := hb_covB_p.rules; obtain ⟨hc_covB_p, hf_covB_p⟩ := hr_covB_p; have hs_covB_p := hb_covB_p.sz; (try simp only [World.size_alloc, World.size_setCell, World.size_drew] at hs_covB_p); have hz0_covB_p : w3.heap.size < w_covB_p.heap.size := (by omega); have hz1_covB_p : w3.heap.size + 1 < w_covB_p.heap.size := (by omega); have hz2_covB_p : w3.heap.size + 1 + 1 < w_covB_p.heap.size := (by omega)) | (go_at_call 23; refine (abB_p _ _ _ _ _).mono ?_; rintro e w_abB_p ⟨rfl, hb_abB_p⟩; have hr_abB_p := hb_abB_p.rules; obtain ⟨hc_abB_p, hf_abB_p⟩ := hr_abB_p; have hs_abB_p := hb_abB_p.sz; (try simp only [World.size_alloc, World.size_setCell, World.size_drew] at hs_abB_p); have hz0_abB_p : w3.heap.size < w_abB_p.heap.size := (by omega); have hz1_abB_p : w3.heap.size + 1 < w_abB_p.heap.size := (by omega); have hz2_abB_p : w3.heap.size + 1 + 1 < w_abB_p.heap.size := (by omega)) | (go_at_call 19; refine (sane23 _).mono ?_; rintro e w_sane23 ⟨rfl, hb_sane23⟩; have hr_sane23 := hb_sane23.rules; obtain ⟨hc_sane23, hf_sane23⟩ := hr_sane23; have hs_sane23 := hb_sane23.sz; (try simp only [World.size_alloc, World.size_setCell, World.size_drew] at hs_sane23); have hz0_sane23 : w3.heap.size < w_sane23.heap.size := (by omega); have hz1_sane23 : w3.heap.size + 1 < w_sane23.heap.size := (by omega); have hz2_sane23 : w3.heap.size + 1 + 1 < w_sane23.heap.size := (by omega))))
          go_ret
          exact ⟨rfl, (by repeat (first | exact Ex.refl _ | assumption | apply Ex.alloc | apply Ex.drew | (refine Ex.setAt ?_ _ ?_; (first | exact Nat.le_refl _ | omega | (simp; omega))) | (apply Ex.after; assumption)))⟩
        · have g4 := R3.out g3
          go_wp2_with (first | (go_at_call 27; refine (prepB_p _ 0 _ _ ⟨#[]⟩ _ _).mono ?_; rintro e w_pr ⟨rfl, hb_pr⟩; obtain ⟨hc_pr, hf_pr⟩ := hb_pr.rules; have hs_pr := hb_pr.sz; have hz0_pr : w3.heap.size < w_pr.heap.size := (by omega); have hz1_pr : w3.heap.size + 1 < w_pr.heap.size := (by omega); have hz2_pr : w3.heap.size + 1 + 1 < w_pr.heap.size := (by omega)) | (first | (go_at_call 27; refine (prepB_p _ _ _ _ _ _ _).mono ?_; rintro e w_prepB_p ⟨rfl, hb_prepB_p⟩; have hr_prepB_p := hb_prepB_p.rules; obtain ⟨hc_prepB_p, hf_prepB_p⟩ := hr_prepB_p; have hs_prepB_p := hb_prepB_p.sz; (try simp only [World.size_alloc, World.size_setCell, World.size_drew] at hs_prepB_p); have hz0_prepB_p : w3.heap.size < w_prepB_p.heap.size := (by omega); have hz1_prepB_p : w3.heap.size + 1 < w_prepB_p.heap.size := (by omega); have hz2_prepB_p : w3.heap.size + 1 + 1 < w_prepB_p.heap.size := (by omega)) | (go_at_call 22; refine (covB_p _ _ _ _ _).mono ?_; rintro e w_covB_p ⟨rfl, hb_covB_p⟩; have hr_covB_p := hb_covB_p.rules; obtain ⟨hc_covB_p, hf_covB_p⟩ := hr_covB_p; have hs_covB_p := hb_covB_p.sz; (try simp only [World.size_alloc, World.size_setCell, World.size_drew] at hs_covB_p); have hz0_covB_p : w3.heap.size < w_covB_p.heap.size := (by omega); have hz1_covB_p : w3.heap.size + 1 < w_covB_p.heap.size := (by omega); have hz2_covB_p : w3.heap.size + 1 + 1 < w_covB_p.heap.size := (by omega)) | (go_at_call 23; refine (abB_p _ _ _ _ _).mono ?_; rintro e w_abB_p ⟨rfl, hb_abB_p⟩; have hr_abB_p := hb_abB_p.rules; obtain ⟨hc_abB_p, hf_abB_p⟩ := hr_abB_p; have hs_abB_p := hb_abB_p.sz; (try simp only [World.size_alloc, World.size_setCell, World.size_drew] at hs_abB_p); have hz0_abB_p : w3.heap.size < w_abB_p.heap.size := (by omega); have hz1_abB_p : w3.heap.size + 1 < w_abB_p.heap.size := (by omega); have hz2_abB_p : w3.heap.size + 1 + 1 < w_abB_p.heap.size := (by omega)) | (go_at_call 19; refine (sane23 _).mono ?_; rintro e w_sane23 ⟨rfl, hb_sane23⟩; have hr_sane23 := hb_sane23.rules; obtain ⟨hc_sane23, hf_sane23⟩ := hr_sane23; have hs_sane23 := hb_sane23.sz; (try simp only [World.size_alloc, World.size_setCell, World.size_drew] at hs_sane23); have hz0_sane23 : w3.heap.size < w_sane23.heap.size := (by omega); have hz1_sane23 : w3.heap.size + 1 < w_sane23.heap.size := (by omega); have hz2_sane23 : w3.heap.size + 1 + 1 < w_sane23.heap.size := (by omega))))
          go_ret
          exact ⟨rfl, (by repeat (first | exact Ex.refl _ | assumption | apply Ex.alloc | apply Ex.drew | (refine Ex.setAt ?_ _ ?_; (first | exact Nat.le_refl _ | omega | (simp; omega))) | (apply Ex.after; assumption)))⟩
      · have g5 := R2.out g2
        cases g3 : abB pc pv qc qv
        · have tok := g3
          go_wp2_with (first | (go_at_call 27; refine (prepB_p _ 0 _ _ ⟨#[]⟩ _ _).mono ?_; rintro e w_pr ⟨rfl, hb_pr⟩; obtain ⟨hc_pr, hf_pr⟩ := hb_pr.rules; have hs_pr := hb_pr.sz; have hz0_pr : w3.heap.size < w_pr.heap.size := (by omega); have hz1_pr : w3.heap.size + 1 < w_pr.heap.size := (by omega); have hz2_pr : w3.heap.size + 1 + 1 < w_pr.heap.size := (by omega)) | (first | (go_at_call 27; refine (prepB_p _ _ _ _ _ _ _).mono ?_; rintro e w_prepB_p ⟨rfl, hb_prepB_p⟩; have hr_prepB_p := hb_prepB_p.rules; obtain ⟨hc_prepB_p, hf_prepB_p⟩ := hr_prepB_p; have hs_prepB_p := hb_prepB_p.sz; (try simp only [World.size_alloc, World.size_setCell, World.size_drew] at hs_prepB_p); have hz0_prepB_p : w3.heap.size < w_prepB_p.heap.size := (by omega); have hz1_prepB_p : w3.heap.size + 1 < w_prepB_p.heap.size := (by omega); have hz2_prepB_p : w3.heap.size + 1 + 1 < w_prepB_p.heap.size := (by omega)) | (go_at_call 22; refine (covB_p _ _ _ _ _).mono ?_; rintro e w_covB_p ⟨rfl, hb_covB_p⟩; have hr_covB_p := hb_covB_p.rules; obtain ⟨hc_covB_p, hf_covB_p⟩ := hr_covB_p; have hs_covB_p := hb_covB_p.sz; (try simp only [World.size_alloc, World.size_setCell, World.size_drew] at hs_covB_p); have hz0_covB_p : w3.heap.size < w_covB_p.heap.size := (by omega); have hz1_covB_p : w3.heap.size + 1 < w_covB_p.heap.size := (by omega); have hz2_covB_p : w3.heap.size + 1 + 1 < w_covB_p.heap.size := (by omega)) | (go_at_call 23; refine (abB_p _ _ _ _ _).mono ?_; rintro e w_abB_p ⟨rfl, hb_abB_p⟩; have hr_abB_p := hb_abB_p.rules; obtain ⟨hc_abB_p, hf_abB_p⟩ := hr_abB_p; have hs_abB_p := hb_abB_p.sz; (try simp only [World.size_alloc, World.size_setCell, World.size_drew] at hs_abB_p); have hz0_abB_p : w3.heap.size < w_abB_p.heap.size := (by omega); have hz1_abB_p : w3.heap.size + 1 < w_abB_p.heap.size := (by omega); have hz2_abB_p : w3.heap.size + 1 + 1 < w_abB_p.heap.size := (by omega)) | (go_at_call 19; refine (sane23 _).mono ?_; rintro e w_sane23 ⟨rfl, hb_sane23⟩; have hr_sane23 := hb_sane23.rules; obtain ⟨hc_sane23, hf_sane23⟩ := hr_sane23; have hs_sane23 := hb_sane23.sz; (try simp only [World.size_alloc, World.size_setCell, World.size_drew] at hs_sane23); have hz0_sane23 : w3.heap.size < w_sane23.heap.size := (by omega); have hz1_sane23 : w3.heap.size + 1 < w_sane23.heap.size := (by omega); have hz2_sane23 : w3.heap.size + 1 + 1 < w_sane23.heap.size := (by omega))))
          go_ret
          exact ⟨rfl, (by repeat (first | exact Ex.refl _ | assumption | apply Ex.alloc | apply Ex.drew | (refine Ex.setAt ?_ _ ?_; (first | exact Nat.le_refl _ | omega | (simp; omega))) | (apply Ex.after; assumption)))⟩
        · have g4 := R3.out g3
          rw [g5] at g4; cases g4
end Go.Proofs.Ytfhipecfamecaaa
