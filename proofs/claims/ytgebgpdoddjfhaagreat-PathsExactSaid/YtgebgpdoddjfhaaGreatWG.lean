/- Contract of the source's ledger. -/
import Derived.Test.YtgebgpdoddjfhaaGreatAmZ
import Derived.Test.YtgebgpdoddjfhaaGreatWR3
import Derived.Test.YtgebgpdoddjfhaaGreatWS
import Derived.Test.YtgebgpdoddjfhaaGreatPL
namespace Go.Proofs.YtgebgpdoddjfhaaGreat
set_option linter.unusedSimpArgs false
set_option linter.unusedVariables false
set_option linter.unnecessarySimpa false
set_option linter.unusedSectionVars false
set_option maxRecDepth 100000
open Go Go.RowKit Go.Am Go.Proofs.Grow

set_option maxHeartbeats 8000000 in
theorem led_m (s : Sc) (hs : s.ok) :
    FnM Tryz.prog 8 [s.box] [.ptr 9000 0] (aG (ledF s).1) [(ledF s).2.box] := by
  refine FnM.of htb Tryz.func8 rfl rfl rfl rfl rfl fun cx hN h0 => ?_
  have o1 := Sc.ok_x hs 5
  have o2 := Sc.ok_x o1 50
  have o3 := Sc.ok_x o2 1000
  have b1 := s.n_bd (k := 5) (by decide)
  have b2 := (s.x 5).n_bd (k := 50) (by decide)
  have b3 := ((s.x 5).x 50).n_bd (k := 1000) (by decide)
  have b4 := (((s.x 5).x 50).x 1000).n_bd (k := 5) (by decide)
  (repeat' (first | (refine nx ?_) | (refine WD_unk (by exact rfl) ?_; ((refine WD_tf (by exact rfl) (by exact rfl) ?_ ?_) <;> (intro hb; (fail_if_success (with_reducible injection hb)); rw [hb]; (try simp only [List.length_map] at hb)))) | (refine WD_call (by exact rfl) ?_; first | (refine WD_cM (N_m _ _ ?y0 ?y1) ?_; (case y0 => exact hypS); (case y1 => exact hypS)) | (refine WD_cM (Range_m _ _ _ ?y0 ?y1 ?y2 ?y3) ?_; (case y0 => exact hypS); (case y1 => exact hypS); (case y2 => exact hypS); (case y3 => exact hypS))) | ((refine WD_tf (by exact rfl) (by exact rfl) ?_ ?_) <;> (intro hb; (fail_if_success (with_reducible injection hb)); rw [hb]; (try simp only [List.length_map] at hb))) | (((with_reducible apply gC2); exact rfl) <;> (intro hb; rw [hb]))))
  refine WA_le (Le_nilM 60 3 1 63 3 rfl rfl rfl rfl) ?_
  have hn := nF_bd s
  have hnf : nF s = 1 + (((s.x 5).x 50).x 1000).n (5 - 1 + 1) := rfl
  rw [← hnf]
  (refine WA_forV ((nF s).toNat) [5] [9000, 3, 60] (fun k => [(5, vI ((k : Int) + 1))]) (fun k => [Sc.box (accSt ((s3F s).x 5) k).2, (3, .box 28 [vI (s.n 5), .own 60, .d (.v (.slice none 0 0)), .d (.v (.slice none 0 0)), vI 1, vI ((s.x 5).n 50), vU (IntKind.u64.wrap (((s.x 5).x 50).n 1000))]), (60, .arr 63 3 ((accSt ((s3F s).x 5) k).1.map rA))]) (fun k => True) ?h0 ?_)
  case h0 => trivial
  intro k hk _
  have ok : (accSt ((s3F s).x 5) k).2.ok := accSt_ok (Sc.ok_x o3 5) k
  have okl := accSt_len ((s3F s).x 5) k
  have c1 := (accSt ((s3F s).x 5) k).2.n_bd (k := 5) (by decide)
  have ok2 := Sc.ok_x ok 5
  (repeat' (first | (refine nx ?_) | (refine WD_unk (by exact rfl) ?_; ((refine WD_tf (by exact rfl) (by exact rfl) ?_ ?_) <;> (intro hb; (fail_if_success (with_reducible injection hb)); rw [hb]; (try simp only [List.length_map] at hb)))) | (refine WD_call (by exact rfl) ?_; first | (refine WD_cM (N_m _ _ ?y0 ?y1) ?_; (case y0 => exact hypS); (case y1 => exact hypS)) | (refine WD_cM (Pick_m (l := bals) _ ?y0 ?y1 ?y2) ?_; (case y0 => exact hypS); (case y1 => exact hypS); (case y2 => exact hypS))) | ((refine WD_tf (by exact rfl) (by exact rfl) ?_ ?_) <;> (intro hb; (fail_if_success (with_reducible injection hb)); rw [hb]; (try simp only [List.length_map] at hb))) | (((with_reducible apply gC2); exact rfl) <;> (intro hb; rw [hb]))))
  · have hk' : k < (nF s).toNat := by simp only [decide_eq_true_eq] at hb; omega
    refine ⟨hk', trivial, ?_⟩
    have hrow : (accSt ((s3F s).x 5) k).1.map rA ++ [rA ⟨(k : Int) + 1, nth bals ((accSt ((s3F s).x 5) k).2.n 5).toNat, ((accSt ((s3F s).x 5) k).2.x 5).n 3⟩] = (accSt ((s3F s).x 5) (k + 1)).1.map rA := by simp [accSt]
    (exact LeV [(60, 39)])
  obtain rfl : k = (nF s).toNat := by simp only [decide_eq_false_iff_not] at hb; omega
  refine WA_le (Le_nilM 61 3 2 69 5 rfl rfl rfl rfl) ?_
  clear hb ok2 c1
  (refine WA_forV ((nF s).toNat) [6] [9000, 3, 60, 61] (fun k => [(6, vI ((k : Int) + 1))]) (fun k => [Sc.box (linSt (accsF s).2 k).2, (3, .box 28 [vI (s.n 5), lA (accsF s).1, .own 61, .d (.v (.slice none 0 0)), vI 1, vI ((s.x 5).n 50), vU (IntKind.u64.wrap (((s.x 5).x 50).n 1000))]), (61, .arr 69 5 ((linSt (accsF s).2 k).1.map rL))]) (fun k => True) ?h0 ?_)
  case h0 => trivial
  intro q hk2 _
  have okk : (linSt (accsF s).2 q).2.ok := linSt_ok ok q
  have lk2 := linSt_len (accsF s).2 q
  (repeat' (first | (refine nx ?_) | (refine WD_unk (by exact rfl) ?_; ((refine WD_tf (by exact rfl) (by exact rfl) ?_ ?_) <;> (intro hb; (fail_if_success (with_reducible injection hb)); rw [hb]; (try simp only [List.length_map] at hb)))) | (refine WD_call (by exact rfl) ?_; first | (refine WD_cM (N_m _ _ ?y0 ?y1) ?_; (case y0 => exact hypS); (case y1 => exact hypS)) | (refine WD_c0 (usd_m) ?_) | (refine WD_c0 (eur_m) ?_)) | ((refine WD_tf (by exact rfl) (by exact rfl) ?_ ?_) <;> (intro hb; (fail_if_success (with_reducible injection hb)); rw [hb]; (try simp only [List.length_map] at hb))) | (((with_reducible apply gC2); exact rfl) <;> (intro hb; rw [hb]))))
  · (refine WA_forV (2) [49] [9000, 61] (fun k => [(49, vI k)]) (fun k => [Sc.box (linIn ((q : Int) + 1) (linSt (accsF s).2 q) k).2, (61, .arr 69 5 ((linIn ((q : Int) + 1) (linSt (accsF s).2 q) k).1.map rL))]) (fun k => True) ?h0 ?_)
    case h0 => trivial
    intro k hk3 _
    have okj : (linIn ((q : Int) + 1) (linSt (accsF s).2 q) k).2.ok := linIn_ok okk _ k
    have lkj := linIn_len (linSt (accsF s).2 q) ((q : Int) + 1) k
    rcases (by omega : k = 0 ∨ k = 1 ∨ k = 2) with rfl | rfl | rfl
    · have c2 := lims_sc ((linIn ((q : Int) + 1) (linSt (accsF s).2 q) 0).2.x 4)
      (repeat' (first | (refine nx ?_) | (refine WD_unk (by exact rfl) ?_; ((refine WD_tf (by exact rfl) (by exact rfl) ?_ ?_) <;> (intro hb; (fail_if_success (with_reducible injection hb)); rw [hb]; (try simp only [List.length_map] at hb)))) | (refine WD_call (by exact rfl) ?_; first | (refine WD_cM (N_m _ _ ?y0 ?y1) ?_; (case y0 => exact hypS); (case y1 => exact hypS)) | (refine WD_cM (Pick_m (l := lims) _ ?y0 ?y1 ?y2) ?_; (case y0 => exact hypS); (case y1 => exact hypS); (case y2 => exact hypS))) | ((refine WD_tf (by exact rfl) (by exact rfl) ?_ ?_) <;> (intro hb; (fail_if_success (with_reducible injection hb)); rw [hb]; (try simp only [List.length_map] at hb))) | (((with_reducible apply gC2); exact rfl) <;> (intro hb; rw [hb]))))
      all_goals refine ⟨by omega, trivial, ?_⟩
      · have e : linIn ((q : Int) + 1) (linSt (accsF s).2 q) (0 + 1) = linIn ((q : Int) + 1) (linSt (accsF s).2 q) 0 := linStep_a (by simpa using hb)
        rw [e]
        (exact LeV [])
      · have e : linIn ((q : Int) + 1) (linSt (accsF s).2 q) (0 + 1) = ((linIn ((q : Int) + 1) (linSt (accsF s).2 q) 0).1, (linIn ((q : Int) + 1) (linSt (accsF s).2 q) 0).2.x 4) := linStep_b (by simp at *; omega) (by simp only [beq_iff_eq] at hb; exact hb)
        rw [e]
        (exact LeV [])
      · have e : linIn ((q : Int) + 1) (linSt (accsF s).2 q) (0 + 1) = _ := linStep_c (t := linIn ((q : Int) + 1) (linSt (accsF s).2 q) 0) (i := (q : Int) + 1) (j := 2) (u := ⟨#[69, 85, 82]⟩) (by simp at *; omega) (by simp only [beq_eq_false_iff_ne] at hb; exact hb)
        have hrow := map_snoc rL (linIn ((q : Int) + 1) (linSt (accsF s).2 q) 0).1 ⟨(q : Int) + 1, ⟨#[69, 85, 82]⟩, 2, (((linIn ((q : Int) + 1) (linSt (accsF s).2 q) 0).2.x 4).x 4).n ((if 400 < nth lims (((linIn ((q : Int) + 1) (linSt (accsF s).2 q) 0).2.x 4).n 4).toNat then 400 else nth lims (((linIn ((q : Int) + 1) (linSt (accsF s).2 q) 0).2.x 4).n 4).toNat) + 1), nth lims (((linIn ((q : Int) + 1) (linSt (accsF s).2 q) 0).2.x 4).n 4).toNat⟩
        rw [e]
        (exact LeV [(61, 76)])
    · have c2 := lims_sc ((linIn ((q : Int) + 1) (linSt (accsF s).2 q) 1).2.x 4)
      (repeat' (first | (refine nx ?_) | (refine WD_unk (by exact rfl) ?_; ((refine WD_tf (by exact rfl) (by exact rfl) ?_ ?_) <;> (intro hb; (fail_if_success (with_reducible injection hb)); rw [hb]; (try simp only [List.length_map] at hb)))) | (refine WD_call (by exact rfl) ?_; first | (refine WD_cM (N_m _ _ ?y0 ?y1) ?_; (case y0 => exact hypS); (case y1 => exact hypS)) | (refine WD_cM (Pick_m (l := lims) _ ?y0 ?y1 ?y2) ?_; (case y0 => exact hypS); (case y1 => exact hypS); (case y2 => exact hypS))) | ((refine WD_tf (by exact rfl) (by exact rfl) ?_ ?_) <;> (intro hb; (fail_if_success (with_reducible injection hb)); rw [hb]; (try simp only [List.length_map] at hb))) | (((with_reducible apply gC2); exact rfl) <;> (intro hb; rw [hb]))))
      all_goals refine ⟨by omega, trivial, ?_⟩
      · have e : linIn ((q : Int) + 1) (linSt (accsF s).2 q) (1 + 1) = linIn ((q : Int) + 1) (linSt (accsF s).2 q) 1 := linStep_a (by simpa using hb)
        rw [e]
        (exact LeV [])
      · have e : linIn ((q : Int) + 1) (linSt (accsF s).2 q) (1 + 1) = ((linIn ((q : Int) + 1) (linSt (accsF s).2 q) 1).1, (linIn ((q : Int) + 1) (linSt (accsF s).2 q) 1).2.x 4) := linStep_b (by simp at *; omega) (by simp only [beq_iff_eq] at hb; exact hb)
        rw [e]
        (exact LeV [])
      · have e : linIn ((q : Int) + 1) (linSt (accsF s).2 q) (1 + 1) = _ := linStep_c (t := linIn ((q : Int) + 1) (linSt (accsF s).2 q) 1) (i := (q : Int) + 1) (j := 1) (u := ⟨#[85, 83, 68]⟩) (by simp at *; omega) (by simp only [beq_eq_false_iff_ne] at hb; exact hb)
        have hrow := map_snoc rL (linIn ((q : Int) + 1) (linSt (accsF s).2 q) 1).1 ⟨(q : Int) + 1, ⟨#[85, 83, 68]⟩, 1, (((linIn ((q : Int) + 1) (linSt (accsF s).2 q) 1).2.x 4).x 4).n ((if 400 < nth lims (((linIn ((q : Int) + 1) (linSt (accsF s).2 q) 1).2.x 4).n 4).toNat then 400 else nth lims (((linIn ((q : Int) + 1) (linSt (accsF s).2 q) 1).2.x 4).n 4).toNat) + 1), nth lims (((linIn ((q : Int) + 1) (linSt (accsF s).2 q) 1).2.x 4).n 4).toNat⟩
        rw [e]
        (exact LeV [(61, 76)])
    · (repeat' (first | (refine nx ?_) | (refine WD_unk (by exact rfl) ?_; ((refine WD_tf (by exact rfl) (by exact rfl) ?_ ?_) <;> (intro hb; (fail_if_success (with_reducible injection hb)); rw [hb]; (try simp only [List.length_map] at hb)))) | ((refine WD_tf (by exact rfl) (by exact rfl) ?_ ?_) <;> (intro hb; (fail_if_success (with_reducible injection hb)); rw [hb]; (try simp only [List.length_map] at hb))) | (((with_reducible apply gC2); exact rfl) <;> (intro hb; rw [hb]))))
      refine ⟨by simp only [decide_eq_true_eq] at *; omega, trivial, ?_⟩
      (exact LeV [])
  obtain rfl : q = (nF s).toNat := by simp only [decide_eq_false_iff_not] at hb; omega
  have c6 : 0 ≤ (linSt (accsF s).2 (nF s).toNat).2.n 6 ∧ (linSt (accsF s).2 (nF s).toNat).2.n 6 ≤ 6 - 1 := (linsF s).2.n_bd (k := 6) (by decide)
  clear hb
  (refine WA_forV (((linSt (accsF s).2 (nF s).toNat).2.n 6).toNat) [10] [9000, 3, 61] (fun k => [(10, vI ((linSt (accsF s).2 (nF s).toNat).2.n 6 - (k : Int)))]) (fun k => [Sc.box (offSt (nF s) (led0F s, (linsF s).2.x 6) k).2, (3, .box 28 (cellsOf (aG (offSt (nF s) (led0F s, (linsF s).2.x 6) k).1)))]) (fun k => True) ?h0 ?_)
  case h0 => trivial
  intro k hk3 _
  have oko : (offSt (nF s) (led0F s, (linsF s).2.x 6) k).2.ok := offSt_ok (Sc.ok_x okk 6) k
  obtain ⟨e1, e2, e3⟩ := offSt_len (nF s) (led0F s, (linsF s).2.x 6) k
  have f1 : (offSt (nF s) (led0F s, (linsF s).2.x 6) k).1.accs.length ≤ 1000 := by rw [e1]; show (accsF s).1.length ≤ 1000; unfold accsF; omega
  have f2 : (offSt (nF s) (led0F s, (linsF s).2.x 6) k).1.lins.length ≤ 1000 := by rw [e2]; show (linsF s).1.length ≤ 1000; unfold linsF; omega
  have f3 : (offSt (nF s) (led0F s, (linsF s).2.x 6) k).1.offs.length ≤ 1000 := by have : (led0F s).offs.length = 0 := rfl; simp only [this] at e3; omega
  rw [offSt_succ]
  generalize ht : offSt (nF s) (led0F s, (linsF s).2.x 6) k = t at *
  (repeat' (first | (refine nx ?_) | (refine WD_unk (by exact rfl) ?_; ((refine WD_tf (by exact rfl) (by exact rfl) ?_ ?_) <;> (intro hb; (fail_if_success (with_reducible injection hb)); rw [hb]; (try simp only [List.length_map] at hb)))) | (refine WD_call (by exact rfl) ?_; first | (refine WD_cM (N_m _ _ ?y0 ?y1) ?_; (case y0 => exact hypS); (case y1 => exact hypS)) | (refine WD_cM (Range_m _ _ _ ?y0 ?y1 ?y2 ?y3) ?_; (case y0 => exact hypS); (case y1 => exact hypS); (case y2 => exact hypS); (case y3 => exact hypS)) | (refine WD_cM (asset_m _ ?y0) ?_; (case y0 => exact hypS)) | (refine WD_cM (Pick_m (l := amts) _ ?y0 ?y1 ?y2) ?_; (case y0 => exact hypS); (case y1 => exact hypS); (case y2 => exact hypS)) | (refine WD_cM (Pick_m (l := nums) _ ?y0 ?y1 ?y2) ?_; (case y0 => exact hypS); (case y1 => exact hypS); (case y2 => exact hypS)) | (refine WD_cM (Pick_m (l := dens) _ ?y0 ?y1 ?y2) ?_; (case y0 => exact hypS); (case y1 => exact hypS); (case y2 => exact hypS)) | (refine WD_c0 (add_rm _ _ _ _ _ _ _ _ _ ?y0 ?y1 ?y2) ?_; (case y0 => exact hypS); (case y1 => exact hypS); (case y2 => exact hypS))) | ((refine WD_tf (by exact rfl) (by exact rfl) ?_ ?_) <;> (intro hb; (fail_if_success (with_reducible injection hb)); rw [hb]; (try simp only [List.length_map] at hb))) | (((with_reducible apply gC2); exact rfl) <;> (intro hb; rw [hb]))))
  · refine ⟨by simp only [decide_eq_true_eq] at *; omega, trivial, ?_⟩
    rw [offStep_yes (by simp only [beq_iff_eq] at hb; exact hb)]
    (exact LeV [])
  · refine ⟨by simp only [decide_eq_true_eq] at *; omega, trivial, ?_⟩
    rw [offStep_no (by simp only [beq_eq_false_iff_ne] at hb; exact hb)]
    (exact LeV [])
  · have hkk : k = ((linSt (accsF s).2 (nF s).toNat).2.n 6).toNat := by simp only [decide_eq_false_iff_not] at hb; omega
    have e : ledF s = t := by rw [← ht, hkk]; rfl
    rw [e]
    exact gE (.inr rfl) rfl rfl ⟨rfl, trivial⟩
end Go.Proofs.YtgebgpdoddjfhaaGreat
