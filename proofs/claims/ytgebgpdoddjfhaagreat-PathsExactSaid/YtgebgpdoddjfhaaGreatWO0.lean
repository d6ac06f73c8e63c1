/- Contracts of the program's functions on offers: checking, comparing, sorting. -/
import Derived.Test.YtgebgpdoddjfhaaGreatWL2
import Derived.Test.YtgebgpdoddjfhaaGreatPlainS
import Derived.Test.YtgebgpdoddjfhaaGreatPlainQ
import Derived.Lib.BitFns
import Derived.Test.YtgebgpdoddjfhaaGreatAmZ
namespace Go.Proofs.YtgebgpdoddjfhaaGreat
set_option linter.unusedSimpArgs false
set_option linter.unusedVariables false
set_option linter.unnecessarySimpa false
set_option linter.unusedSectionVars false
set_option maxRecDepth 100000
open Go Go.RowKit Go.Am Go.Proofs.Grow

set_option maxHeartbeats 4000000 in
/-- The number of bits of a small number. -/
theorem len64_w (x : Int) (w : World) (h0 : 0 ≤ x) (h1 : x ≤ 255) :
    Calls Tryz.prog 160 #[.int .u64 x] w fun e w' => e = .returned (.int .i64 (Lib.bitLen x.toNat)) ∧ w' = w := by
  go_enter Tryz.func160, Tryz.ntmps160
  go_wp2
  all_goals (go_ret; refine ⟨congrArg Ending.returned (congrArg (Value.int IntKind.i64) ?_), rfl⟩)
  all_goals first
    | omega
    | (rw [Lib.len8_of x (by omega) (by omega)]
       have l := Lib.bitLen_le8' x (by omega) (by omega)
       rw [IntWalk.wrap64_in _ (by rw [IntWalk.wrap64_in _ (by omega)]; omega), IntWalk.wrap64_in _ (by omega)])
theorem len_w (x : Int) (w : World) (h0 : 0 ≤ x) (h1 : x ≤ 255) :
    Calls Tryz.prog 137 #[.int .u64 x] w fun e w' => e = .returned (.int .i64 (Lib.bitLen x.toNat)) ∧ w' = w := by
  go_enter Tryz.func137, Tryz.ntmps137
  go_wp2_with (go_at_call 160; refine (len64_w x _ h0 h1).mono ?_; rintro e w' ⟨rfl, rfl⟩)
  go_ret
  exact ⟨rfl, rfl⟩
theorem bits_m (x : Int) (h0 : 0 ≤ x) (h1 : x ≤ 255) : FnM Tryz.prog 137 [] [vU x] (vI (Lib.bitLen x.toNat)) [] := FnM.wrap' rfl rfl fun w => (len_w x w h0 h1).mono fun _ _ ⟨h, k⟩ => ⟨h, k.symm⟩

set_option maxHeartbeats 2000000 in
theorem offer_pm (g : Led) (x : Off) (hl : g.lins.length ≤ 1000) (ha : g.accs.length ≤ 1000) (ho : g.offs.length ≤ 1000) : FnM Tryz.prog 65 [] [aG g, aO x] (vB (offOk g none x)) [] := by
  refine FnM.of htb Tryz.func65 rfl rfl rfl rfl rfl fun cx hN h0 => ?_
  (repeat' (first | ((with_reducible apply WD_id); first | (refine WD_eq (neT_step rfl rfl rfl) ?_)) | (refine nx ?_) | (refine WD_unk (by exact rfl) ?_; ((refine WD_tf (by exact rfl) (by exact rfl) ?_ ?_) <;> (intro hb; (fail_if_success (with_reducible injection hb)); rw [hb]; (try simp only [List.length_map] at hb)))) | (refine WD_call (by exact rfl) ?_; first | (refine WD_c0 (findA_pm _ _ ?_) ?_; (exact hyp)) | (refine WD_c0 (red_pm _ _) ?_) | (refine WD_c0 (asset_pm _ _) ?_) | (refine WD_c0 (okA_pm _) ?_)) | ((refine WD_tf (by exact rfl) (by exact rfl) ?_ ?_) <;> (intro hb; (fail_if_success (with_reducible injection hb)); rw [hb]; (try simp only [List.length_map] at hb))) | (((with_reducible apply gC2); exact rfl) <;> (intro hb; rw [hb]))))
  all_goals try simp only [Bool.not_eq_true', Bool.not_eq_false', decide_eq_true_eq, decide_eq_false_iff_not, bne_iff_ne, bne_eq_false_iff_eq, beq_iff_eq, beq_eq_false_iff_ne] at *
  all_goals refine gE (.inr rfl) rfl (congrArg vB ?_) trivial
  all_goals symm
  all_goals first
    | (rw [Bool.eq_false_iff, Ne, off_iff]; intro hc; first | omega | simp_all)
    | (rw [off_iff]; repeat' (first | assumption | omega | rfl | (refine ⟨?_, ?_⟩) | (simp_all; done)))
    | (rw [Bool.eq_iff_iff, off_iff, beq_iff_eq]
       constructor
       · intro hc; exact hc.2.2.2.2.2.2.2.2.2.2.2
       · intro hc; refine ⟨by assumption, by omega, by assumption, rfl, by assumption, by assumption, by assumption, by omega, by assumption, by assumption, by assumption, hc⟩)
theorem better_pm (x y : Off) : FnM Tryz.prog 127 [] [aO x, aO y] (vI (orI [cmpP x.num x.den y.num y.den, cmpI x.id y.id])) [] := by
  refine FnM.of htb Tryz.func127 rfl rfl rfl rfl rfl fun cx hN h0 => ?_
  (repeat' (first | (refine nx ?_) | (refine WD_unk (by exact rfl) ?_; ((refine WD_tf (by exact rfl) (by exact rfl) ?_ ?_) <;> (intro hb; (fail_if_success (with_reducible injection hb)); rw [hb]; (try simp only [List.length_map] at hb)))) | (refine WD_call (by exact rfl) ?_; first | (refine WD_c0 (cmpP_pm _ _ _ _) ?_) | (refine WD_c0 (cmp_pm _ _) ?_) | (refine WD_c0 (or_m (l := [cmpP x.num x.den y.num y.den, cmpI x.id y.id]) ?_) ?_; (exact hyp))) | ((refine WD_tf (by exact rfl) (by exact rfl) ?_ ?_) <;> (intro hb; (fail_if_success (with_reducible injection hb)); rw [hb]; (try simp only [List.length_map] at hb))) | (((with_reducible apply gC2); exact rfl) <;> (intro hb; rw [hb]))))
  exact gE (.inr rfl) rfl rfl trivial
theorem better_neg (x y : Off) : decide (orI [cmpP x.num x.den y.num y.den, cmpI x.id y.id] < 0) = betO x y := by
  unfold betO
  simp only [orI, cmpI]
  by_cases h : cmpP x.num x.den y.num y.den = 0
  · by_cases h1 : x.id < y.id
    · simp [h, h1]
    · by_cases h2 : y.id < x.id
      · simp [h, h1, h2]
      · simp [h, h1, h2]
  · simp [h]
theorem swap_rows (m : List Off) (j : Nat) : ((m.map rO).set (j + 1) (rO (nth m j))).set j (rO (nth m (j + 1))) = (swapO m j).map rO := by
  unfold swapO; rw [List.map_set, List.map_set]
set_option maxHeartbeats 1000000 in
theorem ins52_pm (l : List Off) (n : Nat) (hl : l.length ≤ 1000) (hn : n = l.length) : FnM Tryz.prog 162 [(52, .arr 76 9 (l.map rO))] [.own 52, vI 0, vI n, .clo 127 []] (.tup []) [(52, .arr 76 9 ((srtO l (l.length - 1)).map rO))] := by
  subst hn
  refine FnM.of htb Tryz.func162 rfl rfl rfl rfl rfl fun cx hN h0 => ?_
  (repeat' (first | (refine nx ?_) | (refine WD_unk (by exact rfl) ?_; ((refine WD_tf (by exact rfl) (by exact rfl) ?_ ?_) <;> (intro hb; (fail_if_success (with_reducible injection hb)); rw [hb]; (try simp only [List.length_map] at hb)))) | ((refine WD_tf (by exact rfl) (by exact rfl) ?_ ?_) <;> (intro hb; (fail_if_success (with_reducible injection hb)); rw [hb]; (try simp only [List.length_map] at hb))) | (((with_reducible apply gC2); exact rfl) <;> (intro hb; rw [hb]))))
  (refine WA_forV (l.length) [8] [52] (fun k => [(8, vI ((k : Int) + 1))]) (fun k => [(52, .arr 76 9 ((srtO l k).map rO))]) (fun k => k ≤ l.length - 1) ?h0 ?_)
  case h0 => exact Nat.zero_le _
  intro k hk hI
  have hlen := srtO_len l k
  by_cases hk1 : k + 1 < l.length
  · have d1 : decide ((k : Int) + 1 < (l.length : Int)) = true := by simp only [decide_eq_true_eq]; omega
    (repeat' (first | (refine nx ?_) | (refine WD_unk (by exact rfl) ?_; ((refine WD_tf (by exact rfl) (by exact rfl) ?_ ?_) <;> (intro hb; (fail_if_success (with_reducible injection hb)); rw [hb]; (try simp only [List.length_map] at hb)))) | ((refine WD_tf (by exact rfl) (by exact rfl) ?_ ?_) <;> (intro hb; (fail_if_success (with_reducible injection hb)); rw [hb]; (try simp only [List.length_map] at hb))) | (((with_reducible apply gC2); exact rfl) <;> (intro hb; rw [hb]))))
    (refine WA_anyV (α := Nat × List Off) (fun x => x.1) ((k + 1, srtO l k)) [9] [52] (fun x => [(9, vI x.1)]) (fun x => [(52, .arr 76 9 (x.2.map rO))]) (fun x => sinkO x.1 x.2 = srtO l (k + 1) ∧ x.2.length = l.length ∧ x.1 ≤ k + 1) ?h0 ?_)
    case h0 => exact ⟨rfl, hlen, Nat.le_refl _⟩
    rintro ⟨j, m⟩ ⟨h1, h2, h3⟩
    dsimp only at h1 h2 h3
    cases j with
    | zero =>
      have d2 : decide (((0 : Nat) : Int) > 0) = false := by decide
      (repeat' (first | (refine nx ?_) | (refine WD_unk (by exact rfl) ?_; ((refine WD_tf (by exact rfl) (by exact rfl) ?_ ?_) <;> (intro hb; (fail_if_success (with_reducible injection hb)); rw [hb]; (try simp only [List.length_map] at hb)))) | ((refine WD_tf (by exact rfl) (by exact rfl) ?_ ?_) <;> (intro hb; (fail_if_success (with_reducible injection hb)); rw [hb]; (try simp only [List.length_map] at hb))) | (((with_reducible apply gC2); exact rfl) <;> (intro hb; rw [hb]))))
      refine ⟨by omega, by omega, ?_⟩
      have e : m = srtO l (k + 1) := h1
      rw [e]
      (exact LeV [])
    | succ j =>
      have d2 : decide (((j + 1 : Nat) : Int) > 0) = true := by simp only [decide_eq_true_eq]; omega
      have e : (((j + 1 : Nat) : Int) - 1).toNat = j := by omega
      have hsw := swap_rows m j
      cases hb : betO (nth m (j + 1)) (nth m j) with
      | true =>
        have hbn : decide (orI [cmpP (nth m (j + 1)).num (nth m (j + 1)).den (nth m (((j + 1 : Nat) : Int) - 1).toNat).num (nth m (((j + 1 : Nat) : Int) - 1).toNat).den, cmpI (nth m (j + 1)).id (nth m (((j + 1 : Nat) : Int) - 1).toNat).id] < 0) = true := by rw [better_neg, e]; exact hb
        (repeat' (first | (refine nx ?_) | (refine WD_unk (by exact rfl) ?_; ((refine WD_tf (by exact rfl) (by exact rfl) ?_ ?_) <;> (intro hb; (fail_if_success (with_reducible injection hb)); rw [hb]; (try simp only [List.length_map] at hb)))) | (refine WD_call (by exact rfl) ?_; first | (refine WD_c0 (better_pm _ _) ?_)) | ((refine WD_tf (by exact rfl) (by exact rfl) ?_ ?_) <;> (intro hb; (fail_if_success (with_reducible injection hb)); rw [hb]; (try simp only [List.length_map] at hb))) | (((with_reducible apply gC2); exact rfl) <;> (intro hb; rw [hb]))))
        refine WD_ste htb ?_ (hr := by rw [List.getElem?_set_ne (by omega)]; exact rowGet rO m (by omega))
        (repeat' (first | (refine nx ?_) | (refine WD_unk (by exact rfl) ?_; ((refine WD_tf (by exact rfl) (by exact rfl) ?_ ?_) <;> (intro hb; (fail_if_success (with_reducible injection hb)); rw [hb]; (try simp only [List.length_map] at hb)))) | ((refine WD_tf (by exact rfl) (by exact rfl) ?_ ?_) <;> (intro hb; (fail_if_success (with_reducible injection hb)); rw [hb]; (try simp only [List.length_map] at hb))) | (((with_reducible apply gC2); exact rfl) <;> (intro hb; rw [hb]))))
        refine ⟨(j, swapO m j), by dsimp only; omega, ⟨?_, by dsimp only; rw [swapO_len]; exact h2, by dsimp only; omega⟩, ?_⟩
        · rw [← h1]; exact (show sinkO (j + 1) m = _ from if_pos hb).symm
        rw [e]
        (exact LeV [])
      | false =>
        have hbn : decide (orI [cmpP (nth m (j + 1)).num (nth m (j + 1)).den (nth m (((j + 1 : Nat) : Int) - 1).toNat).num (nth m (((j + 1 : Nat) : Int) - 1).toNat).den, cmpI (nth m (j + 1)).id (nth m (((j + 1 : Nat) : Int) - 1).toNat).id] < 0) = false := by rw [better_neg, e]; exact hb
        have hm : m = srtO l (k + 1) := by rw [← h1]; exact (show sinkO (j + 1) m = m from if_neg (by simp [hb])).symm
        (repeat' (first | (refine nx ?_) | (refine WD_unk (by exact rfl) ?_; ((refine WD_tf (by exact rfl) (by exact rfl) ?_ ?_) <;> (intro hb; (fail_if_success (with_reducible injection hb)); rw [hb]; (try simp only [List.length_map] at hb)))) | (refine WD_call (by exact rfl) ?_; first | (refine WD_c0 (better_pm _ _) ?_)) | ((refine WD_tf (by exact rfl) (by exact rfl) ?_ ?_) <;> (intro hb; (fail_if_success (with_reducible injection hb)); rw [hb]; (try simp only [List.length_map] at hb))) | (((with_reducible apply gC2); exact rfl) <;> (intro hb; rw [hb]))))
        refine ⟨by omega, by omega, ?_⟩
        rw [← hm]
        (exact LeV [])
  · have d1 : decide ((k : Int) + 1 < (l.length : Int)) = false := by simp only [decide_eq_false_iff_not]; omega
    (repeat' (first | (refine nx ?_) | (refine WD_unk (by exact rfl) ?_; ((refine WD_tf (by exact rfl) (by exact rfl) ?_ ?_) <;> (intro hb; (fail_if_success (with_reducible injection hb)); rw [hb]; (try simp only [List.length_map] at hb)))) | ((refine WD_tf (by exact rfl) (by exact rfl) ?_ ?_) <;> (intro hb; (fail_if_success (with_reducible injection hb)); rw [hb]; (try simp only [List.length_map] at hb))) | (((with_reducible apply gC2); exact rfl) <;> (intro hb; rw [hb]))))
    have e : k = l.length - 1 := by omega
    rw [← e]
    exact gE (.inl rfl) rfl rfl ⟨rfl, trivial⟩
theorem pdq52_pm (l : List Off) (n : Nat) (b : Int) (hl : l.length ≤ 12) (hn : n = l.length) (h0 : 0 ≤ b) : FnM Tryz.prog 144 [(52, .arr 76 9 (l.map rO))] [.own 52, vI 0, vI n, vI b, .clo 127 []] (.tup []) [(52, .arr 76 9 ((srtO l (l.length - 1)).map rO))] := by
  subst hn
  refine FnM.of htb Tryz.func144 rfl rfl rfl rfl rfl fun cx hN h0 => ?_
  have d1 : decide ((l.length : Int) - 0 ≤ 12) = true := by simp only [decide_eq_true_eq]; omega
  (repeat' (first | (refine nx ?_) | (refine WD_unk (by exact rfl) ?_; ((refine WD_tf (by exact rfl) (by exact rfl) ?_ ?_) <;> (intro hb; (fail_if_success (with_reducible injection hb)); rw [hb]; (try simp only [List.length_map] at hb)))) | ((refine WD_tf (by exact rfl) (by exact rfl) ?_ ?_) <;> (intro hb; (fail_if_success (with_reducible injection hb)); rw [hb]; (try simp only [List.length_map] at hb))) | (((with_reducible apply gC2); exact rfl) <;> (intro hb; rw [hb]))))
  (refine WA_forV (0) [] [] (fun k => []) (fun k => []) (fun k => True) ?h0 ?_)
  case h0 => trivial
  intro k hk _
  (repeat' (first | (refine nx ?_) | (refine WD_unk (by exact rfl) ?_; ((refine WD_tf (by exact rfl) (by exact rfl) ?_ ?_) <;> (intro hb; (fail_if_success (with_reducible injection hb)); rw [hb]; (try simp only [List.length_map] at hb)))) | (refine WD_call (by exact rfl) ?_; first | (refine WD_cM (ins52_pm _ _ ?_ ?_) ?_; (exact hyp); (exact hyp))) | ((refine WD_tf (by exact rfl) (by exact rfl) ?_ ?_) <;> (intro hb; (fail_if_success (with_reducible injection hb)); rw [hb]; (try simp only [List.length_map] at hb))) | (((with_reducible apply gC2); exact rfl) <;> (intro hb; rw [hb]))))
  exact gE (.inr rfl) rfl rfl ⟨rfl, trivial⟩
theorem sort52_pm (l : List Off) (hl : l.length ≤ 12) : FnM Tryz.prog 126 [(52, .arr 76 9 (l.map rO))] [.own 52, .clo 127 []] (.tup []) [(52, .arr 76 9 ((srtO l (l.length - 1)).map rO))] := by
  refine FnM.of htb Tryz.func126 rfl rfl rfl rfl rfl fun cx hN h0 => ?_
  have hw : IntKind.u64.wrap (l.length : Int) = l.length := by simp [IntKind.wrap, IntKind.bits, IntKind.signed]; omega
  (repeat' (first | (refine nx ?_) | (refine WD_unk (by exact rfl) ?_; ((refine WD_tf (by exact rfl) (by exact rfl) ?_ ?_) <;> (intro hb; (fail_if_success (with_reducible injection hb)); rw [hb]; (try simp only [List.length_map] at hb)))) | ((refine WD_tf (by exact rfl) (by exact rfl) ?_ ?_) <;> (intro hb; (fail_if_success (with_reducible injection hb)); rw [hb]; (try simp only [List.length_map] at hb))) | (((with_reducible apply gC2); exact rfl) <;> (intro hb; rw [hb]))))
  rw [hw]
  (repeat' (first | (refine nx ?_) | (refine WD_unk (by exact rfl) ?_; ((refine WD_tf (by exact rfl) (by exact rfl) ?_ ?_) <;> (intro hb; (fail_if_success (with_reducible injection hb)); rw [hb]; (try simp only [List.length_map] at hb)))) | (refine WD_call (by exact rfl) ?_; first | (refine WD_c0 (bits_m _ ?_ ?_) ?_; (exact hyp); (exact hyp)) | (refine WD_cM (pdq52_pm _ _ _ ?_ ?_ ?_) ?_; (exact hyp); (exact hyp); (exact hyp))) | ((refine WD_tf (by exact rfl) (by exact rfl) ?_ ?_) <;> (intro hb; (fail_if_success (with_reducible injection hb)); rw [hb]; (try simp only [List.length_map] at hb))) | (((with_reducible apply gC2); exact rfl) <;> (intro hb; rw [hb]))))
  exact gE (.inl rfl) rfl rfl ⟨rfl, trivial⟩
set_option maxHeartbeats 1000000 in
theorem ins61_pm (l : List Off) (n : Nat) (hl : l.length ≤ 1000) (hn : n = l.length) : FnM Tryz.prog 162 [(61, .arr 76 9 (l.map rO))] [.own 61, vI 0, vI n, .clo 127 []] (.tup []) [(61, .arr 76 9 ((srtO l (l.length - 1)).map rO))] := by
  subst hn
  refine FnM.of htb Tryz.func162 rfl rfl rfl rfl rfl fun cx hN h0 => ?_
  (repeat' (first | (refine nx ?_) | (refine WD_unk (by exact rfl) ?_; ((refine WD_tf (by exact rfl) (by exact rfl) ?_ ?_) <;> (intro hb; (fail_if_success (with_reducible injection hb)); rw [hb]; (try simp only [List.length_map] at hb)))) | ((refine WD_tf (by exact rfl) (by exact rfl) ?_ ?_) <;> (intro hb; (fail_if_success (with_reducible injection hb)); rw [hb]; (try simp only [List.length_map] at hb))) | (((with_reducible apply gC2); exact rfl) <;> (intro hb; rw [hb]))))
  (refine WA_forV (l.length) [8] [61] (fun k => [(8, vI ((k : Int) + 1))]) (fun k => [(61, .arr 76 9 ((srtO l k).map rO))]) (fun k => k ≤ l.length - 1) ?h0 ?_)
  case h0 => exact Nat.zero_le _
  intro k hk hI
  have hlen := srtO_len l k
  by_cases hk1 : k + 1 < l.length
  · have d1 : decide ((k : Int) + 1 < (l.length : Int)) = true := by simp only [decide_eq_true_eq]; omega
    (repeat' (first | (refine nx ?_) | (refine WD_unk (by exact rfl) ?_; ((refine WD_tf (by exact rfl) (by exact rfl) ?_ ?_) <;> (intro hb; (fail_if_success (with_reducible injection hb)); rw [hb]; (try simp only [List.length_map] at hb)))) | ((refine WD_tf (by exact rfl) (by exact rfl) ?_ ?_) <;> (intro hb; (fail_if_success (with_reducible injection hb)); rw [hb]; (try simp only [List.length_map] at hb))) | (((with_reducible apply gC2); exact rfl) <;> (intro hb; rw [hb]))))
    (refine WA_anyV (α := Nat × List Off) (fun x => x.1) ((k + 1, srtO l k)) [9] [61] (fun x => [(9, vI x.1)]) (fun x => [(61, .arr 76 9 (x.2.map rO))]) (fun x => sinkO x.1 x.2 = srtO l (k + 1) ∧ x.2.length = l.length ∧ x.1 ≤ k + 1) ?h0 ?_)
    case h0 => exact ⟨rfl, hlen, Nat.le_refl _⟩
    rintro ⟨j, m⟩ ⟨h1, h2, h3⟩
    dsimp only at h1 h2 h3
    cases j with
    | zero =>
      have d2 : decide (((0 : Nat) : Int) > 0) = false := by decide
      (repeat' (first | (refine nx ?_) | (refine WD_unk (by exact rfl) ?_; ((refine WD_tf (by exact rfl) (by exact rfl) ?_ ?_) <;> (intro hb; (fail_if_success (with_reducible injection hb)); rw [hb]; (try simp only [List.length_map] at hb)))) | ((refine WD_tf (by exact rfl) (by exact rfl) ?_ ?_) <;> (intro hb; (fail_if_success (with_reducible injection hb)); rw [hb]; (try simp only [List.length_map] at hb))) | (((with_reducible apply gC2); exact rfl) <;> (intro hb; rw [hb]))))
      refine ⟨by omega, by omega, ?_⟩
      have e : m = srtO l (k + 1) := h1
      rw [e]
      (exact LeV [])
    | succ j =>
      have d2 : decide (((j + 1 : Nat) : Int) > 0) = true := by simp only [decide_eq_true_eq]; omega
      have e : (((j + 1 : Nat) : Int) - 1).toNat = j := by omega
      have hsw := swap_rows m j
      cases hb : betO (nth m (j + 1)) (nth m j) with
      | true =>
        have hbn : decide (orI [cmpP (nth m (j + 1)).num (nth m (j + 1)).den (nth m (((j + 1 : Nat) : Int) - 1).toNat).num (nth m (((j + 1 : Nat) : Int) - 1).toNat).den, cmpI (nth m (j + 1)).id (nth m (((j + 1 : Nat) : Int) - 1).toNat).id] < 0) = true := by rw [better_neg, e]; exact hb
        (repeat' (first | (refine nx ?_) | (refine WD_unk (by exact rfl) ?_; ((refine WD_tf (by exact rfl) (by exact rfl) ?_ ?_) <;> (intro hb; (fail_if_success (with_reducible injection hb)); rw [hb]; (try simp only [List.length_map] at hb)))) | (refine WD_call (by exact rfl) ?_; first | (refine WD_c0 (better_pm _ _) ?_)) | ((refine WD_tf (by exact rfl) (by exact rfl) ?_ ?_) <;> (intro hb; (fail_if_success (with_reducible injection hb)); rw [hb]; (try simp only [List.length_map] at hb))) | (((with_reducible apply gC2); exact rfl) <;> (intro hb; rw [hb]))))
        refine WD_ste htb ?_ (hr := by rw [List.getElem?_set_ne (by omega)]; exact rowGet rO m (by omega))
        (repeat' (first | (refine nx ?_) | (refine WD_unk (by exact rfl) ?_; ((refine WD_tf (by exact rfl) (by exact rfl) ?_ ?_) <;> (intro hb; (fail_if_success (with_reducible injection hb)); rw [hb]; (try simp only [List.length_map] at hb)))) | ((refine WD_tf (by exact rfl) (by exact rfl) ?_ ?_) <;> (intro hb; (fail_if_success (with_reducible injection hb)); rw [hb]; (try simp only [List.length_map] at hb))) | (((with_reducible apply gC2); exact rfl) <;> (intro hb; rw [hb]))))
        refine ⟨(j, swapO m j), by dsimp only; omega, ⟨?_, by dsimp only; rw [swapO_len]; exact h2, by dsimp only; omega⟩, ?_⟩
        · rw [← h1]; exact (show sinkO (j + 1) m = _ from if_pos hb).symm
        rw [e]
        (exact LeV [])
      | false =>
        have hbn : decide (orI [cmpP (nth m (j + 1)).num (nth m (j + 1)).den (nth m (((j + 1 : Nat) : Int) - 1).toNat).num (nth m (((j + 1 : Nat) : Int) - 1).toNat).den, cmpI (nth m (j + 1)).id (nth m (((j + 1 : Nat) : Int) - 1).toNat).id] < 0) = false := by rw [better_neg, e]; exact hb
        have hm : m = srtO l (k + 1) := by rw [← h1]; exact (show sinkO (j + 1) m = m from if_neg (by simp [hb])).symm
        (repeat' (first | (refine nx ?_) | (refine WD_unk (by exact rfl) ?_; ((refine WD_tf (by exact rfl) (by exact rfl) ?_ ?_) <;> (intro hb; (fail_if_success (with_reducible injection hb)); rw [hb]; (try simp only [List.length_map] at hb)))) | (refine WD_call (by exact rfl) ?_; first | (refine WD_c0 (better_pm _ _) ?_)) | ((refine WD_tf (by exact rfl) (by exact rfl) ?_ ?_) <;> (intro hb; (fail_if_success (with_reducible injection hb)); rw [hb]; (try simp only [List.length_map] at hb))) | (((with_reducible apply gC2); exact rfl) <;> (intro hb; rw [hb]))))
        refine ⟨by omega, by omega, ?_⟩
        rw [← hm]
        (exact LeV [])
  · have d1 : decide ((k : Int) + 1 < (l.length : Int)) = false := by simp only [decide_eq_false_iff_not]; omega
    (repeat' (first | (refine nx ?_) | (refine WD_unk (by exact rfl) ?_; ((refine WD_tf (by exact rfl) (by exact rfl) ?_ ?_) <;> (intro hb; (fail_if_success (with_reducible injection hb)); rw [hb]; (try simp only [List.length_map] at hb)))) | ((refine WD_tf (by exact rfl) (by exact rfl) ?_ ?_) <;> (intro hb; (fail_if_success (with_reducible injection hb)); rw [hb]; (try simp only [List.length_map] at hb))) | (((with_reducible apply gC2); exact rfl) <;> (intro hb; rw [hb]))))
    have e : k = l.length - 1 := by omega
    rw [← e]
    exact gE (.inl rfl) rfl rfl ⟨rfl, trivial⟩
theorem pdq61_pm (l : List Off) (n : Nat) (b : Int) (hl : l.length ≤ 12) (hn : n = l.length) (h0 : 0 ≤ b) : FnM Tryz.prog 144 [(61, .arr 76 9 (l.map rO))] [.own 61, vI 0, vI n, vI b, .clo 127 []] (.tup []) [(61, .arr 76 9 ((srtO l (l.length - 1)).map rO))] := by
  subst hn
  refine FnM.of htb Tryz.func144 rfl rfl rfl rfl rfl fun cx hN h0 => ?_
  have d1 : decide ((l.length : Int) - 0 ≤ 12) = true := by simp only [decide_eq_true_eq]; omega
  (repeat' (first | (refine nx ?_) | (refine WD_unk (by exact rfl) ?_; ((refine WD_tf (by exact rfl) (by exact rfl) ?_ ?_) <;> (intro hb; (fail_if_success (with_reducible injection hb)); rw [hb]; (try simp only [List.length_map] at hb)))) | ((refine WD_tf (by exact rfl) (by exact rfl) ?_ ?_) <;> (intro hb; (fail_if_success (with_reducible injection hb)); rw [hb]; (try simp only [List.length_map] at hb))) | (((with_reducible apply gC2); exact rfl) <;> (intro hb; rw [hb]))))
  (refine WA_forV (0) [] [] (fun k => []) (fun k => []) (fun k => True) ?h0 ?_)
  case h0 => trivial
  intro k hk _
  (repeat' (first | (refine nx ?_) | (refine WD_unk (by exact rfl) ?_; ((refine WD_tf (by exact rfl) (by exact rfl) ?_ ?_) <;> (intro hb; (fail_if_success (with_reducible injection hb)); rw [hb]; (try simp only [List.length_map] at hb)))) | (refine WD_call (by exact rfl) ?_; first | (refine WD_cM (ins61_pm _ _ ?_ ?_) ?_; (exact hyp); (exact hyp))) | ((refine WD_tf (by exact rfl) (by exact rfl) ?_ ?_) <;> (intro hb; (fail_if_success (with_reducible injection hb)); rw [hb]; (try simp only [List.length_map] at hb))) | (((with_reducible apply gC2); exact rfl) <;> (intro hb; rw [hb]))))
  exact gE (.inr rfl) rfl rfl ⟨rfl, trivial⟩
theorem sort61_pm (l : List Off) (hl : l.length ≤ 12) : FnM Tryz.prog 126 [(61, .arr 76 9 (l.map rO))] [.own 61, .clo 127 []] (.tup []) [(61, .arr 76 9 ((srtO l (l.length - 1)).map rO))] := by
  refine FnM.of htb Tryz.func126 rfl rfl rfl rfl rfl fun cx hN h0 => ?_
  have hw : IntKind.u64.wrap (l.length : Int) = l.length := by simp [IntKind.wrap, IntKind.bits, IntKind.signed]; omega
  (repeat' (first | (refine nx ?_) | (refine WD_unk (by exact rfl) ?_; ((refine WD_tf (by exact rfl) (by exact rfl) ?_ ?_) <;> (intro hb; (fail_if_success (with_reducible injection hb)); rw [hb]; (try simp only [List.length_map] at hb)))) | ((refine WD_tf (by exact rfl) (by exact rfl) ?_ ?_) <;> (intro hb; (fail_if_success (with_reducible injection hb)); rw [hb]; (try simp only [List.length_map] at hb))) | (((with_reducible apply gC2); exact rfl) <;> (intro hb; rw [hb]))))
  rw [hw]
  (repeat' (first | (refine nx ?_) | (refine WD_unk (by exact rfl) ?_; ((refine WD_tf (by exact rfl) (by exact rfl) ?_ ?_) <;> (intro hb; (fail_if_success (with_reducible injection hb)); rw [hb]; (try simp only [List.length_map] at hb)))) | (refine WD_call (by exact rfl) ?_; first | (refine WD_c0 (bits_m _ ?_ ?_) ?_; (exact hyp); (exact hyp)) | (refine WD_cM (pdq61_pm _ _ _ ?_ ?_ ?_) ?_; (exact hyp); (exact hyp); (exact hyp))) | ((refine WD_tf (by exact rfl) (by exact rfl) ?_ ?_) <;> (intro hb; (fail_if_success (with_reducible injection hb)); rw [hb]; (try simp only [List.length_map] at hb))) | (((with_reducible apply gC2); exact rfl) <;> (intro hb; rw [hb]))))
  exact gE (.inl rfl) rfl rfl ⟨rfl, trivial⟩
end Go.Proofs.YtgebgpdoddjfhaaGreat
