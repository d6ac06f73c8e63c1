/- Contracts: trusts of two levels. -/
import Derived.Test.YtkjpnmodlmlhdaaGreatDoorQAI
import Derived.Test.YtkjpnmodlmlhdaaGreatDoorQAH
import Derived.Test.YtkjpnmodlmlhdaaGreatDoorQAJ
import Derived.Test.YtkjpnmodlmlhdaaGreatDoorQAA
import Derived.Sort.Walk0
import Derived.Test.YtkjpnmodlmlhdaaGreatDoorQAF
namespace Go.Proofs.YtkjpnmodlmlhdaaGreatDoor
set_option linter.unusedSimpArgs false
set_option linter.unusedVariables false
set_option linter.unnecessarySimpa false
set_option linter.unusedSectionVars false
set_option maxRecDepth 100000
open Go Go.RowKit Go.Am Go.Proofs.Grow
theorem aTr_p (t : Tr) : aTr t = .agg [vI t.k, lI t.ns, .d (.rows 3 (t.is.map rTp))] := by
  show AV.agg [vI t.k, lI t.ns, .d (.rows 3 (t.is.map rTr))] = _
  rw [rTr_p]
theorem aTr_cast2 (k : Int) (m : List Nat) (is : List Tr) : aTr (.mk k (m.map fun x : Nat => (x : Int)) is) = .agg [vI k, lN m, .d (.rows 3 (is.map rTp))] := by
  rw [aTr_cast]
  show AV.agg [vI k, lN m, .d (.rows 3 (is.map rTr))] = _
  rw [rTr_p]
theorem tr2_m (s : Sc) (n : Nat) (hs : s.ok) (h1 : 1 ≤ n) (h2 : n ≤ 5) : FnM Tryz.prog 128 [(9000, tpB s)] [.ptr 9000 0, vI (n : Int), vI 2] (aTr (tr2F s n).1) [(9000, tpB (tr2F s n).2)] := by
  obtain ⟨ho1, ho2, ho3⟩ := ordF_spec hs h1
  unfold tr2F
  generalize hp : ordF s n = p at *
  obtain ⟨l, s1⟩ := p
  dsimp only at ho1 ho2 ho3 ⊢
  have hr := rgN_bd (s := s1) h1
  have hs2 := Sc.ok_x ho3 (n : Int)
  have rgA_m := tRg_m s1 n (if (5 : Int) < (n : Int) then 5 else (n : Int)) ho3 h1 (by omega) (by rw [if_neg (by omega)])
  have hrl : (l.take (rgN s1 n)).length = rgN s1 n := by rw [List.length_take]; omega
  generalize hrr : rgN s1 n = r at *
  have hlr : r ≤ (l.map rN).length := by rw [List.length_map]; omega
  generalize hsa : s1.x n = sa at *
  have hnb := sa.n_bd (k := 6) (by omega)
  have pkA_m := tP_m sa picks hs2 (by decide) (by decide)
  rw [show ((picks.length : Nat) : Int) = 6 from rfl] at pkA_m
  have hpb := pick_bd (k := (sa.n 6).toNat) (by omega)
  obtain ⟨i, hi⟩ : ∃ i : Nat, nth picks (sa.n 6).toNat = (i : Int) := ⟨(nth picks (sa.n 6).toNat).toNat, by omega⟩
  rw [hi] at pkA_m hpb ⊢
  rw [Int.toNat_natCast]
  have hs3 := Sc.ok_x hs2 6
  generalize hsb : sa.x 6 = sb at *
  refine FnM.of htb Tryz.func128 rfl rfl rfl rfl rfl fun cx hN h0 => ?_
  have tOX : FnM Tryz.prog 172 [(9000, tpB s)] [.ptr 9000 0, vI (n : Int)] (lN l) [(9000, tpB s1)] := by
    have := tO_m s n hs h1 (by omega)
    rw [hp] at this; exact this
  have tOX_m := tOX
  (repeat' (first | ((with_reducible apply WD_id); first | (refine WD_sum ?_) | (refine WD_nxt htb (by exact rfl) ?_) | (refine WD_call (by exact rfl) ?_; first | (refine WD_cM (tOX_m) ?_) | (refine WD_cM (rgA_m) ?_)) | (refine WD_idx htb ?_) | (refine WD_ap htb ?_) | (refine WD_slc htb ?_) | (refine WD_t (by exact rfl) (by exact rfl) (by exact known) fun hb => ?_; rw [hb]; clear hb) | (refine WD_f (by exact rfl) (by exact rfl) (by exact known) fun hb => ?_; rw [hb]; clear hb)) | (with_reducible apply WA_seq) | ((with_reducible apply gR hmix hN); exact (by kernel_rfl); (try dsimp only [List.append_eq, List.cons_append, List.nil_append])) | ((with_reducible apply WD_end); (first | exact no_draw | (intro _; kernel_rfl)); try simp only [thn, inB, List.length_map, List.cons_append, List.nil_append]) | ((with_reducible apply gCt); exact rfl; exact rfl) | ((with_reducible apply gCf); exact rfl; exact rfl) | ((with_reducible apply gCk); exact rfl; exact known; intro hb; rw [hb]; clear hb) | ((with_reducible apply gCn); exact rfl; exact known; intro hb; rw [hb]; clear hb) | (with_reducible apply WA_block) | ((with_reducible first | apply WA_skip | apply WA_ret | apply WA_exit | apply WA_label); try simp only [thn, inB, List.length_map, List.cons_append, List.nil_append])))
  rw [show List.drop 0 (List.take r (List.map rN l)) = (l.take r).map rN by rw [List.drop_zero, List.map_take], List.length_map]
  refine WA_le (Le_nilM 60 7 1 3 1 rfl rfl rfl rfl) ?_
  refine WA_le (Le_nilM 61 7 2 37 3 rfl rfl rfl rfl) ?_
  generalize hm : l.take r = m at *
  (refine WA_forV (m.length) [22] [7, 60, 61, 9000] (fun k => [(22, vI k)]) (fun k => [(9000, tpB sa), (7, .box 37 [vI 0, .own 60, .own 61]), (60, .arr 3 1 ((m.take k).map rN)), (61, .arr 37 3 [])]) (fun k => True) ?h0 ?_)
  case h0 => trivial
  intro k hk _
  have hlk : (m.take k).length ≤ k := by rw [List.length_take]; omega
  rcases Nat.lt_or_ge k m.length with hk' | hk'
  · have t1 : decide ((k : Int) < (m.length : Int)) = true := by simp; omega
    have hw : (m.take (k + 1)) = m.take k ++ [nth m k] := by rw [List.take_succ_eq_append_getElem hk', nth_getElem _ _ hk']
    (repeat' (first | ((with_reducible apply WD_id); first | (refine WD_sum ?_) | (refine WD_nxt htb (by exact rfl) ?_) | (refine WD_idx htb ?_) | (refine WD_ap htb ?_) | (refine WD_slc htb ?_) | (refine WD_t (by exact rfl) (by exact rfl) (by exact known) fun hb => ?_; rw [hb]; clear hb) | (refine WD_f (by exact rfl) (by exact rfl) (by exact known) fun hb => ?_; rw [hb]; clear hb)) | (with_reducible apply WA_seq) | ((with_reducible apply gR hmix hN); exact (by kernel_rfl); (try dsimp only [List.append_eq, List.cons_append, List.nil_append])) | ((with_reducible apply WD_end); (first | exact no_draw | (intro _; kernel_rfl)); try simp only [thn, inB, List.length_map, List.cons_append, List.nil_append]) | ((with_reducible apply gCt); exact rfl; exact rfl) | ((with_reducible apply gCf); exact rfl; exact rfl) | ((with_reducible apply gCk); exact rfl; exact known; intro hb; rw [hb]; clear hb) | ((with_reducible apply gCn); exact rfl; exact known; intro hb; rw [hb]; clear hb) | (with_reducible apply WA_block) | ((with_reducible first | apply WA_skip | apply WA_ret | apply WA_exit | apply WA_label); try simp only [thn, inB, List.length_map, List.cons_append, List.nil_append])))
    refine ⟨hk', trivial, ?_⟩
    rw [hw, List.map_append, List.map_cons, List.map_nil]
    (exact LeV [(60, 30)])
  have t1 : decide ((k : Int) < (m.length : Int)) = false := by simp; omega
  have e1 : m.take k = m := take_all hk'
  rw [e1]
  have hml : (m.map rN).length ≤ 10 := by rw [List.length_map]; omega
  (repeat' (first | ((with_reducible apply WD_id); first | (refine WD_sum ?_) | (refine WD_nxt htb (by exact rfl) ?_) | (refine WD_call (by exact rfl) ?_; first | (refine WD_cM (pkA_m) ?_)) | (refine WD_idx htb ?_) | (refine WD_ap htb ?_) | (refine WD_slc htb ?_) | (refine WD_t (by exact rfl) (by exact rfl) (by exact known) fun hb => ?_; rw [hb]; clear hb) | (refine WD_f (by exact rfl) (by exact rfl) (by exact known) fun hb => ?_; rw [hb]; clear hb)) | (with_reducible apply WA_seq) | ((with_reducible apply gR hmix hN); exact (by kernel_rfl); (try dsimp only [List.append_eq, List.cons_append, List.nil_append])) | ((with_reducible apply WD_end); (first | exact no_draw | (intro _; kernel_rfl)); try simp only [thn, inB, List.length_map, List.cons_append, List.nil_append]) | ((with_reducible apply gCt); exact rfl; exact rfl) | ((with_reducible apply gCf); exact rfl; exact rfl) | ((with_reducible apply gCk); exact rfl; exact known; intro hb; rw [hb]; clear hb) | ((with_reducible apply gCn); exact rfl; exact known; intro hb; rw [hb]; clear hb) | (with_reducible apply WA_block) | ((with_reducible first | apply WA_skip | apply WA_ret | apply WA_exit | apply WA_label); try simp only [thn, inB, List.length_map, List.cons_append, List.nil_append])))
  (refine WA_anyV (α := Nat × Sc × List Tr) (fun x => x.1) ((i, sb, [])) [11] [9000, 61] (fun x => [(11, vI ((x.1 : Nat) : Int))]) (fun x => [(9000, tpB x.2.1), (61, .arr 37 3 (x.2.2.map rTp))]) (fun x => x.1 ≤ 3 ∧ x.2.1.ok ∧ x.2.2.length + x.1 = i ∧ innF i sb n [] = innF x.1 x.2.1 n x.2.2) ?h0 ?_)
  case h0 => exact ⟨by omega, hs3, by simp, rfl⟩
  rintro ⟨j, s4, o⟩ ⟨hj, hs4, hol, hI⟩
  dsimp only at hj hs4 hol hI ⊢
  rw [hI]
  cases j with
  | succ j =>
    have t2 : decide (((j + 1 : Nat) : Int) > 0) = true := by simp <;> omega
    have tr1X_m := tr1_m s4 n hs4 h1 h2
    (repeat' (first | ((with_reducible apply WD_id); first | (refine WD_sum ?_) | (refine WD_nxt htb (by exact rfl) ?_) | (refine WD_call (by exact rfl) ?_; first | (refine WD_cM (tr1X_m) ?_)) | (refine WD_idx htb ?_) | (refine WD_ap htb ?_) | (refine WD_slc htb ?_) | (refine WD_t (by exact rfl) (by exact rfl) (by exact known) fun hb => ?_; rw [hb]; clear hb) | (refine WD_f (by exact rfl) (by exact rfl) (by exact known) fun hb => ?_; rw [hb]; clear hb)) | (with_reducible apply WA_seq) | ((with_reducible apply gR hmix hN); exact (by kernel_rfl); (try dsimp only [List.append_eq, List.cons_append, List.nil_append])) | ((with_reducible apply WD_end); (first | exact no_draw | (intro _; kernel_rfl)); try simp only [thn, inB, List.length_map, List.cons_append, List.nil_append]) | ((with_reducible apply gCt); exact rfl; exact rfl) | ((with_reducible apply gCf); exact rfl; exact rfl) | ((with_reducible apply gCk); exact rfl; exact known; intro hb; rw [hb]; clear hb) | ((with_reducible apply gCn); exact rfl; exact known; intro hb; rw [hb]; clear hb) | (with_reducible apply WA_block) | ((with_reducible first | apply WA_skip | apply WA_ret | apply WA_exit | apply WA_label); try simp only [thn, inB, List.length_map, List.cons_append, List.nil_append])))
    refine ⟨(j, (tr1F s4 n).2, o ++ [(tr1F s4 n).1]), by dsimp only; omega, ⟨by dsimp only; omega, (tr1_spec hs4 h1 h2).2.2, by simp; omega, rfl⟩, ?_⟩
    rw [List.map_append, List.map_cons, List.map_nil]
    (exact LeV [(61, 50)])
  | zero =>
    have t2 : decide (((0 : Nat) : Int) > 0) = false := by simp
    rw [show innF 0 s4 n o = (o, s4) from rfl]
    dsimp only
    have hom : (o.map rTp).length ≤ 10 := by rw [List.length_map]; omega
    by_cases ho : o.length = 0
    · rw [if_pos ho]
      have t3 : decide (((o.map rTp).length : Int) > 0) = false := by simp only [decide_eq_false_iff_not, List.length_map]; omega
      have hra := rgN_bd (s := s4) (b := r) hr.1
      have rgC_m := tRg_m s4 r ((((m.map rN).length : Nat) : Int) + (((o.map rTp).length : Nat) : Int)) hs4 hr.1 (by omega) (by simp; omega)
      (repeat' (first | ((with_reducible apply WD_id); first | (refine WD_sum ?_) | (refine WD_nxt htb (by exact rfl) ?_) | (refine WD_call (by exact rfl) ?_; first | (refine WD_cM (rgC_m) ?_)) | (refine WD_idx htb ?_) | (refine WD_ap htb ?_) | (refine WD_slc htb ?_) | (refine WD_t (by exact rfl) (by exact rfl) (by exact known) fun hb => ?_; rw [hb]; clear hb) | (refine WD_f (by exact rfl) (by exact rfl) (by exact known) fun hb => ?_; rw [hb]; clear hb)) | (with_reducible apply WA_seq) | ((with_reducible apply gR hmix hN); exact (by kernel_rfl); (try dsimp only [List.append_eq, List.cons_append, List.nil_append])) | ((with_reducible apply WD_end); (first | exact no_draw | (intro _; kernel_rfl)); try simp only [thn, inB, List.length_map, List.cons_append, List.nil_append]) | ((with_reducible apply gCt); exact rfl; exact rfl) | ((with_reducible apply gCf); exact rfl; exact rfl) | ((with_reducible apply gCk); exact rfl; exact known; intro hb; rw [hb]; clear hb) | ((with_reducible apply gCn); exact rfl; exact known; intro hb; rw [hb]; clear hb) | (with_reducible apply WA_block) | ((with_reducible first | apply WA_skip | apply WA_ret | apply WA_exit | apply WA_label); try simp only [thn, inB, List.length_map, List.cons_append, List.nil_append])))
      obtain rfl : o = [] := List.eq_nil_of_length_eq_zero ho
      rw [aTr_cast]
      (exact glV [(6, .ptr 6 0)] [(6, .box 37 [vI ((rgN s4 r : Nat) : Int), lN m, .d (.rows 3 [])]), (9000, tpB (s4.x r))] (LeV []))
    · rw [if_neg ho]
      have t3 : decide (((o.map rTp).length : Int) > 0) = true := by simp only [decide_eq_true_eq, List.length_map]; omega
      have hb3 := s4.n_bd (k := 3) (by omega)
      have nnA_m := tN_m s4 3 hs4 (by omega) (by omega)
      have hs5 := Sc.ok_x hs4 3
      by_cases hz : s4.n 3 = 0
      · rw [if_pos hz]
        have t4 : (s4.n 3 == 0) = true := by simpa using hz
        have rgC_m := tRg_m (s4.x 3) o.length (0 + (((o.map rTp).length : Nat) : Int)) hs5 (by omega) (by omega) (by simp)
        (repeat' (first | ((with_reducible apply WD_id); first | (refine WD_sum ?_) | (refine WD_nxt htb (by exact rfl) ?_) | (refine WD_call (by exact rfl) ?_; first | (refine WD_cM (nnA_m) ?_) | (refine WD_cM (rgC_m) ?_)) | (refine WD_idx htb ?_) | (refine WD_ap htb ?_) | (refine WD_slc htb ?_) | (refine WD_t (by exact rfl) (by exact rfl) (by exact known) fun hb => ?_; rw [hb]; clear hb) | (refine WD_f (by exact rfl) (by exact rfl) (by exact known) fun hb => ?_; rw [hb]; clear hb)) | (with_reducible apply WA_seq) | ((with_reducible apply gR hmix hN); exact (by kernel_rfl); (try dsimp only [List.append_eq, List.cons_append, List.nil_append])) | ((with_reducible apply WD_end); (first | exact no_draw | (intro _; kernel_rfl)); try simp only [thn, inB, List.length_map, List.cons_append, List.nil_append]) | ((with_reducible apply gCt); exact rfl; exact rfl) | ((with_reducible apply gCf); exact rfl; exact rfl) | ((with_reducible apply gCk); exact rfl; exact known; intro hb; rw [hb]; clear hb) | ((with_reducible apply gCn); exact rfl; exact known; intro hb; rw [hb]; clear hb) | (with_reducible apply WA_block) | ((with_reducible first | apply WA_skip | apply WA_ret | apply WA_exit | apply WA_label); try simp only [thn, inB, List.length_map, List.cons_append, List.nil_append])))
        rw [aTr_p]
        (exact glV [(6, .ptr 6 0)] [(6, .box 37 [vI ((rgN (s4.x 3) o.length : Nat) : Int), .d (.rows 1 []), .d (.rows 3 (o.map rTp))]), (9000, tpB ((s4.x 3).x o.length))] (LeV []))
      · rw [if_neg hz]
        have t4 : (s4.n 3 == 0) = false := by simpa using hz
        have rgC_m := tRg_m (s4.x 3) (r + o.length) ((((m.map rN).length : Nat) : Int) + (((o.map rTp).length : Nat) : Int)) hs5 (by omega) (by omega) (by simp; omega)
        (repeat' (first | ((with_reducible apply WD_id); first | (refine WD_sum ?_) | (refine WD_nxt htb (by exact rfl) ?_) | (refine WD_call (by exact rfl) ?_; first | (refine WD_cM (nnA_m) ?_) | (refine WD_cM (rgC_m) ?_)) | (refine WD_idx htb ?_) | (refine WD_ap htb ?_) | (refine WD_slc htb ?_) | (refine WD_t (by exact rfl) (by exact rfl) (by exact known) fun hb => ?_; rw [hb]; clear hb) | (refine WD_f (by exact rfl) (by exact rfl) (by exact known) fun hb => ?_; rw [hb]; clear hb)) | (with_reducible apply WA_seq) | ((with_reducible apply gR hmix hN); exact (by kernel_rfl); (try dsimp only [List.append_eq, List.cons_append, List.nil_append])) | ((with_reducible apply WD_end); (first | exact no_draw | (intro _; kernel_rfl)); try simp only [thn, inB, List.length_map, List.cons_append, List.nil_append]) | ((with_reducible apply gCt); exact rfl; exact rfl) | ((with_reducible apply gCf); exact rfl; exact rfl) | ((with_reducible apply gCk); exact rfl; exact known; intro hb; rw [hb]; clear hb) | ((with_reducible apply gCn); exact rfl; exact known; intro hb; rw [hb]; clear hb) | (with_reducible apply WA_block) | ((with_reducible first | apply WA_skip | apply WA_ret | apply WA_exit | apply WA_label); try simp only [thn, inB, List.length_map, List.cons_append, List.nil_append])))
        rw [aTr_cast2]
        (exact glV [(6, .ptr 6 0)] [(6, .box 37 [vI ((rgN (s4.x 3) (r + o.length) : Nat) : Int), lN m, .d (.rows 3 (o.map rTp))]), (9000, tpB ((s4.x 3).x (r + o.length : Nat)))] (LeV []))
end Go.Proofs.YtkjpnmodlmlhdaaGreatDoor
/- Plain facts: trusts that fit a configuration. No program stands here. -/
namespace Go.Proofs.YtkjpnmodlmlhdaaGreatDoor
set_option linter.unusedSimpArgs false
set_option linter.unusedVariables false
set_option linter.unnecessarySimpa false
set_option linter.unusedSectionVars false
set_option maxRecDepth 100000
open Go Go.RowKit Go.Am Go.Proofs.Grow
mutual
theorem lev_kb : ∀ t : Tr, levT t = 0 → (kbT t : Int) ≤ sizT t
  | .mk k ns is, h => by
    simp only [levT] at h
    split at h
    · omega
    rename_i h1
    split at h
    · omega
    split at h
    · rename_i h2; exact absurd h h2
    have h3 := lev_kbL is ((ns.length : Int) + (is.length : Int)) (by omega) h
    have h4 := sizL_nn is ((ns.length : Int) + (is.length : Int))
    simp only [kbT, sizT]
    omega
theorem lev_kbL : ∀ (l : List Tr) (a : Int), 0 ≤ a → levL l = 0 → (kbL l : Int) ≤ sizL l a
  | [], a, ha, _ => by simp only [kbL, sizL]; omega
  | t :: r, a, ha, h => by
    simp only [levL] at h
    split at h
    · rename_i h1; exact absurd h h1
    rename_i h1
    have h2 := lev_kb t (by omega)
    have h3 := siz_nn t
    have h4 := lev_kbL r (a + sizT t) (by omega) h
    have h5 := sizL_nn r (a + sizT t)
    simp only [kbL, sizL]
    omega
end
/-- A right trust that fits n nodes. -/
structure FitT (n : Nat) (t : Tr) : Prop where
  chk : chkT t = 0
  use : useT t < ((2 ^ n : Nat) : Int)
theorem chk_lev {t : Tr} (h : chkT t = 0) : sizT t ≤ 200 ∧ levT t = 0 := by
  unfold chkT at h
  split at h
  · omega
  · exact ⟨by omega, h⟩
theorem FitT.siz {n : Nat} {t : Tr} (h : FitT n t) : sizT t ≤ 200 := (chk_lev h.chk).1
theorem FitT.kb {n : Nat} {t : Tr} (h : FitT n t) : kbT t ≤ 200 := by
  have := lev_kb t (chk_lev h.chk).2
  have := h.siz
  omega
theorem or_ltn {a b n : Nat} (ha : a < 2 ^ n) (hb : b < 2 ^ n) : a ||| b < 2 ^ n := Nat.or_lt_two_pow ha hb
theorem useI_lt {n : Nat} (hn : n ≤ 10) : ∀ (l : List Int) (a : Nat), (∀ x ∈ l, 0 ≤ x ∧ x < (n : Int)) → a < 2 ^ n → ∃ b : Nat, useI l (a : Int) = (b : Int) ∧ b < 2 ^ n
  | [], a, _, ha => ⟨a, rfl, ha⟩
  | x :: r, a, h, ha => by
    have hx := h x (by simp)
    have h2 := two_le hn
    obtain ⟨k, rfl⟩ : ∃ k : Nat, x = (k : Int) := ⟨x.toNat, by omega⟩
    have hk : k < n := by omega
    have hp : 2 ^ k < 2 ^ n := Nat.pow_lt_pow_right (by decide) hk
    have h1 : nodeB (k : Int) = true := by simp [nodeB]; omega
    rw [useI, if_pos h1, shl_nat (by omega), bor_nat (by omega) (by omega)]
    exact useI_lt hn r _ (fun y hy => h y (by simp [hy])) (or_ltn ha hp)
theorem useL_lt {n : Nat} (hn : n ≤ 10) : ∀ (l : List Tr) (a : Nat), (∀ x ∈ l, ∃ b : Nat, useT x = (b : Int) ∧ b < 2 ^ n) → a < 2 ^ n → ∃ b : Nat, useL l (a : Int) = (b : Int) ∧ b < 2 ^ n
  | [], a, _, ha => ⟨a, rfl, ha⟩
  | x :: r, a, h, ha => by
    obtain ⟨b, hb, hl⟩ := h x (by simp)
    have h2 := two_le hn
    rw [useL, hb, bor_nat (by omega) (by omega)]
    exact useL_lt hn r _ (fun y hy => h y (by simp [hy])) (or_ltn ha hl)
theorem useT_leaf {n : Nat} (hn : n ≤ 10) {t : Tr} (hi : t.is = []) (h : ∀ x ∈ t.ns, 0 ≤ x ∧ x < (n : Int)) : ∃ b : Nat, useT t = (b : Int) ∧ b < 2 ^ n := by
  cases t with
  | mk k ns is =>
    obtain rfl : is = [] := hi
    obtain ⟨b, hb, hl⟩ := useI_lt hn ns 0 h (Nat.pow_pos (by decide))
    exact ⟨b, by simp only [useT, useL]; exact hb, hl⟩
theorem GoodT.use {n : Nat} (hn : n ≤ 10) {t : Tr} (h : GoodT n t) : ∃ b : Nat, useT t = (b : Int) ∧ b < 2 ^ n := by
  obtain ⟨g1, g2, g3, g4⟩ := h
  cases t with
  | mk k ns is =>
    obtain ⟨b, hb, hl⟩ := useI_lt hn ns 0 g1 (Nat.pow_pos (by decide))
    obtain ⟨c, hc, hl2⟩ := useL_lt hn is b (fun x hx => useT_leaf hn (g4 x hx).1 (g4 x hx).2.2) hl
    refine ⟨c, ?_, hl2⟩
    simp only [useT]
    rw [show (0 : Int) = ((0 : Nat) : Int) from rfl, hb, hc]
theorem siz_leaf {t : Tr} (hi : t.is = []) : sizT t = t.ns.length := by
  cases t with
  | mk k ns is => obtain rfl : is = [] := hi; simp [sizT, sizL, Tr.ns]
theorem sizL_leaf : ∀ (l : List Tr) (a : Int), (∀ y ∈ l, y.is = [] ∧ y.ns.length ≤ 5) → sizL l a ≤ a + 5 * (l.length : Int)
  | [], a, _ => by simp [sizL]
  | t :: r, a, h => by
    have h1 := h t (by simp)
    have h2 := siz_leaf h1.1
    have h3 := sizL_leaf r (a + sizT t) (fun y hy => h y (by simp [hy]))
    simp only [sizL, List.length_cons]
    omega
theorem GoodT.siz {n : Nat} {t : Tr} (h : GoodT n t) : sizT t ≤ 200 := by
  obtain ⟨g1, g2, g3, g4⟩ := h
  cases t with
  | mk k ns is =>
    have := sizL_leaf is ((ns.length : Int) + (is.length : Int)) (fun y hy => ⟨(g4 y hy).1, (g4 y hy).2.1⟩)
    simp only [Tr.ns, Tr.is] at g2 g3
    simp only [sizT]
    omega
theorem dep_leaf {t : Tr} (hi : t.is = []) : depT t = 1 := by
  cases t with
  | mk k ns is => obtain rfl : is = [] := hi; simp [depT, depL]
theorem depL_leaf : ∀ (l : List Tr) (a : Int), (∀ y ∈ l, y.is = []) → a ≤ 1 → depL l a ≤ 1
  | [], a, _, h => by simpa [depL] using h
  | t :: r, a, h, ha => by
    simp only [depL]
    refine depL_leaf r _ (fun y hy => h y (by simp [hy])) ?_
    rw [dep_leaf (h t (by simp))]
    unfold mxI; split <;> omega
theorem GoodT.fit {n : Nat} (hn : n ≤ 10) {t : Tr} (h : GoodT n t) (hc : chkT t = 0) : FitT n t := by
  obtain ⟨b, hb, hl⟩ := h.use hn
  exact ⟨hc, by omega⟩
theorem ofI_nodup : ∀ (l : List Nat) (a : Nat), a < 1024 → (∀ x ∈ l, x < 10 ∧ a.testBit x = false) → l.Nodup → (ofI (l.map fun x : Nat => (x : Int)) (a : Int)).2 = 0
  | [], a, _, _, _ => rfl
  | x :: r, a, ha, h, hd => by
    have hx := h x (by simp)
    have hp := pow_lt hx.1
    obtain ⟨hd1, hd2⟩ := List.nodup_cons.1 hd
    have h1 : nodeB (x : Int) = true := by simp [nodeB]; omega
    have h2 : hasB (a : Int) (x : Int) = false := by rw [has_nat ha hx.1]; exact hx.2
    rw [List.map_cons, ofI, if_neg (by rw [h1]; simp), if_neg (by rw [h2]; simp), shl_nat (by omega), bor_nat (by omega) (by omega)]
    refine ofI_nodup r _ (or_lt10 ha hp) (fun y hy => ⟨(h y (by simp [hy])).1, ?_⟩) hd2
    rw [Nat.testBit_or, (h y (by simp [hy])).2, Nat.testBit_two_pow_of_ne (fun e => hd1 (by rw [e]; exact hy))]
    rfl
theorem idx_no {l : List Int} (h : ∀ x ∈ l, nodeB x = true) : ∀ k, idxF (fun k => !nodeB k) k l = -1 := by
  induction l with
  | nil => intro k; rfl
  | cons x r ih =>
    intro k
    rw [idxF, if_neg (by rw [h x (by simp)]; simp)]
    exact ih (fun y hy => h y (by simp [hy])) _
/-- The first tests of a level. -/
theorem lev_eq (k : Nat) (l : List Nat) (is : List Tr) (h1 : 1 ≤ k) (h2 : k ≤ l.length + is.length) (hl : ∀ x ∈ l, x < 10) (hd : l.Nodup) : levT (.mk (k : Int) (l.map fun x : Nat => (x : Int)) is) = levL is := by
  have e := idx_no (l := l.map fun x : Nat => (x : Int)) (fun x hx => by
    obtain ⟨y, hy, rfl⟩ := List.mem_map.1 hx
    have := hl y hy
    simp [nodeB]; omega) 0
  have e2 := ofI_nodup l 0 (by decide) (fun x hx => ⟨hl x hx, Nat.zero_testBit _⟩) hd
  rw [show ((0 : Nat) : Int) = 0 from rfl] at e2
  simp only [levT]
  rw [if_neg (by rw [List.length_map]; omega), if_neg (by rw [e]; decide), if_neg (by rw [e2]; simp)]
/-- Trusts of one or two levels with right thresholds. -/
theorem good_chk {n : Nat} {t : Tr} (h : GoodT n t) (hl : levT t = 0) : chkT t = 0 := by
  have h1 := h.siz
  have h2 : depT t ≤ 2 := by
    obtain ⟨g1, g2, g3, g4⟩ := h
    cases t with
    | mk k ns is =>
      have := depL_leaf is 0 (fun y hy => (g4 y hy).1) (by omega)
      simp only [depT]; omega
  unfold chkT
  rw [if_neg (by omega)]; exact hl
/-- A trust in some nodes. -/
theorem leaf_good {n k : Nat} {l : List Nat} (hn : n ≤ 10) (h5 : l.length ≤ 5) (hl : ∀ x ∈ l, x < n) (hd : l.Nodup) (h1 : 1 ≤ k) (h2 : k ≤ l.length) :
    GoodT n (.mk (k : Int) (l.map fun x : Nat => (x : Int)) []) ∧ levT (.mk (k : Int) (l.map fun x : Nat => (x : Int)) []) = 0 := by
  refine ⟨⟨fun x hx => ?_, by simpa [Tr.ns] using h5, by simp [Tr.is], fun y hy => by simp [Tr.is] at hy⟩, ?_⟩
  · obtain ⟨y, hy, rfl⟩ := List.mem_map.1 hx
    have := hl y hy
    omega
  · rw [lev_eq k l [] h1 (by simpa using h2) (fun x hx => by have := hl x hx; omega) hd]
    rfl
theorem leaf_fit {n k : Nat} {l : List Nat} (hn : n ≤ 10) (h5 : l.length ≤ 5) (hl : ∀ x ∈ l, x < n) (hd : l.Nodup) (h1 : 1 ≤ k) (h2 : k ≤ l.length) : FitT n (.mk (k : Int) (l.map fun x : Nat => (x : Int)) []) := by
  obtain ⟨g, e⟩ := leaf_good hn h5 hl hd h1 h2
  exact g.fit hn (good_chk g e)
theorem one_fit {n : Nat} (hn : n ≤ 10) {x : Int} (h : 0 ≤ x ∧ x < (n : Int)) : FitT n (.mk 1 [x] []) := by
  have := leaf_fit (k := 1) (l := [x.toNat]) hn (by simp) (by simp; omega) (by simp) (by omega) (by simp)
  rw [show List.map (fun x : Nat => (x : Int)) [x.toNat] = [x] by simp; omega] at this
  exact this
theorem tr2_good {s : Sc} {n : Nat} (hs : s.ok) (h1 : 1 ≤ n) (h2 : n ≤ 5) : GoodT n (tr2F s n).1 ∧ (tr2F s n).2.ok := by
  obtain ⟨ho1, ho2, ho3⟩ := ordF_spec hs h1
  unfold tr2F
  generalize ordF s n = p at *
  obtain ⟨l, s1⟩ := p
  dsimp only at ho1 ho2 ho3 ⊢
  have hs2 := Sc.ok_x ho3 (n : Int)
  generalize s1.x n = sa at *
  have hnb := sa.n_bd (k := 6) (by omega)
  have hpb := pick_bd (k := (sa.n 6).toNat) (by omega)
  generalize nth picks (sa.n 6).toNat = i at *
  obtain ⟨g1, g2, g3⟩ := inn_spec h1 h2 i.toNat (sa.x 6) [] (Sc.ok_x hs2 _) (fun y hy => by cases hy)
  generalize innF i.toNat (sa.x 6) n [] = q at *
  have gn : ∀ k, ∀ x ∈ (l.take k).map (fun x : Nat => (x : Int)), 0 ≤ x ∧ x < (n : Int) := fun k x hx => by
    obtain ⟨y, hy, rfl⟩ := List.mem_map.1 hx
    have := ho2 y (List.mem_of_mem_take hy)
    omega
  have gl : ∀ k, ((l.take k).map (fun x : Nat => (x : Int))).length ≤ 5 := fun k => by rw [List.length_map, List.length_take]; omega
  have g1' : q.1.length ≤ 3 := by simp at g1; omega
  split
  · exact ⟨⟨gn _, gl _, by simp [Tr.is], fun y hy => by simp [Tr.is] at hy⟩, Sc.ok_x g3 _⟩
  split
  · exact ⟨⟨fun x hx => by simp [Tr.ns] at hx, by simp [Tr.ns], g1', g2⟩, Sc.ok_x (Sc.ok_x g3 _) _⟩
  · exact ⟨⟨gn _, gl _, g1', g2⟩, Sc.ok_x (Sc.ok_x g3 _) _⟩
/-- A drawn trust. -/
def trF (s : Sc) (n : Nat) : Tr × Sc :=
  if chkT (tr2F s n).1 ≠ 0 then (.mk 1 [(tr2F s n).2.n n] [], (tr2F s n).2.x n) else tr2F s n
theorem trF_fit {s : Sc} {n : Nat} (hs : s.ok) (h1 : 1 ≤ n) (h2 : n ≤ 5) : FitT n (trF s n).1 ∧ (trF s n).2.ok := by
  obtain ⟨g, o⟩ := tr2_good hs h1 h2
  unfold trF
  generalize tr2F s n = q at *
  obtain ⟨t, s1⟩ := q
  dsimp only at g o ⊢
  have hb := s1.n_bd (k := n) (by omega)
  split
  · exact ⟨one_fit (by omega) (by omega), Sc.ok_x o _⟩
  · rename_i h; exact ⟨g.fit (by omega) (by omega), o⟩
end Go.Proofs.YtkjpnmodlmlhdaaGreatDoor
/- Contracts: drawn trusts, configurations and sets. -/
namespace Go.Proofs.YtkjpnmodlmlhdaaGreatDoor
set_option linter.unusedSimpArgs false
set_option linter.unusedVariables false
set_option linter.unnecessarySimpa false
set_option linter.unusedSectionVars false
set_option maxRecDepth 100000
open Go Go.RowKit Go.Am Go.Proofs.Grow
theorem tr_m (s : Sc) (n : Nat) (hs : s.ok) (h1 : 1 ≤ n) (h2 : n ≤ 5) : FnM Tryz.prog 84 [(9000, tpB s)] [.ptr 9000 0, vI (n : Int), vI 2] (aTr (trF s n).1) [(9000, tpB (trF s n).2)] := by
  obtain ⟨g, o⟩ := tr2_good hs h1 h2
  have tr2X_m := tr2_m s n hs h1 h2
  unfold trF
  generalize tr2F s n = q at *
  obtain ⟨t, s1⟩ := q
  dsimp only at g o tr2X_m ⊢
  have chkZ_m := chkR_m t (by have := g.siz; omega)
  have nnB_m := tN_m s1 n o (by omega) (by omega)
  refine FnM.of htb Tryz.func84 rfl rfl rfl rfl rfl fun cx hN h0 => ?_
  by_cases hc : chkT t ≠ 0
  · have t1 : (chkT t != 0) = true := by simpa using hc
    rw [if_pos hc]
    (repeat' (first | ((with_reducible apply WD_id); first | (refine WD_nxt htb (by exact rfl) ?_) | (refine WD_call (by exact rfl) ?_; first | (refine WD_cM (tr2X_m) ?_) | (refine WD_c0 (chkZ_m) ?_) | (refine WD_cM (nnB_m) ?_))) | (with_reducible apply WA_seq) | ((with_reducible apply gR hmix hN); exact (by kernel_rfl); (try dsimp only [List.append_eq, List.cons_append, List.nil_append])) | ((with_reducible apply WD_end); (first | exact no_draw | (intro _; kernel_rfl)); try simp only [thn, inB, List.length_map, List.cons_append, List.nil_append]) | ((with_reducible apply gCt); exact rfl; exact rfl) | ((with_reducible apply gCf); exact rfl; exact rfl) | ((with_reducible apply gCk); exact rfl; exact known; intro hb; rw [hb]; clear hb) | ((with_reducible apply gCn); exact rfl; exact known; intro hb; rw [hb]; clear hb) | (with_reducible apply WA_block) | ((with_reducible first | apply WA_skip | apply WA_ret | apply WA_exit | apply WA_label); try simp only [thn, inB, List.length_map, List.cons_append, List.nil_append])))
    (exact glV [(6, .ptr 6 0)] [(6, .box 37 (cellsOf (aTr (.mk 1 [s1.n n] [])))), (9000, tpB (s1.x n))] (LeV []))
  · have t1 : (chkT t != 0) = false := by simpa using hc
    rw [if_neg hc]
    (repeat' (first | ((with_reducible apply WD_id); first | (refine WD_nxt htb (by exact rfl) ?_) | (refine WD_call (by exact rfl) ?_; first | (refine WD_cM (tr2X_m) ?_) | (refine WD_c0 (chkZ_m) ?_) | (refine WD_cM (nnB_m) ?_))) | (with_reducible apply WA_seq) | ((with_reducible apply gR hmix hN); exact (by kernel_rfl); (try dsimp only [List.append_eq, List.cons_append, List.nil_append])) | ((with_reducible apply WD_end); (first | exact no_draw | (intro _; kernel_rfl)); try simp only [thn, inB, List.length_map, List.cons_append, List.nil_append]) | ((with_reducible apply gCt); exact rfl; exact rfl) | ((with_reducible apply gCf); exact rfl; exact rfl) | ((with_reducible apply gCk); exact rfl; exact known; intro hb; rw [hb]; clear hb) | ((with_reducible apply gCn); exact rfl; exact known; intro hb; rw [hb]; clear hb) | (with_reducible apply WA_block) | ((with_reducible first | apply WA_skip | apply WA_ret | apply WA_exit | apply WA_label); try simp only [thn, inB, List.length_map, List.cons_append, List.nil_append])))
    exact gE (.inr rfl) rfl rfl ⟨rfl, trivial⟩
end Go.Proofs.YtkjpnmodlmlhdaaGreatDoor
/- Plain law: declarations, their order. No program stands here. -/
namespace Go.Proofs.YtkjpnmodlmlhdaaGreatDoor
set_option linter.unusedSimpArgs false
set_option linter.unusedVariables false
set_option linter.unnecessarySimpa false
set_option linter.unusedSectionVars false
set_option maxRecDepth 100000
open Go Go.RowKit Go.Proofs.Grow Gos
/-- A declaration. -/
structure Dc where
  nd : Int
  sq : Int
  t : Tr
  tg : Int
instance : Inhabited Dc := ⟨⟨0, 0, default, 0⟩⟩
def bytD (d : Dc) : List UInt8 := [100, 32] ++ Lib.decDigits d.nd.toNat ++ [32] ++ Lib.decDigits d.sq.toNat ++ [32] ++ wrT d.t
def ltD (a b : Dc) : Bool := decide (a.sq < b.sq) || (decide (a.sq = b.sq) && Op.bytesLess (bytD a) (bytD b))
def eqvD (a b : Dc) : Bool := decide (a.sq = b.sq) && decide (bytD a = bytD b)
def strD (d : Dc) : ByteArray := ⟨⟨bytD d⟩⟩
/-- A plain declaration. -/
structure PlD (d : Dc) : Prop where
  nd : 0 ≤ d.nd ∧ d.nd < 10
  sq : 1 ≤ d.sq ∧ d.sq ≤ 4
  sm : Sm2 d.t
  chk : chkT d.t = 0
  dep : depT d.t ≤ 3
  siz : sizT d.t ≤ 40
/-- A right declaration, with a tag that its bytes give. -/
structure GoodD (tag : Int → List UInt8 → Int) (n : Nat) (d : Dc) : Prop where
  pl : PlD d
  ndn : d.nd < (n : Int)
  use : useT d.t < ((2 ^ n : Nat) : Int)
  tg : d.tg = tag d.nd (bytD d)
theorem bl_irr (x : List UInt8) : Op.bytesLess x x = false := by
  induction x with
  | nil => rfl
  | cons a x ih => simp [Op.bytesLess, ih]
theorem bl_tr : ∀ {x y z : List UInt8}, Op.bytesLess x y = true → Op.bytesLess y z = true → Op.bytesLess x z = true
  | _, [], _, h, _ => by simp [Op.bytesLess] at h
  | _, _ :: _, [], _, h => by simp [Op.bytesLess] at h
  | [], _ :: _, _ :: _, _, _ => by simp [Op.bytesLess]
  | a :: x, b :: y, c :: z, h, k => by
    simp only [Op.bytesLess, Bool.or_eq_true, Bool.and_eq_true, decide_eq_true_eq, beq_iff_eq] at h k ⊢
    rcases h with h | ⟨rfl, h⟩
    · rcases k with k | ⟨rfl, k⟩
      · exact .inl (UInt8.lt_trans h k)
      · exact .inl h
    · rcases k with k | ⟨rfl, k⟩
      · exact .inl k
      · exact .inr ⟨rfl, bl_tr h k⟩
theorem bl_tri : ∀ (x y : List UInt8), Op.bytesLess x y = true ∨ x = y ∨ Op.bytesLess y x = true
  | [], [] => .inr (.inl rfl)
  | [], _ :: _ => .inl (by simp [Op.bytesLess])
  | _ :: _, [] => .inr (.inr (by simp [Op.bytesLess]))
  | a :: x, b :: y => by
    simp only [Op.bytesLess, Bool.or_eq_true, Bool.and_eq_true, decide_eq_true_eq, beq_iff_eq]
    have h3 : a < b ∨ a = b ∨ b < a := by
      rcases Nat.lt_trichotomy a.toNat b.toNat with h | h | h
      · exact .inl (UInt8.lt_iff_toNat_lt.2 h)
      · exact .inr (.inl (UInt8.toNat_inj.1 h))
      · exact .inr (.inr (UInt8.lt_iff_toNat_lt.2 h))
    rcases h3 with h | rfl | h
    · exact .inl (.inl h)
    · rcases bl_tri x y with k | rfl | k
      · exact .inl (.inr ⟨rfl, k⟩)
      · exact .inr (.inl rfl)
      · exact .inr (.inr (.inr ⟨rfl, k⟩))
    · exact .inr (.inr (.inl h))
theorem good_eq {tag : Int → List UInt8 → Int} {n : Nat} {a b : Dc} (ha : GoodD tag n a) (hb : GoodD tag n b) (hn : a.nd = b.nd) (hs : a.sq = b.sq) (h : bytD a = bytD b) : a = b := by
  have h2 := h
  unfold bytD at h2
  rw [hn, hs] at h2
  have h3 := List.append_cancel_left h2
  have ht := wr_inj ha.pl.sm hb.pl.sm h3
  have hg : a.tg = b.tg := by rw [ha.tg, hb.tg, hn, h]
  obtain ⟨a1, a2, a3, a4⟩ := a
  obtain ⟨b1, b2, b3, b4⟩ := b
  simp only at hn hs ht hg
  rw [hn, hs, ht, hg]
def ordD (tag : Int → List UInt8 → Int) (n : Nat) (k : Int) : Gos.Ord Dc where
  lt := ltD
  num := Dc.sq
  U := fun d => GoodD tag n d ∧ d.nd = k
  irr := fun a => by simp [ltD, bl_irr]
  tr := fun {a b c} h k => by
    simp only [ltD, Bool.or_eq_true, Bool.and_eq_true, decide_eq_true_eq] at h k ⊢
    rcases h with h | ⟨h, h'⟩
    · rcases k with k | ⟨k, k'⟩
      · exact .inl (by omega)
      · exact .inl (by omega)
    · rcases k with k | ⟨k, k'⟩
      · exact .inl (by omega)
      · exact .inr ⟨by omega, bl_tr h' k'⟩
  tri := fun {a b} ha hb => by
    simp only [ltD, Bool.or_eq_true, Bool.and_eq_true, decide_eq_true_eq]
    rcases Int.lt_trichotomy a.sq b.sq with h | h | h
    · exact .inl (.inl h)
    · rcases bl_tri (bytD a) (bytD b) with k | k | k
      · exact .inl (.inr ⟨h, k⟩)
      · exact .inr (.inl (good_eq ha.1 hb.1 (ha.2.trans hb.2.symm) h k))
      · exact .inr (.inr (.inr ⟨h.symm, k⟩))
    · exact .inr (.inr (.inl h))
  nm := fun {a b} h => by
    simp only [ltD, Bool.or_eq_true, Bool.and_eq_true, decide_eq_true_eq] at h
    rcases h with h | ⟨h, _⟩ <;> omega
theorem eqv_iff {tag : Int → List UInt8 → Int} {n : Nat} {k : Int} (x y : Dc) (hx : (ordD tag n k).U x) (hy : (ordD tag n k).U y) : eqvD x y = true ↔ x = y := by
  simp only [eqvD, Bool.and_eq_true, decide_eq_true_eq]
  constructor
  · rintro ⟨h1, h2⟩
    exact good_eq hx.1 hy.1 (hx.2.trans hy.2.symm) h1 h2
  · rintro rfl; exact ⟨rfl, rfl⟩
/-- The order of declarations. -/
def cmpD (a b : Dc) : Int := orI [cmpI a.nd b.nd, cmpI a.sq b.sq, cmpS (strD a) (strD b)]
theorem strD_list (d : Dc) : (strD d).toList = bytD d := by unfold strD; rw [Lib.toList_data]
theorem cmpS_cases (a b : Dc) : cmpS (strD a) (strD b) = if Op.bytesLess (bytD a) (bytD b) = true then -1 else if bytD a = bytD b then 0 else 1 := by
  unfold cmpS; rw [strD_list, strD_list]; simp only [beq_iff_eq]
theorem cmpD_lt {a b : Dc} (h : a.nd = b.nd) : decide (cmpD a b < 0) = ltD a b := by
  unfold cmpD ltD
  simp only [orI, cmpI, h, Int.lt_irrefl, if_false, if_true, cmpS_cases]
  rcases Int.lt_trichotomy a.sq b.sq with k | k | k
  · simp [k]
  · simp only [k, Int.lt_irrefl, if_false, if_true, decide_true, decide_false, Bool.false_or, Bool.true_and]
    cases Op.bytesLess (bytD a) (bytD b)
    · by_cases e : bytD a = bytD b <;> simp [e]
    · simp
  · have k1 : ¬ a.sq < b.sq := by omega
    have k2 : ¬ a.sq = b.sq := by omega
    simp [k, k1, k2]
theorem cmpD_eq {a b : Dc} (h : a.nd = b.nd) : (cmpD a b == 0) = eqvD a b := by
  unfold cmpD eqvD
  simp only [orI, cmpI, h, Int.lt_irrefl, if_false, if_true, cmpS_cases]
  rcases Int.lt_trichotomy a.sq b.sq with k | k | k
  · have k2 : ¬ a.sq = b.sq := by omega
    simp [k, k2]
  · simp only [k, Int.lt_irrefl, if_false, if_true, decide_true, Bool.true_and]
    by_cases e : bytD a = bytD b
    · rw [e, bl_irr]; simp
    · cases Op.bytesLess (bytD a) (bytD b) <;> simp [e]
  · have k1 : ¬ a.sq < b.sq := by omega
    have k2 : ¬ a.sq = b.sq := by omega
    simp [k, k1, k2]
end Go.Proofs.YtkjpnmodlmlhdaaGreatDoor
/- Plain law: registries. No program stands here. -/
namespace Go.Proofs.YtkjpnmodlmlhdaaGreatDoor
set_option linter.unusedSimpArgs false
set_option linter.unusedVariables false
set_option linter.unnecessarySimpa false
set_option linter.unusedSectionVars false
set_option maxRecDepth 100000
open Go Go.RowKit Go.Proofs.Grow Gos
abbrev Reg := List (List Dc)
abbrev Tagf := Int → List UInt8 → Int
def ord0 : Gos.Ord Dc := ordD (fun _ _ => 0) 0 0
def mgD (a b : List Dc) : List Dc := mgF ord0 eqvD a b
def mergeF (a b : Reg) : Reg := (List.range a.length).map fun k => mgD (nth a k) (nth b k)
def oneF (n : Nat) (d : Dc) : Reg := (List.replicate n []).set d.nd.toNat [d]
def addG (r : Reg) (d : Dc) : Reg := mergeF r (oneF r.length d)
def hasD (l : List Dc) (d : Dc) : Bool := l.any fun x => eqvD x d
def diffP (a b : Reg) (k : Nat) (d : Dc) : Bool := !hasD (nth b k) d && hasD (nth (mergeF a b) k) d
def diffTo (a b : Reg) : Nat → List Dc
  | 0 => []
  | k + 1 => diffTo a b k ++ (nth a k).filter (diffP a b k)
def diffF (a b : Reg) : List Dc := diffTo a b a.length
theorem ord_if (tag : Tagf) (n : Nat) (k : Int) (a b : List Dc) : mgF (ordD tag n k) eqvD a b = mgD a b := by
  have e1 : ∀ (j : Nat) (l : List Dc), snkG (ordD tag n k) j l = snkG ord0 j l := fun j => by
    induction j with
    | zero => intro l; rfl
    | succ j ih => intro l; simp only [snkG]; rw [ih]; rfl
  have e2 : ∀ (j : Nat) (l : List Dc), srtG (ordD tag n k) l j = srtG ord0 l j := fun j l => by
    induction j with
    | zero => rfl
    | succ j ih => simp only [srtG]; rw [ih, e1]
  have e3 : ∀ (l o : List Dc), ddF (ordD tag n k) eqvD l o = ddF ord0 eqvD l o := fun l => by
    induction l with
    | nil => intro o; rfl
    | cons d l ih => intro o; simp only [ddF]; rw [ih]; rfl
  unfold mgD mgF
  rw [e2, e3]
theorem nth_map_range {α : Type} [Inhabited α] (f : Nat → α) {n k : Nat} (h : k < n) : nth ((List.range n).map f) k = f k := by
  unfold nth; simp [h]
/-- A registry that has what a set has. -/
structure RegOK (tag : Tagf) (n : Nat) (r : Reg) (S : Dc → Prop) : Prop where
  len : r.length = n
  g : ∀ d, S d → GoodD tag n d
  c : ∀ k, k < n → Gos.Can (ordD tag n (k : Nat)) (nth r k) fun d => S d ∧ d.nd = (k : Nat)
variable {tag : Tagf} {n : Nat}
theorem RegOK.mem {r : Reg} {S : Dc → Prop} (h : RegOK tag n r S) {k : Nat} (hk : k < n) {d : Dc} (hd : d ∈ nth r k) : S d ∧ GoodD tag n d ∧ d.nd = (k : Nat) := by
  have h1 := (((h.c k hk).m d).1 hd).1
  exact ⟨h1.1, h.g d h1.1, h1.2⟩
theorem RegOK.U {r : Reg} {S : Dc → Prop} (h : RegOK tag n r S) {k : Nat} (hk : k < n) : ∀ d ∈ nth r k, (ordD tag n (k : Nat)).U d := fun d hd => by
  obtain ⟨_, a, b⟩ := h.mem hk hd
  exact ⟨a, b⟩
theorem RegOK.congr {r : Reg} {S T : Dc → Prop} (h : RegOK tag n r S) (e : ∀ d, S d ↔ T d) : RegOK tag n r T := by
  have : S = T := funext fun d => propext (e d)
  rwa [← this]
theorem can_nil (O : Gos.Ord Dc) (S : Dc → Prop) (h : ∀ d, ¬ S d) : Gos.Can O [] S :=
  ⟨List.Pairwise.nil, fun d => ⟨fun q => (by cases q), fun q => absurd q.1 (h d)⟩, fun d hd => absurd hd (h d), ⟨[], fun d hd => absurd hd (h d)⟩⟩
theorem nth_rep {k m : Nat} : nth (List.replicate m ([] : List Dc)) k = [] := by
  unfold nth
  rw [List.getD_eq_getElem?_getD, List.getElem?_replicate]
  split <;> rfl
theorem reg_empty : RegOK tag n (List.replicate n []) fun _ => False :=
  ⟨List.length_replicate, fun _ h => h.elim, fun k _ => by
    rw [nth_rep]; exact can_nil _ _ fun d h => h.1⟩
theorem reg_one {d : Dc} (h : GoodD tag n d) : RegOK tag n (oneF n d) (· = d) := by
  refine ⟨by simp [oneF], fun x e => e ▸ h, fun k hk => ?_⟩
  have h0 := h.pl.nd
  have h1 := h.ndn
  by_cases e : d.nd.toNat = k
  · have e1 : nth (oneF n d) k = [d] := by
      unfold oneF nth
      rw [List.getD_eq_getElem?_getD, ← e, List.getElem?_set_self (by simp; omega)]
      rfl
    rw [e1]
    refine ⟨List.pairwise_singleton _ _, fun x => ?_, fun x hx => ⟨hx.1 ▸ h, hx.2⟩, ⟨[d], fun x hx => by simp [hx.1]⟩⟩
    constructor
    · intro hx
      obtain rfl := List.mem_singleton.1 hx
      refine ⟨⟨rfl, by omega⟩, fun e1 e2 s1 s2 _ _ l1 _ => ?_⟩
      rw [s1.1, s2.1, (ordD tag n (k : Nat)).irr] at l1
      cases l1
    · intro hx
      rw [hx.1.1]; simp
  · have e1 : nth (oneF n d) k = [] := by
      unfold oneF nth
      rw [List.getD_eq_getElem?_getD, List.getElem?_set_ne e]
      have := nth_rep (k := k) (m := n)
      unfold nth at this
      rw [List.getD_eq_getElem?_getD] at this
      exact this
    rw [e1]
    refine can_nil _ _ fun x hx => e ?_
    have := hx.2
    rw [hx.1] at this
    omega
theorem reg_merge {r q : Reg} {S T : Dc → Prop} (h : RegOK tag n r S) (g : RegOK tag n q T) : RegOK tag n (mergeF r q) fun d => S d ∨ T d := by
  refine ⟨by simp [mergeF, h.len], fun d hd => hd.elim (h.g d) (g.g d), fun k hk => ?_⟩
  have e : nth (mergeF r q) k = mgD (nth r k) (nth q k) := nth_map_range _ (by rw [h.len]; exact hk)
  rw [e, ← ord_if tag n (k : Nat)]
  have hm := mg_can (O := ordD tag n (k : Nat)) (eqv := eqvD) eqv_iff (h.U hk) (g.U hk)
  have := Gos.Can.merge (h.c k hk) (g.c k hk) hm
  have e2 : (fun d => (S d ∧ d.nd = (k : Nat)) ∨ (T d ∧ d.nd = (k : Nat))) = fun d => (S d ∨ T d) ∧ d.nd = (k : Nat) := funext fun d => propext or_and_right.symm
  rwa [e2] at this
theorem reg_add {r : Reg} {S : Dc → Prop} (h : RegOK tag n r S) {d : Dc} (hd : GoodD tag n d) : RegOK tag n (addG r d) fun x => S x ∨ x = d := by
  unfold addG
  rw [h.len]
  exact reg_merge h (reg_one hd)
theorem hasD_iff {r : Reg} {S : Dc → Prop} (h : RegOK tag n r S) {k : Nat} (hk : k < n) {d : Dc} (hd : (ordD tag n (k : Nat)).U d) : hasD (nth r k) d = true ↔ d ∈ nth r k := by
  unfold hasD
  rw [List.any_eq_true]
  constructor
  · rintro ⟨x, hx, e⟩
    rwa [← (eqv_iff x d (h.U hk x hx) hd).1 e]
  · intro hx
    exact ⟨d, hx, (eqv_iff d d hd hd).2 rfl⟩
theorem mem_diffTo {a b : Reg} : ∀ (m : Nat) (d : Dc), d ∈ diffTo a b m ↔ ∃ k, k < m ∧ d ∈ nth a k ∧ diffP a b k d = true
  | 0, d => by simp [diffTo]
  | m + 1, d => by
    rw [diffTo, List.mem_append, mem_diffTo m d, List.mem_filter]
    constructor
    · rintro (⟨k, h1, h2⟩ | h)
      · exact ⟨k, by omega, h2⟩
      · exact ⟨m, by omega, h⟩
    · rintro ⟨k, h1, h2⟩
      rcases Nat.lt_or_ge k m with h | h
      · exact .inl ⟨k, h, h2⟩
      · obtain rfl : k = m := by omega
        exact .inr h2
theorem mem_diff {a b : Reg} {S T : Dc → Prop} (h : RegOK tag n a S) (g : RegOK tag n b T) (d : Dc) : d ∈ diffF a b ↔ ∃ k, k < n ∧ d ∈ nth a k ∧ d ∉ nth b k ∧ d ∈ nth (mergeF a b) k := by
  unfold diffF
  rw [mem_diffTo, h.len]
  have hm := reg_merge h g
  constructor
  · rintro ⟨k, hk, h1, h2⟩
    have hU := h.U hk d h1
    simp only [diffP, Bool.and_eq_true, Bool.not_eq_true'] at h2
    refine ⟨k, hk, h1, fun q => ?_, (hasD_iff hm hk hU).1 h2.2⟩
    rw [(hasD_iff g hk hU).2 q] at h2
    cases h2.1
  · rintro ⟨k, hk, h1, h2, h3⟩
    have hU := h.U hk d h1
    refine ⟨k, hk, h1, ?_⟩
    simp only [diffP, Bool.and_eq_true, Bool.not_eq_true']
    refine ⟨?_, (hasD_iff hm hk hU).2 h3⟩
    cases e : hasD (nth b k) d with
    | false => rfl
    | true => exact absurd ((hasD_iff g hk hU).1 e) h2
theorem diff_good {a b : Reg} {S T : Dc → Prop} (h : RegOK tag n a S) (g : RegOK tag n b T) : ∀ d ∈ diffF a b, GoodD tag n d ∧ S d := fun d hd => by
  obtain ⟨k, hk, h1, _⟩ := (mem_diff h g d).1 hd
  exact ⟨(h.mem hk h1).2.1, (h.mem hk h1).1⟩
/-- All that the other one lacks: then it has both. -/
theorem reg_diff {a b w : Reg} {S T : Dc → Prop} (h : RegOK tag n a S) (g : RegOK tag n b T) (hw : RegOK tag n w fun d => T d ∨ d ∈ diffF a b) : RegOK tag n w fun d => S d ∨ T d := by
  have hm := reg_merge h g
  refine ⟨hw.len, hm.g, fun k hk => ?_⟩
  have e2 : (fun d => (S d ∨ T d) ∧ d.nd = (k : Nat)) = (fun d => (S d ∧ d.nd = (k : Nat)) ∨ (T d ∧ d.nd = (k : Nat))) := funext fun d => propext or_and_right
  have hc := hm.c k hk
  rw [e2] at hc ⊢
  refine Gos.Can.diff (h.c k hk) (g.c k hk) hc ?_
  have e3 : (fun d => (T d ∨ d ∈ diffF a b) ∧ d.nd = (k : Nat)) = fun d => (T d ∧ d.nd = (k : Nat)) ∨ (d ∈ nth a k ∧ d ∉ nth b k ∧ d ∈ nth (mergeF a b) k) := funext fun d => propext (by
    rw [or_and_right]
    refine or_congr Iff.rfl ?_
    rw [mem_diff h g]
    constructor
    · rintro ⟨⟨j, hj, h1, h2, h3⟩, e⟩
      obtain rfl : j = k := by
        have := (h.mem hj h1).2.2
        omega
      exact ⟨h1, h2, h3⟩
    · rintro ⟨h1, h2, h3⟩
      exact ⟨⟨k, hk, h1, h2, h3⟩, (h.mem hk h1).2.2⟩)
  rw [← e3]
  exact hw.c k hk
theorem reg_eq {a b : Reg} {S : Dc → Prop} (h : RegOK tag n a S) (g : RegOK tag n b S) : a = b := by
  refine List.ext_getElem (h.len.trans g.len.symm) fun k h1 h2 => ?_
  have hk : k < n := by rw [← h.len]; exact h1
  have := (h.c k hk).unique (g.c k hk) fun _ => Iff.rfl
  rwa [nth_getElem a k h1, nth_getElem b k h2] at this
/-- What the functions on registries ask. -/
structure LOk (k : Nat) (l : List Dc) : Prop where
  p : ∀ d ∈ l, PlD d ∧ d.nd = (k : Nat)
  s : ∀ i, i + 1 < l.length → ltD (nth l i) (nth l (i + 1)) = true
  t : ∀ i, i + 2 < l.length → (nth l i).sq ≠ (nth l (i + 2)).sq
  len : l.length ≤ 8
theorem ltD_sq {a b : Dc} (h : ltD a b = true) : a.sq ≤ b.sq := (ordD (fun _ _ => 0) 0 0).nm h
theorem two_len : ∀ (l : List Dc) (m : Nat), (∀ d ∈ l, ((5 - m : Nat) : Int) ≤ d.sq ∧ d.sq ≤ 4) → (∀ i, i + 1 < l.length → ltD (nth l i) (nth l (i + 1)) = true) → (∀ i, i + 2 < l.length → (nth l i).sq ≠ (nth l (i + 2)).sq) → m ≤ 4 → l.length ≤ 2 * m
  | [], _, _, _, _, _ => by simp
  | [a], m, h, _, _, hm => by
    have := h a (by simp)
    simp only [List.length_singleton]
    omega
  | a :: b :: l, m, h, hs, ht, hm => by
    have ha := h a (by simp)
    have hm1 : 1 ≤ m := by omega
    have e1 : ltD a b = true := hs 0 (by simp)
    have key : ∀ (l' : List Dc) (x : Dc), (∀ i, i + 1 < (x :: l').length → ltD (nth (x :: l') i) (nth (x :: l') (i + 1)) = true) → ∀ d ∈ l', x.sq ≤ d.sq := fun l' => by
      induction l' with
      | nil => intro x _ d hd; cases hd
      | cons y l' ih =>
        intro x hx d hd
        have h1 := ltD_sq (hx 0 (by simp))
        have h1 : x.sq ≤ y.sq := h1
        rcases List.mem_cons.1 hd with rfl | hd
        · exact h1
        · have := ih y (fun i hi => hx (i + 1) (by simp only [List.length_cons] at hi ⊢; omega)) d hd
          omega
    have rest : ∀ d ∈ l, a.sq + 1 ≤ d.sq := fun d hd => by
      cases l with
      | nil => cases hd
      | cons c l =>
        have hne : a.sq ≠ c.sq := ht 0 (by simp)
        have hac := key (b :: c :: l) a hs c (by simp)
        have hcd : c.sq ≤ d.sq := by
          rcases List.mem_cons.1 hd with rfl | hd
          · exact Int.le_refl _
          · exact key l c (fun i hi => hs (i + 2) (by simp only [List.length_cons] at hi ⊢; omega)) d hd
        omega
    have := two_len l (m - 1) (fun d hd => by have := rest d hd; have := h d (by simp [hd]); omega) (fun i hi => hs (i + 2) (by simp only [List.length_cons] at hi ⊢; omega)) (fun i hi => ht (i + 2) (by simp only [List.length_cons] at hi ⊢; omega)) (by omega)
    simp only [List.length_cons]
    omega
theorem srt_nth {O : Gos.Ord Dc} {l : List Dc} (h : Srt O l) {i j : Nat} (hij : i < j) (hj : j < l.length) : O.lt (nth l i) (nth l j) = true := by
  rw [nth_getElem l i (by omega), nth_getElem l j hj]
  exact List.pairwise_iff_getElem.1 h i j (by omega) hj hij
theorem RegOK.ok {r : Reg} {S : Dc → Prop} (h : RegOK tag n r S) {k : Nat} (hk : k < n) : LOk k (nth r k) := by
  have hc := h.c k hk
  have hs : ∀ i, i + 1 < (nth r k).length → ltD (nth (nth r k) i) (nth (nth r k) (i + 1)) = true := fun i hi => srt_nth hc.s (by omega) hi
  have ht : ∀ i, i + 2 < (nth r k).length → (nth (nth r k) i).sq ≠ (nth (nth r k) (i + 2)).sq := fun i hi e => by
    have m0 := (hc.m _).1 (nth_mem (nth r k) i (by omega))
    have m1 := (hc.m _).1 (nth_mem (nth r k) (i + 1) (by omega))
    have m2 := (hc.m _).1 (nth_mem (nth r k) (i + 2) hi)
    have l1 := ltD_sq (hs i (by omega))
    have l2 := ltD_sq (hs (i + 1) (by omega))
    have l2 : (nth (nth r k) (i + 1)).sq ≤ (nth (nth r k) (i + 2)).sq := l2
    exact m2.2 _ _ m0.1 m1.1 e (show (nth (nth r k) (i + 1)).sq = (nth (nth r k) (i + 2)).sq by omega) (hs i (by omega)) (hs (i + 1) (by omega))
  refine ⟨fun d hd => ⟨(h.mem hk hd).2.1.pl, (h.mem hk hd).2.2⟩, hs, ht, ?_⟩
  have := two_len (nth r k) 4 (fun d hd => by have := (h.mem hk hd).2.1.pl.sq; omega) hs ht (by omega)
  omega
/-- A right registry. -/
structure ROk (r : Reg) : Prop where
  len : r.length ≤ 5
  l : ∀ k, k < r.length → LOk k (nth r k)
theorem RegOK.rok {r : Reg} {S : Dc → Prop} (h : RegOK tag n r S) (hn : n ≤ 5) : ROk r := ⟨by rw [h.len]; exact hn, fun k hk => h.ok (by rw [← h.len]; exact hk)⟩
end Go.Proofs.YtkjpnmodlmlhdaaGreatDoor
/- Plain law: exposed nodes and the view of a registry. No program stands here. -/
namespace Go.Proofs.YtkjpnmodlmlhdaaGreatDoor
set_option linter.unusedSimpArgs false
set_option linter.unusedVariables false
set_option linter.unnecessarySimpa false
set_option linter.unusedSectionVars false
set_option maxRecDepth 100000
open Go Go.RowKit Go.Proofs.Grow Gos
def facP (l : List Dc) (i : Nat) : Bool := (nth l (i + 1)).sq == (nth l i).sq
/-- The place of the first of two with one number. -/
def facF (l : List Dc) : Option Nat := (List.range (l.length - 1)).find? (facP l)
theorem fac_hit {l : List Dc} {k : Nat} (hk : k + 1 < l.length) (hp : facP l k = true) (h : ∀ j, j < k → facP l j = false) : facF l = some k := by
  unfold facF
  rw [List.find?_range_eq_some]
  refine ⟨hp, by simp; omega, fun j hj => by simp [h j hj]⟩
theorem fac_none {l : List Dc} (h : ∀ j, j < l.length - 1 → facP l j = false) : facF l = none := by
  unfold facF
  rw [List.find?_eq_none]
  intro j hj
  rw [h j (List.mem_range.1 hj)]
  simp
theorem fac_spec {l : List Dc} {k : Nat} (h : facF l = some k) : k + 1 < l.length ∧ (nth l (k + 1)).sq = (nth l k).sq := by
  unfold facF at h
  rw [List.find?_range_eq_some] at h
  obtain ⟨h1, h2, _⟩ := h
  have := List.mem_range.1 h2
  exact ⟨by omega, by simpa [facP] using h1⟩
def expTo (r : Reg) : Nat → Nat
  | 0 => 0
  | k + 1 => if (facF (nth r k)).isSome = true then expTo r k ||| 2 ^ k else expTo r k
def expN (r : Reg) : Nat := expTo r r.length
theorem expTo_lt (r : Reg) : ∀ k, expTo r k < 2 ^ k
  | 0 => by simp [expTo]
  | k + 1 => by
    have h := expTo_lt r k
    unfold expTo
    split
    · exact Nat.or_lt_two_pow (Nat.lt_of_lt_of_le h (Nat.pow_le_pow_right (by decide) (by omega))) (Nat.pow_lt_pow_right (by decide) (by omega))
    · exact Nat.lt_of_lt_of_le h (Nat.pow_le_pow_right (by decide) (by omega))
theorem expTo_bit (r : Reg) : ∀ (m k : Nat), k < m → (expTo r m).testBit k = (facF (nth r k)).isSome
  | 0, k, h => absurd h (Nat.not_lt_zero _)
  | m + 1, k, h => by
    have hlt := expTo_lt r m
    unfold expTo
    by_cases e : k = m
    · subst e
      have h0 : (expTo r k).testBit k = false := Nat.testBit_lt_two_pow hlt
      split
      · rename_i h1; rw [Nat.testBit_or, h0, Nat.testBit_two_pow_self, h1]; rfl
      · rename_i h1; rw [h0]; simpa using h1
    · have ih := expTo_bit r m k (by omega)
      split
      · rw [Nat.testBit_or, ih, Nat.testBit_two_pow_of_ne (fun q => e q.symm), Bool.or_false]
      · exact ih
theorem exp_bit {r : Reg} {k : Nat} (hk : k < r.length) : (expN r).testBit k = (facF (nth r k)).isSome := expTo_bit r r.length k hk
def lastD (l : List Dc) : Dc := nth l (l.length - 1)
def viewM (r : Reg) (k : Nat) : Mb := if (nth r k).length > 0 ∧ (expN r).testBit k = false ∧ useT (lastD (nth r k)).t < ((2 ^ r.length : Nat) : Int) then ⟨true, (lastD (nth r k)).t⟩ else ⟨false, default⟩
def viewF (r : Reg) : List Mb := (List.range r.length).map (viewM r)
theorem viewF_len (r : Reg) : (viewF r).length = r.length := by simp [viewF]
theorem view_ok {r : Reg} (h : ROk r) : (∀ x ∈ viewF r, sizT x.t ≤ 200 ∧ membF x r.length = 0) := by
  intro x hx
  unfold viewF at hx
  obtain ⟨k, hk, rfl⟩ := List.mem_map.1 hx
  have hk := List.mem_range.1 hk
  unfold viewM
  split
  · rename_i hc
    have hp := ((h.l k hk).p (lastD (nth r k)) (nth_mem _ _ (by omega))).1
    have hs := hp.siz
    refine ⟨show sizT (lastD (nth r k)).t ≤ 200 by omega, ?_⟩
    unfold membF
    rw [if_neg (by simp), if_neg (by simp [hp.chk]), if_neg (by simp only; omega)]
  · exact ⟨by show sizT (default : Tr) ≤ 200; decide, by simp [membF]; decide⟩
theorem valL_zero {n : Nat} : ∀ {l : List Mb}, (∀ x ∈ l, membF x n = 0) → valL n l = 0
  | [], _ => rfl
  | x :: r, h => by
    rw [valL, if_neg (by rw [h x (by simp)]; simp)]
    exact valL_zero fun y hy => h y (by simp [hy])
theorem view_valid {r : Reg} (h : ROk r) : valC (viewF r) = 0 := by
  unfold valC
  rw [viewF_len]
  exact valL_zero fun x hx => (view_ok h x hx).2
theorem view_okC {r : Reg} (h : ROk r) : OkC (viewF r) := by
  have hl := h.len
  refine ⟨by rw [viewF_len]; omega, fun k hk => ?_⟩
  have := (view_ok h _ (nth_mem _ k hk)).1
  omega
def prsG : List (List Int) := [[0, 1], [1, 2], [2, 0], [0, 1], [2, 1]]
def prsM : List (List Int) := [[1, 0], [1, 2]]
end Go.Proofs.YtkjpnmodlmlhdaaGreatDoor
