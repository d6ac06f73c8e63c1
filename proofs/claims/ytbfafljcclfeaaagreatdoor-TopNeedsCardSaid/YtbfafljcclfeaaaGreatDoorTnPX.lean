/- Contracts: trusts of two levels. -/
import Derived.Test.YtbfafljcclfeaaaGreatDoorTnO
import Derived.Test.YtbfafljcclfeaaaGreatDoorTnM
import Derived.Test.YtbfafljcclfeaaaGreatDoorTnK
namespace Go.Proofs.YtbfafljcclfeaaaGreatDoor
set_option linter.unusedSimpArgs false
set_option linter.unusedVariables false
set_option linter.unnecessarySimpa false
set_option linter.unusedSectionVars false
set_option maxRecDepth 100000
open Go Go.RowKit Go.Am Go.Proofs.Grow

theorem aTr_p (t : Tr) : aTr t = .agg [vI t.k, lI t.ns, .d (.rows 3 (t.is.map rTp))] := by
  show AV.agg [vI t.k, lI t.ns, .d (.rows 3 (t.is.map rTr))] = _
  rw [rTr_p]
theorem aTr_cast2 (k : Int) (m : List Nat) (is : List Tr) : aTr (.mk k (m.map fun x : Nat => (x : Int)) is) = .agg [vI k, lN m, .d (.rows 3 (is.map rTp))] := by
  rw [aTr_cast]
  show AV.agg [vI k, lN m, .d (.rows 3 (is.map rTr))] = _
  rw [rTr_p]
theorem tr2_m (s : Sc) (n : Nat) (hs : s.ok) (h1 : 1 ≤ n) (h2 : n ≤ 5) : FnM Tryz.prog 42 [(9000, tpB s)] [.ptr 9000 0, vI (n : Int), vI 2] (aTr (tr2F s n).1) [(9000, tpB (tr2F s n).2)] := by
  obtain ⟨ho1, ho2, ho3⟩ := ordF_spec hs h1
  unfold tr2F
  generalize hp : ordF s n = p at *
  obtain ⟨l, s1⟩ := p
  dsimp only at ho1 ho2 ho3 ⊢
  have hr := rgN_bd (s := s1) h1
  have hs2 := Sc.ok_x ho3 (n : Int)
  have rgA_m := tRg_m s1 n (if (5 : Int) < (n : Int) then 5 else (n : Int)) ho3 h1 (by omega) (by rw [if_neg (by omega)])
  have hrl : (l.take (rgN s1 n)).length = rgN s1 n := by rw [List.length_take]; omega
  generalize hrr : rgN s1 n = r at *
  have hlr : r ≤ (l.map rN).length := by rw [List.length_map]; omega
  generalize hsa : s1.x n = sa at *
  have hnb := sa.n_bd (k := 6) (by omega)
  have pkA_m := tP_m sa picks hs2 (by decide) (by decide)
  rw [show ((picks.length : Nat) : Int) = 6 from rfl] at pkA_m
  have hpb := pick_bd (k := (sa.n 6).toNat) (by omega)
  obtain ⟨i, hi⟩ : ∃ i : Nat, nth picks (sa.n 6).toNat = (i : Int) := ⟨(nth picks (sa.n 6).toNat).toNat, by omega⟩
  rw [hi] at pkA_m hpb ⊢
  rw [Int.toNat_natCast]
  have hs3 := Sc.ok_x hs2 6
  generalize hsb : sa.x 6 = sb at *
  refine FnM.of htb Tryz.func42 rfl rfl rfl rfl rfl fun cx hN h0 => ?_
  have tOX : FnM Tryz.prog 72 [(9000, tpB s)] [.ptr 9000 0, vI (n : Int)] (lN l) [(9000, tpB s1)] := by
    have := tO_m s n hs h1 (by omega)
    rw [hp] at this; exact this
  have tOX_m := tOX
  (repeat' (first | ((with_reducible apply WD_id); first | (refine WD_sum ?_) | (refine WD_nxt htb (by exact rfl) ?_) | (refine WD_unk (by exact rfl) ?_; first | (refine WD_t (by exact rfl) (by exact rfl) (by exact known) fun hb => ?_; rw [hb]; clear hb) | (refine WD_f (by exact rfl) (by exact rfl) (by exact known) fun hb => ?_; rw [hb]; clear hb) | ((refine WD_tf (by exact rfl) (by exact rfl) ?_ ?_) <;> (intro hb; (fail_if_success (with_reducible injection hb)); rw [hb]; (try simp only [List.length_map] at hb)))) | (refine WD_call (by exact rfl) ?_; first | (refine WD_cM (tOX_m) ?_) | (refine WD_cM (rgA_m) ?_)) | (refine WD_idx htb ?_) | (refine WD_idxo htb ?_) | (refine WD_lde1 htb ?_) | (refine WD_lde htb ?_) | (refine WD_ste htb ?_) | (refine WD_ap htb ?_) | (refine WD_ap0 htb ?_) | (refine WD_nil htb ?_) | (refine WD_nilr htb ?_) | (refine WD_rem ?_) | (refine WD_quo ?_) | (refine WD_slc htb ?_) | (refine WD_ixa htb ?_) | (refine WD_ix1 htb ?_) | (refine WD_cut htb ?_) | (refine WD_cut3 htb ?_) | (refine WD_lens htb ?_) | (refine WD_caps htb ?_) | (refine WD_cps htb ?_) | (refine WD_cpp htb ?_) | (refine WD_api htb ?_) | (refine WD_apz htb ?_) | (refine WD_clr htb ?_) | (refine WD_t (by exact rfl) (by exact rfl) (by exact known) fun hb => ?_; rw [hb]; clear hb) | (refine WD_f (by exact rfl) (by exact rfl) (by exact known) fun hb => ?_; rw [hb]; clear hb) | ((refine WD_tf (by exact rfl) (by exact rfl) ?_ ?_) <;> (intro hb; (fail_if_success (with_reducible injection hb)); rw [hb]; (try simp only [List.length_map] at hb)))) | (with_reducible apply WA_seq) | ((with_reducible apply gR hmix hN); exact (by kernel_rfl); (try dsimp only [List.append_eq, List.cons_append, List.nil_append])) | ((with_reducible apply WD_end); (first | exact no_draw | (intro _; kernel_rfl)); try simp only [thn, inB, List.length_map, List.cons_append, List.nil_append]) | ((with_reducible apply gCt); exact rfl; exact rfl) | ((with_reducible apply gCf); exact rfl; exact rfl) | ((with_reducible apply gCk); exact rfl; exact known; intro hb; rw [hb]; clear hb) | ((with_reducible apply gCn); exact rfl; exact known; intro hb; rw [hb]; clear hb) | (((with_reducible apply gC2); exact rfl) <;> (intro hb; rw [hb])) | (with_reducible apply WA_block) | ((with_reducible first | apply WA_skip | apply WA_ret | apply WA_exit | apply WA_label); try simp only [thn, inB, List.length_map, List.cons_append, List.nil_append])))
  rw [show List.drop 0 (List.take r (List.map rN l)) = (l.take r).map rN by rw [List.drop_zero, List.map_take], List.length_map]
  refine WA_le (Le_nilM 60 7 1 3 1 rfl rfl rfl rfl) ?_
  refine WA_le (Le_nilM 61 7 2 49 3 rfl rfl rfl rfl) ?_
  generalize hm : l.take r = m at *
  (refine WA_forV (m.length) [22] [7, 60, 61, 9000] (fun k => [(22, vI k)]) (fun k => [(9000, tpB sa), (7, .box 49 [vI 0, .own 60, .own 61]), (60, .arr 3 1 ((m.take k).map rN)), (61, .arr 49 3 [])]) (fun k => True) ?h0 ?_)
  case h0 => trivial
  intro k hk _
  have hlk : (m.take k).length ≤ k := by rw [List.length_take]; omega
  rcases Nat.lt_or_ge k m.length with hk' | hk'
  · have t1 : decide ((k : Int) < (m.length : Int)) = true := by simp; omega
    have hw : (m.take (k + 1)) = m.take k ++ [nth m k] := by rw [List.take_succ_eq_append_getElem hk', nth_getElem _ _ hk']
    (repeat' (first | ((with_reducible apply WD_id); first | (refine WD_sum ?_) | (refine WD_nxt htb (by exact rfl) ?_) | (refine WD_unk (by exact rfl) ?_; first | (refine WD_t (by exact rfl) (by exact rfl) (by exact known) fun hb => ?_; rw [hb]; clear hb) | (refine WD_f (by exact rfl) (by exact rfl) (by exact known) fun hb => ?_; rw [hb]; clear hb) | ((refine WD_tf (by exact rfl) (by exact rfl) ?_ ?_) <;> (intro hb; (fail_if_success (with_reducible injection hb)); rw [hb]; (try simp only [List.length_map] at hb)))) | (refine WD_idx htb ?_) | (refine WD_idxo htb ?_) | (refine WD_lde1 htb ?_) | (refine WD_lde htb ?_) | (refine WD_ste htb ?_) | (refine WD_ap htb ?_) | (refine WD_ap0 htb ?_) | (refine WD_nil htb ?_) | (refine WD_nilr htb ?_) | (refine WD_rem ?_) | (refine WD_quo ?_) | (refine WD_slc htb ?_) | (refine WD_ixa htb ?_) | (refine WD_ix1 htb ?_) | (refine WD_cut htb ?_) | (refine WD_cut3 htb ?_) | (refine WD_lens htb ?_) | (refine WD_caps htb ?_) | (refine WD_cps htb ?_) | (refine WD_cpp htb ?_) | (refine WD_api htb ?_) | (refine WD_apz htb ?_) | (refine WD_clr htb ?_) | (refine WD_t (by exact rfl) (by exact rfl) (by exact known) fun hb => ?_; rw [hb]; clear hb) | (refine WD_f (by exact rfl) (by exact rfl) (by exact known) fun hb => ?_; rw [hb]; clear hb) | ((refine WD_tf (by exact rfl) (by exact rfl) ?_ ?_) <;> (intro hb; (fail_if_success (with_reducible injection hb)); rw [hb]; (try simp only [List.length_map] at hb)))) | (with_reducible apply WA_seq) | ((with_reducible apply gR hmix hN); exact (by kernel_rfl); (try dsimp only [List.append_eq, List.cons_append, List.nil_append])) | ((with_reducible apply WD_end); (first | exact no_draw | (intro _; kernel_rfl)); try simp only [thn, inB, List.length_map, List.cons_append, List.nil_append]) | ((with_reducible apply gCt); exact rfl; exact rfl) | ((with_reducible apply gCf); exact rfl; exact rfl) | ((with_reducible apply gCk); exact rfl; exact known; intro hb; rw [hb]; clear hb) | ((with_reducible apply gCn); exact rfl; exact known; intro hb; rw [hb]; clear hb) | (((with_reducible apply gC2); exact rfl) <;> (intro hb; rw [hb])) | (with_reducible apply WA_block) | ((with_reducible first | apply WA_skip | apply WA_ret | apply WA_exit | apply WA_label); try simp only [thn, inB, List.length_map, List.cons_append, List.nil_append])))
    refine ⟨hk', trivial, ?_⟩
    rw [hw, List.map_append, List.map_cons, List.map_nil]
    (exact LeV [(60, 30)])
  have t1 : decide ((k : Int) < (m.length : Int)) = false := by simp; omega
  have e1 : m.take k = m := take_all hk'
  rw [e1]
  have hml : (m.map rN).length ≤ 10 := by rw [List.length_map]; omega
  (repeat' (first | ((with_reducible apply WD_id); first | (refine WD_sum ?_) | (refine WD_nxt htb (by exact rfl) ?_) | (refine WD_unk (by exact rfl) ?_; first | (refine WD_t (by exact rfl) (by exact rfl) (by exact known) fun hb => ?_; rw [hb]; clear hb) | (refine WD_f (by exact rfl) (by exact rfl) (by exact known) fun hb => ?_; rw [hb]; clear hb) | ((refine WD_tf (by exact rfl) (by exact rfl) ?_ ?_) <;> (intro hb; (fail_if_success (with_reducible injection hb)); rw [hb]; (try simp only [List.length_map] at hb)))) | (refine WD_call (by exact rfl) ?_; first | (refine WD_cM (pkA_m) ?_)) | (refine WD_idx htb ?_) | (refine WD_idxo htb ?_) | (refine WD_lde1 htb ?_) | (refine WD_lde htb ?_) | (refine WD_ste htb ?_) | (refine WD_ap htb ?_) | (refine WD_ap0 htb ?_) | (refine WD_nil htb ?_) | (refine WD_nilr htb ?_) | (refine WD_rem ?_) | (refine WD_quo ?_) | (refine WD_slc htb ?_) | (refine WD_ixa htb ?_) | (refine WD_ix1 htb ?_) | (refine WD_cut htb ?_) | (refine WD_cut3 htb ?_) | (refine WD_lens htb ?_) | (refine WD_caps htb ?_) | (refine WD_cps htb ?_) | (refine WD_cpp htb ?_) | (refine WD_api htb ?_) | (refine WD_apz htb ?_) | (refine WD_clr htb ?_) | (refine WD_t (by exact rfl) (by exact rfl) (by exact known) fun hb => ?_; rw [hb]; clear hb) | (refine WD_f (by exact rfl) (by exact rfl) (by exact known) fun hb => ?_; rw [hb]; clear hb) | ((refine WD_tf (by exact rfl) (by exact rfl) ?_ ?_) <;> (intro hb; (fail_if_success (with_reducible injection hb)); rw [hb]; (try simp only [List.length_map] at hb)))) | (with_reducible apply WA_seq) | ((with_reducible apply gR hmix hN); exact (by kernel_rfl); (try dsimp only [List.append_eq, List.cons_append, List.nil_append])) | ((with_reducible apply WD_end); (first | exact no_draw | (intro _; kernel_rfl)); try simp only [thn, inB, List.length_map, List.cons_append, List.nil_append]) | ((with_reducible apply gCt); exact rfl; exact rfl) | ((with_reducible apply gCf); exact rfl; exact rfl) | ((with_reducible apply gCk); exact rfl; exact known; intro hb; rw [hb]; clear hb) | ((with_reducible apply gCn); exact rfl; exact known; intro hb; rw [hb]; clear hb) | (((with_reducible apply gC2); exact rfl) <;> (intro hb; rw [hb])) | (with_reducible apply WA_block) | ((with_reducible first | apply WA_skip | apply WA_ret | apply WA_exit | apply WA_label); try simp only [thn, inB, List.length_map, List.cons_append, List.nil_append])))

  (refine WA_anyV (α := Nat × Sc × List Tr) (fun x => x.1) ((i, sb, [])) [11] [9000, 61] (fun x => [(11, vI ((x.1 : Nat) : Int))]) (fun x => [(9000, tpB x.2.1), (61, .arr 49 3 (x.2.2.map rTp))]) (fun x => x.1 ≤ 3 ∧ x.2.1.ok ∧ x.2.2.length + x.1 = i ∧ innF i sb n [] = innF x.1 x.2.1 n x.2.2) ?h0 ?_)
  case h0 => exact ⟨by omega, hs3, by simp, rfl⟩
  rintro ⟨j, s4, o⟩ ⟨hj, hs4, hol, hI⟩
  dsimp only at hj hs4 hol hI ⊢
  rw [hI]
  cases j with
  | succ j =>
    have t2 : decide (((j + 1 : Nat) : Int) > 0) = true := by simp <;> omega
    have tr1X_m := tr1_m s4 n hs4 h1 h2
    (repeat' (first | ((with_reducible apply WD_id); first | (refine WD_sum ?_) | (refine WD_nxt htb (by exact rfl) ?_) | (refine WD_unk (by exact rfl) ?_; first | (refine WD_t (by exact rfl) (by exact rfl) (by exact known) fun hb => ?_; rw [hb]; clear hb) | (refine WD_f (by exact rfl) (by exact rfl) (by exact known) fun hb => ?_; rw [hb]; clear hb) | ((refine WD_tf (by exact rfl) (by exact rfl) ?_ ?_) <;> (intro hb; (fail_if_success (with_reducible injection hb)); rw [hb]; (try simp only [List.length_map] at hb)))) | (refine WD_call (by exact rfl) ?_; first | (refine WD_cM (tr1X_m) ?_)) | (refine WD_idx htb ?_) | (refine WD_idxo htb ?_) | (refine WD_lde1 htb ?_) | (refine WD_lde htb ?_) | (refine WD_ste htb ?_) | (refine WD_ap htb ?_) | (refine WD_ap0 htb ?_) | (refine WD_nil htb ?_) | (refine WD_nilr htb ?_) | (refine WD_rem ?_) | (refine WD_quo ?_) | (refine WD_slc htb ?_) | (refine WD_ixa htb ?_) | (refine WD_ix1 htb ?_) | (refine WD_cut htb ?_) | (refine WD_cut3 htb ?_) | (refine WD_lens htb ?_) | (refine WD_caps htb ?_) | (refine WD_cps htb ?_) | (refine WD_cpp htb ?_) | (refine WD_api htb ?_) | (refine WD_apz htb ?_) | (refine WD_clr htb ?_) | (refine WD_t (by exact rfl) (by exact rfl) (by exact known) fun hb => ?_; rw [hb]; clear hb) | (refine WD_f (by exact rfl) (by exact rfl) (by exact known) fun hb => ?_; rw [hb]; clear hb) | ((refine WD_tf (by exact rfl) (by exact rfl) ?_ ?_) <;> (intro hb; (fail_if_success (with_reducible injection hb)); rw [hb]; (try simp only [List.length_map] at hb)))) | (with_reducible apply WA_seq) | ((with_reducible apply gR hmix hN); exact (by kernel_rfl); (try dsimp only [List.append_eq, List.cons_append, List.nil_append])) | ((with_reducible apply WD_end); (first | exact no_draw | (intro _; kernel_rfl)); try simp only [thn, inB, List.length_map, List.cons_append, List.nil_append]) | ((with_reducible apply gCt); exact rfl; exact rfl) | ((with_reducible apply gCf); exact rfl; exact rfl) | ((with_reducible apply gCk); exact rfl; exact known; intro hb; rw [hb]; clear hb) | ((with_reducible apply gCn); exact rfl; exact known; intro hb; rw [hb]; clear hb) | (((with_reducible apply gC2); exact rfl) <;> (intro hb; rw [hb])) | (with_reducible apply WA_block) | ((with_reducible first | apply WA_skip | apply WA_ret | apply WA_exit | apply WA_label); try simp only [thn, inB, List.length_map, List.cons_append, List.nil_append])))
    refine ⟨(j, (tr1F s4 n).2, o ++ [(tr1F s4 n).1]), by dsimp only; omega, ⟨by dsimp only; omega, (tr1_spec hs4 h1 h2).2.2, by simp; omega, rfl⟩, ?_⟩
    rw [List.map_append, List.map_cons, List.map_nil]
    (exact LeV [(61, 50)])
  | zero =>
    have t2 : decide (((0 : Nat) : Int) > 0) = false := by simp
    rw [show innF 0 s4 n o = (o, s4) from rfl]
    dsimp only
    have hom : (o.map rTp).length ≤ 10 := by rw [List.length_map]; omega
    by_cases ho : o.length = 0
    · rw [if_pos ho]
      have t3 : decide (((o.map rTp).length : Int) > 0) = false := by simp only [decide_eq_false_iff_not, List.length_map]; omega
      have hra := rgN_bd (s := s4) (b := r) hr.1
      have rgC_m := tRg_m s4 r ((((m.map rN).length : Nat) : Int) + (((o.map rTp).length : Nat) : Int)) hs4 hr.1 (by omega) (by simp; omega)
      (repeat' (first | ((with_reducible apply WD_id); first | (refine WD_sum ?_) | (refine WD_nxt htb (by exact rfl) ?_) | (refine WD_unk (by exact rfl) ?_; first | (refine WD_t (by exact rfl) (by exact rfl) (by exact known) fun hb => ?_; rw [hb]; clear hb) | (refine WD_f (by exact rfl) (by exact rfl) (by exact known) fun hb => ?_; rw [hb]; clear hb) | ((refine WD_tf (by exact rfl) (by exact rfl) ?_ ?_) <;> (intro hb; (fail_if_success (with_reducible injection hb)); rw [hb]; (try simp only [List.length_map] at hb)))) | (refine WD_call (by exact rfl) ?_; first | (refine WD_cM (rgC_m) ?_)) | (refine WD_idx htb ?_) | (refine WD_idxo htb ?_) | (refine WD_lde1 htb ?_) | (refine WD_lde htb ?_) | (refine WD_ste htb ?_) | (refine WD_ap htb ?_) | (refine WD_ap0 htb ?_) | (refine WD_nil htb ?_) | (refine WD_nilr htb ?_) | (refine WD_rem ?_) | (refine WD_quo ?_) | (refine WD_slc htb ?_) | (refine WD_ixa htb ?_) | (refine WD_ix1 htb ?_) | (refine WD_cut htb ?_) | (refine WD_cut3 htb ?_) | (refine WD_lens htb ?_) | (refine WD_caps htb ?_) | (refine WD_cps htb ?_) | (refine WD_cpp htb ?_) | (refine WD_api htb ?_) | (refine WD_apz htb ?_) | (refine WD_clr htb ?_) | (refine WD_t (by exact rfl) (by exact rfl) (by exact known) fun hb => ?_; rw [hb]; clear hb) | (refine WD_f (by exact rfl) (by exact rfl) (by exact known) fun hb => ?_; rw [hb]; clear hb) | ((refine WD_tf (by exact rfl) (by exact rfl) ?_ ?_) <;> (intro hb; (fail_if_success (with_reducible injection hb)); rw [hb]; (try simp only [List.length_map] at hb)))) | (with_reducible apply WA_seq) | ((with_reducible apply gR hmix hN); exact (by kernel_rfl); (try dsimp only [List.append_eq, List.cons_append, List.nil_append])) | ((with_reducible apply WD_end); (first | exact no_draw | (intro _; kernel_rfl)); try simp only [thn, inB, List.length_map, List.cons_append, List.nil_append]) | ((with_reducible apply gCt); exact rfl; exact rfl) | ((with_reducible apply gCf); exact rfl; exact rfl) | ((with_reducible apply gCk); exact rfl; exact known; intro hb; rw [hb]; clear hb) | ((with_reducible apply gCn); exact rfl; exact known; intro hb; rw [hb]; clear hb) | (((with_reducible apply gC2); exact rfl) <;> (intro hb; rw [hb])) | (with_reducible apply WA_block) | ((with_reducible first | apply WA_skip | apply WA_ret | apply WA_exit | apply WA_label); try simp only [thn, inB, List.length_map, List.cons_append, List.nil_append])))
      obtain rfl : o = [] := List.eq_nil_of_length_eq_zero ho
      rw [aTr_cast]
      (exact glV [(6, .ptr 6 0)] [(6, .box 49 [vI ((rgN s4 r : Nat) : Int), lN m, .d (.rows 3 [])]), (9000, tpB (s4.x r))] (LeV []))
    · rw [if_neg ho]
      have t3 : decide (((o.map rTp).length : Int) > 0) = true := by simp only [decide_eq_true_eq, List.length_map]; omega
      have hb3 := s4.n_bd (k := 3) (by omega)
      have nnA_m := tN_m s4 3 hs4 (by omega) (by omega)
      have hs5 := Sc.ok_x hs4 3
      by_cases hz : s4.n 3 = 0
      · rw [if_pos hz]
        have t4 : (s4.n 3 == 0) = true := by simpa using hz
        have rgC_m := tRg_m (s4.x 3) o.length (0 + (((o.map rTp).length : Nat) : Int)) hs5 (by omega) (by omega) (by simp)
        (repeat' (first | ((with_reducible apply WD_id); first | (refine WD_sum ?_) | (refine WD_nxt htb (by exact rfl) ?_) | (refine WD_unk (by exact rfl) ?_; first | (refine WD_t (by exact rfl) (by exact rfl) (by exact known) fun hb => ?_; rw [hb]; clear hb) | (refine WD_f (by exact rfl) (by exact rfl) (by exact known) fun hb => ?_; rw [hb]; clear hb) | ((refine WD_tf (by exact rfl) (by exact rfl) ?_ ?_) <;> (intro hb; (fail_if_success (with_reducible injection hb)); rw [hb]; (try simp only [List.length_map] at hb)))) | (refine WD_call (by exact rfl) ?_; first | (refine WD_cM (nnA_m) ?_) | (refine WD_cM (rgC_m) ?_)) | (refine WD_idx htb ?_) | (refine WD_idxo htb ?_) | (refine WD_lde1 htb ?_) | (refine WD_lde htb ?_) | (refine WD_ste htb ?_) | (refine WD_ap htb ?_) | (refine WD_ap0 htb ?_) | (refine WD_nil htb ?_) | (refine WD_nilr htb ?_) | (refine WD_rem ?_) | (refine WD_quo ?_) | (refine WD_slc htb ?_) | (refine WD_ixa htb ?_) | (refine WD_ix1 htb ?_) | (refine WD_cut htb ?_) | (refine WD_cut3 htb ?_) | (refine WD_lens htb ?_) | (refine WD_caps htb ?_) | (refine WD_cps htb ?_) | (refine WD_cpp htb ?_) | (refine WD_api htb ?_) | (refine WD_apz htb ?_) | (refine WD_clr htb ?_) | (refine WD_t (by exact rfl) (by exact rfl) (by exact known) fun hb => ?_; rw [hb]; clear hb) | (refine WD_f (by exact rfl) (by exact rfl) (by exact known) fun hb => ?_; rw [hb]; clear hb) | ((refine WD_tf (by exact rfl) (by exact rfl) ?_ ?_) <;> (intro hb; (fail_if_success (with_reducible injection hb)); rw [hb]; (try simp only [List.length_map] at hb)))) | (with_reducible apply WA_seq) | ((with_reducible apply gR hmix hN); exact (by kernel_rfl); (try dsimp only [List.append_eq, List.cons_append, List.nil_append])) | ((with_reducible apply WD_end); (first | exact no_draw | (intro _; kernel_rfl)); try simp only [thn, inB, List.length_map, List.cons_append, List.nil_append]) | ((with_reducible apply gCt); exact rfl; exact rfl) | ((with_reducible apply gCf); exact rfl; exact rfl) | ((with_reducible apply gCk); exact rfl; exact known; intro hb; rw [hb]; clear hb) | ((with_reducible apply gCn); exact rfl; exact known; intro hb; rw [hb]; clear hb) | (((with_reducible apply gC2); exact rfl) <;> (intro hb; rw [hb])) | (with_reducible apply WA_block) | ((with_reducible first | apply WA_skip | apply WA_ret | apply WA_exit | apply WA_label); try simp only [thn, inB, List.length_map, List.cons_append, List.nil_append])))
        rw [aTr_p]
        (exact glV [(6, .ptr 6 0)] [(6, .box 49 [vI ((rgN (s4.x 3) o.length : Nat) : Int), .d (.rows 1 []), .d (.rows 3 (o.map rTp))]), (9000, tpB ((s4.x 3).x o.length))] (LeV []))
      · rw [if_neg hz]
        have t4 : (s4.n 3 == 0) = false := by simpa using hz
        have rgC_m := tRg_m (s4.x 3) (r + o.length) ((((m.map rN).length : Nat) : Int) + (((o.map rTp).length : Nat) : Int)) hs5 (by omega) (by omega) (by simp; omega)
        (repeat' (first | ((with_reducible apply WD_id); first | (refine WD_sum ?_) | (refine WD_nxt htb (by exact rfl) ?_) | (refine WD_unk (by exact rfl) ?_; first | (refine WD_t (by exact rfl) (by exact rfl) (by exact known) fun hb => ?_; rw [hb]; clear hb) | (refine WD_f (by exact rfl) (by exact rfl) (by exact known) fun hb => ?_; rw [hb]; clear hb) | ((refine WD_tf (by exact rfl) (by exact rfl) ?_ ?_) <;> (intro hb; (fail_if_success (with_reducible injection hb)); rw [hb]; (try simp only [List.length_map] at hb)))) | (refine WD_call (by exact rfl) ?_; first | (refine WD_cM (nnA_m) ?_) | (refine WD_cM (rgC_m) ?_)) | (refine WD_idx htb ?_) | (refine WD_idxo htb ?_) | (refine WD_lde1 htb ?_) | (refine WD_lde htb ?_) | (refine WD_ste htb ?_) | (refine WD_ap htb ?_) | (refine WD_ap0 htb ?_) | (refine WD_nil htb ?_) | (refine WD_nilr htb ?_) | (refine WD_rem ?_) | (refine WD_quo ?_) | (refine WD_slc htb ?_) | (refine WD_ixa htb ?_) | (refine WD_ix1 htb ?_) | (refine WD_cut htb ?_) | (refine WD_cut3 htb ?_) | (refine WD_lens htb ?_) | (refine WD_caps htb ?_) | (refine WD_cps htb ?_) | (refine WD_cpp htb ?_) | (refine WD_api htb ?_) | (refine WD_apz htb ?_) | (refine WD_clr htb ?_) | (refine WD_t (by exact rfl) (by exact rfl) (by exact known) fun hb => ?_; rw [hb]; clear hb) | (refine WD_f (by exact rfl) (by exact rfl) (by exact known) fun hb => ?_; rw [hb]; clear hb) | ((refine WD_tf (by exact rfl) (by exact rfl) ?_ ?_) <;> (intro hb; (fail_if_success (with_reducible injection hb)); rw [hb]; (try simp only [List.length_map] at hb)))) | (with_reducible apply WA_seq) | ((with_reducible apply gR hmix hN); exact (by kernel_rfl); (try dsimp only [List.append_eq, List.cons_append, List.nil_append])) | ((with_reducible apply WD_end); (first | exact no_draw | (intro _; kernel_rfl)); try simp only [thn, inB, List.length_map, List.cons_append, List.nil_append]) | ((with_reducible apply gCt); exact rfl; exact rfl) | ((with_reducible apply gCf); exact rfl; exact rfl) | ((with_reducible apply gCk); exact rfl; exact known; intro hb; rw [hb]; clear hb) | ((with_reducible apply gCn); exact rfl; exact known; intro hb; rw [hb]; clear hb) | (((with_reducible apply gC2); exact rfl) <;> (intro hb; rw [hb])) | (with_reducible apply WA_block) | ((with_reducible first | apply WA_skip | apply WA_ret | apply WA_exit | apply WA_label); try simp only [thn, inB, List.length_map, List.cons_append, List.nil_append])))
        rw [aTr_cast2]
        (exact glV [(6, .ptr 6 0)] [(6, .box 49 [vI ((rgN (s4.x 3) (r + o.length) : Nat) : Int), lN m, .d (.rows 3 (o.map rTp))]), (9000, tpB ((s4.x 3).x (r + o.length : Nat)))] (LeV []))
end Go.Proofs.YtbfafljcclfeaaaGreatDoor

/- Plain facts: trusts that fit a configuration. No program stands here. -/
namespace Go.Proofs.YtbfafljcclfeaaaGreatDoor
set_option linter.unusedSimpArgs false
set_option linter.unusedVariables false
set_option linter.unnecessarySimpa false
set_option linter.unusedSectionVars false
set_option maxRecDepth 100000
open Go Go.RowKit Go.Am Go.Proofs.Grow

mutual
theorem lev_kb : ∀ t : Tr, levT t = 0 → (kbT t : Int) ≤ sizT t
  | .mk k ns is, h => by
    simp only [levT] at h
    split at h
    · omega
    rename_i h1
    split at h
    · omega
    split at h
    · rename_i h2; exact absurd h h2
    have h3 := lev_kbL is ((ns.length : Int) + (is.length : Int)) (by omega) h
    have h4 := sizL_nn is ((ns.length : Int) + (is.length : Int))
    simp only [kbT, sizT]
    omega
theorem lev_kbL : ∀ (l : List Tr) (a : Int), 0 ≤ a → levL l = 0 → (kbL l : Int) ≤ sizL l a
  | [], a, ha, _ => by simp only [kbL, sizL]; omega
  | t :: r, a, ha, h => by
    simp only [levL] at h
    split at h
    · rename_i h1; exact absurd h h1
    rename_i h1
    have h2 := lev_kb t (by omega)
    have h3 := siz_nn t
    have h4 := lev_kbL r (a + sizT t) (by omega) h
    have h5 := sizL_nn r (a + sizT t)
    simp only [kbL, sizL]
    omega
end
/-- A right trust that fits n nodes. -/
structure FitT (n : Nat) (t : Tr) : Prop where
  chk : chkT t = 0
  use : useT t < ((2 ^ n : Nat) : Int)
theorem chk_lev {t : Tr} (h : chkT t = 0) : sizT t ≤ 200 ∧ levT t = 0 := by
  unfold chkT at h
  split at h
  · omega
  · exact ⟨by omega, h⟩
theorem FitT.siz {n : Nat} {t : Tr} (h : FitT n t) : sizT t ≤ 200 := (chk_lev h.chk).1
theorem FitT.kb {n : Nat} {t : Tr} (h : FitT n t) : kbT t ≤ 200 := by
  have := lev_kb t (chk_lev h.chk).2
  have := h.siz
  omega
theorem or_ltn {a b n : Nat} (ha : a < 2 ^ n) (hb : b < 2 ^ n) : a ||| b < 2 ^ n := Nat.or_lt_two_pow ha hb
theorem useI_lt {n : Nat} (hn : n ≤ 10) : ∀ (l : List Int) (a : Nat), (∀ x ∈ l, 0 ≤ x ∧ x < (n : Int)) → a < 2 ^ n → ∃ b : Nat, useI l (a : Int) = (b : Int) ∧ b < 2 ^ n
  | [], a, _, ha => ⟨a, rfl, ha⟩
  | x :: r, a, h, ha => by
    have hx := h x (by simp)
    have h2 := two_le hn
    obtain ⟨k, rfl⟩ : ∃ k : Nat, x = (k : Int) := ⟨x.toNat, by omega⟩
    have hk : k < n := by omega
    have hp : 2 ^ k < 2 ^ n := Nat.pow_lt_pow_right (by decide) hk
    have h1 : nodeB (k : Int) = true := by simp [nodeB]; omega
    rw [useI, if_pos h1, shl_nat (by omega), bor_nat (by omega) (by omega)]
    exact useI_lt hn r _ (fun y hy => h y (by simp [hy])) (or_ltn ha hp)
theorem useL_lt {n : Nat} (hn : n ≤ 10) : ∀ (l : List Tr) (a : Nat), (∀ x ∈ l, ∃ b : Nat, useT x = (b : Int) ∧ b < 2 ^ n) → a < 2 ^ n → ∃ b : Nat, useL l (a : Int) = (b : Int) ∧ b < 2 ^ n
  | [], a, _, ha => ⟨a, rfl, ha⟩
  | x :: r, a, h, ha => by
    obtain ⟨b, hb, hl⟩ := h x (by simp)
    have h2 := two_le hn
    rw [useL, hb, bor_nat (by omega) (by omega)]
    exact useL_lt hn r _ (fun y hy => h y (by simp [hy])) (or_ltn ha hl)
theorem useT_leaf {n : Nat} (hn : n ≤ 10) {t : Tr} (hi : t.is = []) (h : ∀ x ∈ t.ns, 0 ≤ x ∧ x < (n : Int)) : ∃ b : Nat, useT t = (b : Int) ∧ b < 2 ^ n := by
  cases t with
  | mk k ns is =>
    obtain rfl : is = [] := hi
    obtain ⟨b, hb, hl⟩ := useI_lt hn ns 0 h (Nat.pow_pos (by decide))
    exact ⟨b, by simp only [useT, useL]; exact hb, hl⟩
theorem GoodT.use {n : Nat} (hn : n ≤ 10) {t : Tr} (h : GoodT n t) : ∃ b : Nat, useT t = (b : Int) ∧ b < 2 ^ n := by
  obtain ⟨g1, g2, g3, g4⟩ := h
  cases t with
  | mk k ns is =>
    obtain ⟨b, hb, hl⟩ := useI_lt hn ns 0 g1 (Nat.pow_pos (by decide))
    obtain ⟨c, hc, hl2⟩ := useL_lt hn is b (fun x hx => useT_leaf hn (g4 x hx).1 (g4 x hx).2.2) hl
    refine ⟨c, ?_, hl2⟩
    simp only [useT]
    rw [show (0 : Int) = ((0 : Nat) : Int) from rfl, hb, hc]
theorem siz_leaf {t : Tr} (hi : t.is = []) : sizT t = t.ns.length := by
  cases t with
  | mk k ns is => obtain rfl : is = [] := hi; simp [sizT, sizL, Tr.ns]
theorem sizL_leaf : ∀ (l : List Tr) (a : Int), (∀ y ∈ l, y.is = [] ∧ y.ns.length ≤ 5) → sizL l a ≤ a + 5 * (l.length : Int)
  | [], a, _ => by simp [sizL]
  | t :: r, a, h => by
    have h1 := h t (by simp)
    have h2 := siz_leaf h1.1
    have h3 := sizL_leaf r (a + sizT t) (fun y hy => h y (by simp [hy]))
    simp only [sizL, List.length_cons]
    omega
theorem GoodT.siz {n : Nat} {t : Tr} (h : GoodT n t) : sizT t ≤ 200 := by
  obtain ⟨g1, g2, g3, g4⟩ := h
  cases t with
  | mk k ns is =>
    have := sizL_leaf is ((ns.length : Int) + (is.length : Int)) (fun y hy => ⟨(g4 y hy).1, (g4 y hy).2.1⟩)
    simp only [Tr.ns, Tr.is] at g2 g3
    simp only [sizT]
    omega
theorem dep_leaf {t : Tr} (hi : t.is = []) : depT t = 1 := by
  cases t with
  | mk k ns is => obtain rfl : is = [] := hi; simp [depT, depL]
theorem depL_leaf : ∀ (l : List Tr) (a : Int), (∀ y ∈ l, y.is = []) → a ≤ 1 → depL l a ≤ 1
  | [], a, _, h => by simpa [depL] using h
  | t :: r, a, h, ha => by
    simp only [depL]
    refine depL_leaf r _ (fun y hy => h y (by simp [hy])) ?_
    rw [dep_leaf (h t (by simp))]
    unfold mxI; split <;> omega
theorem GoodT.fit {n : Nat} (hn : n ≤ 10) {t : Tr} (h : GoodT n t) (hc : chkT t = 0) : FitT n t := by
  obtain ⟨b, hb, hl⟩ := h.use hn
  exact ⟨hc, by omega⟩
theorem ofI_nodup : ∀ (l : List Nat) (a : Nat), a < 1024 → (∀ x ∈ l, x < 10 ∧ a.testBit x = false) → l.Nodup → (ofI (l.map fun x : Nat => (x : Int)) (a : Int)).2 = 0
  | [], a, _, _, _ => rfl
  | x :: r, a, ha, h, hd => by
    have hx := h x (by simp)
    have hp := pow_lt hx.1
    obtain ⟨hd1, hd2⟩ := List.nodup_cons.1 hd
    have h1 : nodeB (x : Int) = true := by simp [nodeB]; omega
    have h2 : hasB (a : Int) (x : Int) = false := by rw [has_nat ha hx.1]; exact hx.2
    rw [List.map_cons, ofI, if_neg (by rw [h1]; simp), if_neg (by rw [h2]; simp), shl_nat (by omega), bor_nat (by omega) (by omega)]
    refine ofI_nodup r _ (or_lt10 ha hp) (fun y hy => ⟨(h y (by simp [hy])).1, ?_⟩) hd2
    rw [Nat.testBit_or, (h y (by simp [hy])).2, Nat.testBit_two_pow_of_ne (fun e => hd1 (by rw [e]; exact hy))]
    rfl
theorem idx_no {l : List Int} (h : ∀ x ∈ l, nodeB x = true) : ∀ k, idxF (fun k => !nodeB k) k l = -1 := by
  induction l with
  | nil => intro k; rfl
  | cons x r ih =>
    intro k
    rw [idxF, if_neg (by rw [h x (by simp)]; simp)]
    exact ih (fun y hy => h y (by simp [hy])) _
/-- The first tests of a level. -/
theorem lev_eq (k : Nat) (l : List Nat) (is : List Tr) (h1 : 1 ≤ k) (h2 : k ≤ l.length + is.length) (hl : ∀ x ∈ l, x < 10) (hd : l.Nodup) : levT (.mk (k : Int) (l.map fun x : Nat => (x : Int)) is) = levL is := by
  have e := idx_no (l := l.map fun x : Nat => (x : Int)) (fun x hx => by
    obtain ⟨y, hy, rfl⟩ := List.mem_map.1 hx
    have := hl y hy
    simp [nodeB]; omega) 0
  have e2 := ofI_nodup l 0 (by decide) (fun x hx => ⟨hl x hx, Nat.zero_testBit _⟩) hd
  rw [show ((0 : Nat) : Int) = 0 from rfl] at e2
  simp only [levT]
  rw [if_neg (by rw [List.length_map]; omega), if_neg (by rw [e]; decide), if_neg (by rw [e2]; simp)]
theorem levL_all : ∀ {l : List Tr}, (∀ y ∈ l, levT y = 0) → levL l = 0
  | [], _ => rfl
  | t :: r, h => by
    rw [levL, if_neg (by rw [h t (by simp)]; simp)]
    exact levL_all fun y hy => h y (by simp [hy])
/-- Trusts of one or two levels with right thresholds. -/
theorem good_chk {n : Nat} {t : Tr} (h : GoodT n t) (hl : levT t = 0) : chkT t = 0 := by
  have h1 := h.siz
  have h2 : depT t ≤ 2 := by
    obtain ⟨g1, g2, g3, g4⟩ := h
    cases t with
    | mk k ns is =>
      have := depL_leaf is 0 (fun y hy => (g4 y hy).1) (by omega)
      simp only [depT]; omega
  unfold chkT
  rw [if_neg (by omega)]; exact hl
/-- A trust in some nodes. -/
theorem leaf_good {n k : Nat} {l : List Nat} (hn : n ≤ 10) (h5 : l.length ≤ 5) (hl : ∀ x ∈ l, x < n) (hd : l.Nodup) (h1 : 1 ≤ k) (h2 : k ≤ l.length) :
    GoodT n (.mk (k : Int) (l.map fun x : Nat => (x : Int)) []) ∧ levT (.mk (k : Int) (l.map fun x : Nat => (x : Int)) []) = 0 := by
  refine ⟨⟨fun x hx => ?_, by simpa [Tr.ns] using h5, by simp [Tr.is], fun y hy => by simp [Tr.is] at hy⟩, ?_⟩
  · obtain ⟨y, hy, rfl⟩ := List.mem_map.1 hx
    have := hl y hy
    omega
  · rw [lev_eq k l [] h1 (by simpa using h2) (fun x hx => by have := hl x hx; omega) hd]
    rfl
theorem leaf_fit {n k : Nat} {l : List Nat} (hn : n ≤ 10) (h5 : l.length ≤ 5) (hl : ∀ x ∈ l, x < n) (hd : l.Nodup) (h1 : 1 ≤ k) (h2 : k ≤ l.length) : FitT n (.mk (k : Int) (l.map fun x : Nat => (x : Int)) []) := by
  obtain ⟨g, e⟩ := leaf_good hn h5 hl hd h1 h2
  exact g.fit hn (good_chk g e)
theorem one_fit {n : Nat} (hn : n ≤ 10) {x : Int} (h : 0 ≤ x ∧ x < (n : Int)) : FitT n (.mk 1 [x] []) := by
  have := leaf_fit (k := 1) (l := [x.toNat]) hn (by simp) (by simp; omega) (by simp) (by omega) (by simp)
  rw [show List.map (fun x : Nat => (x : Int)) [x.toNat] = [x] by simp; omega] at this
  exact this
theorem tr2_good {s : Sc} {n : Nat} (hs : s.ok) (h1 : 1 ≤ n) (h2 : n ≤ 5) : GoodT n (tr2F s n).1 ∧ (tr2F s n).2.ok := by
  obtain ⟨ho1, ho2, ho3⟩ := ordF_spec hs h1
  unfold tr2F
  generalize ordF s n = p at *
  obtain ⟨l, s1⟩ := p
  dsimp only at ho1 ho2 ho3 ⊢
  have hs2 := Sc.ok_x ho3 (n : Int)
  generalize s1.x n = sa at *
  have hnb := sa.n_bd (k := 6) (by omega)
  have hpb := pick_bd (k := (sa.n 6).toNat) (by omega)
  generalize nth picks (sa.n 6).toNat = i at *
  obtain ⟨g1, g2, g3⟩ := inn_spec h1 h2 i.toNat (sa.x 6) [] (Sc.ok_x hs2 _) (fun y hy => by cases hy)
  generalize innF i.toNat (sa.x 6) n [] = q at *
  have gn : ∀ k, ∀ x ∈ (l.take k).map (fun x : Nat => (x : Int)), 0 ≤ x ∧ x < (n : Int) := fun k x hx => by
    obtain ⟨y, hy, rfl⟩ := List.mem_map.1 hx
    have := ho2 y (List.mem_of_mem_take hy)
    omega
  have gl : ∀ k, ((l.take k).map (fun x : Nat => (x : Int))).length ≤ 5 := fun k => by rw [List.length_map, List.length_take]; omega
  have g1' : q.1.length ≤ 3 := by simp at g1; omega
  split
  · exact ⟨⟨gn _, gl _, by simp [Tr.is], fun y hy => by simp [Tr.is] at hy⟩, Sc.ok_x g3 _⟩
  split
  · exact ⟨⟨fun x hx => by simp [Tr.ns] at hx, by simp [Tr.ns], g1', g2⟩, Sc.ok_x (Sc.ok_x g3 _) _⟩
  · exact ⟨⟨gn _, gl _, g1', g2⟩, Sc.ok_x (Sc.ok_x g3 _) _⟩
/-- A drawn trust. -/
def trF (s : Sc) (n : Nat) : Tr × Sc :=
  if chkT (tr2F s n).1 ≠ 0 then (.mk 1 [(tr2F s n).2.n n] [], (tr2F s n).2.x n) else tr2F s n
theorem trF_fit {s : Sc} {n : Nat} (hs : s.ok) (h1 : 1 ≤ n) (h2 : n ≤ 5) : FitT n (trF s n).1 ∧ (trF s n).2.ok := by
  obtain ⟨g, o⟩ := tr2_good hs h1 h2
  unfold trF
  generalize tr2F s n = q at *
  obtain ⟨t, s1⟩ := q
  dsimp only at g o ⊢
  have hb := s1.n_bd (k := n) (by omega)
  split
  · exact ⟨one_fit (by omega) (by omega), Sc.ok_x o _⟩
  · rename_i h; exact ⟨g.fit (by omega) (by omega), o⟩
end Go.Proofs.YtbfafljcclfeaaaGreatDoor

/- Contracts: drawn trusts, configurations and sets. -/
namespace Go.Proofs.YtbfafljcclfeaaaGreatDoor
set_option linter.unusedSimpArgs false
set_option linter.unusedVariables false
set_option linter.unnecessarySimpa false
set_option linter.unusedSectionVars false
set_option maxRecDepth 100000
open Go Go.RowKit Go.Am Go.Proofs.Grow

theorem tr_m (s : Sc) (n : Nat) (hs : s.ok) (h1 : 1 ≤ n) (h2 : n ≤ 5) : FnM Tryz.prog 17 [(9000, tpB s)] [.ptr 9000 0, vI (n : Int), vI 2] (aTr (trF s n).1) [(9000, tpB (trF s n).2)] := by
  obtain ⟨g, o⟩ := tr2_good hs h1 h2
  have tr2X_m := tr2_m s n hs h1 h2
  unfold trF
  generalize tr2F s n = q at *
  obtain ⟨t, s1⟩ := q
  dsimp only at g o tr2X_m ⊢
  have chkZ_m := chkR_m t (by have := g.siz; omega)
  have nnB_m := tN_m s1 n o (by omega) (by omega)
  refine FnM.of htb Tryz.func17 rfl rfl rfl rfl rfl fun cx hN h0 => ?_
  by_cases hc : chkT t ≠ 0
  · have t1 : (chkT t != 0) = true := by simpa using hc
    rw [if_pos hc]
    (repeat' (first | ((with_reducible apply WD_id); first | (refine WD_sum ?_) | (refine WD_nxt htb (by exact rfl) ?_) | (refine WD_unk (by exact rfl) ?_; first | (refine WD_t (by exact rfl) (by exact rfl) (by exact known) fun hb => ?_; rw [hb]; clear hb) | (refine WD_f (by exact rfl) (by exact rfl) (by exact known) fun hb => ?_; rw [hb]; clear hb) | ((refine WD_tf (by exact rfl) (by exact rfl) ?_ ?_) <;> (intro hb; (fail_if_success (with_reducible injection hb)); rw [hb]; (try simp only [List.length_map] at hb)))) | (refine WD_call (by exact rfl) ?_; first | (refine WD_cM (tr2X_m) ?_) | (refine WD_c0 (chkZ_m) ?_) | (refine WD_cM (nnB_m) ?_)) | (refine WD_idx htb ?_) | (refine WD_idxo htb ?_) | (refine WD_lde1 htb ?_) | (refine WD_lde htb ?_) | (refine WD_ste htb ?_) | (refine WD_ap htb ?_) | (refine WD_ap0 htb ?_) | (refine WD_nil htb ?_) | (refine WD_nilr htb ?_) | (refine WD_rem ?_) | (refine WD_quo ?_) | (refine WD_slc htb ?_) | (refine WD_ixa htb ?_) | (refine WD_ix1 htb ?_) | (refine WD_cut htb ?_) | (refine WD_cut3 htb ?_) | (refine WD_lens htb ?_) | (refine WD_caps htb ?_) | (refine WD_cps htb ?_) | (refine WD_cpp htb ?_) | (refine WD_api htb ?_) | (refine WD_apz htb ?_) | (refine WD_clr htb ?_) | (refine WD_t (by exact rfl) (by exact rfl) (by exact known) fun hb => ?_; rw [hb]; clear hb) | (refine WD_f (by exact rfl) (by exact rfl) (by exact known) fun hb => ?_; rw [hb]; clear hb) | ((refine WD_tf (by exact rfl) (by exact rfl) ?_ ?_) <;> (intro hb; (fail_if_success (with_reducible injection hb)); rw [hb]; (try simp only [List.length_map] at hb)))) | (with_reducible apply WA_seq) | ((with_reducible apply gR hmix hN); exact (by kernel_rfl); (try dsimp only [List.append_eq, List.cons_append, List.nil_append])) | ((with_reducible apply WD_end); (first | exact no_draw | (intro _; kernel_rfl)); try simp only [thn, inB, List.length_map, List.cons_append, List.nil_append]) | ((with_reducible apply gCt); exact rfl; exact rfl) | ((with_reducible apply gCf); exact rfl; exact rfl) | ((with_reducible apply gCk); exact rfl; exact known; intro hb; rw [hb]; clear hb) | ((with_reducible apply gCn); exact rfl; exact known; intro hb; rw [hb]; clear hb) | (((with_reducible apply gC2); exact rfl) <;> (intro hb; rw [hb])) | (with_reducible apply WA_block) | ((with_reducible first | apply WA_skip | apply WA_ret | apply WA_exit | apply WA_label); try simp only [thn, inB, List.length_map, List.cons_append, List.nil_append])))
    (exact glV [(6, .ptr 6 0)] [(6, .box 49 (cellsOf (aTr (.mk 1 [s1.n n] [])))), (9000, tpB (s1.x n))] (LeV []))
  · have t1 : (chkT t != 0) = false := by simpa using hc
    rw [if_neg hc]
    (repeat' (first | ((with_reducible apply WD_id); first | (refine WD_sum ?_) | (refine WD_nxt htb (by exact rfl) ?_) | (refine WD_unk (by exact rfl) ?_; first | (refine WD_t (by exact rfl) (by exact rfl) (by exact known) fun hb => ?_; rw [hb]; clear hb) | (refine WD_f (by exact rfl) (by exact rfl) (by exact known) fun hb => ?_; rw [hb]; clear hb) | ((refine WD_tf (by exact rfl) (by exact rfl) ?_ ?_) <;> (intro hb; (fail_if_success (with_reducible injection hb)); rw [hb]; (try simp only [List.length_map] at hb)))) | (refine WD_call (by exact rfl) ?_; first | (refine WD_cM (tr2X_m) ?_) | (refine WD_c0 (chkZ_m) ?_) | (refine WD_cM (nnB_m) ?_)) | (refine WD_idx htb ?_) | (refine WD_idxo htb ?_) | (refine WD_lde1 htb ?_) | (refine WD_lde htb ?_) | (refine WD_ste htb ?_) | (refine WD_ap htb ?_) | (refine WD_ap0 htb ?_) | (refine WD_nil htb ?_) | (refine WD_nilr htb ?_) | (refine WD_rem ?_) | (refine WD_quo ?_) | (refine WD_slc htb ?_) | (refine WD_ixa htb ?_) | (refine WD_ix1 htb ?_) | (refine WD_cut htb ?_) | (refine WD_cut3 htb ?_) | (refine WD_lens htb ?_) | (refine WD_caps htb ?_) | (refine WD_cps htb ?_) | (refine WD_cpp htb ?_) | (refine WD_api htb ?_) | (refine WD_apz htb ?_) | (refine WD_clr htb ?_) | (refine WD_t (by exact rfl) (by exact rfl) (by exact known) fun hb => ?_; rw [hb]; clear hb) | (refine WD_f (by exact rfl) (by exact rfl) (by exact known) fun hb => ?_; rw [hb]; clear hb) | ((refine WD_tf (by exact rfl) (by exact rfl) ?_ ?_) <;> (intro hb; (fail_if_success (with_reducible injection hb)); rw [hb]; (try simp only [List.length_map] at hb)))) | (with_reducible apply WA_seq) | ((with_reducible apply gR hmix hN); exact (by kernel_rfl); (try dsimp only [List.append_eq, List.cons_append, List.nil_append])) | ((with_reducible apply WD_end); (first | exact no_draw | (intro _; kernel_rfl)); try simp only [thn, inB, List.length_map, List.cons_append, List.nil_append]) | ((with_reducible apply gCt); exact rfl; exact rfl) | ((with_reducible apply gCf); exact rfl; exact rfl) | ((with_reducible apply gCk); exact rfl; exact known; intro hb; rw [hb]; clear hb) | ((with_reducible apply gCn); exact rfl; exact known; intro hb; rw [hb]; clear hb) | (((with_reducible apply gC2); exact rfl) <;> (intro hb; rw [hb])) | (with_reducible apply WA_block) | ((with_reducible first | apply WA_skip | apply WA_ret | apply WA_exit | apply WA_label); try simp only [thn, inB, List.length_map, List.cons_append, List.nil_append])))
    exact gE (.inr rfl) rfl rfl ⟨rfl, trivial⟩
/-- Most of the nodes. -/
def mosT (m : Nat) : Nat → Sc → List Nat × Sc
  | 0, s => ([], s)
  | k + 1, s => let q := mosT m k s; (if q.2.n 10 < 9 then q.1 ++ [k] else q.1, q.2.x 10)
def picks3 : List Int := [0, 0, 0, 1, -1]
def mosF (s : Sc) (m : Nat) : Tr × Sc :=
  let q := mosT m m s
  let l := if q.1.length = 0 then [0] else q.1
  let z : Int := (2 * (l.length : Int) + 2).tdiv 3 + nth picks3 (q.2.n 5).toNat
  let y : Int := if z > 1 then z else 1
  (.mk (if y < l.length then y else l.length) (l.map fun x : Nat => (x : Int)) [], q.2.x 5)
theorem mosT_spec (m : Nat) {s : Sc} (hs : s.ok) : ∀ k, (mosT m k s).1.length ≤ k ∧ (∀ x ∈ (mosT m k s).1, x < k) ∧ (mosT m k s).1.Nodup ∧ (mosT m k s).2.ok
  | 0 => ⟨by simp [mosT], by simp [mosT], by simp [mosT], hs⟩
  | k + 1 => by
    obtain ⟨h1, h2, h3, h4⟩ := mosT_spec m hs k
    have h5 := Sc.ok_x h4 10
    rw [mosT]
    dsimp only
    split
    · refine ⟨by simp; omega, fun x hx => ?_, ?_, h5⟩
      · rcases List.mem_append.1 hx with hx | hx
        · have := h2 x hx; omega
        · have : x = k := by simpa using hx
          omega
      · rw [List.nodup_append]
        exact ⟨h3, by simp, fun x hx y hy => by have := h2 x hx; simp at hy; omega⟩
    · exact ⟨by omega, fun x hx => by have := h2 x hx; omega, h3, h5⟩
theorem pick3_bd {k : Nat} (h : k < 5) : -1 ≤ nth picks3 k ∧ nth picks3 k ≤ 1 := by
  obtain rfl | rfl | rfl | rfl | rfl : k = 0 ∨ k = 1 ∨ k = 2 ∨ k = 3 ∨ k = 4 := by omega
  all_goals decide
theorem mosF_fit {s : Sc} {m : Nat} (hs : s.ok) (h1 : 1 ≤ m) (h5 : m ≤ 5) : FitT m (mosF s m).1 ∧ (mosF s m).2.ok := by
  obtain ⟨g1, g2, g3, g4⟩ := mosT_spec m hs m
  unfold mosF
  generalize mosT m m s = q at *
  obtain ⟨l0, s1⟩ := q
  dsimp only at g1 g2 g3 g4 ⊢
  refine ⟨?_, Sc.ok_x g4 _⟩
  have hl : (if l0.length = 0 then [0] else l0).length ≤ 5 ∧ (∀ x ∈ (if l0.length = 0 then [0] else l0), x < m) ∧ (if l0.length = 0 then [0] else l0).Nodup ∧ 1 ≤ (if l0.length = 0 then [0] else l0).length := by
    split
    · exact ⟨by simp, by simp; omega, by simp, by simp⟩
    · exact ⟨by omega, g2, g3, by omega⟩
  generalize (if l0.length = 0 then [0] else l0) = l at *
  generalize (2 * (l.length : Int) + 2).tdiv 3 + nth picks3 (s1.n 5).toNat = z
  have e : (if (if z > 1 then z else 1) < (l.length : Int) then (if z > 1 then z else 1) else (l.length : Int)) = (((if (if z > 1 then z else 1) < (l.length : Int) then (if z > 1 then z else 1) else (l.length : Int)).toNat : Nat) : Int) := by
    split <;> split <;> omega
  rw [e]
  refine leaf_fit (by omega) hl.1 hl.2.1 hl.2.2.1 ?_ ?_
  · split <;> split <;> omega
  · split <;> split <;> omega
theorem mos_m (s : Sc) (m : Nat) (hs : s.ok) (h1 : 1 ≤ m) (h5 : m ≤ 5) : FnM Tryz.prog 18 [(9000, tpB s)] [.ptr 9000 0, vI (m : Int)] (aTr (mosF s m).1) [(9000, tpB (mosF s m).2)] := by
  unfold mosF
  refine FnM.of htb Tryz.func18 rfl rfl rfl rfl rfl fun cx hN h0 => ?_
  (repeat' (first | ((with_reducible apply WD_id); first | (refine WD_sum ?_) | (refine WD_nxt htb (by exact rfl) ?_) | (refine WD_unk (by exact rfl) ?_; first | (refine WD_t (by exact rfl) (by exact rfl) (by exact known) fun hb => ?_; rw [hb]; clear hb) | (refine WD_f (by exact rfl) (by exact rfl) (by exact known) fun hb => ?_; rw [hb]; clear hb) | ((refine WD_tf (by exact rfl) (by exact rfl) ?_ ?_) <;> (intro hb; (fail_if_success (with_reducible injection hb)); rw [hb]; (try simp only [List.length_map] at hb)))) | (refine WD_idx htb ?_) | (refine WD_idxo htb ?_) | (refine WD_lde1 htb ?_) | (refine WD_lde htb ?_) | (refine WD_ste htb ?_) | (refine WD_ap htb ?_) | (refine WD_ap0 htb ?_) | (refine WD_nil htb ?_) | (refine WD_nilr htb ?_) | (refine WD_rem ?_) | (refine WD_quo ?_) | (refine WD_slc htb ?_) | (refine WD_ixa htb ?_) | (refine WD_ix1 htb ?_) | (refine WD_cut htb ?_) | (refine WD_cut3 htb ?_) | (refine WD_lens htb ?_) | (refine WD_caps htb ?_) | (refine WD_cps htb ?_) | (refine WD_cpp htb ?_) | (refine WD_api htb ?_) | (refine WD_apz htb ?_) | (refine WD_clr htb ?_) | (refine WD_t (by exact rfl) (by exact rfl) (by exact known) fun hb => ?_; rw [hb]; clear hb) | (refine WD_f (by exact rfl) (by exact rfl) (by exact known) fun hb => ?_; rw [hb]; clear hb) | ((refine WD_tf (by exact rfl) (by exact rfl) ?_ ?_) <;> (intro hb; (fail_if_success (with_reducible injection hb)); rw [hb]; (try simp only [List.length_map] at hb)))) | (with_reducible apply WA_seq) | ((with_reducible apply gR hmix hN); exact (by kernel_rfl); (try dsimp only [List.append_eq, List.cons_append, List.nil_append])) | ((with_reducible apply WD_end); (first | exact no_draw | (intro _; kernel_rfl)); try simp only [thn, inB, List.length_map, List.cons_append, List.nil_append]) | ((with_reducible apply gCt); exact rfl; exact rfl) | ((with_reducible apply gCf); exact rfl; exact rfl) | ((with_reducible apply gCk); exact rfl; exact known; intro hb; rw [hb]; clear hb) | ((with_reducible apply gCn); exact rfl; exact known; intro hb; rw [hb]; clear hb) | (((with_reducible apply gC2); exact rfl) <;> (intro hb; rw [hb])) | (with_reducible apply WA_block) | ((with_reducible first | apply WA_skip | apply WA_ret | apply WA_exit | apply WA_label); try simp only [thn, inB, List.length_map, List.cons_append, List.nil_append])))
  refine WA_le (Le_nilM 60 5 1 3 1 rfl rfl rfl rfl) ?_
  (refine WA_forV (m) [6] [5, 60, 9000] (fun k => [(6, vI k)]) (fun k => [(9000, tpB (mosT m k s).2), (5, .box 49 [vI 0, .own 60, .d (.v (.slice none 0 0))]), (60, .arr 3 1 ((mosT m k s).1.map rN))]) (fun k => True) ?h0 ?_)
  case h0 => trivial
  intro k hk _
  obtain ⟨g1, g2, g3, g4⟩ := mosT_spec m hs k
  rcases Nat.lt_or_ge k m with hk' | hk'
  · have t1 : decide ((k : Int) < (m : Int)) = true := by simp; omega
    have hw : mosT m (k + 1) s = (if (mosT m k s).2.n 10 < 9 then (mosT m k s).1 ++ [k] else (mosT m k s).1, (mosT m k s).2.x 10) := rfl
    rw [hw]
    dsimp only
    generalize mosT m k s = q at *
    obtain ⟨l, s1⟩ := q
    dsimp only at g1 g2 g3 g4 ⊢
    have nnB_m := tN_m s1 10 g4 (by omega) (by omega)
    by_cases hx : s1.n 10 < 9
    · have t2 : decide (s1.n 10 < 9) = true := by simpa using hx
      rw [if_pos hx]
      have hll : (l.map rN).length ≤ 10 := by rw [List.length_map]; omega
      (repeat' (first | ((with_reducible apply WD_id); first | (refine WD_sum ?_) | (refine WD_nxt htb (by exact rfl) ?_) | (refine WD_unk (by exact rfl) ?_; first | (refine WD_t (by exact rfl) (by exact rfl) (by exact known) fun hb => ?_; rw [hb]; clear hb) | (refine WD_f (by exact rfl) (by exact rfl) (by exact known) fun hb => ?_; rw [hb]; clear hb) | ((refine WD_tf (by exact rfl) (by exact rfl) ?_ ?_) <;> (intro hb; (fail_if_success (with_reducible injection hb)); rw [hb]; (try simp only [List.length_map] at hb)))) | (refine WD_call (by exact rfl) ?_; first | (refine WD_cM (nnB_m) ?_)) | (refine WD_idx htb ?_) | (refine WD_idxo htb ?_) | (refine WD_lde1 htb ?_) | (refine WD_lde htb ?_) | (refine WD_ste htb ?_) | (refine WD_ap htb ?_) | (refine WD_ap0 htb ?_) | (refine WD_nil htb ?_) | (refine WD_nilr htb ?_) | (refine WD_rem ?_) | (refine WD_quo ?_) | (refine WD_slc htb ?_) | (refine WD_ixa htb ?_) | (refine WD_ix1 htb ?_) | (refine WD_cut htb ?_) | (refine WD_cut3 htb ?_) | (refine WD_lens htb ?_) | (refine WD_caps htb ?_) | (refine WD_cps htb ?_) | (refine WD_cpp htb ?_) | (refine WD_api htb ?_) | (refine WD_apz htb ?_) | (refine WD_clr htb ?_) | (refine WD_t (by exact rfl) (by exact rfl) (by exact known) fun hb => ?_; rw [hb]; clear hb) | (refine WD_f (by exact rfl) (by exact rfl) (by exact known) fun hb => ?_; rw [hb]; clear hb) | ((refine WD_tf (by exact rfl) (by exact rfl) ?_ ?_) <;> (intro hb; (fail_if_success (with_reducible injection hb)); rw [hb]; (try simp only [List.length_map] at hb)))) | (with_reducible apply WA_seq) | ((with_reducible apply gR hmix hN); exact (by kernel_rfl); (try dsimp only [List.append_eq, List.cons_append, List.nil_append])) | ((with_reducible apply WD_end); (first | exact no_draw | (intro _; kernel_rfl)); try simp only [thn, inB, List.length_map, List.cons_append, List.nil_append]) | ((with_reducible apply gCt); exact rfl; exact rfl) | ((with_reducible apply gCf); exact rfl; exact rfl) | ((with_reducible apply gCk); exact rfl; exact known; intro hb; rw [hb]; clear hb) | ((with_reducible apply gCn); exact rfl; exact known; intro hb; rw [hb]; clear hb) | (((with_reducible apply gC2); exact rfl) <;> (intro hb; rw [hb])) | (with_reducible apply WA_block) | ((with_reducible first | apply WA_skip | apply WA_ret | apply WA_exit | apply WA_label); try simp only [thn, inB, List.length_map, List.cons_append, List.nil_append])))
      refine ⟨hk', trivial, ?_⟩
      rw [List.map_append, List.map_cons, List.map_nil]
      (exact LeV [(60, 20)])
    · have t2 : decide (s1.n 10 < 9) = false := by simpa using hx
      rw [if_neg hx]
      (repeat' (first | ((with_reducible apply WD_id); first | (refine WD_sum ?_) | (refine WD_nxt htb (by exact rfl) ?_) | (refine WD_unk (by exact rfl) ?_; first | (refine WD_t (by exact rfl) (by exact rfl) (by exact known) fun hb => ?_; rw [hb]; clear hb) | (refine WD_f (by exact rfl) (by exact rfl) (by exact known) fun hb => ?_; rw [hb]; clear hb) | ((refine WD_tf (by exact rfl) (by exact rfl) ?_ ?_) <;> (intro hb; (fail_if_success (with_reducible injection hb)); rw [hb]; (try simp only [List.length_map] at hb)))) | (refine WD_call (by exact rfl) ?_; first | (refine WD_cM (nnB_m) ?_)) | (refine WD_idx htb ?_) | (refine WD_idxo htb ?_) | (refine WD_lde1 htb ?_) | (refine WD_lde htb ?_) | (refine WD_ste htb ?_) | (refine WD_ap htb ?_) | (refine WD_ap0 htb ?_) | (refine WD_nil htb ?_) | (refine WD_nilr htb ?_) | (refine WD_rem ?_) | (refine WD_quo ?_) | (refine WD_slc htb ?_) | (refine WD_ixa htb ?_) | (refine WD_ix1 htb ?_) | (refine WD_cut htb ?_) | (refine WD_cut3 htb ?_) | (refine WD_lens htb ?_) | (refine WD_caps htb ?_) | (refine WD_cps htb ?_) | (refine WD_cpp htb ?_) | (refine WD_api htb ?_) | (refine WD_apz htb ?_) | (refine WD_clr htb ?_) | (refine WD_t (by exact rfl) (by exact rfl) (by exact known) fun hb => ?_; rw [hb]; clear hb) | (refine WD_f (by exact rfl) (by exact rfl) (by exact known) fun hb => ?_; rw [hb]; clear hb) | ((refine WD_tf (by exact rfl) (by exact rfl) ?_ ?_) <;> (intro hb; (fail_if_success (with_reducible injection hb)); rw [hb]; (try simp only [List.length_map] at hb)))) | (with_reducible apply WA_seq) | ((with_reducible apply gR hmix hN); exact (by kernel_rfl); (try dsimp only [List.append_eq, List.cons_append, List.nil_append])) | ((with_reducible apply WD_end); (first | exact no_draw | (intro _; kernel_rfl)); try simp only [thn, inB, List.length_map, List.cons_append, List.nil_append]) | ((with_reducible apply gCt); exact rfl; exact rfl) | ((with_reducible apply gCf); exact rfl; exact rfl) | ((with_reducible apply gCk); exact rfl; exact known; intro hb; rw [hb]; clear hb) | ((with_reducible apply gCn); exact rfl; exact known; intro hb; rw [hb]; clear hb) | (((with_reducible apply gC2); exact rfl) <;> (intro hb; rw [hb])) | (with_reducible apply WA_block) | ((with_reducible first | apply WA_skip | apply WA_ret | apply WA_exit | apply WA_label); try simp only [thn, inB, List.length_map, List.cons_append, List.nil_append])))
      refine ⟨hk', trivial, ?_⟩
      (exact LeV [])
  have t1 : decide ((k : Int) < (m : Int)) = false := by simp; omega
  obtain rfl : k = m := by omega
  generalize mosT k k s = q at *
  obtain ⟨l, s1⟩ := q
  dsimp only at g1 g2 g3 g4 ⊢
  have hnb := s1.n_bd (k := 5) (by omega)
  have hpb := pick3_bd (k := (s1.n 5).toNat) (by omega)
  have pkB_m := tP_m s1 picks3 g4 (by decide) (by decide)
  rw [show ((picks3.length : Nat) : Int) = 5 from rfl] at pkB_m
  generalize nth picks3 (s1.n 5).toNat = i at *
  have td : ∀ x : Nat, x ≤ 5 → 0 ≤ (2 * (x : Int) + 2).tdiv 3 ∧ (2 * (x : Int) + 2).tdiv 3 ≤ 4 := fun x hx => by
    rw [Int.tdiv_eq_ediv_of_nonneg (by omega)]; omega
  have wd : ∀ x : Nat, x ≤ 5 → IntKind.i64.wrap (IntKind.i64.wrap ((2 * (x : Int) + 2).tdiv 3) + i) = (2 * (x : Int) + 2).tdiv 3 + i := fun x hx => by
    have := td x hx
    rw [IntWalk.i64_in ((2 * (x : Int) + 2).tdiv 3) (by omega)]
    exact IntWalk.i64_in _ (by omega)
  by_cases hz : l.length = 0
  · have t2 : ((l.length : Int) == 0) = true := by simp [hz]
    rw [if_pos hz]
    have l1 : (([[.v (.int .i64 0)]] : List (List D)).length : Int) = 1 := rfl
    have l2 := td ([[.v (.int .i64 0)]] : List (List D)).length (by decide)
    (repeat' (first | ((with_reducible apply WD_id); first | (refine WD_sum ?_) | (refine WD_nxt htb (by exact rfl) ?_) | (refine WD_unk (by exact rfl) ?_; first | (refine WD_t (by exact rfl) (by exact rfl) (by exact known) fun hb => ?_; rw [hb]; clear hb) | (refine WD_f (by exact rfl) (by exact rfl) (by exact known) fun hb => ?_; rw [hb]; clear hb) | ((refine WD_tf (by exact rfl) (by exact rfl) ?_ ?_) <;> (intro hb; (fail_if_success (with_reducible injection hb)); rw [hb]; (try simp only [List.length_map] at hb)))) | (refine WD_call (by exact rfl) ?_; first | (refine WD_cM (pkB_m) ?_)) | (refine WD_idx htb ?_) | (refine WD_idxo htb ?_) | (refine WD_lde1 htb ?_) | (refine WD_lde htb ?_) | (refine WD_ste htb ?_) | (refine WD_ap htb ?_) | (refine WD_ap0 htb ?_) | (refine WD_nil htb ?_) | (refine WD_nilr htb ?_) | (refine WD_rem ?_) | (refine WD_quo ?_) | (refine WD_slc htb ?_) | (refine WD_ixa htb ?_) | (refine WD_ix1 htb ?_) | (refine WD_cut htb ?_) | (refine WD_cut3 htb ?_) | (refine WD_lens htb ?_) | (refine WD_caps htb ?_) | (refine WD_cps htb ?_) | (refine WD_cpp htb ?_) | (refine WD_api htb ?_) | (refine WD_apz htb ?_) | (refine WD_clr htb ?_) | (refine WD_t (by exact rfl) (by exact rfl) (by exact known) fun hb => ?_; rw [hb]; clear hb) | (refine WD_f (by exact rfl) (by exact rfl) (by exact known) fun hb => ?_; rw [hb]; clear hb) | ((refine WD_tf (by exact rfl) (by exact rfl) ?_ ?_) <;> (intro hb; (fail_if_success (with_reducible injection hb)); rw [hb]; (try simp only [List.length_map] at hb)))) | (with_reducible apply WA_seq) | ((with_reducible apply gR hmix hN); exact (by kernel_rfl); (try dsimp only [List.append_eq, List.cons_append, List.nil_append])) | ((with_reducible apply WD_end); (first | exact no_draw | (intro _; kernel_rfl)); try simp only [thn, inB, List.length_map, List.cons_append, List.nil_append]) | ((with_reducible apply gCt); exact rfl; exact rfl) | ((with_reducible apply gCf); exact rfl; exact rfl) | ((with_reducible apply gCk); exact rfl; exact known; intro hb; rw [hb]; clear hb) | ((with_reducible apply gCn); exact rfl; exact known; intro hb; rw [hb]; clear hb) | (((with_reducible apply gC2); exact rfl) <;> (intro hb; rw [hb])) | (with_reducible apply WA_block) | ((with_reducible first | apply WA_skip | apply WA_ret | apply WA_exit | apply WA_label); try simp only [thn, inB, List.length_map, List.cons_append, List.nil_append])))
    simp only [wd _ (show ([[.v (.int .i64 0)]] : List (List D)).length ≤ 5 by decide)]
    (exact glV [(4, .ptr 4 0)] [(4, .box 49 [vI (if (if (2 * ((([0] : List Nat).length : Nat) : Int) + 2).tdiv 3 + i > 1 then (2 * ((([0] : List Nat).length : Nat) : Int) + 2).tdiv 3 + i else 1) < ((([0] : List Nat).length : Nat) : Int) then (if (2 * ((([0] : List Nat).length : Nat) : Int) + 2).tdiv 3 + i > 1 then (2 * ((([0] : List Nat).length : Nat) : Int) + 2).tdiv 3 + i else 1) else ((([0] : List Nat).length : Nat) : Int)), lN [0], .d (.rows 3 [])]), (9000, tpB (s1.x 5))] (LeV []))
  · have t2 : ((l.length : Int) == 0) = false := by rw [beq_eq_false_iff_ne]; omega
    rw [if_neg hz]
    have hll : (l.map rN).length ≤ 10 := by rw [List.length_map]; omega
    have l2 := td l.length (by omega)
    (repeat' (first | ((with_reducible apply WD_id); first | (refine WD_sum ?_) | (refine WD_nxt htb (by exact rfl) ?_) | (refine WD_unk (by exact rfl) ?_; first | (refine WD_t (by exact rfl) (by exact rfl) (by exact known) fun hb => ?_; rw [hb]; clear hb) | (refine WD_f (by exact rfl) (by exact rfl) (by exact known) fun hb => ?_; rw [hb]; clear hb) | ((refine WD_tf (by exact rfl) (by exact rfl) ?_ ?_) <;> (intro hb; (fail_if_success (with_reducible injection hb)); rw [hb]; (try simp only [List.length_map] at hb)))) | (refine WD_call (by exact rfl) ?_; first | (refine WD_cM (pkB_m) ?_)) | (refine WD_idx htb ?_) | (refine WD_idxo htb ?_) | (refine WD_lde1 htb ?_) | (refine WD_lde htb ?_) | (refine WD_ste htb ?_) | (refine WD_ap htb ?_) | (refine WD_ap0 htb ?_) | (refine WD_nil htb ?_) | (refine WD_nilr htb ?_) | (refine WD_rem ?_) | (refine WD_quo ?_) | (refine WD_slc htb ?_) | (refine WD_ixa htb ?_) | (refine WD_ix1 htb ?_) | (refine WD_cut htb ?_) | (refine WD_cut3 htb ?_) | (refine WD_lens htb ?_) | (refine WD_caps htb ?_) | (refine WD_cps htb ?_) | (refine WD_cpp htb ?_) | (refine WD_api htb ?_) | (refine WD_apz htb ?_) | (refine WD_clr htb ?_) | (refine WD_t (by exact rfl) (by exact rfl) (by exact known) fun hb => ?_; rw [hb]; clear hb) | (refine WD_f (by exact rfl) (by exact rfl) (by exact known) fun hb => ?_; rw [hb]; clear hb) | ((refine WD_tf (by exact rfl) (by exact rfl) ?_ ?_) <;> (intro hb; (fail_if_success (with_reducible injection hb)); rw [hb]; (try simp only [List.length_map] at hb)))) | (with_reducible apply WA_seq) | ((with_reducible apply gR hmix hN); exact (by kernel_rfl); (try dsimp only [List.append_eq, List.cons_append, List.nil_append])) | ((with_reducible apply WD_end); (first | exact no_draw | (intro _; kernel_rfl)); try simp only [thn, inB, List.length_map, List.cons_append, List.nil_append]) | ((with_reducible apply gCt); exact rfl; exact rfl) | ((with_reducible apply gCf); exact rfl; exact rfl) | ((with_reducible apply gCk); exact rfl; exact known; intro hb; rw [hb]; clear hb) | ((with_reducible apply gCn); exact rfl; exact known; intro hb; rw [hb]; clear hb) | (((with_reducible apply gC2); exact rfl) <;> (intro hb; rw [hb])) | (with_reducible apply WA_block) | ((with_reducible first | apply WA_skip | apply WA_ret | apply WA_exit | apply WA_label); try simp only [thn, inB, List.length_map, List.cons_append, List.nil_append])))
    simp only [wd l.length (by omega)]
    rw [aTr_cast]
    (exact glV [(4, .ptr 4 0)] [(4, .box 49 [vI (if (if (2 * ((l.length : Nat) : Int) + 2).tdiv 3 + i > 1 then (2 * ((l.length : Nat) : Int) + 2).tdiv 3 + i else 1) < ((l.length : Nat) : Int) then (if (2 * ((l.length : Nat) : Int) + 2).tdiv 3 + i > 1 then (2 * ((l.length : Nat) : Int) + 2).tdiv 3 + i else 1) else ((l.length : Nat) : Int)), lN l, .d (.rows 3 [])]), (9000, tpB (s1.x 5))] (LeV []))
end Go.Proofs.YtbfafljcclfeaaaGreatDoor

/- Contracts: groups, configurations and sets. -/
namespace Go.Proofs.YtbfafljcclfeaaaGreatDoor
set_option linter.unusedSimpArgs false
set_option linter.unusedVariables false
set_option linter.unnecessarySimpa false
set_option linter.unusedSectionVars false
set_option maxRecDepth 100000
open Go Go.RowKit Go.Am Go.Proofs.Grow

/-- The nodes of a group. -/
def gA (m : Nat) : Nat → Nat → List Nat → List Nat
  | 0, _, o => o
  | f + 1, i, o => if i < m then gA m f (i + 3) (o ++ [i]) else o
def grN (m g : Nat) : List Nat := gA m 3 g []
theorem grN_spec {m g : Nat} (h1 : 1 ≤ m) (h5 : m ≤ 5) (hg : g < 3) : (grN m g).length ≤ 2 ∧ (∀ x ∈ grN m g, x < m) ∧ (grN m g).Nodup ∧ (g = 0 → 1 ≤ (grN m g).length) := by
  obtain rfl | rfl | rfl | rfl | rfl : m = 1 ∨ m = 2 ∨ m = 3 ∨ m = 4 ∨ m = 5 := by omega
  all_goals (obtain rfl | rfl | rfl : g = 0 ∨ g = 1 ∨ g = 2 := by omega)
  all_goals decide
/-- The groups. -/
def grT (m : Nat) : Nat → Sc → List Tr × Sc
  | 0, s => ([], s)
  | g + 1, s => let q := grT m g s; if (grN m g).length = 0 then q else (q.1 ++ [.mk ((rgN q.2 (grN m g).length : Nat) : Int) ((grN m g).map fun x : Nat => (x : Int)) []], q.2.x (grN m g).length)
def lwN (n : Nat) : Nat := if n = 3 then 2 else 1
def groF (s : Sc) (m k : Nat) : Tr × Sc :=
  let q := grT m 3 s
  let n := q.1.length
  let s2 := q.2.x 4
  if q.2.n 4 = 0 then (nth q.1 (k % n), s2)
  else (.mk ((lwN n : Int) + s2.n ((n : Int) - lwN n + 1)) [] q.1, s2.x ((n : Int) - lwN n + 1))
theorem grT_spec {m : Nat} {s : Sc} (h1 : 1 ≤ m) (h5 : m ≤ 5) (hs : s.ok) : ∀ g, g ≤ 3 → (grT m g s).1.length ≤ g ∧ (1 ≤ g → 1 ≤ (grT m g s).1.length) ∧
    (∀ y ∈ (grT m g s).1, GoodT m y ∧ levT y = 0 ∧ y.is = []) ∧ (grT m g s).2.ok
  | 0, _ => ⟨by simp [grT], by omega, by simp [grT], hs⟩
  | g + 1, hg => by
    obtain ⟨g1, g2, g3, g4⟩ := grT_spec h1 h5 hs g (by omega)
    obtain ⟨n1, n2, n3, n4⟩ := grN_spec h1 h5 (g := g) (by omega)
    rw [grT]
    split
    · rename_i h
      exact ⟨by omega, fun _ => by
        rcases Nat.eq_zero_or_pos g with h0 | h0
        · have := n4 h0; omega
        · exact g2 h0, g3, g4⟩
    · rename_i h
      have hr := rgN_bd (s := (grT m g s).2) (b := (grN m g).length) (by omega)
      have hl := leaf_good (n := m) (k := rgN (grT m g s).2 (grN m g).length) (by omega) (by omega) n2 n3 hr.1 hr.2
      refine ⟨by simp; omega, fun _ => by simp, fun y hy => ?_, Sc.ok_x g4 _⟩
      rcases List.mem_append.1 hy with hy | hy
      · exact g3 y hy
      · obtain rfl := List.mem_singleton.1 hy
        exact ⟨hl.1, hl.2, rfl⟩
theorem groF_fit {s : Sc} {m k : Nat} (hs : s.ok) (h1 : 1 ≤ m) (h5 : m ≤ 5) : FitT m (groF s m k).1 ∧ (groF s m k).2.ok := by
  obtain ⟨g1, g2, g3, g4⟩ := grT_spec (s := s) h1 h5 hs 3 (by omega)
  unfold groF
  generalize grT m 3 s = q at *
  obtain ⟨l, s1⟩ := q
  dsimp only at g1 g2 g3 g4 ⊢
  have hl := g2 (by omega)
  split
  · have hm := g3 _ (nth_mem l (k % l.length) (Nat.mod_lt _ (by omega)))
    exact ⟨hm.1.fit (by omega) (good_chk hm.1 hm.2.1), Sc.ok_x g4 _⟩
  · have hw : lwN l.length ≤ l.length ∧ 1 ≤ lwN l.length := by unfold lwN; split <;> omega
    have hb := (s1.x 4).n_bd (k := (l.length : Int) - lwN l.length + 1) (by omega)
    generalize (s1.x 4).n ((l.length : Int) - lwN l.length + 1) = z at *
    obtain ⟨j, rfl⟩ : ∃ j : Nat, z = (j : Int) := ⟨z.toNat, by omega⟩
    have hg : GoodT m (.mk ((lwN l.length : Int) + (j : Int)) [] l) := ⟨fun x hx => by simp [Tr.ns] at hx, by simp [Tr.ns], by simpa [Tr.is] using g1, fun y hy => ⟨(g3 y hy).2.2, (g3 y hy).1.nl, (g3 y hy).1.ns⟩⟩
    refine ⟨hg.fit (by omega) (good_chk hg ?_), Sc.ok_x (Sc.ok_x g4 _) _⟩
    have e := lev_eq (lwN l.length + j) [] l (by omega) (by simp; omega) (by simp) (by simp)
    rw [List.map_nil, show (((lwN l.length + j : Nat)) : Int) = (lwN l.length : Int) + (j : Int) by omega] at e
    rw [e]
    exact levL_all fun y hy => (g3 y hy).2.1
theorem gro_m (s : Sc) (m k0 : Nat) (hs : s.ok) (h1 : 1 ≤ m) (h5 : m ≤ 5) (hk0 : k0 ≤ 10) : FnM Tryz.prog 19 [(9000, tpB s)] [.ptr 9000 0, vI (m : Int), vI (k0 : Int)] (aTr (groF s m k0).1) [(9000, tpB (groF s m k0).2)] := by
  unfold groF
  refine FnM.of htb Tryz.func19 rfl rfl rfl rfl rfl fun cx hN h0 => ?_
  (repeat' (first | ((with_reducible apply WD_id); first | (refine WD_sum ?_) | (refine WD_nxt htb (by exact rfl) ?_) | (refine WD_unk (by exact rfl) ?_; first | (refine WD_t (by exact rfl) (by exact rfl) (by exact known) fun hb => ?_; rw [hb]; clear hb) | (refine WD_f (by exact rfl) (by exact rfl) (by exact known) fun hb => ?_; rw [hb]; clear hb) | ((refine WD_tf (by exact rfl) (by exact rfl) ?_ ?_) <;> (intro hb; (fail_if_success (with_reducible injection hb)); rw [hb]; (try simp only [List.length_map] at hb)))) | (refine WD_idx htb ?_) | (refine WD_idxo htb ?_) | (refine WD_lde1 htb ?_) | (refine WD_lde htb ?_) | (refine WD_ste htb ?_) | (refine WD_ap htb ?_) | (refine WD_ap0 htb ?_) | (refine WD_nil htb ?_) | (refine WD_nilr htb ?_) | (refine WD_rem ?_) | (refine WD_quo ?_) | (refine WD_slc htb ?_) | (refine WD_ixa htb ?_) | (refine WD_ix1 htb ?_) | (refine WD_cut htb ?_) | (refine WD_cut3 htb ?_) | (refine WD_lens htb ?_) | (refine WD_caps htb ?_) | (refine WD_cps htb ?_) | (refine WD_cpp htb ?_) | (refine WD_api htb ?_) | (refine WD_apz htb ?_) | (refine WD_clr htb ?_) | (refine WD_t (by exact rfl) (by exact rfl) (by exact known) fun hb => ?_; rw [hb]; clear hb) | (refine WD_f (by exact rfl) (by exact rfl) (by exact known) fun hb => ?_; rw [hb]; clear hb) | ((refine WD_tf (by exact rfl) (by exact rfl) ?_ ?_) <;> (intro hb; (fail_if_success (with_reducible injection hb)); rw [hb]; (try simp only [List.length_map] at hb)))) | (with_reducible apply WA_seq) | ((with_reducible apply gR hmix hN); exact (by kernel_rfl); (try dsimp only [List.append_eq, List.cons_append, List.nil_append])) | ((with_reducible apply WD_end); (first | exact no_draw | (intro _; kernel_rfl)); try simp only [thn, inB, List.length_map, List.cons_append, List.nil_append]) | ((with_reducible apply gCt); exact rfl; exact rfl) | ((with_reducible apply gCf); exact rfl; exact rfl) | ((with_reducible apply gCk); exact rfl; exact known; intro hb; rw [hb]; clear hb) | ((with_reducible apply gCn); exact rfl; exact known; intro hb; rw [hb]; clear hb) | (((with_reducible apply gC2); exact rfl) <;> (intro hb; rw [hb])) | (with_reducible apply WA_block) | ((with_reducible first | apply WA_skip | apply WA_ret | apply WA_exit | apply WA_label); try simp only [thn, inB, List.length_map, List.cons_append, List.nil_append])))
  refine WA_le (Le_nilT 61 7 49 3 rfl rfl) ?_
  (refine WA_forV (3) [8, 7] [61, 9000] (fun k => [(8, vI k), (7, .own 61)]) (fun k => [(9000, tpB (grT m k s).2), (61, .arr 49 3 ((grT m k s).1.map rTp))]) (fun k => True) ?h0 ?_)
  case h0 => trivial
  intro g hg _
  obtain ⟨g1, g2, g3, g4⟩ := grT_spec (s := s) h1 h5 hs g hg
  rcases Nat.lt_or_ge g 3 with hg' | hg'
  · have t1 : decide ((g : Int) < 3) = true := by simp; omega
    obtain ⟨n1, n2, n3, n4⟩ := grN_spec h1 h5 (g := g) hg'
    have hw : grT m (g + 1) s = if (grN m g).length = 0 then grT m g s else ((grT m g s).1 ++ [.mk ((rgN (grT m g s).2 (grN m g).length : Nat) : Int) ((grN m g).map fun x : Nat => (x : Int)) []], (grT m g s).2.x (grN m g).length) := rfl
    rw [hw]
    generalize grT m g s = q at *
    obtain ⟨l, s1⟩ := q
    dsimp only at g1 g2 g3 g4 ⊢
    (repeat' (first | ((with_reducible apply WD_id); first | (refine WD_sum ?_) | (refine WD_nxt htb (by exact rfl) ?_) | (refine WD_unk (by exact rfl) ?_; first | (refine WD_t (by exact rfl) (by exact rfl) (by exact known) fun hb => ?_; rw [hb]; clear hb) | (refine WD_f (by exact rfl) (by exact rfl) (by exact known) fun hb => ?_; rw [hb]; clear hb) | ((refine WD_tf (by exact rfl) (by exact rfl) ?_ ?_) <;> (intro hb; (fail_if_success (with_reducible injection hb)); rw [hb]; (try simp only [List.length_map] at hb)))) | (refine WD_idx htb ?_) | (refine WD_idxo htb ?_) | (refine WD_lde1 htb ?_) | (refine WD_lde htb ?_) | (refine WD_ste htb ?_) | (refine WD_ap htb ?_) | (refine WD_ap0 htb ?_) | (refine WD_nil htb ?_) | (refine WD_nilr htb ?_) | (refine WD_rem ?_) | (refine WD_quo ?_) | (refine WD_slc htb ?_) | (refine WD_ixa htb ?_) | (refine WD_ix1 htb ?_) | (refine WD_cut htb ?_) | (refine WD_cut3 htb ?_) | (refine WD_lens htb ?_) | (refine WD_caps htb ?_) | (refine WD_cps htb ?_) | (refine WD_cpp htb ?_) | (refine WD_api htb ?_) | (refine WD_apz htb ?_) | (refine WD_clr htb ?_) | (refine WD_t (by exact rfl) (by exact rfl) (by exact known) fun hb => ?_; rw [hb]; clear hb) | (refine WD_f (by exact rfl) (by exact rfl) (by exact known) fun hb => ?_; rw [hb]; clear hb) | ((refine WD_tf (by exact rfl) (by exact rfl) ?_ ?_) <;> (intro hb; (fail_if_success (with_reducible injection hb)); rw [hb]; (try simp only [List.length_map] at hb)))) | (with_reducible apply WA_seq) | ((with_reducible apply gR hmix hN); exact (by kernel_rfl); (try dsimp only [List.append_eq, List.cons_append, List.nil_append])) | ((with_reducible apply WD_end); (first | exact no_draw | (intro _; kernel_rfl)); try simp only [thn, inB, List.length_map, List.cons_append, List.nil_append]) | ((with_reducible apply gCt); exact rfl; exact rfl) | ((with_reducible apply gCf); exact rfl; exact rfl) | ((with_reducible apply gCk); exact rfl; exact known; intro hb; rw [hb]; clear hb) | ((with_reducible apply gCn); exact rfl; exact known; intro hb; rw [hb]; clear hb) | (((with_reducible apply gC2); exact rfl) <;> (intro hb; rw [hb])) | (with_reducible apply WA_block) | ((with_reducible first | apply WA_skip | apply WA_ret | apply WA_exit | apply WA_label); try simp only [thn, inB, List.length_map, List.cons_append, List.nil_append])))
    refine WA_le (Le_nilM 60 9 1 3 1 rfl rfl rfl rfl) ?_
    (refine WA_anyV (α := Nat × Nat × List Nat) (fun x => x.1) ((3, g, [])) [10] [9, 60] (fun x => [(10, vI ((x.2.1 : Nat) : Int))]) (fun x => [(9, .box 49 [vI 1, .own 60, .d (.v (.slice none 0 0))]), (60, .arr 3 1 (x.2.2.map rN))]) (fun x => x.1 ≤ 3 ∧ x.2.1 + 3 * x.1 ≥ 9 ∧ x.2.1 ≤ 20 ∧ x.2.2.length + x.1 ≤ 3 ∧ grN m g = gA m x.1 x.2.1 x.2.2) ?h0 ?_)
    case h0 => exact ⟨by dsimp only; omega, by dsimp only; omega, by dsimp only; omega, by simp, rfl⟩
    rintro ⟨f, i, o⟩ ⟨hf, hi1, hi2, ho, hI⟩
    dsimp only at hf hi1 hi2 ho hI ⊢
    rcases Nat.lt_or_ge i m with him | him
    · have t2 : decide ((i : Int) < (m : Int)) = true := by simp; omega
      cases f with
      | zero => omega
      | succ f =>
        rw [gA, if_pos him] at hI
        have hoo : (o.map rN).length ≤ 10 := by rw [List.length_map]; omega
        (repeat' (first | ((with_reducible apply WD_id); first | (refine WD_sum ?_) | (refine WD_nxt htb (by exact rfl) ?_) | (refine WD_unk (by exact rfl) ?_; first | (refine WD_t (by exact rfl) (by exact rfl) (by exact known) fun hb => ?_; rw [hb]; clear hb) | (refine WD_f (by exact rfl) (by exact rfl) (by exact known) fun hb => ?_; rw [hb]; clear hb) | ((refine WD_tf (by exact rfl) (by exact rfl) ?_ ?_) <;> (intro hb; (fail_if_success (with_reducible injection hb)); rw [hb]; (try simp only [List.length_map] at hb)))) | (refine WD_idx htb ?_) | (refine WD_idxo htb ?_) | (refine WD_lde1 htb ?_) | (refine WD_lde htb ?_) | (refine WD_ste htb ?_) | (refine WD_ap htb ?_) | (refine WD_ap0 htb ?_) | (refine WD_nil htb ?_) | (refine WD_nilr htb ?_) | (refine WD_rem ?_) | (refine WD_quo ?_) | (refine WD_slc htb ?_) | (refine WD_ixa htb ?_) | (refine WD_ix1 htb ?_) | (refine WD_cut htb ?_) | (refine WD_cut3 htb ?_) | (refine WD_lens htb ?_) | (refine WD_caps htb ?_) | (refine WD_cps htb ?_) | (refine WD_cpp htb ?_) | (refine WD_api htb ?_) | (refine WD_apz htb ?_) | (refine WD_clr htb ?_) | (refine WD_t (by exact rfl) (by exact rfl) (by exact known) fun hb => ?_; rw [hb]; clear hb) | (refine WD_f (by exact rfl) (by exact rfl) (by exact known) fun hb => ?_; rw [hb]; clear hb) | ((refine WD_tf (by exact rfl) (by exact rfl) ?_ ?_) <;> (intro hb; (fail_if_success (with_reducible injection hb)); rw [hb]; (try simp only [List.length_map] at hb)))) | (with_reducible apply WA_seq) | ((with_reducible apply gR hmix hN); exact (by kernel_rfl); (try dsimp only [List.append_eq, List.cons_append, List.nil_append])) | ((with_reducible apply WD_end); (first | exact no_draw | (intro _; kernel_rfl)); try simp only [thn, inB, List.length_map, List.cons_append, List.nil_append]) | ((with_reducible apply gCt); exact rfl; exact rfl) | ((with_reducible apply gCf); exact rfl; exact rfl) | ((with_reducible apply gCk); exact rfl; exact known; intro hb; rw [hb]; clear hb) | ((with_reducible apply gCn); exact rfl; exact known; intro hb; rw [hb]; clear hb) | (((with_reducible apply gC2); exact rfl) <;> (intro hb; rw [hb])) | (with_reducible apply WA_block) | ((with_reducible first | apply WA_skip | apply WA_ret | apply WA_exit | apply WA_label); try simp only [thn, inB, List.length_map, List.cons_append, List.nil_append])))
        refine ⟨(f, i + 3, o ++ [i]), by dsimp only; omega, ⟨by dsimp only; omega, by dsimp only; omega, by dsimp only; omega, by simp; omega, hI⟩, ?_⟩
        rw [List.map_append, List.map_cons, List.map_nil]
        (exact LeV [(60, 26)])
    · have t2 : decide ((i : Int) < (m : Int)) = false := by simp; omega
      obtain rfl : grN m g = o := by
        cases f with
        | zero => exact hI
        | succ f => rw [gA, if_neg (by omega)] at hI; exact hI
      refine WA_le (s' := ⟨[(10, vI (i : Int)), (9, .ptr 9 0), (8, vI (g : Int)), (7, .own 61), (6, .ptr 6 0), (0, .ptr 9000 0), (1, vI (m : Int)), (2, vI (k0 : Int))], [(9, .box 49 [vI 1, lN (grN m g), .d (.rows 3 [])]), (9000, tpB s1), (61, .arr 49 3 (l.map rTp)), (6, .box 49 [vI 0, .d (.v (.slice none 0 0)), .d (.v (.slice none 0 0))])]⟩) (LeV []) ?_
      generalize hgr : grN m g = ns at *
      have hns : (ns.map rN).length ≤ 10 := by rw [List.length_map]; omega
      have hll : (l.map rTp).length ≤ 10 := by rw [List.length_map]; omega
      by_cases hz : ns.length = 0
      · have t3 : decide ((ns.length : Int) > 0) = false := by simp only [decide_eq_false_iff_not]; omega
        rw [if_pos hz]
        (repeat' (first | ((with_reducible apply WD_id); first | (refine WD_sum ?_) | (refine WD_nxt htb (by exact rfl) ?_) | (refine WD_unk (by exact rfl) ?_; first | (refine WD_t (by exact rfl) (by exact rfl) (by exact known) fun hb => ?_; rw [hb]; clear hb) | (refine WD_f (by exact rfl) (by exact rfl) (by exact known) fun hb => ?_; rw [hb]; clear hb) | ((refine WD_tf (by exact rfl) (by exact rfl) ?_ ?_) <;> (intro hb; (fail_if_success (with_reducible injection hb)); rw [hb]; (try simp only [List.length_map] at hb)))) | (refine WD_idx htb ?_) | (refine WD_idxo htb ?_) | (refine WD_lde1 htb ?_) | (refine WD_lde htb ?_) | (refine WD_ste htb ?_) | (refine WD_ap htb ?_) | (refine WD_ap0 htb ?_) | (refine WD_nil htb ?_) | (refine WD_nilr htb ?_) | (refine WD_rem ?_) | (refine WD_quo ?_) | (refine WD_slc htb ?_) | (refine WD_ixa htb ?_) | (refine WD_ix1 htb ?_) | (refine WD_cut htb ?_) | (refine WD_cut3 htb ?_) | (refine WD_lens htb ?_) | (refine WD_caps htb ?_) | (refine WD_cps htb ?_) | (refine WD_cpp htb ?_) | (refine WD_api htb ?_) | (refine WD_apz htb ?_) | (refine WD_clr htb ?_) | (refine WD_t (by exact rfl) (by exact rfl) (by exact known) fun hb => ?_; rw [hb]; clear hb) | (refine WD_f (by exact rfl) (by exact rfl) (by exact known) fun hb => ?_; rw [hb]; clear hb) | ((refine WD_tf (by exact rfl) (by exact rfl) ?_ ?_) <;> (intro hb; (fail_if_success (with_reducible injection hb)); rw [hb]; (try simp only [List.length_map] at hb)))) | (with_reducible apply WA_seq) | ((with_reducible apply gR hmix hN); exact (by kernel_rfl); (try dsimp only [List.append_eq, List.cons_append, List.nil_append])) | ((with_reducible apply WD_end); (first | exact no_draw | (intro _; kernel_rfl)); try simp only [thn, inB, List.length_map, List.cons_append, List.nil_append]) | ((with_reducible apply gCt); exact rfl; exact rfl) | ((with_reducible apply gCf); exact rfl; exact rfl) | ((with_reducible apply gCk); exact rfl; exact known; intro hb; rw [hb]; clear hb) | ((with_reducible apply gCn); exact rfl; exact known; intro hb; rw [hb]; clear hb) | (((with_reducible apply gC2); exact rfl) <;> (intro hb; rw [hb])) | (with_reducible apply WA_block) | ((with_reducible first | apply WA_skip | apply WA_ret | apply WA_exit | apply WA_label); try simp only [thn, inB, List.length_map, List.cons_append, List.nil_append])))
        refine ⟨hg', trivial, ?_⟩
        (exact LeV [])
      · have t3 : decide ((ns.length : Int) > 0) = true := by simp only [decide_eq_true_eq]; omega
        rw [if_neg hz]
        have rgD_m := tRg_m s1 ns.length (((ns.map rN).length : Nat) : Int) g4 (by omega) (by omega) (by simp)
        (repeat' (first | ((with_reducible apply WD_id); first | (refine WD_sum ?_) | (refine WD_nxt htb (by exact rfl) ?_) | (refine WD_unk (by exact rfl) ?_; first | (refine WD_t (by exact rfl) (by exact rfl) (by exact known) fun hb => ?_; rw [hb]; clear hb) | (refine WD_f (by exact rfl) (by exact rfl) (by exact known) fun hb => ?_; rw [hb]; clear hb) | ((refine WD_tf (by exact rfl) (by exact rfl) ?_ ?_) <;> (intro hb; (fail_if_success (with_reducible injection hb)); rw [hb]; (try simp only [List.length_map] at hb)))) | (refine WD_call (by exact rfl) ?_; first | (refine WD_cM (rgD_m) ?_)) | (refine WD_idx htb ?_) | (refine WD_idxo htb ?_) | (refine WD_lde1 htb ?_) | (refine WD_lde htb ?_) | (refine WD_ste htb ?_) | (refine WD_ap htb ?_) | (refine WD_ap0 htb ?_) | (refine WD_nil htb ?_) | (refine WD_nilr htb ?_) | (refine WD_rem ?_) | (refine WD_quo ?_) | (refine WD_slc htb ?_) | (refine WD_ixa htb ?_) | (refine WD_ix1 htb ?_) | (refine WD_cut htb ?_) | (refine WD_cut3 htb ?_) | (refine WD_lens htb ?_) | (refine WD_caps htb ?_) | (refine WD_cps htb ?_) | (refine WD_cpp htb ?_) | (refine WD_api htb ?_) | (refine WD_apz htb ?_) | (refine WD_clr htb ?_) | (refine WD_t (by exact rfl) (by exact rfl) (by exact known) fun hb => ?_; rw [hb]; clear hb) | (refine WD_f (by exact rfl) (by exact rfl) (by exact known) fun hb => ?_; rw [hb]; clear hb) | ((refine WD_tf (by exact rfl) (by exact rfl) ?_ ?_) <;> (intro hb; (fail_if_success (with_reducible injection hb)); rw [hb]; (try simp only [List.length_map] at hb)))) | (with_reducible apply WA_seq) | ((with_reducible apply gR hmix hN); exact (by kernel_rfl); (try dsimp only [List.append_eq, List.cons_append, List.nil_append])) | ((with_reducible apply WD_end); (first | exact no_draw | (intro _; kernel_rfl)); try simp only [thn, inB, List.length_map, List.cons_append, List.nil_append]) | ((with_reducible apply gCt); exact rfl; exact rfl) | ((with_reducible apply gCf); exact rfl; exact rfl) | ((with_reducible apply gCk); exact rfl; exact known; intro hb; rw [hb]; clear hb) | ((with_reducible apply gCn); exact rfl; exact known; intro hb; rw [hb]; clear hb) | (((with_reducible apply gC2); exact rfl) <;> (intro hb; rw [hb])) | (with_reducible apply WA_block) | ((with_reducible first | apply WA_skip | apply WA_ret | apply WA_exit | apply WA_label); try simp only [thn, inB, List.length_map, List.cons_append, List.nil_append])))
        refine ⟨hg', trivial, ?_⟩
        rw [List.map_append, List.map_cons, List.map_nil, show rTp (.mk ((rgN s1 ns.length : Nat) : Int) (ns.map fun x : Nat => (x : Int)) []) = [dI ((rgN s1 ns.length : Nat) : Int), .rows 1 (ns.map rN), .rows 3 []] by rw [← castI]; rfl]
        (exact LeV [(61, 41)])
  · have t1 : decide ((g : Int) < 3) = false := by simp; omega
    obtain rfl : g = 3 := by omega
    generalize grT m 3 s = q at *
    obtain ⟨l, s1⟩ := q
    dsimp only at g1 g2 g3 g4 ⊢
    have hl := g2 (by omega)
    have hll : (l.map rTp).length ≤ 10 := by rw [List.length_map]; omega
    have nnC_m := tN_m s1 4 g4 (by omega) (by omega)
    have g5 := Sc.ok_x g4 4
    by_cases hz : s1.n 4 = 0
    · have t2 : (s1.n 4 == 0) = true := by simpa using hz
      rw [if_pos hz]
      have hmod : k0 % l.length < l.length := Nat.mod_lt _ (by omega)
      have e0 : (k0 : Int).tmod (l.length : Int) = ((k0 % l.length : Nat) : Int) := by
        rw [Int.tmod_eq_emod_of_nonneg (by omega)]; rfl
      (repeat' (first | ((with_reducible apply WD_id); first | (refine WD_sum ?_) | (refine WD_nxt htb (by exact rfl) ?_) | (refine WD_unk (by exact rfl) ?_; first | (refine WD_t (by exact rfl) (by exact rfl) (by exact known) fun hb => ?_; rw [hb]; clear hb) | (refine WD_f (by exact rfl) (by exact rfl) (by exact known) fun hb => ?_; rw [hb]; clear hb) | ((refine WD_tf (by exact rfl) (by exact rfl) ?_ ?_) <;> (intro hb; (fail_if_success (with_reducible injection hb)); rw [hb]; (try simp only [List.length_map] at hb)))) | (refine WD_call (by exact rfl) ?_; first | (refine WD_cM (nnC_m) ?_)) | (refine WD_idx htb ?_) | (refine WD_idxo htb ?_) | (refine WD_lde1 htb ?_) | (refine WD_lde htb ?_) | (refine WD_ste htb ?_) | (refine WD_ap htb ?_) | (refine WD_ap0 htb ?_) | (refine WD_nil htb ?_) | (refine WD_nilr htb ?_) | (refine WD_rem ?_) | (refine WD_quo ?_) | (refine WD_slc htb ?_) | (refine WD_ixa htb ?_) | (refine WD_ix1 htb ?_) | (refine WD_cut htb ?_) | (refine WD_cut3 htb ?_) | (refine WD_lens htb ?_) | (refine WD_caps htb ?_) | (refine WD_cps htb ?_) | (refine WD_cpp htb ?_) | (refine WD_api htb ?_) | (refine WD_apz htb ?_) | (refine WD_clr htb ?_) | (refine WD_t (by exact rfl) (by exact rfl) (by exact known) fun hb => ?_; rw [hb]; clear hb) | (refine WD_f (by exact rfl) (by exact rfl) (by exact known) fun hb => ?_; rw [hb]; clear hb) | ((refine WD_tf (by exact rfl) (by exact rfl) ?_ ?_) <;> (intro hb; (fail_if_success (with_reducible injection hb)); rw [hb]; (try simp only [List.length_map] at hb)))) | (with_reducible apply WA_seq) | ((with_reducible apply gR hmix hN); exact (by kernel_rfl); (try dsimp only [List.append_eq, List.cons_append, List.nil_append])) | ((with_reducible apply WD_end); (first | exact no_draw | (intro _; kernel_rfl)); try simp only [thn, inB, List.length_map, List.cons_append, List.nil_append]) | ((with_reducible apply gCt); exact rfl; exact rfl) | ((with_reducible apply gCf); exact rfl; exact rfl) | ((with_reducible apply gCk); exact rfl; exact known; intro hb; rw [hb]; clear hb) | ((with_reducible apply gCn); exact rfl; exact known; intro hb; rw [hb]; clear hb) | (((with_reducible apply gC2); exact rfl) <;> (intro hb; rw [hb])) | (with_reducible apply WA_block) | ((with_reducible first | apply WA_skip | apply WA_ret | apply WA_exit | apply WA_label); try simp only [thn, inB, List.length_map, List.cons_append, List.nil_append])))
      exact gE (.inr rfl) rfl rfl ⟨rfl, trivial⟩
    · have t2 : (s1.n 4 == 0) = false := by simpa using hz
      rw [if_neg hz]
      have hlw : 1 ≤ lwN l.length ∧ lwN l.length ≤ l.length := by unfold lwN; split <;> omega
      have hw : (if (((l.map rTp).length : Nat) : Int) - 1 > 1 then (((l.map rTp).length : Nat) : Int) - 1 else 1) = (lwN l.length : Int) := by rw [List.length_map]; unfold lwN; split <;> split <;> omega
      have rgE_m : FnM Tryz.prog 15 [(9000, tpB (s1.x 4))] [.ptr 9000 0, vI (if (((l.map rTp).length : Nat) : Int) - 1 > 1 then (((l.map rTp).length : Nat) : Int) - 1 else 1), vI (((l.map rTp).length : Nat) : Int)] (vI ((lwN l.length : Int) + (s1.x 4).n ((l.length : Int) - lwN l.length + 1))) [(9000, tpB ((s1.x 4).x ((l.length : Int) - lwN l.length + 1)))] := by
        rw [hw, List.length_map]
        exact tR_m (s1.x 4) (lwN l.length) l.length g5 (by omega) (by omega) (by omega)
      (repeat' (first | ((with_reducible apply WD_id); first | (refine WD_sum ?_) | (refine WD_nxt htb (by exact rfl) ?_) | (refine WD_unk (by exact rfl) ?_; first | (refine WD_t (by exact rfl) (by exact rfl) (by exact known) fun hb => ?_; rw [hb]; clear hb) | (refine WD_f (by exact rfl) (by exact rfl) (by exact known) fun hb => ?_; rw [hb]; clear hb) | ((refine WD_tf (by exact rfl) (by exact rfl) ?_ ?_) <;> (intro hb; (fail_if_success (with_reducible injection hb)); rw [hb]; (try simp only [List.length_map] at hb)))) | (refine WD_call (by exact rfl) ?_; first | (refine WD_cM (nnC_m) ?_) | (refine WD_cM (rgE_m) ?_)) | (refine WD_idx htb ?_) | (refine WD_idxo htb ?_) | (refine WD_lde1 htb ?_) | (refine WD_lde htb ?_) | (refine WD_ste htb ?_) | (refine WD_ap htb ?_) | (refine WD_ap0 htb ?_) | (refine WD_nil htb ?_) | (refine WD_nilr htb ?_) | (refine WD_rem ?_) | (refine WD_quo ?_) | (refine WD_slc htb ?_) | (refine WD_ixa htb ?_) | (refine WD_ix1 htb ?_) | (refine WD_cut htb ?_) | (refine WD_cut3 htb ?_) | (refine WD_lens htb ?_) | (refine WD_caps htb ?_) | (refine WD_cps htb ?_) | (refine WD_cpp htb ?_) | (refine WD_api htb ?_) | (refine WD_apz htb ?_) | (refine WD_clr htb ?_) | (refine WD_t (by exact rfl) (by exact rfl) (by exact known) fun hb => ?_; rw [hb]; clear hb) | (refine WD_f (by exact rfl) (by exact rfl) (by exact known) fun hb => ?_; rw [hb]; clear hb) | ((refine WD_tf (by exact rfl) (by exact rfl) ?_ ?_) <;> (intro hb; (fail_if_success (with_reducible injection hb)); rw [hb]; (try simp only [List.length_map] at hb)))) | (with_reducible apply WA_seq) | ((with_reducible apply gR hmix hN); exact (by kernel_rfl); (try dsimp only [List.append_eq, List.cons_append, List.nil_append])) | ((with_reducible apply WD_end); (first | exact no_draw | (intro _; kernel_rfl)); try simp only [thn, inB, List.length_map, List.cons_append, List.nil_append]) | ((with_reducible apply gCt); exact rfl; exact rfl) | ((with_reducible apply gCf); exact rfl; exact rfl) | ((with_reducible apply gCk); exact rfl; exact known; intro hb; rw [hb]; clear hb) | ((with_reducible apply gCn); exact rfl; exact known; intro hb; rw [hb]; clear hb) | (((with_reducible apply gC2); exact rfl) <;> (intro hb; rw [hb])) | (with_reducible apply WA_block) | ((with_reducible first | apply WA_skip | apply WA_ret | apply WA_exit | apply WA_label); try simp only [thn, inB, List.length_map, List.cons_append, List.nil_append])))
      rw [aTr_p]
      (exact glV [(6, .ptr 6 0)] [(6, .box 49 [vI ((lwN l.length : Int) + (s1.x 4).n ((l.length : Int) - lwN l.length + 1)), .d (.rows 1 []), .d (.rows 3 (l.map rTp))]), (9000, tpB ((s1.x 4).x ((l.length : Int) - lwN l.length + 1)))] (LeV []))
end Go.Proofs.YtbfafljcclfeaaaGreatDoor

/- Contracts: drawn configurations and sets of members. -/
namespace Go.Proofs.YtbfafljcclfeaaaGreatDoor
set_option linter.unusedSimpArgs false
set_option linter.unusedVariables false
set_option linter.unnecessarySimpa false
set_option linter.unusedSectionVars false
set_option maxRecDepth 100000
open Go Go.RowKit Go.Am Go.Proofs.Grow

def tkF (s : Sc) (m : Nat) (kind : Int) (k : Nat) : Tr × Sc := if kind = 0 then trF s m else if kind = 1 then mosF s m else groF s m k
theorem tkF_fit {s : Sc} {m k : Nat} {kind : Int} (hs : s.ok) (h1 : 1 ≤ m) (h5 : m ≤ 5) : FitT m (tkF s m kind k).1 ∧ (tkF s m kind k).2.ok := by
  unfold tkF
  split
  · exact trF_fit hs h1 h5
  split
  · exact mosF_fit hs h1 h5
  · exact groF_fit hs h1 h5
def cfT (m : Nat) (kind : Int) : Nat → Sc → List Mb × Sc
  | 0, s => ([], s)
  | k + 1, s => ((cfT m kind k s).1 ++ [if (tkF (cfT m kind k s).2 m kind k).2.n 12 = 11 then ⟨false, .mk 0 [] []⟩ else ⟨true, (tkF (cfT m kind k s).2 m kind k).1⟩], (tkF (cfT m kind k s).2 m kind k).2.x 12)
def FitM (m : Nat) (x : Mb) : Prop := x = ⟨false, .mk 0 [] []⟩ ∨ (x.decl = true ∧ FitT m x.t)
theorem cfT_spec {m : Nat} {kind : Int} {s : Sc} (hs : s.ok) (h1 : 1 ≤ m) (h5 : m ≤ 5) : ∀ k, (cfT m kind k s).1.length = k ∧ (∀ x ∈ (cfT m kind k s).1, FitM m x) ∧ (cfT m kind k s).2.ok
  | 0 => ⟨rfl, by simp [cfT], hs⟩
  | k + 1 => by
    obtain ⟨g1, g2, g3⟩ := cfT_spec (kind := kind) hs h1 h5 k
    obtain ⟨f1, f2⟩ := tkF_fit (k := k) (kind := kind) g3 h1 h5
    rw [cfT]
    refine ⟨by simp [g1], fun x hx => ?_, Sc.ok_x f2 _⟩
    rcases List.mem_append.1 hx with hx | hx
    · exact g2 x hx
    · obtain rfl := List.mem_singleton.1 hx
      split
      · exact .inl rfl
      · exact .inr ⟨rfl, f1⟩
def cfF (s : Sc) (n : Nat) : List Mb × Sc := cfT (rgN s n) ((s.x n).n 3) (rgN s n) ((s.x n).x 3)
theorem cfF_spec {s : Sc} {n : Nat} (hs : s.ok) (h1 : 1 ≤ n) (h5 : n ≤ 5) : 1 ≤ (cfF s n).1.length ∧ (cfF s n).1.length ≤ n ∧ (∀ x ∈ (cfF s n).1, FitM (cfF s n).1.length x) ∧ (cfF s n).2.ok := by
  have hb := rgN_bd (s := s) h1
  obtain ⟨g1, g2, g3⟩ := cfT_spec (kind := (s.x n).n 3) (Sc.ok_x (Sc.ok_x hs n) 3) hb.1 (by omega) (rgN s n)
  unfold cfF
  rw [g1]
  exact ⟨hb.1, hb.2, g2, g3⟩
theorem FitM.small {m : Nat} {x : Mb} (h : FitM m x) : sizT x.t ≤ 200 ∧ kbT x.t ≤ 200 ∧ membF x m = 0 := by
  rcases h with rfl | ⟨h1, h2⟩
  · exact ⟨by decide, by decide, by simp [membF]; decide⟩
  · refine ⟨h2.siz, h2.kb, ?_⟩
    have h3 := h2.use
    unfold membF
    rw [if_neg (by rw [h1]; simp), if_neg (by rw [h2.chk]; simp), if_neg (by omega)]
theorem valL_all {n : Nat} : ∀ {l : List Mb}, (∀ x ∈ l, membF x n = 0) → valL n l = 0
  | [], _ => rfl
  | x :: r, h => by
    rw [valL, if_neg (by rw [h x (by simp)]; simp)]
    exact valL_all fun y hy => h y (by simp [hy])
theorem fit_okS {c : List Mb} (h5 : c.length ≤ 5) (h : ∀ x ∈ c, FitM c.length x) {s : Nat} (hs : s ≤ memN c) : OkS c s :=
  ⟨⟨by omega, fun k hk => by have := (h _ (nth_mem c k hk)).small.1; omega⟩, valL_all fun x hx => (h x hx).small.2.2, hs, fun k hk => by have := (h _ (nth_mem c k hk)).small.2.1; omega⟩
theorem cf_m (s : Sc) (n : Nat) (hs : s.ok) (h1 : 1 ≤ n) (h5 : n ≤ 5) : FnM Tryz.prog 5 [(9000, tpB s)] [.ptr 9000 0, vI (n : Int)] (aCf (cfF s n).1) [(9000, tpB (cfF s n).2)] := by
  have hb := rgN_bd (s := s) h1
  have rgF_m := tRg_m s n n hs h1 (by omega) rfl
  have hs1 := Sc.ok_x hs n
  unfold cfF
  generalize hm : rgN s n = m at *
  generalize hsa : s.x n = sa at *
  have nnD_m := tN_m sa 3 hs1 (by omega) (by omega)
  have hkb := sa.n_bd (k := 3) (by omega)
  have hs2 := Sc.ok_x hs1 3
  generalize hkind : sa.n 3 = kind at *
  generalize hsb : sa.x 3 = sb at *
  refine FnM.of htb Tryz.func5 rfl rfl rfl rfl rfl fun cx hN h0 => ?_
  (repeat' (first | ((with_reducible apply WD_id); first | (refine WD_sum ?_) | (refine WD_nxt htb (by exact rfl) ?_) | (refine WD_unk (by exact rfl) ?_; first | (refine WD_t (by exact rfl) (by exact rfl) (by exact known) fun hb => ?_; rw [hb]; clear hb) | (refine WD_f (by exact rfl) (by exact rfl) (by exact known) fun hb => ?_; rw [hb]; clear hb) | ((refine WD_tf (by exact rfl) (by exact rfl) ?_ ?_) <;> (intro hb; (fail_if_success (with_reducible injection hb)); rw [hb]; (try simp only [List.length_map] at hb)))) | (refine WD_call (by exact rfl) ?_; first | (refine WD_cM (rgF_m) ?_) | (refine WD_cM (nnD_m) ?_)) | (refine WD_idx htb ?_) | (refine WD_idxo htb ?_) | (refine WD_lde1 htb ?_) | (refine WD_lde htb ?_) | (refine WD_ste htb ?_) | (refine WD_ap htb ?_) | (refine WD_ap0 htb ?_) | (refine WD_nil htb ?_) | (refine WD_nilr htb ?_) | (refine WD_rem ?_) | (refine WD_quo ?_) | (refine WD_slc htb ?_) | (refine WD_ixa htb ?_) | (refine WD_ix1 htb ?_) | (refine WD_cut htb ?_) | (refine WD_cut3 htb ?_) | (refine WD_lens htb ?_) | (refine WD_caps htb ?_) | (refine WD_cps htb ?_) | (refine WD_cpp htb ?_) | (refine WD_api htb ?_) | (refine WD_apz htb ?_) | (refine WD_clr htb ?_) | (refine WD_t (by exact rfl) (by exact rfl) (by exact known) fun hb => ?_; rw [hb]; clear hb) | (refine WD_f (by exact rfl) (by exact rfl) (by exact known) fun hb => ?_; rw [hb]; clear hb) | ((refine WD_tf (by exact rfl) (by exact rfl) ?_ ?_) <;> (intro hb; (fail_if_success (with_reducible injection hb)); rw [hb]; (try simp only [List.length_map] at hb)))) | (with_reducible apply WA_seq) | ((with_reducible apply gR hmix hN); exact (by kernel_rfl); (try dsimp only [List.append_eq, List.cons_append, List.nil_append])) | ((with_reducible apply WD_end); (first | exact no_draw | (intro _; kernel_rfl)); try simp only [thn, inB, List.length_map, List.cons_append, List.nil_append]) | ((with_reducible apply gCt); exact rfl; exact rfl) | ((with_reducible apply gCf); exact rfl; exact rfl) | ((with_reducible apply gCk); exact rfl; exact known; intro hb; rw [hb]; clear hb) | ((with_reducible apply gCn); exact rfl; exact known; intro hb; rw [hb]; clear hb) | (((with_reducible apply gC2); exact rfl) <;> (intro hb; rw [hb])) | (with_reducible apply WA_block) | ((with_reducible first | apply WA_skip | apply WA_ret | apply WA_exit | apply WA_label); try simp only [thn, inB, List.length_map, List.cons_append, List.nil_append])))
  refine WA_le (Le_nilM 60 7 0 53 4 rfl rfl rfl rfl) ?_
  (refine WA_forV (m) [8] [7, 60, 9000] (fun k => [(8, vI k)]) (fun k => [(9000, tpB (cfT m kind k sb).2), (7, .box 27 [.own 60]), (60, .arr 53 4 ((cfT m kind k sb).1.map rMb))]) (fun k => True) ?h0 ?_)
  case h0 => trivial
  intro k hk _
  obtain ⟨g1, g2, g3⟩ := cfT_spec (kind := kind) hs2 hb.1 (by omega) k
  rcases Nat.lt_or_ge k m with hk' | hk'
  · have t1 : decide ((k : Int) < (m : Int)) = true := by simp; omega
    have hst : cfT m kind (k + 1) sb = ((cfT m kind k sb).1 ++ [if (tkF (cfT m kind k sb).2 m kind k).2.n 12 = 11 then ⟨false, .mk 0 [] []⟩ else ⟨true, (tkF (cfT m kind k sb).2 m kind k).1⟩], (tkF (cfT m kind k sb).2 m kind k).2.x 12) := rfl
    rw [hst]
    dsimp only
    generalize cfT m kind k sb = q at *
    obtain ⟨c, s1⟩ := q
    dsimp only at g1 g2 g3 ⊢
    obtain ⟨f1, f2⟩ := tkF_fit (k := k) (kind := kind) g3 hb.1 (by omega)
    have hcl : (c.map rMb).length ≤ 10 := by rw [List.length_map]; omega
    have nnE_m := tN_m (tkF s1 m kind k).2 12 f2 (by omega) (by omega)
    have trX := tr_m s1 m g3 hb.1 (by omega)
    have mosX := mos_m s1 m g3 hb.1 (by omega)
    have groX := gro_m s1 m k g3 hb.1 (by omega) (by omega)
    by_cases k0 : kind = 0
    · have t2 : (kind == 0) = true := by simpa using k0
      have e : tkF s1 m kind k = trF s1 m := by unfold tkF; rw [if_pos k0]
      rw [← e] at trX
      have trX_m := trX
      generalize tkF s1 m kind k = q at *
      obtain ⟨t, s2⟩ := q
      dsimp only at *
      by_cases hx : s2.n 12 = 11
      · have t4 : (s2.n 12 == 11) = true := by simpa using hx
        rw [if_pos hx]
        (repeat' (first | ((with_reducible apply WD_id); first | (refine WD_sum ?_) | (refine WD_nxt htb (by exact rfl) ?_) | (refine WD_unk (by exact rfl) ?_; first | (refine WD_t (by exact rfl) (by exact rfl) (by exact known) fun hb => ?_; rw [hb]; clear hb) | (refine WD_f (by exact rfl) (by exact rfl) (by exact known) fun hb => ?_; rw [hb]; clear hb) | ((refine WD_tf (by exact rfl) (by exact rfl) ?_ ?_) <;> (intro hb; (fail_if_success (with_reducible injection hb)); rw [hb]; (try simp only [List.length_map] at hb)))) | (refine WD_call (by exact rfl) ?_; first | (refine WD_cM (trX_m) ?_) | (refine WD_cM (nnE_m) ?_)) | (refine WD_idx htb ?_) | (refine WD_idxo htb ?_) | (refine WD_lde1 htb ?_) | (refine WD_lde htb ?_) | (refine WD_ste htb ?_) | (refine WD_ap htb ?_) | (refine WD_ap0 htb ?_) | (refine WD_nil htb ?_) | (refine WD_nilr htb ?_) | (refine WD_rem ?_) | (refine WD_quo ?_) | (refine WD_slc htb ?_) | (refine WD_ixa htb ?_) | (refine WD_ix1 htb ?_) | (refine WD_cut htb ?_) | (refine WD_cut3 htb ?_) | (refine WD_lens htb ?_) | (refine WD_caps htb ?_) | (refine WD_cps htb ?_) | (refine WD_cpp htb ?_) | (refine WD_api htb ?_) | (refine WD_apz htb ?_) | (refine WD_clr htb ?_) | (refine WD_t (by exact rfl) (by exact rfl) (by exact known) fun hb => ?_; rw [hb]; clear hb) | (refine WD_f (by exact rfl) (by exact rfl) (by exact known) fun hb => ?_; rw [hb]; clear hb) | ((refine WD_tf (by exact rfl) (by exact rfl) ?_ ?_) <;> (intro hb; (fail_if_success (with_reducible injection hb)); rw [hb]; (try simp only [List.length_map] at hb)))) | (with_reducible apply WA_seq) | ((with_reducible apply gR hmix hN); exact (by kernel_rfl); (try dsimp only [List.append_eq, List.cons_append, List.nil_append])) | ((with_reducible apply WD_end); (first | exact no_draw | (intro _; kernel_rfl)); try simp only [thn, inB, List.length_map, List.cons_append, List.nil_append]) | ((with_reducible apply gCt); exact rfl; exact rfl) | ((with_reducible apply gCf); exact rfl; exact rfl) | ((with_reducible apply gCk); exact rfl; exact known; intro hb; rw [hb]; clear hb) | ((with_reducible apply gCn); exact rfl; exact known; intro hb; rw [hb]; clear hb) | (((with_reducible apply gC2); exact rfl) <;> (intro hb; rw [hb])) | (with_reducible apply WA_block) | ((with_reducible first | apply WA_skip | apply WA_ret | apply WA_exit | apply WA_label); try simp only [thn, inB, List.length_map, List.cons_append, List.nil_append])))
        refine ⟨hk', trivial, Le.trans (Le_norm 42 rfl rMb_blank) ?_⟩
        rw [List.map_append, List.map_cons, List.map_nil]
        (exact LeV [(60, 42)])
      · have t4 : (s2.n 12 == 11) = false := by simpa using hx
        rw [if_neg hx]
        (repeat' (first | ((with_reducible apply WD_id); first | (refine WD_sum ?_) | (refine WD_nxt htb (by exact rfl) ?_) | (refine WD_unk (by exact rfl) ?_; first | (refine WD_t (by exact rfl) (by exact rfl) (by exact known) fun hb => ?_; rw [hb]; clear hb) | (refine WD_f (by exact rfl) (by exact rfl) (by exact known) fun hb => ?_; rw [hb]; clear hb) | ((refine WD_tf (by exact rfl) (by exact rfl) ?_ ?_) <;> (intro hb; (fail_if_success (with_reducible injection hb)); rw [hb]; (try simp only [List.length_map] at hb)))) | (refine WD_call (by exact rfl) ?_; first | (refine WD_cM (trX_m) ?_) | (refine WD_cM (nnE_m) ?_)) | (refine WD_idx htb ?_) | (refine WD_idxo htb ?_) | (refine WD_lde1 htb ?_) | (refine WD_lde htb ?_) | (refine WD_ste htb ?_) | (refine WD_ap htb ?_) | (refine WD_ap0 htb ?_) | (refine WD_nil htb ?_) | (refine WD_nilr htb ?_) | (refine WD_rem ?_) | (refine WD_quo ?_) | (refine WD_slc htb ?_) | (refine WD_ixa htb ?_) | (refine WD_ix1 htb ?_) | (refine WD_cut htb ?_) | (refine WD_cut3 htb ?_) | (refine WD_lens htb ?_) | (refine WD_caps htb ?_) | (refine WD_cps htb ?_) | (refine WD_cpp htb ?_) | (refine WD_api htb ?_) | (refine WD_apz htb ?_) | (refine WD_clr htb ?_) | (refine WD_t (by exact rfl) (by exact rfl) (by exact known) fun hb => ?_; rw [hb]; clear hb) | (refine WD_f (by exact rfl) (by exact rfl) (by exact known) fun hb => ?_; rw [hb]; clear hb) | ((refine WD_tf (by exact rfl) (by exact rfl) ?_ ?_) <;> (intro hb; (fail_if_success (with_reducible injection hb)); rw [hb]; (try simp only [List.length_map] at hb)))) | (with_reducible apply WA_seq) | ((with_reducible apply gR hmix hN); exact (by kernel_rfl); (try dsimp only [List.append_eq, List.cons_append, List.nil_append])) | ((with_reducible apply WD_end); (first | exact no_draw | (intro _; kernel_rfl)); try simp only [thn, inB, List.length_map, List.cons_append, List.nil_append]) | ((with_reducible apply gCt); exact rfl; exact rfl) | ((with_reducible apply gCf); exact rfl; exact rfl) | ((with_reducible apply gCk); exact rfl; exact known; intro hb; rw [hb]; clear hb) | ((with_reducible apply gCn); exact rfl; exact known; intro hb; rw [hb]; clear hb) | (((with_reducible apply gC2); exact rfl) <;> (intro hb; rw [hb])) | (with_reducible apply WA_block) | ((with_reducible first | apply WA_skip | apply WA_ret | apply WA_exit | apply WA_label); try simp only [thn, inB, List.length_map, List.cons_append, List.nil_append])))
        refine ⟨hk', trivial, ?_⟩
        rw [List.map_append, List.map_cons, List.map_nil]
        (exact LeV [(60, 49)])
    · have t2 : (kind == 0) = false := by simpa using k0
      by_cases k1 : kind = 1
      · have t3 : (kind == 1) = true := by simpa using k1
        have e : tkF s1 m kind k = mosF s1 m := by unfold tkF; rw [if_neg k0, if_pos k1]
        rw [← e] at mosX
        have mosX_m := mosX
        generalize tkF s1 m kind k = q at *
        obtain ⟨t, s2⟩ := q
        dsimp only at *
        by_cases hx : s2.n 12 = 11
        · have t4 : (s2.n 12 == 11) = true := by simpa using hx
          rw [if_pos hx]
          (repeat' (first | ((with_reducible apply WD_id); first | (refine WD_sum ?_) | (refine WD_nxt htb (by exact rfl) ?_) | (refine WD_unk (by exact rfl) ?_; first | (refine WD_t (by exact rfl) (by exact rfl) (by exact known) fun hb => ?_; rw [hb]; clear hb) | (refine WD_f (by exact rfl) (by exact rfl) (by exact known) fun hb => ?_; rw [hb]; clear hb) | ((refine WD_tf (by exact rfl) (by exact rfl) ?_ ?_) <;> (intro hb; (fail_if_success (with_reducible injection hb)); rw [hb]; (try simp only [List.length_map] at hb)))) | (refine WD_call (by exact rfl) ?_; first | (refine WD_cM (mosX_m) ?_) | (refine WD_cM (nnE_m) ?_)) | (refine WD_idx htb ?_) | (refine WD_idxo htb ?_) | (refine WD_lde1 htb ?_) | (refine WD_lde htb ?_) | (refine WD_ste htb ?_) | (refine WD_ap htb ?_) | (refine WD_ap0 htb ?_) | (refine WD_nil htb ?_) | (refine WD_nilr htb ?_) | (refine WD_rem ?_) | (refine WD_quo ?_) | (refine WD_slc htb ?_) | (refine WD_ixa htb ?_) | (refine WD_ix1 htb ?_) | (refine WD_cut htb ?_) | (refine WD_cut3 htb ?_) | (refine WD_lens htb ?_) | (refine WD_caps htb ?_) | (refine WD_cps htb ?_) | (refine WD_cpp htb ?_) | (refine WD_api htb ?_) | (refine WD_apz htb ?_) | (refine WD_clr htb ?_) | (refine WD_t (by exact rfl) (by exact rfl) (by exact known) fun hb => ?_; rw [hb]; clear hb) | (refine WD_f (by exact rfl) (by exact rfl) (by exact known) fun hb => ?_; rw [hb]; clear hb) | ((refine WD_tf (by exact rfl) (by exact rfl) ?_ ?_) <;> (intro hb; (fail_if_success (with_reducible injection hb)); rw [hb]; (try simp only [List.length_map] at hb)))) | (with_reducible apply WA_seq) | ((with_reducible apply gR hmix hN); exact (by kernel_rfl); (try dsimp only [List.append_eq, List.cons_append, List.nil_append])) | ((with_reducible apply WD_end); (first | exact no_draw | (intro _; kernel_rfl)); try simp only [thn, inB, List.length_map, List.cons_append, List.nil_append]) | ((with_reducible apply gCt); exact rfl; exact rfl) | ((with_reducible apply gCf); exact rfl; exact rfl) | ((with_reducible apply gCk); exact rfl; exact known; intro hb; rw [hb]; clear hb) | ((with_reducible apply gCn); exact rfl; exact known; intro hb; rw [hb]; clear hb) | (((with_reducible apply gC2); exact rfl) <;> (intro hb; rw [hb])) | (with_reducible apply WA_block) | ((with_reducible first | apply WA_skip | apply WA_ret | apply WA_exit | apply WA_label); try simp only [thn, inB, List.length_map, List.cons_append, List.nil_append])))
          refine ⟨hk', trivial, Le.trans (Le_norm 42 rfl rMb_blank) ?_⟩
          rw [List.map_append, List.map_cons, List.map_nil]
          (exact LeV [(60, 42)])
        · have t4 : (s2.n 12 == 11) = false := by simpa using hx
          rw [if_neg hx]
          (repeat' (first | ((with_reducible apply WD_id); first | (refine WD_sum ?_) | (refine WD_nxt htb (by exact rfl) ?_) | (refine WD_unk (by exact rfl) ?_; first | (refine WD_t (by exact rfl) (by exact rfl) (by exact known) fun hb => ?_; rw [hb]; clear hb) | (refine WD_f (by exact rfl) (by exact rfl) (by exact known) fun hb => ?_; rw [hb]; clear hb) | ((refine WD_tf (by exact rfl) (by exact rfl) ?_ ?_) <;> (intro hb; (fail_if_success (with_reducible injection hb)); rw [hb]; (try simp only [List.length_map] at hb)))) | (refine WD_call (by exact rfl) ?_; first | (refine WD_cM (mosX_m) ?_) | (refine WD_cM (nnE_m) ?_)) | (refine WD_idx htb ?_) | (refine WD_idxo htb ?_) | (refine WD_lde1 htb ?_) | (refine WD_lde htb ?_) | (refine WD_ste htb ?_) | (refine WD_ap htb ?_) | (refine WD_ap0 htb ?_) | (refine WD_nil htb ?_) | (refine WD_nilr htb ?_) | (refine WD_rem ?_) | (refine WD_quo ?_) | (refine WD_slc htb ?_) | (refine WD_ixa htb ?_) | (refine WD_ix1 htb ?_) | (refine WD_cut htb ?_) | (refine WD_cut3 htb ?_) | (refine WD_lens htb ?_) | (refine WD_caps htb ?_) | (refine WD_cps htb ?_) | (refine WD_cpp htb ?_) | (refine WD_api htb ?_) | (refine WD_apz htb ?_) | (refine WD_clr htb ?_) | (refine WD_t (by exact rfl) (by exact rfl) (by exact known) fun hb => ?_; rw [hb]; clear hb) | (refine WD_f (by exact rfl) (by exact rfl) (by exact known) fun hb => ?_; rw [hb]; clear hb) | ((refine WD_tf (by exact rfl) (by exact rfl) ?_ ?_) <;> (intro hb; (fail_if_success (with_reducible injection hb)); rw [hb]; (try simp only [List.length_map] at hb)))) | (with_reducible apply WA_seq) | ((with_reducible apply gR hmix hN); exact (by kernel_rfl); (try dsimp only [List.append_eq, List.cons_append, List.nil_append])) | ((with_reducible apply WD_end); (first | exact no_draw | (intro _; kernel_rfl)); try simp only [thn, inB, List.length_map, List.cons_append, List.nil_append]) | ((with_reducible apply gCt); exact rfl; exact rfl) | ((with_reducible apply gCf); exact rfl; exact rfl) | ((with_reducible apply gCk); exact rfl; exact known; intro hb; rw [hb]; clear hb) | ((with_reducible apply gCn); exact rfl; exact known; intro hb; rw [hb]; clear hb) | (((with_reducible apply gC2); exact rfl) <;> (intro hb; rw [hb])) | (with_reducible apply WA_block) | ((with_reducible first | apply WA_skip | apply WA_ret | apply WA_exit | apply WA_label); try simp only [thn, inB, List.length_map, List.cons_append, List.nil_append])))
          refine ⟨hk', trivial, ?_⟩
          rw [List.map_append, List.map_cons, List.map_nil]
          (exact LeV [(60, 49)])
      · have t3 : (kind == 1) = false := by simpa using k1
        have e : tkF s1 m kind k = groF s1 m k := by unfold tkF; rw [if_neg k0, if_neg k1]
        rw [← e] at groX
        have groX_m := groX
        generalize tkF s1 m kind k = q at *
        obtain ⟨t, s2⟩ := q
        dsimp only at *
        by_cases hx : s2.n 12 = 11
        · have t4 : (s2.n 12 == 11) = true := by simpa using hx
          rw [if_pos hx]
          (repeat' (first | ((with_reducible apply WD_id); first | (refine WD_sum ?_) | (refine WD_nxt htb (by exact rfl) ?_) | (refine WD_unk (by exact rfl) ?_; first | (refine WD_t (by exact rfl) (by exact rfl) (by exact known) fun hb => ?_; rw [hb]; clear hb) | (refine WD_f (by exact rfl) (by exact rfl) (by exact known) fun hb => ?_; rw [hb]; clear hb) | ((refine WD_tf (by exact rfl) (by exact rfl) ?_ ?_) <;> (intro hb; (fail_if_success (with_reducible injection hb)); rw [hb]; (try simp only [List.length_map] at hb)))) | (refine WD_call (by exact rfl) ?_; first | (refine WD_cM (groX_m) ?_) | (refine WD_cM (nnE_m) ?_)) | (refine WD_idx htb ?_) | (refine WD_idxo htb ?_) | (refine WD_lde1 htb ?_) | (refine WD_lde htb ?_) | (refine WD_ste htb ?_) | (refine WD_ap htb ?_) | (refine WD_ap0 htb ?_) | (refine WD_nil htb ?_) | (refine WD_nilr htb ?_) | (refine WD_rem ?_) | (refine WD_quo ?_) | (refine WD_slc htb ?_) | (refine WD_ixa htb ?_) | (refine WD_ix1 htb ?_) | (refine WD_cut htb ?_) | (refine WD_cut3 htb ?_) | (refine WD_lens htb ?_) | (refine WD_caps htb ?_) | (refine WD_cps htb ?_) | (refine WD_cpp htb ?_) | (refine WD_api htb ?_) | (refine WD_apz htb ?_) | (refine WD_clr htb ?_) | (refine WD_t (by exact rfl) (by exact rfl) (by exact known) fun hb => ?_; rw [hb]; clear hb) | (refine WD_f (by exact rfl) (by exact rfl) (by exact known) fun hb => ?_; rw [hb]; clear hb) | ((refine WD_tf (by exact rfl) (by exact rfl) ?_ ?_) <;> (intro hb; (fail_if_success (with_reducible injection hb)); rw [hb]; (try simp only [List.length_map] at hb)))) | (with_reducible apply WA_seq) | ((with_reducible apply gR hmix hN); exact (by kernel_rfl); (try dsimp only [List.append_eq, List.cons_append, List.nil_append])) | ((with_reducible apply WD_end); (first | exact no_draw | (intro _; kernel_rfl)); try simp only [thn, inB, List.length_map, List.cons_append, List.nil_append]) | ((with_reducible apply gCt); exact rfl; exact rfl) | ((with_reducible apply gCf); exact rfl; exact rfl) | ((with_reducible apply gCk); exact rfl; exact known; intro hb; rw [hb]; clear hb) | ((with_reducible apply gCn); exact rfl; exact known; intro hb; rw [hb]; clear hb) | (((with_reducible apply gC2); exact rfl) <;> (intro hb; rw [hb])) | (with_reducible apply WA_block) | ((with_reducible first | apply WA_skip | apply WA_ret | apply WA_exit | apply WA_label); try simp only [thn, inB, List.length_map, List.cons_append, List.nil_append])))
          refine ⟨hk', trivial, Le.trans (Le_norm 42 rfl rMb_blank) ?_⟩
          rw [List.map_append, List.map_cons, List.map_nil]
          (exact LeV [(60, 42)])
        · have t4 : (s2.n 12 == 11) = false := by simpa using hx
          rw [if_neg hx]
          (repeat' (first | ((with_reducible apply WD_id); first | (refine WD_sum ?_) | (refine WD_nxt htb (by exact rfl) ?_) | (refine WD_unk (by exact rfl) ?_; first | (refine WD_t (by exact rfl) (by exact rfl) (by exact known) fun hb => ?_; rw [hb]; clear hb) | (refine WD_f (by exact rfl) (by exact rfl) (by exact known) fun hb => ?_; rw [hb]; clear hb) | ((refine WD_tf (by exact rfl) (by exact rfl) ?_ ?_) <;> (intro hb; (fail_if_success (with_reducible injection hb)); rw [hb]; (try simp only [List.length_map] at hb)))) | (refine WD_call (by exact rfl) ?_; first | (refine WD_cM (groX_m) ?_) | (refine WD_cM (nnE_m) ?_)) | (refine WD_idx htb ?_) | (refine WD_idxo htb ?_) | (refine WD_lde1 htb ?_) | (refine WD_lde htb ?_) | (refine WD_ste htb ?_) | (refine WD_ap htb ?_) | (refine WD_ap0 htb ?_) | (refine WD_nil htb ?_) | (refine WD_nilr htb ?_) | (refine WD_rem ?_) | (refine WD_quo ?_) | (refine WD_slc htb ?_) | (refine WD_ixa htb ?_) | (refine WD_ix1 htb ?_) | (refine WD_cut htb ?_) | (refine WD_cut3 htb ?_) | (refine WD_lens htb ?_) | (refine WD_caps htb ?_) | (refine WD_cps htb ?_) | (refine WD_cpp htb ?_) | (refine WD_api htb ?_) | (refine WD_apz htb ?_) | (refine WD_clr htb ?_) | (refine WD_t (by exact rfl) (by exact rfl) (by exact known) fun hb => ?_; rw [hb]; clear hb) | (refine WD_f (by exact rfl) (by exact rfl) (by exact known) fun hb => ?_; rw [hb]; clear hb) | ((refine WD_tf (by exact rfl) (by exact rfl) ?_ ?_) <;> (intro hb; (fail_if_success (with_reducible injection hb)); rw [hb]; (try simp only [List.length_map] at hb)))) | (with_reducible apply WA_seq) | ((with_reducible apply gR hmix hN); exact (by kernel_rfl); (try dsimp only [List.append_eq, List.cons_append, List.nil_append])) | ((with_reducible apply WD_end); (first | exact no_draw | (intro _; kernel_rfl)); try simp only [thn, inB, List.length_map, List.cons_append, List.nil_append]) | ((with_reducible apply gCt); exact rfl; exact rfl) | ((with_reducible apply gCf); exact rfl; exact rfl) | ((with_reducible apply gCk); exact rfl; exact known; intro hb; rw [hb]; clear hb) | ((with_reducible apply gCn); exact rfl; exact known; intro hb; rw [hb]; clear hb) | (((with_reducible apply gC2); exact rfl) <;> (intro hb; rw [hb])) | (with_reducible apply WA_block) | ((with_reducible first | apply WA_skip | apply WA_ret | apply WA_exit | apply WA_label); try simp only [thn, inB, List.length_map, List.cons_append, List.nil_append])))
          refine ⟨hk', trivial, ?_⟩
          rw [List.map_append, List.map_cons, List.map_nil]
          (exact LeV [(60, 49)])
  · have t1 : decide ((k : Int) < (m : Int)) = false := by simp; omega
    obtain rfl : k = m := by omega
    (repeat' (first | ((with_reducible apply WD_id); first | (refine WD_sum ?_) | (refine WD_nxt htb (by exact rfl) ?_) | (refine WD_unk (by exact rfl) ?_; first | (refine WD_t (by exact rfl) (by exact rfl) (by exact known) fun hb => ?_; rw [hb]; clear hb) | (refine WD_f (by exact rfl) (by exact rfl) (by exact known) fun hb => ?_; rw [hb]; clear hb) | ((refine WD_tf (by exact rfl) (by exact rfl) ?_ ?_) <;> (intro hb; (fail_if_success (with_reducible injection hb)); rw [hb]; (try simp only [List.length_map] at hb)))) | (refine WD_idx htb ?_) | (refine WD_idxo htb ?_) | (refine WD_lde1 htb ?_) | (refine WD_lde htb ?_) | (refine WD_ste htb ?_) | (refine WD_ap htb ?_) | (refine WD_ap0 htb ?_) | (refine WD_nil htb ?_) | (refine WD_nilr htb ?_) | (refine WD_rem ?_) | (refine WD_quo ?_) | (refine WD_slc htb ?_) | (refine WD_ixa htb ?_) | (refine WD_ix1 htb ?_) | (refine WD_cut htb ?_) | (refine WD_cut3 htb ?_) | (refine WD_lens htb ?_) | (refine WD_caps htb ?_) | (refine WD_cps htb ?_) | (refine WD_cpp htb ?_) | (refine WD_api htb ?_) | (refine WD_apz htb ?_) | (refine WD_clr htb ?_) | (refine WD_t (by exact rfl) (by exact rfl) (by exact known) fun hb => ?_; rw [hb]; clear hb) | (refine WD_f (by exact rfl) (by exact rfl) (by exact known) fun hb => ?_; rw [hb]; clear hb) | ((refine WD_tf (by exact rfl) (by exact rfl) ?_ ?_) <;> (intro hb; (fail_if_success (with_reducible injection hb)); rw [hb]; (try simp only [List.length_map] at hb)))) | (with_reducible apply WA_seq) | ((with_reducible apply gR hmix hN); exact (by kernel_rfl); (try dsimp only [List.append_eq, List.cons_append, List.nil_append])) | ((with_reducible apply WD_end); (first | exact no_draw | (intro _; kernel_rfl)); try simp only [thn, inB, List.length_map, List.cons_append, List.nil_append]) | ((with_reducible apply gCt); exact rfl; exact rfl) | ((with_reducible apply gCf); exact rfl; exact rfl) | ((with_reducible apply gCk); exact rfl; exact known; intro hb; rw [hb]; clear hb) | ((with_reducible apply gCn); exact rfl; exact known; intro hb; rw [hb]; clear hb) | (((with_reducible apply gC2); exact rfl) <;> (intro hb; rw [hb])) | (with_reducible apply WA_block) | ((with_reducible first | apply WA_skip | apply WA_ret | apply WA_exit | apply WA_label); try simp only [thn, inB, List.length_map, List.cons_append, List.nil_append])))
    (exact glV [(4, .ptr 4 0)] [(4, .box 27 (cellsOf (aCf (cfT k kind k sb).1))), (9000, tpB (cfT k kind k sb).2)] (LeV []))
end Go.Proofs.YtbfafljcclfeaaaGreatDoor

/- Contracts: drawn sets of members. -/
namespace Go.Proofs.YtbfafljcclfeaaaGreatDoor
set_option linter.unusedSimpArgs false
set_option linter.unusedVariables false
set_option linter.unnecessarySimpa false
set_option linter.unusedSectionVars false
set_option maxRecDepth 100000
open Go Go.RowKit Go.Am Go.Proofs.Grow

def picks5 : List Int := [0, 1, 1, 2, 3]
theorem pick5_bd {k : Nat} (h : k < 5) : 0 ≤ nth picks5 k ∧ nth picks5 k ≤ 3 := by
  obtain rfl | rfl | rfl | rfl | rfl : k = 0 ∨ k = 1 ∨ k = 2 ∨ k = 3 ∨ k = 4 := by omega
  all_goals decide
def seT (n : Nat) : Nat → Sc → Nat → Nat × Sc
  | 0, s, a => (a, s)
  | i + 1, s, a => seT n i (s.x n) (a ||| 2 ^ (s.n n).toNat)
theorem seT_spec {n : Nat} (h1 : 1 ≤ n) : ∀ (i : Nat) (s : Sc) (a : Nat), s.ok → a < 2 ^ n → (seT n i s a).1 < 2 ^ n ∧ (seT n i s a).2.ok
  | 0, s, a, hs, ha => ⟨ha, hs⟩
  | i + 1, s, a, hs, ha => by
    have hb := s.n_bd (k := n) (by omega)
    exact seT_spec h1 i _ _ (Sc.ok_x hs _) (or_ltn ha (Nat.pow_lt_pow_right (by decide) (by omega)))
def seF (s : Sc) (c : List Mb) : Nat × Sc :=
  let q := seT c.length (nth picks5 (s.n 5).toNat).toNat (s.x 5) 0
  (q.1 ||| (andn (memN c) (declN c) * (q.2.n 2).toNat), q.2.x 2)
theorem seF_spec {s : Sc} {c : List Mb} (hs : s.ok) (h1 : 1 ≤ c.length) : (seF s c).1 ≤ memN c ∧ (seF s c).2.ok := by
  obtain ⟨g1, g2⟩ := seT_spec h1 (nth picks5 (s.n 5).toNat).toNat (s.x 5) 0 (Sc.ok_x hs _) (Nat.pow_pos (by decide))
  unfold seF
  generalize seT c.length (nth picks5 (s.n 5).toNat).toNat (s.x 5) 0 = q at *
  obtain ⟨a, s1⟩ := q
  dsimp only at g1 g2 ⊢
  have hb := s1.n_bd (k := 2) (by omega)
  have hp : 0 < 2 ^ c.length := Nat.pow_pos (by decide)
  refine ⟨?_, Sc.ok_x g2 _⟩
  have hal := andn_le (memN c) (declN c)
  have hml : memN c = 2 ^ c.length - 1 := rfl
  have : andn (memN c) (declN c) * (s1.n 2).toNat < 2 ^ c.length := by
    obtain h | h : (s1.n 2).toNat = 0 ∨ (s1.n 2).toNat = 1 := by omega
    · rw [h]; omega
    · rw [h]; omega
  have := or_ltn g1 this
  omega
theorem se_m (s : Sc) (c : List Mb) (hs : s.ok) (hc : OkC c) (h1 : 1 ≤ c.length) (h5 : c.length ≤ 5) : FnM Tryz.prog 6 [(9000, tpB s)] [.ptr 9000 0, aCf c] (vI ((seF s c).1 : Int)) [(9000, tpB (seF s c).2)] := by
  have hs1 := Sc.ok_x hs 5
  have hb := s.n_bd (k := 5) (by omega)
  have hpb := pick5_bd (k := (s.n 5).toNat) (by omega)
  have pkF_m := tP_m s picks5 hs (by decide) (by decide)
  rw [show ((picks5.length : Nat) : Int) = 5 from rfl] at pkF_m
  have hsp := seF_spec (c := c) hs h1
  have hst := seT_spec (n := c.length) h1 (nth picks5 (s.n 5).toNat).toNat (s.x 5) 0 hs1 (Nat.pow_pos (by decide))
  unfold seF at hsp ⊢
  obtain ⟨i, hi⟩ : ∃ i : Nat, nth picks5 (s.n 5).toNat = (i : Int) := ⟨(nth picks5 (s.n 5).toNat).toNat, by omega⟩
  rw [hi] at pkF_m hpb hsp hst ⊢
  rw [Int.toNat_natCast] at hsp hst ⊢
  generalize hsb : s.x 5 = sb at *
  have h2n := Nat.pow_le_pow_right (n := 2) (by decide) h5
  refine FnM.of htb Tryz.func6 rfl rfl rfl rfl rfl fun cx hN h0 => ?_
  (repeat' (first | ((with_reducible apply WD_id); first | (refine WD_sum ?_) | (refine WD_nxt htb (by exact rfl) ?_) | (refine WD_unk (by exact rfl) ?_; first | (refine WD_t (by exact rfl) (by exact rfl) (by exact known) fun hb => ?_; rw [hb]; clear hb) | (refine WD_f (by exact rfl) (by exact rfl) (by exact known) fun hb => ?_; rw [hb]; clear hb) | ((refine WD_tf (by exact rfl) (by exact rfl) ?_ ?_) <;> (intro hb; (fail_if_success (with_reducible injection hb)); rw [hb]; (try simp only [List.length_map] at hb)))) | (refine WD_call (by exact rfl) ?_; first | (refine WD_cM (pkF_m) ?_)) | (refine WD_idx htb ?_) | (refine WD_idxo htb ?_) | (refine WD_lde1 htb ?_) | (refine WD_lde htb ?_) | (refine WD_ste htb ?_) | (refine WD_ap htb ?_) | (refine WD_ap0 htb ?_) | (refine WD_nil htb ?_) | (refine WD_nilr htb ?_) | (refine WD_rem ?_) | (refine WD_quo ?_) | (refine WD_slc htb ?_) | (refine WD_ixa htb ?_) | (refine WD_ix1 htb ?_) | (refine WD_cut htb ?_) | (refine WD_cut3 htb ?_) | (refine WD_lens htb ?_) | (refine WD_caps htb ?_) | (refine WD_cps htb ?_) | (refine WD_cpp htb ?_) | (refine WD_api htb ?_) | (refine WD_apz htb ?_) | (refine WD_clr htb ?_) | (refine WD_t (by exact rfl) (by exact rfl) (by exact known) fun hb => ?_; rw [hb]; clear hb) | (refine WD_f (by exact rfl) (by exact rfl) (by exact known) fun hb => ?_; rw [hb]; clear hb) | ((refine WD_tf (by exact rfl) (by exact rfl) ?_ ?_) <;> (intro hb; (fail_if_success (with_reducible injection hb)); rw [hb]; (try simp only [List.length_map] at hb)))) | (with_reducible apply WA_seq) | ((with_reducible apply gR hmix hN); exact (by kernel_rfl); (try dsimp only [List.append_eq, List.cons_append, List.nil_append])) | ((with_reducible apply WD_end); (first | exact no_draw | (intro _; kernel_rfl)); try simp only [thn, inB, List.length_map, List.cons_append, List.nil_append]) | ((with_reducible apply gCt); exact rfl; exact rfl) | ((with_reducible apply gCf); exact rfl; exact rfl) | ((with_reducible apply gCk); exact rfl; exact known; intro hb; rw [hb]; clear hb) | ((with_reducible apply gCn); exact rfl; exact known; intro hb; rw [hb]; clear hb) | (((with_reducible apply gC2); exact rfl) <;> (intro hb; rw [hb])) | (with_reducible apply WA_block) | ((with_reducible first | apply WA_skip | apply WA_ret | apply WA_exit | apply WA_label); try simp only [thn, inB, List.length_map, List.cons_append, List.nil_append])))
  (refine WA_anyV (α := Nat × Sc × Nat) (fun x => x.1) ((i, sb, 0)) [6, 7] [9000] (fun x => [(6, vI ((x.2.2 : Nat) : Int)), (7, vI ((x.1 : Nat) : Int))]) (fun x => [(9000, tpB x.2.1)]) (fun x => x.1 ≤ 3 ∧ x.2.1.ok ∧ x.2.2 < 2 ^ c.length ∧ seT c.length i sb 0 = seT c.length x.1 x.2.1 x.2.2) ?h0 ?_)
  case h0 => exact ⟨by dsimp only; omega, hs1, Nat.pow_pos (by decide), rfl⟩
  rintro ⟨j, s1, a⟩ ⟨hj, g3, ha, hI⟩
  dsimp only at hj g3 ha hI ⊢
  rw [hI] at hsp ⊢
  cases j with
  | succ j =>
    have t2 : decide (((j + 1 : Nat) : Int) > 0) = true := by simp <;> omega
    have hnb := s1.n_bd (k := c.length) (by omega)
    have nnF := tN_m s1 c.length g3 (by omega) (by omega)
    obtain ⟨z, hz⟩ : ∃ z : Nat, s1.n c.length = (z : Int) := ⟨(s1.n c.length).toNat, by omega⟩
    rw [hz] at nnF hnb
    have nnF_m := nnF
    have hz2 : 2 ^ z < 2 ^ c.length := Nat.pow_lt_pow_right (by decide) (by omega)
    (repeat' (first | ((with_reducible apply WD_id); first | (refine WD_sum ?_) | (refine WD_nxt htb (by exact rfl) ?_) | (refine WD_unk (by exact rfl) ?_; first | (refine WD_t (by exact rfl) (by exact rfl) (by exact known) fun hb => ?_; rw [hb]; clear hb) | (refine WD_f (by exact rfl) (by exact rfl) (by exact known) fun hb => ?_; rw [hb]; clear hb) | ((refine WD_tf (by exact rfl) (by exact rfl) ?_ ?_) <;> (intro hb; (fail_if_success (with_reducible injection hb)); rw [hb]; (try simp only [List.length_map] at hb)))) | (refine WD_call (by exact rfl) ?_; first | (refine WD_cM (nnF_m) ?_)) | (refine WD_eq (shlN_step rfl rfl rfl) ?_) | (refine WD_eq (borN_step rfl rfl rfl) ?_) | (refine WD_idx htb ?_) | (refine WD_idxo htb ?_) | (refine WD_lde1 htb ?_) | (refine WD_lde htb ?_) | (refine WD_ste htb ?_) | (refine WD_ap htb ?_) | (refine WD_ap0 htb ?_) | (refine WD_nil htb ?_) | (refine WD_nilr htb ?_) | (refine WD_rem ?_) | (refine WD_quo ?_) | (refine WD_slc htb ?_) | (refine WD_ixa htb ?_) | (refine WD_ix1 htb ?_) | (refine WD_cut htb ?_) | (refine WD_cut3 htb ?_) | (refine WD_lens htb ?_) | (refine WD_caps htb ?_) | (refine WD_cps htb ?_) | (refine WD_cpp htb ?_) | (refine WD_api htb ?_) | (refine WD_apz htb ?_) | (refine WD_clr htb ?_) | (refine WD_t (by exact rfl) (by exact rfl) (by exact known) fun hb => ?_; rw [hb]; clear hb) | (refine WD_f (by exact rfl) (by exact rfl) (by exact known) fun hb => ?_; rw [hb]; clear hb) | ((refine WD_tf (by exact rfl) (by exact rfl) ?_ ?_) <;> (intro hb; (fail_if_success (with_reducible injection hb)); rw [hb]; (try simp only [List.length_map] at hb)))) | (with_reducible apply WA_seq) | ((with_reducible apply gR hmix hN); exact (by kernel_rfl); (try dsimp only [List.append_eq, List.cons_append, List.nil_append])) | ((with_reducible apply WD_end); (first | exact no_draw | (intro _; kernel_rfl)); try simp only [thn, inB, List.length_map, List.cons_append, List.nil_append]) | ((with_reducible apply gCt); exact rfl; exact rfl) | ((with_reducible apply gCf); exact rfl; exact rfl) | ((with_reducible apply gCk); exact rfl; exact known; intro hb; rw [hb]; clear hb) | ((with_reducible apply gCn); exact rfl; exact known; intro hb; rw [hb]; clear hb) | (((with_reducible apply gC2); exact rfl) <;> (intro hb; rw [hb])) | (with_reducible apply WA_block) | ((with_reducible first | apply WA_skip | apply WA_ret | apply WA_exit | apply WA_label); try simp only [thn, inB, List.length_map, List.cons_append, List.nil_append])))
    refine ⟨(j, s1.x c.length, a ||| 2 ^ z), by dsimp only; omega, ⟨by dsimp only; omega, Sc.ok_x g3 _, or_ltn ha hz2, by rw [seT, hz]; rfl⟩, ?_⟩
    (exact LeV [])
  | zero =>
    have t2 : decide (((0 : Nat) : Int) > 0) = false := by simp
    rw [show seT c.length 0 s1 a = (a, s1) from rfl] at hsp ⊢
    dsimp only at hsp ⊢
    have nnG := tN_m s1 2 g3 (by omega) (by omega)
    have hnb := s1.n_bd (k := 2) (by omega)
    have hd := declN_lt hc.len
    have hal := andn_le (memN c) (declN c)
    have hml : memN c = 2 ^ c.length - 1 := rfl
    obtain ⟨z, hz⟩ : ∃ z : Nat, s1.n 2 = (z : Int) := ⟨(s1.n 2).toNat, by omega⟩
    rw [hz] at nnG hnb ⊢
    have nnG_m := nnG
    (repeat' (first | ((with_reducible apply WD_id); first | (refine WD_sum ?_) | (refine WD_nxt htb (by exact rfl) ?_) | (refine WD_unk (by exact rfl) ?_; first | (refine WD_t (by exact rfl) (by exact rfl) (by exact known) fun hb => ?_; rw [hb]; clear hb) | (refine WD_f (by exact rfl) (by exact rfl) (by exact known) fun hb => ?_; rw [hb]; clear hb) | ((refine WD_tf (by exact rfl) (by exact rfl) ?_ ?_) <;> (intro hb; (fail_if_success (with_reducible injection hb)); rw [hb]; (try simp only [List.length_map] at hb)))) | (refine WD_call (by exact rfl) ?_; first | (refine WD_cM (nnG_m) ?_) | (refine WD_c0 (declR_m _ ?_) ?_; (exact hyp))) | (refine WD_eq (shlN_step rfl rfl rfl) ?_) | (refine WD_eq (bnotN_step rfl rfl rfl) ?_) | (refine WD_eq (borN_step rfl rfl rfl) ?_) | (refine WD_idx htb ?_) | (refine WD_idxo htb ?_) | (refine WD_lde1 htb ?_) | (refine WD_lde htb ?_) | (refine WD_ste htb ?_) | (refine WD_ap htb ?_) | (refine WD_ap0 htb ?_) | (refine WD_nil htb ?_) | (refine WD_nilr htb ?_) | (refine WD_rem ?_) | (refine WD_quo ?_) | (refine WD_slc htb ?_) | (refine WD_ixa htb ?_) | (refine WD_ix1 htb ?_) | (refine WD_cut htb ?_) | (refine WD_cut3 htb ?_) | (refine WD_lens htb ?_) | (refine WD_caps htb ?_) | (refine WD_cps htb ?_) | (refine WD_cpp htb ?_) | (refine WD_api htb ?_) | (refine WD_apz htb ?_) | (refine WD_clr htb ?_) | (refine WD_t (by exact rfl) (by exact rfl) (by exact known) fun hb => ?_; rw [hb]; clear hb) | (refine WD_f (by exact rfl) (by exact rfl) (by exact known) fun hb => ?_; rw [hb]; clear hb) | ((refine WD_tf (by exact rfl) (by exact rfl) ?_ ?_) <;> (intro hb; (fail_if_success (with_reducible injection hb)); rw [hb]; (try simp only [List.length_map] at hb)))) | (with_reducible apply WA_seq) | ((with_reducible apply gR hmix hN); exact (by kernel_rfl); (try dsimp only [List.append_eq, List.cons_append, List.nil_append])) | ((with_reducible apply WD_end); (first | exact no_draw | (intro _; kernel_rfl)); try simp only [thn, inB, List.length_map, List.cons_append, List.nil_append]) | ((with_reducible apply gCt); exact rfl; exact rfl) | ((with_reducible apply gCf); exact rfl; exact rfl) | ((with_reducible apply gCk); exact rfl; exact known; intro hb; rw [hb]; clear hb) | ((with_reducible apply gCn); exact rfl; exact known; intro hb; rw [hb]; clear hb) | (((with_reducible apply gC2); exact rfl) <;> (intro hb; rw [hb])) | (with_reducible apply WA_block) | ((with_reducible first | apply WA_skip | apply WA_ret | apply WA_exit | apply WA_label); try simp only [thn, inB, List.length_map, List.cons_append, List.nil_append])))
    have hp : 0 < 2 ^ c.length := Nat.pow_pos (by decide)
    rw [show (((2 ^ c.length : Nat) : Int) - 1) = ((memN c : Nat) : Int) by omega]
    have hmb : andn (memN c) (declN c) * z ≤ 31 ∧ (0 : Int) ≤ (andn (memN c) (declN c) : Int) * (z : Int) ∧ (andn (memN c) (declN c) : Int) * (z : Int) ≤ 31 := by
      obtain rfl | rfl : z = 0 ∨ z = 1 := by omega
      · simp
      · simp; omega
    (repeat' (first | ((with_reducible apply WD_id); first | (refine WD_sum ?_) | (refine WD_nxt htb (by exact rfl) ?_) | (refine WD_unk (by exact rfl) ?_; first | (refine WD_t (by exact rfl) (by exact rfl) (by exact known) fun hb => ?_; rw [hb]; clear hb) | (refine WD_f (by exact rfl) (by exact rfl) (by exact known) fun hb => ?_; rw [hb]; clear hb) | ((refine WD_tf (by exact rfl) (by exact rfl) ?_ ?_) <;> (intro hb; (fail_if_success (with_reducible injection hb)); rw [hb]; (try simp only [List.length_map] at hb)))) | (refine WD_call (by exact rfl) ?_; first | (refine WD_cM (nnG_m) ?_) | (refine WD_c0 (declR_m _ ?_) ?_; (exact hyp))) | (refine WD_eq (shlN_step rfl rfl rfl) ?_) | (refine WD_eq (bnotN_step rfl rfl rfl) ?_) | (refine WD_eq (borN_step rfl rfl rfl) ?_) | (refine WD_idx htb ?_) | (refine WD_idxo htb ?_) | (refine WD_lde1 htb ?_) | (refine WD_lde htb ?_) | (refine WD_ste htb ?_) | (refine WD_ap htb ?_) | (refine WD_ap0 htb ?_) | (refine WD_nil htb ?_) | (refine WD_nilr htb ?_) | (refine WD_rem ?_) | (refine WD_quo ?_) | (refine WD_slc htb ?_) | (refine WD_ixa htb ?_) | (refine WD_ix1 htb ?_) | (refine WD_cut htb ?_) | (refine WD_cut3 htb ?_) | (refine WD_lens htb ?_) | (refine WD_caps htb ?_) | (refine WD_cps htb ?_) | (refine WD_cpp htb ?_) | (refine WD_api htb ?_) | (refine WD_apz htb ?_) | (refine WD_clr htb ?_) | (refine WD_t (by exact rfl) (by exact rfl) (by exact known) fun hb => ?_; rw [hb]; clear hb) | (refine WD_f (by exact rfl) (by exact rfl) (by exact known) fun hb => ?_; rw [hb]; clear hb) | ((refine WD_tf (by exact rfl) (by exact rfl) ?_ ?_) <;> (intro hb; (fail_if_success (with_reducible injection hb)); rw [hb]; (try simp only [List.length_map] at hb)))) | (with_reducible apply WA_seq) | ((with_reducible apply gR hmix hN); exact (by kernel_rfl); (try dsimp only [List.append_eq, List.cons_append, List.nil_append])) | ((with_reducible apply WD_end); (first | exact no_draw | (intro _; kernel_rfl)); try simp only [thn, inB, List.length_map, List.cons_append, List.nil_append]) | ((with_reducible apply gCt); exact rfl; exact rfl) | ((with_reducible apply gCf); exact rfl; exact rfl) | ((with_reducible apply gCk); exact rfl; exact known; intro hb; rw [hb]; clear hb) | ((with_reducible apply gCn); exact rfl; exact known; intro hb; rw [hb]; clear hb) | (((with_reducible apply gC2); exact rfl) <;> (intro hb; rw [hb])) | (with_reducible apply WA_block) | ((with_reducible first | apply WA_skip | apply WA_ret | apply WA_exit | apply WA_label); try simp only [thn, inB, List.length_map, List.cons_append, List.nil_append])))
    rw [show ((andn (memN c) (declN c) : Int) * (z : Int)) = ((andn (memN c) (declN c) * z : Nat) : Int) from (Int.natCast_mul _ _).symm]
    (repeat' (first | ((with_reducible apply WD_id); first | (refine WD_sum ?_) | (refine WD_nxt htb (by exact rfl) ?_) | (refine WD_unk (by exact rfl) ?_; first | (refine WD_t (by exact rfl) (by exact rfl) (by exact known) fun hb => ?_; rw [hb]; clear hb) | (refine WD_f (by exact rfl) (by exact rfl) (by exact known) fun hb => ?_; rw [hb]; clear hb) | ((refine WD_tf (by exact rfl) (by exact rfl) ?_ ?_) <;> (intro hb; (fail_if_success (with_reducible injection hb)); rw [hb]; (try simp only [List.length_map] at hb)))) | (refine WD_call (by exact rfl) ?_; first | (refine WD_cM (nnG_m) ?_) | (refine WD_c0 (declR_m _ ?_) ?_; (exact hyp))) | (refine WD_eq (shlN_step rfl rfl rfl) ?_) | (refine WD_eq (bnotN_step rfl rfl rfl) ?_) | (refine WD_eq (borN_step rfl rfl rfl) ?_) | (refine WD_idx htb ?_) | (refine WD_idxo htb ?_) | (refine WD_lde1 htb ?_) | (refine WD_lde htb ?_) | (refine WD_ste htb ?_) | (refine WD_ap htb ?_) | (refine WD_ap0 htb ?_) | (refine WD_nil htb ?_) | (refine WD_nilr htb ?_) | (refine WD_rem ?_) | (refine WD_quo ?_) | (refine WD_slc htb ?_) | (refine WD_ixa htb ?_) | (refine WD_ix1 htb ?_) | (refine WD_cut htb ?_) | (refine WD_cut3 htb ?_) | (refine WD_lens htb ?_) | (refine WD_caps htb ?_) | (refine WD_cps htb ?_) | (refine WD_cpp htb ?_) | (refine WD_api htb ?_) | (refine WD_apz htb ?_) | (refine WD_clr htb ?_) | (refine WD_t (by exact rfl) (by exact rfl) (by exact known) fun hb => ?_; rw [hb]; clear hb) | (refine WD_f (by exact rfl) (by exact rfl) (by exact known) fun hb => ?_; rw [hb]; clear hb) | ((refine WD_tf (by exact rfl) (by exact rfl) ?_ ?_) <;> (intro hb; (fail_if_success (with_reducible injection hb)); rw [hb]; (try simp only [List.length_map] at hb)))) | (with_reducible apply WA_seq) | ((with_reducible apply gR hmix hN); exact (by kernel_rfl); (try dsimp only [List.append_eq, List.cons_append, List.nil_append])) | ((with_reducible apply WD_end); (first | exact no_draw | (intro _; kernel_rfl)); try simp only [thn, inB, List.length_map, List.cons_append, List.nil_append]) | ((with_reducible apply gCt); exact rfl; exact rfl) | ((with_reducible apply gCf); exact rfl; exact rfl) | ((with_reducible apply gCk); exact rfl; exact known; intro hb; rw [hb]; clear hb) | ((with_reducible apply gCn); exact rfl; exact known; intro hb; rw [hb]; clear hb) | (((with_reducible apply gC2); exact rfl) <;> (intro hb; rw [hb])) | (with_reducible apply WA_block) | ((with_reducible first | apply WA_skip | apply WA_ret | apply WA_exit | apply WA_label); try simp only [thn, inB, List.length_map, List.cons_append, List.nil_append])))
    exact gE (.inr rfl) rfl rfl ⟨rfl, trivial⟩
end Go.Proofs.YtbfafljcclfeaaaGreatDoor
