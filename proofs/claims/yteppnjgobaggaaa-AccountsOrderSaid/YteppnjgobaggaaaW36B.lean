/- AccountsKeep: the walk of the statement. -/
import Derived.Test.YteppnjgobaggaaaW36A
import Derived.Test.YteppnjgobaggaaaWI1
import Derived.Test.YteppnjgobaggaaaPlainK
namespace Go.Proofs.Yteppnjgobaggaaa
set_option linter.unusedSimpArgs false
set_option linter.unusedVariables false
set_option linter.unnecessarySimpa false
set_option linter.unusedSectionVars false
set_option maxRecDepth 100000
open Go Go.RowKit Go.Am Go.Proofs.Grow

theorem take_pe (l : List Acc) (i q : Int) (m : List Acc) (e : Int) (hl : l.length ≤ 1000) (he : takeF l i q = (m, e)) : FnM Try.prog 42 [] [lA l, vI i, vI q] (.tup [lA m, vI e]) [] := by
  have := take_pm l i q hl
  rwa [he] at this
theorem give_pe (l : List Acc) (i q : Int) (m : List Acc) (e : Int) (hl : l.length ≤ 1000) (he : giveF l i q = (m, e)) : FnM Try.prog 40 [] [lA l, vI i, vI q] (.tup [lA m, vI e]) [] := by
  have := give_pm l i q hl
  rwa [he] at this
theorem create_pe (l : List Acc) (i q : Int) (m : List Acc) (e : Int) (hl : l.length ≤ 1000) (he : createF l i q = (m, e)) : FnM Try.prog 32 [] [lA l, vI i, vI q] (.tup [lA m, vI e]) [] := by
  have := create_pm l i q hl
  rwa [he] at this
set_option maxHeartbeats 2000000 in
theorem keep_m (l : List Int) (f : Int) (f0 : 0 ≤ f) (f1 : f ≤ 65535) : FnM Try.prog 9 [] [lI l, .d (.v (.int .u16 f))] (vB true) [] := by
  refine FnM.of htb Try.func9 rfl rfl rfl rfl rfl fun cx hN h0 => ?_
  have hs : Sc.ok ⟨l.take 800, 0⟩ := ⟨Nat.zero_le _, by simp; omega⟩
  have hm := ledF_made ⟨l.take 800, 0⟩
  have ho := ledF_ok hs
  generalize ht : ledF ⟨l.take 800, 0⟩ = t at *
  have h1 := hm.one
  have h5 := hm.five
  have hb := t.2.n_bd (k := (t.1.accs.length : Int) - 1 + 1) (by omega)
  have hb2 := (t.2.x ((t.1.accs.length : Int) - 1 + 1)).n_bd (k := (t.1.accs.length : Int) - 1 + 1) (by omega)
  have hn : 0 ≤ f.tmod 1200 ∧ f.tmod 1200 < 1200 := by
    rw [Int.tmod_eq_emod_of_nonneg f0]; omega
  have hw : IntKind.i64.wrap f = f := IntWalk.i64_in f (by omega)
  (repeat' (first | ((with_reducible apply WD_id); first | (refine WD_sum ?_) | (refine WD_nxt htb (by exact rfl) ?_) | (refine WD_unk (by exact rfl) ?_; first | (refine WD_t (by exact rfl) (by exact rfl) (by exact known) fun hb => ?_; rw [hb]; clear hb) | (refine WD_f (by exact rfl) (by exact rfl) (by exact known) fun hb => ?_; rw [hb]; clear hb) | ((refine WD_tf (by exact rfl) (by exact rfl) ?_ ?_) <;> (intro hb; (fail_if_success (with_reducible injection hb)); rw [hb]; (try simp only [List.length_map] at hb)))) | (refine WD_call (by exact rfl) ?_; first | (refine WD_cM (new_m _) ?_) | (refine WD_eM (fun h => led_e _ _ ?y0 h) ?_; (case y0 => exact hypS)) | (refine WD_cM (Range_m _ _ _ ?y0 ?y1 ?y2 ?y3) ?_; (case y0 => exact hypS); (case y1 => exact hypS); (case y2 => exact hypS); (case y3 => exact hypS))) | (refine WD_idx htb ?_) | (refine WD_idxo htb ?_) | (refine WD_lde1 htb ?_) | (refine WD_lde htb ?_) | (refine WD_ste htb ?_) | (refine WD_ap htb ?_) | (refine WD_ap0 htb ?_) | (refine WD_nil htb ?_) | (refine WD_nilr htb ?_) | (refine WD_rem ?_) | (refine WD_quo ?_) | (refine WD_slc htb ?_) | (refine WD_ixa htb ?_) | (refine WD_ix1 htb ?_) | (refine WD_t (by exact rfl) (by exact rfl) (by exact known) fun hb => ?_; rw [hb]; clear hb) | (refine WD_f (by exact rfl) (by exact rfl) (by exact known) fun hb => ?_; rw [hb]; clear hb) | ((refine WD_tf (by exact rfl) (by exact rfl) ?_ ?_) <;> (intro hb; (fail_if_success (with_reducible injection hb)); rw [hb]; (try simp only [List.length_map] at hb)))) | (with_reducible apply WA_seq) | ((with_reducible apply gR hmix hN); exact (by kernel_rfl); (try dsimp only [List.append_eq, List.cons_append, List.nil_append])) | ((with_reducible apply WD_end); (first | exact no_draw | (intro _; kernel_rfl)); try simp only [thn, inB, List.length_map, List.cons_append, List.nil_append]) | ((with_reducible apply gCt); exact rfl; exact rfl) | ((with_reducible apply gCf); exact rfl; exact rfl) | ((with_reducible apply gCk); exact rfl; exact known; intro hb; rw [hb]; clear hb) | ((with_reducible apply gCn); exact rfl; exact known; intro hb; rw [hb]; clear hb) | (((with_reducible apply gC2); exact rfl) <;> (intro hb; rw [hb])) | (with_reducible apply WA_block) | ((with_reducible first | apply WA_skip | apply WA_ret | apply WA_exit | apply WA_label); try simp only [thn, inB, List.length_map, List.cons_append, List.nil_append])))
  rw [hw]
  clear hw
  have ha : 1 ≤ 1 + t.2.n ((t.1.accs.length : Int) - 1 + 1) ∧ 1 + t.2.n ((t.1.accs.length : Int) - 1 + 1) ≤ t.1.accs.length := by omega
  have hbb : 1 ≤ 1 + (t.2.x ((t.1.accs.length : Int) - 1 + 1)).n ((t.1.accs.length : Int) - 1 + 1) ∧ 1 + (t.2.x ((t.1.accs.length : Int) - 1 + 1)).n ((t.1.accs.length : Int) - 1 + 1) ≤ t.1.accs.length := by omega
  generalize 1 + t.2.n ((t.1.accs.length : Int) - 1 + 1) = a at *
  generalize 1 + (t.2.x ((t.1.accs.length : Int) - 1 + 1)).n ((t.1.accs.length : Int) - 1 + 1) = b at *
  generalize f.tmod 1200 = n at *
  have hlen : t.1.accs.length ≤ 1000 := by omega
  have htot := totA_bd hm.right
  rcases keep_law hm ha.1 ha.2 hbb.1 hbb.2 hn.1 (by omega) with ⟨e1, hd⟩ | ⟨x, y, m, e1, e2, e3, e4, e5, e6, e7, x1, y1, m1⟩
  · have d1 : decide ((findA t.1.accs a).1.bal < n) = true := by simp only [decide_eq_true_eq]; exact hd
    (repeat' (first | ((with_reducible apply WD_id); first | (refine WD_sum ?_) | (refine WD_nxt htb (by exact rfl) ?_) | (refine WD_unk (by exact rfl) ?_; first | (refine WD_t (by exact rfl) (by exact rfl) (by exact known) fun hb => ?_; rw [hb]; clear hb) | (refine WD_f (by exact rfl) (by exact rfl) (by exact known) fun hb => ?_; rw [hb]; clear hb) | ((refine WD_tf (by exact rfl) (by exact rfl) ?_ ?_) <;> (intro hb; (fail_if_success (with_reducible injection hb)); rw [hb]; (try simp only [List.length_map] at hb)))) | (refine WD_call (by exact rfl) ?_; first | (refine WD_e0 (fun h => take_pe _ _ _ _ _ ?y0 h) ?_; (case y0 => exact hypS)) | (refine WD_c0 (findA_pm _ _ ?y0) ?_; (case y0 => exact hypS)) | (refine WD_c0 (sane36_m) ?_)) | (refine WD_idx htb ?_) | (refine WD_idxo htb ?_) | (refine WD_lde1 htb ?_) | (refine WD_lde htb ?_) | (refine WD_ste htb ?_) | (refine WD_ap htb ?_) | (refine WD_ap0 htb ?_) | (refine WD_nil htb ?_) | (refine WD_nilr htb ?_) | (refine WD_rem ?_) | (refine WD_quo ?_) | (refine WD_slc htb ?_) | (refine WD_ixa htb ?_) | (refine WD_ix1 htb ?_) | (refine WD_t (by exact rfl) (by exact rfl) (by exact known) fun hb => ?_; rw [hb]; clear hb) | (refine WD_f (by exact rfl) (by exact rfl) (by exact known) fun hb => ?_; rw [hb]; clear hb) | ((refine WD_tf (by exact rfl) (by exact rfl) ?_ ?_) <;> (intro hb; (fail_if_success (with_reducible injection hb)); rw [hb]; (try simp only [List.length_map] at hb)))) | (with_reducible apply WA_seq) | ((with_reducible apply gR hmix hN); exact (by kernel_rfl); (try dsimp only [List.append_eq, List.cons_append, List.nil_append])) | ((with_reducible apply WD_end); (first | exact no_draw | (intro _; kernel_rfl)); try simp only [thn, inB, List.length_map, List.cons_append, List.nil_append]) | ((with_reducible apply gCt); exact rfl; exact rfl) | ((with_reducible apply gCf); exact rfl; exact rfl) | ((with_reducible apply gCk); exact rfl; exact known; intro hb; rw [hb]; clear hb) | ((with_reducible apply gCn); exact rfl; exact known; intro hb; rw [hb]; clear hb) | (((with_reducible apply gC2); exact rfl) <;> (intro hb; rw [hb])) | (with_reducible apply WA_block) | ((with_reducible first | apply WA_skip | apply WA_ret | apply WA_exit | apply WA_label); try simp only [thn, inB, List.length_map, List.cons_append, List.nil_append])))
    exact gE (.inr rfl) rfl rfl trivial
  · have q1 : (totA y == totA t.1.accs) = true := by simp [e5]
    have q2 := eqAccs_refl t.1.accs
    have q3 : (totA m == totA t.1.accs + n) = true := by simp [e6]
    have q4 : (chkA m == 0) = true := by simp [e7]
    (repeat' (first | ((with_reducible apply WD_id); first | (refine WD_sum ?_) | (refine WD_nxt htb (by exact rfl) ?_) | (refine WD_unk (by exact rfl) ?_; first | (refine WD_t (by exact rfl) (by exact rfl) (by exact known) fun hb => ?_; rw [hb]; clear hb) | (refine WD_f (by exact rfl) (by exact rfl) (by exact known) fun hb => ?_; rw [hb]; clear hb) | ((refine WD_tf (by exact rfl) (by exact rfl) ?_ ?_) <;> (intro hb; (fail_if_success (with_reducible injection hb)); rw [hb]; (try simp only [List.length_map] at hb)))) | (refine WD_call (by exact rfl) ?_; first | (refine WD_e0 (fun h => take_pe _ _ _ _ _ ?y0 h) ?_; (case y0 => exact hypS)) | (refine WD_c0 (findA_pm _ _ ?y0) ?_; (case y0 => exact hypS)) | (refine WD_e0 (fun h => give_pe _ _ _ _ _ ?y0 h) ?_; (case y0 => exact hypS)) | (refine WD_e0 (fun h => create_pe _ _ _ _ _ ?y0 h) ?_; (case y0 => exact hypS)) | (refine WD_c0 (tot_pm _ ?y0) ?_; (case y0 => exact hypS)) | (refine WD_c0 (chkA_pm _) ?_) | (refine WD_c0 (sameA_rm (l := t.1.accs) (m := t.1.accs) ?y0) ?_; (case y0 => exact hypS)) | (refine WD_c0 (sane36_m) ?_)) | (refine WD_idx htb ?_) | (refine WD_idxo htb ?_) | (refine WD_lde1 htb ?_) | (refine WD_lde htb ?_) | (refine WD_ste htb ?_) | (refine WD_ap htb ?_) | (refine WD_ap0 htb ?_) | (refine WD_nil htb ?_) | (refine WD_nilr htb ?_) | (refine WD_rem ?_) | (refine WD_quo ?_) | (refine WD_slc htb ?_) | (refine WD_ixa htb ?_) | (refine WD_ix1 htb ?_) | (refine WD_t (by exact rfl) (by exact rfl) (by exact known) fun hb => ?_; rw [hb]; clear hb) | (refine WD_f (by exact rfl) (by exact rfl) (by exact known) fun hb => ?_; rw [hb]; clear hb) | ((refine WD_tf (by exact rfl) (by exact rfl) ?_ ?_) <;> (intro hb; (fail_if_success (with_reducible injection hb)); rw [hb]; (try simp only [List.length_map] at hb)))) | (with_reducible apply WA_seq) | ((with_reducible apply gR hmix hN); exact (by kernel_rfl); (try dsimp only [List.append_eq, List.cons_append, List.nil_append])) | ((with_reducible apply WD_end); (first | exact no_draw | (intro _; kernel_rfl)); try simp only [thn, inB, List.length_map, List.cons_append, List.nil_append]) | ((with_reducible apply gCt); exact rfl; exact rfl) | ((with_reducible apply gCf); exact rfl; exact rfl) | ((with_reducible apply gCk); exact rfl; exact known; intro hb; rw [hb]; clear hb) | ((with_reducible apply gCn); exact rfl; exact known; intro hb; rw [hb]; clear hb) | (((with_reducible apply gC2); exact rfl) <;> (intro hb; rw [hb])) | (with_reducible apply WA_block) | ((with_reducible first | apply WA_skip | apply WA_ret | apply WA_exit | apply WA_label); try simp only [thn, inB, List.length_map, List.cons_append, List.nil_append])))
    exact gE (.inr rfl) rfl rfl trivial
theorem law_AccountsKeep (a0 : Option Addr) (len0 cap0 : Nat) (z0 : List Int) (a1 : Int) (w : World) (w0 : IsRowA .i64 w a0 len0 cap0 z0) (w1 : (Lit.int .u16 a1).wf = true) :
    Calls Try.prog 9 #[.slice a0 len0 cap0, .int .u16 a1] w fun e w' => e = .returned (.bool true) ∧ Ex w w' := by
  have hu : 0 ≤ a1 ∧ a1 ≤ 65535 := by simpa [Lit.wf, IntKind.min, IntKind.max, IntKind.bits, IntKind.signed] using w1
  exact FnM.law (keep_m (z0.take len0) a1 hu.1 hu.2) (VRs.cons (row_VR w0) (VRs.cons (.d (.v _)) VRs.nil))
end Go.Proofs.Yteppnjgobaggaaa
