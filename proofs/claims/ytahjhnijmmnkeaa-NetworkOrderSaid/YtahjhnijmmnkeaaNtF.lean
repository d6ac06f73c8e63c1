/- Contracts of the functions on networks: sending, arriving. -/
import Derived.Test.YtahjhnijmmnkeaaNtE
namespace Go.Proofs.Ytahjhnijmmnkeaa
set_option linter.unusedSimpArgs false
set_option linter.unusedVariables false
set_option linter.unnecessarySimpa false
set_option linter.unusedSectionVars false
set_option maxRecDepth 100000
open Go Go.RowKit Go.Am Go.Proofs.Grow

theorem growN_eq {α : Type} {l vs : List α} {z : α} {i k : Nat} (hv : vs.length = 1) (hi : i < l.length) (hk : k = l.length + 1 - i) :
    ((l.take i ++ List.replicate k z).take i ++ vs ++ (l.take i ++ List.replicate k z).drop (i + vs.length)).take (i + vs.length) ++ (l.drop i).take (min (l.length - i) (((l.take i ++ List.replicate k z).take i ++ vs ++ (l.take i ++ List.replicate k z).drop (i + vs.length)).length - (i + vs.length))) ++
      ((l.take i ++ List.replicate k z).take i ++ vs ++ (l.take i ++ List.replicate k z).drop (i + vs.length)).drop (i + vs.length + ((l.drop i).take (min (l.length - i) (((l.take i ++ List.replicate k z).take i ++ vs ++ (l.take i ++ List.replicate k z).drop (i + vs.length)).length - (i + vs.length)))).length) = l.take i ++ vs ++ l.drop i := by
  have hA : (l.take i).length = i := by rw [List.length_take]; omega
  have h1 : (l.take i ++ List.replicate k z).take i = l.take i := List.take_left' hA
  have h2 : (l.take i ++ List.replicate k z).drop (i + vs.length) = (List.replicate k z).drop 1 := by
    rw [List.drop_append, List.drop_eq_nil_of_le (by omega), hA, hv, List.nil_append, Nat.add_sub_cancel_left]
  rw [h1, h2]
  generalize hR : (List.replicate k z).drop 1 = R
  have hRl : R.length = l.length - i := by rw [← hR, List.length_drop, List.length_replicate]; omega
  have h3 : (l.take i ++ vs ++ R).length = l.length + 1 := by rw [List.length_append, List.length_append, hA]; omega
  have h4 : (l.take i ++ vs ++ R).take (i + vs.length) = l.take i ++ vs := List.take_left' (by rw [List.length_append, hA])
  have h5 : (l.drop i).take (min (l.length - i) ((l.take i ++ vs ++ R).length - (i + vs.length))) = l.drop i := List.take_of_length_le (by rw [h3, List.length_drop]; omega)
  have h6 : (l.take i ++ vs ++ R).drop (i + vs.length + (l.drop i).length) = [] := List.drop_eq_nil_of_le (by rw [h3, List.length_drop]; omega)
  rw [h4, h5, h6, List.append_nil]
theorem shiftN_eq {α : Type} {l vs : List α} {i : Nat} (hv : vs.length = 1) (hi : i < l.length) :
    (l.take (i + vs.length) ++ (l.drop i).take (min (l.length + vs.length - i) (l.length + vs.length - (i + vs.length))) ++ l.drop (i + vs.length + ((l.drop i).take (min (l.length + vs.length - i) (l.length + vs.length - (i + vs.length)))).length)).take i ++ vs ++
      (l.take (i + vs.length) ++ (l.drop i).take (min (l.length + vs.length - i) (l.length + vs.length - (i + vs.length))) ++ l.drop (i + vs.length + ((l.drop i).take (min (l.length + vs.length - i) (l.length + vs.length - (i + vs.length)))).length)).drop (i + vs.length) = l.take i ++ vs ++ l.drop i := by
  have h1 : (l.drop i).take (min (l.length + vs.length - i) (l.length + vs.length - (i + vs.length))) = l.drop i := List.take_of_length_le (by rw [List.length_drop]; omega)
  have h2 : l.drop (i + vs.length + (l.drop i).length) = [] := List.drop_eq_nil_of_le (by rw [List.length_drop]; omega)
  have hA : (l.take (i + vs.length)).length = i + vs.length := by rw [List.length_take]; omega
  rw [h1, h2, List.append_nil, List.drop_left' hA, List.take_append_of_le_length (by omega), List.take_take, Nat.min_eq_left (by omega)]
theorem fullN_eq {α : Type} {l vs : List α} {i : Nat} : (l.take i ++ vs ++ l.drop i).take (l.length + vs.length) = l.take i ++ vs ++ l.drop i :=
  List.take_of_length_le (by simp only [List.length_append, List.length_take, List.length_drop]; omega)
set_option maxHeartbeats 1000000 in
theorem insP0 (l vs : List (List D)) (i : Nat) (hl : l.length ≤ 4000) (hi : i ≤ l.length) (hv : vs.length = 1) : FnM Try.prog 41 [(70, .arr 57 28 l), (60, .arr 57 28 vs)] [.own 70, vI i, .own 60] (.own 61) [(61, .arr 57 28 (l.take i ++ vs ++ l.drop i)), (70, .dead), (60, .dead)] := by
  refine FnM.of htb Try.func41 rfl rfl rfl rfl rfl fun cx hN h0 => ?_
  have t0 : ((vs.length : Int) == 0) = false := by simp only [beq_eq_false_iff_ne]; omega
  by_cases he : i = l.length
  · subst he
    have t1 : ((l.length : Int) == (l.length : Int)) = true := by simp
    (repeat' (first | ((with_reducible apply WD_id); first | (refine WD_sum ?_) | (refine WD_nxt htb (by exact rfl) ?_) | (refine WD_unk (by exact rfl) ?_; first | (refine WD_t (by exact rfl) (by exact rfl) (by exact known) fun hb => ?_; rw [hb]; clear hb) | (refine WD_f (by exact rfl) (by exact rfl) (by exact known) fun hb => ?_; rw [hb]; clear hb) | ((refine WD_tf (by exact rfl) (by exact rfl) ?_ ?_) <;> (intro hb; (fail_if_success (with_reducible injection hb)); rw [hb]; (try simp only [List.length_map] at hb)))) | (refine WD_idx htb ?_) | (refine WD_idxo htb ?_) | (refine WD_lde1 htb ?_) | (refine WD_lde htb ?_) | (refine WD_ste htb ?_) | (refine WD_ap htb ?_) | (refine WD_ap0 htb ?_) | (refine WD_nil htb ?_) | (refine WD_nilr htb ?_) | (refine WD_rem ?_) | (refine WD_quo ?_) | (refine WD_slc htb ?_) | (refine WD_ixa htb ?_) | (refine WD_ix1 htb ?_) | (refine WD_cut htb ?_) | (refine WD_cut3 htb ?_) | (refine WD_lens htb ?_) | (refine WD_caps htb ?_) | (refine WD_cps htb ?_) | (refine WD_cpp htb ?_) | (refine WD_api htb ?_) | (refine WD_apz htb ?_) | (refine WD_clr htb ?_) | (refine WD_t (by exact rfl) (by exact rfl) (by exact known) fun hb => ?_; rw [hb]; clear hb) | (refine WD_f (by exact rfl) (by exact rfl) (by exact known) fun hb => ?_; rw [hb]; clear hb) | ((refine WD_tf (by exact rfl) (by exact rfl) ?_ ?_) <;> (intro hb; (fail_if_success (with_reducible injection hb)); rw [hb]; (try simp only [List.length_map] at hb)))) | (with_reducible apply WA_seq) | ((with_reducible apply gR hmix hN); exact (by kernel_rfl); (try dsimp only [List.append_eq, List.cons_append, List.nil_append])) | ((with_reducible apply WD_end); (first | exact no_draw | (intro _; kernel_rfl)); try simp only [thn, inB, List.length_map, List.cons_append, List.nil_append]) | ((with_reducible apply gCt); exact rfl; exact rfl) | ((with_reducible apply gCf); exact rfl; exact rfl) | ((with_reducible apply gCk); exact rfl; exact known; intro hb; rw [hb]; clear hb) | ((with_reducible apply gCn); exact rfl; exact known; intro hb; rw [hb]; clear hb) | (((with_reducible apply gC2); exact rfl) <;> (intro hb; rw [hb])) | (with_reducible apply WA_block) | ((with_reducible first | apply WA_skip | apply WA_ret | apply WA_exit | apply WA_label); try simp only [thn, inB, List.length_map, List.cons_append, List.nil_append])))
    (exact glV [(6, .own 61)] [(61, .arr 57 28 (l.take l.length ++ vs ++ l.drop l.length)), (70, .dead), (60, .dead)] (LeV [(61, 25)]))
  · have t1 : ((i : Int) == (l.length : Int)) = false := by simp only [beq_eq_false_iff_ne]; omega
    refine WA_room 0 rfl rfl fun q hq hq2 => ?_
    (repeat' (first | ((with_reducible apply WD_id); first | (refine WD_sum ?_) | (refine WD_nxt htb (by exact rfl) ?_) | (refine WD_unk (by exact rfl) ?_; first | (refine WD_t (by exact rfl) (by exact rfl) (by exact known) fun hb => ?_; rw [hb]; clear hb) | (refine WD_f (by exact rfl) (by exact rfl) (by exact known) fun hb => ?_; rw [hb]; clear hb) | ((refine WD_tf (by exact rfl) (by exact rfl) ?_ ?_) <;> (intro hb; (fail_if_success (with_reducible injection hb)); rw [hb]; (try simp only [List.length_map] at hb)))) | (refine WD_call (by exact rfl) ?_; first | (refine WD_ovl htb Try.func49 4 (by kernel_rfl) (by kernel_rfl) (by kernel_rfl) (by kernel_rfl) ?_)) | (refine WD_idx htb ?_) | (refine WD_idxo htb ?_) | (refine WD_lde1 htb ?_) | (refine WD_lde htb ?_) | (refine WD_ste htb ?_) | (refine WD_ap htb ?_) | (refine WD_ap0 htb ?_) | (refine WD_nil htb ?_) | (refine WD_nilr htb ?_) | (refine WD_rem ?_) | (refine WD_quo ?_) | (refine WD_slc htb ?_) | (refine WD_ixa htb ?_) | (refine WD_ix1 htb ?_) | (refine WD_cut htb ?_) | (refine WD_cut3 htb ?_) | (refine WD_lens htb ?_) | (refine WD_caps htb ?_) | (refine WD_cps htb ?_) | (refine WD_cpp htb ?_) | (refine WD_api htb ?_) | (refine WD_apz htb ?_) | (refine WD_clr htb ?_) | (refine WD_t (by exact rfl) (by exact rfl) (by exact known) fun hb => ?_; rw [hb]; clear hb) | (refine WD_f (by exact rfl) (by exact rfl) (by exact known) fun hb => ?_; rw [hb]; clear hb) | ((refine WD_tf (by exact rfl) (by exact rfl) ?_ ?_) <;> (intro hb; (fail_if_success (with_reducible injection hb)); rw [hb]; (try simp only [List.length_map] at hb)))) | (with_reducible apply WA_seq) | ((with_reducible apply gR hmix hN); exact (by kernel_rfl); (try dsimp only [List.append_eq, List.cons_append, List.nil_append])) | ((with_reducible apply WD_end); (first | exact no_draw | (intro _; kernel_rfl)); try simp only [thn, inB, List.length_map, List.cons_append, List.nil_append]) | ((with_reducible apply gCt); exact rfl; exact rfl) | ((with_reducible apply gCf); exact rfl; exact rfl) | ((with_reducible apply gCk); exact rfl; exact known; intro hb; rw [hb]; clear hb) | ((with_reducible apply gCn); exact rfl; exact known; intro hb; rw [hb]; clear hb) | (((with_reducible apply gC2); exact rfl) <;> (intro hb; rw [hb])) | (with_reducible apply WA_block) | ((with_reducible first | apply WA_skip | apply WA_ret | apply WA_exit | apply WA_label); try simp only [thn, inB, List.length_map, List.cons_append, List.nil_append])))
    · simp only [Nat.zero_add, Nat.sub_zero, List.drop_zero]
      rw [growN_eq hv (by omega) (by omega)]
      (exact glV [(6, .own 61)] [(61, .arr 57 28 (l.take i ++ vs ++ l.drop i)), (70, .dead), (60, .dead)] (LeV [(61, 40)]))
    · simp only [Nat.zero_add, Nat.sub_zero, List.drop_zero, Option.map_some]
      rw [shiftN_eq hv (by omega)]
      have e := @fullN_eq _ l vs i
      exact glV [(6, .own 61)] [(61, .arr 57 28 (l.take i ++ vs ++ l.drop i)), (70, .dead), (60, .dead)] (Le.trans (Le_hide 6 61 rfl rfl (by simp only [List.length_append, List.length_take, List.length_drop]; omega) (show 0 < q by omega) rfl) (LeV []))
theorem insP_m (l : List Pcl) (i : Nat) (x : Pcl) (hl : l.length ≤ 4000) (hi : i ≤ l.length) : FnM Try.prog 41 [(70, .arr 57 28 (l.map rPc)), (60, .arr 57 28 [rPc x])] [.own 70, vI i, .own 60] (.own 61) [(61, .arr 57 28 ((l.take i ++ x :: l.drop i).map rPc)), (70, .dead), (60, .dead)] := by
  have h := insP0 (l.map rPc) [rPc x] i (by simpa using hl) (by simpa using hi) rfl
  have e : (l.take i ++ x :: l.drop i).map rPc = (l.map rPc).take i ++ [rPc x] ++ (l.map rPc).drop i := by rw [List.map_append, List.map_cons, List.map_take, List.map_drop, List.append_assoc]; rfl
  rw [e]; exact h
abbrev newP (n : Net) (a b slot now : Int) : Pcl := ⟨now + delayF n a b, a, b, n.next, slot⟩
set_option maxHeartbeats 4000000 in
theorem post_m (n : Net) (a b slot now : Int) (h : RightN n) (ha : 0 ≤ a ∧ a < 10) (hb : 0 ≤ b ∧ b < 10) (hn : 0 ≤ now ∧ now ≤ 200) (hl : n.pars.length < 4000) (h1 : n.next < 1000000000) (hd : n.dels.length = 0 ∨ n.dels.length = 100) (hv : ∀ x ∈ n.dels, 0 ≤ x ∧ x ≤ 20) :
    FnM Try.prog 25 [(5, .box 28 [.own 70, vI n.next, lI n.parts, lI n.dels]), (70, .arr 57 28 (n.pars.map rPc))] [.ptr 5 0, vI a, vI b, aLet slot, vI now] (vI 0)
      [(5, .box 28 [.own 61, vI (n.next + 1), lI n.parts, lI n.dels]), (61, .arr 57 28 ((putN n (newP n a b slot now)).pars.map rPc)), (70, .dead)] := by
  refine FnM.of htb Try.func25 rfl rfl rfl rfl rfl fun cx hN h0 => ?_
  have n0 := h.n0
  have t1 : ((n.pars.length : Int) == 4000) = false := by simp only [beq_eq_false_iff_ne]; omega
  have t2 : (n.next == 1000000000) = false := by simp only [beq_eq_false_iff_ne]; omega
  have hdl : 0 ≤ delayF n a b ∧ delayF n a b ≤ 20 := by
    unfold delayF
    split
    · omega
    · have : (a * 10 + b).toNat < n.dels.length := by omega
      have := hv _ (nth_mem n.dels _ this)
      omega
  have hp := posQ_le (lessQ (newP n a b slot now)) n.pars
  have hpp := @posQ_iff (lessQ (newP n a b slot now)) n.pars (lessQ_mono h.srt)
  have hl2 : n.pars.length ≤ 4000 := by omega
  (repeat' (first | ((with_reducible apply WD_id); first | (refine WD_sum ?_) | (refine WD_bso htb ?_) | (refine WD_nxt htb (by exact rfl) ?_) | (refine WD_unk (by exact rfl) ?_; first | (refine WD_t (by exact rfl) (by exact rfl) (by exact known) fun hb => ?_; rw [hb]; clear hb) | (refine WD_f (by exact rfl) (by exact rfl) (by exact known) fun hb => ?_; rw [hb]; clear hb) | ((refine WD_tf (by exact rfl) (by exact rfl) ?_ ?_) <;> (intro hb; (fail_if_success (with_reducible injection hb)); rw [hb]; (try simp only [List.length_map] at hb)))) | (refine WD_call (by exact rfl) ?_; first | (refine WD_c0 (delay_m (n := n) _ _ ?_ ?_ ?_ ?_) ?_; (exact hyp); (exact hyp); (exact hyp); (exact hyp)) | (refine WD_c0 (let_m _) ?_) | (refine WD_c0 (bsP_m (l := n.pars) (x := newP n a b slot now) (p := posQ (lessQ (newP n a b slot now)) n.pars) ?_ ?_ ?_) ?_; (exact hyp); (exact hyp); (exact hyp)) | (refine WD_cM (insP_m (l := n.pars) (i := posQ (lessQ (newP n a b slot now)) n.pars) (x := newP n a b slot now) ?_ ?_) ?_; (exact hyp); (exact hyp))) | (refine WD_idx htb ?_) | (refine WD_idxo htb ?_) | (refine WD_lde1 htb ?_) | (refine WD_lde htb ?_) | (refine WD_ste htb ?_) | (refine WD_ap htb ?_) | (refine WD_ap0 htb ?_) | (refine WD_nil htb ?_) | (refine WD_nilr htb ?_) | (refine WD_rem ?_) | (refine WD_quo ?_) | (refine WD_slc htb ?_) | (refine WD_ixa htb ?_) | (refine WD_ix1 htb ?_) | (refine WD_cut htb ?_) | (refine WD_cut3 htb ?_) | (refine WD_lens htb ?_) | (refine WD_caps htb ?_) | (refine WD_cps htb ?_) | (refine WD_cpp htb ?_) | (refine WD_api htb ?_) | (refine WD_apz htb ?_) | (refine WD_clr htb ?_) | (refine WD_t (by exact rfl) (by exact rfl) (by exact known) fun hb => ?_; rw [hb]; clear hb) | (refine WD_f (by exact rfl) (by exact rfl) (by exact known) fun hb => ?_; rw [hb]; clear hb) | ((refine WD_tf (by exact rfl) (by exact rfl) ?_ ?_) <;> (intro hb; (fail_if_success (with_reducible injection hb)); rw [hb]; (try simp only [List.length_map] at hb)))) | (with_reducible apply WA_seq) | ((with_reducible apply gR hmix hN); exact (by kernel_rfl); (try dsimp only [List.append_eq, List.cons_append, List.nil_append])) | ((with_reducible apply WD_end); (first | exact no_draw | (intro _; kernel_rfl)); try simp only [thn, inB, List.length_map, List.cons_append, List.nil_append]) | ((with_reducible apply gCt); exact rfl; exact rfl) | ((with_reducible apply gCf); exact rfl; exact rfl) | ((with_reducible apply gCk); exact rfl; exact known; intro hb; rw [hb]; clear hb) | ((with_reducible apply gCn); exact rfl; exact known; intro hb; rw [hb]; clear hb) | (((with_reducible apply gC2); exact rfl) <;> (intro hb; rw [hb])) | (with_reducible apply WA_block) | ((with_reducible first | apply WA_skip | apply WA_ret | apply WA_exit | apply WA_label); try simp only [thn, inB, List.length_map, List.cons_append, List.nil_append])))
  exact gE (.inr rfl) rfl rfl ⟨rfl, rfl, rfl, trivial⟩
end Go.Proofs.Ytahjhnijmmnkeaa
