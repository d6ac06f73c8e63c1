/- NetworkOrder: the walk. -/
import Derived.Test.YtahjhnijmmnkeaaNtL
namespace Go.Proofs.Ytahjhnijmmnkeaa
set_option linter.unusedSimpArgs false
set_option linter.unusedVariables false
set_option linter.unnecessarySimpa false
set_option linter.unusedSectionVars false
set_option maxRecDepth 100000
open Go Go.RowKit Go.Am Go.Proofs.Grow

theorem due_dels {n m : Net} {now : Int} {out : List Pcl} (h : RightN n) (he : dueF n now = (out, m)) : m.dels = n.dels := by
  rw [dueF_right h] at he
  exact (congrArg (fun x => x.2.dels) he).symm
theorem send_dels {n m : Net} {a b slot now : Int} (he : sendF n a b slot now = (m, 0)) : m.dels = n.dels := by
  unfold sendF at he
  split at he
  · exact absurd (congrArg Prod.snd he) (by show ¬ (13 : Int) = 0; decide)
  · split at he
    · exact absurd (congrArg Prod.snd he) (by show ¬ (5 : Int) = 0; decide)
    · split at he
      · exact absurd (congrArg Prod.snd he) (by show ¬ (1 : Int) = 0; decide)
      · split at he
        · exact absurd (congrArg Prod.snd he) (by show ¬ (3 : Int) = 0; decide)
        · exact (congrArg (fun x => x.1.dels) he).symm
theorem netD_vals {d : Int} (d0 : 1 ≤ d) (d1 : d ≤ 8) : (netD d).dels.length = 100 ∧ ∀ x ∈ (netD d).dels, 0 ≤ x ∧ x ≤ 20 := by
  refine ⟨by simp, fun x hx => ?_⟩
  rcases List.mem_or_eq_of_mem_set hx with q | q
  · rw [List.eq_of_mem_replicate q]; omega
  · omega
theorem ord_start {d : Int} (d0 : 1 ≤ d) (d1 : d ≤ 8) : OrdI 0 (0 + d) d (netD d) 0 0 := by
  obtain ⟨n, e, h, _, _⟩ := ord_zero d0 d1
  have hn : netD d = n := by
    have := congrArg Prod.fst e
    unfold delay0 at this
    rw [if_neg (by simp [chkN_iff.2 right0]), if_neg (by simp [nodeB]), if_neg (by omega)] at this
    exact this
  rw [hn]; exact h
set_option maxHeartbeats 16000000 in
theorem order31_m (l : List Int) (f : Int) (f0 : 0 ≤ f) (f1 : f ≤ 255) : FnM Try.prog 5 [] [lI l, .d (.v (.int .u8 f))] (vB true) [] := by
  refine FnM.of htb Try.func5 rfl rfl rfl rfl rfl fun cx hN h0 => ?_
  have hs : Sc.ok ⟨l.take 800, 0⟩ := ⟨Nat.zero_le _, by simp; omega⟩
  have hd : 0 ≤ (IntKind.i64.wrap f).tmod 8 ∧ (IntKind.i64.wrap f).tmod 8 ≤ 7 := by
    rw [IntWalk.i64_in f (by omega), Int.tmod_eq_emod_of_nonneg f0]; omega
  have d0 : 1 ≤ 1 + (IntKind.i64.wrap f).tmod 8 := by omega
  have d1 : 1 + (IntKind.i64.wrap f).tmod 8 ≤ 8 := by omega
  have t0 : ((0 : Int) != 0) = false := rfl
  (repeat' (first | ((with_reducible apply WD_id); first | (refine WD_sum ?_) | (refine WD_nxt htb (by exact rfl) ?_) | (refine WD_unk (by exact rfl) ?_; first | (refine WD_t (by exact rfl) (by exact rfl) (by exact known) fun hb => ?_; rw [hb]; clear hb) | (refine WD_f (by exact rfl) (by exact rfl) (by exact known) fun hb => ?_; rw [hb]; clear hb) | ((refine WD_tf (by exact rfl) (by exact rfl) ?_ ?_) <;> (intro hb; (fail_if_success (with_reducible injection hb)); rw [hb]; (try simp only [List.length_map] at hb)))) | (refine WD_call (by exact rfl) ?_; first | (refine WD_cM (new_m _) ?_) | (refine WD_c0 (delayN_m _ ?_ ?_) ?_; (exact hypS); (exact hypS))) | (refine WD_idx htb ?_) | (refine WD_idxo htb ?_) | (refine WD_lde1 htb ?_) | (refine WD_lde htb ?_) | (refine WD_ste htb ?_) | (refine WD_ap htb ?_) | (refine WD_ap0 htb ?_) | (refine WD_nil htb ?_) | (refine WD_nilr htb ?_) | (refine WD_rem ?_) | (refine WD_quo ?_) | (refine WD_slc htb ?_) | (refine WD_ixa htb ?_) | (refine WD_ix1 htb ?_) | (refine WD_t (by exact rfl) (by exact rfl) (by exact known) fun hb => ?_; rw [hb]; clear hb) | (refine WD_f (by exact rfl) (by exact rfl) (by exact known) fun hb => ?_; rw [hb]; clear hb) | ((refine WD_tf (by exact rfl) (by exact rfl) ?_ ?_) <;> (intro hb; (fail_if_success (with_reducible injection hb)); rw [hb]; (try simp only [List.length_map] at hb)))) | (with_reducible apply WA_seq) | ((with_reducible apply gR hmix hN); exact (by kernel_rfl); (try dsimp only [List.append_eq, List.cons_append, List.nil_append])) | ((with_reducible apply WD_end); (first | exact no_draw | (intro _; kernel_rfl)); try simp only [thn, inB, List.length_map, List.cons_append, List.nil_append]) | ((with_reducible apply gCt); exact rfl; exact rfl) | ((with_reducible apply gCf); exact rfl; exact rfl) | ((with_reducible apply gCk); exact rfl; exact known; intro hb; rw [hb]; clear hb) | ((with_reducible apply gCn); exact rfl; exact known; intro hb; rw [hb]; clear hb) | (((with_reducible apply gC2); exact rfl) <;> (intro hb; rw [hb])) | (with_reducible apply WA_block) | ((with_reducible first | apply WA_skip | apply WA_ret | apply WA_exit | apply WA_label); try simp only [thn, inB, List.length_map, List.cons_append, List.nil_append])))
  generalize 1 + (IntKind.i64.wrap f).tmod 8 = d at *
  generalize (⟨l.take 800, 0⟩ : Sc) = s0 at *
  obtain ⟨v1, v2⟩ := netD_vals d0 d1
  have hO := ord_start d0 d1
  clear hd
  refine WA_le (s' := ⟨[(11, vI 0), (10, vI 0), (9, vI 0), (7, .ptr 7 0), (5, .ptr 9000 0)], [(7, .box 28 (cellsOf (aN (netD d)))), Sc.box s0]⟩) (LeV []) ?_
  (refine WA_anyV (α := Nat × Net × Int × Int × Sc) (fun x => 25 - x.1) ((0, netD d, 0, 0, s0)) [11, 10, 9] [7, 9000] (fun x => [(11, vI x.1), (10, vI x.2.2.2.1), (9, vI x.2.2.1)]) (fun x => [(7, .box 28 (cellsOf (aN x.2.1))), Sc.box x.2.2.2.2]) (fun x => x.1 ≤ 25 ∧ x.2.2.2.2.ok ∧ x.2.2.1 ≤ 2 * x.1 ∧ x.2.1.dels = (netD d).dels ∧ OrdI x.1 (x.1 + d) d x.2.1 x.2.2.1 x.2.2.2.1) ?h0 ?_)
  case h0 => exact ⟨Nat.zero_le _, hs, by simp, rfl, hO⟩
  clear hO hs
  rintro ⟨now, n, sent, got, s⟩ ⟨hn, hs, hb, hdl, hO⟩
  dsimp only at hn hs hb hdl hO
  have hg := hO.g0
  have hsum := hO.sum
  by_cases hnow : now < 25
  case neg =>
    obtain rfl : now = 25 := by omega
    have u0 : decide (((25 : Nat) : Int) < 25) = false := by decide
    obtain ⟨q1, q2⟩ := ord_end (hi := ((25 : Nat) : Int) + d) hO d1
    have u1 : (sent == got) = true := by simp [q2]
    have u2 : ((n.pars.length : Int) == 0) = true := by simp [q1]
    clear hO q1 q2
    (repeat' (first | ((with_reducible apply WD_id); first | (refine WD_sum ?_) | (refine WD_nxt htb (by exact rfl) ?_) | (refine WD_unk (by exact rfl) ?_; first | (refine WD_t (by exact rfl) (by exact rfl) (by exact known) fun hb => ?_; rw [hb]; clear hb) | (refine WD_f (by exact rfl) (by exact rfl) (by exact known) fun hb => ?_; rw [hb]; clear hb) | ((refine WD_tf (by exact rfl) (by exact rfl) ?_ ?_) <;> (intro hb; (fail_if_success (with_reducible injection hb)); rw [hb]; (try simp only [List.length_map] at hb)))) | (refine WD_call (by exact rfl) ?_; first | (refine WD_c0 (sane31_m) ?_)) | (refine WD_idx htb ?_) | (refine WD_idxo htb ?_) | (refine WD_lde1 htb ?_) | (refine WD_lde htb ?_) | (refine WD_ste htb ?_) | (refine WD_ap htb ?_) | (refine WD_ap0 htb ?_) | (refine WD_nil htb ?_) | (refine WD_nilr htb ?_) | (refine WD_rem ?_) | (refine WD_quo ?_) | (refine WD_slc htb ?_) | (refine WD_ixa htb ?_) | (refine WD_ix1 htb ?_) | (refine WD_t (by exact rfl) (by exact rfl) (by exact known) fun hb => ?_; rw [hb]; clear hb) | (refine WD_f (by exact rfl) (by exact rfl) (by exact known) fun hb => ?_; rw [hb]; clear hb) | ((refine WD_tf (by exact rfl) (by exact rfl) ?_ ?_) <;> (intro hb; (fail_if_success (with_reducible injection hb)); rw [hb]; (try simp only [List.length_map] at hb)))) | (with_reducible apply WA_seq) | ((with_reducible apply gR hmix hN); exact (by kernel_rfl); (try dsimp only [List.append_eq, List.cons_append, List.nil_append])) | ((with_reducible apply WD_end); (first | exact no_draw | (intro _; kernel_rfl)); try simp only [thn, inB, List.length_map, List.cons_append, List.nil_append]) | ((with_reducible apply gCt); exact rfl; exact rfl) | ((with_reducible apply gCf); exact rfl; exact rfl) | ((with_reducible apply gCk); exact rfl; exact known; intro hb; rw [hb]; clear hb) | ((with_reducible apply gCn); exact rfl; exact known; intro hb; rw [hb]; clear hb) | (((with_reducible apply gC2); exact rfl) <;> (intro hb; rw [hb])) | (with_reducible apply WA_block) | ((with_reducible first | apply WA_skip | apply WA_ret | apply WA_exit | apply WA_label); try simp only [thn, inB, List.length_map, List.cons_append, List.nil_append])))
    exact gE (.inr rfl) rfl rfl trivial
  have u0 : decide ((now : Int) < 25) = true := by simp only [decide_eq_true_eq]; omega
  have hr := hO.r
  have hp1 : n.parts.length ≤ 1000 := by rw [hO.p]; simp
  have hp2 : n.dels.length ≤ 1000 := by rw [hdl, v1]; omega
  obtain ⟨out, m, e1, ho, hel, hM⟩ := ord_due hO
  have hmd : m.dels = (netD d).dels := (due_dels hr e1).trans hdl
  (repeat' (first | ((with_reducible apply WD_id); first | (refine WD_sum ?_) | (refine WD_nxt htb (by exact rfl) ?_) | (refine WD_unk (by exact rfl) ?_; first | (refine WD_t (by exact rfl) (by exact rfl) (by exact known) fun hb => ?_; rw [hb]; clear hb) | (refine WD_f (by exact rfl) (by exact rfl) (by exact known) fun hb => ?_; rw [hb]; clear hb) | ((refine WD_tf (by exact rfl) (by exact rfl) ?_ ?_) <;> (intro hb; (fail_if_success (with_reducible injection hb)); rw [hb]; (try simp only [List.length_map] at hb)))) | (refine WD_call (by exact rfl) ?_; first | (refine WD_e0 (fun h => due_pe (n := n) (out := out) (m := m) _ ?_ ?_ ?_ h) ?_; (exact hypS); (exact hypS); (exact hypS))) | (refine WD_idx htb ?_) | (refine WD_idxo htb ?_) | (refine WD_lde1 htb ?_) | (refine WD_lde htb ?_) | (refine WD_ste htb ?_) | (refine WD_ap htb ?_) | (refine WD_ap0 htb ?_) | (refine WD_nil htb ?_) | (refine WD_nilr htb ?_) | (refine WD_rem ?_) | (refine WD_quo ?_) | (refine WD_slc htb ?_) | (refine WD_ixa htb ?_) | (refine WD_ix1 htb ?_) | (refine WD_t (by exact rfl) (by exact rfl) (by exact known) fun hb => ?_; rw [hb]; clear hb) | (refine WD_f (by exact rfl) (by exact rfl) (by exact known) fun hb => ?_; rw [hb]; clear hb) | ((refine WD_tf (by exact rfl) (by exact rfl) ?_ ?_) <;> (intro hb; (fail_if_success (with_reducible injection hb)); rw [hb]; (try simp only [List.length_map] at hb)))) | (with_reducible apply WA_seq) | ((with_reducible apply gR hmix hN); exact (by kernel_rfl); (try dsimp only [List.append_eq, List.cons_append, List.nil_append])) | ((with_reducible apply WD_end); (first | exact no_draw | (intro _; kernel_rfl)); try simp only [thn, inB, List.length_map, List.cons_append, List.nil_append]) | ((with_reducible apply gCt); exact rfl; exact rfl) | ((with_reducible apply gCf); exact rfl; exact rfl) | ((with_reducible apply gCk); exact rfl; exact known; intro hb; rw [hb]; clear hb) | ((with_reducible apply gCn); exact rfl; exact known; intro hb; rw [hb]; clear hb) | (((with_reducible apply gC2); exact rfl) <;> (intro hb; rw [hb])) | (with_reducible apply WA_block) | ((with_reducible first | apply WA_skip | apply WA_ret | apply WA_exit | apply WA_label); try simp only [thn, inB, List.length_map, List.cons_append, List.nil_append])))
  clear hr hp1 hp2 e1 hdl hO
  refine WA_le (s' := ⟨[(46, vI 0), (45, vI out.length), (44, lPc out), (11, vI now), (10, vI got), (9, vI sent), (7, .ptr 7 0), (5, .ptr 9000 0)], [(7, .box 28 (cellsOf (aN m))), Sc.box s]⟩) (LeV []) ?_
  (refine WA_forV (out.length) [46, 10] [] (fun k => [(46, vI k), (10, vI (got + (k : Int)))]) (fun k => []) (fun k => True) ?h0 ?_)
  case h0 => trivial
  intro k hk _
  by_cases hk2 : k < out.length
  · have u1 : decide ((k : Int) < (out.length : Int)) = true := by simp only [decide_eq_true_eq]; omega
    obtain ⟨q1, q2, q3, q4⟩ := hel k hk2
    have w1 : ((nth out k).slot != got + (k : Int) + 1) = false := by simp [q1]
    have w2 : ((nth out k).due != (now : Int)) = false := by simp [q2]
    have w3 : ((nth out k).src != 0) = false := by simp [q3]
    have w4 : ((nth out k).dst != 1) = false := by simp [q4]
    (repeat' (first | ((with_reducible apply WD_id); first | (refine WD_sum ?_) | (refine WD_nxt htb (by exact rfl) ?_) | (refine WD_unk (by exact rfl) ?_; first | (refine WD_t (by exact rfl) (by exact rfl) (by exact known) fun hb => ?_; rw [hb]; clear hb) | (refine WD_f (by exact rfl) (by exact rfl) (by exact known) fun hb => ?_; rw [hb]; clear hb) | ((refine WD_tf (by exact rfl) (by exact rfl) ?_ ?_) <;> (intro hb; (fail_if_success (with_reducible injection hb)); rw [hb]; (try simp only [List.length_map] at hb)))) | (refine WD_idx htb ?_) | (refine WD_idxo htb ?_) | (refine WD_lde1 htb ?_) | (refine WD_lde htb ?_) | (refine WD_ste htb ?_) | (refine WD_ap htb ?_) | (refine WD_ap0 htb ?_) | (refine WD_nil htb ?_) | (refine WD_nilr htb ?_) | (refine WD_rem ?_) | (refine WD_quo ?_) | (refine WD_slc htb ?_) | (refine WD_ixa htb ?_) | (refine WD_ix1 htb ?_) | (refine WD_t (by exact rfl) (by exact rfl) (by exact known) fun hb => ?_; rw [hb]; clear hb) | (refine WD_f (by exact rfl) (by exact rfl) (by exact known) fun hb => ?_; rw [hb]; clear hb) | ((refine WD_tf (by exact rfl) (by exact rfl) ?_ ?_) <;> (intro hb; (fail_if_success (with_reducible injection hb)); rw [hb]; (try simp only [List.length_map] at hb)))) | (with_reducible apply WA_seq) | ((with_reducible apply gR hmix hN); exact (by kernel_rfl); (try dsimp only [List.append_eq, List.cons_append, List.nil_append])) | ((with_reducible apply WD_end); (first | exact no_draw | (intro _; kernel_rfl)); try simp only [thn, inB, List.length_map, List.cons_append, List.nil_append]) | ((with_reducible apply gCt); exact rfl; exact rfl) | ((with_reducible apply gCf); exact rfl; exact rfl) | ((with_reducible apply gCk); exact rfl; exact known; intro hb; rw [hb]; clear hb) | ((with_reducible apply gCn); exact rfl; exact known; intro hb; rw [hb]; clear hb) | (((with_reducible apply gC2); exact rfl) <;> (intro hb; rw [hb])) | (with_reducible apply WA_block) | ((with_reducible first | apply WA_skip | apply WA_ret | apply WA_exit | apply WA_label); try simp only [thn, inB, List.length_map, List.cons_append, List.nil_append])))
    refine ⟨hk2, trivial, ?_⟩
    (exact LeV [])
  have u1 : decide ((k : Int) < (out.length : Int)) = false := by simp only [decide_eq_false_iff_not]; omega
  obtain rfl : k = out.length := by omega
  have bs := s.n_bd (k := 3) (by decide)
  obtain ⟨s1, hs1⟩ : ∃ s1, s.x 3 = s1 := ⟨_, rfl⟩
  have o1 : s1.ok := by rw [← hs1]; exact Sc.ok_x hs 3
  obtain ⟨r3, hr3⟩ : ∃ r3, s.n 3 = r3 := ⟨_, rfl⟩
  rw [hr3] at bs
  (repeat' (first | ((with_reducible apply WD_id); first | (refine WD_sum ?_) | (refine WD_nxt htb (by exact rfl) ?_) | (refine WD_unk (by exact rfl) ?_; first | (refine WD_t (by exact rfl) (by exact rfl) (by exact known) fun hb => ?_; rw [hb]; clear hb) | (refine WD_f (by exact rfl) (by exact rfl) (by exact known) fun hb => ?_; rw [hb]; clear hb) | ((refine WD_tf (by exact rfl) (by exact rfl) ?_ ?_) <;> (intro hb; (fail_if_success (with_reducible injection hb)); rw [hb]; (try simp only [List.length_map] at hb)))) | (refine WD_call (by exact rfl) ?_; first | (refine WD_eM (fun h => N_pe (s := s) (s' := s1) (r := r3) _ ?_ ?_ ?_ h) ?_; (exact hypS); (exact hypS); (exact hypS))) | (refine WD_idx htb ?_) | (refine WD_idxo htb ?_) | (refine WD_lde1 htb ?_) | (refine WD_lde htb ?_) | (refine WD_ste htb ?_) | (refine WD_ap htb ?_) | (refine WD_ap0 htb ?_) | (refine WD_nil htb ?_) | (refine WD_nilr htb ?_) | (refine WD_rem ?_) | (refine WD_quo ?_) | (refine WD_slc htb ?_) | (refine WD_ixa htb ?_) | (refine WD_ix1 htb ?_) | (refine WD_t (by exact rfl) (by exact rfl) (by exact known) fun hb => ?_; rw [hb]; clear hb) | (refine WD_f (by exact rfl) (by exact rfl) (by exact known) fun hb => ?_; rw [hb]; clear hb) | ((refine WD_tf (by exact rfl) (by exact rfl) ?_ ?_) <;> (intro hb; (fail_if_success (with_reducible injection hb)); rw [hb]; (try simp only [List.length_map] at hb)))) | (with_reducible apply WA_seq) | ((with_reducible apply gR hmix hN); exact (by kernel_rfl); (try dsimp only [List.append_eq, List.cons_append, List.nil_append])) | ((with_reducible apply WD_end); (first | exact no_draw | (intro _; kernel_rfl)); try simp only [thn, inB, List.length_map, List.cons_append, List.nil_append]) | ((with_reducible apply gCt); exact rfl; exact rfl) | ((with_reducible apply gCf); exact rfl; exact rfl) | ((with_reducible apply gCk); exact rfl; exact known; intro hb; rw [hb]; clear hb) | ((with_reducible apply gCn); exact rfl; exact known; intro hb; rw [hb]; clear hb) | (((with_reducible apply gC2); exact rfl) <;> (intro hb; rw [hb])) | (with_reducible apply WA_block) | ((with_reducible first | apply WA_skip | apply WA_ret | apply WA_exit | apply WA_label); try simp only [thn, inB, List.length_map, List.cons_append, List.nil_append])))
  generalize hg2 : got + (out.length : Int) = got2 at *
  refine WA_le (s' := ⟨[(16, vI r3), (11, vI now), (10, vI got2), (9, vI sent), (7, .ptr 7 0), (5, .ptr 9000 0)], [(7, .box 28 (cellsOf (aN m))), Sc.box s1]⟩) (LeV []) ?_
  clear hel hs hs1 hr3 hsum hg hg2 ho
  (refine WA_anyV (α := Nat × Net × Int) (fun x => x.1) ((r3.toNat, m, sent)) [16, 9] [7] (fun x => [(16, vI x.1), (9, vI x.2.2)]) (fun x => [(7, .box 28 (cellsOf (aN x.2.1)))]) (fun x => x.2.2 + x.1 ≤ 2 * now + 2 ∧ x.2.1.dels = (netD d).dels ∧ OrdI ((now : Int) + 1) (now + d) d x.2.1 x.2.2 got2) ?h0 ?_)
  case h0 => exact ⟨by dsimp only; omega, hmd, hM⟩
  clear hM hmd
  rintro ⟨k, n, sent⟩ ⟨hb, hdl, hO⟩
  dsimp only at hb hdl hO
  have hg := hO.g0
  have hsum := hO.sum
  have hend : OrdI ((now + 1 : Nat) : Int) (((now + 1 : Nat) : Int) + d) d n sent got2 := by
    have := ord_next hO
    rw [show ((now + 1 : Nat) : Int) = (now : Int) + 1 by omega]
    exact this
  cases k with
  | zero =>
    have w1 : decide (((0 : Nat) : Int) > 0) = false := by decide
    (repeat' (first | ((with_reducible apply WD_id); first | (refine WD_sum ?_) | (refine WD_nxt htb (by exact rfl) ?_) | (refine WD_unk (by exact rfl) ?_; first | (refine WD_t (by exact rfl) (by exact rfl) (by exact known) fun hb => ?_; rw [hb]; clear hb) | (refine WD_f (by exact rfl) (by exact rfl) (by exact known) fun hb => ?_; rw [hb]; clear hb) | ((refine WD_tf (by exact rfl) (by exact rfl) ?_ ?_) <;> (intro hb; (fail_if_success (with_reducible injection hb)); rw [hb]; (try simp only [List.length_map] at hb)))) | (refine WD_idx htb ?_) | (refine WD_idxo htb ?_) | (refine WD_lde1 htb ?_) | (refine WD_lde htb ?_) | (refine WD_ste htb ?_) | (refine WD_ap htb ?_) | (refine WD_ap0 htb ?_) | (refine WD_nil htb ?_) | (refine WD_nilr htb ?_) | (refine WD_rem ?_) | (refine WD_quo ?_) | (refine WD_slc htb ?_) | (refine WD_ixa htb ?_) | (refine WD_ix1 htb ?_) | (refine WD_t (by exact rfl) (by exact rfl) (by exact known) fun hb => ?_; rw [hb]; clear hb) | (refine WD_f (by exact rfl) (by exact rfl) (by exact known) fun hb => ?_; rw [hb]; clear hb) | ((refine WD_tf (by exact rfl) (by exact rfl) ?_ ?_) <;> (intro hb; (fail_if_success (with_reducible injection hb)); rw [hb]; (try simp only [List.length_map] at hb)))) | (with_reducible apply WA_seq) | ((with_reducible apply gR hmix hN); exact (by kernel_rfl); (try dsimp only [List.append_eq, List.cons_append, List.nil_append])) | ((with_reducible apply WD_end); (first | exact no_draw | (intro _; kernel_rfl)); try simp only [thn, inB, List.length_map, List.cons_append, List.nil_append]) | ((with_reducible apply gCt); exact rfl; exact rfl) | ((with_reducible apply gCf); exact rfl; exact rfl) | ((with_reducible apply gCk); exact rfl; exact known; intro hb; rw [hb]; clear hb) | ((with_reducible apply gCn); exact rfl; exact known; intro hb; rw [hb]; clear hb) | (((with_reducible apply gC2); exact rfl) <;> (intro hb; rw [hb])) | (with_reducible apply WA_block) | ((with_reducible first | apply WA_skip | apply WA_ret | apply WA_exit | apply WA_label); try simp only [thn, inB, List.length_map, List.cons_append, List.nil_append])))
    refine ⟨(now + 1, n, sent, got2, s1), by dsimp only; omega, ⟨by dsimp only; omega, o1, by dsimp only; omega, hdl, hend⟩, ?_⟩
    (exact LeV [])
  | succ k =>
    have w1 : decide (((k + 1 : Nat) : Int) > 0) = true := by simp only [decide_eq_true_eq]; omega
    by_cases h15 : now < 15
    case neg =>
      have w2 : decide ((now : Int) < 15) = false := by simp only [decide_eq_false_iff_not]; omega
      (repeat' (first | ((with_reducible apply WD_id); first | (refine WD_sum ?_) | (refine WD_nxt htb (by exact rfl) ?_) | (refine WD_unk (by exact rfl) ?_; first | (refine WD_t (by exact rfl) (by exact rfl) (by exact known) fun hb => ?_; rw [hb]; clear hb) | (refine WD_f (by exact rfl) (by exact rfl) (by exact known) fun hb => ?_; rw [hb]; clear hb) | ((refine WD_tf (by exact rfl) (by exact rfl) ?_ ?_) <;> (intro hb; (fail_if_success (with_reducible injection hb)); rw [hb]; (try simp only [List.length_map] at hb)))) | (refine WD_idx htb ?_) | (refine WD_idxo htb ?_) | (refine WD_lde1 htb ?_) | (refine WD_lde htb ?_) | (refine WD_ste htb ?_) | (refine WD_ap htb ?_) | (refine WD_ap0 htb ?_) | (refine WD_nil htb ?_) | (refine WD_nilr htb ?_) | (refine WD_rem ?_) | (refine WD_quo ?_) | (refine WD_slc htb ?_) | (refine WD_ixa htb ?_) | (refine WD_ix1 htb ?_) | (refine WD_t (by exact rfl) (by exact rfl) (by exact known) fun hb => ?_; rw [hb]; clear hb) | (refine WD_f (by exact rfl) (by exact rfl) (by exact known) fun hb => ?_; rw [hb]; clear hb) | ((refine WD_tf (by exact rfl) (by exact rfl) ?_ ?_) <;> (intro hb; (fail_if_success (with_reducible injection hb)); rw [hb]; (try simp only [List.length_map] at hb)))) | (with_reducible apply WA_seq) | ((with_reducible apply gR hmix hN); exact (by kernel_rfl); (try dsimp only [List.append_eq, List.cons_append, List.nil_append])) | ((with_reducible apply WD_end); (first | exact no_draw | (intro _; kernel_rfl)); try simp only [thn, inB, List.length_map, List.cons_append, List.nil_append]) | ((with_reducible apply gCt); exact rfl; exact rfl) | ((with_reducible apply gCf); exact rfl; exact rfl) | ((with_reducible apply gCk); exact rfl; exact known; intro hb; rw [hb]; clear hb) | ((with_reducible apply gCn); exact rfl; exact known; intro hb; rw [hb]; clear hb) | (((with_reducible apply gC2); exact rfl) <;> (intro hb; rw [hb])) | (with_reducible apply WA_block) | ((with_reducible first | apply WA_skip | apply WA_ret | apply WA_exit | apply WA_label); try simp only [thn, inB, List.length_map, List.cons_append, List.nil_append])))
      refine ⟨(now + 1, n, sent, got2, s1), by dsimp only; omega, ⟨by dsimp only; omega, o1, by dsimp only; omega, hdl, hend⟩, ?_⟩
      (exact LeV [])
    have w2 : decide ((now : Int) < 15) = true := by simp only [decide_eq_true_eq]; omega
    clear hend
    obtain ⟨m2, hS, hO2⟩ := ord_send hO (by omega) (by omega) d0 d1 (by omega)
    have hmd := (send_dels hS).trans hdl
    have hr := hO.r
    have a1 : (0 : Int) ≤ 0 ∧ (0 : Int) < 10 := by omega
    have a2 : (0 : Int) ≤ 1 ∧ (1 : Int) < 10 := by omega
    have a3 : 0 ≤ (now : Int) ∧ (now : Int) ≤ 200 := by omega
    have hnx := hO.nx
    have l7 : n.pars.length < 4000 := by omega
    have l8 : n.next < 1000000000 := by omega
    have l9 : n.dels.length = 0 ∨ n.dels.length = 100 := by rw [hdl]; exact .inr v1
    have l10 : ∀ x ∈ n.dels, 0 ≤ x ∧ x ≤ 20 := by rw [hdl]; exact v2
    have l11 : n.parts.length ≤ 1000 := by rw [hO.p]; simp
    (repeat' (first | ((with_reducible apply WD_id); first | (refine WD_sum ?_) | (refine WD_nxt htb (by exact rfl) ?_) | (refine WD_unk (by exact rfl) ?_; first | (refine WD_t (by exact rfl) (by exact rfl) (by exact known) fun hb => ?_; rw [hb]; clear hb) | (refine WD_f (by exact rfl) (by exact rfl) (by exact known) fun hb => ?_; rw [hb]; clear hb) | ((refine WD_tf (by exact rfl) (by exact rfl) ?_ ?_) <;> (intro hb; (fail_if_success (with_reducible injection hb)); rw [hb]; (try simp only [List.length_map] at hb)))) | (refine WD_call (by exact rfl) ?_; first | (refine WD_e0 (fun h => sendN_pe (n := n) (slot := sent + 1) (m := m2) (e := 0) _ _ _ ?_ ?_ ?_ ?_ ?_ ?_ ?_ ?_ ?_ h) ?_; (exact hypS); (exact hypS); (exact hypS); (exact hypS); (exact hypS); (exact hypS); (exact hypS); (exact hypS); (exact hypS))) | (refine WD_idx htb ?_) | (refine WD_idxo htb ?_) | (refine WD_lde1 htb ?_) | (refine WD_lde htb ?_) | (refine WD_ste htb ?_) | (refine WD_ap htb ?_) | (refine WD_ap0 htb ?_) | (refine WD_nil htb ?_) | (refine WD_nilr htb ?_) | (refine WD_rem ?_) | (refine WD_quo ?_) | (refine WD_slc htb ?_) | (refine WD_ixa htb ?_) | (refine WD_ix1 htb ?_) | (refine WD_t (by exact rfl) (by exact rfl) (by exact known) fun hb => ?_; rw [hb]; clear hb) | (refine WD_f (by exact rfl) (by exact rfl) (by exact known) fun hb => ?_; rw [hb]; clear hb) | ((refine WD_tf (by exact rfl) (by exact rfl) ?_ ?_) <;> (intro hb; (fail_if_success (with_reducible injection hb)); rw [hb]; (try simp only [List.length_map] at hb)))) | (with_reducible apply WA_seq) | ((with_reducible apply gR hmix hN); exact (by kernel_rfl); (try dsimp only [List.append_eq, List.cons_append, List.nil_append])) | ((with_reducible apply WD_end); (first | exact no_draw | (intro _; kernel_rfl)); try simp only [thn, inB, List.length_map, List.cons_append, List.nil_append]) | ((with_reducible apply gCt); exact rfl; exact rfl) | ((with_reducible apply gCf); exact rfl; exact rfl) | ((with_reducible apply gCk); exact rfl; exact known; intro hb; rw [hb]; clear hb) | ((with_reducible apply gCn); exact rfl; exact known; intro hb; rw [hb]; clear hb) | (((with_reducible apply gC2); exact rfl) <;> (intro hb; rw [hb])) | (with_reducible apply WA_block) | ((with_reducible first | apply WA_skip | apply WA_ret | apply WA_exit | apply WA_label); try simp only [thn, inB, List.length_map, List.cons_append, List.nil_append])))
    refine ⟨(k, m2, sent + 1), by dsimp only; omega, ⟨by dsimp only; omega, hmd, hO2⟩, ?_⟩
    (exact LeV [])
theorem law_NetworkOrder (a0 : Option Addr) (len0 cap0 : Nat) (z0 : List Int) (a1 : Int) (w : World) (w0 : IsRowA .i64 w a0 len0 cap0 z0) (w1 : (Lit.int .u8 a1).wf = true) :
    Calls Try.prog 5 #[.slice a0 len0 cap0, .int .u8 a1] w fun e w' => e = .returned (.bool true) ∧ Ex w w' := by
  have hu : 0 ≤ a1 ∧ a1 ≤ 255 := by simpa [Lit.wf, IntKind.min, IntKind.max, IntKind.bits, IntKind.signed] using w1
  exact FnM.law (order31_m (z0.take len0) a1 hu.1 hu.2) (VRs.cons (row_VR w0) (VRs.cons (.d (.v _)) VRs.nil))
end Go.Proofs.Ytahjhnijmmnkeaa
