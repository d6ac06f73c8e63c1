/- AccountsExact: the walk. -/
import Derived.Test.YteppnjgobaggaaaWA4
import Derived.Test.YteppnjgobaggaaaRawB
import Derived.Test.YteppnjgobaggaaaWR7
import Derived.Test.YteppnjgobaggaaaW36A
namespace Go.Proofs.Yteppnjgobaggaaa
set_option linter.unusedSimpArgs false
set_option linter.unusedVariables false
set_option linter.unnecessarySimpa false
set_option linter.unusedSectionVars false
set_option maxRecDepth 100000
open Go Go.RowKit Go.Am Go.Proofs.Grow

theorem findX_pe (l : List Acc) (i : Int) (a : Acc) (b : Bool) (hl : l.length ≤ 1000) (he : findA l i = (a, b)) : FnM Try.prog 15 [] [lA l, vI i] (.tup [aA a, vB b]) [] := by
  have := findA_pm l i hl
  rwa [he] at this
theorem findX_re (l : List Acc) (i : Int) (a : Acc) (b : Bool) (hl : l.length ≤ 1000) (he : findA l i = (a, b)) : FnM Try.prog 37 [] [lA l, vI i] (.tup [aA a, vB b]) [] := by
  have := findA_rm l i hl
  rwa [he] at this
theorem createX_pe (l : List Acc) (i q : Int) (m : List Acc) (e : Int) (hl : l.length ≤ 1000) (he : createF l i q = (m, e)) : FnM Try.prog 32 [] [lA l, vI i, vI q] (.tup [lA m, vI e]) [] := by
  have := create_pm l i q hl
  rwa [he] at this
theorem createX_re (l : List Acc) (i q : Int) (m : List Acc) (e : Int) (hl : l.length ≤ 1000) (he : createF l i q = (m, e)) : FnM Try.prog 38 [] [lA l, vI i, vI q] (.tup [lA m, vI e]) [] := by
  have := create_rm l i q hl
  rwa [he] at this
theorem givX_pe (l : List Acc) (i q : Int) (m : List Acc) (e : Int) (hl : l.length ≤ 1000) (he : giveF l i q = (m, e)) : FnM Try.prog 40 [] [lA l, vI i, vI q] (.tup [lA m, vI e]) [] := by
  have := give_pm l i q hl
  rwa [he] at this
theorem takX_pe (l : List Acc) (i q : Int) (m : List Acc) (e : Int) (hl : l.length ≤ 1000) (he : takeF l i q = (m, e)) : FnM Try.prog 42 [] [lA l, vI i, vI q] (.tup [lA m, vI e]) [] := by
  have := take_pm l i q hl
  rwa [he] at this
theorem begX_pe (l : List Acc) (i q f : Int) (m : List Acc) (e : Int) (hl : l.length ≤ 1000) (he : beginF l i q f = (m, e)) : FnM Try.prog 16 [] [lA l, vI i, vI q, vI f] (.tup [lA m, vI e]) [] := by
  have := begin_pm l i q f hl
  rwa [he] at this
theorem begX_re (l : List Acc) (i q f : Int) (m : List Acc) (e : Int) (hl : l.length ≤ 1000) (he : beginF l i q f = (m, e)) : FnM Try.prog 44 [] [lA l, vI i, vI q, vI f] (.tup [lA m, vI e]) [] := by
  have := begin_rm l i q f hl
  rwa [he] at this
theorem insA_len (x : Acc) : ∀ l : List Acc, (insA x l).length = l.length + 1
  | [] => rfl
  | y :: r => by
    unfold insA
    split
    · rfl
    · rw [List.length_cons, insA_len x r, List.length_cons]
theorem createF_len {l m : List Acc} {i q e : Int} (h : createF l i q = (m, e)) : m.length ≤ l.length + 1 := by
  have hm : (createF l i q).1 = m := congrArg Prod.fst h
  rw [← hm]
  unfold createF
  split
  · simp
  · split
    · simp
    · split
      · simp
      · split
        · simp
        · dsimp only; rw [insA_len]; omega
theorem changeF_len (l : List Acc) (i : Int) (f : Acc → Acc × Int) : (changeF l i f).1.length ≤ l.length := by
  unfold changeF
  split
  · simp
  · split
    · simp
    · split
      · simp
      · simp
theorem giveF_len {l m : List Acc} {i q e : Int} (h : giveF l i q = (m, e)) : m.length ≤ l.length := by
  have := changeF_len l i (giveS q)
  have hm : (giveF l i q).1 = m := congrArg Prod.fst h
  rw [← hm]; exact this
theorem takeF_len {l m : List Acc} {i q e : Int} (h : takeF l i q = (m, e)) : m.length ≤ l.length := by
  have := changeF_len l i (takeS q)
  have hm : (takeF l i q).1 = m := congrArg Prod.fst h
  rw [← hm]; exact this
theorem beginF_len {l m : List Acc} {i q f e : Int} (h : beginF l i q f = (m, e)) : m.length ≤ l.length := by
  have := changeF_len l i (beginS q f)
  have hm : (beginF l i q f).1 = m := congrArg Prod.fst h
  rw [← hm]; exact this
theorem three_of {m : Nat} (h : m < 3) : m = 0 ∨ m = 1 ∨ m = 2 := by omega
set_option maxHeartbeats 16000000 in
theorem acc36_m (l : List Int) (raw : List Acc) (i0 n0 k0 : Int) : FnM Try.prog 8 [] [lI l, lA raw, vI i0, vI n0, vI k0] (vB true) [] := by
  refine FnM.of htb Try.func8 rfl rfl rfl rfl rfl fun cx hN h0 => ?_
  by_cases h25 : raw.length > 25
  · have t1 : decide ((raw.length : Int) > 25) = true := by simp only [decide_eq_true_eq]; omega
    (repeat' (first | ((with_reducible apply WD_id); first | (refine WD_sum ?_) | (refine WD_nxt htb (by exact rfl) ?_) | (refine WD_unk (by exact rfl) ?_; first | (refine WD_t (by exact rfl) (by exact rfl) (by exact known) fun hb => ?_; rw [hb]; clear hb) | (refine WD_f (by exact rfl) (by exact rfl) (by exact known) fun hb => ?_; rw [hb]; clear hb) | ((refine WD_tf (by exact rfl) (by exact rfl) ?_ ?_) <;> (intro hb; (fail_if_success (with_reducible injection hb)); rw [hb]; (try simp only [List.length_map] at hb)))) | (refine WD_call (by exact rfl) ?_; first | (refine WD_c0 (sane36_m) ?_)) | (refine WD_idx htb ?_) | (refine WD_idxo htb ?_) | (refine WD_lde1 htb ?_) | (refine WD_lde htb ?_) | (refine WD_ste htb ?_) | (refine WD_ap htb ?_) | (refine WD_ap0 htb ?_) | (refine WD_nil htb ?_) | (refine WD_nilr htb ?_) | (refine WD_rem ?_) | (refine WD_quo ?_) | (refine WD_slc htb ?_) | (refine WD_ixa htb ?_) | (refine WD_ix1 htb ?_) | (refine WD_t (by exact rfl) (by exact rfl) (by exact known) fun hb => ?_; rw [hb]; clear hb) | (refine WD_f (by exact rfl) (by exact rfl) (by exact known) fun hb => ?_; rw [hb]; clear hb) | ((refine WD_tf (by exact rfl) (by exact rfl) ?_ ?_) <;> (intro hb; (fail_if_success (with_reducible injection hb)); rw [hb]; (try simp only [List.length_map] at hb)))) | (with_reducible apply WA_seq) | ((with_reducible apply gR hmix hN); exact (by kernel_rfl); (try dsimp only [List.append_eq, List.cons_append, List.nil_append])) | ((with_reducible apply WD_end); (first | exact no_draw | (intro _; kernel_rfl)); try simp only [thn, inB, List.length_map, List.cons_append, List.nil_append]) | ((with_reducible apply gCt); exact rfl; exact rfl) | ((with_reducible apply gCf); exact rfl; exact rfl) | ((with_reducible apply gCk); exact rfl; exact known; intro hb; rw [hb]; clear hb) | ((with_reducible apply gCn); exact rfl; exact known; intro hb; rw [hb]; clear hb) | (((with_reducible apply gC2); exact rfl) <;> (intro hb; rw [hb])) | (with_reducible apply WA_block) | ((with_reducible first | apply WA_skip | apply WA_ret | apply WA_exit | apply WA_label); try simp only [thn, inB, List.length_map, List.cons_append, List.nil_append])))
    exact gE (.inr rfl) rfl rfl trivial
  have t1 : decide ((raw.length : Int) > 25) = false := by simp only [decide_eq_false_iff_not]; omega
  have hs : Sc.ok ⟨l.take 800, 0⟩ := ⟨Nat.zero_le _, by simp; omega⟩
  have hm := ledF_made ⟨l.take 800, 0⟩
  have ho := ledF_ok hs
  generalize ht : ledF ⟨l.take 800, 0⟩ = t at *
  have h5 := hm.five
  have hla : t.1.accs.length ≤ 1000 := by omega
  clear hm
  (repeat' (first | ((with_reducible apply WD_id); first | (refine WD_sum ?_) | (refine WD_nxt htb (by exact rfl) ?_) | (refine WD_unk (by exact rfl) ?_; first | (refine WD_t (by exact rfl) (by exact rfl) (by exact known) fun hb => ?_; rw [hb]; clear hb) | (refine WD_f (by exact rfl) (by exact rfl) (by exact known) fun hb => ?_; rw [hb]; clear hb) | ((refine WD_tf (by exact rfl) (by exact rfl) ?_ ?_) <;> (intro hb; (fail_if_success (with_reducible injection hb)); rw [hb]; (try simp only [List.length_map] at hb)))) | (refine WD_call (by exact rfl) ?_; first | (refine WD_cM (new_m _) ?_) | (refine WD_eM (fun h => led_e _ _ ?_ h) ?_; (exact hypS)) | (refine WD_cM (odd_m _ ?_) ?_; (exact hypS))) | (refine WD_idx htb ?_) | (refine WD_idxo htb ?_) | (refine WD_lde1 htb ?_) | (refine WD_lde htb ?_) | (refine WD_ste htb ?_) | (refine WD_ap htb ?_) | (refine WD_ap0 htb ?_) | (refine WD_nil htb ?_) | (refine WD_nilr htb ?_) | (refine WD_rem ?_) | (refine WD_quo ?_) | (refine WD_slc htb ?_) | (refine WD_ixa htb ?_) | (refine WD_ix1 htb ?_) | (refine WD_t (by exact rfl) (by exact rfl) (by exact known) fun hb => ?_; rw [hb]; clear hb) | (refine WD_f (by exact rfl) (by exact rfl) (by exact known) fun hb => ?_; rw [hb]; clear hb) | ((refine WD_tf (by exact rfl) (by exact rfl) ?_ ?_) <;> (intro hb; (fail_if_success (with_reducible injection hb)); rw [hb]; (try simp only [List.length_map] at hb)))) | (with_reducible apply WA_seq) | ((with_reducible apply gR hmix hN); exact (by kernel_rfl); (try dsimp only [List.append_eq, List.cons_append, List.nil_append])) | ((with_reducible apply WD_end); (first | exact no_draw | (intro _; kernel_rfl)); try simp only [thn, inB, List.length_map, List.cons_append, List.nil_append]) | ((with_reducible apply gCt); exact rfl; exact rfl) | ((with_reducible apply gCf); exact rfl; exact rfl) | ((with_reducible apply gCk); exact rfl; exact known; intro hb; rw [hb]; clear hb) | ((with_reducible apply gCn); exact rfl; exact known; intro hb; rw [hb]; clear hb) | (((with_reducible apply gC2); exact rfl) <;> (intro hb; rw [hb])) | (with_reducible apply WA_block) | ((with_reducible first | apply WA_skip | apply WA_ret | apply WA_exit | apply WA_label); try simp only [thn, inB, List.length_map, List.cons_append, List.nil_append])))
  obtain ⟨o1, ho1⟩ : ∃ o1, nth odds (t.2.n 15).toNat = o1 := ⟨_, rfl⟩
  obtain ⟨o2, ho2⟩ : ∃ o2, nth odds ((t.2.x 15).n 15).toNat = o2 := ⟨_, rfl⟩
  rw [ho1, ho2]
  have hrow : List.map rA t.1.accs ++ [[dI o1, dI o2, dI 0]] = (t.1.accs ++ [(⟨o1, o2, 0⟩ : Acc)]).map rA := by rw [List.map_append]; rfl
  rw [hrow]
  have os : ((t.2.x 15).x 15).ok := Sc.ok_x (Sc.ok_x ho 15) 15
  generalize (t.2.x 15).x 15 = s0 at *
  have hl2 : (t.1.accs ++ [(⟨o1, o2, 0⟩ : Acc)]).length ≤ 900 := by simp; omega
  have hl1 : raw.length ≤ 900 := by omega
  have hl0 : t.1.accs.length ≤ 900 := by omega
  generalize t.1.accs ++ [(⟨o1, o2, 0⟩ : Acc)] = A2 at *
  generalize t.1.accs = A0 at *
  clear ho1 ho2 hs ho ht h5 hla t1 h25 hrow
  refine WA_le (s' := ⟨[(50, vI 0), (49, .agg [lA A0, lA raw, lA A2]), (11, .ptr 9000 0), (2, vI i0), (3, vI n0), (4, vI k0)], [Sc.box s0]⟩) (LeV []) ?_
  (refine WA_anyV (α := Nat × Sc) (fun x => 3 - x.1) ((0, s0)) [50] [9000] (fun x => [(50, vI x.1)]) (fun x => [Sc.box x.2]) (fun x => x.1 ≤ 3 ∧ x.2.ok) ?h0 ?_)
  case h0 => exact ⟨Nat.zero_le _, os⟩
  clear os
  rintro ⟨a, s⟩ ⟨ha3, os⟩
  dsimp only at ha3 os
  by_cases ha : a < 3
  case neg =>
    obtain rfl : a = 3 := by omega
    have d1 : decide (((3 : Nat) : Int) < 3) = false := by decide
    (repeat' (first | ((with_reducible apply WD_id); first | (refine WD_sum ?_) | (refine WD_nxt htb (by exact rfl) ?_) | (refine WD_unk (by exact rfl) ?_; first | (refine WD_t (by exact rfl) (by exact rfl) (by exact known) fun hb => ?_; rw [hb]; clear hb) | (refine WD_f (by exact rfl) (by exact rfl) (by exact known) fun hb => ?_; rw [hb]; clear hb) | ((refine WD_tf (by exact rfl) (by exact rfl) ?_ ?_) <;> (intro hb; (fail_if_success (with_reducible injection hb)); rw [hb]; (try simp only [List.length_map] at hb)))) | (refine WD_call (by exact rfl) ?_; first | (refine WD_c0 (sane36_m) ?_)) | (refine WD_idx htb ?_) | (refine WD_idxo htb ?_) | (refine WD_lde1 htb ?_) | (refine WD_lde htb ?_) | (refine WD_ste htb ?_) | (refine WD_ap htb ?_) | (refine WD_ap0 htb ?_) | (refine WD_nil htb ?_) | (refine WD_nilr htb ?_) | (refine WD_rem ?_) | (refine WD_quo ?_) | (refine WD_slc htb ?_) | (refine WD_ixa htb ?_) | (refine WD_ix1 htb ?_) | (refine WD_t (by exact rfl) (by exact rfl) (by exact known) fun hb => ?_; rw [hb]; clear hb) | (refine WD_f (by exact rfl) (by exact rfl) (by exact known) fun hb => ?_; rw [hb]; clear hb) | ((refine WD_tf (by exact rfl) (by exact rfl) ?_ ?_) <;> (intro hb; (fail_if_success (with_reducible injection hb)); rw [hb]; (try simp only [List.length_map] at hb)))) | (with_reducible apply WA_seq) | ((with_reducible apply gR hmix hN); exact (by kernel_rfl); (try dsimp only [List.append_eq, List.cons_append, List.nil_append])) | ((with_reducible apply WD_end); (first | exact no_draw | (intro _; kernel_rfl)); try simp only [thn, inB, List.length_map, List.cons_append, List.nil_append]) | ((with_reducible apply gCt); exact rfl; exact rfl) | ((with_reducible apply gCf); exact rfl; exact rfl) | ((with_reducible apply gCk); exact rfl; exact known; intro hb; rw [hb]; clear hb) | ((with_reducible apply gCn); exact rfl; exact known; intro hb; rw [hb]; clear hb) | (((with_reducible apply gC2); exact rfl) <;> (intro hb; rw [hb])) | (with_reducible apply WA_block) | ((with_reducible first | apply WA_skip | apply WA_ret | apply WA_exit | apply WA_label); try simp only [thn, inB, List.length_map, List.cons_append, List.nil_append])))
    exact gE (.inr rfl) rfl rfl trivial
  have d1 : decide ((a : Int) < 3) = true := by simp only [decide_eq_true_eq]; omega
  have hlx : (nth [A0, raw, A2] a).length ≤ 900 := by rcases three_of ha with rfl | rfl | rfl <;> assumption
  (repeat' (first | ((with_reducible apply WD_id); first | (refine WD_sum ?_) | (refine WD_nxt htb (by exact rfl) ?_) | (refine WD_unk (by exact rfl) ?_; first | (refine WD_t (by exact rfl) (by exact rfl) (by exact known) fun hb => ?_; rw [hb]; clear hb) | (refine WD_f (by exact rfl) (by exact rfl) (by exact known) fun hb => ?_; rw [hb]; clear hb) | ((refine WD_tf (by exact rfl) (by exact rfl) ?_ ?_) <;> (intro hb; (fail_if_success (with_reducible injection hb)); rw [hb]; (try simp only [List.length_map] at hb)))) | (refine WD_idx htb ?_) | (refine WD_idxo htb ?_) | (refine WD_lde1 htb ?_) | (refine WD_lde htb ?_) | (refine WD_ste htb ?_) | (refine WD_ap htb ?_) | (refine WD_ap0 htb ?_) | (refine WD_nil htb ?_) | (refine WD_nilr htb ?_) | (refine WD_rem ?_) | (refine WD_quo ?_) | (refine WD_slc htb ?_) | (refine WD_ixa htb ?_) | (refine WD_ix1 htb ?_) | (refine WD_t (by exact rfl) (by exact rfl) (by exact known) fun hb => ?_; rw [hb]; clear hb) | (refine WD_f (by exact rfl) (by exact rfl) (by exact known) fun hb => ?_; rw [hb]; clear hb) | ((refine WD_tf (by exact rfl) (by exact rfl) ?_ ?_) <;> (intro hb; (fail_if_success (with_reducible injection hb)); rw [hb]; (try simp only [List.length_map] at hb)))) | (with_reducible apply WA_seq) | ((with_reducible apply gR hmix hN); exact (by kernel_rfl); (try dsimp only [List.append_eq, List.cons_append, List.nil_append])) | ((with_reducible apply WD_end); (first | exact no_draw | (intro _; kernel_rfl)); try simp only [thn, inB, List.length_map, List.cons_append, List.nil_append]) | ((with_reducible apply gCt); exact rfl; exact rfl) | ((with_reducible apply gCf); exact rfl; exact rfl) | ((with_reducible apply gCk); exact rfl; exact known; intro hb; rw [hb]; clear hb) | ((with_reducible apply gCn); exact rfl; exact known; intro hb; rw [hb]; clear hb) | (((with_reducible apply gC2); exact rfl) <;> (intro hb; rw [hb])) | (with_reducible apply WA_block) | ((with_reducible first | apply WA_skip | apply WA_ret | apply WA_exit | apply WA_label); try simp only [thn, inB, List.length_map, List.cons_append, List.nil_append])))
  refine WD_ix1 htb (n := a) (c := lA (nth [A0, raw, A2] a)) ?_ (hn := by rcases three_of ha with rfl | rfl | rfl <;> rfl) (hc := by rcases three_of ha with rfl | rfl | rfl <;> rfl)
  generalize nth [A0, raw, A2] a = X at *
  have t1 : (chkA X != chkA X) = false := by simp
  have t2 : (totA X != totA X) = false := by simp
  (repeat' (first | ((with_reducible apply WD_id); first | (refine WD_sum ?_) | (refine WD_nxt htb (by exact rfl) ?_) | (refine WD_unk (by exact rfl) ?_; first | (refine WD_t (by exact rfl) (by exact rfl) (by exact known) fun hb => ?_; rw [hb]; clear hb) | (refine WD_f (by exact rfl) (by exact rfl) (by exact known) fun hb => ?_; rw [hb]; clear hb) | ((refine WD_tf (by exact rfl) (by exact rfl) ?_ ?_) <;> (intro hb; (fail_if_success (with_reducible injection hb)); rw [hb]; (try simp only [List.length_map] at hb)))) | (refine WD_call (by exact rfl) ?_; first | (refine WD_c0 (chkA_pm _) ?_) | (refine WD_c0 (chkA_rm _) ?_) | (refine WD_c0 (tot_pm _ ?_) ?_; (exact hypS)) | (refine WD_c0 (tot_rm _ ?_) ?_; (exact hypS)) | (refine WD_cM (Range_m _ _ _ ?_ ?_ ?_ ?_) ?_; (exact hypS); (exact hypS); (exact hypS); (exact hypS)) | (refine WD_cM (odd_m _ ?_) ?_; (exact hypS))) | (refine WD_idx htb ?_) | (refine WD_idxo htb ?_) | (refine WD_lde1 htb ?_) | (refine WD_lde htb ?_) | (refine WD_ste htb ?_) | (refine WD_ap htb ?_) | (refine WD_ap0 htb ?_) | (refine WD_nil htb ?_) | (refine WD_nilr htb ?_) | (refine WD_rem ?_) | (refine WD_quo ?_) | (refine WD_slc htb ?_) | (refine WD_ixa htb ?_) | (refine WD_ix1 htb ?_) | (refine WD_t (by exact rfl) (by exact rfl) (by exact known) fun hb => ?_; rw [hb]; clear hb) | (refine WD_f (by exact rfl) (by exact rfl) (by exact known) fun hb => ?_; rw [hb]; clear hb) | ((refine WD_tf (by exact rfl) (by exact rfl) ?_ ?_) <;> (intro hb; (fail_if_success (with_reducible injection hb)); rw [hb]; (try simp only [List.length_map] at hb)))) | (with_reducible apply WA_seq) | ((with_reducible apply gR hmix hN); exact (by kernel_rfl); (try dsimp only [List.append_eq, List.cons_append, List.nil_append])) | ((with_reducible apply WD_end); (first | exact no_draw | (intro _; kernel_rfl)); try simp only [thn, inB, List.length_map, List.cons_append, List.nil_append]) | ((with_reducible apply gCt); exact rfl; exact rfl) | ((with_reducible apply gCf); exact rfl; exact rfl) | ((with_reducible apply gCk); exact rfl; exact known; intro hb; rw [hb]; clear hb) | ((with_reducible apply gCn); exact rfl; exact known; intro hb; rw [hb]; clear hb) | (((with_reducible apply gC2); exact rfl) <;> (intro hb; rw [hb])) | (with_reducible apply WA_block) | ((with_reducible first | apply WA_skip | apply WA_ret | apply WA_exit | apply WA_label); try simp only [thn, inB, List.length_map, List.cons_append, List.nil_append])))
  obtain ⟨j1, hj1⟩ : ∃ j1, 0 + s.n (7 - 0 + 1) = j1 := ⟨_, rfl⟩
  obtain ⟨j2, hj2⟩ : ∃ j2, nth odds ((s.x (7 - 0 + 1)).n 15).toNat = j2 := ⟨_, rfl⟩
  rw [hj1, hj2]
  have os2 : ((s.x (7 - 0 + 1)).x 15).ok := Sc.ok_x (Sc.ok_x os _) 15
  generalize (s.x (7 - 0 + 1)).x 15 = s1 at *
  clear hj1 hj2 t1 t2 d1 os
  refine WA_le (s' := ⟨[(71, vI 0), (70, .agg [vI i0, vI j1, vI j2]), (14, lA X), (50, vI a), (49, .agg [lA A0, lA raw, lA A2]), (11, .ptr 9000 0), (2, vI i0), (3, vI n0), (4, vI k0)], [Sc.box s1]⟩) (LeV []) ?_
  (refine WA_anyV (α := Nat × Sc) (fun x => 3 - x.1) ((0, s1)) [71] [9000] (fun x => [(71, vI x.1)]) (fun x => [Sc.box x.2]) (fun x => x.1 ≤ 3 ∧ x.2.ok) ?h0 ?_)
  case h0 => exact ⟨Nat.zero_le _, os2⟩
  clear os2
  rintro ⟨b, s⟩ ⟨hb3, os⟩
  dsimp only at hb3 os
  by_cases hb : b < 3
  case neg =>
    obtain rfl : b = 3 := by omega
    have d1 : decide (((3 : Nat) : Int) < 3) = false := by decide
    (repeat' (first | ((with_reducible apply WD_id); first | (refine WD_sum ?_) | (refine WD_nxt htb (by exact rfl) ?_) | (refine WD_unk (by exact rfl) ?_; first | (refine WD_t (by exact rfl) (by exact rfl) (by exact known) fun hb => ?_; rw [hb]; clear hb) | (refine WD_f (by exact rfl) (by exact rfl) (by exact known) fun hb => ?_; rw [hb]; clear hb) | ((refine WD_tf (by exact rfl) (by exact rfl) ?_ ?_) <;> (intro hb; (fail_if_success (with_reducible injection hb)); rw [hb]; (try simp only [List.length_map] at hb)))) | (refine WD_idx htb ?_) | (refine WD_idxo htb ?_) | (refine WD_lde1 htb ?_) | (refine WD_lde htb ?_) | (refine WD_ste htb ?_) | (refine WD_ap htb ?_) | (refine WD_ap0 htb ?_) | (refine WD_nil htb ?_) | (refine WD_nilr htb ?_) | (refine WD_rem ?_) | (refine WD_quo ?_) | (refine WD_slc htb ?_) | (refine WD_ixa htb ?_) | (refine WD_ix1 htb ?_) | (refine WD_t (by exact rfl) (by exact rfl) (by exact known) fun hb => ?_; rw [hb]; clear hb) | (refine WD_f (by exact rfl) (by exact rfl) (by exact known) fun hb => ?_; rw [hb]; clear hb) | ((refine WD_tf (by exact rfl) (by exact rfl) ?_ ?_) <;> (intro hb; (fail_if_success (with_reducible injection hb)); rw [hb]; (try simp only [List.length_map] at hb)))) | (with_reducible apply WA_seq) | ((with_reducible apply gR hmix hN); exact (by kernel_rfl); (try dsimp only [List.append_eq, List.cons_append, List.nil_append])) | ((with_reducible apply WD_end); (first | exact no_draw | (intro _; kernel_rfl)); try simp only [thn, inB, List.length_map, List.cons_append, List.nil_append]) | ((with_reducible apply gCt); exact rfl; exact rfl) | ((with_reducible apply gCf); exact rfl; exact rfl) | ((with_reducible apply gCk); exact rfl; exact known; intro hb; rw [hb]; clear hb) | ((with_reducible apply gCn); exact rfl; exact known; intro hb; rw [hb]; clear hb) | (((with_reducible apply gC2); exact rfl) <;> (intro hb; rw [hb])) | (with_reducible apply WA_block) | ((with_reducible first | apply WA_skip | apply WA_ret | apply WA_exit | apply WA_label); try simp only [thn, inB, List.length_map, List.cons_append, List.nil_append])))
    refine ⟨(a + 1, s), by dsimp only; omega, ⟨by dsimp only; omega, os⟩, ?_⟩
    (exact LeV [])
  have d1 : decide ((b : Int) < 3) = true := by simp only [decide_eq_true_eq]; omega
  (repeat' (first | ((with_reducible apply WD_id); first | (refine WD_sum ?_) | (refine WD_nxt htb (by exact rfl) ?_) | (refine WD_unk (by exact rfl) ?_; first | (refine WD_t (by exact rfl) (by exact rfl) (by exact known) fun hb => ?_; rw [hb]; clear hb) | (refine WD_f (by exact rfl) (by exact rfl) (by exact known) fun hb => ?_; rw [hb]; clear hb) | ((refine WD_tf (by exact rfl) (by exact rfl) ?_ ?_) <;> (intro hb; (fail_if_success (with_reducible injection hb)); rw [hb]; (try simp only [List.length_map] at hb)))) | (refine WD_idx htb ?_) | (refine WD_idxo htb ?_) | (refine WD_lde1 htb ?_) | (refine WD_lde htb ?_) | (refine WD_ste htb ?_) | (refine WD_ap htb ?_) | (refine WD_ap0 htb ?_) | (refine WD_nil htb ?_) | (refine WD_nilr htb ?_) | (refine WD_rem ?_) | (refine WD_quo ?_) | (refine WD_slc htb ?_) | (refine WD_ixa htb ?_) | (refine WD_ix1 htb ?_) | (refine WD_t (by exact rfl) (by exact rfl) (by exact known) fun hb => ?_; rw [hb]; clear hb) | (refine WD_f (by exact rfl) (by exact rfl) (by exact known) fun hb => ?_; rw [hb]; clear hb) | ((refine WD_tf (by exact rfl) (by exact rfl) ?_ ?_) <;> (intro hb; (fail_if_success (with_reducible injection hb)); rw [hb]; (try simp only [List.length_map] at hb)))) | (with_reducible apply WA_seq) | ((with_reducible apply gR hmix hN); exact (by kernel_rfl); (try dsimp only [List.append_eq, List.cons_append, List.nil_append])) | ((with_reducible apply WD_end); (first | exact no_draw | (intro _; kernel_rfl)); try simp only [thn, inB, List.length_map, List.cons_append, List.nil_append]) | ((with_reducible apply gCt); exact rfl; exact rfl) | ((with_reducible apply gCf); exact rfl; exact rfl) | ((with_reducible apply gCk); exact rfl; exact known; intro hb; rw [hb]; clear hb) | ((with_reducible apply gCn); exact rfl; exact known; intro hb; rw [hb]; clear hb) | (((with_reducible apply gC2); exact rfl) <;> (intro hb; rw [hb])) | (with_reducible apply WA_block) | ((with_reducible first | apply WA_skip | apply WA_ret | apply WA_exit | apply WA_label); try simp only [thn, inB, List.length_map, List.cons_append, List.nil_append])))
  refine WD_ix1 htb (n := b) (c := vI (nth [i0, j1, j2] b)) ?_ (hn := by rcases three_of hb with rfl | rfl | rfl <;> rfl) (hc := by rcases three_of hb with rfl | rfl | rfl <;> rfl)
  generalize nth [i0, j1, j2] b = i at *
  (repeat' (first | ((with_reducible apply WD_id); first | (refine WD_sum ?_) | (refine WD_nxt htb (by exact rfl) ?_) | (refine WD_unk (by exact rfl) ?_; first | (refine WD_t (by exact rfl) (by exact rfl) (by exact known) fun hb => ?_; rw [hb]; clear hb) | (refine WD_f (by exact rfl) (by exact rfl) (by exact known) fun hb => ?_; rw [hb]; clear hb) | ((refine WD_tf (by exact rfl) (by exact rfl) ?_ ?_) <;> (intro hb; (fail_if_success (with_reducible injection hb)); rw [hb]; (try simp only [List.length_map] at hb)))) | (refine WD_call (by exact rfl) ?_; first | (refine WD_cM (N_m _ _ ?_ ?_) ?_; (exact hypS); (exact hypS)) | (refine WD_cM (odd_m _ ?_) ?_; (exact hypS))) | (refine WD_idx htb ?_) | (refine WD_idxo htb ?_) | (refine WD_lde1 htb ?_) | (refine WD_lde htb ?_) | (refine WD_ste htb ?_) | (refine WD_ap htb ?_) | (refine WD_ap0 htb ?_) | (refine WD_nil htb ?_) | (refine WD_nilr htb ?_) | (refine WD_rem ?_) | (refine WD_quo ?_) | (refine WD_slc htb ?_) | (refine WD_ixa htb ?_) | (refine WD_ix1 htb ?_) | (refine WD_t (by exact rfl) (by exact rfl) (by exact known) fun hb => ?_; rw [hb]; clear hb) | (refine WD_f (by exact rfl) (by exact rfl) (by exact known) fun hb => ?_; rw [hb]; clear hb) | ((refine WD_tf (by exact rfl) (by exact rfl) ?_ ?_) <;> (intro hb; (fail_if_success (with_reducible injection hb)); rw [hb]; (try simp only [List.length_map] at hb)))) | (with_reducible apply WA_seq) | ((with_reducible apply gR hmix hN); exact (by kernel_rfl); (try dsimp only [List.append_eq, List.cons_append, List.nil_append])) | ((with_reducible apply WD_end); (first | exact no_draw | (intro _; kernel_rfl)); try simp only [thn, inB, List.length_map, List.cons_append, List.nil_append]) | ((with_reducible apply gCt); exact rfl; exact rfl) | ((with_reducible apply gCf); exact rfl; exact rfl) | ((with_reducible apply gCk); exact rfl; exact known; intro hb; rw [hb]; clear hb) | ((with_reducible apply gCn); exact rfl; exact known; intro hb; rw [hb]; clear hb) | (((with_reducible apply gC2); exact rfl) <;> (intro hb; rw [hb])) | (with_reducible apply WA_block) | ((with_reducible first | apply WA_skip | apply WA_ret | apply WA_exit | apply WA_label); try simp only [thn, inB, List.length_map, List.cons_append, List.nil_append])))
  obtain ⟨m1, hm1⟩ : ∃ m1, s.n 300 = m1 := ⟨_, rfl⟩
  obtain ⟨m2, hm2⟩ : ∃ m2, nth odds ((s.x 300).n 15).toNat = m2 := ⟨_, rfl⟩
  rw [hm1, hm2]
  have os2 : ((s.x 300).x 15).ok := Sc.ok_x (Sc.ok_x os _) 15
  generalize (s.x 300).x 15 = s2 at *
  clear hm1 hm2 d1 os
  refine WA_le (s' := ⟨[(80, vI 0), (79, .agg [vI n0, vI m1, vI m2]), (16, vI i), (71, vI b), (70, .agg [vI i0, vI j1, vI j2]), (14, lA X), (50, vI a), (49, .agg [lA A0, lA raw, lA A2]), (11, .ptr 9000 0), (2, vI i0), (3, vI n0), (4, vI k0)], [Sc.box s2]⟩) (LeV []) ?_
  (refine WA_anyV (α := Nat × Sc) (fun x => 3 - x.1) ((0, s2)) [80] [9000] (fun x => [(80, vI x.1)]) (fun x => [Sc.box x.2]) (fun x => x.1 ≤ 3 ∧ x.2.ok) ?h0 ?_)
  case h0 => exact ⟨Nat.zero_le _, os2⟩
  clear os2
  rintro ⟨c, s⟩ ⟨hc3, os⟩
  dsimp only at hc3 os
  by_cases hc : c < 3
  case neg =>
    obtain rfl : c = 3 := by omega
    have d1 : decide (((3 : Nat) : Int) < 3) = false := by decide
    (repeat' (first | ((with_reducible apply WD_id); first | (refine WD_sum ?_) | (refine WD_nxt htb (by exact rfl) ?_) | (refine WD_unk (by exact rfl) ?_; first | (refine WD_t (by exact rfl) (by exact rfl) (by exact known) fun hb => ?_; rw [hb]; clear hb) | (refine WD_f (by exact rfl) (by exact rfl) (by exact known) fun hb => ?_; rw [hb]; clear hb) | ((refine WD_tf (by exact rfl) (by exact rfl) ?_ ?_) <;> (intro hb; (fail_if_success (with_reducible injection hb)); rw [hb]; (try simp only [List.length_map] at hb)))) | (refine WD_idx htb ?_) | (refine WD_idxo htb ?_) | (refine WD_lde1 htb ?_) | (refine WD_lde htb ?_) | (refine WD_ste htb ?_) | (refine WD_ap htb ?_) | (refine WD_ap0 htb ?_) | (refine WD_nil htb ?_) | (refine WD_nilr htb ?_) | (refine WD_rem ?_) | (refine WD_quo ?_) | (refine WD_slc htb ?_) | (refine WD_ixa htb ?_) | (refine WD_ix1 htb ?_) | (refine WD_t (by exact rfl) (by exact rfl) (by exact known) fun hb => ?_; rw [hb]; clear hb) | (refine WD_f (by exact rfl) (by exact rfl) (by exact known) fun hb => ?_; rw [hb]; clear hb) | ((refine WD_tf (by exact rfl) (by exact rfl) ?_ ?_) <;> (intro hb; (fail_if_success (with_reducible injection hb)); rw [hb]; (try simp only [List.length_map] at hb)))) | (with_reducible apply WA_seq) | ((with_reducible apply gR hmix hN); exact (by kernel_rfl); (try dsimp only [List.append_eq, List.cons_append, List.nil_append])) | ((with_reducible apply WD_end); (first | exact no_draw | (intro _; kernel_rfl)); try simp only [thn, inB, List.length_map, List.cons_append, List.nil_append]) | ((with_reducible apply gCt); exact rfl; exact rfl) | ((with_reducible apply gCf); exact rfl; exact rfl) | ((with_reducible apply gCk); exact rfl; exact known; intro hb; rw [hb]; clear hb) | ((with_reducible apply gCn); exact rfl; exact known; intro hb; rw [hb]; clear hb) | (((with_reducible apply gC2); exact rfl) <;> (intro hb; rw [hb])) | (with_reducible apply WA_block) | ((with_reducible first | apply WA_skip | apply WA_ret | apply WA_exit | apply WA_label); try simp only [thn, inB, List.length_map, List.cons_append, List.nil_append])))
    refine ⟨(b + 1, s), by dsimp only; omega, ⟨by dsimp only; omega, os⟩, ?_⟩
    (exact LeV [])
  have d1 : decide ((c : Int) < 3) = true := by simp only [decide_eq_true_eq]; omega
  (repeat' (first | ((with_reducible apply WD_id); first | (refine WD_sum ?_) | (refine WD_nxt htb (by exact rfl) ?_) | (refine WD_unk (by exact rfl) ?_; first | (refine WD_t (by exact rfl) (by exact rfl) (by exact known) fun hb => ?_; rw [hb]; clear hb) | (refine WD_f (by exact rfl) (by exact rfl) (by exact known) fun hb => ?_; rw [hb]; clear hb) | ((refine WD_tf (by exact rfl) (by exact rfl) ?_ ?_) <;> (intro hb; (fail_if_success (with_reducible injection hb)); rw [hb]; (try simp only [List.length_map] at hb)))) | (refine WD_idx htb ?_) | (refine WD_idxo htb ?_) | (refine WD_lde1 htb ?_) | (refine WD_lde htb ?_) | (refine WD_ste htb ?_) | (refine WD_ap htb ?_) | (refine WD_ap0 htb ?_) | (refine WD_nil htb ?_) | (refine WD_nilr htb ?_) | (refine WD_rem ?_) | (refine WD_quo ?_) | (refine WD_slc htb ?_) | (refine WD_ixa htb ?_) | (refine WD_ix1 htb ?_) | (refine WD_t (by exact rfl) (by exact rfl) (by exact known) fun hb => ?_; rw [hb]; clear hb) | (refine WD_f (by exact rfl) (by exact rfl) (by exact known) fun hb => ?_; rw [hb]; clear hb) | ((refine WD_tf (by exact rfl) (by exact rfl) ?_ ?_) <;> (intro hb; (fail_if_success (with_reducible injection hb)); rw [hb]; (try simp only [List.length_map] at hb)))) | (with_reducible apply WA_seq) | ((with_reducible apply gR hmix hN); exact (by kernel_rfl); (try dsimp only [List.append_eq, List.cons_append, List.nil_append])) | ((with_reducible apply WD_end); (first | exact no_draw | (intro _; kernel_rfl)); try simp only [thn, inB, List.length_map, List.cons_append, List.nil_append]) | ((with_reducible apply gCt); exact rfl; exact rfl) | ((with_reducible apply gCf); exact rfl; exact rfl) | ((with_reducible apply gCk); exact rfl; exact known; intro hb; rw [hb]; clear hb) | ((with_reducible apply gCn); exact rfl; exact known; intro hb; rw [hb]; clear hb) | (((with_reducible apply gC2); exact rfl) <;> (intro hb; rw [hb])) | (with_reducible apply WA_block) | ((with_reducible first | apply WA_skip | apply WA_ret | apply WA_exit | apply WA_label); try simp only [thn, inB, List.length_map, List.cons_append, List.nil_append])))
  refine WD_ix1 htb (n := c) (c := vI (nth [n0, m1, m2] c)) ?_ (hn := by rcases three_of hc with rfl | rfl | rfl <;> rfl) (hc := by rcases three_of hc with rfl | rfl | rfl <;> rfl)
  generalize nth [n0, m1, m2] c = m at *
  rcases hF : findA X i with ⟨y, ok⟩
  rcases hC : createF X i m with ⟨u1, e1⟩
  rcases hG : giveF X i m with ⟨u2, e2⟩
  rcases hT : takeF X i m with ⟨u3, e3⟩
  have l1 := createF_len hC
  have l2 := giveF_len hG
  have l3 := takeF_len hT
  have x0 : (!eqAcc y y) = false := by rw [eqAcc_refl]; rfl
  have x1 : (ok != ok) = false := by simp
  have x2 : (!eqAccs u1 u1) = false := by rw [eqAccs_refl]; rfl
  have x3 : (e1 != e1) = false := by simp
  have x4 : (!eqAccs u2 u2) = false := by rw [eqAccs_refl]; rfl
  have x5 : (e2 != e2) = false := by simp
  have x6 : (!eqAccs u3 u3) = false := by rw [eqAccs_refl]; rfl
  have x7 : (e3 != e3) = false := by simp
  (repeat' (first | ((with_reducible apply WD_id); first | (refine WD_sum ?_) | (refine WD_nxt htb (by exact rfl) ?_) | (refine WD_unk (by exact rfl) ?_; first | (refine WD_t (by exact rfl) (by exact rfl) (by exact known) fun hb => ?_; rw [hb]; clear hb) | (refine WD_f (by exact rfl) (by exact rfl) (by exact known) fun hb => ?_; rw [hb]; clear hb) | ((refine WD_tf (by exact rfl) (by exact rfl) ?_ ?_) <;> (intro hb; (fail_if_success (with_reducible injection hb)); rw [hb]; (try simp only [List.length_map] at hb)))) | (refine WD_call (by exact rfl) ?_; first | (refine WD_e0 (fun h => findX_pe _ _ _ _ ?_ h) ?_; (exact hypS)) | (refine WD_e0 (fun h => findX_re _ _ _ _ ?_ h) ?_; (exact hypS)) | (refine WD_e0 (fun h => createX_pe _ _ _ _ _ ?_ h) ?_; (exact hypS)) | (refine WD_e0 (fun h => createX_re _ _ _ _ _ ?_ h) ?_; (exact hypS)) | (refine WD_e0 (fun h => givX_pe _ _ _ _ _ ?_ h) ?_; (exact hypS)) | (refine WD_e0 (fun h => giveE_rm _ _ _ _ _ ?_ h) ?_; (exact hypS)) | (refine WD_e0 (fun h => takX_pe _ _ _ _ _ ?_ h) ?_; (exact hypS)) | (refine WD_e0 (fun h => takeE_rm _ _ _ _ _ ?_ h) ?_; (exact hypS)) | (refine WD_c0 (sameA_rm _ _ ?_) ?_; (exact hypS)) | (refine WD_cM (Range_m _ _ _ ?_ ?_ ?_ ?_) ?_; (exact hypS); (exact hypS); (exact hypS); (exact hypS))) | (refine WD_eq (neA_step rfl rfl rfl) ?_) | (refine WD_eq (neB_step rfl rfl rfl) ?_) | (refine WD_idx htb ?_) | (refine WD_idxo htb ?_) | (refine WD_lde1 htb ?_) | (refine WD_lde htb ?_) | (refine WD_ste htb ?_) | (refine WD_ap htb ?_) | (refine WD_ap0 htb ?_) | (refine WD_nil htb ?_) | (refine WD_nilr htb ?_) | (refine WD_rem ?_) | (refine WD_quo ?_) | (refine WD_slc htb ?_) | (refine WD_ixa htb ?_) | (refine WD_ix1 htb ?_) | (refine WD_t (by exact rfl) (by exact rfl) (by exact known) fun hb => ?_; rw [hb]; clear hb) | (refine WD_f (by exact rfl) (by exact rfl) (by exact known) fun hb => ?_; rw [hb]; clear hb) | ((refine WD_tf (by exact rfl) (by exact rfl) ?_ ?_) <;> (intro hb; (fail_if_success (with_reducible injection hb)); rw [hb]; (try simp only [List.length_map] at hb)))) | (with_reducible apply WA_seq) | ((with_reducible apply gR hmix hN); exact (by kernel_rfl); (try dsimp only [List.append_eq, List.cons_append, List.nil_append])) | ((with_reducible apply WD_end); (first | exact no_draw | (intro _; kernel_rfl)); try simp only [thn, inB, List.length_map, List.cons_append, List.nil_append]) | ((with_reducible apply gCt); exact rfl; exact rfl) | ((with_reducible apply gCf); exact rfl; exact rfl) | ((with_reducible apply gCk); exact rfl; exact known; intro hb; rw [hb]; clear hb) | ((with_reducible apply gCn); exact rfl; exact known; intro hb; rw [hb]; clear hb) | (((with_reducible apply gC2); exact rfl) <;> (intro hb; rw [hb])) | (with_reducible apply WA_block) | ((with_reducible first | apply WA_skip | apply WA_ret | apply WA_exit | apply WA_label); try simp only [thn, inB, List.length_map, List.cons_append, List.nil_append])))
  obtain ⟨q1, hq1⟩ : ∃ q1, 0 + s.n (4 - 0 + 1) = q1 := ⟨_, rfl⟩
  obtain ⟨q2, hq2⟩ : ∃ q2, IntKind.i64.wrap (y.seq + 1) = q2 := ⟨_, rfl⟩
  rw [hq1, hq2]
  have os2 : (s.x (4 - 0 + 1)).ok := Sc.ok_x os _
  generalize s.x (4 - 0 + 1) = s3 at *
  clear hq1 hq2 d1 os x0 x1 x2 x3 x4 x5 x6 x7 hF hC hG hT l1 l2 l3
  refine WA_le (s' := ⟨[(181, vI 0), (180, .agg [vI k0, vI q1, vI q2]), (18, vI m), (80, vI c), (79, .agg [vI n0, vI m1, vI m2]), (16, vI i), (71, vI b), (70, .agg [vI i0, vI j1, vI j2]), (14, lA X), (50, vI a), (49, .agg [lA A0, lA raw, lA A2]), (11, .ptr 9000 0), (2, vI i0), (3, vI n0), (4, vI k0)], [Sc.box s3]⟩) (LeV []) ?_
  (refine WA_forV (3) [181] [] (fun k => [(181, vI k)]) (fun k => []) (fun k => True) ?h0 ?_)
  case h0 => trivial
  intro d hd3 _
  by_cases hd : d < 3
  case neg =>
    obtain rfl : d = 3 := by omega
    have d1 : decide (((3 : Nat) : Int) < 3) = false := by decide
    (repeat' (first | ((with_reducible apply WD_id); first | (refine WD_sum ?_) | (refine WD_nxt htb (by exact rfl) ?_) | (refine WD_unk (by exact rfl) ?_; first | (refine WD_t (by exact rfl) (by exact rfl) (by exact known) fun hb => ?_; rw [hb]; clear hb) | (refine WD_f (by exact rfl) (by exact rfl) (by exact known) fun hb => ?_; rw [hb]; clear hb) | ((refine WD_tf (by exact rfl) (by exact rfl) ?_ ?_) <;> (intro hb; (fail_if_success (with_reducible injection hb)); rw [hb]; (try simp only [List.length_map] at hb)))) | (refine WD_idx htb ?_) | (refine WD_idxo htb ?_) | (refine WD_lde1 htb ?_) | (refine WD_lde htb ?_) | (refine WD_ste htb ?_) | (refine WD_ap htb ?_) | (refine WD_ap0 htb ?_) | (refine WD_nil htb ?_) | (refine WD_nilr htb ?_) | (refine WD_rem ?_) | (refine WD_quo ?_) | (refine WD_slc htb ?_) | (refine WD_ixa htb ?_) | (refine WD_ix1 htb ?_) | (refine WD_t (by exact rfl) (by exact rfl) (by exact known) fun hb => ?_; rw [hb]; clear hb) | (refine WD_f (by exact rfl) (by exact rfl) (by exact known) fun hb => ?_; rw [hb]; clear hb) | ((refine WD_tf (by exact rfl) (by exact rfl) ?_ ?_) <;> (intro hb; (fail_if_success (with_reducible injection hb)); rw [hb]; (try simp only [List.length_map] at hb)))) | (with_reducible apply WA_seq) | ((with_reducible apply gR hmix hN); exact (by kernel_rfl); (try dsimp only [List.append_eq, List.cons_append, List.nil_append])) | ((with_reducible apply WD_end); (first | exact no_draw | (intro _; kernel_rfl)); try simp only [thn, inB, List.length_map, List.cons_append, List.nil_append]) | ((with_reducible apply gCt); exact rfl; exact rfl) | ((with_reducible apply gCf); exact rfl; exact rfl) | ((with_reducible apply gCk); exact rfl; exact known; intro hb; rw [hb]; clear hb) | ((with_reducible apply gCn); exact rfl; exact known; intro hb; rw [hb]; clear hb) | (((with_reducible apply gC2); exact rfl) <;> (intro hb; rw [hb])) | (with_reducible apply WA_block) | ((with_reducible first | apply WA_skip | apply WA_ret | apply WA_exit | apply WA_label); try simp only [thn, inB, List.length_map, List.cons_append, List.nil_append])))
    refine ⟨(c + 1, s3), by dsimp only; omega, ⟨by dsimp only; omega, os2⟩, ?_⟩
    (exact LeV [])
  have d1 : decide ((d : Int) < 3) = true := by simp only [decide_eq_true_eq]; omega
  (repeat' (first | ((with_reducible apply WD_id); first | (refine WD_sum ?_) | (refine WD_nxt htb (by exact rfl) ?_) | (refine WD_unk (by exact rfl) ?_; first | (refine WD_t (by exact rfl) (by exact rfl) (by exact known) fun hb => ?_; rw [hb]; clear hb) | (refine WD_f (by exact rfl) (by exact rfl) (by exact known) fun hb => ?_; rw [hb]; clear hb) | ((refine WD_tf (by exact rfl) (by exact rfl) ?_ ?_) <;> (intro hb; (fail_if_success (with_reducible injection hb)); rw [hb]; (try simp only [List.length_map] at hb)))) | (refine WD_idx htb ?_) | (refine WD_idxo htb ?_) | (refine WD_lde1 htb ?_) | (refine WD_lde htb ?_) | (refine WD_ste htb ?_) | (refine WD_ap htb ?_) | (refine WD_ap0 htb ?_) | (refine WD_nil htb ?_) | (refine WD_nilr htb ?_) | (refine WD_rem ?_) | (refine WD_quo ?_) | (refine WD_slc htb ?_) | (refine WD_ixa htb ?_) | (refine WD_ix1 htb ?_) | (refine WD_t (by exact rfl) (by exact rfl) (by exact known) fun hb => ?_; rw [hb]; clear hb) | (refine WD_f (by exact rfl) (by exact rfl) (by exact known) fun hb => ?_; rw [hb]; clear hb) | ((refine WD_tf (by exact rfl) (by exact rfl) ?_ ?_) <;> (intro hb; (fail_if_success (with_reducible injection hb)); rw [hb]; (try simp only [List.length_map] at hb)))) | (with_reducible apply WA_seq) | ((with_reducible apply gR hmix hN); exact (by kernel_rfl); (try dsimp only [List.append_eq, List.cons_append, List.nil_append])) | ((with_reducible apply WD_end); (first | exact no_draw | (intro _; kernel_rfl)); try simp only [thn, inB, List.length_map, List.cons_append, List.nil_append]) | ((with_reducible apply gCt); exact rfl; exact rfl) | ((with_reducible apply gCf); exact rfl; exact rfl) | ((with_reducible apply gCk); exact rfl; exact known; intro hb; rw [hb]; clear hb) | ((with_reducible apply gCn); exact rfl; exact known; intro hb; rw [hb]; clear hb) | (((with_reducible apply gC2); exact rfl) <;> (intro hb; rw [hb])) | (with_reducible apply WA_block) | ((with_reducible first | apply WA_skip | apply WA_ret | apply WA_exit | apply WA_label); try simp only [thn, inB, List.length_map, List.cons_append, List.nil_append])))
  refine WD_ix1 htb (n := d) (c := vI (nth [k0, q1, q2] d)) ?_ (hn := by rcases three_of hd with rfl | rfl | rfl <;> rfl) (hc := by rcases three_of hd with rfl | rfl | rfl <;> rfl)
  generalize nth [k0, q1, q2] d = q at *
  rcases hB : beginF X i q m with ⟨u4, e4⟩
  have l4 := beginF_len hB
  have x8 : (!eqAccs u4 u4) = false := by rw [eqAccs_refl]; rfl
  have x9 : (e4 != e4) = false := by simp
  (repeat' (first | ((with_reducible apply WD_id); first | (refine WD_sum ?_) | (refine WD_nxt htb (by exact rfl) ?_) | (refine WD_unk (by exact rfl) ?_; first | (refine WD_t (by exact rfl) (by exact rfl) (by exact known) fun hb => ?_; rw [hb]; clear hb) | (refine WD_f (by exact rfl) (by exact rfl) (by exact known) fun hb => ?_; rw [hb]; clear hb) | ((refine WD_tf (by exact rfl) (by exact rfl) ?_ ?_) <;> (intro hb; (fail_if_success (with_reducible injection hb)); rw [hb]; (try simp only [List.length_map] at hb)))) | (refine WD_call (by exact rfl) ?_; first | (refine WD_e0 (fun h => begX_pe _ _ _ _ _ _ ?_ h) ?_; (exact hypS)) | (refine WD_e0 (fun h => begX_re _ _ _ _ _ _ ?_ h) ?_; (exact hypS)) | (refine WD_c0 (sameA_rm _ _ ?_) ?_; (exact hypS))) | (refine WD_idx htb ?_) | (refine WD_idxo htb ?_) | (refine WD_lde1 htb ?_) | (refine WD_lde htb ?_) | (refine WD_ste htb ?_) | (refine WD_ap htb ?_) | (refine WD_ap0 htb ?_) | (refine WD_nil htb ?_) | (refine WD_nilr htb ?_) | (refine WD_rem ?_) | (refine WD_quo ?_) | (refine WD_slc htb ?_) | (refine WD_ixa htb ?_) | (refine WD_ix1 htb ?_) | (refine WD_t (by exact rfl) (by exact rfl) (by exact known) fun hb => ?_; rw [hb]; clear hb) | (refine WD_f (by exact rfl) (by exact rfl) (by exact known) fun hb => ?_; rw [hb]; clear hb) | ((refine WD_tf (by exact rfl) (by exact rfl) ?_ ?_) <;> (intro hb; (fail_if_success (with_reducible injection hb)); rw [hb]; (try simp only [List.length_map] at hb)))) | (with_reducible apply WA_seq) | ((with_reducible apply gR hmix hN); exact (by kernel_rfl); (try dsimp only [List.append_eq, List.cons_append, List.nil_append])) | ((with_reducible apply WD_end); (first | exact no_draw | (intro _; kernel_rfl)); try simp only [thn, inB, List.length_map, List.cons_append, List.nil_append]) | ((with_reducible apply gCt); exact rfl; exact rfl) | ((with_reducible apply gCf); exact rfl; exact rfl) | ((with_reducible apply gCk); exact rfl; exact known; intro hb; rw [hb]; clear hb) | ((with_reducible apply gCn); exact rfl; exact known; intro hb; rw [hb]; clear hb) | (((with_reducible apply gC2); exact rfl) <;> (intro hb; rw [hb])) | (with_reducible apply WA_block) | ((with_reducible first | apply WA_skip | apply WA_ret | apply WA_exit | apply WA_label); try simp only [thn, inB, List.length_map, List.cons_append, List.nil_append])))
  refine ⟨hd, trivial, ?_⟩
  (exact LeV [])
theorem law_AccountsExact (a0 : Option Addr) (len0 cap0 : Nat) (z0 : List Int) (l1 : List Acc) (v1 : Value) (a2 a3 a4 : Int) (w : World) (w0 : IsRowA .i64 w a0 len0 cap0 z0) (w1 : VR (fun _ => False) (fun _ => none) w (lA l1) v1) (w2 : (Lit.int .i64 a2).wf = true) (w3 : (Lit.int .i64 a3).wf = true) (w4 : (Lit.int .i64 a4).wf = true) :
    Calls Try.prog 8 #[.slice a0 len0 cap0, v1, .int .i64 a2, .int .i64 a3, .int .i64 a4] w fun e w' => e = .returned (.bool true) ∧ Ex w w' :=
  FnM.law (acc36_m (z0.take len0) l1 a2 a3 a4) (VRs.cons (row_VR w0) (VRs.cons w1 (VRs.cons (.d (.v _)) (VRs.cons (.d (.v _)) (VRs.cons (.d (.v _)) VRs.nil)))))
end Go.Proofs.Yteppnjgobaggaaa
