/- Contracts on networks: the delay, the example; operations of the statements. -/
import Derived.Test.YtahjhnijmmnkeaaNtI
namespace Go.Proofs.Ytahjhnijmmnkeaa
set_option linter.unusedSimpArgs false
set_option linter.unusedVariables false
set_option linter.unnecessarySimpa false
set_option linter.unusedSectionVars false
set_option maxRecDepth 100000
open Go Go.RowKit Go.Am Go.Proofs.Grow

section
variable {o : Oper} {t t' : TypeId} {x y : Operand} {T : Nat → Option AV} {M : Nat → Option AO}
theorem neBn_step {a b : Bool} (ho : o.op = .binOp .neq 4 x y t') (hx : evA T x = some (vB a)) (hy : evA T y = some (vB b)) : StepOK Try.prog o T M ⟨vB (a != b), [], []⟩ :=
  step_read [] fun cx μ T' M' ac w h hT _ => by
    have h1 := (h.ev (x := x) hT (by simp [ho, Op.operands]) hx).val
    have h2 := (h.ev (x := y) hT (by simp [ho, Op.operands]) hy).val
    refine ⟨.bool (a != b), ?_, .d (.v _)⟩
    simp only [execOp, ho, h1, h2]
    cases a <;> cases b <;> simp [eqGuard, go_sem]
theorem eqBn_step {a b : Bool} (ho : o.op = .binOp .eql 4 x y t') (hx : evA T x = some (vB a)) (hy : evA T y = some (vB b)) : StepOK Try.prog o T M ⟨vB (a == b), [], []⟩ :=
  step_read [] fun cx μ T' M' ac w h hT _ => by
    have h1 := (h.ev (x := x) hT (by simp [ho, Op.operands]) hx).val
    have h2 := (h.ev (x := y) hT (by simp [ho, Op.operands]) hy).val
    refine ⟨.bool (a == b), ?_, .d (.v _)⟩
    simp only [execOp, ho, h1, h2]
    cases a <;> cases b <;> simp [eqGuard, go_sem]
theorem shrV_step {l q : Int} (ho : o.op = .binOp .shr t x y t') (hx : evA T x = some (vI l)) (hy : evA T y = some (.d (.v (.int .u64 q)))) (h0 : 0 ≤ q := by exact num) : StepOK Try.prog o T M ⟨vI (l.fdiv (2 ^ (min q.toNat 64))), [], []⟩ :=
  step_read [] fun cx μ T' M' ac w h hT _ => by
    have h1 := (h.ev (x := x) hT (by simp [ho, Op.operands]) hx).val
    have h2 := (h.ev (x := y) hT (by simp [ho, Op.operands]) hy).val
    refine ⟨.int .i64 (l.fdiv (2 ^ (min q.toNat 64))), ?_, .d (.v _)⟩
    have h3 : ¬ q < 0 := by omega
    simp only [execOp, ho, h1, h2]
    simp [eqGuard, binOp, Op.shift, IntKind.bits, h3]
end
theorem apart_pe (n : Net) (a b : Int) (r : Bool) (hp : n.parts.length ≤ 1000) (he : apartB n a b = r) : FnM Try.prog 9 [] [aN n, vI a, vI b] (vB r) [] := he ▸ apart_m n a b hp
section
variable {P : Program} {tbl : List (Nat × TI)} {ops r : List Oper} {o : Oper} {fin : List (List Nat × List Nat) → List (Nat × AV) → List (Nat × AO) → Prop} {acc : List (List Nat × List Nat)} {T : List (Nat × AV)} {M : List (Nat × AO)}
theorem WD_mks (htb : TOK P tbl) {d : Tmp} {ty e : TypeId} {x y : Operand} {i j : TI} {kl kc : IntKind} {n : Nat} {z0 : Value} (k : WD P ops fin r (([d], [d]) :: acc) ((d, .own d) :: T) ((d, .arr e 1 (List.replicate n [.v z0])) :: M)) (ho : o.op = .makeSlice ty x y := by exact rfl) (hgu : gd ops T o = some true := by exact rfl) (hd : o.dst = some d := by exact rfl)
    (ht : lk tbl ty = some i := by exact rfl) (hs : i.isS = true := by exact rfl) (he : i.el = some e := by exact rfl) (hj : lk tbl e = some j := by exact rfl) (hsz : j.size = 1 := by exact rfl) (hz : j.zero = [z0] := by exact rfl) (h1 : z0.oneCell' = true := by exact rfl)
    (hx : evA (lk T) x = some (.d (.v (.int kl (n : Int)))) := by exact rfl) (hy : evA (lk T) y = some (.d (.v (.int kc (n : Int)))) := by exact rfl) (hb : j.bytes * n ≤ 281474976710656 := by decide) (hn : n ≤ 16777216 := by decide) (hg : lk M d = none := by exact rfl) : WD P ops fin (o :: r) acc T M :=
  WD_do hgu hd (step_mks htb d ho ht hs he hj hsz hz h1 hx hy hb hn hg) k
end
theorem right0 : RightN net0 := chkN_iff.1 (by decide +kernel)
abbrev netD (d : Int) : Net := ⟨[], 0, [], (List.replicate 100 0).set 1 d⟩
set_option maxHeartbeats 2000000 in
theorem delayN_m (d : Int) (d0 : 1 ≤ d) (d1 : d ≤ 8) : FnM Try.prog 16 [] [aN net0, vI 0, vI 1, vI d] (.tup [aN (netD d), vI 0]) [] := by
  refine FnM.of htb Try.func16 rfl rfl rfl rfl rfl fun cx hN h0 => ?_
  have t0 : (!true) = false := rfl
  have t1 : (!nodeB 0) = false := by decide +kernel
  have t2 : (!nodeB 1) = false := by decide +kernel
  have t3 : decide (d < 0) = false := by simp only [decide_eq_false_iff_not]; omega
  have t4 : decide (d > 20) = false := by simp only [decide_eq_false_iff_not]; omega
  have t5 : ((net0.dels.length : Int) == 0) = true := rfl
  have hr := right0
  have l1 : net0.pars.length ≤ 4000 := Nat.zero_le _
  have l2 : net0.parts.length ≤ 1000 := Nat.zero_le _
  have l3 : net0.dels.length ≤ 1000 := Nat.zero_le _
  (repeat' (first | ((with_reducible apply WD_id); first | (refine WD_sum ?_) | (refine WD_nxt htb (by exact rfl) ?_) | (refine WD_unk (by exact rfl) ?_; first | (refine WD_t (by exact rfl) (by exact rfl) (by exact known) fun hb => ?_; rw [hb]; clear hb) | (refine WD_f (by exact rfl) (by exact rfl) (by exact known) fun hb => ?_; rw [hb]; clear hb) | ((refine WD_tf (by exact rfl) (by exact rfl) ?_ ?_) <;> (intro hb; (fail_if_success (with_reducible injection hb)); rw [hb]; (try simp only [List.length_map] at hb)))) | (refine WD_call (by exact rfl) ?_; first | (refine WD_c0 (chk_m (n := net0) ?_) ?_; (exact hyp)) | (refine WD_c0 (node_m _) ?_) | (refine WD_c0 (netR_m (n := net0) ?_ ?_ ?_) ?_; (exact hyp); (exact hyp); (exact hyp))) | (refine WD_idx htb ?_) | (refine WD_idxo htb ?_) | (refine WD_lde1 htb ?_) | (refine WD_lde htb ?_) | (refine WD_ste htb ?_) | (refine WD_ap htb ?_) | (refine WD_ap0 htb ?_) | (refine WD_nil htb ?_) | (refine WD_nilr htb ?_) | (refine WD_rem ?_) | (refine WD_quo ?_) | (refine WD_slc htb ?_) | (refine WD_ixa htb ?_) | (refine WD_ix1 htb ?_) | (refine WD_cut htb ?_) | (refine WD_cut3 htb ?_) | (refine WD_lens htb ?_) | (refine WD_caps htb ?_) | (refine WD_cps htb ?_) | (refine WD_cpp htb ?_) | (refine WD_api htb ?_) | (refine WD_apz htb ?_) | (refine WD_clr htb ?_) | (refine WD_t (by exact rfl) (by exact rfl) (by exact known) fun hb => ?_; rw [hb]; clear hb) | (refine WD_f (by exact rfl) (by exact rfl) (by exact known) fun hb => ?_; rw [hb]; clear hb) | ((refine WD_tf (by exact rfl) (by exact rfl) ?_ ?_) <;> (intro hb; (fail_if_success (with_reducible injection hb)); rw [hb]; (try simp only [List.length_map] at hb)))) | (with_reducible apply WA_seq) | ((with_reducible apply gR hmix hN); exact (by kernel_rfl); (try dsimp only [List.append_eq, List.cons_append, List.nil_append])) | ((with_reducible apply WD_end); (first | exact no_draw | (intro _; kernel_rfl)); try simp only [thn, inB, List.length_map, List.cons_append, List.nil_append]) | ((with_reducible apply gCt); exact rfl; exact rfl) | ((with_reducible apply gCf); exact rfl; exact rfl) | ((with_reducible apply gCk); exact rfl; exact known; intro hb; rw [hb]; clear hb) | ((with_reducible apply gCn); exact rfl; exact known; intro hb; rw [hb]; clear hb) | (((with_reducible apply gC2); exact rfl) <;> (intro hb; rw [hb])) | (with_reducible apply WA_block) | ((with_reducible first | apply WA_skip | apply WA_ret | apply WA_exit | apply WA_label); try simp only [thn, inB, List.length_map, List.cons_append, List.nil_append])))
  refine WD_mks htb (n := 100) ?_
  (repeat' (first | ((with_reducible apply WD_id); first | (refine WD_sum ?_) | (refine WD_nxt htb (by exact rfl) ?_) | (refine WD_unk (by exact rfl) ?_; first | (refine WD_t (by exact rfl) (by exact rfl) (by exact known) fun hb => ?_; rw [hb]; clear hb) | (refine WD_f (by exact rfl) (by exact rfl) (by exact known) fun hb => ?_; rw [hb]; clear hb) | ((refine WD_tf (by exact rfl) (by exact rfl) ?_ ?_) <;> (intro hb; (fail_if_success (with_reducible injection hb)); rw [hb]; (try simp only [List.length_map] at hb)))) | (refine WD_idx htb ?_) | (refine WD_idxo htb ?_) | (refine WD_lde1 htb ?_) | (refine WD_lde htb ?_) | (refine WD_ste htb ?_) | (refine WD_ap htb ?_) | (refine WD_ap0 htb ?_) | (refine WD_nil htb ?_) | (refine WD_nilr htb ?_) | (refine WD_rem ?_) | (refine WD_quo ?_) | (refine WD_slc htb ?_) | (refine WD_ixa htb ?_) | (refine WD_ix1 htb ?_) | (refine WD_cut htb ?_) | (refine WD_cut3 htb ?_) | (refine WD_lens htb ?_) | (refine WD_caps htb ?_) | (refine WD_cps htb ?_) | (refine WD_cpp htb ?_) | (refine WD_api htb ?_) | (refine WD_apz htb ?_) | (refine WD_clr htb ?_) | (refine WD_t (by exact rfl) (by exact rfl) (by exact known) fun hb => ?_; rw [hb]; clear hb) | (refine WD_f (by exact rfl) (by exact rfl) (by exact known) fun hb => ?_; rw [hb]; clear hb) | ((refine WD_tf (by exact rfl) (by exact rfl) ?_ ?_) <;> (intro hb; (fail_if_success (with_reducible injection hb)); rw [hb]; (try simp only [List.length_map] at hb)))) | (with_reducible apply WA_seq) | ((with_reducible apply gR hmix hN); exact (by kernel_rfl); (try dsimp only [List.append_eq, List.cons_append, List.nil_append])) | ((with_reducible apply WD_end); (first | exact no_draw | (intro _; kernel_rfl)); try simp only [thn, inB, List.length_map, List.cons_append, List.nil_append]) | ((with_reducible apply gCt); exact rfl; exact rfl) | ((with_reducible apply gCf); exact rfl; exact rfl) | ((with_reducible apply gCk); exact rfl; exact known; intro hb; rw [hb]; clear hb) | ((with_reducible apply gCn); exact rfl; exact known; intro hb; rw [hb]; clear hb) | (((with_reducible apply gC2); exact rfl) <;> (intro hb; rw [hb])) | (with_reducible apply WA_block) | ((with_reducible first | apply WA_skip | apply WA_ret | apply WA_exit | apply WA_label); try simp only [thn, inB, List.length_map, List.cons_append, List.nil_append])))
  refine WD_ste htb ?_ (hr := rfl)
  have hrow : (List.replicate 100 [dI 0]).set 1 [dI d] = ((List.replicate 100 (0 : Int)).set 1 d).map rI := by rw [List.map_set, List.map_replicate]; rfl
  (repeat' (first | ((with_reducible apply WD_id); first | (refine WD_sum ?_) | (refine WD_nxt htb (by exact rfl) ?_) | (refine WD_unk (by exact rfl) ?_; first | (refine WD_t (by exact rfl) (by exact rfl) (by exact known) fun hb => ?_; rw [hb]; clear hb) | (refine WD_f (by exact rfl) (by exact rfl) (by exact known) fun hb => ?_; rw [hb]; clear hb) | ((refine WD_tf (by exact rfl) (by exact rfl) ?_ ?_) <;> (intro hb; (fail_if_success (with_reducible injection hb)); rw [hb]; (try simp only [List.length_map] at hb)))) | (refine WD_idx htb ?_) | (refine WD_idxo htb ?_) | (refine WD_lde1 htb ?_) | (refine WD_lde htb ?_) | (refine WD_ste htb ?_) | (refine WD_ap htb ?_) | (refine WD_ap0 htb ?_) | (refine WD_nil htb ?_) | (refine WD_nilr htb ?_) | (refine WD_rem ?_) | (refine WD_quo ?_) | (refine WD_slc htb ?_) | (refine WD_ixa htb ?_) | (refine WD_ix1 htb ?_) | (refine WD_cut htb ?_) | (refine WD_cut3 htb ?_) | (refine WD_lens htb ?_) | (refine WD_caps htb ?_) | (refine WD_cps htb ?_) | (refine WD_cpp htb ?_) | (refine WD_api htb ?_) | (refine WD_apz htb ?_) | (refine WD_clr htb ?_) | (refine WD_t (by exact rfl) (by exact rfl) (by exact known) fun hb => ?_; rw [hb]; clear hb) | (refine WD_f (by exact rfl) (by exact rfl) (by exact known) fun hb => ?_; rw [hb]; clear hb) | ((refine WD_tf (by exact rfl) (by exact rfl) ?_ ?_) <;> (intro hb; (fail_if_success (with_reducible injection hb)); rw [hb]; (try simp only [List.length_map] at hb)))) | (with_reducible apply WA_seq) | ((with_reducible apply gR hmix hN); exact (by kernel_rfl); (try dsimp only [List.append_eq, List.cons_append, List.nil_append])) | ((with_reducible apply WD_end); (first | exact no_draw | (intro _; kernel_rfl)); try simp only [thn, inB, List.length_map, List.cons_append, List.nil_append]) | ((with_reducible apply gCt); exact rfl; exact rfl) | ((with_reducible apply gCf); exact rfl; exact rfl) | ((with_reducible apply gCk); exact rfl; exact known; intro hb; rw [hb]; clear hb) | ((with_reducible apply gCn); exact rfl; exact known; intro hb; rw [hb]; clear hb) | (((with_reducible apply gC2); exact rfl) <;> (intro hb; rw [hb])) | (with_reducible apply WA_block) | ((with_reducible first | apply WA_skip | apply WA_ret | apply WA_exit | apply WA_label); try simp only [thn, inB, List.length_map, List.cons_append, List.nil_append])))
  (exact glV [(8, .ptr 8 0), (9, vI 0)] [(8, .box 28 (cellsOf (aN (netD d))))] (LeV []))
abbrev net34 : Net := ⟨[], 0, [3, 4], []⟩
theorem ex31 : partsB [3, 4] = true ∧ apartB net34 0 2 = true ∧ apartB net34 0 1 = false ∧ apartB net34 0 3 = false ∧ chkN net34 = true := by decide +kernel
set_option maxHeartbeats 2000000 in
theorem sane31_m : FnM Try.prog 10 [] [] (vB true) [] := by
  refine FnM.of htb Try.func10 rfl rfl rfl rfl rfl fun cx hN h0 => ?_
  obtain ⟨p0, e1, e2, e3, hc⟩ := ex31
  have hr := right0
  have hr4 := chkN_iff.1 hc
  have hp : partF net0 [3, 4] = (net34, 0) := by
    unfold partF
    rw [if_neg (by simp [chkN_iff.2 right0]), if_neg (by simp [p0])]; rfl
  have t0 : ((0 : Int) == 0) = true := rfl
  have t1 : (!false) = true := rfl
  have l1 : net0.pars.length ≤ 4000 := Nat.zero_le _
  have l2 : net0.parts.length ≤ 1000 := Nat.zero_le _
  have l3 : net0.dels.length ≤ 1000 := Nat.zero_le _
  have l4 : ([3, 4] : List Int).length ≤ 1000 := by decide
  have l5 : net34.parts.length ≤ 1000 := by decide
  (repeat' (first | ((with_reducible apply WD_id); first | (refine WD_sum ?_) | (refine WD_nxt htb (by exact rfl) ?_) | (refine WD_unk (by exact rfl) ?_; first | (refine WD_t (by exact rfl) (by exact rfl) (by exact known) fun hb => ?_; rw [hb]; clear hb) | (refine WD_f (by exact rfl) (by exact rfl) (by exact known) fun hb => ?_; rw [hb]; clear hb) | ((refine WD_tf (by exact rfl) (by exact rfl) ?_ ?_) <;> (intro hb; (fail_if_success (with_reducible injection hb)); rw [hb]; (try simp only [List.length_map] at hb)))) | (refine WD_call (by exact rfl) ?_; first | (refine WD_e0 (fun h => part_pe (n := net0) (l := [3, 4]) (m := net34) (e := 0) ?_ ?_ ?_ ?_ ?_ h) ?_; (exact hyp); (exact hyp); (exact hyp); (exact hyp); (exact hyp)) | (refine WD_e0 (fun h => apart_pe (n := net34) (a := 0) (b := 2) (r := true) ?_ h) ?_; (exact hyp)) | (refine WD_e0 (fun h => apart_pe (n := net34) (a := 0) (b := 1) (r := false) ?_ h) ?_; (exact hyp)) | (refine WD_e0 (fun h => apart_pe (n := net34) (a := 0) (b := 3) (r := false) ?_ h) ?_; (exact hyp)) | (refine WD_c0 (chk_m (n := net34) ?_) ?_; (exact hyp))) | (refine WD_idx htb ?_) | (refine WD_idxo htb ?_) | (refine WD_lde1 htb ?_) | (refine WD_lde htb ?_) | (refine WD_ste htb ?_) | (refine WD_ap htb ?_) | (refine WD_ap0 htb ?_) | (refine WD_nil htb ?_) | (refine WD_nilr htb ?_) | (refine WD_rem ?_) | (refine WD_quo ?_) | (refine WD_slc htb ?_) | (refine WD_ixa htb ?_) | (refine WD_ix1 htb ?_) | (refine WD_cut htb ?_) | (refine WD_cut3 htb ?_) | (refine WD_lens htb ?_) | (refine WD_caps htb ?_) | (refine WD_cps htb ?_) | (refine WD_cpp htb ?_) | (refine WD_api htb ?_) | (refine WD_apz htb ?_) | (refine WD_clr htb ?_) | (refine WD_t (by exact rfl) (by exact rfl) (by exact known) fun hb => ?_; rw [hb]; clear hb) | (refine WD_f (by exact rfl) (by exact rfl) (by exact known) fun hb => ?_; rw [hb]; clear hb) | ((refine WD_tf (by exact rfl) (by exact rfl) ?_ ?_) <;> (intro hb; (fail_if_success (with_reducible injection hb)); rw [hb]; (try simp only [List.length_map] at hb)))) | (with_reducible apply WA_seq) | ((with_reducible apply gR hmix hN); exact (by kernel_rfl); (try dsimp only [List.append_eq, List.cons_append, List.nil_append])) | ((with_reducible apply WD_end); (first | exact no_draw | (intro _; kernel_rfl)); try simp only [thn, inB, List.length_map, List.cons_append, List.nil_append]) | ((with_reducible apply gCt); exact rfl; exact rfl) | ((with_reducible apply gCf); exact rfl; exact rfl) | ((with_reducible apply gCk); exact rfl; exact known; intro hb; rw [hb]; clear hb) | ((with_reducible apply gCn); exact rfl; exact known; intro hb; rw [hb]; clear hb) | (((with_reducible apply gC2); exact rfl) <;> (intro hb; rw [hb])) | (with_reducible apply WA_block) | ((with_reducible first | apply WA_skip | apply WA_ret | apply WA_exit | apply WA_label); try simp only [thn, inB, List.length_map, List.cons_append, List.nil_append])))
  exact gE (.inr rfl) rfl rfl trivial
end Go.Proofs.Ytahjhnijmmnkeaa
