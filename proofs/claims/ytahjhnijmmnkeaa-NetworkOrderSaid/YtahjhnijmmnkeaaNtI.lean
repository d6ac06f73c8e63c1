/- Contracts of the functions on networks: what arrives, how long it takes. -/
import Derived.Test.YtahjhnijmmnkeaaNtH
import Derived.Deep.OwnRows
namespace Go.Proofs.Ytahjhnijmmnkeaa
set_option linter.unusedSimpArgs false
set_option linter.unusedVariables false
set_option linter.unnecessarySimpa false
set_option linter.unusedSectionVars false
set_option maxRecDepth 100000
open Go Go.RowKit Go.Am Go.Proofs.Grow

set_option maxHeartbeats 4000000 in
theorem due_pe (n : Net) (now : Int) (out : List Pcl) (m : Net) (h : RightN n) (hp : n.parts.length ≤ 1000) (hd : n.dels.length ≤ 1000) (he : dueF n now = (out, m)) : FnM Try.prog 12 [] [aN n, vI now] (.tup [lPc out, aN m]) [] := by
  refine FnM.of htb Try.func12 rfl rfl rfl rfl rfl fun cx hN h0 => ?_
  have hl := h.len
  have hp1 := posQ_le (dueQ now) n.pars
  have hpp := @posQ_iff (dueQ now) n.pars (dueQ_mono h.srt)
  rw [dueF_right h] at he
  generalize posQ (dueQ now) n.pars = p at *
  obtain ⟨rfl, rfl⟩ := Prod.mk.inj he
  clear he
  have t0 : (!true) = false := rfl
  have hsl : List.drop 0 (List.take p (List.map rPc n.pars)) = (n.pars.take p).map rPc := by rw [List.drop_zero, List.map_take]
  have hsr : List.drop p (List.take (List.map rPc n.pars).length (List.map rPc n.pars)) = (n.pars.drop p).map rPc := by rw [List.take_length, List.map_drop]
  have hl1 : (n.pars.take p).length ≤ 4000 := by rw [List.length_take]; omega
  have hl2 : (n.pars.drop p).length ≤ 4000 := by rw [List.length_drop]; omega
  repeat (with_reducible apply WA_seq)
  (with_reducible apply gR hmix hN)
  exact (by kernel_rfl)
  (try dsimp only [List.append_eq, List.cons_append, List.nil_append])
  refine WD_nxt htb (by exact rfl) ?_
  refine WD_nxt htb (by exact rfl) ?_
  refine WD_nxt htb (by exact rfl) ?_
  (with_reducible apply WD_end)
  exact no_draw
  simp only [thn]
  refine WA_le (s' := ⟨[(2, .ptr 80 0), (1, vI now), (5, .ptr 5 0)], [(80, .box 28 (cellsOf (aN n))), (5, .box 28 (cellsOf (aN net0)))]⟩) (LeV [(80, 2)]) ?_
  (repeat' (first | ((with_reducible apply WD_id); first | (refine WD_sum ?_) | (refine WD_nxt htb (by exact rfl) ?_) | (refine WD_unk (by exact rfl) ?_; first | (refine WD_t (by exact rfl) (by exact rfl) (by exact known) fun hb => ?_; rw [hb]; clear hb) | (refine WD_f (by exact rfl) (by exact rfl) (by exact known) fun hb => ?_; rw [hb]; clear hb) | ((refine WD_tf (by exact rfl) (by exact rfl) ?_ ?_) <;> (intro hb; (fail_if_success (with_reducible injection hb)); rw [hb]; (try simp only [List.length_map] at hb)))) | (refine WD_call (by exact rfl) ?_; first | (refine WD_c0 (netR_m _ ?_ ?_ ?_) ?_; (exact hyp); (exact hyp); (exact hyp)) | (refine WD_c0 (chk_m (n := n) ?_) ?_; (exact hyp)) | (refine WD_c0 (bsD_m (l := n.pars) (p := p) _ ?_ ?_ ?_) ?_; (exact hyp); (exact hyp); (exact hyp))) | (refine WD_idx htb ?_) | (refine WD_idxo htb ?_) | (refine WD_lde1 htb ?_) | (refine WD_lde htb ?_) | (refine WD_ste htb ?_) | (refine WD_ap htb ?_) | (refine WD_ap0 htb ?_) | (refine WD_nil htb ?_) | (refine WD_nilr htb ?_) | (refine WD_rem ?_) | (refine WD_quo ?_) | (refine WD_slc htb ?_) | (refine WD_ixa htb ?_) | (refine WD_ix1 htb ?_) | (refine WD_cut htb ?_) | (refine WD_cut3 htb ?_) | (refine WD_lens htb ?_) | (refine WD_caps htb ?_) | (refine WD_cps htb ?_) | (refine WD_cpp htb ?_) | (refine WD_api htb ?_) | (refine WD_apz htb ?_) | (refine WD_clr htb ?_) | (refine WD_t (by exact rfl) (by exact rfl) (by exact known) fun hb => ?_; rw [hb]; clear hb) | (refine WD_f (by exact rfl) (by exact rfl) (by exact known) fun hb => ?_; rw [hb]; clear hb) | ((refine WD_tf (by exact rfl) (by exact rfl) ?_ ?_) <;> (intro hb; (fail_if_success (with_reducible injection hb)); rw [hb]; (try simp only [List.length_map] at hb)))) | (with_reducible apply WA_seq) | ((with_reducible apply gR hmix hN); exact (by kernel_rfl); (try dsimp only [List.append_eq, List.cons_append, List.nil_append])) | ((with_reducible apply WD_end); (first | exact no_draw | (intro _; kernel_rfl)); try simp only [thn, inB, List.length_map, List.cons_append, List.nil_append]) | ((with_reducible apply gCt); exact rfl; exact rfl) | ((with_reducible apply gCf); exact rfl; exact rfl) | ((with_reducible apply gCk); exact rfl; exact known; intro hb; rw [hb]; clear hb) | ((with_reducible apply gCn); exact rfl; exact known; intro hb; rw [hb]; clear hb) | (((with_reducible apply gC2); exact rfl) <;> (intro hb; rw [hb])) | (with_reducible apply WA_block) | ((with_reducible first | apply WA_skip | apply WA_ret | apply WA_exit | apply WA_label); try simp only [thn, inB, List.length_map, List.cons_append, List.nil_append])))
  rw [hsl]
  (repeat' (first | ((with_reducible apply WD_id); first | (refine WD_sum ?_) | (refine WD_nxt htb (by exact rfl) ?_) | (refine WD_unk (by exact rfl) ?_; first | (refine WD_t (by exact rfl) (by exact rfl) (by exact known) fun hb => ?_; rw [hb]; clear hb) | (refine WD_f (by exact rfl) (by exact rfl) (by exact known) fun hb => ?_; rw [hb]; clear hb) | ((refine WD_tf (by exact rfl) (by exact rfl) ?_ ?_) <;> (intro hb; (fail_if_success (with_reducible injection hb)); rw [hb]; (try simp only [List.length_map] at hb)))) | (refine WD_call (by exact rfl) ?_; first | (refine WD_cM (clone50_m (l := n.pars.take p) ?_) ?_; (exact hyp)) | (refine WD_cM (del_m (n := n) (l := n.pars.take p) ?_ ?_) ?_; (exact hyp); (exact hyp))) | (refine WD_idx htb ?_) | (refine WD_idxo htb ?_) | (refine WD_lde1 htb ?_) | (refine WD_lde htb ?_) | (refine WD_ste htb ?_) | (refine WD_ap htb ?_) | (refine WD_ap0 htb ?_) | (refine WD_nil htb ?_) | (refine WD_nilr htb ?_) | (refine WD_rem ?_) | (refine WD_quo ?_) | (refine WD_slc htb ?_) | (refine WD_ixa htb ?_) | (refine WD_ix1 htb ?_) | (refine WD_cut htb ?_) | (refine WD_cut3 htb ?_) | (refine WD_lens htb ?_) | (refine WD_caps htb ?_) | (refine WD_cps htb ?_) | (refine WD_cpp htb ?_) | (refine WD_api htb ?_) | (refine WD_apz htb ?_) | (refine WD_clr htb ?_) | (refine WD_t (by exact rfl) (by exact rfl) (by exact known) fun hb => ?_; rw [hb]; clear hb) | (refine WD_f (by exact rfl) (by exact rfl) (by exact known) fun hb => ?_; rw [hb]; clear hb) | ((refine WD_tf (by exact rfl) (by exact rfl) ?_ ?_) <;> (intro hb; (fail_if_success (with_reducible injection hb)); rw [hb]; (try simp only [List.length_map] at hb)))) | (with_reducible apply WA_seq) | ((with_reducible apply gR hmix hN); exact (by kernel_rfl); (try dsimp only [List.append_eq, List.cons_append, List.nil_append])) | ((with_reducible apply WD_end); (first | exact no_draw | (intro _; kernel_rfl)); try simp only [thn, inB, List.length_map, List.cons_append, List.nil_append]) | ((with_reducible apply gCt); exact rfl; exact rfl) | ((with_reducible apply gCf); exact rfl; exact rfl) | ((with_reducible apply gCk); exact rfl; exact known; intro hb; rw [hb]; clear hb) | ((with_reducible apply gCn); exact rfl; exact known; intro hb; rw [hb]; clear hb) | (((with_reducible apply gC2); exact rfl) <;> (intro hb; rw [hb])) | (with_reducible apply WA_block) | ((with_reducible first | apply WA_skip | apply WA_ret | apply WA_exit | apply WA_label); try simp only [thn, inB, List.length_map, List.cons_append, List.nil_append])))
  rw [hsr]
  (repeat' (first | ((with_reducible apply WD_id); first | (refine WD_sum ?_) | (refine WD_nxt htb (by exact rfl) ?_) | (refine WD_unk (by exact rfl) ?_; first | (refine WD_t (by exact rfl) (by exact rfl) (by exact known) fun hb => ?_; rw [hb]; clear hb) | (refine WD_f (by exact rfl) (by exact rfl) (by exact known) fun hb => ?_; rw [hb]; clear hb) | ((refine WD_tf (by exact rfl) (by exact rfl) ?_ ?_) <;> (intro hb; (fail_if_success (with_reducible injection hb)); rw [hb]; (try simp only [List.length_map] at hb)))) | (refine WD_call (by exact rfl) ?_; first | (refine WD_cM (clone52_m (l := n.pars.drop p) ?_) ?_; (exact hyp))) | (refine WD_idx htb ?_) | (refine WD_idxo htb ?_) | (refine WD_lde1 htb ?_) | (refine WD_lde htb ?_) | (refine WD_ste htb ?_) | (refine WD_ap htb ?_) | (refine WD_ap0 htb ?_) | (refine WD_nil htb ?_) | (refine WD_nilr htb ?_) | (refine WD_rem ?_) | (refine WD_quo ?_) | (refine WD_slc htb ?_) | (refine WD_ixa htb ?_) | (refine WD_ix1 htb ?_) | (refine WD_cut htb ?_) | (refine WD_cut3 htb ?_) | (refine WD_lens htb ?_) | (refine WD_caps htb ?_) | (refine WD_cps htb ?_) | (refine WD_cpp htb ?_) | (refine WD_api htb ?_) | (refine WD_apz htb ?_) | (refine WD_clr htb ?_) | (refine WD_t (by exact rfl) (by exact rfl) (by exact known) fun hb => ?_; rw [hb]; clear hb) | (refine WD_f (by exact rfl) (by exact rfl) (by exact known) fun hb => ?_; rw [hb]; clear hb) | ((refine WD_tf (by exact rfl) (by exact rfl) ?_ ?_) <;> (intro hb; (fail_if_success (with_reducible injection hb)); rw [hb]; (try simp only [List.length_map] at hb)))) | (with_reducible apply WA_seq) | ((with_reducible apply gR hmix hN); exact (by kernel_rfl); (try dsimp only [List.append_eq, List.cons_append, List.nil_append])) | ((with_reducible apply WD_end); (first | exact no_draw | (intro _; kernel_rfl)); try simp only [thn, inB, List.length_map, List.cons_append, List.nil_append]) | ((with_reducible apply gCt); exact rfl; exact rfl) | ((with_reducible apply gCf); exact rfl; exact rfl) | ((with_reducible apply gCk); exact rfl; exact known; intro hb; rw [hb]; clear hb) | ((with_reducible apply gCn); exact rfl; exact known; intro hb; rw [hb]; clear hb) | (((with_reducible apply gC2); exact rfl) <;> (intro hb; rw [hb])) | (with_reducible apply WA_block) | ((with_reducible first | apply WA_skip | apply WA_ret | apply WA_exit | apply WA_label); try simp only [thn, inB, List.length_map, List.cons_append, List.nil_append])))
  (exact glV [(4, lPc ((n.pars.take p).filter (fun x => !apartB n x.src x.dst))), (5, .ptr 5 0)] [(5, .box 28 (cellsOf (aN ⟨n.pars.drop p, n.next, n.parts, n.dels⟩)))] (LeV []))
section
variable {P : Program} {tbl : List (Nat × TI)} {o : Oper} {T : Nat → Option AV} {M : Nat → Option AO}
theorem flat_rep (n : Nat) (z0 : Value) : (List.replicate n [D.v z0]).flatten = List.replicate n (D.v z0) := by
  induction n with
  | zero => rfl
  | succ n ih => rw [List.replicate_succ, List.flatten_cons, ih, List.replicate_succ]; rfl
theorem step_mks (htb : TOK P tbl) (g : Nat) {ty e : TypeId} {x y : Operand} {i j : TI} {kl kc : IntKind} {n : Nat} {z0 : Value} (ho : o.op = .makeSlice ty x y) (ht : lk tbl ty = some i) (hs : i.isS = true) (he : i.el = some e) (hj : lk tbl e = some j) (hsz : j.size = 1) (hz : j.zero = [z0]) (h1 : z0.oneCell' = true)
    (hx : evA T x = some (.d (.v (.int kl (n : Int))))) (hy : evA T y = some (.d (.v (.int kc (n : Int))))) (hb : j.bytes * n ≤ 281474976710656) (hn : n ≤ 16777216) (hg : M g = none) :
    StepOK P o T M ⟨.own g, [g], [(g, .arr e 1 (List.replicate n [.v z0]))]⟩ :=
  step_any mem_self fun cx μ T' M' a w h hT hM => by
    rw [← hM g (by simp)] at hg
    have hd := slice_desc (htb _ _ ht) hs he
    obtain ⟨info, ds, z, q1, q2, q3, q4, q5, q6, _⟩ := ti_parts (htb _ _ hj)
    have h2 := (h.ev (x := x) hT (by simp [ho, Op.operands]) hx).val
    have h3 := (h.ev (x := y) hT (by simp [ho, Op.operands]) hy).val
    have hb2 : (info.bytes : Int) * (n : Int) ≤ 281474976710656 := by
      have : ((info.bytes * n : Nat) : Int) ≤ 281474976710656 := by rw [q5]; omega
      rwa [Int.natCast_mul] at this
    have hr := run_make (P := P) w ty e info z hd q1 q3 kl kc n n (by omega) (Int.le_refl _) hb2 (by omega)
    simp only [Int.toNat_natCast, q4, hsz, Nat.mul_one, q6, hz] at hr
    have hxs : (madeCells #[z0] n).toList = List.replicate n z0 := by
      apply List.ext_getElem?
      intro k
      by_cases hk : k < n
      · simp [madeCells, hk, Nat.mod_one]
      · simp [madeCells, hk]
    have hsize : (madeCells #[z0] n).size = n := by simp [madeCells]
    refine ⟨.slice (some ⟨w.heap.size, 0, none⟩) n n, w.alloc (.cells (madeCells #[z0] n) e), upμ μ g (.slice (some ⟨w.heap.size, 0, none⟩) n n), ?_, ?_, .own (upμ_self _ _)⟩
    · simp only [execOp, ho, h2, h3, Sem.run_bind, hr, Result.andThen_ok, Sem.run_pure]
    · refine h.new hg (chg_alloc w _) rfl (fun b hb => ?_) fun H' hk hH => ⟨_, List.replicate n z0, upμ_self _ _, ⟨by simp, .inr ⟨w.heap.size, n, madeCells #[z0] n, by simp, Nat.zero_le _, heap_alloc_new w _, by simp, by unfold maxLen; omega, by rw [hsize, Nat.mul_one], by rw [hxs]; simp⟩⟩, fun r hr => by rw [List.eq_of_mem_replicate hr]; rfl, ⟨by simp, fun k c v hc hv => ?_⟩, fun u hu => by rw [List.eq_of_mem_replicate hu]; exact h1⟩
      · obtain rfl := Option.some.inj hb
        simp
      · have e1 := flat_rep n z0
        rw [e1] at hc
        have hc2 := List.eq_of_mem_replicate (List.mem_of_getElem? hc)
        have hv2 := List.eq_of_mem_replicate (List.mem_of_getElem? hv)
        rw [hc2, hv2]; exact .v _
end
end Go.Proofs.Ytahjhnijmmnkeaa
