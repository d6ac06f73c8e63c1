/- NetworkKeeps: the walk. -/
import Derived.Test.YtahjhnijmmnkeaaNtK
namespace Go.Proofs.Ytahjhnijmmnkeaa
set_option linter.unusedSimpArgs false
set_option linter.unusedVariables false
set_option linter.unnecessarySimpa false
set_option linter.unusedSectionVars false
set_option maxRecDepth 100000
open Go Go.RowKit Go.Am Go.Proofs.Grow

/-- A goal that is shown once, for any network and source, and used on several ways. -/
theorem shareK {K : Net → Sc → Int → Int → Int → Prop} {G : Prop} (C : Net → Sc → Int → Int → Int → Prop) (pf : ∀ n s g l r, C n s g l r → K n s g l r) (use : Kx (∀ n s g l r, C n s g l r → K n s g l r) → G) : G := use ⟨pf⟩
theorem KeepI.lens {T : Prop} {B : Int} {n : Net} {sent got lost : Int} (h : KeepI T B n sent got lost) (hB : B ≤ 1000) : n.parts.length ≤ 1000 ∧ n.dels.length ≤ 1000 ∧ n.pars.length ≤ 1000 ∧ 0 ≤ n.next ∧ n.next ≤ 1000 ∧ got ≤ 1000 ∧ lost ≤ 1000 ∧ 0 ≤ got ∧ 0 ≤ lost ∧ 0 ≤ sent ∧ sent ≤ 1000 := by
  have h1 := h.sum
  have h2 := h.g0
  have h3 := h.l0
  have h4 := h.sB
  have h5 := h.nx
  have h6 := h.r.n0
  refine ⟨?_, by rw [h.d]; simp, by omega, by omega, by omega, by omega, by omega, by omega, by omega, by omega, by omega⟩
  rcases h.p with e | e <;> rw [e] <;> simp
theorem N_pe (s : Sc) (k : Int) (r : Int) (s' : Sc) (hs : s.ok) (hk : k ≤ 1000000000000) (h2 : s.x k = s') (h : s.n k = r) : FnM Try.prog 14 [s.box] [.ptr 9000 0, vI k] (vI r) [s'.box] := h ▸ h2 ▸ N_m s k hs hk
set_option maxHeartbeats 16000000 in
theorem keeps31_m (l : List Int) : FnM Try.prog 4 [] [lI l] (vB true) [] := by
  refine FnM.of htb Try.func4 rfl rfl rfl rfl rfl fun cx hN h0 => ?_
  have hs : Sc.ok ⟨l.take 800, 0⟩ := ⟨Nat.zero_le _, by simp; omega⟩
  (repeat' (first | ((with_reducible apply WD_id); first | (refine WD_sum ?_) | (refine WD_nxt htb (by exact rfl) ?_) | (refine WD_unk (by exact rfl) ?_; first | (refine WD_t (by exact rfl) (by exact rfl) (by exact known) fun hb => ?_; rw [hb]; clear hb) | (refine WD_f (by exact rfl) (by exact rfl) (by exact known) fun hb => ?_; rw [hb]; clear hb) | ((refine WD_tf (by exact rfl) (by exact rfl) ?_ ?_) <;> (intro hb; (fail_if_success (with_reducible injection hb)); rw [hb]; (try simp only [List.length_map] at hb)))) | (refine WD_call (by exact rfl) ?_; first | (refine WD_cM (new_m _) ?_)) | (refine WD_idx htb ?_) | (refine WD_idxo htb ?_) | (refine WD_lde1 htb ?_) | (refine WD_lde htb ?_) | (refine WD_ste htb ?_) | (refine WD_ap htb ?_) | (refine WD_ap0 htb ?_) | (refine WD_nil htb ?_) | (refine WD_nilr htb ?_) | (refine WD_rem ?_) | (refine WD_quo ?_) | (refine WD_slc htb ?_) | (refine WD_ixa htb ?_) | (refine WD_ix1 htb ?_) | (refine WD_t (by exact rfl) (by exact rfl) (by exact known) fun hb => ?_; rw [hb]; clear hb) | (refine WD_f (by exact rfl) (by exact rfl) (by exact known) fun hb => ?_; rw [hb]; clear hb) | ((refine WD_tf (by exact rfl) (by exact rfl) ?_ ?_) <;> (intro hb; (fail_if_success (with_reducible injection hb)); rw [hb]; (try simp only [List.length_map] at hb)))) | (with_reducible apply WA_seq) | ((with_reducible apply gR hmix hN); exact (by kernel_rfl); (try dsimp only [List.append_eq, List.cons_append, List.nil_append])) | ((with_reducible apply WD_end); (first | exact no_draw | (intro _; kernel_rfl)); try simp only [thn, inB, List.length_map, List.cons_append, List.nil_append]) | ((with_reducible apply gCt); exact rfl; exact rfl) | ((with_reducible apply gCf); exact rfl; exact rfl) | ((with_reducible apply gCk); exact rfl; exact known; intro hb; rw [hb]; clear hb) | ((with_reducible apply gCn); exact rfl; exact known; intro hb; rw [hb]; clear hb) | (((with_reducible apply gC2); exact rfl) <;> (intro hb; rw [hb])) | (with_reducible apply WA_block) | ((with_reducible first | apply WA_skip | apply WA_ret | apply WA_exit | apply WA_label); try simp only [thn, inB, List.length_map, List.cons_append, List.nil_append])))
  generalize (⟨l.take 800, 0⟩ : Sc) = s0 at *
  refine WA_le (s' := ⟨[(8, vI 0), (7, vI 0), (6, vI 0), (5, vI 0), (4, .ptr 4 0), (3, .ptr 9000 0)], [(4, .box 28 (cellsOf (aN net0))), Sc.box s0]⟩) (LeV []) ?_
  (refine WA_anyV (α := Nat × Net × Int × Int × Int × Sc) (fun x => 20 - x.1) ((0, net0, 0, 0, 0, s0)) [8, 7, 6, 5] [4, 9000] (fun x => [(8, vI x.1), (7, vI x.2.2.2.2.1), (6, vI x.2.2.2.1), (5, vI x.2.2.1)]) (fun x => [(4, .box 28 (cellsOf (aN x.2.1))), Sc.box x.2.2.2.2.2]) (fun x => x.1 ≤ 20 ∧ x.2.2.2.2.2.ok ∧ KeepI (15 ≤ (x.1 : Int)) (3 * x.1) x.2.1 x.2.2.1 x.2.2.2.1 x.2.2.2.2.1) ?h0 ?_)
  case h0 => exact ⟨Nat.zero_le _, hs, keep_zero⟩
  rintro ⟨now, n, sent, got, lost, s⟩ ⟨hn20, hs2, hK⟩
  dsimp only at hn20 hs2 hK
  by_cases hnow : now < 20
  case neg =>
    obtain rfl : now = 20 := by omega
    have d1 : decide (((20 : Nat) : Int) < 20) = false := by decide
    obtain ⟨k1, k2, k3, k4, k5, k6, k7, k8, k9, k10, k11⟩ := hK.lens (by omega)
    have hr := hK.r
    obtain ⟨out, m, e1, e2, e3, e4, e5⟩ := keep_end (KeepI.mono hK (fun h => h) (Int.le_refl _))
    have u1 : (sent == got + lost) = true := by simp [e3]
    have u2 : decide (lost ≥ 0) = true := by simp only [decide_eq_true_eq]; omega
    have u3 : ((m.pars.length : Int) == 0) = true := by simp [e2]
    clear hK e2 e3
    (repeat' (first | ((with_reducible apply WD_id); first | (refine WD_sum ?_) | (refine WD_nxt htb (by exact rfl) ?_) | (refine WD_unk (by exact rfl) ?_; first | (refine WD_t (by exact rfl) (by exact rfl) (by exact known) fun hb => ?_; rw [hb]; clear hb) | (refine WD_f (by exact rfl) (by exact rfl) (by exact known) fun hb => ?_; rw [hb]; clear hb) | ((refine WD_tf (by exact rfl) (by exact rfl) ?_ ?_) <;> (intro hb; (fail_if_success (with_reducible injection hb)); rw [hb]; (try simp only [List.length_map] at hb)))) | (refine WD_call (by exact rfl) ?_; first | (refine WD_e0 (fun h => due_pe (n := n) (out := out) (m := m) _ ?_ ?_ ?_ h) ?_; (exact hypS); (exact hypS); (exact hypS)) | (refine WD_c0 (sane31_m) ?_)) | (refine WD_idx htb ?_) | (refine WD_idxo htb ?_) | (refine WD_lde1 htb ?_) | (refine WD_lde htb ?_) | (refine WD_ste htb ?_) | (refine WD_ap htb ?_) | (refine WD_ap0 htb ?_) | (refine WD_nil htb ?_) | (refine WD_nilr htb ?_) | (refine WD_rem ?_) | (refine WD_quo ?_) | (refine WD_slc htb ?_) | (refine WD_ixa htb ?_) | (refine WD_ix1 htb ?_) | (refine WD_t (by exact rfl) (by exact rfl) (by exact known) fun hb => ?_; rw [hb]; clear hb) | (refine WD_f (by exact rfl) (by exact rfl) (by exact known) fun hb => ?_; rw [hb]; clear hb) | ((refine WD_tf (by exact rfl) (by exact rfl) ?_ ?_) <;> (intro hb; (fail_if_success (with_reducible injection hb)); rw [hb]; (try simp only [List.length_map] at hb)))) | (with_reducible apply WA_seq) | ((with_reducible apply gR hmix hN); exact (by kernel_rfl); (try dsimp only [List.append_eq, List.cons_append, List.nil_append])) | ((with_reducible apply WD_end); (first | exact no_draw | (intro _; kernel_rfl)); try simp only [thn, inB, List.length_map, List.cons_append, List.nil_append]) | ((with_reducible apply gCt); exact rfl; exact rfl) | ((with_reducible apply gCf); exact rfl; exact rfl) | ((with_reducible apply gCk); exact rfl; exact known; intro hb; rw [hb]; clear hb) | ((with_reducible apply gCn); exact rfl; exact known; intro hb; rw [hb]; clear hb) | (((with_reducible apply gC2); exact rfl) <;> (intro hb; rw [hb])) | (with_reducible apply WA_block) | ((with_reducible first | apply WA_skip | apply WA_ret | apply WA_exit | apply WA_label); try simp only [thn, inB, List.length_map, List.cons_append, List.nil_append])))
    exact gE (.inr rfl) rfl rfl trivial
  have d1 : decide ((now : Int) < 20) = true := by simp only [decide_eq_true_eq]; omega
  have hr0 := hK.r
  obtain ⟨k1, k2, k3, k4, k5, k6, k7, k8, k9, k10, k11⟩ := hK.lens (by omega)
  clear hs
  apply shareK (fun n' s' g' l' r' => s'.ok ∧ (0 ≤ r' ∧ r' ≤ 3) ∧ KeepI (14 ≤ (now : Int)) (3 * now) n' sent g' l')
  case use =>
    intro key
    obtain ⟨p1, p2⟩ := keep_part hK
    obtain ⟨n1, hn1⟩ : ∃ n1, n1 = (⟨n.pars, n.next, [3, 12], n.dels⟩ : Net) := ⟨_, rfl⟩
    rw [← hn1] at p1 p2
    obtain ⟨n2, hn2⟩ : ∃ n2, healF n = n2 := ⟨_, rfl⟩
    obtain ⟨n3, hn3⟩ : ∃ n3, healF n1 = n3 := ⟨_, rfl⟩
    have p3 := keep_heal hK
    have p4 := keep_heal p2
    rw [hn2] at p3
    rw [hn3] at p4
    obtain ⟨q1, q2, q3, q4⟩ := p2.lens (by omega)
    clear q4
    have l1 : n.pars.length ≤ 4000 := by omega
    have l2 : n1.pars.length ≤ 4000 := by omega
    have l3 : ([3, 12] : List Int).length ≤ 1000 := by decide
    have hpp := parts312
    have t0 : ((0 : Int) != 0) = false := rfl
    obtain ⟨s1, hs1⟩ : ∃ s1, s.x 5 = s1 := ⟨_, rfl⟩
    obtain ⟨s2, hs2'⟩ : ∃ s2, s1.x 5 = s2 := ⟨_, rfl⟩
    obtain ⟨s3, hs3⟩ : ∃ s3, s2.x 4 = s3 := ⟨_, rfl⟩
    have o1 : s1.ok := by rw [← hs1]; exact Sc.ok_x hs2 5
    have o2 : s2.ok := by rw [← hs2']; exact Sc.ok_x o1 5
    have o3 : s3.ok := by rw [← hs3]; exact Sc.ok_x o2 4
    have bs := s2.n_bd (k := 4) (by decide)
    obtain ⟨r4, hr4⟩ : ∃ r4, s2.n 4 = r4 := ⟨_, rfl⟩
    rw [hr4] at bs
    have bs2 : 0 ≤ r4 ∧ r4 ≤ 3 := by omega
    have f1 : s.n 5 = s.n 5 := rfl
    have f2 : s1.n 5 = s1.n 5 := rfl
    clear hn1 bs
    have hways : ((s.n 5 == 4) = true ∧ (s1.n 5 == 4) = true) ∨ ((s.n 5 == 4) = true ∧ (s1.n 5 == 4) = false) ∨ ((s.n 5 == 4) = false ∧ (s1.n 5 == 4) = true) ∨ ((s.n 5 == 4) = false ∧ (s1.n 5 == 4) = false) := by
      cases (s.n 5 == 4) <;> cases (s1.n 5 == 4) <;> simp
    rcases hways with ⟨w1, w2⟩ | ⟨w1, w2⟩ | ⟨w1, w2⟩ | ⟨w1, w2⟩
    · have pb := p4
      clear p3 hn2
      obtain ⟨out, m, e1, ho1, ho2, hM⟩ := keep_due (now := (now : Int)) pb
      have hrb := pb.r
      obtain ⟨v1, v2, v3, v4, v5, v6, v7, v8, v9, v10, v11⟩ := pb.lens (by omega)
      obtain ⟨z1, z2, z3, z4, z5, z6, z7, z8, z9, z10, z11⟩ := hM.lens (by omega)
      (repeat' (first | ((with_reducible apply WD_id); first | (refine WD_sum ?_) | (refine WD_nxt htb (by exact rfl) ?_) | (refine WD_unk (by exact rfl) ?_; first | (refine WD_t (by exact rfl) (by exact rfl) (by exact known) fun hb => ?_; rw [hb]; clear hb) | (refine WD_f (by exact rfl) (by exact rfl) (by exact known) fun hb => ?_; rw [hb]; clear hb) | ((refine WD_tf (by exact rfl) (by exact rfl) ?_ ?_) <;> (intro hb; (fail_if_success (with_reducible injection hb)); rw [hb]; (try simp only [List.length_map] at hb)))) | (refine WD_call (by exact rfl) ?_; first | (refine WD_eM (fun h => N_pe (s := s) (s' := s1) (r := s.n 5) _ ?_ ?_ ?_ h) ?_; (exact hypS); (exact hypS); (exact hypS)) | (refine WD_eM (fun h => N_pe (s := s1) (s' := s2) (r := s1.n 5) _ ?_ ?_ ?_ h) ?_; (exact hypS); (exact hypS); (exact hypS)) | (refine WD_eM (fun h => N_pe (s := s2) (s' := s3) (r := r4) _ ?_ ?_ ?_ h) ?_; (exact hypS); (exact hypS); (exact hypS)) | (refine WD_e0 (fun h => part_pe (n := n) (l := [3, 12]) (m := n1) (e := 0) ?_ ?_ ?_ ?_ ?_ h) ?_; (exact hypS); (exact hypS); (exact hypS); (exact hypS); (exact hypS)) | (refine WD_e0 (fun h => heal_pe (n := n1) (m := n3) ?_ ?_ ?_ h) ?_; (exact hypS); (exact hypS); (exact hypS)) | (refine WD_e0 (fun h => due_pe (out := out) (m := m) _ _ ?_ ?_ ?_ h) ?_; (exact hypS); (exact hypS); (exact hypS))) | (refine WD_idx htb ?_) | (refine WD_idxo htb ?_) | (refine WD_lde1 htb ?_) | (refine WD_lde htb ?_) | (refine WD_ste htb ?_) | (refine WD_ap htb ?_) | (refine WD_ap0 htb ?_) | (refine WD_nil htb ?_) | (refine WD_nilr htb ?_) | (refine WD_rem ?_) | (refine WD_quo ?_) | (refine WD_slc htb ?_) | (refine WD_ixa htb ?_) | (refine WD_ix1 htb ?_) | (refine WD_t (by exact rfl) (by exact rfl) (by exact known) fun hb => ?_; rw [hb]; clear hb) | (refine WD_f (by exact rfl) (by exact rfl) (by exact known) fun hb => ?_; rw [hb]; clear hb) | ((refine WD_tf (by exact rfl) (by exact rfl) ?_ ?_) <;> (intro hb; (fail_if_success (with_reducible injection hb)); rw [hb]; (try simp only [List.length_map] at hb)))) | (with_reducible apply WA_seq) | ((with_reducible apply gR hmix hN); exact (by kernel_rfl); (try dsimp only [List.append_eq, List.cons_append, List.nil_append])) | ((with_reducible apply WD_end); (first | exact no_draw | (intro _; kernel_rfl)); try simp only [thn, inB, List.length_map, List.cons_append, List.nil_append]) | ((with_reducible apply gCt); exact rfl; exact rfl) | ((with_reducible apply gCf); exact rfl; exact rfl) | ((with_reducible apply gCk); exact rfl; exact known; intro hb; rw [hb]; clear hb) | ((with_reducible apply gCn); exact rfl; exact known; intro hb; rw [hb]; clear hb) | (((with_reducible apply gC2); exact rfl) <;> (intro hb; rw [hb])) | (with_reducible apply WA_block) | ((with_reducible first | apply WA_skip | apply WA_ret | apply WA_exit | apply WA_label); try simp only [thn, inB, List.length_map, List.cons_append, List.nil_append])))
      generalize got + (out.length : Int) = got2 at *
      generalize lost + (n3.pars.length : Int) - (m.pars.length : Int) - (out.length : Int) = lost2 at *
      refine WA_le (s' := ⟨[(14, vI r4), (8, vI now), (7, vI lost2), (6, vI got2), (5, vI sent), (4, .ptr 4 0), (3, .ptr 9000 0)], [(4, .box 28 (cellsOf (aN m))), Sc.box s3]⟩) (LeV []) ?_
      exact key.x m s3 got2 lost2 r4 ⟨o3, bs2, hM⟩
    · have pb := p2
      clear p3 p4 hn2 hn3
      obtain ⟨out, m, e1, ho1, ho2, hM⟩ := keep_due (now := (now : Int)) pb
      have hrb := pb.r
      obtain ⟨v1, v2, v3, v4, v5, v6, v7, v8, v9, v10, v11⟩ := pb.lens (by omega)
      obtain ⟨z1, z2, z3, z4, z5, z6, z7, z8, z9, z10, z11⟩ := hM.lens (by omega)
      (repeat' (first | ((with_reducible apply WD_id); first | (refine WD_sum ?_) | (refine WD_nxt htb (by exact rfl) ?_) | (refine WD_unk (by exact rfl) ?_; first | (refine WD_t (by exact rfl) (by exact rfl) (by exact known) fun hb => ?_; rw [hb]; clear hb) | (refine WD_f (by exact rfl) (by exact rfl) (by exact known) fun hb => ?_; rw [hb]; clear hb) | ((refine WD_tf (by exact rfl) (by exact rfl) ?_ ?_) <;> (intro hb; (fail_if_success (with_reducible injection hb)); rw [hb]; (try simp only [List.length_map] at hb)))) | (refine WD_call (by exact rfl) ?_; first | (refine WD_eM (fun h => N_pe (s := s) (s' := s1) (r := s.n 5) _ ?_ ?_ ?_ h) ?_; (exact hypS); (exact hypS); (exact hypS)) | (refine WD_eM (fun h => N_pe (s := s1) (s' := s2) (r := s1.n 5) _ ?_ ?_ ?_ h) ?_; (exact hypS); (exact hypS); (exact hypS)) | (refine WD_eM (fun h => N_pe (s := s2) (s' := s3) (r := r4) _ ?_ ?_ ?_ h) ?_; (exact hypS); (exact hypS); (exact hypS)) | (refine WD_e0 (fun h => part_pe (n := n) (l := [3, 12]) (m := n1) (e := 0) ?_ ?_ ?_ ?_ ?_ h) ?_; (exact hypS); (exact hypS); (exact hypS); (exact hypS); (exact hypS)) | (refine WD_e0 (fun h => heal_pe (n := n1) (m := n3) ?_ ?_ ?_ h) ?_; (exact hypS); (exact hypS); (exact hypS)) | (refine WD_e0 (fun h => due_pe (out := out) (m := m) _ _ ?_ ?_ ?_ h) ?_; (exact hypS); (exact hypS); (exact hypS))) | (refine WD_idx htb ?_) | (refine WD_idxo htb ?_) | (refine WD_lde1 htb ?_) | (refine WD_lde htb ?_) | (refine WD_ste htb ?_) | (refine WD_ap htb ?_) | (refine WD_ap0 htb ?_) | (refine WD_nil htb ?_) | (refine WD_nilr htb ?_) | (refine WD_rem ?_) | (refine WD_quo ?_) | (refine WD_slc htb ?_) | (refine WD_ixa htb ?_) | (refine WD_ix1 htb ?_) | (refine WD_t (by exact rfl) (by exact rfl) (by exact known) fun hb => ?_; rw [hb]; clear hb) | (refine WD_f (by exact rfl) (by exact rfl) (by exact known) fun hb => ?_; rw [hb]; clear hb) | ((refine WD_tf (by exact rfl) (by exact rfl) ?_ ?_) <;> (intro hb; (fail_if_success (with_reducible injection hb)); rw [hb]; (try simp only [List.length_map] at hb)))) | (with_reducible apply WA_seq) | ((with_reducible apply gR hmix hN); exact (by kernel_rfl); (try dsimp only [List.append_eq, List.cons_append, List.nil_append])) | ((with_reducible apply WD_end); (first | exact no_draw | (intro _; kernel_rfl)); try simp only [thn, inB, List.length_map, List.cons_append, List.nil_append]) | ((with_reducible apply gCt); exact rfl; exact rfl) | ((with_reducible apply gCf); exact rfl; exact rfl) | ((with_reducible apply gCk); exact rfl; exact known; intro hb; rw [hb]; clear hb) | ((with_reducible apply gCn); exact rfl; exact known; intro hb; rw [hb]; clear hb) | (((with_reducible apply gC2); exact rfl) <;> (intro hb; rw [hb])) | (with_reducible apply WA_block) | ((with_reducible first | apply WA_skip | apply WA_ret | apply WA_exit | apply WA_label); try simp only [thn, inB, List.length_map, List.cons_append, List.nil_append])))
      generalize got + (out.length : Int) = got2 at *
      generalize lost + (n1.pars.length : Int) - (m.pars.length : Int) - (out.length : Int) = lost2 at *
      refine WA_le (s' := ⟨[(14, vI r4), (8, vI now), (7, vI lost2), (6, vI got2), (5, vI sent), (4, .ptr 4 0), (3, .ptr 9000 0)], [(4, .box 28 (cellsOf (aN m))), Sc.box s3]⟩) (LeV []) ?_
      exact key.x m s3 got2 lost2 r4 ⟨o3, bs2, hM⟩
    · have pb := p3
      clear p2 p4 p1 hn3
      obtain ⟨out, m, e1, ho1, ho2, hM⟩ := keep_due (now := (now : Int)) pb
      have hrb := pb.r
      obtain ⟨v1, v2, v3, v4, v5, v6, v7, v8, v9, v10, v11⟩ := pb.lens (by omega)
      obtain ⟨z1, z2, z3, z4, z5, z6, z7, z8, z9, z10, z11⟩ := hM.lens (by omega)
      (repeat' (first | ((with_reducible apply WD_id); first | (refine WD_sum ?_) | (refine WD_nxt htb (by exact rfl) ?_) | (refine WD_unk (by exact rfl) ?_; first | (refine WD_t (by exact rfl) (by exact rfl) (by exact known) fun hb => ?_; rw [hb]; clear hb) | (refine WD_f (by exact rfl) (by exact rfl) (by exact known) fun hb => ?_; rw [hb]; clear hb) | ((refine WD_tf (by exact rfl) (by exact rfl) ?_ ?_) <;> (intro hb; (fail_if_success (with_reducible injection hb)); rw [hb]; (try simp only [List.length_map] at hb)))) | (refine WD_call (by exact rfl) ?_; first | (refine WD_eM (fun h => N_pe (s := s) (s' := s1) (r := s.n 5) _ ?_ ?_ ?_ h) ?_; (exact hypS); (exact hypS); (exact hypS)) | (refine WD_eM (fun h => N_pe (s := s1) (s' := s2) (r := s1.n 5) _ ?_ ?_ ?_ h) ?_; (exact hypS); (exact hypS); (exact hypS)) | (refine WD_eM (fun h => N_pe (s := s2) (s' := s3) (r := r4) _ ?_ ?_ ?_ h) ?_; (exact hypS); (exact hypS); (exact hypS)) | (refine WD_e0 (fun h => heal_pe (n := n) (m := n2) ?_ ?_ ?_ h) ?_; (exact hypS); (exact hypS); (exact hypS)) | (refine WD_e0 (fun h => due_pe (out := out) (m := m) _ _ ?_ ?_ ?_ h) ?_; (exact hypS); (exact hypS); (exact hypS))) | (refine WD_idx htb ?_) | (refine WD_idxo htb ?_) | (refine WD_lde1 htb ?_) | (refine WD_lde htb ?_) | (refine WD_ste htb ?_) | (refine WD_ap htb ?_) | (refine WD_ap0 htb ?_) | (refine WD_nil htb ?_) | (refine WD_nilr htb ?_) | (refine WD_rem ?_) | (refine WD_quo ?_) | (refine WD_slc htb ?_) | (refine WD_ixa htb ?_) | (refine WD_ix1 htb ?_) | (refine WD_t (by exact rfl) (by exact rfl) (by exact known) fun hb => ?_; rw [hb]; clear hb) | (refine WD_f (by exact rfl) (by exact rfl) (by exact known) fun hb => ?_; rw [hb]; clear hb) | ((refine WD_tf (by exact rfl) (by exact rfl) ?_ ?_) <;> (intro hb; (fail_if_success (with_reducible injection hb)); rw [hb]; (try simp only [List.length_map] at hb)))) | (with_reducible apply WA_seq) | ((with_reducible apply gR hmix hN); exact (by kernel_rfl); (try dsimp only [List.append_eq, List.cons_append, List.nil_append])) | ((with_reducible apply WD_end); (first | exact no_draw | (intro _; kernel_rfl)); try simp only [thn, inB, List.length_map, List.cons_append, List.nil_append]) | ((with_reducible apply gCt); exact rfl; exact rfl) | ((with_reducible apply gCf); exact rfl; exact rfl) | ((with_reducible apply gCk); exact rfl; exact known; intro hb; rw [hb]; clear hb) | ((with_reducible apply gCn); exact rfl; exact known; intro hb; rw [hb]; clear hb) | (((with_reducible apply gC2); exact rfl) <;> (intro hb; rw [hb])) | (with_reducible apply WA_block) | ((with_reducible first | apply WA_skip | apply WA_ret | apply WA_exit | apply WA_label); try simp only [thn, inB, List.length_map, List.cons_append, List.nil_append])))
      generalize got + (out.length : Int) = got2 at *
      generalize lost + (n2.pars.length : Int) - (m.pars.length : Int) - (out.length : Int) = lost2 at *
      refine WA_le (s' := ⟨[(14, vI r4), (8, vI now), (7, vI lost2), (6, vI got2), (5, vI sent), (4, .ptr 4 0), (3, .ptr 9000 0)], [(4, .box 28 (cellsOf (aN m))), Sc.box s3]⟩) (LeV []) ?_
      exact key.x m s3 got2 lost2 r4 ⟨o3, bs2, hM⟩
    · have pb := hK
      clear p2 p4 p1 hn3 p3 hn2
      obtain ⟨out, m, e1, ho1, ho2, hM⟩ := keep_due (now := (now : Int)) pb
      have hrb := pb.r
      obtain ⟨v1, v2, v3, v4, v5, v6, v7, v8, v9, v10, v11⟩ := pb.lens (by omega)
      obtain ⟨z1, z2, z3, z4, z5, z6, z7, z8, z9, z10, z11⟩ := hM.lens (by omega)
      (repeat' (first | ((with_reducible apply WD_id); first | (refine WD_sum ?_) | (refine WD_nxt htb (by exact rfl) ?_) | (refine WD_unk (by exact rfl) ?_; first | (refine WD_t (by exact rfl) (by exact rfl) (by exact known) fun hb => ?_; rw [hb]; clear hb) | (refine WD_f (by exact rfl) (by exact rfl) (by exact known) fun hb => ?_; rw [hb]; clear hb) | ((refine WD_tf (by exact rfl) (by exact rfl) ?_ ?_) <;> (intro hb; (fail_if_success (with_reducible injection hb)); rw [hb]; (try simp only [List.length_map] at hb)))) | (refine WD_call (by exact rfl) ?_; first | (refine WD_eM (fun h => N_pe (s := s) (s' := s1) (r := s.n 5) _ ?_ ?_ ?_ h) ?_; (exact hypS); (exact hypS); (exact hypS)) | (refine WD_eM (fun h => N_pe (s := s1) (s' := s2) (r := s1.n 5) _ ?_ ?_ ?_ h) ?_; (exact hypS); (exact hypS); (exact hypS)) | (refine WD_eM (fun h => N_pe (s := s2) (s' := s3) (r := r4) _ ?_ ?_ ?_ h) ?_; (exact hypS); (exact hypS); (exact hypS)) | (refine WD_e0 (fun h => due_pe (out := out) (m := m) _ _ ?_ ?_ ?_ h) ?_; (exact hypS); (exact hypS); (exact hypS))) | (refine WD_idx htb ?_) | (refine WD_idxo htb ?_) | (refine WD_lde1 htb ?_) | (refine WD_lde htb ?_) | (refine WD_ste htb ?_) | (refine WD_ap htb ?_) | (refine WD_ap0 htb ?_) | (refine WD_nil htb ?_) | (refine WD_nilr htb ?_) | (refine WD_rem ?_) | (refine WD_quo ?_) | (refine WD_slc htb ?_) | (refine WD_ixa htb ?_) | (refine WD_ix1 htb ?_) | (refine WD_t (by exact rfl) (by exact rfl) (by exact known) fun hb => ?_; rw [hb]; clear hb) | (refine WD_f (by exact rfl) (by exact rfl) (by exact known) fun hb => ?_; rw [hb]; clear hb) | ((refine WD_tf (by exact rfl) (by exact rfl) ?_ ?_) <;> (intro hb; (fail_if_success (with_reducible injection hb)); rw [hb]; (try simp only [List.length_map] at hb)))) | (with_reducible apply WA_seq) | ((with_reducible apply gR hmix hN); exact (by kernel_rfl); (try dsimp only [List.append_eq, List.cons_append, List.nil_append])) | ((with_reducible apply WD_end); (first | exact no_draw | (intro _; kernel_rfl)); try simp only [thn, inB, List.length_map, List.cons_append, List.nil_append]) | ((with_reducible apply gCt); exact rfl; exact rfl) | ((with_reducible apply gCf); exact rfl; exact rfl) | ((with_reducible apply gCk); exact rfl; exact known; intro hb; rw [hb]; clear hb) | ((with_reducible apply gCn); exact rfl; exact known; intro hb; rw [hb]; clear hb) | (((with_reducible apply gC2); exact rfl) <;> (intro hb; rw [hb])) | (with_reducible apply WA_block) | ((with_reducible first | apply WA_skip | apply WA_ret | apply WA_exit | apply WA_label); try simp only [thn, inB, List.length_map, List.cons_append, List.nil_append])))
      generalize got + (out.length : Int) = got2 at *
      generalize lost + (n.pars.length : Int) - (m.pars.length : Int) - (out.length : Int) = lost2 at *
      refine WA_le (s' := ⟨[(14, vI r4), (8, vI now), (7, vI lost2), (6, vI got2), (5, vI sent), (4, .ptr 4 0), (3, .ptr 9000 0)], [(4, .box 28 (cellsOf (aN m))), Sc.box s3]⟩) (LeV []) ?_
      exact key.x m s3 got2 lost2 r4 ⟨o3, bs2, hM⟩
  rintro m s1 got2 lost2 r4 ⟨o1, bs, hM⟩
  (refine WA_anyV (α := Nat × Net × Int × Sc) (fun x => x.1) ((r4.toNat, m, sent, s1)) [14, 5] [4, 9000] (fun x => [(14, vI x.1), (5, vI x.2.2.1)]) (fun x => [(4, .box 28 (cellsOf (aN x.2.1))), Sc.box x.2.2.2]) (fun x => x.2.2.2.ok ∧ ∃ B, B + x.1 ≤ 3 * now + 3 ∧ KeepI (14 ≤ (now : Int)) B x.2.1 x.2.2.1 got2 lost2) ?h0 ?_)
  case h0 => exact ⟨o1, 3 * now, by dsimp only; omega, hM⟩
  rintro ⟨k, n, sent, s⟩ ⟨hs, B, hB, hK⟩
  dsimp only at hs hB hK
  obtain ⟨k1, k2, k3, k4, k5, k6, k7, k8, k9, k10, k11⟩ := hK.lens (by omega)
  have hr := hK.r
  have hend : KeepI (15 ≤ ((now + 1 : Nat) : Int)) (3 * ((now + 1 : Nat) : Int)) n sent got2 lost2 := hK.mono (by intro h; omega) (by omega)
  have t0 : (!true) = false := rfl
  cases k with
  | zero =>
    have d2 : decide (((0 : Nat) : Int) > 0) = false := by decide
    (repeat' (first | ((with_reducible apply WD_id); first | (refine WD_sum ?_) | (refine WD_nxt htb (by exact rfl) ?_) | (refine WD_unk (by exact rfl) ?_; first | (refine WD_t (by exact rfl) (by exact rfl) (by exact known) fun hb => ?_; rw [hb]; clear hb) | (refine WD_f (by exact rfl) (by exact rfl) (by exact known) fun hb => ?_; rw [hb]; clear hb) | ((refine WD_tf (by exact rfl) (by exact rfl) ?_ ?_) <;> (intro hb; (fail_if_success (with_reducible injection hb)); rw [hb]; (try simp only [List.length_map] at hb)))) | (refine WD_call (by exact rfl) ?_; first | (refine WD_c0 (chk_m (n := n) ?_) ?_; (exact hypS))) | (refine WD_idx htb ?_) | (refine WD_idxo htb ?_) | (refine WD_lde1 htb ?_) | (refine WD_lde htb ?_) | (refine WD_ste htb ?_) | (refine WD_ap htb ?_) | (refine WD_ap0 htb ?_) | (refine WD_nil htb ?_) | (refine WD_nilr htb ?_) | (refine WD_rem ?_) | (refine WD_quo ?_) | (refine WD_slc htb ?_) | (refine WD_ixa htb ?_) | (refine WD_ix1 htb ?_) | (refine WD_t (by exact rfl) (by exact rfl) (by exact known) fun hb => ?_; rw [hb]; clear hb) | (refine WD_f (by exact rfl) (by exact rfl) (by exact known) fun hb => ?_; rw [hb]; clear hb) | ((refine WD_tf (by exact rfl) (by exact rfl) ?_ ?_) <;> (intro hb; (fail_if_success (with_reducible injection hb)); rw [hb]; (try simp only [List.length_map] at hb)))) | (with_reducible apply WA_seq) | ((with_reducible apply gR hmix hN); exact (by kernel_rfl); (try dsimp only [List.append_eq, List.cons_append, List.nil_append])) | ((with_reducible apply WD_end); (first | exact no_draw | (intro _; kernel_rfl)); try simp only [thn, inB, List.length_map, List.cons_append, List.nil_append]) | ((with_reducible apply gCt); exact rfl; exact rfl) | ((with_reducible apply gCf); exact rfl; exact rfl) | ((with_reducible apply gCk); exact rfl; exact known; intro hb; rw [hb]; clear hb) | ((with_reducible apply gCn); exact rfl; exact known; intro hb; rw [hb]; clear hb) | (((with_reducible apply gC2); exact rfl) <;> (intro hb; rw [hb])) | (with_reducible apply WA_block) | ((with_reducible first | apply WA_skip | apply WA_ret | apply WA_exit | apply WA_label); try simp only [thn, inB, List.length_map, List.cons_append, List.nil_append])))
    refine ⟨(now + 1, n, sent, got2, lost2, s), by dsimp only; omega, ⟨by dsimp only; omega, hs, hend⟩, ?_⟩
    (exact LeV [])
  | succ k =>
    have d2 : decide (((k + 1 : Nat) : Int) > 0) = true := by simp only [decide_eq_true_eq]; omega
    by_cases h14 : now < 14
    case neg =>
      have d3 : decide ((now : Int) < 14) = false := by simp only [decide_eq_false_iff_not]; omega
      (repeat' (first | ((with_reducible apply WD_id); first | (refine WD_sum ?_) | (refine WD_nxt htb (by exact rfl) ?_) | (refine WD_unk (by exact rfl) ?_; first | (refine WD_t (by exact rfl) (by exact rfl) (by exact known) fun hb => ?_; rw [hb]; clear hb) | (refine WD_f (by exact rfl) (by exact rfl) (by exact known) fun hb => ?_; rw [hb]; clear hb) | ((refine WD_tf (by exact rfl) (by exact rfl) ?_ ?_) <;> (intro hb; (fail_if_success (with_reducible injection hb)); rw [hb]; (try simp only [List.length_map] at hb)))) | (refine WD_call (by exact rfl) ?_; first | (refine WD_c0 (chk_m (n := n) ?_) ?_; (exact hypS))) | (refine WD_idx htb ?_) | (refine WD_idxo htb ?_) | (refine WD_lde1 htb ?_) | (refine WD_lde htb ?_) | (refine WD_ste htb ?_) | (refine WD_ap htb ?_) | (refine WD_ap0 htb ?_) | (refine WD_nil htb ?_) | (refine WD_nilr htb ?_) | (refine WD_rem ?_) | (refine WD_quo ?_) | (refine WD_slc htb ?_) | (refine WD_ixa htb ?_) | (refine WD_ix1 htb ?_) | (refine WD_t (by exact rfl) (by exact rfl) (by exact known) fun hb => ?_; rw [hb]; clear hb) | (refine WD_f (by exact rfl) (by exact rfl) (by exact known) fun hb => ?_; rw [hb]; clear hb) | ((refine WD_tf (by exact rfl) (by exact rfl) ?_ ?_) <;> (intro hb; (fail_if_success (with_reducible injection hb)); rw [hb]; (try simp only [List.length_map] at hb)))) | (with_reducible apply WA_seq) | ((with_reducible apply gR hmix hN); exact (by kernel_rfl); (try dsimp only [List.append_eq, List.cons_append, List.nil_append])) | ((with_reducible apply WD_end); (first | exact no_draw | (intro _; kernel_rfl)); try simp only [thn, inB, List.length_map, List.cons_append, List.nil_append]) | ((with_reducible apply gCt); exact rfl; exact rfl) | ((with_reducible apply gCf); exact rfl; exact rfl) | ((with_reducible apply gCk); exact rfl; exact known; intro hb; rw [hb]; clear hb) | ((with_reducible apply gCn); exact rfl; exact known; intro hb; rw [hb]; clear hb) | (((with_reducible apply gC2); exact rfl) <;> (intro hb; rw [hb])) | (with_reducible apply WA_block) | ((with_reducible first | apply WA_skip | apply WA_ret | apply WA_exit | apply WA_label); try simp only [thn, inB, List.length_map, List.cons_append, List.nil_append])))
      refine ⟨(now + 1, n, sent, got2, lost2, s), by dsimp only; omega, ⟨by dsimp only; omega, hs, hend⟩, ?_⟩
      (exact LeV [])
    have d3 : decide ((now : Int) < 14) = true := by simp only [decide_eq_true_eq]; omega
    clear hend
    obtain ⟨sa, hsa⟩ : ∃ sa, s.x 4 = sa := ⟨_, rfl⟩
    obtain ⟨sb, hsb⟩ : ∃ sb, sa.x 4 = sb := ⟨_, rfl⟩
    have oa : sa.ok := by rw [← hsa]; exact Sc.ok_x hs 4
    have ob : sb.ok := by rw [← hsb]; exact Sc.ok_x oa 4
    have ba := s.n_bd (k := 4) (by decide)
    have bb := sa.n_bd (k := 4) (by decide)
    obtain ⟨a, ha⟩ : ∃ a, s.n 4 = a := ⟨_, rfl⟩
    obtain ⟨b, hb⟩ : ∃ b, sa.n 4 = b := ⟨_, rfl⟩
    rw [ha] at ba
    rw [hb] at bb
    obtain ⟨m2, e, hS, hcase⟩ := keep_send hK (by omega) (by omega) (by omega) (a := a) (b := b) (by omega) (by omega)
    have a1 : 0 ≤ a ∧ a < 10 := by omega
    have a2 : 0 ≤ b ∧ b < 10 := by omega
    have a3 : 0 ≤ (now : Int) ∧ (now : Int) ≤ 200 := by omega
    have l7 : n.pars.length < 4000 := by omega
    have l8 : n.next < 1000000000 := by omega
    have l9 : n.dels.length = 0 ∨ n.dels.length = 100 := by rw [hK.d]; exact .inl rfl
    have l10 : ∀ x ∈ n.dels, 0 ≤ x ∧ x ≤ 20 := by rw [hK.d]; intro x hx; cases hx
    rcases hcase with ⟨rfl, _⟩ | ⟨rfl, hnx, hK2⟩
    · have u1 : ((5 : Int) == 5) = true := rfl
      (repeat' (first | ((with_reducible apply WD_id); first | (refine WD_sum ?_) | (refine WD_nxt htb (by exact rfl) ?_) | (refine WD_unk (by exact rfl) ?_; first | (refine WD_t (by exact rfl) (by exact rfl) (by exact known) fun hb => ?_; rw [hb]; clear hb) | (refine WD_f (by exact rfl) (by exact rfl) (by exact known) fun hb => ?_; rw [hb]; clear hb) | ((refine WD_tf (by exact rfl) (by exact rfl) ?_ ?_) <;> (intro hb; (fail_if_success (with_reducible injection hb)); rw [hb]; (try simp only [List.length_map] at hb)))) | (refine WD_call (by exact rfl) ?_; first | (refine WD_eM (fun h => N_pe (s := s) (s' := sa) (r := a) _ ?_ ?_ ?_ h) ?_; (exact hypS); (exact hypS); (exact hypS)) | (refine WD_eM (fun h => N_pe (s := sa) (s' := sb) (r := b) _ ?_ ?_ ?_ h) ?_; (exact hypS); (exact hypS); (exact hypS)) | (refine WD_e0 (fun h => sendN_pe (n := n) (slot := 0) (m := m2) (e := 5) _ _ _ ?_ ?_ ?_ ?_ ?_ ?_ ?_ ?_ ?_ h) ?_; (exact hypS); (exact hypS); (exact hypS); (exact hypS); (exact hypS); (exact hypS); (exact hypS); (exact hypS); (exact hypS))) | (refine WD_idx htb ?_) | (refine WD_idxo htb ?_) | (refine WD_lde1 htb ?_) | (refine WD_lde htb ?_) | (refine WD_ste htb ?_) | (refine WD_ap htb ?_) | (refine WD_ap0 htb ?_) | (refine WD_nil htb ?_) | (refine WD_nilr htb ?_) | (refine WD_rem ?_) | (refine WD_quo ?_) | (refine WD_slc htb ?_) | (refine WD_ixa htb ?_) | (refine WD_ix1 htb ?_) | (refine WD_t (by exact rfl) (by exact rfl) (by exact known) fun hb => ?_; rw [hb]; clear hb) | (refine WD_f (by exact rfl) (by exact rfl) (by exact known) fun hb => ?_; rw [hb]; clear hb) | ((refine WD_tf (by exact rfl) (by exact rfl) ?_ ?_) <;> (intro hb; (fail_if_success (with_reducible injection hb)); rw [hb]; (try simp only [List.length_map] at hb)))) | (with_reducible apply WA_seq) | ((with_reducible apply gR hmix hN); exact (by kernel_rfl); (try dsimp only [List.append_eq, List.cons_append, List.nil_append])) | ((with_reducible apply WD_end); (first | exact no_draw | (intro _; kernel_rfl)); try simp only [thn, inB, List.length_map, List.cons_append, List.nil_append]) | ((with_reducible apply gCt); exact rfl; exact rfl) | ((with_reducible apply gCf); exact rfl; exact rfl) | ((with_reducible apply gCk); exact rfl; exact known; intro hb; rw [hb]; clear hb) | ((with_reducible apply gCn); exact rfl; exact known; intro hb; rw [hb]; clear hb) | (((with_reducible apply gC2); exact rfl) <;> (intro hb; rw [hb])) | (with_reducible apply WA_block) | ((with_reducible first | apply WA_skip | apply WA_ret | apply WA_exit | apply WA_label); try simp only [thn, inB, List.length_map, List.cons_append, List.nil_append])))
      refine ⟨(k, n, sent, sb), by dsimp only; omega, ⟨ob, B, by dsimp only; omega, hK⟩, ?_⟩
      (exact LeV [])
    · have u1 : ((0 : Int) == 5) = false := rfl
      have u2 : ((0 : Int) != 0) = false := rfl
      have u3 : (m2.next != n.next + 1) = false := by simp [hnx]
      (repeat' (first | ((with_reducible apply WD_id); first | (refine WD_sum ?_) | (refine WD_nxt htb (by exact rfl) ?_) | (refine WD_unk (by exact rfl) ?_; first | (refine WD_t (by exact rfl) (by exact rfl) (by exact known) fun hb => ?_; rw [hb]; clear hb) | (refine WD_f (by exact rfl) (by exact rfl) (by exact known) fun hb => ?_; rw [hb]; clear hb) | ((refine WD_tf (by exact rfl) (by exact rfl) ?_ ?_) <;> (intro hb; (fail_if_success (with_reducible injection hb)); rw [hb]; (try simp only [List.length_map] at hb)))) | (refine WD_call (by exact rfl) ?_; first | (refine WD_eM (fun h => N_pe (s := s) (s' := sa) (r := a) _ ?_ ?_ ?_ h) ?_; (exact hypS); (exact hypS); (exact hypS)) | (refine WD_eM (fun h => N_pe (s := sa) (s' := sb) (r := b) _ ?_ ?_ ?_ h) ?_; (exact hypS); (exact hypS); (exact hypS)) | (refine WD_e0 (fun h => sendN_pe (n := n) (slot := 0) (m := m2) (e := 0) _ _ _ ?_ ?_ ?_ ?_ ?_ ?_ ?_ ?_ ?_ h) ?_; (exact hypS); (exact hypS); (exact hypS); (exact hypS); (exact hypS); (exact hypS); (exact hypS); (exact hypS); (exact hypS))) | (refine WD_idx htb ?_) | (refine WD_idxo htb ?_) | (refine WD_lde1 htb ?_) | (refine WD_lde htb ?_) | (refine WD_ste htb ?_) | (refine WD_ap htb ?_) | (refine WD_ap0 htb ?_) | (refine WD_nil htb ?_) | (refine WD_nilr htb ?_) | (refine WD_rem ?_) | (refine WD_quo ?_) | (refine WD_slc htb ?_) | (refine WD_ixa htb ?_) | (refine WD_ix1 htb ?_) | (refine WD_t (by exact rfl) (by exact rfl) (by exact known) fun hb => ?_; rw [hb]; clear hb) | (refine WD_f (by exact rfl) (by exact rfl) (by exact known) fun hb => ?_; rw [hb]; clear hb) | ((refine WD_tf (by exact rfl) (by exact rfl) ?_ ?_) <;> (intro hb; (fail_if_success (with_reducible injection hb)); rw [hb]; (try simp only [List.length_map] at hb)))) | (with_reducible apply WA_seq) | ((with_reducible apply gR hmix hN); exact (by kernel_rfl); (try dsimp only [List.append_eq, List.cons_append, List.nil_append])) | ((with_reducible apply WD_end); (first | exact no_draw | (intro _; kernel_rfl)); try simp only [thn, inB, List.length_map, List.cons_append, List.nil_append]) | ((with_reducible apply gCt); exact rfl; exact rfl) | ((with_reducible apply gCf); exact rfl; exact rfl) | ((with_reducible apply gCk); exact rfl; exact known; intro hb; rw [hb]; clear hb) | ((with_reducible apply gCn); exact rfl; exact known; intro hb; rw [hb]; clear hb) | (((with_reducible apply gC2); exact rfl) <;> (intro hb; rw [hb])) | (with_reducible apply WA_block) | ((with_reducible first | apply WA_skip | apply WA_ret | apply WA_exit | apply WA_label); try simp only [thn, inB, List.length_map, List.cons_append, List.nil_append])))
      refine ⟨(k, m2, sent + 1, sb), by dsimp only; omega, ⟨ob, B + 1, by dsimp only; omega, hK2⟩, ?_⟩
      (exact LeV [])
theorem law_NetworkKeeps (a0 : Option Addr) (len0 cap0 : Nat) (z0 : List Int) (w : World) (w0 : IsRowA .i64 w a0 len0 cap0 z0) :
    Calls Try.prog 4 #[.slice a0 len0 cap0] w fun e w' => e = .returned (.bool true) ∧ Ex w w' := by
  exact FnM.law (keeps31_m (z0.take len0)) (VRs.cons (row_VR w0) VRs.nil)
end Go.Proofs.Ytahjhnijmmnkeaa
