/- NetworkParts: the walk. -/
import Derived.Test.YtahjhnijmmnkeaaNtJ
import Derived.Test.YtahjhnijmmnkeaaAmY
namespace Go.Proofs.Ytahjhnijmmnkeaa
set_option linter.unusedSimpArgs false
set_option linter.unusedVariables false
set_option linter.unnecessarySimpa false
set_option linter.unusedSectionVars false
set_option maxRecDepth 100000
open Go Go.RowKit Go.Am Go.Proofs.Grow

theorem heal_pe (n m : Net) (hl : n.pars.length ≤ 4000) (hp : n.parts.length ≤ 1000) (hd : n.dels.length ≤ 1000) (he : healF n = m) : FnM Try.prog 13 [] [aN n] (aN m) [] := he ▸ heal_m n hl hp hd
set_option maxHeartbeats 8000000 in
theorem parts31_m (l : List Int) (f g : Int) (f0 : 0 ≤ f) (f1 : f ≤ 255) (g0 : 0 ≤ g) (g1 : g ≤ 255) : FnM Try.prog 3 [] [lI l, .d (.v (.int .u8 f)), .d (.v (.int .u8 g))] (vB true) [] := by
  refine FnM.of htb Try.func3 rfl rfl rfl rfl rfl fun cx hN h0 => ?_
  have hs : Sc.ok ⟨l.take 800, 0⟩ := ⟨Nat.zero_le _, by simp; omega⟩
  have hb := (⟨l.take 800, 0⟩ : Sc).n_bd (k := 62 - 1 + 1) (by omega)
  have hx : 0 ≤ (IntKind.i64.wrap f).tmod 6 ∧ (IntKind.i64.wrap f).tmod 6 ≤ 5 := by
    rw [IntWalk.i64_in f (by omega), Int.tmod_eq_emod_of_nonneg f0]; omega
  have hy : 0 ≤ (IntKind.i64.wrap g).tmod 6 ∧ (IntKind.i64.wrap g).tmod 6 ≤ 5 := by
    rw [IntWalk.i64_in g (by omega), Int.tmod_eq_emod_of_nonneg g0]; omega
  (repeat' (first | ((with_reducible apply WD_id); first | (refine WD_sum ?_) | (refine WD_nxt htb (by exact rfl) ?_) | (refine WD_unk (by exact rfl) ?_; first | (refine WD_t (by exact rfl) (by exact rfl) (by exact known) fun hb => ?_; rw [hb]; clear hb) | (refine WD_f (by exact rfl) (by exact rfl) (by exact known) fun hb => ?_; rw [hb]; clear hb) | ((refine WD_tf (by exact rfl) (by exact rfl) ?_ ?_) <;> (intro hb; (fail_if_success (with_reducible injection hb)); rw [hb]; (try simp only [List.length_map] at hb)))) | (refine WD_call (by exact rfl) ?_; first | (refine WD_cM (new_m _) ?_) | (refine WD_cM (Range_m _ _ _ ?_ ?_ ?_ ?_) ?_; (exact hypS); (exact hypS); (exact hypS); (exact hypS))) | (refine WD_eq (bnot_step rfl rfl rfl) ?_) | (refine WD_idx htb ?_) | (refine WD_idxo htb ?_) | (refine WD_lde1 htb ?_) | (refine WD_lde htb ?_) | (refine WD_ste htb ?_) | (refine WD_ap htb ?_) | (refine WD_ap0 htb ?_) | (refine WD_nil htb ?_) | (refine WD_nilr htb ?_) | (refine WD_rem ?_) | (refine WD_quo ?_) | (refine WD_slc htb ?_) | (refine WD_ixa htb ?_) | (refine WD_ix1 htb ?_) | (refine WD_t (by exact rfl) (by exact rfl) (by exact known) fun hb => ?_; rw [hb]; clear hb) | (refine WD_f (by exact rfl) (by exact rfl) (by exact known) fun hb => ?_; rw [hb]; clear hb) | ((refine WD_tf (by exact rfl) (by exact rfl) ?_ ?_) <;> (intro hb; (fail_if_success (with_reducible injection hb)); rw [hb]; (try simp only [List.length_map] at hb)))) | (with_reducible apply WA_seq) | ((with_reducible apply gR hmix hN); exact (by kernel_rfl); (try dsimp only [List.append_eq, List.cons_append, List.nil_append])) | ((with_reducible apply WD_end); (first | exact no_draw | (intro _; kernel_rfl)); try simp only [thn, inB, List.length_map, List.cons_append, List.nil_append]) | ((with_reducible apply gCt); exact rfl; exact rfl) | ((with_reducible apply gCf); exact rfl; exact rfl) | ((with_reducible apply gCk); exact rfl; exact known; intro hb; rw [hb]; clear hb) | ((with_reducible apply gCn); exact rfl; exact known; intro hb; rw [hb]; clear hb) | (((with_reducible apply gC2); exact rfl) <;> (intro hb; rw [hb])) | (with_reducible apply WA_block) | ((with_reducible first | apply WA_skip | apply WA_ret | apply WA_exit | apply WA_label); try simp only [thn, inB, List.length_map, List.cons_append, List.nil_append])))
  generalize (IntKind.i64.wrap f).tmod 6 = x at *
  generalize (IntKind.i64.wrap g).tmod 6 = y at *
  generalize (⟨l.take 800, 0⟩ : Sc).n (62 - 1 + 1) = q at *
  have hL : 1 ≤ 1 + q ∧ 1 + q ≤ 62 := by omega
  generalize 1 + q = L at *
  clear hb hs
  obtain ⟨n, b, e1, e2, e3, e4, e5, e6, e7, e8, hr, hlaw⟩ := parts_law hL.1 hL.2 hx.1 (by omega) hy.1 (by omega) (x := x) (y := y)
  have hr0 := right0
  have hpb : partsB [L, bnotI 63 L] = true := by
    unfold partF at e1
    rw [if_neg (by simp [chkN_iff.2 hr0])] at e1
    cases h : partsB [L, bnotI 63 L] with
    | true => rfl
    | false => rw [if_pos h] at e1; exact absurd (congrArg Prod.snd e1) (by show ¬ (1 : Int) = 0; decide)
  have l1 : net0.pars.length ≤ 4000 := Nat.zero_le _
  have l2 : net0.parts.length ≤ 1000 := Nat.zero_le _
  have l3 : net0.dels.length ≤ 1000 := Nat.zero_le _
  have l4 : ([L, bnotI 63 L] : List Int).length ≤ 1000 := by simp
  have l5 : n.parts.length ≤ 1000 := by omega
  have l6 : n.dels.length ≤ 1000 := by rw [e7]; simp
  have hwx : IntKind.u64.wrap x = x := by simp [IntKind.wrap, IntKind.bits, IntKind.signed]; omega
  have hwy : IntKind.u64.wrap y = y := by simp [IntKind.wrap, IntKind.bits, IntKind.signed]; omega
  have w0 : 0 ≤ IntKind.u64.wrap x := by omega
  have w1 : 0 ≤ IntKind.u64.wrap y := by omega
  have t0 : ((0 : Int) != 0) = false := rfl
  have t1 : (b != b) = false := by simp
  have t2 : (b != (bandI (L.fdiv (2 ^ (min (IntKind.u64.wrap x).toNat 64))) 1 != bandI (L.fdiv (2 ^ (min (IntKind.u64.wrap y).toNat 64))) 1)) = false := by
    rw [hwx, hwy]
    have : (bandI (L.fdiv (2 ^ (min x.toNat 64))) 1 != bandI (L.fdiv (2 ^ (min y.toNat 64))) 1) = b := e4
    rw [this]; simp
  by_cases hxy : x = y
  · have t3 : (x == y) = true := by simp [hxy]
    clear hlaw e4
    (repeat' (first | ((with_reducible apply WD_id); first | (refine WD_sum ?_) | (refine WD_nxt htb (by exact rfl) ?_) | (refine WD_unk (by exact rfl) ?_; first | (refine WD_t (by exact rfl) (by exact rfl) (by exact known) fun hb => ?_; rw [hb]; clear hb) | (refine WD_f (by exact rfl) (by exact rfl) (by exact known) fun hb => ?_; rw [hb]; clear hb) | ((refine WD_tf (by exact rfl) (by exact rfl) ?_ ?_) <;> (intro hb; (fail_if_success (with_reducible injection hb)); rw [hb]; (try simp only [List.length_map] at hb)))) | (refine WD_call (by exact rfl) ?_; first | (refine WD_e0 (fun h => part_pe (n := net0) (l := [L, bnotI 63 L]) (m := n) (e := 0) ?_ ?_ ?_ ?_ ?_ h) ?_; (exact hypS); (exact hypS); (exact hypS); (exact hypS); (exact hypS)) | (refine WD_e0 (fun h => apart_pe (n := n) (r := b) _ _ ?_ h) ?_; (exact hypS)) | (refine WD_c0 (sane31_m) ?_)) | (refine WD_eq (neBn_step rfl rfl rfl) ?_) | (refine WD_eq (shrV_step rfl rfl rfl) ?_) | (refine WD_eq (band_step rfl rfl rfl) ?_) | (refine WD_idx htb ?_) | (refine WD_idxo htb ?_) | (refine WD_lde1 htb ?_) | (refine WD_lde htb ?_) | (refine WD_ste htb ?_) | (refine WD_ap htb ?_) | (refine WD_ap0 htb ?_) | (refine WD_nil htb ?_) | (refine WD_nilr htb ?_) | (refine WD_rem ?_) | (refine WD_quo ?_) | (refine WD_slc htb ?_) | (refine WD_ixa htb ?_) | (refine WD_ix1 htb ?_) | (refine WD_t (by exact rfl) (by exact rfl) (by exact known) fun hb => ?_; rw [hb]; clear hb) | (refine WD_f (by exact rfl) (by exact rfl) (by exact known) fun hb => ?_; rw [hb]; clear hb) | ((refine WD_tf (by exact rfl) (by exact rfl) ?_ ?_) <;> (intro hb; (fail_if_success (with_reducible injection hb)); rw [hb]; (try simp only [List.length_map] at hb)))) | (with_reducible apply WA_seq) | ((with_reducible apply gR hmix hN); exact (by kernel_rfl); (try dsimp only [List.append_eq, List.cons_append, List.nil_append])) | ((with_reducible apply WD_end); (first | exact no_draw | (intro _; kernel_rfl)); try simp only [thn, inB, List.length_map, List.cons_append, List.nil_append]) | ((with_reducible apply gCt); exact rfl; exact rfl) | ((with_reducible apply gCf); exact rfl; exact rfl) | ((with_reducible apply gCk); exact rfl; exact known; intro hb; rw [hb]; clear hb) | ((with_reducible apply gCn); exact rfl; exact known; intro hb; rw [hb]; clear hb) | (((with_reducible apply gC2); exact rfl) <;> (intro hb; rw [hb])) | (with_reducible apply WA_block) | ((with_reducible first | apply WA_skip | apply WA_ret | apply WA_exit | apply WA_label); try simp only [thn, inB, List.length_map, List.cons_append, List.nil_append])))
    exact gE (.inr rfl) rfl rfl trivial
  · have t3 : (x == y) = false := by simp [hxy]
    obtain ⟨m, p, rest, r, none, q1, q2, q3, q4, q5, q6, q7, q8, q9, q10, hm, hh⟩ := hlaw hxy
    have t4 : ((0 : Int) == 0) = true := rfl
    have t5 : (((p.length : Int) == 0) == b) = true := by
      rw [← q4]
      by_cases h : p.length = 0
      · simp [h]
      · have : ((p.length : Int) == 0) = false := by simp only [beq_eq_false_iff_ne]; omega
        rw [this]; simp [h]
    have t6 : ((rest.pars.length : Int) == 0) = true := by simp [q5]
    have t7 : ((r.length : Int) == 1) = true := by simp only [beq_iff_eq]; omega
    have t8 : ((none.pars.length : Int) == 0) = true := by simp [q7]
    have l7 : n.pars.length < 4000 := by rw [e5]; simp
    have l8 : n.next < 1000000000 := by omega
    have l9 : n.dels.length = 0 ∨ n.dels.length = 100 := by rw [e7]; exact .inl rfl
    have l10 : ∀ x ∈ n.dels, 0 ≤ x ∧ x ≤ 20 := by rw [e7]; intro x hx; cases hx
    have l11 : m.parts.length ≤ 1000 := by omega
    have l12 : m.dels.length ≤ 1000 := by rw [q10]; simp
    have l13 : m.pars.length ≤ 4000 := by omega
    have a1 : 0 ≤ x ∧ x < 10 := by omega
    have a2 : 0 ≤ y ∧ y < 10 := by omega
    have a3 : (0 : Int) ≤ 5 ∧ (5 : Int) ≤ 200 := by omega
    obtain ⟨hl, hhl⟩ : ∃ u, healF m = u := ⟨_, rfl⟩
    rw [hhl] at hh q3
    have l14 : hl.parts.length ≤ 1000 := by rw [← hhl]; exact Nat.zero_le _
    have l15 : hl.dels.length ≤ 1000 := by rw [← hhl]; exact Nat.zero_le _
    clear hlaw e4 q5 q6 q7 q4
    (repeat' (first | ((with_reducible apply WD_id); first | (refine WD_sum ?_) | (refine WD_nxt htb (by exact rfl) ?_) | (refine WD_unk (by exact rfl) ?_; first | (refine WD_t (by exact rfl) (by exact rfl) (by exact known) fun hb => ?_; rw [hb]; clear hb) | (refine WD_f (by exact rfl) (by exact rfl) (by exact known) fun hb => ?_; rw [hb]; clear hb) | ((refine WD_tf (by exact rfl) (by exact rfl) ?_ ?_) <;> (intro hb; (fail_if_success (with_reducible injection hb)); rw [hb]; (try simp only [List.length_map] at hb)))) | (refine WD_call (by exact rfl) ?_; first | (refine WD_e0 (fun h => part_pe (n := net0) (l := [L, bnotI 63 L]) (m := n) (e := 0) ?_ ?_ ?_ ?_ ?_ h) ?_; (exact hypS); (exact hypS); (exact hypS); (exact hypS); (exact hypS)) | (refine WD_e0 (fun h => apart_pe (n := n) (r := b) _ _ ?_ h) ?_; (exact hypS)) | (refine WD_e0 (fun h => sendN_pe (n := n) (slot := 0) (m := m) (e := 0) _ _ _ ?_ ?_ ?_ ?_ ?_ ?_ ?_ ?_ ?_ h) ?_; (exact hypS); (exact hypS); (exact hypS); (exact hypS); (exact hypS); (exact hypS); (exact hypS); (exact hypS); (exact hypS)) | (refine WD_e0 (fun h => due_pe (n := m) (out := p) (m := rest) _ ?_ ?_ ?_ h) ?_; (exact hypS); (exact hypS); (exact hypS)) | (refine WD_e0 (fun h => heal_pe (n := m) (m := hl) ?_ ?_ ?_ h) ?_; (exact hypS); (exact hypS); (exact hypS)) | (refine WD_e0 (fun h => due_pe (n := hl) (out := r) (m := none) _ ?_ ?_ ?_ h) ?_; (exact hypS); (exact hypS); (exact hypS)) | (refine WD_c0 (sane31_m) ?_)) | (refine WD_eq (neBn_step rfl rfl rfl) ?_) | (refine WD_eq (eqBn_step rfl rfl rfl) ?_) | (refine WD_eq (shrV_step rfl rfl rfl) ?_) | (refine WD_eq (band_step rfl rfl rfl) ?_) | (refine WD_idx htb ?_) | (refine WD_idxo htb ?_) | (refine WD_lde1 htb ?_) | (refine WD_lde htb ?_) | (refine WD_ste htb ?_) | (refine WD_ap htb ?_) | (refine WD_ap0 htb ?_) | (refine WD_nil htb ?_) | (refine WD_nilr htb ?_) | (refine WD_rem ?_) | (refine WD_quo ?_) | (refine WD_slc htb ?_) | (refine WD_ixa htb ?_) | (refine WD_ix1 htb ?_) | (refine WD_t (by exact rfl) (by exact rfl) (by exact known) fun hb => ?_; rw [hb]; clear hb) | (refine WD_f (by exact rfl) (by exact rfl) (by exact known) fun hb => ?_; rw [hb]; clear hb) | ((refine WD_tf (by exact rfl) (by exact rfl) ?_ ?_) <;> (intro hb; (fail_if_success (with_reducible injection hb)); rw [hb]; (try simp only [List.length_map] at hb)))) | (with_reducible apply WA_seq) | ((with_reducible apply gR hmix hN); exact (by kernel_rfl); (try dsimp only [List.append_eq, List.cons_append, List.nil_append])) | ((with_reducible apply WD_end); (first | exact no_draw | (intro _; kernel_rfl)); try simp only [thn, inB, List.length_map, List.cons_append, List.nil_append]) | ((with_reducible apply gCt); exact rfl; exact rfl) | ((with_reducible apply gCf); exact rfl; exact rfl) | ((with_reducible apply gCk); exact rfl; exact known; intro hb; rw [hb]; clear hb) | ((with_reducible apply gCn); exact rfl; exact known; intro hb; rw [hb]; clear hb) | (((with_reducible apply gC2); exact rfl) <;> (intro hb; rw [hb])) | (with_reducible apply WA_block) | ((with_reducible first | apply WA_skip | apply WA_ret | apply WA_exit | apply WA_label); try simp only [thn, inB, List.length_map, List.cons_append, List.nil_append])))
    exact gE (.inr rfl) rfl rfl trivial
theorem law_NetworkParts (a0 : Option Addr) (len0 cap0 : Nat) (z0 : List Int) (a1 a2 : Int) (w : World) (w0 : IsRowA .i64 w a0 len0 cap0 z0) (w1 : (Lit.int .u8 a1).wf = true) (w2 : (Lit.int .u8 a2).wf = true) :
    Calls Try.prog 3 #[.slice a0 len0 cap0, .int .u8 a1, .int .u8 a2] w fun e w' => e = .returned (.bool true) ∧ Ex w w' := by
  have hu : 0 ≤ a1 ∧ a1 ≤ 255 := by simpa [Lit.wf, IntKind.min, IntKind.max, IntKind.bits, IntKind.signed] using w1
  have hv : 0 ≤ a2 ∧ a2 ≤ 255 := by simpa [Lit.wf, IntKind.min, IntKind.max, IntKind.bits, IntKind.signed] using w2
  exact FnM.law (parts31_m (z0.take len0) a1 a2 hu.1 hu.2 hv.1 hv.2) (VRs.cons (row_VR w0) (VRs.cons (.d (.v _)) (VRs.cons (.d (.v _)) VRs.nil)))
end Go.Proofs.Ytahjhnijmmnkeaa
