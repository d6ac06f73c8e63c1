/- TrustlinesKeep and TrustlinesMove: the walks. -/
import Derived.Test.YteppnjgobaggaaaW37A
import Derived.Test.YteppnjgobaggaaaWR4
import Derived.Test.YteppnjgobaggaaaPlainP
namespace Go.Proofs.Yteppnjgobaggaaa
set_option linter.unusedSimpArgs false
set_option linter.unusedVariables false
set_option linter.unnecessarySimpa false
set_option linter.unusedSectionVars false
set_option maxRecDepth 100000
open Go Go.RowKit Go.Am Go.Proofs.Grow

set_option maxHeartbeats 8000000 in
theorem keep37_m (l : List Int) (f : Int) (f0 : 0 ≤ f) (f1 : f ≤ 65535) : FnM Try.prog 5 [] [lI l, .d (.v (.int .u16 f))] (vB true) [] := by
  refine FnM.of htb Try.func5 rfl rfl rfl rfl rfl fun cx hN h0 => ?_
  have hs : Sc.ok ⟨l.take 800, 0⟩ := ⟨Nat.zero_le _, by simp; omega⟩
  have hm := ledF_made ⟨l.take 800, 0⟩
  have hg := chkL_zero.1 (ledF_right ⟨l.take 800, 0⟩)
  have hlen := ledF_lens ⟨l.take 800, 0⟩
  have ho := ledF_ok hs
  generalize ht : ledF ⟨l.take 800, 0⟩ = t at *
  obtain ⟨l1, l2, l3⟩ := hlen
  have m1 := hm.one
  have hb := t.2.n_bd (k := (t.1.accs.length : Int) - 1 + 1) (by omega)
  have hb2 := (t.2.x ((t.1.accs.length : Int) - 1 + 1)).n_bd (k := 3) (by decide)
  have hn : 0 ≤ (IntKind.i64.wrap f).tmod 700 ∧ (IntKind.i64.wrap f).tmod 700 ≤ 699 := by
    rw [IntWalk.i64_in f (by omega), Int.tmod_eq_emod_of_nonneg f0]; omega
  have ha := asset3_ok hb2.1 (by omega)
  have hf := hm.found (i := 1 + t.2.n ((t.1.accs.length : Int) - 1 + 1)) (by omega) (by omega)
  (repeat' (first | ((with_reducible apply WD_id); first | (refine WD_sum ?_) | (refine WD_nxt htb (by exact rfl) ?_) | (refine WD_unk (by exact rfl) ?_; first | (refine WD_t (by exact rfl) (by exact rfl) (by exact known) fun hb => ?_; rw [hb]; clear hb) | (refine WD_f (by exact rfl) (by exact rfl) (by exact known) fun hb => ?_; rw [hb]; clear hb) | ((refine WD_tf (by exact rfl) (by exact rfl) ?_ ?_) <;> (intro hb; (fail_if_success (with_reducible injection hb)); rw [hb]; (try simp only [List.length_map] at hb)))) | (refine WD_call (by exact rfl) ?_; first | (refine WD_cM (new_m _) ?_) | (refine WD_eM (fun h => led_e _ _ ?y0 h) ?_; (case y0 => exact hypS)) | (refine WD_cM (Range_m _ _ _ ?y0 ?y1 ?y2 ?y3) ?_; (case y0 => exact hypS); (case y1 => exact hypS); (case y2 => exact hypS); (case y3 => exact hypS)) | (refine WD_cM (asset_m _ ?y0) ?_; (case y0 => exact hypS))) | (refine WD_idx htb ?_) | (refine WD_idxo htb ?_) | (refine WD_lde1 htb ?_) | (refine WD_lde htb ?_) | (refine WD_ste htb ?_) | (refine WD_ap htb ?_) | (refine WD_ap0 htb ?_) | (refine WD_nil htb ?_) | (refine WD_nilr htb ?_) | (refine WD_rem ?_) | (refine WD_quo ?_) | (refine WD_slc htb ?_) | (refine WD_ixa htb ?_) | (refine WD_ix1 htb ?_) | (refine WD_t (by exact rfl) (by exact rfl) (by exact known) fun hb => ?_; rw [hb]; clear hb) | (refine WD_f (by exact rfl) (by exact rfl) (by exact known) fun hb => ?_; rw [hb]; clear hb) | ((refine WD_tf (by exact rfl) (by exact rfl) ?_ ?_) <;> (intro hb; (fail_if_success (with_reducible injection hb)); rw [hb]; (try simp only [List.length_map] at hb)))) | (with_reducible apply WA_seq) | ((with_reducible apply gR hmix hN); exact (by kernel_rfl); (try dsimp only [List.append_eq, List.cons_append, List.nil_append])) | ((with_reducible apply WD_end); (first | exact no_draw | (intro _; kernel_rfl)); try simp only [thn, inB, List.length_map, List.cons_append, List.nil_append]) | ((with_reducible apply gCt); exact rfl; exact rfl) | ((with_reducible apply gCf); exact rfl; exact rfl) | ((with_reducible apply gCk); exact rfl; exact known; intro hb; rw [hb]; clear hb) | ((with_reducible apply gCn); exact rfl; exact known; intro hb; rw [hb]; clear hb) | (((with_reducible apply gC2); exact rfl) <;> (intro hb; rw [hb])) | (with_reducible apply WA_block) | ((with_reducible first | apply WA_skip | apply WA_ret | apply WA_exit | apply WA_label); try simp only [thn, inB, List.length_map, List.cons_append, List.nil_append])))
  generalize (IntKind.i64.wrap f).tmod 700 = n at *
  generalize (1 : Int) + t.2.n ((t.1.accs.length : Int) - 1 + 1) = a at *
  generalize (nth assets3 ((t.2.x ((t.1.accs.length : Int) - 1 + 1)).n 3).toNat).1 = u at *
  generalize (nth assets3 ((t.2.x ((t.1.accs.length : Int) - 1 + 1)).n 3).toNat).2 = i at *
  generalize t.1 = g at *
  obtain ⟨x, y, e, q, lo, own, p1, p2, p3, p4, p5, p6, p7, p8, p9, p10, p11, p12, p13, p14, p15⟩ := keep_pack hg hg.len hf ha hn.1 hn.2
  have hsame : (!eqLed g g) = false := by rw [eqLed_refl]; rfl
  clear hm ht hb hb2 m1 ho hs
  cases hqi : (i == a) <;> cases hnn : eqT u i ⟨#[]⟩ 0 <;> cases own
  all_goals try (
    exfalso
    have q1 := p14
    have q2 := p15
    rw [hqi, hnn] at q1
    rw [hqi, hnn] at q2
    simp at q1 q2
    done)
  all_goals (cases hd1 : decide (n ≤ roomF g a u i) <;> cases hd2 : decide (n ≤ heldF g a u i))
  all_goals
    rw [hd1, hqi, hnn] at p4
    rw [hd2, hqi, hnn] at p5
    first | (have k4 : (e == 0) = true := p4) | (have k4 : (e == 0) = false := p4)
    first | (have k5 : (q == 0) = true := p5) | (have k5 : (q == 0) = false := p5)
    clear p4 p5
    try have j1 : ((e == 0) != true) = false := by rw [k4]; rfl
    try have j2 : ((e == 0) != false) = false := by rw [k4]; rfl
    try have j3 : ((e == 0) != eqT u i ⟨#[]⟩ 0) = false := by rw [k4, hnn]; rfl
    try have j4 : ((q == 0) != true) = false := by rw [k5]; rfl
    try have j5 : ((q == 0) != false) = false := by rw [k5]; rfl
    try have j6 : ((q == 0) != eqT u i ⟨#[]⟩ 0) = false := by rw [k5, hnn]; rfl
    try have j7 : (q != 0) = false := by simpa using k5
    try have j8 : (q != 0) = true := by simpa using k5
    try have w1 : q = 0 := by simpa using k5
    try have v1 := p7 rfl w1
    try have j9 : (issued y.lins u i == issued g.lins u i - n) = true := by rw [v1]; simp
    try have w2 : e = 0 := by simpa using k4
    try have v24 := p6 w2
    try have v2 := v24.1
    try have v3 := v24.2.1
    try have v4 := v24.2.2
    try have j10 : (chkL x.lins x.accs != 0) = false := by rw [v2]; rfl
    try have v56 := v4 rfl
    try have v5 := v56.1
    try have v6 := v56.2
    try have j11 : (issued x.lins u i != issued g.lins u i + n) = false := by rw [v5]; simp
    try have j12 : (heldF x a u i != heldF g a u i + n) = false := by rw [v6]; simp
    (repeat' (first | ((with_reducible apply WD_id); first | (refine WD_sum ?_) | (refine WD_nxt htb (by exact rfl) ?_) | (refine WD_unk (by exact rfl) ?_; first | (refine WD_t (by exact rfl) (by exact rfl) (by exact known) fun hb => ?_; rw [hb]; clear hb) | (refine WD_f (by exact rfl) (by exact rfl) (by exact known) fun hb => ?_; rw [hb]; clear hb) | ((refine WD_tf (by exact rfl) (by exact rfl) ?_ ?_) <;> (intro hb; (fail_if_success (with_reducible injection hb)); rw [hb]; (try simp only [List.length_map] at hb)))) | (refine WD_call (by exact rfl) ?_; first | (refine WD_e0 (fun h => credit_pe _ _ _ _ _ _ _ ?y0 ?y1 ?y2 h) ?_; (case y0 => exact hypS); (case y1 => exact hypS); (case y2 => exact hypS)) | (refine WD_e0 (fun h => debit_pe _ _ _ _ _ _ _ ?y0 ?y1 ?y2 h) ?_; (case y0 => exact hypS); (case y1 => exact hypS); (case y2 => exact hypS)) | (refine WD_e0 (fun h => findL_pe _ _ _ _ _ _ ?y0 h) ?_; (case y0 => exact hypS)) | (refine WD_c0 (room_pm _ _ _ _ ?y0 ?y1) ?_; (case y0 => exact hypS); (case y1 => exact hypS)) | (refine WD_c0 (held_pm _ _ _ _ ?y0 ?y1) ?_; (case y0 => exact hypS); (case y1 => exact hypS)) | (refine WD_c0 (sameG_rm _ _ ?y0 ?y1 ?y2) ?_; (case y0 => exact hypS); (case y1 => exact hypS); (case y2 => exact hypS)) | (refine WD_c0 (chkL_pm _ _ ?y0 ?y1) ?_; (case y0 => exact hypS); (case y1 => exact hypS)) | (refine WD_c0 (iss_pm _ _ _ ?y0) ?_; (case y0 => exact hypS)) | (refine WD_c0 (sane37_m) ?_)) | (refine WD_eq (eqT_step rfl rfl rfl) ?_) | (refine WD_eq (neB_step rfl rfl rfl) ?_) | (refine WD_idx htb ?_) | (refine WD_idxo htb ?_) | (refine WD_lde1 htb ?_) | (refine WD_lde htb ?_) | (refine WD_ste htb ?_) | (refine WD_ap htb ?_) | (refine WD_ap0 htb ?_) | (refine WD_nil htb ?_) | (refine WD_nilr htb ?_) | (refine WD_rem ?_) | (refine WD_quo ?_) | (refine WD_slc htb ?_) | (refine WD_ixa htb ?_) | (refine WD_ix1 htb ?_) | (refine WD_t (by exact rfl) (by exact rfl) (by exact known) fun hb => ?_; rw [hb]; clear hb) | (refine WD_f (by exact rfl) (by exact rfl) (by exact known) fun hb => ?_; rw [hb]; clear hb) | ((refine WD_tf (by exact rfl) (by exact rfl) ?_ ?_) <;> (intro hb; (fail_if_success (with_reducible injection hb)); rw [hb]; (try simp only [List.length_map] at hb)))) | (with_reducible apply WA_seq) | ((with_reducible apply gR hmix hN); exact (by kernel_rfl); (try dsimp only [List.append_eq, List.cons_append, List.nil_append])) | ((with_reducible apply WD_end); (first | exact no_draw | (intro _; kernel_rfl)); try simp only [thn, inB, List.length_map, List.cons_append, List.nil_append]) | ((with_reducible apply gCt); exact rfl; exact rfl) | ((with_reducible apply gCf); exact rfl; exact rfl) | ((with_reducible apply gCk); exact rfl; exact known; intro hb; rw [hb]; clear hb) | ((with_reducible apply gCn); exact rfl; exact known; intro hb; rw [hb]; clear hb) | (((with_reducible apply gC2); exact rfl) <;> (intro hb; rw [hb])) | (with_reducible apply WA_block) | ((with_reducible first | apply WA_skip | apply WA_ret | apply WA_exit | apply WA_label); try simp only [thn, inB, List.length_map, List.cons_append, List.nil_append])))
    all_goals exact gE (.inr rfl) rfl rfl trivial
theorem law_TrustlinesKeep (a0 : Option Addr) (len0 cap0 : Nat) (z0 : List Int) (a1 : Int) (w : World) (w0 : IsRowA .i64 w a0 len0 cap0 z0) (w1 : (Lit.int .u16 a1).wf = true) :
    Calls Try.prog 5 #[.slice a0 len0 cap0, .int .u16 a1] w fun e w' => e = .returned (.bool true) ∧ Ex w w' := by
  have hu : 0 ≤ a1 ∧ a1 ≤ 65535 := by simpa [Lit.wf, IntKind.min, IntKind.max, IntKind.bits, IntKind.signed] using w1
  exact FnM.law (keep37_m (z0.take len0) a1 hu.1 hu.2) (VRs.cons (row_VR w0) (VRs.cons (.d (.v _)) VRs.nil))
end Go.Proofs.Yteppnjgobaggaaa
