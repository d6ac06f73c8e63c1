/- OffersAdd: the walk. -/
import Derived.Test.YteppnjgobaggaaaGreatW38A
namespace Go.Proofs.YteppnjgobaggaaaGreat
set_option linter.unusedSimpArgs false
set_option linter.unusedVariables false
set_option linter.unnecessarySimpa false
set_option linter.unusedSectionVars false
set_option maxRecDepth 100000
open Go Go.RowKit Go.Am Go.Proofs.Grow

theorem add_pe (g : Led) (a : Int) (u : ByteArray) (i : Int) (v : ByteArray) (j n p q : Int) (x : Led) (k e : Int) (hl : g.lins.length ≤ 1000) (ha : g.accs.length ≤ 1000) (ho : g.offs.length ≤ 1000) (he : addO g a u i v j n p q = (x, k, e)) :
    FnM Tryz.prog 34 [] [aG g, vI a, aT u i, aT v j, vI n, vI p, vI q] (.tup [aG x, vI k, vI e]) [] := by
  have := addO_pm g a u i v j n p q hl ha ho
  rwa [he] at this
theorem cancel_pe (g : Led) (a i : Int) (x : Led) (e : Int) (hl : g.lins.length ≤ 1000) (ha : g.accs.length ≤ 1000) (ho : g.offs.length ≤ 1000) (he : cancelF g a i = (x, e)) : FnM Tryz.prog 35 [] [aG g, vI a, vI i] (.tup [aG x, vI e]) [] := by
  have := cancel_pm g a i hl ha ho
  rwa [he] at this
def hasB (k : Int) (l : List Int) : Bool := l.foldl (fun s x => s || x == k) false
theorem hasB_take {k : Int} {l : List Int} {q : Nat} (hq : q < l.length) : hasB k (l.take (q + 1)) = (hasB k (l.take q) || nth l q == k) := by
  unfold hasB
  rw [List.take_succ_eq_append_getElem hq, List.foldl_append, ← nth_getElem l q hq]; rfl
theorem hasB_mem {k : Int} {l : List Int} (h : k ∈ l) : hasB k l = true := by
  have key : ∀ (l : List Int) (s : Bool), (s = true ∨ k ∈ l) → l.foldl (fun s x => s || x == k) s = true := by
    intro l
    induction l with
    | nil => rintro s (h | h); exact h; cases h
    | cons x r ih =>
      intro s h
      rw [List.foldl_cons]
      refine ih _ ?_
      rcases h with h | h
      · left; rw [h]; rfl
      · rcases List.mem_cons.1 h with h | h
        · left; rw [h]; simp
        · exact .inr h
  exact key l false (.inr h)
set_option maxHeartbeats 8000000 in
theorem add38_m (l : List Int) : FnM Tryz.prog 8 [] [lI l] (vB true) [] := by
  refine FnM.of htb Tryz.func8 rfl rfl rfl rfl rfl fun cx hN h0 => ?_
  have hs : Sc.ok ⟨l.take 800, 0⟩ := ⟨Nat.zero_le _, by simp; omega⟩
  have hm := ledF_made ⟨l.take 800, 0⟩
  have hall := ledF_all ⟨l.take 800, 0⟩
  have hlen := ledF_lens ⟨l.take 800, 0⟩
  have ho := ledF_ok hs
  generalize ht : ledF ⟨l.take 800, 0⟩ = t at *
  obtain ⟨l1, l2, l3⟩ := hlen
  have m1 := hm.one
  have b1 := t.2.n_bd (k := (t.1.accs.length : Int) - 1 + 1) (by omega)
  have hf := hm.found (i := 1 + t.2.n ((t.1.accs.length : Int) - 1 + 1)) (by omega) (by omega)
  have hr := chkO_zero.1 hall
  have hnid := chkO_nid hall
  generalize hsd : 1 + t.2.n ((t.1.accs.length : Int) - 1 + 1) = a at *
  generalize hs1 : t.2.x ((t.1.accs.length : Int) - 1 + 1) = s1 at *
  have o1 : s1.ok := by rw [← hs1]; exact Sc.ok_x ho _
  rcases hX : addO t.1 a (nth assets3 (s1.n 3).toNat).1 (nth assets3 (s1.n 3).toNat).2 (nth assets3 ((s1.x 3).n 3).toNat).1 (nth assets3 ((s1.x 3).n 3).toNat).2 (1 + ((s1.x 3).x 3).n (90 - 1 + 1)) (1 + (((s1.x 3).x 3).x (90 - 1 + 1)).n (9 - 1 + 1)) (1 + ((((s1.x 3).x 3).x (90 - 1 + 1)).x (9 - 1 + 1)).n (9 - 1 + 1)) with ⟨x, kk, e⟩
  obtain ⟨x', k', e', hX', hlaw⟩ := add_law (u := (nth assets3 (s1.n 3).toNat).1) (i := (nth assets3 (s1.n 3).toNat).2) (v := (nth assets3 ((s1.x 3).n 3).toNat).1) (j := (nth assets3 ((s1.x 3).n 3).toNat).2) (n := 1 + ((s1.x 3).x 3).n (90 - 1 + 1)) (p := 1 + (((s1.x 3).x 3).x (90 - 1 + 1)).n (9 - 1 + 1)) (q := 1 + ((((s1.x 3).x 3).x (90 - 1 + 1)).x (9 - 1 + 1)).n (9 - 1 + 1)) hall l3 hf
  rw [hX] at hX'
  obtain ⟨rfl, rfl, rfl⟩ : x = x' ∧ kk = k' ∧ e = e' := by simpa using hX'
  clear hX'
  (repeat' (first | ((with_reducible apply WD_id); first | (refine WD_sum ?_) | (refine WD_nxt htb (by exact rfl) ?_) | (refine WD_unk (by exact rfl) ?_; first | (refine WD_t (by exact rfl) (by exact rfl) (by exact known) fun hb => ?_; rw [hb]; clear hb) | (refine WD_f (by exact rfl) (by exact rfl) (by exact known) fun hb => ?_; rw [hb]; clear hb)) | (refine WD_call (by exact rfl) ?_; first | (refine WD_cM (new_m _) ?_) | (refine WD_eM (fun h => ledz_e _ _ ?_ h) ?_; (exact hypS)) | (refine WD_cM (Range_m _ _ _ ?_ ?_ ?_ ?_) ?_; (exact hypS); (exact hypS); (exact hypS); (exact hypS))) | (refine WD_idx htb ?_) | (refine WD_idxo htb ?_) | (refine WD_lde1 htb ?_) | (refine WD_lde htb ?_) | (refine WD_ste htb ?_) | (refine WD_ap htb ?_) | (refine WD_ap0 htb ?_) | (refine WD_nil htb ?_) | (refine WD_nilr htb ?_) | (refine WD_rem ?_) | (refine WD_quo ?_) | (refine WD_slc htb ?_) | (refine WD_ixa htb ?_) | (refine WD_ix1 htb ?_) | (refine WD_t (by exact rfl) (by exact rfl) (by exact known) fun hb => ?_; rw [hb]; clear hb) | (refine WD_f (by exact rfl) (by exact rfl) (by exact known) fun hb => ?_; rw [hb]; clear hb)) | (with_reducible apply WA_seq) | ((with_reducible apply gR hmix hN); exact (by kernel_rfl); (try dsimp only [List.append_eq, List.cons_append, List.nil_append])) | ((with_reducible apply WD_end); (first | exact no_draw | (intro _; kernel_rfl)); try simp only [thn, inB, List.length_map, List.cons_append, List.nil_append]) | ((with_reducible apply gCt); exact rfl; exact rfl) | ((with_reducible apply gCf); exact rfl; exact rfl) | ((with_reducible apply gCk); exact rfl; exact known; intro hb; rw [hb]; clear hb) | ((with_reducible apply gCn); exact rfl; exact known; intro hb; rw [hb]; clear hb) | (with_reducible apply WA_block) | ((with_reducible first | apply WA_skip | apply WA_ret | apply WA_exit | apply WA_label); try simp only [thn, inB, List.length_map, List.cons_append, List.nil_append])))
  simp only [List.length_map]
  rw [hsd, hs1]
  (repeat' (first | ((with_reducible apply WD_id); first | (refine WD_sum ?_) | (refine WD_nxt htb (by exact rfl) ?_) | (refine WD_unk (by exact rfl) ?_; first | (refine WD_t (by exact rfl) (by exact rfl) (by exact known) fun hb => ?_; rw [hb]; clear hb) | (refine WD_f (by exact rfl) (by exact rfl) (by exact known) fun hb => ?_; rw [hb]; clear hb)) | (refine WD_call (by exact rfl) ?_; first | (refine WD_cM (asset_m _ ?_) ?_; (exact hypS)) | (refine WD_cM (Range_m _ _ _ ?_ ?_ ?_ ?_) ?_; (exact hypS); (exact hypS); (exact hypS); (exact hypS)) | (refine WD_e0 (fun h => add_pe _ _ _ _ _ _ _ _ _ _ _ _ ?_ ?_ ?_ h) ?_; (exact hypS); (exact hypS); (exact hypS))) | (refine WD_idx htb ?_) | (refine WD_idxo htb ?_) | (refine WD_lde1 htb ?_) | (refine WD_lde htb ?_) | (refine WD_ste htb ?_) | (refine WD_ap htb ?_) | (refine WD_ap0 htb ?_) | (refine WD_nil htb ?_) | (refine WD_nilr htb ?_) | (refine WD_rem ?_) | (refine WD_quo ?_) | (refine WD_slc htb ?_) | (refine WD_ixa htb ?_) | (refine WD_ix1 htb ?_) | (refine WD_t (by exact rfl) (by exact rfl) (by exact known) fun hb => ?_; rw [hb]; clear hb) | (refine WD_f (by exact rfl) (by exact rfl) (by exact known) fun hb => ?_; rw [hb]; clear hb)) | (with_reducible apply WA_seq) | ((with_reducible apply gR hmix hN); exact (by kernel_rfl); (try dsimp only [List.append_eq, List.cons_append, List.nil_append])) | ((with_reducible apply WD_end); (first | exact no_draw | (intro _; kernel_rfl)); try simp only [thn, inB, List.length_map, List.cons_append, List.nil_append]) | ((with_reducible apply gCt); exact rfl; exact rfl) | ((with_reducible apply gCf); exact rfl; exact rfl) | ((with_reducible apply gCk); exact rfl; exact known; intro hb; rw [hb]; clear hb) | ((with_reducible apply gCn); exact rfl; exact known; intro hb; rw [hb]; clear hb) | (with_reducible apply WA_block) | ((with_reducible first | apply WA_skip | apply WA_ret | apply WA_exit | apply WA_label); try simp only [thn, inB, List.length_map, List.cons_append, List.nil_append])))
  generalize (nth assets3 (s1.n 3).toNat).1 = u at *
  generalize (nth assets3 (s1.n 3).toNat).2 = i at *
  generalize (nth assets3 ((s1.x 3).n 3).toNat).1 = v at *
  generalize (nth assets3 ((s1.x 3).n 3).toNat).2 = j at *
  rcases hlaw with ⟨n0, n1, n2⟩ | ⟨rfl, hc, hk, x6, xa, xl, xn, c1, c2, c3, c4, c5⟩
  · have t1 : (e != 0) = true := by simp [n0]
    have t2 : (e != 74) = true := by simp [n1]
    have t3 : (e != 67) = true := by simp [n2]
    (repeat' (first | ((with_reducible apply WD_id); first | (refine WD_sum ?_) | (refine WD_nxt htb (by exact rfl) ?_) | (refine WD_unk (by exact rfl) ?_; first | (refine WD_t (by exact rfl) (by exact rfl) (by exact known) fun hb => ?_; rw [hb]; clear hb) | (refine WD_f (by exact rfl) (by exact rfl) (by exact known) fun hb => ?_; rw [hb]; clear hb) | ((refine WD_tf (by exact rfl) (by exact rfl) ?_ ?_) <;> (intro hb; (fail_if_success (with_reducible injection hb)); rw [hb]; (try simp only [List.length_map] at hb)))) | (refine WD_call (by exact rfl) ?_; first | (refine WD_c0 (sane38_m) ?_)) | (refine WD_idx htb ?_) | (refine WD_idxo htb ?_) | (refine WD_lde1 htb ?_) | (refine WD_lde htb ?_) | (refine WD_ste htb ?_) | (refine WD_ap htb ?_) | (refine WD_ap0 htb ?_) | (refine WD_nil htb ?_) | (refine WD_nilr htb ?_) | (refine WD_rem ?_) | (refine WD_quo ?_) | (refine WD_slc htb ?_) | (refine WD_ixa htb ?_) | (refine WD_ix1 htb ?_) | (refine WD_t (by exact rfl) (by exact rfl) (by exact known) fun hb => ?_; rw [hb]; clear hb) | (refine WD_f (by exact rfl) (by exact rfl) (by exact known) fun hb => ?_; rw [hb]; clear hb) | ((refine WD_tf (by exact rfl) (by exact rfl) ?_ ?_) <;> (intro hb; (fail_if_success (with_reducible injection hb)); rw [hb]; (try simp only [List.length_map] at hb)))) | (with_reducible apply WA_seq) | ((with_reducible apply gR hmix hN); exact (by kernel_rfl); (try dsimp only [List.append_eq, List.cons_append, List.nil_append])) | ((with_reducible apply WD_end); (first | exact no_draw | (intro _; kernel_rfl)); try simp only [thn, inB, List.length_map, List.cons_append, List.nil_append]) | ((with_reducible apply gCt); exact rfl; exact rfl) | ((with_reducible apply gCf); exact rfl; exact rfl) | ((with_reducible apply gCk); exact rfl; exact known; intro hb; rw [hb]; clear hb) | ((with_reducible apply gCn); exact rfl; exact known; intro hb; rw [hb]; clear hb) | (((with_reducible apply gC2); exact rfl) <;> (intro hb; rw [hb])) | (with_reducible apply WA_block) | ((with_reducible first | apply WA_skip | apply WA_ret | apply WA_exit | apply WA_label); try simp only [thn, inB, List.length_map, List.cons_append, List.nil_append])))
    exact gE (.inr rfl) rfl rfl trivial
  generalize ((((s1.x 3).x 3).x (90 - 1 + 1)).x (9 - 1 + 1)).x (9 - 1 + 1) = sr at *
  have hbl : (bookI x u i v j).length ≤ 6 := by
    have hr2 := chkO_zero.1 hc
    have h1 := (book_srt hr2 u i v j).2.2.2
    have h2 := List.length_filter_le (pairO u i v j) x.offs
    unfold bookI
    rw [if_pos hc, List.length_map]; omega
  have hhas := hasB_mem c5
  clear c5
  generalize hb1 : bookI x u i v j = bk at *
  generalize hb2 : bookI t.1 u i v j = bg at *
  have x1 : x.lins.length ≤ 1000 := by rw [xl]; omega
  have x2 : x.accs.length ≤ 1000 := by rw [xa]; omega
  have x3 : x.offs.length ≤ 1000 := by omega
  have fa := found_pos hr.right.accs hf
  (repeat' (first | ((with_reducible apply WD_id); first | (refine WD_sum ?_) | (refine WD_nxt htb (by exact rfl) ?_) | (refine WD_unk (by exact rfl) ?_; first | (refine WD_t (by exact rfl) (by exact rfl) (by exact known) fun hb => ?_; rw [hb]; clear hb) | (refine WD_f (by exact rfl) (by exact rfl) (by exact known) fun hb => ?_; rw [hb]; clear hb) | ((refine WD_tf (by exact rfl) (by exact rfl) ?_ ?_) <;> (intro hb; (fail_if_success (with_reducible injection hb)); rw [hb]; (try simp only [List.length_map] at hb)))) | (refine WD_call (by exact rfl) ?_; first | (refine WD_e0 (fun h => Book_pe _ _ _ _ _ _ ?_ ?_ ?_ h) ?_; (exact hypS); (exact hypS); (exact hypS))) | (refine WD_idx htb ?_) | (refine WD_idxo htb ?_) | (refine WD_lde1 htb ?_) | (refine WD_lde htb ?_) | (refine WD_ste htb ?_) | (refine WD_ap htb ?_) | (refine WD_ap0 htb ?_) | (refine WD_nil htb ?_) | (refine WD_nilr htb ?_) | (refine WD_rem ?_) | (refine WD_quo ?_) | (refine WD_slc htb ?_) | (refine WD_ixa htb ?_) | (refine WD_ix1 htb ?_) | (refine WD_t (by exact rfl) (by exact rfl) (by exact known) fun hb => ?_; rw [hb]; clear hb) | (refine WD_f (by exact rfl) (by exact rfl) (by exact known) fun hb => ?_; rw [hb]; clear hb) | ((refine WD_tf (by exact rfl) (by exact rfl) ?_ ?_) <;> (intro hb; (fail_if_success (with_reducible injection hb)); rw [hb]; (try simp only [List.length_map] at hb)))) | (with_reducible apply WA_seq) | ((with_reducible apply gR hmix hN); exact (by kernel_rfl); (try dsimp only [List.append_eq, List.cons_append, List.nil_append])) | ((with_reducible apply WD_end); (first | exact no_draw | (intro _; kernel_rfl)); try simp only [thn, inB, List.length_map, List.cons_append, List.nil_append]) | ((with_reducible apply gCt); exact rfl; exact rfl) | ((with_reducible apply gCf); exact rfl; exact rfl) | ((with_reducible apply gCk); exact rfl; exact known; intro hb; rw [hb]; clear hb) | ((with_reducible apply gCn); exact rfl; exact known; intro hb; rw [hb]; clear hb) | (((with_reducible apply gC2); exact rfl) <;> (intro hb; rw [hb])) | (with_reducible apply WA_block) | ((with_reducible first | apply WA_skip | apply WA_ret | apply WA_exit | apply WA_label); try simp only [thn, inB, List.length_map, List.cons_append, List.nil_append])))
  (refine WA_forV (bk.length) [64, 12] [9000, 4, 6, 7, 8] (fun k => [(64, vI k), (12, vB (hasB kk (bk.take k)))]) (fun k => [(4, .box 30 (cellsOf (aG t.1))), (6, .box 37 [vS u, vI i]), (7, .box 37 [vS v, vI j]), (8, .box 30 (cellsOf (aG x))), Sc.box sr]) (fun k => True) ?h0 ?_)
  case h0 => trivial
  intro q hq _
  by_cases hq' : q < bk.length
  · have d1 : decide ((q : Int) < (bk.length : Int)) = true := by simp only [decide_eq_true_eq]; omega
    have hst := @hasB_take kk bk q hq'
    cases h1 : hasB kk (bk.take q) with
    | true =>
      have e : hasB kk (bk.take (q + 1)) = true := by rw [hst, h1]; rfl
      (repeat' (first | ((with_reducible apply WD_id); first | (refine WD_sum ?_) | (refine WD_nxt htb (by exact rfl) ?_) | (refine WD_unk (by exact rfl) ?_; first | (refine WD_t (by exact rfl) (by exact rfl) (by exact known) fun hb => ?_; rw [hb]; clear hb) | (refine WD_f (by exact rfl) (by exact rfl) (by exact known) fun hb => ?_; rw [hb]; clear hb) | ((refine WD_tf (by exact rfl) (by exact rfl) ?_ ?_) <;> (intro hb; (fail_if_success (with_reducible injection hb)); rw [hb]; (try simp only [List.length_map] at hb)))) | (refine WD_idx htb ?_) | (refine WD_idxo htb ?_) | (refine WD_lde1 htb ?_) | (refine WD_lde htb ?_) | (refine WD_ste htb ?_) | (refine WD_ap htb ?_) | (refine WD_ap0 htb ?_) | (refine WD_nil htb ?_) | (refine WD_nilr htb ?_) | (refine WD_rem ?_) | (refine WD_quo ?_) | (refine WD_slc htb ?_) | (refine WD_ixa htb ?_) | (refine WD_ix1 htb ?_) | (refine WD_t (by exact rfl) (by exact rfl) (by exact known) fun hb => ?_; rw [hb]; clear hb) | (refine WD_f (by exact rfl) (by exact rfl) (by exact known) fun hb => ?_; rw [hb]; clear hb) | ((refine WD_tf (by exact rfl) (by exact rfl) ?_ ?_) <;> (intro hb; (fail_if_success (with_reducible injection hb)); rw [hb]; (try simp only [List.length_map] at hb)))) | (with_reducible apply WA_seq) | ((with_reducible apply gR hmix hN); exact (by kernel_rfl); (try dsimp only [List.append_eq, List.cons_append, List.nil_append])) | ((with_reducible apply WD_end); (first | exact no_draw | (intro _; kernel_rfl)); try simp only [thn, inB, List.length_map, List.cons_append, List.nil_append]) | ((with_reducible apply gCt); exact rfl; exact rfl) | ((with_reducible apply gCf); exact rfl; exact rfl) | ((with_reducible apply gCk); exact rfl; exact known; intro hb; rw [hb]; clear hb) | ((with_reducible apply gCn); exact rfl; exact known; intro hb; rw [hb]; clear hb) | (((with_reducible apply gC2); exact rfl) <;> (intro hb; rw [hb])) | (with_reducible apply WA_block) | ((with_reducible first | apply WA_skip | apply WA_ret | apply WA_exit | apply WA_label); try simp only [thn, inB, List.length_map, List.cons_append, List.nil_append])))
      refine ⟨hq', trivial, ?_⟩
      rw [e]
      (exact LeV [])
    | false =>
      have e : hasB kk (bk.take (q + 1)) = (nth bk q == kk) := by rw [hst, h1]; rfl
      (repeat' (first | ((with_reducible apply WD_id); first | (refine WD_sum ?_) | (refine WD_nxt htb (by exact rfl) ?_) | (refine WD_unk (by exact rfl) ?_; first | (refine WD_t (by exact rfl) (by exact rfl) (by exact known) fun hb => ?_; rw [hb]; clear hb) | (refine WD_f (by exact rfl) (by exact rfl) (by exact known) fun hb => ?_; rw [hb]; clear hb)) | (refine WD_idx htb ?_) | (refine WD_idxo htb ?_) | (refine WD_lde1 htb ?_) | (refine WD_lde htb ?_) | (refine WD_ste htb ?_) | (refine WD_ap htb ?_) | (refine WD_ap0 htb ?_) | (refine WD_nil htb ?_) | (refine WD_nilr htb ?_) | (refine WD_rem ?_) | (refine WD_quo ?_) | (refine WD_slc htb ?_) | (refine WD_ixa htb ?_) | (refine WD_ix1 htb ?_) | (refine WD_t (by exact rfl) (by exact rfl) (by exact known) fun hb => ?_; rw [hb]; clear hb) | (refine WD_f (by exact rfl) (by exact rfl) (by exact known) fun hb => ?_; rw [hb]; clear hb)) | (with_reducible apply WA_seq) | ((with_reducible apply gR hmix hN); exact (by kernel_rfl); (try dsimp only [List.append_eq, List.cons_append, List.nil_append])) | ((with_reducible apply WD_end); (first | exact no_draw | (intro _; kernel_rfl)); try simp only [thn, inB, List.length_map, List.cons_append, List.nil_append]) | ((with_reducible apply gCt); exact rfl; exact rfl) | ((with_reducible apply gCf); exact rfl; exact rfl) | ((with_reducible apply gCk); exact rfl; exact known; intro hb; rw [hb]; clear hb) | ((with_reducible apply gCn); exact rfl; exact known; intro hb; rw [hb]; clear hb) | (with_reducible apply WA_block) | ((with_reducible first | apply WA_skip | apply WA_ret | apply WA_exit | apply WA_label); try simp only [thn, inB, List.length_map, List.cons_append, List.nil_append])))
      refine ⟨hq', trivial, ?_⟩
      rw [e]
      (exact LeV [])
  have d1 : decide ((q : Int) < (bk.length : Int)) = false := by simp only [decide_eq_false_iff_not]; omega
  obtain rfl : q = bk.length := by omega
  rw [List.take_length, hhas]
  have t1 : (kk == t.1.nid) = true := by simp [hk]
  have t2 : ((bk.length : Int) == (bg.length : Int) + 1) = true := by simp [c4]
  have t3 : eqLed { x with offs := t.1.offs, nid := x.nid - 1 } t.1 = true := by
    have e : ({ x with offs := t.1.offs, nid := x.nid - 1 } : Led) = t.1 := by
      refine Eq.trans ?_ c3
      have : x.nid - 1 = t.1.nid := by omega
      rw [this]
    rw [e]; exact eqLed_refl _
  have l4 : ({ x with offs := t.1.offs, nid := x.nid - 1 } : Led).offs.length ≤ 1000 := by show t.1.offs.length ≤ 1000; omega
  (repeat' (first | ((with_reducible apply WD_id); first | (refine WD_sum ?_) | (refine WD_nxt htb (by exact rfl) ?_) | (refine WD_unk (by exact rfl) ?_; first | (refine WD_t (by exact rfl) (by exact rfl) (by exact known) fun hb => ?_; rw [hb]; clear hb) | (refine WD_f (by exact rfl) (by exact rfl) (by exact known) fun hb => ?_; rw [hb]; clear hb) | ((refine WD_tf (by exact rfl) (by exact rfl) ?_ ?_) <;> (intro hb; (fail_if_success (with_reducible injection hb)); rw [hb]; (try simp only [List.length_map] at hb)))) | (refine WD_call (by exact rfl) ?_; first | (refine WD_e0 (fun h => Book_pe _ _ _ _ _ _ ?_ ?_ ?_ h) ?_; (exact hypS); (exact hypS); (exact hypS)) | (refine WD_e0 (fun h => cancel_pe (g := x) _ _ _ _ ?_ ?_ ?_ h) ?_; (exact hypS); (exact hypS); (exact hypS)) | (refine WD_c0 (sameO_rm (g := { x with offs := t.1.offs, nid := x.nid - 1 }) (h := t.1) ?_ ?_ ?_) ?_; (exact hypS); (exact hypS); (exact hypS)) | (refine WD_c0 (sane38_m) ?_)) | (refine WD_idx htb ?_) | (refine WD_idxo htb ?_) | (refine WD_lde1 htb ?_) | (refine WD_lde htb ?_) | (refine WD_ste htb ?_) | (refine WD_ap htb ?_) | (refine WD_ap0 htb ?_) | (refine WD_nil htb ?_) | (refine WD_nilr htb ?_) | (refine WD_rem ?_) | (refine WD_quo ?_) | (refine WD_slc htb ?_) | (refine WD_ixa htb ?_) | (refine WD_ix1 htb ?_) | (refine WD_t (by exact rfl) (by exact rfl) (by exact known) fun hb => ?_; rw [hb]; clear hb) | (refine WD_f (by exact rfl) (by exact rfl) (by exact known) fun hb => ?_; rw [hb]; clear hb) | ((refine WD_tf (by exact rfl) (by exact rfl) ?_ ?_) <;> (intro hb; (fail_if_success (with_reducible injection hb)); rw [hb]; (try simp only [List.length_map] at hb)))) | (with_reducible apply WA_seq) | ((with_reducible apply gR hmix hN); exact (by kernel_rfl); (try dsimp only [List.append_eq, List.cons_append, List.nil_append])) | ((with_reducible apply WD_end); (first | exact no_draw | (intro _; kernel_rfl)); try simp only [thn, inB, List.length_map, List.cons_append, List.nil_append]) | ((with_reducible apply gCt); exact rfl; exact rfl) | ((with_reducible apply gCf); exact rfl; exact rfl) | ((with_reducible apply gCk); exact rfl; exact known; intro hb; rw [hb]; clear hb) | ((with_reducible apply gCn); exact rfl; exact known; intro hb; rw [hb]; clear hb) | (((with_reducible apply gC2); exact rfl) <;> (intro hb; rw [hb])) | (with_reducible apply WA_block) | ((with_reducible first | apply WA_skip | apply WA_ret | apply WA_exit | apply WA_label); try simp only [thn, inB, List.length_map, List.cons_append, List.nil_append])))
  exact gE (.inr rfl) rfl rfl trivial
theorem law_OffersAdd (a0 : Option Addr) (len0 cap0 : Nat) (z0 : List Int) (w : World) (w0 : IsRowA .i64 w a0 len0 cap0 z0) :
    Calls Tryz.prog 8 #[.slice a0 len0 cap0] w fun e w' => e = .returned (.bool true) ∧ Ex w w' :=
  FnM.law (add38_m (z0.take len0)) (VRs.cons (row_VR w0) VRs.nil)
end Go.Proofs.YteppnjgobaggaaaGreat
