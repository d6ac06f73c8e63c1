/- Contracts: declarations that are sorted and of which the first two of each number stay. -/
import Derived.Test.YtkjpnmodlmlhdaaGreatDoorQAN
namespace Go.Proofs.YtkjpnmodlmlhdaaGreatDoor
set_option linter.unusedSimpArgs false
set_option linter.unusedVariables false
set_option linter.unnecessarySimpa false
set_option linter.unusedSectionVars false
set_option maxRecDepth 100000
open Go Go.RowKit Go.Am Go.Proofs.Grow Gos
/-- Plain declarations of a node. -/
abbrev Of (kk : Nat) (l : List Dc) : Prop := ∀ d ∈ l, PlD d ∧ d.nd = (kk : Int)
theorem swpG_mem {l : List Dc} {j : Nat} (h : j + 1 < l.length) {x : Dc} (hx : x ∈ swpG l j) : x ∈ l := by
  unfold swpG at hx
  rcases List.mem_or_eq_of_mem_set hx with hx | rfl
  · rcases List.mem_or_eq_of_mem_set hx with hx | rfl
    · exact hx
    · exact nth_mem l j (by omega)
  · exact nth_mem l (j + 1) h
theorem swap_rowsD (m : List Dc) (j : Nat) : ((m.map rD).set (j + 1) (rD (nth m j))).set j (rD (nth m (j + 1))) = (swpG m j).map rD := by
  unfold swpG; rw [List.map_set, List.map_set]
abbrev srD (l : List Dc) (k : Nat) : List Dc := srtG ord0 l k
set_option maxHeartbeats 2000000 in
theorem insD_m (kk : Nat) (l : List Dc) (n : Nat) (hl : Of kk l ∧ l.length ≤ 16) (hn : n = l.length) : FnM Tryz.prog 176 [(13, .arr 40 6 (l.map rD))] [.own 13, vI 0, vI n, .clo 57 []] (.tup []) [(13, .arr 40 6 ((srD l (l.length - 1)).map rD))] := by
  subst hn
  obtain ⟨hof, hl⟩ := hl
  refine FnM.of htb Tryz.func176 rfl rfl rfl rfl rfl fun cx hN h0 => ?_
  (repeat' (first | ((with_reducible apply WD_id); first | (refine WD_sum ?_) | (refine WD_nxt htb (by exact rfl) ?_) | (refine WD_idxo htb ?_) | (refine WD_lde htb ?_) | (refine WD_ste htb ?_) | (refine WD_t (by exact rfl) (by exact rfl) (by exact known) fun hb => ?_; rw [hb]; clear hb)) | (with_reducible apply WA_seq) | ((with_reducible apply gR hmix hN); exact (by kernel_rfl); (try dsimp only [List.append_eq, List.cons_append, List.nil_append])) | ((with_reducible apply WD_end); (first | exact no_draw | (intro _; kernel_rfl)); try simp only [thn, inB, List.length_map, List.cons_append, List.nil_append]) | ((with_reducible apply gCt); exact rfl; exact rfl) | ((with_reducible apply gCf); exact rfl; exact rfl) | ((with_reducible apply gCk); exact rfl; exact known; intro hb; rw [hb]; clear hb) | ((with_reducible apply gCn); exact rfl; exact known; intro hb; rw [hb]; clear hb) | (with_reducible apply WA_block) | ((with_reducible first | apply WA_skip | apply WA_ret | apply WA_exit | apply WA_label); try simp only [thn, inB, List.length_map, List.cons_append, List.nil_append])))
  (refine WA_forV (l.length) [8] [13] (fun k => [(8, vI ((k : Int) + 1))]) (fun k => [(13, .arr 40 6 ((srD l k).map rD))]) (fun k => k ≤ l.length - 1 ∧ Of kk (srD l k)) ?h0 ?_)
  case h0 => exact ⟨Nat.zero_le _, hof⟩
  intro k hk hI
  obtain ⟨hI, hIo⟩ := hI
  have hlen : (srD l k).length = l.length := srtG_len ord0 l k
  by_cases hk1 : k + 1 < l.length
  · have d1 : decide ((k : Int) + 1 < (l.length : Int)) = true := by simp only [decide_eq_true_eq]; omega
    (repeat' (first | ((with_reducible apply WD_id); first | (refine WD_sum ?_) | (refine WD_nxt htb (by exact rfl) ?_) | (refine WD_idxo htb ?_) | (refine WD_lde htb ?_) | (refine WD_ste htb ?_) | (refine WD_t (by exact rfl) (by exact rfl) (by exact known) fun hb => ?_; rw [hb]; clear hb)) | (with_reducible apply WA_seq) | ((with_reducible apply gR hmix hN); exact (by kernel_rfl); (try dsimp only [List.append_eq, List.cons_append, List.nil_append])) | ((with_reducible apply WD_end); (first | exact no_draw | (intro _; kernel_rfl)); try simp only [thn, inB, List.length_map, List.cons_append, List.nil_append]) | ((with_reducible apply gCt); exact rfl; exact rfl) | ((with_reducible apply gCf); exact rfl; exact rfl) | ((with_reducible apply gCk); exact rfl; exact known; intro hb; rw [hb]; clear hb) | ((with_reducible apply gCn); exact rfl; exact known; intro hb; rw [hb]; clear hb) | (with_reducible apply WA_block) | ((with_reducible first | apply WA_skip | apply WA_ret | apply WA_exit | apply WA_label); try simp only [thn, inB, List.length_map, List.cons_append, List.nil_append])))
    (refine WA_anyV (α := Nat × List Dc) (fun x => x.1) ((k + 1, srD l k)) [9] [13] (fun x => [(9, vI x.1)]) (fun x => [(13, .arr 40 6 (x.2.map rD))]) (fun x => snkG ord0 x.1 x.2 = srD l (k + 1) ∧ x.2.length = l.length ∧ x.1 ≤ k + 1 ∧ Of kk x.2) ?h0 ?_)
    case h0 => exact ⟨rfl, hlen, Nat.le_refl _, hIo⟩
    rintro ⟨j, m⟩ ⟨h1, h2, h3, h4⟩
    dsimp only at h1 h2 h3 h4
    cases j with
    | zero =>
      have d2 : decide (((0 : Nat) : Int) > 0) = false := by decide
      have e : m = srD l (k + 1) := h1
      (repeat' (first | ((with_reducible apply WD_id); first | (refine WD_sum ?_) | (refine WD_nxt htb (by exact rfl) ?_) | (refine WD_idxo htb ?_) | (refine WD_lde htb ?_) | (refine WD_ste htb ?_) | (refine WD_t (by exact rfl) (by exact rfl) (by exact known) fun hb => ?_; rw [hb]; clear hb)) | (with_reducible apply WA_seq) | ((with_reducible apply gR hmix hN); exact (by kernel_rfl); (try dsimp only [List.append_eq, List.cons_append, List.nil_append])) | ((with_reducible apply WD_end); (first | exact no_draw | (intro _; kernel_rfl)); try simp only [thn, inB, List.length_map, List.cons_append, List.nil_append]) | ((with_reducible apply gCt); exact rfl; exact rfl) | ((with_reducible apply gCf); exact rfl; exact rfl) | ((with_reducible apply gCk); exact rfl; exact known; intro hb; rw [hb]; clear hb) | ((with_reducible apply gCn); exact rfl; exact known; intro hb; rw [hb]; clear hb) | (with_reducible apply WA_block) | ((with_reducible first | apply WA_skip | apply WA_ret | apply WA_exit | apply WA_label); try simp only [thn, inB, List.length_map, List.cons_append, List.nil_append])))
      refine ⟨by omega, ⟨by omega, by rw [← e]; exact h4⟩, ?_⟩
      rw [e]
      (exact LeV [])
    | succ j =>
      have d2 : decide (((j + 1 : Nat) : Int) > 0) = true := by simp only [decide_eq_true_eq]; omega
      have e : (((j + 1 : Nat) : Int) - 1).toNat = j := by omega
      have hsw := swap_rowsD m j
      obtain ⟨a1, a2⟩ := h4 _ (nth_mem m (j + 1) (by omega))
      obtain ⟨b1, b2⟩ := h4 _ (nth_mem m j (by omega))
      rw [← e] at b1 b2
      have hcl := cmpD_lt (a := nth m (j + 1)) (b := nth m (((j + 1 : Nat) : Int) - 1).toNat) (a2.trans b2.symm)
      cases hb : ltD (nth m (j + 1)) (nth m j) with
      | true =>
        have hbn : decide (cmpD (nth m (j + 1)) (nth m (((j + 1 : Nat) : Int) - 1).toNat) < 0) = true := by rw [hcl, e]; exact hb
        (repeat' (first | ((with_reducible apply WD_id); first | (refine WD_sum ?_) | (refine WD_nxt htb (by exact rfl) ?_) | (refine WD_call (by exact rfl) ?_; first | (refine WD_c0 (cmpD_m _ _ ?_ ?_) ?_; (exact hyp); (exact hyp))) | (refine WD_idxo htb ?_) | (refine WD_lde htb ?_) | (refine WD_ste htb ?_) | (refine WD_t (by exact rfl) (by exact rfl) (by exact known) fun hb => ?_; rw [hb]; clear hb)) | (with_reducible apply WA_seq) | ((with_reducible apply gR hmix hN); exact (by kernel_rfl); (try dsimp only [List.append_eq, List.cons_append, List.nil_append])) | ((with_reducible apply WD_end); (first | exact no_draw | (intro _; kernel_rfl)); try simp only [thn, inB, List.length_map, List.cons_append, List.nil_append]) | ((with_reducible apply gCt); exact rfl; exact rfl) | ((with_reducible apply gCf); exact rfl; exact rfl) | ((with_reducible apply gCk); exact rfl; exact known; intro hb; rw [hb]; clear hb) | ((with_reducible apply gCn); exact rfl; exact known; intro hb; rw [hb]; clear hb) | (with_reducible apply WA_block) | ((with_reducible first | apply WA_skip | apply WA_ret | apply WA_exit | apply WA_label); try simp only [thn, inB, List.length_map, List.cons_append, List.nil_append])))
        refine WD_ste htb ?_ (hr := by rw [List.getElem?_set_ne (by omega)]; exact rowGet rD m (by omega))
        (repeat' (first | ((with_reducible apply WD_id); first | (refine WD_sum ?_) | (refine WD_nxt htb (by exact rfl) ?_) | (refine WD_idxo htb ?_) | (refine WD_lde htb ?_) | (refine WD_ste htb ?_) | (refine WD_t (by exact rfl) (by exact rfl) (by exact known) fun hb => ?_; rw [hb]; clear hb)) | (with_reducible apply WA_seq) | ((with_reducible apply gR hmix hN); exact (by kernel_rfl); (try dsimp only [List.append_eq, List.cons_append, List.nil_append])) | ((with_reducible apply WD_end); (first | exact no_draw | (intro _; kernel_rfl)); try simp only [thn, inB, List.length_map, List.cons_append, List.nil_append]) | ((with_reducible apply gCt); exact rfl; exact rfl) | ((with_reducible apply gCf); exact rfl; exact rfl) | ((with_reducible apply gCk); exact rfl; exact known; intro hb; rw [hb]; clear hb) | ((with_reducible apply gCn); exact rfl; exact known; intro hb; rw [hb]; clear hb) | (with_reducible apply WA_block) | ((with_reducible first | apply WA_skip | apply WA_ret | apply WA_exit | apply WA_label); try simp only [thn, inB, List.length_map, List.cons_append, List.nil_append])))
        refine ⟨(j, swpG m j), by dsimp only; omega, ⟨?_, by dsimp only; rw [swpG_len]; exact h2, by dsimp only; omega, fun x hx => h4 x (swpG_mem (by omega) hx)⟩, ?_⟩
        · rw [← h1]; exact (show snkG ord0 (j + 1) m = _ from if_pos hb).symm
        rw [e]
        (exact LeV [])
      | false =>
        have hbn : decide (cmpD (nth m (j + 1)) (nth m (((j + 1 : Nat) : Int) - 1).toNat) < 0) = false := by rw [hcl, e]; exact hb
        have hm : m = srD l (k + 1) := by rw [← h1]; exact (show snkG ord0 (j + 1) m = m from if_neg (by show ¬ ltD _ _ = true; simp [hb])).symm
        (repeat' (first | ((with_reducible apply WD_id); first | (refine WD_sum ?_) | (refine WD_nxt htb (by exact rfl) ?_) | (refine WD_call (by exact rfl) ?_; first | (refine WD_c0 (cmpD_m _ _ ?_ ?_) ?_; (exact hyp); (exact hyp))) | (refine WD_idxo htb ?_) | (refine WD_lde htb ?_) | (refine WD_ste htb ?_) | (refine WD_t (by exact rfl) (by exact rfl) (by exact known) fun hb => ?_; rw [hb]; clear hb)) | (with_reducible apply WA_seq) | ((with_reducible apply gR hmix hN); exact (by kernel_rfl); (try dsimp only [List.append_eq, List.cons_append, List.nil_append])) | ((with_reducible apply WD_end); (first | exact no_draw | (intro _; kernel_rfl)); try simp only [thn, inB, List.length_map, List.cons_append, List.nil_append]) | ((with_reducible apply gCt); exact rfl; exact rfl) | ((with_reducible apply gCf); exact rfl; exact rfl) | ((with_reducible apply gCk); exact rfl; exact known; intro hb; rw [hb]; clear hb) | ((with_reducible apply gCn); exact rfl; exact known; intro hb; rw [hb]; clear hb) | (with_reducible apply WA_block) | ((with_reducible first | apply WA_skip | apply WA_ret | apply WA_exit | apply WA_label); try simp only [thn, inB, List.length_map, List.cons_append, List.nil_append])))
        refine ⟨by omega, ⟨by omega, by rw [← hm]; exact h4⟩, ?_⟩
        rw [← hm]
        (exact LeV [])
  · have d1 : decide ((k : Int) + 1 < (l.length : Int)) = false := by simp only [decide_eq_false_iff_not]; omega
    (repeat' (first | ((with_reducible apply WD_id); first | (refine WD_sum ?_) | (refine WD_nxt htb (by exact rfl) ?_) | (refine WD_idxo htb ?_) | (refine WD_lde htb ?_) | (refine WD_ste htb ?_) | (refine WD_t (by exact rfl) (by exact rfl) (by exact known) fun hb => ?_; rw [hb]; clear hb)) | (with_reducible apply WA_seq) | ((with_reducible apply gR hmix hN); exact (by kernel_rfl); (try dsimp only [List.append_eq, List.cons_append, List.nil_append])) | ((with_reducible apply WD_end); (first | exact no_draw | (intro _; kernel_rfl)); try simp only [thn, inB, List.length_map, List.cons_append, List.nil_append]) | ((with_reducible apply gCt); exact rfl; exact rfl) | ((with_reducible apply gCf); exact rfl; exact rfl) | ((with_reducible apply gCk); exact rfl; exact known; intro hb; rw [hb]; clear hb) | ((with_reducible apply gCn); exact rfl; exact known; intro hb; rw [hb]; clear hb) | (with_reducible apply WA_block) | ((with_reducible first | apply WA_skip | apply WA_ret | apply WA_exit | apply WA_label); try simp only [thn, inB, List.length_map, List.cons_append, List.nil_append])))
    have e : k = l.length - 1 := by omega
    rw [← e]
    exact gE (.inl rfl) rfl rfl ⟨rfl, trivial⟩
theorem stbD_m (kk : Nat) (l : List Dc) (n : Nat) (hl : Of kk l ∧ l.length ≤ 16) (hn : n = l.length) : FnM Tryz.prog 131 [(13, .arr 40 6 (l.map rD))] [.own 13, vI n, .clo 57 []] (.tup []) [(13, .arr 40 6 ((srD l (l.length - 1)).map rD))] := by
  subst hn
  have hl16 := hl.2
  refine FnM.of htb Tryz.func131 rfl rfl rfl rfl rfl fun cx hN h0 => ?_
  have d1 : decide ((20 : Int) ≤ (l.length : Int)) = false := by simp only [decide_eq_false_iff_not]; omega
  have d2 : decide ((20 : Int) < (l.length : Int)) = false := by simp only [decide_eq_false_iff_not]; omega
  (repeat' (first | ((with_reducible apply WD_id); first | (refine WD_nxt htb (by exact rfl) ?_)) | (with_reducible apply WA_seq) | ((with_reducible apply gR hmix hN); exact (by kernel_rfl); (try dsimp only [List.append_eq, List.cons_append, List.nil_append])) | ((with_reducible apply WD_end); (first | exact no_draw | (intro _; kernel_rfl)); try simp only [thn, inB, List.length_map, List.cons_append, List.nil_append]) | ((with_reducible apply gCf); exact rfl; exact rfl) | ((with_reducible apply gCn); exact rfl; exact known; intro hb; rw [hb]; clear hb) | (with_reducible apply WA_block) | ((with_reducible first | apply WA_skip | apply WA_ret | apply WA_exit | apply WA_label); try simp only [thn, inB, List.length_map, List.cons_append, List.nil_append])))
  (refine WA_forV (0) [] [] (fun k => []) (fun k => []) (fun k => True) ?h0 ?_)
  case h0 => trivial
  intro k hk _
  (repeat' (first | ((with_reducible apply WD_id); first | (refine WD_nxt htb (by exact rfl) ?_) | (refine WD_call (by exact rfl) ?_; first | (refine WD_cM (insD_m (kk := kk) (l := l) (n := l.length) ?_ ?_) ?_; (exact hyp); (exact hyp)))) | (with_reducible apply WA_seq) | ((with_reducible apply gR hmix hN); exact (by kernel_rfl); (try dsimp only [List.append_eq, List.cons_append, List.nil_append])) | ((with_reducible apply WD_end); (first | exact no_draw | (intro _; kernel_rfl)); try simp only [thn, inB, List.length_map, List.cons_append, List.nil_append]) | ((with_reducible apply gCf); exact rfl; exact rfl) | ((with_reducible apply gCn); exact rfl; exact known; intro hb; rw [hb]; clear hb) | (with_reducible apply WA_block) | ((with_reducible first | apply WA_skip | apply WA_ret | apply WA_exit | apply WA_label); try simp only [thn, inB, List.length_map, List.cons_append, List.nil_append])))
  (refine WA_forV (0) [] [13] (fun k => []) (fun k => [(13, .arr 40 6 ((srD l (l.length - 1)).map rD))]) (fun k => True) ?h0 ?_)
  case h0 => trivial
  intro k2 hk2 _
  (repeat' (first | ((with_reducible apply WD_id); first | (refine WD_nxt htb (by exact rfl) ?_)) | (with_reducible apply WA_seq) | ((with_reducible apply gR hmix hN); exact (by kernel_rfl); (try dsimp only [List.append_eq, List.cons_append, List.nil_append])) | ((with_reducible apply WD_end); (first | exact no_draw | (intro _; kernel_rfl)); try simp only [thn, inB, List.length_map, List.cons_append, List.nil_append]) | ((with_reducible apply gCf); exact rfl; exact rfl) | ((with_reducible apply gCn); exact rfl; exact known; intro hb; rw [hb]; clear hb) | (with_reducible apply WA_block) | ((with_reducible first | apply WA_skip | apply WA_ret | apply WA_exit | apply WA_label); try simp only [thn, inB, List.length_map, List.cons_append, List.nil_append])))
  exact gE (.inl rfl) rfl rfl ⟨rfl, trivial⟩
theorem srtD_m (kk : Nat) (l : List Dc) (hl : Of kk l ∧ l.length ≤ 16) : FnM Tryz.prog 92 [(13, .arr 40 6 (l.map rD))] [.own 13, .clo 57 []] (.tup []) [(13, .arr 40 6 ((srD l (l.length - 1)).map rD))] := by
  refine FnM.of htb Tryz.func92 rfl rfl rfl rfl rfl fun cx hN h0 => ?_
  (repeat' (first | ((with_reducible apply WD_id); first | (refine WD_nxt htb (by exact rfl) ?_)) | (with_reducible apply WA_seq) | ((with_reducible apply gR hmix hN); exact (by kernel_rfl); (try dsimp only [List.append_eq, List.cons_append, List.nil_append])) | ((with_reducible apply WD_end); (first | exact no_draw | (intro _; kernel_rfl)); try simp only [thn, inB, List.length_map, List.cons_append, List.nil_append]) | (with_reducible apply WA_block) | ((with_reducible first | apply WA_skip | apply WA_ret | apply WA_exit | apply WA_label); try simp only [thn, inB, List.length_map, List.cons_append, List.nil_append])))
  rw [List.length_map]
  (repeat' (first | ((with_reducible apply WD_id); first | (refine WD_nxt htb (by exact rfl) ?_) | (refine WD_call (by exact rfl) ?_; first | (refine WD_cM (stbD_m (kk := kk) (l := l) (n := l.length) ?_ ?_) ?_; (exact hyp); (exact hyp)))) | (with_reducible apply WA_seq) | ((with_reducible apply gR hmix hN); exact (by kernel_rfl); (try dsimp only [List.append_eq, List.cons_append, List.nil_append])) | ((with_reducible apply WD_end); (first | exact no_draw | (intro _; kernel_rfl)); try simp only [thn, inB, List.length_map, List.cons_append, List.nil_append]) | (with_reducible apply WA_block) | ((with_reducible first | apply WA_skip | apply WA_ret | apply WA_exit | apply WA_label); try simp only [thn, inB, List.length_map, List.cons_append, List.nil_append])))
  exact gE (.inl rfl) rfl rfl ⟨rfl, trivial⟩
theorem ddF_snoc : ∀ (l o : List Dc) (x : Dc), ddF ord0 eqvD (l ++ [x]) o = ddS ord0 eqvD (ddF ord0 eqvD l o) x
  | [], o, x => rfl
  | d :: l, o, x => by rw [List.cons_append, ddF, ddF, ddF_snoc l]
theorem ddS_mem {o : List Dc} {x y : Dc} (h : y ∈ ddS ord0 eqvD o x) : y ∈ o ∨ y = x := by
  unfold ddS at h
  split at h
  · exact .inl h
  · rcases List.mem_append.1 h with h | h
    · exact .inl h
    · exact .inr (List.mem_singleton.1 h)
theorem ddF_mem : ∀ (l o : List Dc) {y : Dc}, y ∈ ddF ord0 eqvD l o → y ∈ l ∨ y ∈ o
  | [], o, y, h => .inr h
  | d :: l, o, y, h => by
    rcases ddF_mem l _ h with h | h
    · exact .inl (List.mem_cons_of_mem _ h)
    · rcases ddS_mem h with h | rfl
      · exact .inr h
      · exact .inl (by simp)
theorem ddS_len (o : List Dc) (x : Dc) : (ddS ord0 eqvD o x).length ≤ o.length + 1 := by
  unfold ddS; split <;> simp
theorem ddF_len : ∀ (l o : List Dc), (ddF ord0 eqvD l o).length ≤ o.length + l.length
  | [], o => by simp [ddF]
  | d :: l, o => by
    have h1 := ddF_len l (ddS ord0 eqvD o d)
    have h2 := ddS_len o d
    rw [ddF, List.length_cons]; omega
theorem snk_of {kk : Nat} : ∀ (j : Nat) {m : List Dc}, j < m.length → Of kk m → Of kk (snkG ord0 j m)
  | 0, m, _, h => h
  | j + 1, m, hj, h => by
    unfold snkG
    split
    · exact snk_of j (by rw [swpG_len]; omega) fun x hx => h x (swpG_mem hj hx)
    · exact h
theorem srt_of {kk : Nat} {l : List Dc} (h : Of kk l) : ∀ k, k < l.length ∨ k = 0 → Of kk (srD l k)
  | 0, _ => h
  | k + 1, hk => by
    have h1 := srt_of h k (.inl (by omega))
    exact snk_of (k + 1) (by rw [show (srtG ord0 l k).length = l.length from srtG_len ord0 l k]; omega) h1
set_option maxHeartbeats 2000000 in
theorem mrgd_m (kk : Nat) (a b : List Dc) (ha : Of kk a ∧ a.length ≤ 8) (hb : Of kk b ∧ b.length ≤ 8) : FnM Tryz.prog 54 [] [lD a, lD b] (lD (mgD a b)) [] := by
  have hab : Of kk (a ++ b) ∧ (a ++ b).length ≤ 16 := ⟨fun d hd => (List.mem_append.1 hd).elim (ha.1 d) (hb.1 d), by rw [List.length_append]; omega⟩
  have hcl : a.length ≤ 8 ∧ b.length ≤ 8 := ⟨ha.2, hb.2⟩
  have cc_m := concat_m a b hcl
  have ss_m := srtD_m kk (a ++ b) hab
  have hs : Of kk (srD (a ++ b) ((a ++ b).length - 1)) := srt_of hab.1 _ (by omega)
  have hsl : (srD (a ++ b) ((a ++ b).length - 1)).length = (a ++ b).length := srtG_len ord0 _ _
  have hmg : mgD a b = ddF ord0 eqvD (srD (a ++ b) ((a ++ b).length - 1)) [] := rfl
  have hl16 := hab.2
  rw [hmg]
  refine FnM.of htb Tryz.func54 rfl rfl rfl rfl rfl fun cx hN h0 => ?_
  (repeat' (first | ((with_reducible apply WD_id); first | (refine WD_sum ?_) | (refine WD_nxt htb (by exact rfl) ?_) | (refine WD_call (by exact rfl) ?_; first | (refine WD_cM (concat_m (a := a) (b := b) ?_) ?_; (exact hyp)) | (refine WD_cM (srtD_m (kk := kk) (l := a ++ b) ?_) ?_; (exact hyp))) | (refine WD_idxo htb ?_) | (refine WD_lde1 htb ?_) | (refine WD_lde htb ?_) | (refine WD_ap htb ?_) | (refine WD_t (by exact rfl) (by exact rfl) (by exact known) fun hb => ?_; rw [hb]; clear hb) | (refine WD_f (by exact rfl) (by exact rfl) (by exact known) fun hb => ?_; rw [hb]; clear hb)) | (with_reducible apply WA_seq) | ((with_reducible apply gR hmix hN); exact (by kernel_rfl); (try dsimp only [List.append_eq, List.cons_append, List.nil_append])) | ((with_reducible apply WD_end); (first | exact no_draw | (intro _; kernel_rfl)); try simp only [thn, inB, List.length_map, List.cons_append, List.nil_append]) | ((with_reducible apply gCt); exact rfl; exact rfl) | ((with_reducible apply gCf); exact rfl; exact rfl) | ((with_reducible apply gCk); exact rfl; exact known; intro hb; rw [hb]; clear hb) | ((with_reducible apply gCn); exact rfl; exact known; intro hb; rw [hb]; clear hb) | (with_reducible apply WA_block) | ((with_reducible first | apply WA_skip | apply WA_ret | apply WA_exit | apply WA_label); try simp only [thn, inB, List.length_map, List.cons_append, List.nil_append])))
  generalize srD (a ++ b) ((a ++ b).length - 1) = s at *
  rw [← hsl] at hl16
  refine WA_le (Le_nilT 60 6 40 6 rfl rfl) ?_
  (refine WA_forV (s.length) [18, 6] [13, 60] (fun k => [(18, vI k), (6, .own 60)]) (fun k => [(13, .arr 40 6 (s.map rD)), (60, .arr 40 6 ((ddF ord0 eqvD (s.take k) []).map rD))]) (fun k => True) ?h0 ?_)
  case h0 => trivial
  intro k hk _
  have hol := ddF_len (s.take k) []
  rw [List.length_take, List.length_nil] at hol
  have hom : Of kk (ddF ord0 eqvD (s.take k) []) := fun d hd => by
    rcases ddF_mem _ _ hd with h | h
    · exact hs d (List.mem_of_mem_take h)
    · cases h
  rcases Nat.lt_or_ge k s.length with hk' | hk'
  · have t1 : decide ((k : Int) < (s.length : Int)) = true := by simp; omega
    have hst : ddF ord0 eqvD (s.take (k + 1)) [] = ddS ord0 eqvD (ddF ord0 eqvD (s.take k) []) (nth s k) := by rw [List.take_succ_eq_append_getElem hk', ddF_snoc, nth_getElem _ _ hk']
    rw [hst]
    obtain ⟨p1, p2⟩ := hs _ (nth_mem s k hk')
    generalize ddF ord0 eqvD (s.take k) [] = o at *
    unfold ddS
    by_cases c0 : o.length > 0
    · have t2 : decide ((o.length : Int) > 0) = true := by simp only [decide_eq_true_eq]; omega
      have e1 : ((o.length : Int) - 1).toNat = o.length - 1 := by omega
      have e1b : ((o.length : Int) - 1).toNat < o.length := by omega
      obtain ⟨q1, q2⟩ := hom _ (nth_mem o _ e1b)
      have hce := cmpD_eq (a := nth o ((o.length : Int) - 1).toNat) (b := nth s k) (q2.trans p2.symm)
      cases c1 : eqvD (nth o (o.length - 1)) (nth s k) with
      | true =>
        have t3 : (cmpD (nth o ((o.length : Int) - 1).toNat) (nth s k) == 0) = true := by rw [hce, e1]; exact c1
        rw [if_pos (.inl ⟨c0, rfl⟩)]
        (repeat' (first | ((with_reducible apply WD_id); first | (refine WD_sum ?_) | (refine WD_nxt htb (by exact rfl) ?_) | (refine WD_call (by exact rfl) ?_; first | (refine WD_c0 (cmpD_m _ _ ?_ ?_) ?_; (exact hyp); (exact hyp))) | (refine WD_idxo htb ?_) | (refine WD_lde1 htb ?_) | (refine WD_lde htb ?_) | (refine WD_ap htb ?_) | (refine WD_t (by exact rfl) (by exact rfl) (by exact known) fun hb => ?_; rw [hb]; clear hb) | (refine WD_f (by exact rfl) (by exact rfl) (by exact known) fun hb => ?_; rw [hb]; clear hb)) | (with_reducible apply WA_seq) | ((with_reducible apply gR hmix hN); exact (by kernel_rfl); (try dsimp only [List.append_eq, List.cons_append, List.nil_append])) | ((with_reducible apply WD_end); (first | exact no_draw | (intro _; kernel_rfl)); try simp only [thn, inB, List.length_map, List.cons_append, List.nil_append]) | ((with_reducible apply gCt); exact rfl; exact rfl) | ((with_reducible apply gCf); exact rfl; exact rfl) | ((with_reducible apply gCk); exact rfl; exact known; intro hb; rw [hb]; clear hb) | ((with_reducible apply gCn); exact rfl; exact known; intro hb; rw [hb]; clear hb) | (with_reducible apply WA_block) | ((with_reducible first | apply WA_skip | apply WA_ret | apply WA_exit | apply WA_label); try simp only [thn, inB, List.length_map, List.cons_append, List.nil_append])))
        refine ⟨hk', trivial, ?_⟩
        (exact LeV [])
      | false =>
        have t3 : (cmpD (nth o ((o.length : Int) - 1).toNat) (nth s k) == 0) = false := by rw [hce, e1]; exact c1
        by_cases c2 : o.length > 1
        · have t4 : decide ((o.length : Int) > 1) = true := by simp only [decide_eq_true_eq]; omega
          have e2 : ((o.length : Int) - 2).toNat = o.length - 2 := by omega
          have e2b : ((o.length : Int) - 2).toNat < o.length := by omega
          by_cases c3 : (nth o (o.length - 2)).sq = (nth s k).sq
          · have t5 : ((nth o ((o.length : Int) - 2).toNat).sq == (nth s k).sq) = true := by rw [e2, c3]; simp
            rw [if_pos (.inr ⟨c2, c3⟩)]
            (repeat' (first | ((with_reducible apply WD_id); first | (refine WD_sum ?_) | (refine WD_nxt htb (by exact rfl) ?_) | (refine WD_call (by exact rfl) ?_; first | (refine WD_c0 (cmpD_m _ _ ?_ ?_) ?_; (exact hyp); (exact hyp))) | (refine WD_idxo htb ?_) | (refine WD_lde1 htb ?_) | (refine WD_lde htb ?_) | (refine WD_ap htb ?_) | (refine WD_t (by exact rfl) (by exact rfl) (by exact known) fun hb => ?_; rw [hb]; clear hb) | (refine WD_f (by exact rfl) (by exact rfl) (by exact known) fun hb => ?_; rw [hb]; clear hb)) | (with_reducible apply WA_seq) | ((with_reducible apply gR hmix hN); exact (by kernel_rfl); (try dsimp only [List.append_eq, List.cons_append, List.nil_append])) | ((with_reducible apply WD_end); (first | exact no_draw | (intro _; kernel_rfl)); try simp only [thn, inB, List.length_map, List.cons_append, List.nil_append]) | ((with_reducible apply gCt); exact rfl; exact rfl) | ((with_reducible apply gCf); exact rfl; exact rfl) | ((with_reducible apply gCk); exact rfl; exact known; intro hb; rw [hb]; clear hb) | ((with_reducible apply gCn); exact rfl; exact known; intro hb; rw [hb]; clear hb) | (with_reducible apply WA_block) | ((with_reducible first | apply WA_skip | apply WA_ret | apply WA_exit | apply WA_label); try simp only [thn, inB, List.length_map, List.cons_append, List.nil_append])))
            refine ⟨hk', trivial, ?_⟩
            (exact LeV [])
          · have t5 : ((nth o ((o.length : Int) - 2).toNat).sq == (nth s k).sq) = false := by rw [e2]; simpa using c3
            rw [if_neg (by rintro (⟨_, h⟩ | ⟨_, h⟩) <;> first | exact c3 h | (cases h; done))]
            (repeat' (first | ((with_reducible apply WD_id); first | (refine WD_sum ?_) | (refine WD_nxt htb (by exact rfl) ?_) | (refine WD_call (by exact rfl) ?_; first | (refine WD_c0 (cmpD_m _ _ ?_ ?_) ?_; (exact hyp); (exact hyp))) | (refine WD_idxo htb ?_) | (refine WD_lde1 htb ?_) | (refine WD_lde htb ?_) | (refine WD_ap htb ?_) | (refine WD_t (by exact rfl) (by exact rfl) (by exact known) fun hb => ?_; rw [hb]; clear hb) | (refine WD_f (by exact rfl) (by exact rfl) (by exact known) fun hb => ?_; rw [hb]; clear hb)) | (with_reducible apply WA_seq) | ((with_reducible apply gR hmix hN); exact (by kernel_rfl); (try dsimp only [List.append_eq, List.cons_append, List.nil_append])) | ((with_reducible apply WD_end); (first | exact no_draw | (intro _; kernel_rfl)); try simp only [thn, inB, List.length_map, List.cons_append, List.nil_append]) | ((with_reducible apply gCt); exact rfl; exact rfl) | ((with_reducible apply gCf); exact rfl; exact rfl) | ((with_reducible apply gCk); exact rfl; exact known; intro hb; rw [hb]; clear hb) | ((with_reducible apply gCn); exact rfl; exact known; intro hb; rw [hb]; clear hb) | (with_reducible apply WA_block) | ((with_reducible first | apply WA_skip | apply WA_ret | apply WA_exit | apply WA_label); try simp only [thn, inB, List.length_map, List.cons_append, List.nil_append])))
            refine ⟨hk', trivial, ?_⟩
            rw [List.map_append]
            (exact LeV [(60, 54)])
        · have t4 : decide ((o.length : Int) > 1) = false := by simp only [decide_eq_false_iff_not]; omega
          rw [if_neg (by rintro (⟨h1, h⟩ | ⟨h, h1⟩) <;> first | exact c2 h | (cases h; done))]
          (repeat' (first | ((with_reducible apply WD_id); first | (refine WD_sum ?_) | (refine WD_nxt htb (by exact rfl) ?_) | (refine WD_call (by exact rfl) ?_; first | (refine WD_c0 (cmpD_m _ _ ?_ ?_) ?_; (exact hyp); (exact hyp))) | (refine WD_idxo htb ?_) | (refine WD_lde1 htb ?_) | (refine WD_lde htb ?_) | (refine WD_ap htb ?_) | (refine WD_t (by exact rfl) (by exact rfl) (by exact known) fun hb => ?_; rw [hb]; clear hb) | (refine WD_f (by exact rfl) (by exact rfl) (by exact known) fun hb => ?_; rw [hb]; clear hb)) | (with_reducible apply WA_seq) | ((with_reducible apply gR hmix hN); exact (by kernel_rfl); (try dsimp only [List.append_eq, List.cons_append, List.nil_append])) | ((with_reducible apply WD_end); (first | exact no_draw | (intro _; kernel_rfl)); try simp only [thn, inB, List.length_map, List.cons_append, List.nil_append]) | ((with_reducible apply gCt); exact rfl; exact rfl) | ((with_reducible apply gCf); exact rfl; exact rfl) | ((with_reducible apply gCk); exact rfl; exact known; intro hb; rw [hb]; clear hb) | ((with_reducible apply gCn); exact rfl; exact known; intro hb; rw [hb]; clear hb) | (with_reducible apply WA_block) | ((with_reducible first | apply WA_skip | apply WA_ret | apply WA_exit | apply WA_label); try simp only [thn, inB, List.length_map, List.cons_append, List.nil_append])))
          refine ⟨hk', trivial, ?_⟩
          rw [List.map_append]
          (exact LeV [(60, 54)])
    · have t2 : decide ((o.length : Int) > 0) = false := by simp only [decide_eq_false_iff_not]; omega
      have t4 : decide ((o.length : Int) > 1) = false := by simp only [decide_eq_false_iff_not]; omega
      rw [if_neg (by rintro (⟨h, _⟩ | ⟨h, _⟩) <;> omega)]
      (repeat' (first | ((with_reducible apply WD_id); first | (refine WD_sum ?_) | (refine WD_nxt htb (by exact rfl) ?_) | (refine WD_call (by exact rfl) ?_; first | (refine WD_c0 (cmpD_m _ _ ?_ ?_) ?_; (exact hyp); (exact hyp))) | (refine WD_idxo htb ?_) | (refine WD_lde1 htb ?_) | (refine WD_lde htb ?_) | (refine WD_ap htb ?_) | (refine WD_t (by exact rfl) (by exact rfl) (by exact known) fun hb => ?_; rw [hb]; clear hb) | (refine WD_f (by exact rfl) (by exact rfl) (by exact known) fun hb => ?_; rw [hb]; clear hb)) | (with_reducible apply WA_seq) | ((with_reducible apply gR hmix hN); exact (by kernel_rfl); (try dsimp only [List.append_eq, List.cons_append, List.nil_append])) | ((with_reducible apply WD_end); (first | exact no_draw | (intro _; kernel_rfl)); try simp only [thn, inB, List.length_map, List.cons_append, List.nil_append]) | ((with_reducible apply gCt); exact rfl; exact rfl) | ((with_reducible apply gCf); exact rfl; exact rfl) | ((with_reducible apply gCk); exact rfl; exact known; intro hb; rw [hb]; clear hb) | ((with_reducible apply gCn); exact rfl; exact known; intro hb; rw [hb]; clear hb) | (with_reducible apply WA_block) | ((with_reducible first | apply WA_skip | apply WA_ret | apply WA_exit | apply WA_label); try simp only [thn, inB, List.length_map, List.cons_append, List.nil_append])))
      refine ⟨hk', trivial, ?_⟩
      rw [List.map_append]
      (exact LeV [(60, 54)])
  · have t1 : decide ((k : Int) < (s.length : Int)) = false := by simp; omega
    have e1 : s.take k = s := take_all hk'
    rw [e1]
    (repeat' (first | ((with_reducible apply WD_id); first | (refine WD_sum ?_) | (refine WD_nxt htb (by exact rfl) ?_) | (refine WD_idxo htb ?_) | (refine WD_lde1 htb ?_) | (refine WD_lde htb ?_) | (refine WD_ap htb ?_) | (refine WD_t (by exact rfl) (by exact rfl) (by exact known) fun hb => ?_; rw [hb]; clear hb) | (refine WD_f (by exact rfl) (by exact rfl) (by exact known) fun hb => ?_; rw [hb]; clear hb)) | (with_reducible apply WA_seq) | ((with_reducible apply gR hmix hN); exact (by kernel_rfl); (try dsimp only [List.append_eq, List.cons_append, List.nil_append])) | ((with_reducible apply WD_end); (first | exact no_draw | (intro _; kernel_rfl)); try simp only [thn, inB, List.length_map, List.cons_append, List.nil_append]) | ((with_reducible apply gCt); exact rfl; exact rfl) | ((with_reducible apply gCf); exact rfl; exact rfl) | ((with_reducible apply gCk); exact rfl; exact known; intro hb; rw [hb]; clear hb) | ((with_reducible apply gCn); exact rfl; exact known; intro hb; rw [hb]; clear hb) | (with_reducible apply WA_block) | ((with_reducible first | apply WA_skip | apply WA_ret | apply WA_exit | apply WA_label); try simp only [thn, inB, List.length_map, List.cons_append, List.nil_append])))
    (exact glV [(4, lD (ddF ord0 eqvD s []))] [] (LeV []))
end Go.Proofs.YtkjpnmodlmlhdaaGreatDoor
