/- Contracts: lists of declarations that are copied and checked. -/
import Derived.Test.YtkjpnmodlmlhdaaGreatDoorQAM
import Derived.Shelf.Spec.SlicesGrow
namespace Go.Proofs.YtkjpnmodlmlhdaaGreatDoor
set_option linter.unusedSimpArgs false
set_option linter.unusedVariables false
set_option linter.unnecessarySimpa false
set_option linter.unusedSectionVars false
set_option maxRecDepth 100000
open Go Go.RowKit Go.Am Go.Proofs.Grow Gos
theorem cloN_m (l : List Int) (hl : l.length ≤ 1000) : FnM Tryz.prog 59 [] [lI l] (lI l) [] := by
  cases l with
  | nil =>
    refine FnM.nil_cases 0 rfl ?_ fun ad cap => ?_
    all_goals
      refine FnM.of htb Tryz.func59 rfl rfl rfl rfl rfl fun cx hN h0 => ?_
      (repeat' (first | ((with_reducible apply WD_id); first | (refine WD_nxt htb (by exact rfl) ?_) | (refine WD_ap htb ?_) | (refine WD_nil htb ?_) | (refine WD_nilr htb ?_)) | (with_reducible apply WA_seq) | ((with_reducible apply gR hmix hN); exact (by kernel_rfl); (try dsimp only [List.append_eq, List.cons_append, List.nil_append])) | ((with_reducible apply WD_end); (first | exact no_draw | (intro _; kernel_rfl)); try simp only [thn, inB, List.length_map, List.cons_append, List.nil_append]) | ((with_reducible apply gCt); exact rfl; exact rfl) | ((with_reducible apply gCf); exact rfl; exact rfl) | (with_reducible apply WA_block) | ((with_reducible first | apply WA_skip | apply WA_ret | apply WA_exit | apply WA_label); try simp only [thn, inB, List.length_map, List.cons_append, List.nil_append])))
      (exact glV [(2, lI [])] [] (LeV []))
  | cons x r =>
    refine FnM.of htb Tryz.func59 rfl rfl rfl rfl rfl fun cx hN h0 => ?_
    (repeat' (first | ((with_reducible apply WD_id); first | (refine WD_nxt htb (by exact rfl) ?_) | (refine WD_ap htb ?_) | (refine WD_nil htb ?_) | (refine WD_nilr htb ?_)) | (with_reducible apply WA_seq) | ((with_reducible apply gR hmix hN); exact (by kernel_rfl); (try dsimp only [List.append_eq, List.cons_append, List.nil_append])) | ((with_reducible apply WD_end); (first | exact no_draw | (intro _; kernel_rfl)); try simp only [thn, inB, List.length_map, List.cons_append, List.nil_append]) | ((with_reducible apply gCt); exact rfl; exact rfl) | ((with_reducible apply gCf); exact rfl; exact rfl) | (with_reducible apply WA_block) | ((with_reducible first | apply WA_skip | apply WA_ret | apply WA_exit | apply WA_label); try simp only [thn, inB, List.length_map, List.cons_append, List.nil_append])))
    (exact glV [(2, lI (x :: r))] [] (LeV []))
theorem cpy_g : ∀ (d : Nat) (t : Tr) (hd : hT t ≤ d) (hs : sizT t ≤ 1000), FnM Tryz.prog 31 [] [aTr t] (aTr t) [] := by
  intro d
  induction d with
  | zero => intro t hd; cases t; simp [hT] at hd
  | succ d ih =>
    intro t hd hs
    have hl := siz_len t
    have cpyR_m : ∀ (x : Tr) (hx : hT x ≤ d ∧ sizT x ≤ 1000), FnM Tryz.prog 31 [] [aTr x] (aTr x) [] := fun x hx => ih x hx.1 hx.2
    show FnM _ _ _ [.agg [vI t.k, lI t.ns, .d (.rows 3 (t.is.map rTr))]] (.agg [vI t.k, lI t.ns, .d (.rows 3 (t.is.map rTr))]) _
    rw [rTr_p]
    refine FnM.of htb Tryz.func31 rfl rfl rfl rfl rfl fun cx hN h0 => ?_
    (repeat' (first | ((with_reducible apply WD_id); first | (refine WD_sum ?_) | (refine WD_nxt htb (by exact rfl) ?_) | (refine WD_call (by exact rfl) ?_; first | (refine WD_c0 (cloN_m _ ?_) ?_; (exact hyp))) | (refine WD_idx htb ?_) | (refine WD_ap htb ?_)) | (with_reducible apply WA_seq) | ((with_reducible apply gR hmix hN); exact (by kernel_rfl); (try dsimp only [List.append_eq, List.cons_append, List.nil_append])) | ((with_reducible apply WD_end); (first | exact no_draw | (intro _; kernel_rfl)); try simp only [thn, inB, List.length_map, List.cons_append, List.nil_append]) | ((with_reducible apply gCt); exact rfl; exact rfl) | ((with_reducible apply gCf); exact rfl; exact rfl) | ((with_reducible apply gCk); exact rfl; exact known; intro hb; rw [hb]; clear hb) | ((with_reducible apply gCn); exact rfl; exact known; intro hb; rw [hb]; clear hb) | (with_reducible apply WA_block) | ((with_reducible first | apply WA_skip | apply WA_ret | apply WA_exit | apply WA_label); try simp only [thn, inB, List.length_map, List.cons_append, List.nil_append])))
    refine WA_le (Le_nilM 61 3 2 37 3 rfl rfl rfl rfl) ?_
    (refine WA_forV (t.is.length) [15] [3, 61] (fun k => [(15, vI k)]) (fun k => [(3, .box 37 [vI t.k, lI t.ns, .own 61]), (61, .arr 37 3 ((t.is.take k).map rTp))]) (fun k => True) ?h0 ?_)
    case h0 => trivial
    intro k hk _
    have hlk : (t.is.take k).length ≤ k := by rw [List.length_take]; omega
    rcases Nat.lt_or_ge k t.is.length with hk' | hk'
    · have t1 : decide ((k : Int) < (t.is.length : Int)) = true := by simp; omega
      have hm := nth_mem t.is k hk'
      have hx : hT (nth t.is k) ≤ d ∧ sizT (nth t.is k) ≤ 1000 := by have := hT_mem hm; have := siz_mem hm; omega
      have hw : (t.is.take (k + 1)) = t.is.take k ++ [nth t.is k] := by rw [List.take_succ_eq_append_getElem hk', nth_getElem _ _ hk']
      (repeat' (first | ((with_reducible apply WD_id); first | (refine WD_sum ?_) | (refine WD_nxt htb (by exact rfl) ?_) | (refine WD_call (by exact rfl) ?_; first | (refine WD_c0 (cpyR_m _ ?_) ?_; (exact hyp))) | (refine WD_idx htb ?_) | (refine WD_ap htb ?_)) | (with_reducible apply WA_seq) | ((with_reducible apply gR hmix hN); exact (by kernel_rfl); (try dsimp only [List.append_eq, List.cons_append, List.nil_append])) | ((with_reducible apply WD_end); (first | exact no_draw | (intro _; kernel_rfl)); try simp only [thn, inB, List.length_map, List.cons_append, List.nil_append]) | ((with_reducible apply gCt); exact rfl; exact rfl) | ((with_reducible apply gCf); exact rfl; exact rfl) | ((with_reducible apply gCk); exact rfl; exact known; intro hb; rw [hb]; clear hb) | ((with_reducible apply gCn); exact rfl; exact known; intro hb; rw [hb]; clear hb) | (with_reducible apply WA_block) | ((with_reducible first | apply WA_skip | apply WA_ret | apply WA_exit | apply WA_label); try simp only [thn, inB, List.length_map, List.cons_append, List.nil_append])))
      refine ⟨hk', trivial, ?_⟩
      rw [hw, List.map_append, List.map_cons, List.map_nil]
      (exact LeV [(61, 24)])
    · have t1 : decide ((k : Int) < (t.is.length : Int)) = false := by simp; omega
      have e1 : t.is.take k = t.is := take_all hk'
      rw [e1]
      (repeat' (first | ((with_reducible apply WD_id); first | (refine WD_sum ?_) | (refine WD_nxt htb (by exact rfl) ?_) | (refine WD_idx htb ?_) | (refine WD_ap htb ?_)) | (with_reducible apply WA_seq) | ((with_reducible apply gR hmix hN); exact (by kernel_rfl); (try dsimp only [List.append_eq, List.cons_append, List.nil_append])) | ((with_reducible apply WD_end); (first | exact no_draw | (intro _; kernel_rfl)); try simp only [thn, inB, List.length_map, List.cons_append, List.nil_append]) | ((with_reducible apply gCt); exact rfl; exact rfl) | ((with_reducible apply gCf); exact rfl; exact rfl) | ((with_reducible apply gCk); exact rfl; exact known; intro hb; rw [hb]; clear hb) | ((with_reducible apply gCn); exact rfl; exact known; intro hb; rw [hb]; clear hb) | (with_reducible apply WA_block) | ((with_reducible first | apply WA_skip | apply WA_ret | apply WA_exit | apply WA_label); try simp only [thn, inB, List.length_map, List.cons_append, List.nil_append])))
      (exact glV [(2, .ptr 2 0)] [(2, .box 37 [vI t.k, lI t.ns, .d (.rows 3 (t.is.map rTp))])] (LeV []))
theorem cpy_m (t : Tr) (hs : sizT t ≤ 1000) : FnM Tryz.prog 31 [] [aTr t] (aTr t) [] := cpy_g _ t (Nat.le_refl _) hs
theorem fresh_m (l : List Dc) (hl : l.length ≤ 1000) (hp : ∀ d ∈ l, PlD d) : FnM Tryz.prog 29 [] [lD l] (lD l) [] := by
  refine FnM.of htb Tryz.func29 rfl rfl rfl rfl rfl fun cx hN h0 => ?_
  (repeat' (first | ((with_reducible apply WD_id); first | (refine WD_sum ?_) | (refine WD_nxt htb (by exact rfl) ?_) | (refine WD_idx htb ?_) | (refine WD_ap htb ?_)) | (with_reducible apply WA_seq) | ((with_reducible apply gR hmix hN); exact (by kernel_rfl); (try dsimp only [List.append_eq, List.cons_append, List.nil_append])) | ((with_reducible apply WD_end); (first | exact no_draw | (intro _; kernel_rfl)); try simp only [thn, inB, List.length_map, List.cons_append, List.nil_append]) | ((with_reducible apply gCt); exact rfl; exact rfl) | ((with_reducible apply gCf); exact rfl; exact rfl) | ((with_reducible apply gCk); exact rfl; exact known; intro hb; rw [hb]; clear hb) | ((with_reducible apply gCn); exact rfl; exact known; intro hb; rw [hb]; clear hb) | (with_reducible apply WA_block) | ((with_reducible first | apply WA_skip | apply WA_ret | apply WA_exit | apply WA_label); try simp only [thn, inB, List.length_map, List.cons_append, List.nil_append])))
  refine WA_le (Le_nilT 60 3 40 6 rfl rfl) ?_
  (refine WA_forV (l.length) [8, 3] [60] (fun k => [(8, vI k), (3, .own 60)]) (fun k => [(60, .arr 40 6 ((l.take k).map rD))]) (fun k => True) ?h0 ?_)
  case h0 => trivial
  intro k hk _
  have hlk : (l.take k).length ≤ k := by rw [List.length_take]; omega
  rcases Nat.lt_or_ge k l.length with hk' | hk'
  · have t1 : decide ((k : Int) < (l.length : Int)) = true := by simp; omega
    have hx := (hp _ (nth_mem l k hk')).siz
    have hw : (l.take (k + 1)) = l.take k ++ [nth l k] := by rw [List.take_succ_eq_append_getElem hk', nth_getElem _ _ hk']
    (repeat' (first | ((with_reducible apply WD_id); first | (refine WD_sum ?_) | (refine WD_nxt htb (by exact rfl) ?_) | (refine WD_call (by exact rfl) ?_; first | (refine WD_c0 (cpy_m _ ?_) ?_; (exact hyp))) | (refine WD_idx htb ?_) | (refine WD_ap htb ?_)) | (with_reducible apply WA_seq) | ((with_reducible apply gR hmix hN); exact (by kernel_rfl); (try dsimp only [List.append_eq, List.cons_append, List.nil_append])) | ((with_reducible apply WD_end); (first | exact no_draw | (intro _; kernel_rfl)); try simp only [thn, inB, List.length_map, List.cons_append, List.nil_append]) | ((with_reducible apply gCt); exact rfl; exact rfl) | ((with_reducible apply gCf); exact rfl; exact rfl) | ((with_reducible apply gCk); exact rfl; exact known; intro hb; rw [hb]; clear hb) | ((with_reducible apply gCn); exact rfl; exact known; intro hb; rw [hb]; clear hb) | (with_reducible apply WA_block) | ((with_reducible first | apply WA_skip | apply WA_ret | apply WA_exit | apply WA_label); try simp only [thn, inB, List.length_map, List.cons_append, List.nil_append])))
    refine ⟨hk', trivial, ?_⟩
    rw [hw, List.map_append, List.map_cons, List.map_nil]
    (exact LeV [(60, 19)])
  · have t1 : decide ((k : Int) < (l.length : Int)) = false := by simp; omega
    have e1 : l.take k = l := take_all hk'
    rw [e1]
    (repeat' (first | ((with_reducible apply WD_id); first | (refine WD_sum ?_) | (refine WD_nxt htb (by exact rfl) ?_) | (refine WD_idx htb ?_) | (refine WD_ap htb ?_)) | (with_reducible apply WA_seq) | ((with_reducible apply gR hmix hN); exact (by kernel_rfl); (try dsimp only [List.append_eq, List.cons_append, List.nil_append])) | ((with_reducible apply WD_end); (first | exact no_draw | (intro _; kernel_rfl)); try simp only [thn, inB, List.length_map, List.cons_append, List.nil_append]) | ((with_reducible apply gCt); exact rfl; exact rfl) | ((with_reducible apply gCf); exact rfl; exact rfl) | ((with_reducible apply gCk); exact rfl; exact known; intro hb; rw [hb]; clear hb) | ((with_reducible apply gCn); exact rfl; exact known; intro hb; rw [hb]; clear hb) | (with_reducible apply WA_block) | ((with_reducible first | apply WA_skip | apply WA_ret | apply WA_exit | apply WA_label); try simp only [thn, inB, List.length_map, List.cons_append, List.nil_append])))
    (exact glV [(2, lD l)] [] (LeV []))
abbrev rDs (l : List Dc) : List D := [.rows 6 (l.map rD)]
abbrev aR (r : Reg) : AV := .agg [.d (.rows 1 (r.map rDs))]
theorem cmpD_ge {a b : Dc} (h : a.nd = b.nd) (k : ltD a b = true) : decide (cmpD a b ≥ 0) = false := by
  have := cmpD_lt h
  rw [k] at this
  simp only [decide_eq_true_eq, decide_eq_false_iff_not] at this ⊢
  omega
theorem list_m (k : Nat) (l : List Dc) (h : LOk k l) : FnM Tryz.prog 51 [] [vI (k : Int), lD l] (vI 0) [] := by
  have hl := h.len
  have t0 : ((0 : Int) != 0) = false := rfl
  refine FnM.of htb Tryz.func51 rfl rfl rfl rfl rfl fun cx hN h0 => ?_
  (repeat' (first | ((with_reducible apply WD_id); first | (refine WD_sum ?_) | (refine WD_nxt htb (by exact rfl) ?_) | (refine WD_idx htb ?_) | (refine WD_t (by exact rfl) (by exact rfl) (by exact known) fun hb => ?_; rw [hb]; clear hb) | (refine WD_f (by exact rfl) (by exact rfl) (by exact known) fun hb => ?_; rw [hb]; clear hb)) | (with_reducible apply WA_seq) | ((with_reducible apply gR hmix hN); exact (by kernel_rfl); (try dsimp only [List.append_eq, List.cons_append, List.nil_append])) | ((with_reducible apply WD_end); (first | exact no_draw | (intro _; kernel_rfl)); try simp only [thn, inB, List.length_map, List.cons_append, List.nil_append]) | ((with_reducible apply gCt); exact rfl; exact rfl) | ((with_reducible apply gCf); exact rfl; exact rfl) | ((with_reducible apply gCk); exact rfl; exact known; intro hb; rw [hb]; clear hb) | ((with_reducible apply gCn); exact rfl; exact known; intro hb; rw [hb]; clear hb) | (with_reducible apply WA_block) | ((with_reducible first | apply WA_skip | apply WA_ret | apply WA_exit | apply WA_label); try simp only [thn, inB, List.length_map, List.cons_append, List.nil_append])))
  (refine WA_forV (l.length) [10] [] (fun k => [(10, vI k)]) (fun k => []) (fun k => True) ?h0 ?_)
  case h0 => trivial
  intro i hi _
  rcases Nat.lt_or_ge i l.length with hi' | hi'
  · have t1 : decide ((i : Int) < (l.length : Int)) = true := by simp; omega
    obtain ⟨p1, p2⟩ := h.p _ (nth_mem l i hi')
    have t2 : ((nth l i).nd != (k : Int)) = false := by rw [p2]; simp
    by_cases c1 : 0 < i
    · have t3 : decide ((i : Int) > 0) = true := by simp; omega
      have e1 : ((i : Int) - 1).toNat = i - 1 := by omega
      have hb1 : (((i : Int) - 1).toNat) < l.length := by omega
      obtain ⟨q1, q2⟩ := h.p _ (nth_mem l (i - 1) (by omega))
      rw [← e1] at q1 q2
      have hs := h.s (i - 1) (by omega)
      rw [show i - 1 + 1 = i by omega, ← e1] at hs
      have t4 : decide (cmpD (nth l ((i : Int) - 1).toNat) (nth l i) ≥ 0) = false := cmpD_ge (q2.trans p2.symm) hs
      by_cases c2 : 1 < i
      · have t5 : decide ((i : Int) > 1) = true := by simp; omega
        have e2 : ((i : Int) - 2).toNat = i - 2 := by omega
        have hb2 : (((i : Int) - 2).toNat) < l.length := by omega
        have ht := h.t (i - 2) (by omega)
        rw [show i - 2 + 2 = i by omega, ← e2] at ht
        have t6 : ((nth l ((i : Int) - 2).toNat).sq == (nth l i).sq) = false := by simpa using ht
        (repeat' (first | ((with_reducible apply WD_id); first | (refine WD_sum ?_) | (refine WD_nxt htb (by exact rfl) ?_) | (refine WD_call (by exact rfl) ?_; first | (refine WD_c0 (plain_m _ ?_) ?_; (exact hyp)) | (refine WD_c0 (cmpD_m _ _ ?_ ?_) ?_; (exact hyp); (exact hyp))) | (refine WD_idx htb ?_) | (refine WD_t (by exact rfl) (by exact rfl) (by exact known) fun hb => ?_; rw [hb]; clear hb) | (refine WD_f (by exact rfl) (by exact rfl) (by exact known) fun hb => ?_; rw [hb]; clear hb)) | (with_reducible apply WA_seq) | ((with_reducible apply gR hmix hN); exact (by kernel_rfl); (try dsimp only [List.append_eq, List.cons_append, List.nil_append])) | ((with_reducible apply WD_end); (first | exact no_draw | (intro _; kernel_rfl)); try simp only [thn, inB, List.length_map, List.cons_append, List.nil_append]) | ((with_reducible apply gCt); exact rfl; exact rfl) | ((with_reducible apply gCf); exact rfl; exact rfl) | ((with_reducible apply gCk); exact rfl; exact known; intro hb; rw [hb]; clear hb) | ((with_reducible apply gCn); exact rfl; exact known; intro hb; rw [hb]; clear hb) | (with_reducible apply WA_block) | ((with_reducible first | apply WA_skip | apply WA_ret | apply WA_exit | apply WA_label); try simp only [thn, inB, List.length_map, List.cons_append, List.nil_append])))
        refine ⟨hi', trivial, ?_⟩
        (exact LeV [])
      · have t5 : decide ((i : Int) > 1) = false := by simp only [decide_eq_false_iff_not]; omega
        (repeat' (first | ((with_reducible apply WD_id); first | (refine WD_sum ?_) | (refine WD_nxt htb (by exact rfl) ?_) | (refine WD_call (by exact rfl) ?_; first | (refine WD_c0 (plain_m _ ?_) ?_; (exact hyp)) | (refine WD_c0 (cmpD_m _ _ ?_ ?_) ?_; (exact hyp); (exact hyp))) | (refine WD_idx htb ?_) | (refine WD_t (by exact rfl) (by exact rfl) (by exact known) fun hb => ?_; rw [hb]; clear hb) | (refine WD_f (by exact rfl) (by exact rfl) (by exact known) fun hb => ?_; rw [hb]; clear hb)) | (with_reducible apply WA_seq) | ((with_reducible apply gR hmix hN); exact (by kernel_rfl); (try dsimp only [List.append_eq, List.cons_append, List.nil_append])) | ((with_reducible apply WD_end); (first | exact no_draw | (intro _; kernel_rfl)); try simp only [thn, inB, List.length_map, List.cons_append, List.nil_append]) | ((with_reducible apply gCt); exact rfl; exact rfl) | ((with_reducible apply gCf); exact rfl; exact rfl) | ((with_reducible apply gCk); exact rfl; exact known; intro hb; rw [hb]; clear hb) | ((with_reducible apply gCn); exact rfl; exact known; intro hb; rw [hb]; clear hb) | (with_reducible apply WA_block) | ((with_reducible first | apply WA_skip | apply WA_ret | apply WA_exit | apply WA_label); try simp only [thn, inB, List.length_map, List.cons_append, List.nil_append])))
        refine ⟨hi', trivial, ?_⟩
        (exact LeV [])
    · have t3 : decide ((i : Int) > 0) = false := by simp only [decide_eq_false_iff_not]; omega
      have t5 : decide ((i : Int) > 1) = false := by simp only [decide_eq_false_iff_not]; omega
      (repeat' (first | ((with_reducible apply WD_id); first | (refine WD_sum ?_) | (refine WD_nxt htb (by exact rfl) ?_) | (refine WD_call (by exact rfl) ?_; first | (refine WD_c0 (plain_m _ ?_) ?_; (exact hyp))) | (refine WD_idx htb ?_) | (refine WD_t (by exact rfl) (by exact rfl) (by exact known) fun hb => ?_; rw [hb]; clear hb) | (refine WD_f (by exact rfl) (by exact rfl) (by exact known) fun hb => ?_; rw [hb]; clear hb)) | (with_reducible apply WA_seq) | ((with_reducible apply gR hmix hN); exact (by kernel_rfl); (try dsimp only [List.append_eq, List.cons_append, List.nil_append])) | ((with_reducible apply WD_end); (first | exact no_draw | (intro _; kernel_rfl)); try simp only [thn, inB, List.length_map, List.cons_append, List.nil_append]) | ((with_reducible apply gCt); exact rfl; exact rfl) | ((with_reducible apply gCf); exact rfl; exact rfl) | ((with_reducible apply gCk); exact rfl; exact known; intro hb; rw [hb]; clear hb) | ((with_reducible apply gCn); exact rfl; exact known; intro hb; rw [hb]; clear hb) | (with_reducible apply WA_block) | ((with_reducible first | apply WA_skip | apply WA_ret | apply WA_exit | apply WA_label); try simp only [thn, inB, List.length_map, List.cons_append, List.nil_append])))
      refine ⟨hi', trivial, ?_⟩
      (exact LeV [])
  · have t1 : decide ((i : Int) < (l.length : Int)) = false := by simp; omega
    (repeat' (first | ((with_reducible apply WD_id); first | (refine WD_sum ?_) | (refine WD_nxt htb (by exact rfl) ?_) | (refine WD_idx htb ?_) | (refine WD_t (by exact rfl) (by exact rfl) (by exact known) fun hb => ?_; rw [hb]; clear hb) | (refine WD_f (by exact rfl) (by exact rfl) (by exact known) fun hb => ?_; rw [hb]; clear hb)) | (with_reducible apply WA_seq) | ((with_reducible apply gR hmix hN); exact (by kernel_rfl); (try dsimp only [List.append_eq, List.cons_append, List.nil_append])) | ((with_reducible apply WD_end); (first | exact no_draw | (intro _; kernel_rfl)); try simp only [thn, inB, List.length_map, List.cons_append, List.nil_append]) | ((with_reducible apply gCt); exact rfl; exact rfl) | ((with_reducible apply gCf); exact rfl; exact rfl) | ((with_reducible apply gCk); exact rfl; exact known; intro hb; rw [hb]; clear hb) | ((with_reducible apply gCn); exact rfl; exact known; intro hb; rw [hb]; clear hb) | (with_reducible apply WA_block) | ((with_reducible first | apply WA_skip | apply WA_ret | apply WA_exit | apply WA_label); try simp only [thn, inB, List.length_map, List.cons_append, List.nil_append])))
    exact gE (.inr rfl) rfl rfl trivial
theorem valid_r (r : Reg) (h : ROk r) : FnM Tryz.prog 24 [] [aR r] (vI 0) [] := by
  have hl := h.len
  have t0 : ((0 : Int) != 0) = false := rfl
  have t9 : decide ((r.length : Int) > 10) = false := by simp only [decide_eq_false_iff_not]; omega
  refine FnM.of htb Tryz.func24 rfl rfl rfl rfl rfl fun cx hN h0 => ?_
  (repeat' (first | ((with_reducible apply WD_id); first | (refine WD_sum ?_) | (refine WD_nxt htb (by exact rfl) ?_) | (refine WD_idx htb ?_)) | (with_reducible apply WA_seq) | ((with_reducible apply gR hmix hN); exact (by kernel_rfl); (try dsimp only [List.append_eq, List.cons_append, List.nil_append])) | ((with_reducible apply WD_end); (first | exact no_draw | (intro _; kernel_rfl)); try simp only [thn, inB, List.length_map, List.cons_append, List.nil_append]) | ((with_reducible apply gCt); exact rfl; exact rfl) | ((with_reducible apply gCf); exact rfl; exact rfl) | ((with_reducible apply gCk); exact rfl; exact known; intro hb; rw [hb]; clear hb) | ((with_reducible apply gCn); exact rfl; exact known; intro hb; rw [hb]; clear hb) | (with_reducible apply WA_block) | ((with_reducible first | apply WA_skip | apply WA_ret | apply WA_exit | apply WA_label); try simp only [thn, inB, List.length_map, List.cons_append, List.nil_append])))
  (refine WA_forV (r.length) [13] [] (fun k => [(13, vI k)]) (fun k => []) (fun k => True) ?h0 ?_)
  case h0 => trivial
  intro i hi _
  rcases Nat.lt_or_ge i r.length with hi' | hi'
  · have t1 : decide ((i : Int) < (r.length : Int)) = true := by simp; omega
    have hk := h.l i hi'
    (repeat' (first | ((with_reducible apply WD_id); first | (refine WD_sum ?_) | (refine WD_nxt htb (by exact rfl) ?_) | (refine WD_call (by exact rfl) ?_; first | (refine WD_c0 (list_m _ _ ?_) ?_; (exact hyp))) | (refine WD_idx htb ?_)) | (with_reducible apply WA_seq) | ((with_reducible apply gR hmix hN); exact (by kernel_rfl); (try dsimp only [List.append_eq, List.cons_append, List.nil_append])) | ((with_reducible apply WD_end); (first | exact no_draw | (intro _; kernel_rfl)); try simp only [thn, inB, List.length_map, List.cons_append, List.nil_append]) | ((with_reducible apply gCt); exact rfl; exact rfl) | ((with_reducible apply gCf); exact rfl; exact rfl) | ((with_reducible apply gCk); exact rfl; exact known; intro hb; rw [hb]; clear hb) | ((with_reducible apply gCn); exact rfl; exact known; intro hb; rw [hb]; clear hb) | (with_reducible apply WA_block) | ((with_reducible first | apply WA_skip | apply WA_ret | apply WA_exit | apply WA_label); try simp only [thn, inB, List.length_map, List.cons_append, List.nil_append])))
    refine ⟨hi', trivial, ?_⟩
    (exact LeV [])
  · have t1 : decide ((i : Int) < (r.length : Int)) = false := by simp; omega
    (repeat' (first | ((with_reducible apply WD_id); first | (refine WD_sum ?_) | (refine WD_nxt htb (by exact rfl) ?_) | (refine WD_idx htb ?_)) | (with_reducible apply WA_seq) | ((with_reducible apply gR hmix hN); exact (by kernel_rfl); (try dsimp only [List.append_eq, List.cons_append, List.nil_append])) | ((with_reducible apply WD_end); (first | exact no_draw | (intro _; kernel_rfl)); try simp only [thn, inB, List.length_map, List.cons_append, List.nil_append]) | ((with_reducible apply gCt); exact rfl; exact rfl) | ((with_reducible apply gCf); exact rfl; exact rfl) | ((with_reducible apply gCk); exact rfl; exact known; intro hb; rw [hb]; clear hb) | ((with_reducible apply gCn); exact rfl; exact known; intro hb; rw [hb]; clear hb) | (with_reducible apply WA_block) | ((with_reducible first | apply WA_skip | apply WA_ret | apply WA_exit | apply WA_label); try simp only [thn, inB, List.length_map, List.cons_append, List.nil_append])))
    exact gE (.inr rfl) rfl rfl trivial
end Go.Proofs.YtkjpnmodlmlhdaaGreatDoor
/- Contracts: lists of declarations that are put together. -/
namespace Go.Proofs.YtkjpnmodlmlhdaaGreatDoor
set_option linter.unusedSimpArgs false
set_option linter.unusedVariables false
set_option linter.unnecessarySimpa false
set_option linter.unusedSectionVars false
set_option maxRecDepth 100000
open Go Go.RowKit Go.Am Go.Proofs.Grow Gos Go.Shelf
def renDe : Ren := { f := fun k => if k = 4 then 130 else k, t := fun k => if k = 22 then 28 else if k = 25 then 40 else k, g := fun k => k }
theorem layDe : Lays8.n4 Tryz.prog renDe where
  mixed := hmix
  f4 := ⟨Tryz.f130.name, by kernel_rfl, by kernel_rfl⟩
  t0 := by kernel_rfl
  a0 := fun w => rfl
  z0 := fun w => rfl
  v0 := fun w => rfl
  t3 := by kernel_rfl
  a3 := fun w => rfl
  z3 := fun w => rfl
  v3 := fun w => rfl
  t4 := by kernel_rfl
  a4 := fun w => rfl
  z4 := fun w => rfl
  v4 := fun w => rfl
  t9 := by kernel_rfl
  a9 := fun w => rfl
  z9 := fun w => rfl
  v9 := fun w => rfl
  t20 := by kernel_rfl
  a20 := fun w => rfl
  z20 := fun w => rfl
  v20 := fun w => rfl
  t22 := by kernel_rfl
  a22 := fun w => rfl
  z22 := fun w => rfl
  v22 := fun w => rfl
theorem infD_ex : ∃ i0, Tryz.prog.info? 40 = some i0 ∧ i0.size = 6 ∧ i0.bytes = 80 ∧ i0.zero = some (.agg #[.int .i64 0, .int .i64 0, .int .i64 0, .slice none 0 0, .slice none 0 0, .int .u64 0]) := by
  have h : (Tryz.prog.info? 40).isSome = true := by kernel_rfl
  have h1 : (Tryz.prog.info? 40).map TypeInfo.size = some 6 := by kernel_rfl
  have h2 : (Tryz.prog.info? 40).map TypeInfo.bytes = some 80 := by kernel_rfl
  have h3 : (Tryz.prog.info? 40).map TypeInfo.zero = some (some (.agg #[.int .i64 0, .int .i64 0, .int .i64 0, .slice none 0 0, .slice none 0 0, .int .u64 0])) := by kernel_rfl
  obtain ⟨i0, hi⟩ := Option.isSome_iff_exists.1 h
  rw [hi] at h1 h2 h3
  exact ⟨i0, hi, Option.some.inj h1, Option.some.inj h2, Option.some.inj h3⟩
theorem growD_w (n : Nat) (w : World) (n0 : 0 < n) (n1 : n ≤ 1000) : Calls Tryz.prog 130 #[.slice none 0 0, .int .i64 n] w fun e w' =>
    ∃ c cur, e = .returned (.slice (some ⟨w.heap.size, 0, none⟩) 0 c) ∧ w' = w.drew.alloc (.cells cur 40) ∧ cur.size = c * 6 ∧ c ≤ maxLen := by
  obtain ⟨i0, hi, hs, hb, hz⟩ := infD_ex
  have h := Any8.slices_Grow_grow layDe i0 _ hi hz (by rw [hs]; decide) none 0 0 n [] w (Nat.le_refl _) (by omega) (by rw [hb]; omega) (by omega) (by simp) (fun _ => rfl) (fun a ha => by cases ha)
  refine h.mono fun e w' ⟨h1, h2⟩ => ⟨_, _, h1, h2, ?_, ?_⟩
  · have hg := grownCap_ge w (0 + n) 0 (renDe.t 25)
    generalize grownCap w (0 + n) 0 (renDe.t 25) = G at *
    have hc2 : (Value.agg #[.int .i64 0, .int .i64 0, .int .i64 0, .slice none 0 0, .slice none 0 0, .int .u64 0]).cells.size = 6 := by rfl
    simp [Builtin.zeroCells]
    rw [hc2]; omega
  · exact grownCap_le_maxLen w (0 + n) 0 (renDe.t 25) (by unfold maxLen; omega)
theorem growD_ob (c : Nat) (cur : Array Value) (w : World) (hc : cur.size = c * 6) (hm : c ≤ maxLen) {H : Nat → Prop} {μ : Nat → Option Value} {g : Nat} (hμ : μ g = some (.slice (some ⟨w.heap.size, 0, none⟩) 0 c)) : OR H μ (w.drew.alloc (.cells cur 40)) g (.arr 40 6 []) := by
  refine ⟨_, [], hμ, ⟨rfl, .inr ⟨w.heap.size, c, cur, rfl, Nat.zero_le _, ?_, Nat.zero_le _, hm, hc, by simp⟩⟩, by simp, ?_, by simp⟩
  · exact heap_alloc_new w.drew _
  · exact ⟨rfl, by simp⟩
theorem growD_pm (g n : Nat) (n0 : 0 < n) (n1 : n ≤ 1000) : FnM Tryz.prog 130 [] [.d (.v (.slice none 0 0)), vI n] (.own g) [(g, .arr 40 6 [])] := by
  intro H0 μ w vs hl hI
  have hv := (args_vrs hl hI).eq_vals (us := [.slice none 0 0, .int .i64 n]) rfl
  subst hv
  refine (growD_w n w n0 n1).mono ?_
  rintro e w' ⟨c, cur, rfl, rfl, hc, hm⟩
  have hch : Chg (fun _ => False) w (w.drew.alloc (.cells cur 40)) := ⟨rfl, rfl, rfl, by simp, fun k hk _ => heap_alloc_old w.drew _ hk⟩
  have h2 := hI.new (w2 := w.drew.alloc (.cells cur 40)) (g := g) (o := .arr 40 6 []) (v := .slice (some ⟨w.heap.size, 0, none⟩) 0 c) rfl hch rfl (fun b hb => by obtain rfl := Option.some.inj hb; simp) (fun H' _ _ => growD_ob c cur w hc hm (upμ_self _ _))
  have e : upM (lk []) [(g, AO.arr 40 6 [])] = lk [(g, .arr 40 6 [])] := upM_cons
  rw [e] at h2
  refine ⟨_, _, rfl, fun t x ht => ?_, h2.ob, h2.inj, h2.lo, h2.fr, h2.free, h2.hs, h2.base, rfl, rfl⟩
  simp only [lk] at ht
  split at ht
  · rename_i hb
    have := Nat.eq_of_beq_eq_true hb
    subst this
    obtain rfl := Option.some.inj ht
    exact .own (upμ_self _ _)
  · cases ht
theorem growZ_w (w : World) : Calls Tryz.prog 130 #[.slice none 0 0, .int .i64 0] w fun e w' => e = .returned (.slice none 0 0) ∧ w = w' := by
  go_enter Tryz.func130, Tryz.ntmps130
  go_wp2
  go_ret
  exact ⟨rfl, rfl⟩
theorem growZ_m : FnM Tryz.prog 130 [] [.d (.v (.slice none 0 0)), vI 0] (.d (.v (.slice none 0 0))) [] := FnM.wrap' rfl rfl fun w => growZ_w w
def preF (a b : List Dc) : Nat → List (List D)
  | 0 => []
  | 1 => a.map rD
  | _ => (a ++ b).map rD
def szF (a b : List Dc) : Nat → Int
  | 0 => 0
  | 1 => (a.length : Int)
  | _ => (a.length : Int) + (b.length : Int)
set_option maxHeartbeats 2000000 in
theorem concat_m (a b : List Dc) (hl : a.length ≤ 8 ∧ b.length ≤ 8) : FnM Tryz.prog 91 [] [.d (.rows 1 ([a, b].map rDs))] (.own 13) [(13, .arr 40 6 ((a ++ b).map rD))] := by
  refine FnM.of htb Tryz.func91 rfl rfl rfl rfl rfl fun cx hN h0 => ?_
  have hn3 : [a, b].length = 2 := rfl
  have n0 : (nth [a, b] 0).length = a.length := rfl
  have n1 : (nth [a, b] 1).length = b.length := rfl
  have pl0 : (preF a b 0).length = 0 := rfl
  have pl1 : (preF a b 1).length = a.length := by simp [preF]
  have z01 : szF a b (0 + 1) = (a.length : Int) := rfl
  have z12 : szF a b (1 + 1) = (a.length : Int) + (b.length : Int) := rfl
  have z0 : szF a b 0 = 0 := rfl
  have z1 : szF a b 1 = (a.length : Int) := rfl
  have z2 : szF a b 2 = (a.length : Int) + (b.length : Int) := rfl
  (repeat' (first | ((with_reducible apply WD_id); first | (refine WD_sum ?_) | (refine WD_nxt htb (by exact rfl) ?_) | (refine WD_idx htb ?_) | (refine WD_ap htb ?_)) | (with_reducible apply WA_seq) | ((with_reducible apply gR hmix hN); exact (by kernel_rfl); (try dsimp only [List.append_eq, List.cons_append, List.nil_append])) | ((with_reducible apply WD_end); (first | exact no_draw | (intro _; kernel_rfl)); try simp only [thn, inB, List.length_map, List.cons_append, List.nil_append]) | ((with_reducible apply gCt); exact rfl; exact rfl) | ((with_reducible apply gCf); exact rfl; exact rfl) | (with_reducible apply WA_block) | ((with_reducible first | apply WA_skip | apply WA_ret | apply WA_exit | apply WA_label); try simp only [thn, inB, List.length_map, List.cons_append, List.nil_append])))
  (refine WA_forV (2) [11, 3] [] (fun k => [(11, vI k), (3, vI (szF a b k))]) (fun k => []) (fun k => True) ?h0 ?_)
  case h0 => trivial
  intro k hk _
  obtain rfl | rfl | rfl : k = 0 ∨ k = 1 ∨ k = 2 := by omega
  · have t1 : decide (((0 : Nat) : Int) < 2) = true := by decide
    have t2 : decide (szF a b 0 + ((nth [a, b] 0).length : Int) < 0) = false := by simp only [decide_eq_false_iff_not]; omega
    (repeat' (first | ((with_reducible apply WD_id); first | (refine WD_sum ?_) | (refine WD_nxt htb (by exact rfl) ?_) | (refine WD_idx htb ?_) | (refine WD_ap htb ?_)) | (with_reducible apply WA_seq) | ((with_reducible apply gR hmix hN); exact (by kernel_rfl); (try dsimp only [List.append_eq, List.cons_append, List.nil_append])) | ((with_reducible apply WD_end); (first | exact no_draw | (intro _; kernel_rfl)); try simp only [thn, inB, List.length_map, List.cons_append, List.nil_append]) | ((with_reducible apply gCt); exact rfl; exact rfl) | ((with_reducible apply gCf); exact rfl; exact rfl) | (with_reducible apply WA_block) | ((with_reducible first | apply WA_skip | apply WA_ret | apply WA_exit | apply WA_label); try simp only [thn, inB, List.length_map, List.cons_append, List.nil_append])))
    refine ⟨by omega, trivial, ?_⟩
    (exact LeV [])
  · have t1 : decide (((1 : Nat) : Int) < 2) = true := by decide
    have t2 : decide (szF a b 1 + ((nth [a, b] 1).length : Int) < 0) = false := by simp only [decide_eq_false_iff_not]; omega
    (repeat' (first | ((with_reducible apply WD_id); first | (refine WD_sum ?_) | (refine WD_nxt htb (by exact rfl) ?_) | (refine WD_idx htb ?_) | (refine WD_ap htb ?_)) | (with_reducible apply WA_seq) | ((with_reducible apply gR hmix hN); exact (by kernel_rfl); (try dsimp only [List.append_eq, List.cons_append, List.nil_append])) | ((with_reducible apply WD_end); (first | exact no_draw | (intro _; kernel_rfl)); try simp only [thn, inB, List.length_map, List.cons_append, List.nil_append]) | ((with_reducible apply gCt); exact rfl; exact rfl) | ((with_reducible apply gCf); exact rfl; exact rfl) | (with_reducible apply WA_block) | ((with_reducible first | apply WA_skip | apply WA_ret | apply WA_exit | apply WA_label); try simp only [thn, inB, List.length_map, List.cons_append, List.nil_append])))
    refine ⟨by omega, trivial, ?_⟩
    (exact LeV [])
  · have t1 : decide (((2 : Nat) : Int) < 2) = false := by decide
    rcases Nat.lt_or_ge 0 (a.length + b.length) with h0' | h0'
    · have grwN_m := growD_pm 24 (a.length + b.length) h0' (by omega)
      rw [show (((a.length + b.length : Nat) : Int)) = szF a b 2 by rw [z2]; omega] at grwN_m
      (repeat' (first | ((with_reducible apply WD_id); first | (refine WD_sum ?_) | (refine WD_nxt htb (by exact rfl) ?_) | (refine WD_call (by exact rfl) ?_; first | (refine WD_cM (grwN_m) ?_)) | (refine WD_idx htb ?_) | (refine WD_ap htb ?_)) | (with_reducible apply WA_seq) | ((with_reducible apply gR hmix hN); exact (by kernel_rfl); (try dsimp only [List.append_eq, List.cons_append, List.nil_append])) | ((with_reducible apply WD_end); (first | exact no_draw | (intro _; kernel_rfl)); try simp only [thn, inB, List.length_map, List.cons_append, List.nil_append]) | ((with_reducible apply gCt); exact rfl; exact rfl) | ((with_reducible apply gCf); exact rfl; exact rfl) | (with_reducible apply WA_block) | ((with_reducible first | apply WA_skip | apply WA_ret | apply WA_exit | apply WA_label); try simp only [thn, inB, List.length_map, List.cons_append, List.nil_append])))
      (refine WA_forV (2) [27, 6, 24] [24] (fun k => [(27, vI k), (6, .own 24)]) (fun k => [(24, .arr 40 6 (preF a b k))]) (fun k => True) ?h0 ?_)
      case h0 => trivial
      intro k hk2 _
      obtain rfl | rfl | rfl : k = 0 ∨ k = 1 ∨ k = 2 := by omega
      · have t3 : decide (((0 : Nat) : Int) < 2) = true := by decide
        (repeat' (first | ((with_reducible apply WD_id); first | (refine WD_sum ?_) | (refine WD_nxt htb (by exact rfl) ?_) | (refine WD_idx htb ?_) | (refine WD_ap htb ?_)) | (with_reducible apply WA_seq) | ((with_reducible apply gR hmix hN); exact (by kernel_rfl); (try dsimp only [List.append_eq, List.cons_append, List.nil_append])) | ((with_reducible apply WD_end); (first | exact no_draw | (intro _; kernel_rfl)); try simp only [thn, inB, List.length_map, List.cons_append, List.nil_append]) | ((with_reducible apply gCt); exact rfl; exact rfl) | ((with_reducible apply gCf); exact rfl; exact rfl) | (with_reducible apply WA_block) | ((with_reducible first | apply WA_skip | apply WA_ret | apply WA_exit | apply WA_label); try simp only [thn, inB, List.length_map, List.cons_append, List.nil_append])))
        refine ⟨by omega, trivial, ?_⟩
        (exact LeV [(24, 33)])
      · have t3 : decide (((1 : Nat) : Int) < 2) = true := by decide
        (repeat' (first | ((with_reducible apply WD_id); first | (refine WD_sum ?_) | (refine WD_nxt htb (by exact rfl) ?_) | (refine WD_idx htb ?_) | (refine WD_ap htb ?_)) | (with_reducible apply WA_seq) | ((with_reducible apply gR hmix hN); exact (by kernel_rfl); (try dsimp only [List.append_eq, List.cons_append, List.nil_append])) | ((with_reducible apply WD_end); (first | exact no_draw | (intro _; kernel_rfl)); try simp only [thn, inB, List.length_map, List.cons_append, List.nil_append]) | ((with_reducible apply gCt); exact rfl; exact rfl) | ((with_reducible apply gCf); exact rfl; exact rfl) | (with_reducible apply WA_block) | ((with_reducible first | apply WA_skip | apply WA_ret | apply WA_exit | apply WA_label); try simp only [thn, inB, List.length_map, List.cons_append, List.nil_append])))
        refine ⟨by omega, trivial, ?_⟩
        rw [show preF a b (1 + 1) = a.map rD ++ b.map rD from List.map_append]
        (exact LeV [(24, 33)])
      · (repeat' (first | ((with_reducible apply WD_id); first | (refine WD_sum ?_) | (refine WD_nxt htb (by exact rfl) ?_) | (refine WD_idx htb ?_) | (refine WD_ap htb ?_)) | (with_reducible apply WA_seq) | ((with_reducible apply gR hmix hN); exact (by kernel_rfl); (try dsimp only [List.append_eq, List.cons_append, List.nil_append])) | ((with_reducible apply WD_end); (first | exact no_draw | (intro _; kernel_rfl)); try simp only [thn, inB, List.length_map, List.cons_append, List.nil_append]) | ((with_reducible apply gCt); exact rfl; exact rfl) | ((with_reducible apply gCf); exact rfl; exact rfl) | (with_reducible apply WA_block) | ((with_reducible first | apply WA_skip | apply WA_ret | apply WA_exit | apply WA_label); try simp only [thn, inB, List.length_map, List.cons_append, List.nil_append])))
        refine gL (.inr rfl) (T' := [(2, .own 13)]) (M' := [(13, .arr 40 6 ((a ++ b).map rD))]) ?_ rfl rfl ⟨rfl, trivial⟩
        (exact LeV [(13, 24)])
    · have grwZ_m := growZ_m
      rw [show (0 : Int) = szF a b 2 by rw [z2]; omega] at grwZ_m
      (repeat' (first | ((with_reducible apply WD_id); first | (refine WD_sum ?_) | (refine WD_nxt htb (by exact rfl) ?_) | (refine WD_call (by exact rfl) ?_; first | (refine WD_c0 (grwZ_m) ?_)) | (refine WD_idx htb ?_) | (refine WD_ap htb ?_)) | (with_reducible apply WA_seq) | ((with_reducible apply gR hmix hN); exact (by kernel_rfl); (try dsimp only [List.append_eq, List.cons_append, List.nil_append])) | ((with_reducible apply WD_end); (first | exact no_draw | (intro _; kernel_rfl)); try simp only [thn, inB, List.length_map, List.cons_append, List.nil_append]) | ((with_reducible apply gCt); exact rfl; exact rfl) | ((with_reducible apply gCf); exact rfl; exact rfl) | (with_reducible apply WA_block) | ((with_reducible first | apply WA_skip | apply WA_ret | apply WA_exit | apply WA_label); try simp only [thn, inB, List.length_map, List.cons_append, List.nil_append])))
      refine WA_le (Le_nilT 24 6 40 6 rfl rfl) ?_
      (refine WA_forV (2) [27, 6, 24] [24] (fun k => [(27, vI k), (6, .own 24)]) (fun k => [(24, .arr 40 6 (preF a b k))]) (fun k => True) ?h0 ?_)
      case h0 => trivial
      intro k hk2 _
      obtain rfl | rfl | rfl : k = 0 ∨ k = 1 ∨ k = 2 := by omega
      · have t3 : decide (((0 : Nat) : Int) < 2) = true := by decide
        (repeat' (first | ((with_reducible apply WD_id); first | (refine WD_sum ?_) | (refine WD_nxt htb (by exact rfl) ?_) | (refine WD_idx htb ?_) | (refine WD_ap htb ?_)) | (with_reducible apply WA_seq) | ((with_reducible apply gR hmix hN); exact (by kernel_rfl); (try dsimp only [List.append_eq, List.cons_append, List.nil_append])) | ((with_reducible apply WD_end); (first | exact no_draw | (intro _; kernel_rfl)); try simp only [thn, inB, List.length_map, List.cons_append, List.nil_append]) | ((with_reducible apply gCt); exact rfl; exact rfl) | ((with_reducible apply gCf); exact rfl; exact rfl) | (with_reducible apply WA_block) | ((with_reducible first | apply WA_skip | apply WA_ret | apply WA_exit | apply WA_label); try simp only [thn, inB, List.length_map, List.cons_append, List.nil_append])))
        refine ⟨by omega, trivial, ?_⟩
        (exact LeV [(24, 33)])
      · have t3 : decide (((1 : Nat) : Int) < 2) = true := by decide
        (repeat' (first | ((with_reducible apply WD_id); first | (refine WD_sum ?_) | (refine WD_nxt htb (by exact rfl) ?_) | (refine WD_idx htb ?_) | (refine WD_ap htb ?_)) | (with_reducible apply WA_seq) | ((with_reducible apply gR hmix hN); exact (by kernel_rfl); (try dsimp only [List.append_eq, List.cons_append, List.nil_append])) | ((with_reducible apply WD_end); (first | exact no_draw | (intro _; kernel_rfl)); try simp only [thn, inB, List.length_map, List.cons_append, List.nil_append]) | ((with_reducible apply gCt); exact rfl; exact rfl) | ((with_reducible apply gCf); exact rfl; exact rfl) | (with_reducible apply WA_block) | ((with_reducible first | apply WA_skip | apply WA_ret | apply WA_exit | apply WA_label); try simp only [thn, inB, List.length_map, List.cons_append, List.nil_append])))
        refine ⟨by omega, trivial, ?_⟩
        rw [show preF a b (1 + 1) = a.map rD ++ b.map rD from List.map_append]
        (exact LeV [(24, 33)])
      · (repeat' (first | ((with_reducible apply WD_id); first | (refine WD_sum ?_) | (refine WD_nxt htb (by exact rfl) ?_) | (refine WD_idx htb ?_) | (refine WD_ap htb ?_)) | (with_reducible apply WA_seq) | ((with_reducible apply gR hmix hN); exact (by kernel_rfl); (try dsimp only [List.append_eq, List.cons_append, List.nil_append])) | ((with_reducible apply WD_end); (first | exact no_draw | (intro _; kernel_rfl)); try simp only [thn, inB, List.length_map, List.cons_append, List.nil_append]) | ((with_reducible apply gCt); exact rfl; exact rfl) | ((with_reducible apply gCf); exact rfl; exact rfl) | (with_reducible apply WA_block) | ((with_reducible first | apply WA_skip | apply WA_ret | apply WA_exit | apply WA_label); try simp only [thn, inB, List.length_map, List.cons_append, List.nil_append])))
        refine gL (.inr rfl) (T' := [(2, .own 13)]) (M' := [(13, .arr 40 6 ((a ++ b).map rD))]) ?_ rfl rfl ⟨rfl, trivial⟩
        (exact LeV [(13, 24)])
end Go.Proofs.YtkjpnmodlmlhdaaGreatDoor
