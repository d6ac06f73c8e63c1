/- Contracts: the text of a trust, of a plain declaration; the program's and the reference's. -/
import Derived.Test.YtkjpnmodlmlhdaaGreatDoorQAJ
import Derived.Test.YtkjpnmodlmlhdaaGreatDoorQAK
import Derived.Test.YtkjpnmodlmlhdaaGreatDoorQAH
import Derived.Test.YtkjpnmodlmlhdaaGreatDoorQAI
namespace Go.Proofs.YtkjpnmodlmlhdaaGreatDoor
set_option linter.unusedSimpArgs false
set_option linter.unusedVariables false
set_option linter.unnecessarySimpa false
set_option linter.unusedSectionVars false
set_option maxRecDepth 100000
open Go Go.RowKit Go.Am Go.Proofs.Grow
abbrev rD (d : Dc) : List D := [dI d.nd, dI d.sq, dI d.t.k, .rows 1 (d.t.ns.map rI), .rows 3 (d.t.is.map rTr), .v (.int .u64 d.tg)]
abbrev aD (d : Dc) : AV := .agg [vI d.nd, vI d.sq, vI d.t.k, lI d.t.ns, lTr d.t.is, vU8 d.tg]
abbrev lD (l : List Dc) : AV := .d (.rows 6 (l.map rD))
theorem itoaI_m (n : Int) (hn : 0 ≤ n ∧ n < 100) : FnM Tryz.prog 60 [] [vI n] (vL (Lib.decDigits n.toNat)) [] := by
  have h := itoa_m n.toNat (by omega)
  rwa [Int.toNat_of_nonneg hn.1] at h
def wN (n : Int) : List UInt8 := Lib.decDigits n.toNat
theorem wN_len {n : Int} (h : 0 ≤ n ∧ n < 100) : (wN n).length ≤ 2 := by
  unfold wN
  by_cases h1 : n.toNat < 10
  · rw [Lib.decDigits_one h1]; simp
  · rw [Lib.decDigits_two h1 (by omega)]; simp
theorem join_le (l : List (List UInt8)) (b : Nat) (h : ∀ x ∈ l, x.length ≤ b) : (Lib.join l sepB).length ≤ l.length * (b + 2) := by
  cases l with
  | nil => simp [Lib.join_nil]
  | cons x r =>
    rw [Lib.join_length]
    have h1 : ∀ (m : List (List UInt8)), (∀ y ∈ m, y.length ≤ b) → Lib.lens m ≤ m.length * b := fun m => by
      induction m with
      | nil => intro _; simp [Lib.lens]
      | cons y m ih =>
        intro hm
        have h2 := ih fun z hz => hm z (by simp [hz])
        have h3 := hm y (by simp)
        simp only [Lib.lens, List.map_cons, List.sum_cons, List.length_cons, Nat.add_mul] at h2 ⊢
        omega
    have h2 := h1 (x :: r) h
    have e : sepB.length = 2 := rfl
    rw [e]
    simp only [List.length_cons, Nat.mul_add, Nat.add_mul] at h2 ⊢
    omega
theorem wr_eq (t : Tr) : wrT t = wN t.k ++ ofB ++ Lib.join (t.ns.map wN ++ t.is.map wrT) sepB ++ [41] := by
  cases t; simp only [wrT, wrTs_map, Tr.k, Tr.ns, Tr.is]; rfl
theorem wr_len1 {t : Tr} (h : Sm1 t) (hs : sizT t ≤ 200) : (wrT t).length ≤ 1000 := by
  have hl := siz_len t
  rw [wr_eq, h.1]
  have h1 := wN_len (n := t.k) (by have := h.2.1; omega)
  have h2 := join_le (t.ns.map wN) 2 fun x hx => by
    obtain ⟨y, hy, rfl⟩ := List.mem_map.1 hx
    exact wN_len (by have := h.2.2 y hy; omega)
  rw [List.length_map] at h2
  have e : ofB.length = 5 := rfl
  simp only [List.map_nil, List.append_nil, List.length_append, List.length_cons, List.length_nil, e]
  omega
theorem wr_words_len {t : Tr} (h : Sm2 t) (hs : sizT t ≤ 200) : ∀ x ∈ t.ns.map wN ++ t.is.map wrT, x.length ≤ 1000 := by
  intro x hx
  rcases List.mem_append.1 hx with hx | hx
  · obtain ⟨y, hy, rfl⟩ := List.mem_map.1 hx
    have := wN_len (n := y) (by have := h.2.1 y hy; omega)
    omega
  · obtain ⟨y, hy, rfl⟩ := List.mem_map.1 hx
    exact wr_len1 (h.2.2 y hy) (by have := siz_mem hy; omega)
theorem wr_join_len {t : Tr} (h : Sm2 t) (hs : sizT t ≤ 200) : (Lib.join (t.ns.map wN ++ t.is.map wrT) sepB).length ≤ 400000 := by
  have h1 := join_le _ 1000 (wr_words_len h hs)
  have hl := siz_len t
  simp only [List.length_append, List.length_map] at h1
  have : (t.ns.length + t.is.length) * (1000 + 2) ≤ 200 * 1002 := Nat.mul_le_mul (by omega) (by omega)
  omega
theorem wr_len {t : Tr} (h : Sm2 t) (hs : sizT t ≤ 200) : (wrT t).length ≤ 400100 := by
  have h1 := wr_join_len h hs
  have h2 := wN_len (n := t.k) (by have := h.1; omega)
  have e : ofB.length = 5 := rfl
  rw [wr_eq]
  simp only [List.length_append, List.length_cons, List.length_nil, e]
  omega
theorem byt_len {d : Dc} (h : PlD d) : (bytD d).length ≤ 500000 := by
  have h1 := wr_len h.sm (by have := h.siz; omega)
  have h2 := wN_len (n := d.nd) (by have := h.nd; omega)
  have h3 := wN_len (n := d.sq) (by have := h.sq; omega)
  unfold wN at h2 h3
  unfold bytD
  simp only [List.length_append, List.length_cons, List.length_nil]
  omega
theorem Sm1.sm2 {t : Tr} (h : Sm1 t) : Sm2 t := ⟨h.2.1, h.2.2, fun y hy => by rw [h.1] at hy; cases hy⟩
theorem catL_step {o : Oper} {t t' : TypeId} {x y : Operand} {T : Nat → Option AV} {M : Nat → Option AO} {P : Program} {a b : List UInt8} (ho : o.op = .binOp .add t x y t') (hx : evA T x = some (vL a)) (hy : evA T y = some (vL b)) (h : a.length + b.length ≤ 1000000 := by first | omega | (simp only [List.length_append, List.length_cons, List.length_nil]; omega)) : StepOK P o T M ⟨vL (a ++ b), [], []⟩ := cat_step ho hx hy h
set_option maxHeartbeats 2000000 in
theorem wr_g (t : Tr) (h : Sm2 t) (hs : sizT t ≤ 200) (ih : ∀ y ∈ t.is, FnM Tryz.prog 98 [] [aTr y] (vL (wrT y)) []) : FnM Tryz.prog 98 [] [aTr t] (vL (wrT t)) [] := by
  have hl := siz_len t
  have hj := wr_join_len h hs
  have hk1 := wN_len (n := t.k) (by have := h.1; omega)
  show FnM _ _ _ [.agg [vI t.k, lI t.ns, .d (.rows 3 (t.is.map rTr))]] _ _
  rw [rTr_p]
  refine FnM.of htb Tryz.func98 rfl rfl rfl rfl rfl fun cx hN h0 => ?_
  (repeat' (first | ((with_reducible apply WD_id); first | (refine WD_sum ?_) | (refine WD_nxt htb (by exact rfl) ?_) | (refine WD_idx htb ?_) | (refine WD_ap htb ?_)) | (with_reducible apply WA_seq) | ((with_reducible apply gR hmix hN); exact (by kernel_rfl); (try dsimp only [List.append_eq, List.cons_append, List.nil_append])) | ((with_reducible apply WD_end); (first | exact no_draw | (intro _; kernel_rfl)); try simp only [thn, inB, List.length_map, List.cons_append, List.nil_append]) | ((with_reducible apply gCt); exact rfl; exact rfl) | ((with_reducible apply gCf); exact rfl; exact rfl) | ((with_reducible apply gCk); exact rfl; exact known; intro hb; rw [hb]; clear hb) | ((with_reducible apply gCn); exact rfl; exact known; intro hb; rw [hb]; clear hb) | (with_reducible apply WA_block) | ((with_reducible first | apply WA_skip | apply WA_ret | apply WA_exit | apply WA_label); try simp only [thn, inB, List.length_map, List.cons_append, List.nil_append])))
  refine WA_le (Le_nilT 60 3 9 1 rfl rfl) ?_
  (refine WA_forV (t.ns.length) [11, 3] [60] (fun k => [(11, vI k), (3, .own 60)]) (fun k => [(60, .arr 9 1 (((t.ns.take k).map wN).map rW))]) (fun k => True) ?h0 ?_)
  case h0 => trivial
  intro k hk _
  have hlk : (t.ns.take k).length ≤ k := by rw [List.length_take]; omega
  rcases Nat.lt_or_ge k t.ns.length with hk' | hk'
  · have t1 : decide ((k : Int) < (t.ns.length : Int)) = true := by simp; omega
    have hn : 0 ≤ nth t.ns k ∧ nth t.ns k < 100 := by have := h.2.1 _ (nth_mem t.ns k hk'); omega
    have hst : t.ns.take (k + 1) = t.ns.take k ++ [nth t.ns k] := by rw [List.take_succ_eq_append_getElem hk', nth_getElem t.ns k hk']
    (repeat' (first | ((with_reducible apply WD_id); first | (refine WD_sum ?_) | (refine WD_nxt htb (by exact rfl) ?_) | (refine WD_call (by exact rfl) ?_; first | (refine WD_c0 (itoaI_m _ ?_) ?_; (exact hyp))) | (refine WD_idx htb ?_) | (refine WD_ap htb ?_)) | (with_reducible apply WA_seq) | ((with_reducible apply gR hmix hN); exact (by kernel_rfl); (try dsimp only [List.append_eq, List.cons_append, List.nil_append])) | ((with_reducible apply WD_end); (first | exact no_draw | (intro _; kernel_rfl)); try simp only [thn, inB, List.length_map, List.cons_append, List.nil_append]) | ((with_reducible apply gCt); exact rfl; exact rfl) | ((with_reducible apply gCf); exact rfl; exact rfl) | ((with_reducible apply gCk); exact rfl; exact known; intro hb; rw [hb]; clear hb) | ((with_reducible apply gCn); exact rfl; exact known; intro hb; rw [hb]; clear hb) | (with_reducible apply WA_block) | ((with_reducible first | apply WA_skip | apply WA_ret | apply WA_exit | apply WA_label); try simp only [thn, inB, List.length_map, List.cons_append, List.nil_append])))
    refine ⟨hk', trivial, ?_⟩
    rw [hst, List.map_append, List.map_append]
    (exact LeV [(60, 19)])
  · have t1 : decide ((k : Int) < (t.ns.length : Int)) = false := by simp; omega
    have e1 : t.ns.take k = t.ns := take_all hk'
    rw [e1]
    (repeat' (first | ((with_reducible apply WD_id); first | (refine WD_sum ?_) | (refine WD_nxt htb (by exact rfl) ?_) | (refine WD_idx htb ?_) | (refine WD_ap htb ?_)) | (with_reducible apply WA_seq) | ((with_reducible apply gR hmix hN); exact (by kernel_rfl); (try dsimp only [List.append_eq, List.cons_append, List.nil_append])) | ((with_reducible apply WD_end); (first | exact no_draw | (intro _; kernel_rfl)); try simp only [thn, inB, List.length_map, List.cons_append, List.nil_append]) | ((with_reducible apply gCt); exact rfl; exact rfl) | ((with_reducible apply gCf); exact rfl; exact rfl) | ((with_reducible apply gCk); exact rfl; exact known; intro hb; rw [hb]; clear hb) | ((with_reducible apply gCn); exact rfl; exact known; intro hb; rw [hb]; clear hb) | (with_reducible apply WA_block) | ((with_reducible first | apply WA_skip | apply WA_ret | apply WA_exit | apply WA_label); try simp only [thn, inB, List.length_map, List.cons_append, List.nil_append])))
    (refine WA_forV (t.is.length) [24, 3] [60] (fun k => [(24, vI k), (3, .own 60)]) (fun k => [(60, .arr 9 1 ((t.ns.map wN ++ (t.is.take k).map wrT).map rW))]) (fun k => True) ?h0 ?_)
    case h0 => trivial
    intro j hj2 _
    have hlj : (t.is.take j).length ≤ j := by rw [List.length_take]; omega
    rcases Nat.lt_or_ge j t.is.length with hj' | hj'
    · have t2 : decide ((j : Int) < (t.is.length : Int)) = true := by simp; omega
      have wrI_m := ih _ (nth_mem t.is j hj')
      have hst : t.is.take (j + 1) = t.is.take j ++ [nth t.is j] := by rw [List.take_succ_eq_append_getElem hj', nth_getElem t.is j hj']
      (repeat' (first | ((with_reducible apply WD_id); first | (refine WD_sum ?_) | (refine WD_nxt htb (by exact rfl) ?_) | (refine WD_call (by exact rfl) ?_; first | (refine WD_c0 (wrI_m) ?_)) | (refine WD_idx htb ?_) | (refine WD_ap htb ?_)) | (with_reducible apply WA_seq) | ((with_reducible apply gR hmix hN); exact (by kernel_rfl); (try dsimp only [List.append_eq, List.cons_append, List.nil_append])) | ((with_reducible apply WD_end); (first | exact no_draw | (intro _; kernel_rfl)); try simp only [thn, inB, List.length_map, List.cons_append, List.nil_append]) | ((with_reducible apply gCt); exact rfl; exact rfl) | ((with_reducible apply gCf); exact rfl; exact rfl) | ((with_reducible apply gCk); exact rfl; exact known; intro hb; rw [hb]; clear hb) | ((with_reducible apply gCn); exact rfl; exact known; intro hb; rw [hb]; clear hb) | (with_reducible apply WA_block) | ((with_reducible first | apply WA_skip | apply WA_ret | apply WA_exit | apply WA_label); try simp only [thn, inB, List.length_map, List.cons_append, List.nil_append])))
      refine ⟨hj', trivial, ?_⟩
      rw [hst]
      simp only [List.map_append, ← List.append_assoc]
      (exact LeV [(60, 32)])
    · have t2 : decide ((j : Int) < (t.is.length : Int)) = false := by simp; omega
      have e2 : t.is.take j = t.is := take_all hj'
      have hkk : 0 ≤ t.k ∧ t.k < 100 := by have := h.1; omega
      have hwl : (t.ns.map wN ++ t.is.map wrT).length ≤ 1000 := by simp only [List.length_append, List.length_map]; omega
      have hjl : (Lib.join (t.ns.map wN ++ t.is.map wrT) [44, 32]).length ≤ 400000 := hj
      have hk2 : (Lib.decDigits t.k.toNat).length ≤ 2 := hk1
      rw [e2]
      (repeat' (first | ((with_reducible apply WD_id); first | (refine WD_sum ?_) | (refine WD_nxt htb (by exact rfl) ?_) | (refine WD_call (by exact rfl) ?_; first | (refine WD_c0 (itoaI_m _ ?_) ?_; (exact hyp)) | (refine WD_c0 (join_m _ _ ?_ ?_) ?_; (exact hyp); (exact hyp))) | (refine WD_eq (catL_step rfl rfl rfl) ?_) | (refine WD_idx htb ?_) | (refine WD_ap htb ?_)) | (with_reducible apply WA_seq) | ((with_reducible apply gR hmix hN); exact (by kernel_rfl); (try dsimp only [List.append_eq, List.cons_append, List.nil_append])) | ((with_reducible apply WD_end); (first | exact no_draw | (intro _; kernel_rfl)); try simp only [thn, inB, List.length_map, List.cons_append, List.nil_append]) | ((with_reducible apply gCt); exact rfl; exact rfl) | ((with_reducible apply gCf); exact rfl; exact rfl) | ((with_reducible apply gCk); exact rfl; exact known; intro hb; rw [hb]; clear hb) | ((with_reducible apply gCn); exact rfl; exact known; intro hb; rw [hb]; clear hb) | (with_reducible apply WA_block) | ((with_reducible first | apply WA_skip | apply WA_ret | apply WA_exit | apply WA_label); try simp only [thn, inB, List.length_map, List.cons_append, List.nil_append])))
      exact gE (.inr rfl) rfl (congrArg vL (wr_eq t).symm) trivial
theorem wr1_m (t : Tr) (h : Sm1 t) (hs : sizT t ≤ 200) : FnM Tryz.prog 98 [] [aTr t] (vL (wrT t)) [] :=
  wr_g t h.sm2 hs fun y hy => by rw [h.1] at hy; cases hy
theorem wr_m (t : Tr) (h : Sm2 t) (hs : sizT t ≤ 200) : FnM Tryz.prog 98 [] [aTr t] (vL (wrT t)) [] :=
  wr_g t h hs fun y hy => wr1_m y (h.2.2 y hy) (by have := siz_mem hy; omega)
theorem text_m (t : Tr) (h : Sm2 t) (hs : sizT t ≤ 200) (hc : chkT t = 0) : FnM Tryz.prog 61 [] [aTr t] (vL (wrT t)) [] := by
  refine FnM.of htb Tryz.func61 rfl rfl rfl rfl rfl fun cx hN h0 => ?_
  have t1 : (chkT t != 0) = false := by rw [hc]; rfl
  (repeat' (first | ((with_reducible apply WD_id); first | (refine WD_nxt htb (by exact rfl) ?_) | (refine WD_call (by exact rfl) ?_; first | (refine WD_c0 (chk3_m _ ?_) ?_; (exact hyp)) | (refine WD_c0 (wr_m _ ?_ ?_) ?_; (exact hyp); (exact hyp)))) | (with_reducible apply WA_seq) | ((with_reducible apply gR hmix hN); exact (by kernel_rfl); (try dsimp only [List.append_eq, List.cons_append, List.nil_append])) | ((with_reducible apply WD_end); (first | exact no_draw | (intro _; kernel_rfl)); try simp only [thn, inB, List.length_map, List.cons_append, List.nil_append]) | ((with_reducible apply gCf); exact rfl; exact rfl) | ((with_reducible apply gCn); exact rfl; exact known; intro hb; rw [hb]; clear hb) | (with_reducible apply WA_block) | ((with_reducible first | apply WA_skip | apply WA_ret | apply WA_exit | apply WA_label); try simp only [thn, inB, List.length_map, List.cons_append, List.nil_append])))
  exact gE (.inr rfl) rfl rfl trivial
theorem dep1_m (t : Tr) (hs : sizT t ≤ 1000) : FnM Tryz.prog 88 [] [aTr t] (vI (depT t)) [] := dep_m _ t (Nat.le_refl _) hs
theorem siz1_m (t : Tr) (hs : sizT t ≤ 1000) : FnM Tryz.prog 89 [] [aTr t] (vI (sizT t)) [] := siz_m _ t (Nat.le_refl _) hs
theorem plain_m (d : Dc) (h : PlD d) : FnM Tryz.prog 52 [] [aD d] (vI 0) [] := by
  have h1 := h.nd
  have h2 := h.sq
  have h3 := h.siz
  have h4 := h.dep
  have t1 : decide (d.nd < 0) = false := by simp; omega
  have t2 : decide (d.nd ≥ 10) = false := by simp; omega
  have t3 : decide (d.sq < 1) = false := by simp; omega
  have t4 : decide (d.sq > 30) = false := by simp; omega
  have t5 : (chkT d.t != 0) = false := by rw [h.chk]; rfl
  have t6 : decide (depT d.t > 3) = false := by simp; omega
  have t7 : decide (sizT d.t > 40) = false := by simp; omega
  refine FnM.of htb Tryz.func52 rfl rfl rfl rfl rfl fun cx hN h0 => ?_
  (repeat' (first | ((with_reducible apply WD_id); first | (refine WD_nxt htb (by exact rfl) ?_) | (refine WD_call (by exact rfl) ?_; first | (refine WD_c0 (chk3_m _ ?_) ?_; (exact hyp)) | (refine WD_c0 (dep1_m _ ?_) ?_; (exact hyp)) | (refine WD_c0 (siz1_m _ ?_) ?_; (exact hyp))) | (refine WD_f (by exact rfl) (by exact rfl) (by exact known) fun hb => ?_; rw [hb]; clear hb)) | (with_reducible apply WA_seq) | ((with_reducible apply gR hmix hN); exact (by kernel_rfl); (try dsimp only [List.append_eq, List.cons_append, List.nil_append])) | ((with_reducible apply WD_end); (first | exact no_draw | (intro _; kernel_rfl)); try simp only [thn, inB, List.length_map, List.cons_append, List.nil_append]) | ((with_reducible apply gCf); exact rfl; exact rfl) | ((with_reducible apply gCn); exact rfl; exact known; intro hb; rw [hb]; clear hb) | (with_reducible apply WA_block) | ((with_reducible first | apply WA_skip | apply WA_ret | apply WA_exit | apply WA_label); try simp only [thn, inB, List.length_map, List.cons_append, List.nil_append])))
  exact gE (.inr rfl) rfl rfl trivial
theorem bytes_m (d : Dc) (h : PlD d) : FnM Tryz.prog 34 [] [aD d] (vL (bytD d)) [] := by
  have h3 := h.siz
  have hc := h.chk
  have hsm := h.sm
  have h1 : 0 ≤ d.nd ∧ d.nd < 100 := by have := h.nd; omega
  have h2 : 0 ≤ d.sq ∧ d.sq < 100 := by have := h.sq; omega
  have l1 : (Lib.decDigits d.nd.toNat).length ≤ 2 := wN_len h1
  have l2 : (Lib.decDigits d.sq.toNat).length ≤ 2 := wN_len h2
  have l3 : (wrT d.t).length ≤ 400100 := wr_len hsm (by omega)
  have t1 : ((0 : Int) != 0) = false := rfl
  refine FnM.of htb Tryz.func34 rfl rfl rfl rfl rfl fun cx hN h0 => ?_
  (repeat' (first | ((with_reducible apply WD_id); first | (refine WD_nxt htb (by exact rfl) ?_) | (refine WD_call (by exact rfl) ?_; first | (refine WD_c0 (plain_m _ ?_) ?_; (exact hyp)) | (refine WD_c0 (itoaI_m _ ?_) ?_; (exact hyp)) | (refine WD_c0 (text_m _ ?_ ?_ ?_) ?_; (exact hyp); (exact hyp); (exact hyp))) | (refine WD_eq (catL_step rfl rfl rfl) ?_)) | (with_reducible apply WA_seq) | ((with_reducible apply gR hmix hN); exact (by kernel_rfl); (try dsimp only [List.append_eq, List.cons_append, List.nil_append])) | ((with_reducible apply WD_end); (first | exact no_draw | (intro _; kernel_rfl)); try simp only [thn, inB, List.length_map, List.cons_append, List.nil_append]) | ((with_reducible apply gCf); exact rfl; exact rfl) | (with_reducible apply WA_block) | ((with_reducible first | apply WA_skip | apply WA_ret | apply WA_exit | apply WA_label); try simp only [thn, inB, List.length_map, List.cons_append, List.nil_append])))
  exact gE (.inr rfl) rfl rfl trivial
end Go.Proofs.YtkjpnmodlmlhdaaGreatDoor
/- Contracts: the hash of bytes, the tag of bytes under a key; the program's and the reference's. -/
namespace Go.Proofs.YtkjpnmodlmlhdaaGreatDoor
set_option linter.unusedSimpArgs false
set_option linter.unusedVariables false
set_option linter.unnecessarySimpa false
set_option linter.unusedSectionVars false
set_option maxRecDepth 100000
open Go Go.RowKit Go.Am Go.Proofs.Grow
/-- A block of the call's own that is not written any more. -/
theorem Le_frz {cx : Cx} {T : List (Nat × AV)} {M : List (Nat × AO)} (t g : Nat) {ty : TypeId} {ds : List D} (ht : lk T t = some (.ptr g 0)) (hg : lk M g = some (.box ty (ds.map .d))) : Le cx ⟨T, M⟩ ⟨(t, .rp ds) :: T, (g, .dead) :: M⟩ := by
  rintro a w ⟨μ, h⟩
  obtain ⟨b, vs, q1, q2, q3⟩ := h.ob g _ hg
  have hv := h.tm t _ ht
  have h2 := h.kill g (by rw [hg]; simp)
  rw [upM_cons] at h2
  refine ⟨μ, h2.slot ?_⟩
  generalize a.tmps.getD t undef = u at hv
  have hold : ∀ c, Hot μ (lk ((g, .dead) :: M)) c → Hot μ (lk M) c ∧ c ≠ b := by
    rintro c ⟨k, q, u, h1, h2, h3, h4⟩
    rw [lk_cons] at h1
    simp only at h1
    by_cases e : g = k
    · subst e
      rw [if_pos rfl] at h1
      obtain rfl : AO.dead = q := by simpa using h1
      cases h2
    · rw [if_neg e] at h1
      refine ⟨⟨k, q, u, h1, h2, h3, h4⟩, fun ec => e ?_⟩
      subst ec
      exact h.inj g k _ q _ u c hg rfl h1 h2 q1 h3 rfl h4
  have hnew : ∀ c, Ht cx μ (lk ((g, .dead) :: M)) c → Ht cx μ (lk M) c := fun c hc => hc.imp id fun k => (hold c k).1
  cases hv with
  | @ptr _ b' _ hb =>
    rw [q1] at hb
    obtain rfl : b = b' := by simpa using hb
    have hlt : b < w.heap.size := (Array.getElem?_eq_some_iff.1 q2).1
    refine .rp (fun j => vs.getD j undef) (fun hh => ?_) hlt (fun j c hc => ?_) (fun j c hc => ?_)
    · rcases hh with hh | hh
      · have k1 := h.hs b hh
        have k2 := (h.lo b ⟨g, _, _, hg, rfl, q1, rfl⟩).2
        rcases k2 with k2 | k2
        · exact k1.2 k2
        · omega
      · exact (hold b hh).2 rfl
    all_goals
      have hj : (ds.map AV.d)[j]? = some (.d c) := by rw [List.getElem?_map, hc]; rfl
      have hjl : j < vs.length := by
        rw [← q3.1]
        exact (List.getElem?_eq_some_iff.1 hj).1
      have hv : vs[j]? = some vs[j] := List.getElem?_eq_getElem hjl
      have e : vs.getD j undef = vs[j] := by rw [List.getD_eq_getElem?_getD, hv]; rfl
      rw [e]
    · simp [World.cell?, q2, hjl]
    · have := q3.2 j (.d c) vs[j] hj hv
      cases this with
      | d h => exact h.mono fun b hb hn => ⟨fun k => hn (hnew b k), hb, rfl⟩
theorem WD_ixp {P : Program} {tbl : List (Nat × TI)} {ops r : List Oper} {o : Oper} {fin : List (List Nat × List Nat) → List (Nat × AV) → List (Nat × AO) → Prop} {acc : List (List Nat × List Nat)} {T : List (Nat × AV)} {M : List (Nat × AO)} (htb : TOK P tbl) {d : Tmp} {ty e : TypeId} {x y : Operand} {i j : TI} {g off n : Nat} {kk : IntKind} {q : Int} (k : WD P ops fin r (([], []) :: acc) ((d, .ptr g (off + n * j.size)) :: T) M) (ho : o.op = .indexAddr ty x y := by exact rfl)
    (hg : gd ops T o = some true := by exact rfl) (hd : o.dst = some d := by exact rfl) (ht : lk tbl ty = some i := by exact rfl) (ha : i.agg = true := by exact rfl) (he : i.el = some e := by exact rfl) (hj : lk tbl e = some j := by exact rfl) (hx : evA (lk T) x = some (.ptr g off) := by exact rfl)
    (hy : evA (lk T) y = some (.d (.v (.int kk q))) := by exact rfl) (hq : q = (n : Int) := by first | exact rfl | exact (Int.toNat_of_nonneg (by decide)).symm) (hn : Nat.blt n i.len = true := by exact rfl) : WD P ops fin (o :: r) acc T M := WD_dv hg hd (step_index_arr htb ho ht ha he hj hx (by rw [hy, hq]) hn) k
theorem rB_one {l : List UInt8} {i j : Nat} {r : List D} {c : D} (hr : (l.map rB)[i]? = some r) (hc : r[j]? = some c) : ∃ hi : i < l.length, j = 0 ∧ c = D.v (.int .u8 l[i].toNat) := by
  rw [List.getElem?_map] at hr
  cases hq : l[i]? with
  | none => rw [hq] at hr; cases hr
  | some b =>
    rw [hq] at hr
    have hi := (List.getElem?_eq_some_iff.1 hq).1
    have e : b = l[i] := by rw [List.getElem?_eq_getElem hi] at hq; exact (Option.some.inj hq).symm
    obtain rfl : rB b = r := Option.some.inj hr
    refine ⟨hi, ?_⟩
    cases j with
    | zero => exact ⟨rfl, by rw [← e]; exact (Option.some.inj hc).symm⟩
    | succ j => simp [rB] at hc
section
variable {o : Oper} {x y : Operand} {T : Nat → Option AV} {M : Nat → Option AO}
theorem slcB_step {l : List UInt8} (ho : o.op = .slice 147 x none none none) (hx : evA T x = some (.rp (l.map fun c => D.v (.int .u8 c.toNat)))) (h3 : true = true) (hl : l.length = 8 := by first | assumption | rfl) : StepOK Tryz.prog o T M ⟨lB l, [], []⟩ :=
  step_read [] fun cx μ T' M' a w h hT _ => by
    have h1 := h.ev (x := x) hT (by simp [ho, Op.operands]) hx
    generalize hv : a.eval x = v at h1
    have hlen : (l.map rB).length = 8 := by rw [List.length_map, hl]
    cases h1 with
    | @rp _ b off vs hb hlt hcell hval =>
      have key : ∀ (i : Nat) (hi : i < l.length), (l.map fun c => D.v (.int .u8 c.toNat))[i]? = some (D.v (.int .u8 l[i].toNat)) := fun i hi => by simp [hi]
      have hvs : ∀ (i : Nat) (hi : i < l.length), vs i = .int .u8 l[i].toNat := fun i hi => by
        have := hval i _ (key i hi)
        generalize vs i = u at this
        cases this with
        | v => rfl
      have hr : (Instr.sliceAt 147 (.pointer (some ⟨b, off, none⟩)) none none none).run Tryz.prog w = .ok (.slice (some ⟨b, off, none⟩) 8 8) w := by
        simp [Instr.sliceAt, run_underlying Tryz.underlying147, Instr.sliceBounds, Tryz.sizeOf5, go_sem]
      have hd := VD.rows (H := Ht cx μ M') (w := w) 1 (l.map rB) b off 8 (fun i _ => vs i) (fun e => by rw [e] at hlen; cases hlen) (by omega) (by rw [hlen]; unfold maxLen; omega) hb hlt
        (fun i r hr => by
          rw [List.getElem?_map] at hr
          cases hq : l[i]? with
          | none => rw [hq] at hr; cases hr
          | some b => rw [hq] at hr; obtain rfl : rB b = r := Option.some.inj hr; rfl)
        (fun i r j c hr hc => by
          obtain ⟨hi, rfl, rfl⟩ := rB_one hr hc
          have := hcell i _ (key i hi)
          simpa using this)
        (fun i r j c hr hc => by
          obtain ⟨hi, rfl, rfl⟩ := rB_one hr hc
          rw [hvs i hi]; rfl)
        (fun i r j c hr hc => by
          obtain ⟨hi, rfl, rfl⟩ := rB_one hr hc
          rw [hvs i hi]; exact .v _)
      rw [hlen] at hd
      refine ⟨.slice (some ⟨b, off, none⟩) 8 8, ?_, .d hd⟩
      simp only [execOp, ho, hv, Option.map_none, Sem.run_bind, hr, Result.andThen_ok, Sem.run_pure]
theorem idxL_step {l : List UInt8} {k : Nat} (ho : o.op = .index 9 x y) (hx : evA T x = some (vL l)) (hy : evA T y = some (vI (k : Int))) (hk : k < l.length := by exact num) : StepOK Tryz.prog o T M ⟨.d (.v (.int .u8 ((nth l k).toNat : Int))), [], []⟩ :=
  step_read [] fun cx μ T' M' a w h hT _ => by
    have h1 := (h.ev (x := x) hT (by simp [ho, Op.operands]) hx).val
    have h2 := (h.ev (x := y) hT (by simp [ho, Op.operands]) hy).val
    have e : (⟨⟨l⟩⟩ : ByteArray)[k]? = some (nth l k) := by
      have hs : k < (⟨⟨l⟩⟩ : ByteArray).size := by simpa [ByteArray.size] using hk
      rw [getElem?_pos (⟨⟨l⟩⟩ : ByteArray) k hs, nth_getElem l k hk]
      rfl
    refine ⟨.int .u8 ((nth l k).toNat : Int), ?_, .d (.v _)⟩
    simp only [execOp, ho, h1, h2]
    simp [Instr.index, run_underlying Tryz.underlying9, go_sem, e]
theorem lenL_step {l : List UInt8} (ho : o.op = .call { callee := .builtin .len, args := #[x], argTypes := #[9] }) (hx : evA T x = some (vL l)) (_h : (0 : Nat) = 0) : StepOK Tryz.prog o T M ⟨vI (l.length : Int), [], []⟩ :=
  step_len_str htb ho Tryz.underlying9 hx
end
def hash0 (l : List UInt8) : Int := hashF 14695981039346656037 l
theorem hash_m (l : List UInt8) (hl : l.length ≤ 600000) : FnM Tryz.prog 90 [] [vL l] (vU8 (hash0 l)) [] := by
  refine FnM.of htb Tryz.func90 rfl rfl rfl rfl rfl fun cx hN h0 => ?_
  (repeat' (first | ((with_reducible apply WD_id); first | (refine WD_sum ?_) | (refine WD_nxt htb (by exact rfl) ?_) | (refine WD_eq (s2b_step rfl rfl rfl) ?_) | (refine WD_idx htb ?_)) | (with_reducible apply WA_seq) | ((with_reducible apply gR hmix hN); exact (by kernel_rfl); (try dsimp only [List.append_eq, List.cons_append, List.nil_append])) | ((with_reducible apply WD_end); (first | exact no_draw | (intro _; kernel_rfl)); try simp only [thn, inB, List.length_map, List.cons_append, List.nil_append]) | ((with_reducible apply gCt); exact rfl; exact rfl) | ((with_reducible apply gCf); exact rfl; exact rfl) | ((with_reducible apply gCk); exact rfl; exact known; intro hb; rw [hb]; clear hb) | ((with_reducible apply gCn); exact rfl; exact known; intro hb; rw [hb]; clear hb) | (with_reducible apply WA_block) | ((with_reducible first | apply WA_skip | apply WA_ret | apply WA_exit | apply WA_label); try simp only [thn, inB, List.length_map, List.cons_append, List.nil_append])))
  (refine WA_forV (l.length) [9, 3] [] (fun k => [(9, vI k), (3, vU8 (hash0 (l.take k)))]) (fun k => []) (fun k => True) ?h0 ?_)
  case h0 => trivial
  intro k hk _
  rcases Nat.lt_or_ge k l.length with hk' | hk'
  · have t1 : decide ((k : Int) < (l.length : Int)) = true := by simp; omega
    have hst : hash0 (l.take (k + 1)) = _ := hash_take 14695981039346656037 l hk'
    (repeat' (first | ((with_reducible apply WD_id); first | (refine WD_sum ?_) | (refine WD_nxt htb (by exact rfl) ?_) | (refine WD_eq (xorU_step rfl rfl rfl) ?_) | (refine WD_idx htb ?_)) | (with_reducible apply WA_seq) | ((with_reducible apply gR hmix hN); exact (by kernel_rfl); (try dsimp only [List.append_eq, List.cons_append, List.nil_append])) | ((with_reducible apply WD_end); (first | exact no_draw | (intro _; kernel_rfl)); try simp only [thn, inB, List.length_map, List.cons_append, List.nil_append]) | ((with_reducible apply gCt); exact rfl; exact rfl) | ((with_reducible apply gCf); exact rfl; exact rfl) | ((with_reducible apply gCk); exact rfl; exact known; intro hb; rw [hb]; clear hb) | ((with_reducible apply gCn); exact rfl; exact known; intro hb; rw [hb]; clear hb) | (with_reducible apply WA_block) | ((with_reducible first | apply WA_skip | apply WA_ret | apply WA_exit | apply WA_label); try simp only [thn, inB, List.length_map, List.cons_append, List.nil_append])))
    refine ⟨hk', trivial, ?_⟩
    rw [hst]
    (exact LeV [])
  · have t1 : decide ((k : Int) < (l.length : Int)) = false := by simp; omega
    have e1 : l.take k = l := take_all hk'
    rw [e1]
    (repeat' (first | ((with_reducible apply WD_id); first | (refine WD_sum ?_) | (refine WD_nxt htb (by exact rfl) ?_) | (refine WD_idx htb ?_)) | (with_reducible apply WA_seq) | ((with_reducible apply gR hmix hN); exact (by kernel_rfl); (try dsimp only [List.append_eq, List.cons_append, List.nil_append])) | ((with_reducible apply WD_end); (first | exact no_draw | (intro _; kernel_rfl)); try simp only [thn, inB, List.length_map, List.cons_append, List.nil_append]) | ((with_reducible apply gCt); exact rfl; exact rfl) | ((with_reducible apply gCf); exact rfl; exact rfl) | ((with_reducible apply gCk); exact rfl; exact known; intro hb; rw [hb]; clear hb) | ((with_reducible apply gCn); exact rfl; exact known; intro hb; rw [hb]; clear hb) | (with_reducible apply WA_block) | ((with_reducible first | apply WA_skip | apply WA_ret | apply WA_exit | apply WA_label); try simp only [thn, inB, List.length_map, List.cons_append, List.nil_append])))
    exact gE (.inr rfl) rfl rfl trivial
theorem hashR_m (l : List UInt8) (hl : l.length ≤ 600000) : FnM Tryz.prog 126 [] [vL l] (vU8 (hash0 l)) [] := by
  refine FnM.of htb Tryz.func126 rfl rfl rfl rfl rfl fun cx hN h0 => ?_
  (repeat' (first | ((with_reducible apply WD_id); first | (refine WD_sum ?_) | (refine WD_nxt htb (by exact rfl) ?_)) | (with_reducible apply WA_seq) | ((with_reducible apply gR hmix hN); exact (by kernel_rfl); (try dsimp only [List.append_eq, List.cons_append, List.nil_append])) | ((with_reducible apply WD_end); (first | exact no_draw | (intro _; kernel_rfl)); try simp only [thn, inB, List.length_map, List.cons_append, List.nil_append]) | ((with_reducible apply gCt); exact rfl; exact rfl) | ((with_reducible apply gCf); exact rfl; exact rfl) | ((with_reducible apply gCk); exact rfl; exact known; intro hb; rw [hb]; clear hb) | ((with_reducible apply gCn); exact rfl; exact known; intro hb; rw [hb]; clear hb) | (with_reducible apply WA_block) | ((with_reducible first | apply WA_skip | apply WA_ret | apply WA_exit | apply WA_label); try simp only [thn, inB, List.length_map, List.cons_append, List.nil_append])))
  (refine WA_forV (l.length) [4, 3] [] (fun k => [(4, vI k), (3, vU8 (hash0 (l.take k)))]) (fun k => []) (fun k => True) ?h0 ?_)
  case h0 => trivial
  intro k hk _
  rcases Nat.lt_or_ge k l.length with hk' | hk'
  · have t1 : decide ((k : Int) < (l.length : Int)) = true := by simp; omega
    have hst : hash0 (l.take (k + 1)) = _ := hash_take 14695981039346656037 l hk'
    (repeat' (first | ((with_reducible apply WD_id); first | (refine WD_sum ?_) | (refine WD_nxt htb (by exact rfl) ?_) | (refine WD_eq (xorU_step rfl rfl rfl) ?_) | (refine WD_eq (lenL_step rfl rfl rfl) ?_) | (refine WD_eq (idxL_step rfl rfl rfl) ?_)) | (with_reducible apply WA_seq) | ((with_reducible apply gR hmix hN); exact (by kernel_rfl); (try dsimp only [List.append_eq, List.cons_append, List.nil_append])) | ((with_reducible apply WD_end); (first | exact no_draw | (intro _; kernel_rfl)); try simp only [thn, inB, List.length_map, List.cons_append, List.nil_append]) | ((with_reducible apply gCt); exact rfl; exact rfl) | ((with_reducible apply gCf); exact rfl; exact rfl) | ((with_reducible apply gCk); exact rfl; exact known; intro hb; rw [hb]; clear hb) | ((with_reducible apply gCn); exact rfl; exact known; intro hb; rw [hb]; clear hb) | (with_reducible apply WA_block) | ((with_reducible first | apply WA_skip | apply WA_ret | apply WA_exit | apply WA_label); try simp only [thn, inB, List.length_map, List.cons_append, List.nil_append])))
    refine ⟨hk', trivial, ?_⟩
    rw [hst]
    (exact LeV [])
  · have t1 : decide ((k : Int) < (l.length : Int)) = false := by simp; omega
    have e1 : l.take k = l := take_all hk'
    rw [e1]
    (repeat' (first | ((with_reducible apply WD_id); first | (refine WD_sum ?_) | (refine WD_nxt htb (by exact rfl) ?_) | (refine WD_eq (lenL_step rfl rfl rfl) ?_)) | (with_reducible apply WA_seq) | ((with_reducible apply gR hmix hN); exact (by kernel_rfl); (try dsimp only [List.append_eq, List.cons_append, List.nil_append])) | ((with_reducible apply WD_end); (first | exact no_draw | (intro _; kernel_rfl)); try simp only [thn, inB, List.length_map, List.cons_append, List.nil_append]) | ((with_reducible apply gCt); exact rfl; exact rfl) | ((with_reducible apply gCf); exact rfl; exact rfl) | ((with_reducible apply gCk); exact rfl; exact known; intro hb; rw [hb]; clear hb) | ((with_reducible apply gCn); exact rfl; exact known; intro hb; rw [hb]; clear hb) | (with_reducible apply WA_block) | ((with_reducible first | apply WA_skip | apply WA_ret | apply WA_exit | apply WA_label); try simp only [thn, inB, List.length_map, List.cons_append, List.nil_append])))
    exact gE (.inr rfl) rfl rfl trivial
def hb (key : Int) (i : Nat) : Int := IntKind.u8.wrap (shrU key (56 - 8 * (i : Int)))
theorem u8_bd (z : Int) : 0 ≤ IntKind.u8.wrap z ∧ IntKind.u8.wrap z < 256 := by
  have e : IntKind.u8.wrap z = z % 256 := by simp [IntKind.wrap, IntKind.bits, IntKind.signed]
  rw [e]; omega
theorem u8_back {z : Int} (h : 0 ≤ z ∧ z < 256) : ((UInt8.ofNat z.toNat).toNat : Int) = z := by
  rw [UInt8.toNat_ofNat']; omega
theorem head_len (key : Int) : (headF key).length = 8 := by simp [headF]
theorem head_at (key : Int) {k : Nat} (hk : k < 8) : ((nth (headF key) k).toNat : Int) = hb key k := by
  have e : nth (headF key) k = UInt8.ofNat (hb key k).toNat := by
    unfold headF nth
    simp [hk, hb]
  rw [e]
  exact u8_back (u8_bd _)
theorem head_rows (key : Int) : (headF key).map (fun c => D.v (.int .u8 c.toNat)) = [D.v (.int .u8 (hb key 0)), D.v (.int .u8 (hb key 1)), D.v (.int .u8 (hb key 2)), D.v (.int .u8 (hb key 3)), D.v (.int .u8 (hb key 4)), D.v (.int .u8 (hb key 5)), D.v (.int .u8 (hb key 6)), D.v (.int .u8 (hb key 7))] := by
  have e : headF key = [UInt8.ofNat (hb key 0).toNat, UInt8.ofNat (hb key 1).toNat, UInt8.ofNat (hb key 2).toNat, UInt8.ofNat (hb key 3).toNat, UInt8.ofNat (hb key 4).toNat, UInt8.ofNat (hb key 5).toNat, UInt8.ofNat (hb key 6).toNat, UInt8.ofNat (hb key 7).toNat] := rfl
  have b := fun i => u8_back (u8_bd (shrU key (56 - 8 * ((i : Nat) : Int))))
  rw [e]
  simp only [List.map_cons, List.map_nil]
  unfold hb
  rw [b 0, b 1, b 2, b 3, b 4, b 5, b 6, b 7]
abbrev c8 (z : Int) : AV := .d (.v (.int .u8 z))
def hcs (key : Int) : Nat → List AV
  | 0 => [c8 0, c8 0, c8 0, c8 0, c8 0, c8 0, c8 0, c8 0]
  | 1 => [c8 (hb key 0), c8 0, c8 0, c8 0, c8 0, c8 0, c8 0, c8 0]
  | 2 => [c8 (hb key 0), c8 (hb key 1), c8 0, c8 0, c8 0, c8 0, c8 0, c8 0]
  | 3 => [c8 (hb key 0), c8 (hb key 1), c8 (hb key 2), c8 0, c8 0, c8 0, c8 0, c8 0]
  | 4 => [c8 (hb key 0), c8 (hb key 1), c8 (hb key 2), c8 (hb key 3), c8 0, c8 0, c8 0, c8 0]
  | 5 => [c8 (hb key 0), c8 (hb key 1), c8 (hb key 2), c8 (hb key 3), c8 (hb key 4), c8 0, c8 0, c8 0]
  | 6 => [c8 (hb key 0), c8 (hb key 1), c8 (hb key 2), c8 (hb key 3), c8 (hb key 4), c8 (hb key 5), c8 0, c8 0]
  | 7 => [c8 (hb key 0), c8 (hb key 1), c8 (hb key 2), c8 (hb key 3), c8 (hb key 4), c8 (hb key 5), c8 (hb key 6), c8 0]
  | _ => [c8 (hb key 0), c8 (hb key 1), c8 (hb key 2), c8 (hb key 3), c8 (hb key 4), c8 (hb key 5), c8 (hb key 6), c8 (hb key 7)]
def tagB (key : Int) (l : List UInt8) : Int := hash0 (headF key ++ l)
set_option maxHeartbeats 4000000 in
theorem tag_m (key : Int) (l : List UInt8) (hl : l.length ≤ 500000) : FnM Tryz.prog 53 [] [vU8 key, vL l] (vU8 (tagB key l)) [] := by
  refine FnM.of htb Tryz.func53 rfl rfl rfl rfl rfl fun cx hN h0 => ?_
  have hh := head_len key
  have h9 : (headF key ++ l).length ≤ 600000 := by rw [List.length_append]; omega
  (repeat' (first | ((with_reducible apply WD_id); first | (refine WD_sum ?_) | (refine WD_nxt htb (by exact rfl) ?_) | (refine WD_ixp htb ?_)) | (with_reducible apply WA_seq) | ((with_reducible apply gR hmix hN); exact (by kernel_rfl); (try dsimp only [List.append_eq, List.cons_append, List.nil_append])) | ((with_reducible apply WD_end); (first | exact no_draw | (intro _; kernel_rfl)); try simp only [thn, inB, List.length_map, List.cons_append, List.nil_append]) | ((with_reducible apply gCt); exact rfl; exact rfl) | ((with_reducible apply gCf); exact rfl; exact rfl) | (with_reducible apply WA_block) | ((with_reducible first | apply WA_skip | apply WA_ret | apply WA_exit | apply WA_label); try simp only [thn, inB, List.length_map, List.cons_append, List.nil_append])))
  (refine WA_forV (8) [7] [5] (fun k => [(7, vI k)]) (fun k => [(5, .box 147 (hcs key k))]) (fun k => True) ?h0 ?_)
  case h0 => trivial
  intro k hk _
  rcases Nat.lt_or_ge k 8 with hk' | hk'
  · have t1 : decide ((k : Int) < 8) = true := by simp; omega
    obtain rfl | rfl | rfl | rfl | rfl | rfl | rfl | rfl : k = 0 ∨ k = 1 ∨ k = 2 ∨ k = 3 ∨ k = 4 ∨ k = 5 ∨ k = 6 ∨ k = 7 := by omega
    all_goals (repeat' (first | ((with_reducible apply WD_id); first | (refine WD_sum ?_) | (refine WD_nxt htb (by exact rfl) ?_) | (refine WD_eq (shrU_step rfl rfl rfl) ?_) | (refine WD_ixp htb ?_)) | (with_reducible apply WA_seq) | ((with_reducible apply gR hmix hN); exact (by kernel_rfl); (try dsimp only [List.append_eq, List.cons_append, List.nil_append])) | ((with_reducible apply WD_end); (first | exact no_draw | (intro _; kernel_rfl)); try simp only [thn, inB, List.length_map, List.cons_append, List.nil_append]) | ((with_reducible apply gCt); exact rfl; exact rfl) | ((with_reducible apply gCf); exact rfl; exact rfl) | (with_reducible apply WA_block) | ((with_reducible first | apply WA_skip | apply WA_ret | apply WA_exit | apply WA_label); try simp only [thn, inB, List.length_map, List.cons_append, List.nil_append])))
    all_goals (refine ⟨by omega, trivial, ?_⟩; (exact LeV []))
  · have t1 : decide ((k : Int) < 8) = false := by simp; omega
    obtain rfl : k = 8 := by omega
    refine WA_le (Le_frz 5 5 (ds := (headF key).map fun c => D.v (.int .u8 c.toNat)) rfl (by rw [head_rows]; rfl)) ?_
    (repeat' (first | ((with_reducible apply WD_id); first | (refine WD_sum ?_) | (refine WD_nxt htb (by exact rfl) ?_) | (refine WD_call (by exact rfl) ?_; first | (refine WD_c0 (hash_m _ ?_) ?_; (exact hyp))) | (refine WD_eq (slcB_step rfl rfl rfl) ?_) | (refine WD_eq (b2s_step rfl rfl rfl) ?_) | (refine WD_eq (catL_step rfl rfl rfl) ?_) | (refine WD_ixp htb ?_)) | (with_reducible apply WA_seq) | ((with_reducible apply gR hmix hN); exact (by kernel_rfl); (try dsimp only [List.append_eq, List.cons_append, List.nil_append])) | ((with_reducible apply WD_end); (first | exact no_draw | (intro _; kernel_rfl)); try simp only [thn, inB, List.length_map, List.cons_append, List.nil_append]) | ((with_reducible apply gCt); exact rfl; exact rfl) | ((with_reducible apply gCf); exact rfl; exact rfl) | (with_reducible apply WA_block) | ((with_reducible first | apply WA_skip | apply WA_ret | apply WA_exit | apply WA_label); try simp only [thn, inB, List.length_map, List.cons_append, List.nil_append])))
    exact gE (.inr rfl) rfl rfl trivial
theorem tagR_m (key : Int) (l : List UInt8) (hl : l.length ≤ 500000) : FnM Tryz.prog 82 [] [vU8 key, vL l] (vU8 (tagB key l)) [] := by
  refine FnM.of htb Tryz.func82 rfl rfl rfl rfl rfl fun cx hN h0 => ?_
  have hh := head_len key
  have h9 : (headF key ++ l).length ≤ 600000 := by rw [List.length_append]; omega
  (repeat' (first | ((with_reducible apply WD_id); first | (refine WD_sum ?_) | (refine WD_nxt htb (by exact rfl) ?_) | (refine WD_ap htb ?_)) | (with_reducible apply WA_seq) | ((with_reducible apply gR hmix hN); exact (by kernel_rfl); (try dsimp only [List.append_eq, List.cons_append, List.nil_append])) | ((with_reducible apply WD_end); (first | exact no_draw | (intro _; kernel_rfl)); try simp only [thn, inB, List.length_map, List.cons_append, List.nil_append]) | ((with_reducible apply gCt); exact rfl; exact rfl) | ((with_reducible apply gCf); exact rfl; exact rfl) | ((with_reducible apply gCk); exact rfl; exact known; intro hb; rw [hb]; clear hb) | ((with_reducible apply gCn); exact rfl; exact known; intro hb; rw [hb]; clear hb) | (with_reducible apply WA_block) | ((with_reducible first | apply WA_skip | apply WA_ret | apply WA_exit | apply WA_label); try simp only [thn, inB, List.length_map, List.cons_append, List.nil_append])))
  refine WA_le (Le_nilT 60 5 5 1 rfl rfl) ?_
  (refine WA_forV (8) [6, 5] [60] (fun k => [(6, vI (56 - 8 * (k : Int))), (5, .own 60)]) (fun k => [(60, .arr 5 1 (((headF key).take k).map rB))]) (fun k => True) ?h0 ?_)
  case h0 => trivial
  intro k hk _
  have hlk : ((headF key).take k).length ≤ k := by rw [List.length_take]; omega
  rcases Nat.lt_or_ge k 8 with hk' | hk'
  · have t1 : decide (56 - 8 * (k : Int) ≥ 0) = true := by simp; omega
    have hst : (headF key).take (k + 1) = (headF key).take k ++ [nth (headF key) k] := by rw [List.take_succ_eq_append_getElem (by omega), nth_getElem _ k (by omega)]
    have hat := head_at key hk'
    (repeat' (first | ((with_reducible apply WD_id); first | (refine WD_sum ?_) | (refine WD_nxt htb (by exact rfl) ?_) | (refine WD_eq (shrU_step rfl rfl rfl) ?_) | (refine WD_ap htb ?_)) | (with_reducible apply WA_seq) | ((with_reducible apply gR hmix hN); exact (by kernel_rfl); (try dsimp only [List.append_eq, List.cons_append, List.nil_append])) | ((with_reducible apply WD_end); (first | exact no_draw | (intro _; kernel_rfl)); try simp only [thn, inB, List.length_map, List.cons_append, List.nil_append]) | ((with_reducible apply gCt); exact rfl; exact rfl) | ((with_reducible apply gCf); exact rfl; exact rfl) | ((with_reducible apply gCk); exact rfl; exact known; intro hb; rw [hb]; clear hb) | ((with_reducible apply gCn); exact rfl; exact known; intro hb; rw [hb]; clear hb) | (with_reducible apply WA_block) | ((with_reducible first | apply WA_skip | apply WA_ret | apply WA_exit | apply WA_label); try simp only [thn, inB, List.length_map, List.cons_append, List.nil_append])))
    refine ⟨hk', trivial, ?_⟩
    have e6 : (56 - 8 * ((k + 1 : Nat) : Int)) = 56 - 8 * (k : Int) - 8 := by omega
    rw [hst, List.map_append, e6, List.map_cons, List.map_nil, show rB (nth (headF key) k) = [D.v (.int .u8 (hb key k))] by unfold rB; rw [hat]]
    (exact LeV [(60, 17)])
  · have t1 : decide (56 - 8 * (k : Int) ≥ 0) = false := by simp; omega
    have e1 : (headF key).take k = headF key := take_all (by omega)
    rw [e1]
    refine WA_le (s' := ⟨[(5, lB (headF key)), (0, vU8 key), (1, vL l), (6, vI (56 - 8 * (k : Int))), (4, vU8 0)], []⟩) (LeV []) ?_
    (repeat' (first | ((with_reducible apply WD_id); first | (refine WD_sum ?_) | (refine WD_nxt htb (by exact rfl) ?_) | (refine WD_call (by exact rfl) ?_; first | (refine WD_c0 (hashR_m _ ?_) ?_; (exact hyp))) | (refine WD_eq (b2s_step rfl rfl rfl) ?_) | (refine WD_eq (catL_step rfl rfl rfl) ?_) | (refine WD_ap htb ?_)) | (with_reducible apply WA_seq) | ((with_reducible apply gR hmix hN); exact (by kernel_rfl); (try dsimp only [List.append_eq, List.cons_append, List.nil_append])) | ((with_reducible apply WD_end); (first | exact no_draw | (intro _; kernel_rfl)); try simp only [thn, inB, List.length_map, List.cons_append, List.nil_append]) | ((with_reducible apply gCt); exact rfl; exact rfl) | ((with_reducible apply gCf); exact rfl; exact rfl) | ((with_reducible apply gCk); exact rfl; exact known; intro hb; rw [hb]; clear hb) | ((with_reducible apply gCn); exact rfl; exact known; intro hb; rw [hb]; clear hb) | (with_reducible apply WA_block) | ((with_reducible first | apply WA_skip | apply WA_ret | apply WA_exit | apply WA_label); try simp only [thn, inB, List.length_map, List.cons_append, List.nil_append])))
    exact gE (.inr rfl) rfl rfl trivial
end Go.Proofs.YtkjpnmodlmlhdaaGreatDoor
