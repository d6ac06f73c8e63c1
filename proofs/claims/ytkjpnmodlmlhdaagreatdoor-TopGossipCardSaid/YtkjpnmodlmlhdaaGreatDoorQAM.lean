/- Contracts: declarations that are compared, checked, proved; the reference's declarations. -/
import Derived.Test.YtkjpnmodlmlhdaaGreatDoorQAL
import Derived.Test.YtkjpnmodlmlhdaaGreatDoorQAI
import Derived.Test.YtkjpnmodlmlhdaaGreatDoorQAK
namespace Go.Proofs.YtkjpnmodlmlhdaaGreatDoor
set_option linter.unusedSimpArgs false
set_option linter.unusedVariables false
set_option linter.unnecessarySimpa false
set_option linter.unusedSectionVars false
set_option maxRecDepth 100000
open Go Go.RowKit Go.Am Go.Proofs.Grow
def rU (n : Int) : List D := [.v (.int .u64 n)]
abbrev lU (l : List Int) : AV := .d (.rows 1 (l.map rU))
theorem cmpL_m (a b : List UInt8) : FnM Tryz.prog 96 [] [vL a, vL b] (vI (cmpS ⟨⟨a⟩⟩ ⟨⟨b⟩⟩)) [] := FnM.wrap' rfl rfl fun w => cmp_str ⟨⟨a⟩⟩ ⟨⟨b⟩⟩ w
theorem cmpD_m (a b : Dc) (ha : PlD a) (hb : PlD b) : FnM Tryz.prog 57 [] [aD a, aD b] (vI (cmpD a b)) [] := by
  have bytA_m := bytes_m a ha
  have bytB_m := bytes_m b hb
  refine FnM.of htb Tryz.func57 rfl rfl rfl rfl rfl fun cx hN h0 => ?_
  (repeat' (first | ((with_reducible apply WD_id); first | (refine WD_nxt htb (by exact rfl) ?_) | (refine WD_call (by exact rfl) ?_; first | (refine WD_c0 (cmp_pm _ _) ?_) | (refine WD_c0 (bytes_m _ ?_) ?_; (exact hyp)) | (refine WD_c0 (cmpL_m _ _) ?_) | (refine WD_c0 (orN_m (l := [cmpI a.nd b.nd, cmpI a.sq b.sq, cmpS ⟨⟨bytD a⟩⟩ ⟨⟨bytD b⟩⟩]) ?_) ?_; (exact hyp)))) | (with_reducible apply WA_seq) | ((with_reducible apply gR hmix hN); exact (by kernel_rfl); (try dsimp only [List.append_eq, List.cons_append, List.nil_append])) | ((with_reducible apply WD_end); (first | exact no_draw | (intro _; kernel_rfl)); try simp only [thn, inB, List.length_map, List.cons_append, List.nil_append]) | (with_reducible apply WA_block) | ((with_reducible first | apply WA_skip | apply WA_ret | apply WA_exit | apply WA_label); try simp only [thn, inB, List.length_map, List.cons_append, List.nil_append])))
  exact gE (.inr rfl) rfl rfl trivial
theorem tag_eq {ks : List Int} {d : Dc} (h : GoodD (tagF ks) ks.length d) : d.tg = tagB (nth ks d.nd.toNat) (bytD d) := h.tg
theorem check_m (ks : List Int) (d : Dc) (h : GoodD (tagF ks) ks.length d) : FnM Tryz.prog 25 [] [lU ks, aD d] (vI 0) [] := by
  have hp := h.pl
  have h1 := hp.nd
  have h2 := h.ndn
  have hl := byt_len hp
  have t0 : ((0 : Int) != 0) = false := rfl
  have t1 : decide (d.nd ≥ (ks.length : Int)) = false := by simp; omega
  have t2 : (d.tg != tagB (nth ks d.nd.toNat) (bytD d)) = false := by rw [tag_eq h]; simp
  refine FnM.of htb Tryz.func25 rfl rfl rfl rfl rfl fun cx hN h0 => ?_
  (repeat' (first | ((with_reducible apply WD_id); first | (refine WD_nxt htb (by exact rfl) ?_) | (refine WD_call (by exact rfl) ?_; first | (refine WD_c0 (plain_m _ ?_) ?_; (exact hyp)) | (refine WD_c0 (bytes_m _ ?_) ?_; (exact hyp)) | (refine WD_c0 (tag_m _ _ ?_) ?_; (exact hyp))) | (refine WD_idx htb ?_)) | (with_reducible apply WA_seq) | ((with_reducible apply gR hmix hN); exact (by kernel_rfl); (try dsimp only [List.append_eq, List.cons_append, List.nil_append])) | ((with_reducible apply WD_end); (first | exact no_draw | (intro _; kernel_rfl)); try simp only [thn, inB, List.length_map, List.cons_append, List.nil_append]) | ((with_reducible apply gCf); exact rfl; exact rfl) | ((with_reducible apply gCn); exact rfl; exact known; intro hb; rw [hb]; clear hb) | (with_reducible apply WA_block) | ((with_reducible first | apply WA_skip | apply WA_ret | apply WA_exit | apply WA_label); try simp only [thn, inB, List.length_map, List.cons_append, List.nil_append])))
  exact gE (.inr rfl) rfl rfl trivial
abbrev aE (a b : Dc) : AV := .agg [vI a.nd, vI a.sq, vI a.t.k, lI a.t.ns, lTr a.t.is, vU8 a.tg, vI b.nd, vI b.sq, vI b.t.k, lI b.t.ns, lTr b.t.is, vU8 b.tg]
theorem proves_m (ks : List Int) (a b : Dc) (ha : GoodD (tagF ks) ks.length a) (hb : GoodD (tagF ks) ks.length b) (hn : a.nd = b.nd) (hs : a.sq = b.sq) (hl : Op.bytesLess (bytD a) (bytD b) = true) : FnM Tryz.prog 17 [] [lU ks, aE a b] (vI 0) [] := by
  have pa := ha.pl
  have pb := hb.pl
  have ca_m := check_m ks a ha
  have cb_m := check_m ks b hb
  have t0 : ((0 : Int) != 0) = false := rfl
  have t1 : (a.nd != b.nd) = false := by rw [hn]; simp
  have t2 : (a.sq != b.sq) = false := by rw [hs]; simp
  have t3 : (!Op.bytesLess (bytD a) (bytD b)) = false := by rw [hl]; rfl
  refine FnM.of htb Tryz.func17 rfl rfl rfl rfl rfl fun cx hN h0 => ?_
  (repeat' (first | ((with_reducible apply WD_id); first | (refine WD_nxt htb (by exact rfl) ?_) | (refine WD_call (by exact rfl) ?_; first | (refine WD_c0 (check_m _ _ ?_) ?_; (exact hyp)) | (refine WD_c0 (bytes_m _ ?_) ?_; (exact hyp))) | (refine WD_eq (geq_step rfl rfl rfl) ?_) | (refine WD_f (by exact rfl) (by exact rfl) (by exact known) fun hb => ?_; rw [hb]; clear hb)) | (with_reducible apply WA_seq) | ((with_reducible apply gR hmix hN); exact (by kernel_rfl); (try dsimp only [List.append_eq, List.cons_append, List.nil_append])) | ((with_reducible apply WD_end); (first | exact no_draw | (intro _; kernel_rfl)); try simp only [thn, inB, List.length_map, List.cons_append, List.nil_append]) | ((with_reducible apply gCf); exact rfl; exact rfl) | ((with_reducible apply gCn); exact rfl; exact known; intro hb; rw [hb]; clear hb) | (with_reducible apply WA_block) | ((with_reducible first | apply WA_skip | apply WA_ret | apply WA_exit | apply WA_label); try simp only [thn, inB, List.length_map, List.cons_append, List.nil_append])))
  exact gE (.inr rfl) rfl rfl trivial
theorem jn_snoc (l : List (List UInt8)) (x : List UInt8) (h : l ≠ []) : Lib.join (l ++ [x]) sepB = Lib.join l sepB ++ sepB ++ x := by
  cases l with
  | nil => exact absurd rfl h
  | cons y r =>
    rw [List.cons_append, Lib.join_cons, Lib.join_cons]
    simp [Lib.joinTail]
def sepF (l : List (List UInt8)) : List UInt8 := if l = [] then [] else sepB
theorem jn_step (l : List (List UInt8)) (x : List UInt8) : Lib.join (l ++ [x]) sepB = Lib.join l sepB ++ sepF l ++ x := by
  unfold sepF
  split
  · rename_i h; subst h; rw [List.nil_append, Lib.join_one, Lib.join_nil]; rfl
  · rename_i h; exact jn_snoc l x h
theorem sep_snoc (l : List (List UInt8)) (x : List UInt8) : sepF (l ++ [x]) = sepB := by
  unfold sepF; rw [if_neg (by simp)]
theorem sep_len (l : List (List UInt8)) : (sepF l).length ≤ 2 := by
  unfold sepF; split <;> simp [sepB]
theorem join_pre {t : Tr} (h : Sm2 t) (hs : sizT t ≤ 200) (a : List (List UInt8)) (ha : ∀ x ∈ a, x ∈ t.ns.map wN ++ t.is.map wrT) (hl : a.length ≤ 200) : (Lib.join a sepB).length ≤ 400000 := by
  have h1 := join_le a 1000 fun x hx => wr_words_len h hs x (ha x hx)
  have : a.length * (1000 + 2) ≤ 200 * 1002 := Nat.mul_le_mul hl (by omega)
  omega
def aF (t : Tr) : Nat → List UInt8
  | 0 => Lib.decDigits t.k.toNat ++ [32, 111, 102, 32, 40]
  | k + 1 => wN t.k ++ ofB ++ Lib.join ((t.ns.take (k + 1)).map wN) sepB
theorem aF_eq (t : Tr) (k : Nat) : aF t k = wN t.k ++ ofB ++ Lib.join ((t.ns.take k).map wN) sepB := by
  cases k with
  | zero => simp only [aF, List.take_zero, List.map_nil, Lib.join_nil, List.append_nil]; rfl
  | succ k => rfl
def sF (t : Tr) : Nat → List UInt8
  | 0 => []
  | k + 1 => sepF ((t.ns.take (k + 1)).map wN)
theorem sF_eq (t : Tr) (k : Nat) : sF t k = sepF ((t.ns.take k).map wN) := by cases k <;> rfl
def bF (t : Tr) : Nat → List UInt8
  | 0 => wN t.k ++ ofB ++ Lib.join (t.ns.map wN) sepB
  | k + 1 => wN t.k ++ ofB ++ Lib.join (t.ns.map wN ++ (t.is.take (k + 1)).map wrT) sepB
theorem bF_eq (t : Tr) (k : Nat) : bF t k = wN t.k ++ ofB ++ Lib.join (t.ns.map wN ++ (t.is.take k).map wrT) sepB := by
  cases k with
  | zero => simp only [bF, List.take_zero, List.map_nil, List.append_nil]
  | succ k => rfl
def dF (t : Tr) : Nat → List UInt8
  | 0 => sepF (t.ns.map wN)
  | k + 1 => sepF (t.ns.map wN ++ (t.is.take (k + 1)).map wrT)
theorem dF_eq (t : Tr) (k : Nat) : dF t k = sepF (t.ns.map wN ++ (t.is.take k).map wrT) := by
  cases k with
  | zero => simp only [dF, List.take_zero, List.map_nil, List.append_nil]
  | succ k => rfl
set_option maxHeartbeats 2000000 in
theorem wrR_g (t : Tr) (h : Sm2 t) (hs : sizT t ≤ 200) (ih : ∀ y ∈ t.is, FnM Tryz.prog 171 [] [aTr y] (vL (wrT y)) []) : FnM Tryz.prog 171 [] [aTr t] (vL (wrT t)) [] := by
  have hl := siz_len t
  have hk1 : (Lib.decDigits t.k.toNat).length ≤ 2 := wN_len (n := t.k) (by have := h.1; omega)
  have hkk : 0 ≤ t.k ∧ t.k < 100 := by have := h.1; omega
  show FnM _ _ _ [.agg [vI t.k, lI t.ns, .d (.rows 3 (t.is.map rTr))]] _ _
  rw [rTr_p]
  refine FnM.of htb Tryz.func171 rfl rfl rfl rfl rfl fun cx hN h0 => ?_
  (repeat' (first | ((with_reducible apply WD_id); first | (refine WD_sum ?_) | (refine WD_nxt htb (by exact rfl) ?_) | (refine WD_call (by exact rfl) ?_; first | (refine WD_c0 (itoaI_m _ ?_) ?_; (exact hyp))) | (refine WD_eq (catL_step rfl rfl rfl) ?_) | (refine WD_idx htb ?_)) | (with_reducible apply WA_seq) | ((with_reducible apply gR hmix hN); exact (by kernel_rfl); (try dsimp only [List.append_eq, List.cons_append, List.nil_append])) | ((with_reducible apply WD_end); (first | exact no_draw | (intro _; kernel_rfl)); try simp only [thn, inB, List.length_map, List.cons_append, List.nil_append]) | ((with_reducible apply gCt); exact rfl; exact rfl) | ((with_reducible apply gCf); exact rfl; exact rfl) | ((with_reducible apply gCk); exact rfl; exact known; intro hb; rw [hb]; clear hb) | ((with_reducible apply gCn); exact rfl; exact known; intro hb; rw [hb]; clear hb) | (with_reducible apply WA_block) | ((with_reducible first | apply WA_skip | apply WA_ret | apply WA_exit | apply WA_label); try simp only [thn, inB, List.length_map, List.cons_append, List.nil_append])))
  (refine WA_forV (t.ns.length) [16, 3, 4] [] (fun k => [(16, vI k), (3, vL (aF t k)), (4, vL (sF t k))]) (fun k => []) (fun k => True) ?h0 ?_)
  case h0 => trivial
  intro k hk _
  rw [aF_eq t k, sF_eq t k]
  have hlk : (t.ns.take k).length ≤ k := by rw [List.length_take]; omega
  have hwk : (wN t.k ++ ofB).length ≤ 10 := by have e : ofB.length = 5 := rfl; rw [List.length_append, e]; unfold wN; omega
  have hse := sep_len ((t.ns.take k).map wN)
  have hjo := join_pre h hs ((t.ns.take k).map wN) (fun x hx => by obtain ⟨y, hy, rfl⟩ := List.mem_map.1 hx; exact List.mem_append_left _ (List.mem_map_of_mem (List.mem_of_mem_take hy))) (by rw [List.length_map]; omega)
  rcases Nat.lt_or_ge k t.ns.length with hk' | hk'
  · have t1 : decide ((k : Int) < (t.ns.length : Int)) = true := by simp; omega
    have hn : 0 ≤ nth t.ns k ∧ nth t.ns k < 100 := by have := h.2.1 _ (nth_mem t.ns k hk'); omega
    have hst : t.ns.take (k + 1) = t.ns.take k ++ [nth t.ns k] := by rw [List.take_succ_eq_append_getElem hk', nth_getElem t.ns k hk']
    have hnl : (Lib.decDigits (nth t.ns k).toNat).length ≤ 2 := wN_len hn
    generalize hA : wN t.k ++ ofB = A at *
    (repeat' (first | ((with_reducible apply WD_id); first | (refine WD_sum ?_) | (refine WD_nxt htb (by exact rfl) ?_) | (refine WD_call (by exact rfl) ?_; first | (refine WD_c0 (itoaI_m _ ?_) ?_; (exact hyp))) | (refine WD_eq (catL_step rfl rfl rfl) ?_) | (refine WD_idx htb ?_)) | (with_reducible apply WA_seq) | ((with_reducible apply gR hmix hN); exact (by kernel_rfl); (try dsimp only [List.append_eq, List.cons_append, List.nil_append])) | ((with_reducible apply WD_end); (first | exact no_draw | (intro _; kernel_rfl)); try simp only [thn, inB, List.length_map, List.cons_append, List.nil_append]) | ((with_reducible apply gCt); exact rfl; exact rfl) | ((with_reducible apply gCf); exact rfl; exact rfl) | ((with_reducible apply gCk); exact rfl; exact known; intro hb; rw [hb]; clear hb) | ((with_reducible apply gCn); exact rfl; exact known; intro hb; rw [hb]; clear hb) | (with_reducible apply WA_block) | ((with_reducible first | apply WA_skip | apply WA_ret | apply WA_exit | apply WA_label); try simp only [thn, inB, List.length_map, List.cons_append, List.nil_append])))
    refine ⟨hk', trivial, ?_⟩
    have e1 : A ++ Lib.join ((t.ns.take (k + 1)).map wN) sepB = A ++ Lib.join ((t.ns.take k).map wN) sepB ++ sepF ((t.ns.take k).map wN) ++ Lib.decDigits (nth t.ns k).toNat := by
      rw [hst, List.map_append, List.map_cons, List.map_nil, jn_step]; simp only [List.append_assoc]; rfl
    have e2 : sepF ((t.ns.take (k + 1)).map wN) = [44, 32] := by rw [hst, List.map_append, List.map_cons, List.map_nil, sep_snoc]; rfl
    rw [aF_eq t (k + 1), sF_eq t (k + 1), hA, e1, e2]
    (exact LeV [])
  · have t1 : decide ((k : Int) < (t.ns.length : Int)) = false := by simp; omega
    have e1 : t.ns.take k = t.ns := take_all hk'
    rw [e1] at hse hjo ⊢
    (repeat' (first | ((with_reducible apply WD_id); first | (refine WD_sum ?_) | (refine WD_nxt htb (by exact rfl) ?_) | (refine WD_idx htb ?_)) | (with_reducible apply WA_seq) | ((with_reducible apply gR hmix hN); exact (by kernel_rfl); (try dsimp only [List.append_eq, List.cons_append, List.nil_append])) | ((with_reducible apply WD_end); (first | exact no_draw | (intro _; kernel_rfl)); try simp only [thn, inB, List.length_map, List.cons_append, List.nil_append]) | ((with_reducible apply gCt); exact rfl; exact rfl) | ((with_reducible apply gCf); exact rfl; exact rfl) | ((with_reducible apply gCk); exact rfl; exact known; intro hb; rw [hb]; clear hb) | ((with_reducible apply gCn); exact rfl; exact known; intro hb; rw [hb]; clear hb) | (with_reducible apply WA_block) | ((with_reducible first | apply WA_skip | apply WA_ret | apply WA_exit | apply WA_label); try simp only [thn, inB, List.length_map, List.cons_append, List.nil_append])))
    (refine WA_forV (t.is.length) [30, 3, 4] [] (fun k => [(30, vI k), (3, vL (bF t k)), (4, vL (dF t k))]) (fun k => []) (fun k => True) ?h0 ?_)
    case h0 => trivial
    intro j hj2 _
    rw [bF_eq t j, dF_eq t j]
    have hlj : (t.is.take j).length ≤ j := by rw [List.length_take]; omega
    have hse := sep_len (t.ns.map wN ++ (t.is.take j).map wrT)
    have hjo := join_pre h hs (t.ns.map wN ++ (t.is.take j).map wrT) (fun x hx => by
      rcases List.mem_append.1 hx with hx | hx
      · exact List.mem_append_left _ hx
      · obtain ⟨y, hy, rfl⟩ := List.mem_map.1 hx; exact List.mem_append_right _ (List.mem_map_of_mem (List.mem_of_mem_take hy))) (by simp only [List.length_append, List.length_map]; omega)
    rcases Nat.lt_or_ge j t.is.length with hj' | hj'
    · have t2 : decide ((j : Int) < (t.is.length : Int)) = true := by simp; omega
      have wrIR_m := ih _ (nth_mem t.is j hj')
      have hwl := wr_words_len h hs _ (List.mem_append_right _ (List.mem_map_of_mem (f := wrT) (nth_mem t.is j hj')))
      have hst : t.is.take (j + 1) = t.is.take j ++ [nth t.is j] := by rw [List.take_succ_eq_append_getElem hj', nth_getElem t.is j hj']
      generalize hA : wN t.k ++ ofB = A at *
      (repeat' (first | ((with_reducible apply WD_id); first | (refine WD_sum ?_) | (refine WD_nxt htb (by exact rfl) ?_) | (refine WD_call (by exact rfl) ?_; first | (refine WD_c0 (wrIR_m) ?_)) | (refine WD_eq (catL_step rfl rfl rfl) ?_) | (refine WD_idx htb ?_)) | (with_reducible apply WA_seq) | ((with_reducible apply gR hmix hN); exact (by kernel_rfl); (try dsimp only [List.append_eq, List.cons_append, List.nil_append])) | ((with_reducible apply WD_end); (first | exact no_draw | (intro _; kernel_rfl)); try simp only [thn, inB, List.length_map, List.cons_append, List.nil_append]) | ((with_reducible apply gCt); exact rfl; exact rfl) | ((with_reducible apply gCf); exact rfl; exact rfl) | ((with_reducible apply gCk); exact rfl; exact known; intro hb; rw [hb]; clear hb) | ((with_reducible apply gCn); exact rfl; exact known; intro hb; rw [hb]; clear hb) | (with_reducible apply WA_block) | ((with_reducible first | apply WA_skip | apply WA_ret | apply WA_exit | apply WA_label); try simp only [thn, inB, List.length_map, List.cons_append, List.nil_append])))
      refine ⟨hj', trivial, ?_⟩
      have e3 : A ++ Lib.join (t.ns.map wN ++ (t.is.take (j + 1)).map wrT) sepB = A ++ Lib.join (t.ns.map wN ++ (t.is.take j).map wrT) sepB ++ sepF (t.ns.map wN ++ (t.is.take j).map wrT) ++ wrT (nth t.is j) := by
        rw [hst, List.map_append, List.map_cons, List.map_nil, ← List.append_assoc, jn_step]; simp only [List.append_assoc]
      have e4 : sepF (t.ns.map wN ++ (t.is.take (j + 1)).map wrT) = [44, 32] := by rw [hst, List.map_append, List.map_cons, List.map_nil, ← List.append_assoc, sep_snoc]; rfl
      rw [bF_eq t (j + 1), dF_eq t (j + 1), hA, e3, e4]
      (exact LeV [])
    · have t2 : decide ((j : Int) < (t.is.length : Int)) = false := by simp; omega
      have e2 : t.is.take j = t.is := take_all hj'
      rw [e2] at hjo ⊢
      generalize hA : wN t.k ++ ofB = A at *
      (repeat' (first | ((with_reducible apply WD_id); first | (refine WD_sum ?_) | (refine WD_nxt htb (by exact rfl) ?_) | (refine WD_eq (catL_step rfl rfl rfl) ?_) | (refine WD_idx htb ?_)) | (with_reducible apply WA_seq) | ((with_reducible apply gR hmix hN); exact (by kernel_rfl); (try dsimp only [List.append_eq, List.cons_append, List.nil_append])) | ((with_reducible apply WD_end); (first | exact no_draw | (intro _; kernel_rfl)); try simp only [thn, inB, List.length_map, List.cons_append, List.nil_append]) | ((with_reducible apply gCt); exact rfl; exact rfl) | ((with_reducible apply gCf); exact rfl; exact rfl) | ((with_reducible apply gCk); exact rfl; exact known; intro hb; rw [hb]; clear hb) | ((with_reducible apply gCn); exact rfl; exact known; intro hb; rw [hb]; clear hb) | (with_reducible apply WA_block) | ((with_reducible first | apply WA_skip | apply WA_ret | apply WA_exit | apply WA_label); try simp only [thn, inB, List.length_map, List.cons_append, List.nil_append])))
      exact gE (.inr rfl) rfl (congrArg vL (by rw [wr_eq, hA])) trivial
theorem wr1R_m (t : Tr) (h : Sm1 t) (hs : sizT t ≤ 200) : FnM Tryz.prog 171 [] [aTr t] (vL (wrT t)) [] :=
  wrR_g t h.sm2 hs fun y hy => by rw [h.1] at hy; cases hy
theorem wrR_m (t : Tr) (h : Sm2 t) (hs : sizT t ≤ 200) : FnM Tryz.prog 171 [] [aTr t] (vL (wrT t)) [] :=
  wrR_g t h hs fun y hy => wr1R_m y (h.2.2 y hy) (by have := siz_mem hy; omega)
theorem textR_m (t : Tr) (h : Sm2 t) (hs : sizT t ≤ 200) (hc : chkT t = 0) : FnM Tryz.prog 127 [] [aTr t] (vL (wrT t)) [] := by
  refine FnM.of htb Tryz.func127 rfl rfl rfl rfl rfl fun cx hN h0 => ?_
  have t1 : (chkT t != 0) = false := by rw [hc]; rfl
  (repeat' (first | ((with_reducible apply WD_id); first | (refine WD_nxt htb (by exact rfl) ?_) | (refine WD_call (by exact rfl) ?_; first | (refine WD_c0 (chkR_m _ ?_) ?_; (exact hyp)) | (refine WD_c0 (wrR_m _ ?_ ?_) ?_; (exact hyp); (exact hyp)))) | (with_reducible apply WA_seq) | ((with_reducible apply gR hmix hN); exact (by kernel_rfl); (try dsimp only [List.append_eq, List.cons_append, List.nil_append])) | ((with_reducible apply WD_end); (first | exact no_draw | (intro _; kernel_rfl)); try simp only [thn, inB, List.length_map, List.cons_append, List.nil_append]) | ((with_reducible apply gCf); exact rfl; exact rfl) | ((with_reducible apply gCn); exact rfl; exact known; intro hb; rw [hb]; clear hb) | (with_reducible apply WA_block) | ((with_reducible first | apply WA_skip | apply WA_ret | apply WA_exit | apply WA_label); try simp only [thn, inB, List.length_map, List.cons_append, List.nil_append])))
  exact gE (.inr rfl) rfl rfl trivial
theorem dep2_m (t : Tr) (hs : sizT t ≤ 1000) : FnM Tryz.prog 86 [] [aTr t] (vI (depT t)) [] := dep_r _ t (Nat.le_refl _) hs
theorem siz2_m (t : Tr) (hs : sizT t ≤ 1000) : FnM Tryz.prog 85 [] [aTr t] (vI (sizT t)) [] := siz_r _ t (Nat.le_refl _) hs
theorem plainR_m (d : Dc) (h : PlD d) : FnM Tryz.prog 81 [] [aD d] (vI 0) [] := by
  have h1 := h.nd
  have h2 := h.sq
  have h3 := h.siz
  have h4 := h.dep
  have t1 : decide (d.nd < 0) = false := by simp; omega
  have t2 : decide (d.nd ≥ 10) = false := by simp; omega
  have t3 : decide (d.sq < 1) = false := by simp; omega
  have t4 : decide (d.sq > 30) = false := by simp; omega
  have t5 : (chkT d.t != 0) = false := by rw [h.chk]; rfl
  have t6 : decide (depT d.t > 3) = false := by simp; omega
  have t7 : decide (sizT d.t > 40) = false := by simp; omega
  refine FnM.of htb Tryz.func81 rfl rfl rfl rfl rfl fun cx hN h0 => ?_
  (repeat' (first | ((with_reducible apply WD_id); first | (refine WD_nxt htb (by exact rfl) ?_) | (refine WD_call (by exact rfl) ?_; first | (refine WD_c0 (chkR_m _ ?_) ?_; (exact hyp)) | (refine WD_c0 (dep2_m _ ?_) ?_; (exact hyp)) | (refine WD_c0 (siz2_m _ ?_) ?_; (exact hyp))) | (refine WD_f (by exact rfl) (by exact rfl) (by exact known) fun hb => ?_; rw [hb]; clear hb)) | (with_reducible apply WA_seq) | ((with_reducible apply gR hmix hN); exact (by kernel_rfl); (try dsimp only [List.append_eq, List.cons_append, List.nil_append])) | ((with_reducible apply WD_end); (first | exact no_draw | (intro _; kernel_rfl)); try simp only [thn, inB, List.length_map, List.cons_append, List.nil_append]) | ((with_reducible apply gCf); exact rfl; exact rfl) | ((with_reducible apply gCn); exact rfl; exact known; intro hb; rw [hb]; clear hb) | (with_reducible apply WA_block) | ((with_reducible first | apply WA_skip | apply WA_ret | apply WA_exit | apply WA_label); try simp only [thn, inB, List.length_map, List.cons_append, List.nil_append])))
  exact gE (.inr rfl) rfl rfl trivial
theorem bytesR_m (d : Dc) (h : PlD d) : FnM Tryz.prog 83 [] [aD d] (vL (bytD d)) [] := by
  have h3 := h.siz
  have hc := h.chk
  have hsm := h.sm
  have h1 : 0 ≤ d.nd ∧ d.nd < 100 := by have := h.nd; omega
  have h2 : 0 ≤ d.sq ∧ d.sq < 100 := by have := h.sq; omega
  have l1 : (Lib.decDigits d.nd.toNat).length ≤ 2 := wN_len h1
  have l2 : (Lib.decDigits d.sq.toNat).length ≤ 2 := wN_len h2
  have l3 : (wrT d.t).length ≤ 400100 := wr_len hsm (by omega)
  have t1 : ((0 : Int) != 0) = false := rfl
  refine FnM.of htb Tryz.func83 rfl rfl rfl rfl rfl fun cx hN h0 => ?_
  (repeat' (first | ((with_reducible apply WD_id); first | (refine WD_nxt htb (by exact rfl) ?_) | (refine WD_call (by exact rfl) ?_; first | (refine WD_c0 (plainR_m _ ?_) ?_; (exact hyp)) | (refine WD_c0 (itoaI_m _ ?_) ?_; (exact hyp)) | (refine WD_c0 (textR_m _ ?_ ?_ ?_) ?_; (exact hyp); (exact hyp); (exact hyp))) | (refine WD_eq (catL_step rfl rfl rfl) ?_)) | (with_reducible apply WA_seq) | ((with_reducible apply gR hmix hN); exact (by kernel_rfl); (try dsimp only [List.append_eq, List.cons_append, List.nil_append])) | ((with_reducible apply WD_end); (first | exact no_draw | (intro _; kernel_rfl)); try simp only [thn, inB, List.length_map, List.cons_append, List.nil_append]) | ((with_reducible apply gCf); exact rfl; exact rfl) | (with_reducible apply WA_block) | ((with_reducible first | apply WA_skip | apply WA_ret | apply WA_exit | apply WA_label); try simp only [thn, inB, List.length_map, List.cons_append, List.nil_append])))
  exact gE (.inr rfl) rfl rfl trivial
theorem sign_m (key nd sq : Int) (t : Tr) (h : PlD ⟨nd, sq, t, 0⟩) : FnM Tryz.prog 49 [] [vU8 key, vI nd, vI sq, aTr t] (.tup [aD ⟨nd, sq, t, tagB key (bytD ⟨nd, sq, t, 0⟩)⟩, vI 0]) [] := by
  have t0 : ((0 : Int) != 0) = false := rfl
  have plZ_m := plainR_m _ h
  have byZ_m := bytesR_m _ h
  have tgZ_m := tagR_m key _ (byt_len h)
  generalize bytD ⟨nd, sq, t, 0⟩ = bs at *
  generalize tagB key bs = tg at *
  refine FnM.of htb Tryz.func49 rfl rfl rfl rfl rfl fun cx hN h0 => ?_
  (repeat' (first | ((with_reducible apply WD_id); first | (refine WD_nxt htb (by exact rfl) ?_) | (refine WD_call (by exact rfl) ?_; first | (refine WD_c0 (plZ_m) ?_) | (refine WD_c0 (byZ_m) ?_) | (refine WD_c0 (tgZ_m) ?_))) | (with_reducible apply WA_seq) | ((with_reducible apply gR hmix hN); exact (by kernel_rfl); (try dsimp only [List.append_eq, List.cons_append, List.nil_append])) | ((with_reducible apply WD_end); (first | exact no_draw | (intro _; kernel_rfl)); try simp only [thn, inB, List.length_map, List.cons_append, List.nil_append]) | ((with_reducible apply gCf); exact rfl; exact rfl) | (with_reducible apply WA_block) | ((with_reducible first | apply WA_skip | apply WA_ret | apply WA_exit | apply WA_label); try simp only [thn, inB, List.length_map, List.cons_append, List.nil_append])))
  exact gE (.inr rfl) rfl rfl trivial
end Go.Proofs.YtkjpnmodlmlhdaaGreatDoor
/- Contracts: drawn keys and declarations. -/
namespace Go.Proofs.YtkjpnmodlmlhdaaGreatDoor
set_option linter.unusedSimpArgs false
set_option linter.unusedVariables false
set_option linter.unnecessarySimpa false
set_option linter.unusedSectionVars false
set_option maxRecDepth 100000
open Go Go.RowKit Go.Am Go.Proofs.Grow
theorem lev_bd {t : Tr} (h : levT t = 0) : (1 ≤ t.k ∧ t.k ≤ (t.ns.length : Int) + (t.is.length : Int)) ∧ levL t.is = 0 := by
  cases t with
  | mk k ns is =>
    simp only [levT] at h
    simp only [Tr.k, Tr.ns, Tr.is]
    split at h
    · omega
    · rename_i h1
      split at h
      · omega
      · split at h
        · rename_i h3; exact absurd h h3
        · exact ⟨by omega, h⟩
theorem levL_mem : ∀ {l : List Tr} {y : Tr}, levL l = 0 → y ∈ l → levT y = 0
  | t :: r, y, h, hy => by
    simp only [levL] at h
    split at h
    · rename_i h1; exact absurd h h1
    · rename_i h1
      rcases List.mem_cons.1 hy with rfl | hy
      · omega
      · exact levL_mem h hy
theorem GoodT.sm {n : Nat} (hn : n ≤ 5) {t : Tr} (h : GoodT n t) (hc : chkT t = 0) : Sm2 t := by
  obtain ⟨h1, h2⟩ := lev_bd (chk_lev hc).2
  have a1 := h.nl
  have a2 := h.il
  refine ⟨by omega, fun x hx => by have := h.ns x hx; omega, fun y hy => ?_⟩
  obtain ⟨b1, b2, b3⟩ := h.inn y hy
  obtain ⟨c1, c2⟩ := lev_bd (levL_mem h2 hy)
  rw [b1] at c1
  simp only [List.length_nil] at c1
  exact ⟨b1, by omega, fun x hx => by have := b3 x hx; omega⟩
theorem one_sm {n : Nat} (hn : n ≤ 5) {x : Int} (h : 0 ≤ x ∧ x < (n : Int)) : Sm2 (.mk 1 [x] []) :=
  ⟨by simp [Tr.k], fun y hy => by simp [Tr.ns] at hy; omega, fun y hy => by simp [Tr.is] at hy⟩
theorem trF_sm {s : Sc} {n : Nat} (hs : s.ok) (h1 : 1 ≤ n) (h2 : n ≤ 5) : Sm2 (trF s n).1 := by
  obtain ⟨g, o⟩ := tr2_good hs h1 h2
  unfold trF
  generalize tr2F s n = q at *
  obtain ⟨t, s1⟩ := q
  dsimp only at g o ⊢
  have hb := s1.n_bd (k := n) (by omega)
  split
  · exact one_sm h2 (by omega)
  · rename_i h; exact g.sm h2 (by omega)
theorem tagF_eq (ks : List Int) (k : Int) (b : List UInt8) : tagF ks k b = tagB (nth ks k.toNat) b := rfl
theorem bytD_tg (a b : Int) (t : Tr) (x y : Int) : bytD ⟨a, b, t, x⟩ = bytD ⟨a, b, t, y⟩ := rfl
theorem good_sig {ks : List Int} {k q : Int} {t : Tr} {n : Nat} (hp : PlD ⟨k, q, t, 0⟩) (h1 : k < (n : Int)) (h2 : useT t < ((2 ^ n : Nat) : Int)) : GoodD (tagF ks) n ⟨k, q, t, tagB (nth ks k.toNat) (bytD ⟨k, q, t, 0⟩)⟩ := by
  generalize hg : tagB (nth ks k.toNat) (bytD ⟨k, q, t, 0⟩) = g
  refine ⟨⟨hp.nd, hp.sq, hp.sm, hp.chk, hp.dep, hp.siz⟩, h1, h2, ?_⟩
  rw [tagF_eq, bytD_tg k q t g 0]
  exact hg.symm
/-- A drawn trust that can be declared. -/
def decF (s : Sc) (n : Nat) : Tr × Sc := if sizT (trF s n).1 > 40 ∨ depT (trF s n).1 > 3 then (.mk 1 [0] [], (trF s n).2) else trF s n
theorem decF_spec {s : Sc} {n : Nat} (hs : s.ok) (h1 : 1 ≤ n) (h2 : n ≤ 5) : (Sm2 (decF s n).1 ∧ FitT n (decF s n).1 ∧ depT (decF s n).1 ≤ 3 ∧ sizT (decF s n).1 ≤ 40) ∧ (decF s n).2.ok := by
  obtain ⟨f, o⟩ := trF_fit hs h1 h2
  have g := trF_sm hs h1 h2
  unfold decF
  split
  · exact ⟨⟨one_sm h2 (by omega), one_fit (by omega) (by omega), (show depT (.mk 1 [0] []) ≤ 3 by decide), (show sizT (.mk 1 [0] []) ≤ 40 by decide)⟩, o⟩
  · exact ⟨⟨g, f, by omega, by omega⟩, o⟩
def dclF (s : Sc) (ks : List Int) : Dc × Sc :=
  let k := s.n ks.length
  let s1 := s.x ks.length
  let q := decF (s1.x 4) ks.length
  (⟨k, ((rgN s1 4 : Nat) : Int), q.1, tagB (nth ks k.toNat) (bytD ⟨k, ((rgN s1 4 : Nat) : Int), q.1, 0⟩)⟩, q.2)
theorem dclF_spec {s : Sc} {ks : List Int} (hs : s.ok) (h1 : 1 ≤ ks.length) (h2 : ks.length ≤ 5) : GoodD (tagF ks) ks.length (dclF s ks).1 ∧ (dclF s ks).2.ok := by
  have hb := s.n_bd (k := (ks.length : Int)) (by omega)
  have hr := rgN_bd (s := s.x ks.length) (b := 4) (by decide)
  obtain ⟨⟨d1, d2, d3, d4⟩, d5⟩ := decF_spec (s := (s.x ks.length).x 4) (Sc.ok_x (Sc.ok_x hs _) _) h1 h2
  exact ⟨good_sig ⟨show 0 ≤ s.n ks.length ∧ s.n ks.length < 10 by omega, show 1 ≤ ((rgN (s.x ks.length) 4 : Nat) : Int) ∧ ((rgN (s.x ks.length) 4 : Nat) : Int) ≤ 4 by omega, d1, d2.chk, d3, d4⟩ (by omega) d2.use, d5⟩
def dcsS (ks : List Int) (p : List Dc × Sc) : List Dc × Sc :=
  let q := dclF p.2 ks
  if p.1.length > 0 then
    (if q.2.n 4 = 0 then (p.1 ++ [nth p.1 ((q.2.x 4).n p.1.length).toNat], (q.2.x 4).x p.1.length) else (p.1 ++ [q.1], q.2.x 4))
  else (p.1 ++ [q.1], q.2)
def dcsN (ks : List Int) (s : Sc) : Nat → List Dc × Sc
  | 0 => ([], s)
  | k + 1 => dcsS ks (dcsN ks s k)
theorem dcsS_spec {ks : List Int} {p : List Dc × Sc} (h1 : 1 ≤ ks.length) (h2 : ks.length ≤ 5) (hp : (∀ d ∈ p.1, GoodD (tagF ks) ks.length d) ∧ p.2.ok) : ((∀ d ∈ (dcsS ks p).1, GoodD (tagF ks) ks.length d) ∧ (dcsS ks p).2.ok) ∧ (dcsS ks p).1.length = p.1.length + 1 := by
  obtain ⟨g, o⟩ := dclF_spec hp.2 h1 h2
  unfold dcsS
  generalize dclF p.2 ks = q at *
  dsimp only
  split
  · rename_i hl
    split
    · have hb := (q.2.x 4).n_bd (k := (p.1.length : Int)) (by omega)
      refine ⟨⟨fun d hd => ?_, Sc.ok_x (Sc.ok_x o _) _⟩, by simp⟩
      rcases List.mem_append.1 hd with hd | hd
      · exact hp.1 d hd
      · rw [List.mem_singleton.1 hd]; exact hp.1 _ (nth_mem _ _ (by omega))
    · refine ⟨⟨fun d hd => ?_, Sc.ok_x o _⟩, by simp⟩
      rcases List.mem_append.1 hd with hd | hd
      · exact hp.1 d hd
      · rw [List.mem_singleton.1 hd]; exact g
  · refine ⟨⟨fun d hd => ?_, o⟩, by simp⟩
    rcases List.mem_append.1 hd with hd | hd
    · exact hp.1 d hd
    · rw [List.mem_singleton.1 hd]; exact g
theorem dcsN_spec {ks : List Int} {s : Sc} (hs : s.ok) (h1 : 1 ≤ ks.length) (h2 : ks.length ≤ 5) : ∀ k, ((∀ d ∈ (dcsN ks s k).1, GoodD (tagF ks) ks.length d) ∧ (dcsN ks s k).2.ok) ∧ (dcsN ks s k).1.length = k
  | 0 => ⟨⟨fun d hd => (by cases hd), hs⟩, rfl⟩
  | k + 1 => by
    have ih := dcsN_spec hs h1 h2 k
    have := dcsS_spec h1 h2 ih.1
    rw [ih.2] at this
    exact this
def keyS (k : Nat) (x : Int) : Int := IntKind.u64.wrap (IntKind.u64.wrap (IntKind.u64.wrap x * 2654435761) + IntKind.u64.wrap (IntKind.u64.wrap (k : Int) * 97))
def keyN (s : Sc) : Nat → List Int × Sc
  | 0 => ([], s)
  | k + 1 => ((keyN s k).1 ++ [keyS k ((keyN s k).2.n 1000)], (keyN s k).2.x 1000)
theorem keyN_spec {s : Sc} (hs : s.ok) : ∀ k, (keyN s k).1.length = k ∧ (keyN s k).2.ok
  | 0 => ⟨rfl, hs⟩
  | k + 1 => by
    have ih := keyN_spec hs k
    exact ⟨by simp [keyN, ih.1], Sc.ok_x ih.2 _⟩
theorem keys_m (s : Sc) (n : Nat) (hs : s.ok) (hn : n ≤ 5) : FnM Tryz.prog 5 [(9000, tpB s)] [.ptr 9000 0, vI (n : Int)] (lU (keyN s n).1) [(9000, tpB (keyN s n).2)] := by
  refine FnM.of htb Tryz.func5 rfl rfl rfl rfl rfl fun cx hN h0 => ?_
  (repeat' (first | ((with_reducible apply WD_id); first | (refine WD_sum ?_) | (refine WD_nxt htb (by exact rfl) ?_) | (refine WD_ap htb ?_)) | (with_reducible apply WA_seq) | ((with_reducible apply gR hmix hN); exact (by kernel_rfl); (try dsimp only [List.append_eq, List.cons_append, List.nil_append])) | ((with_reducible apply WD_end); (first | exact no_draw | (intro _; kernel_rfl)); try simp only [thn, inB, List.length_map, List.cons_append, List.nil_append]) | ((with_reducible apply gCt); exact rfl; exact rfl) | ((with_reducible apply gCf); exact rfl; exact rfl) | ((with_reducible apply gCk); exact rfl; exact known; intro hb; rw [hb]; clear hb) | ((with_reducible apply gCn); exact rfl; exact known; intro hb; rw [hb]; clear hb) | (with_reducible apply WA_block) | ((with_reducible first | apply WA_skip | apply WA_ret | apply WA_exit | apply WA_label); try simp only [thn, inB, List.length_map, List.cons_append, List.nil_append])))
  refine WA_le (Le_nilT 60 5 38 1 rfl rfl) ?_
  (refine WA_forV (n) [6, 5] [60, 9000] (fun k => [(6, vI k), (5, .own 60)]) (fun k => [(60, .arr 38 1 ((keyN s k).1.map rU)), (9000, tpB (keyN s k).2)]) (fun k => True) ?h0 ?_)
  case h0 => trivial
  intro k hk _
  have hsp := keyN_spec hs k
  rcases Nat.lt_or_ge k n with hk' | hk'
  · have t1 : decide ((k : Int) < (n : Int)) = true := by simp; omega
    have nkA_m := tN_m (keyN s k).2 1000 hsp.2 (by decide) (by decide)
    have hst : (keyN s (k + 1)) = ((keyN s k).1 ++ [keyS k ((keyN s k).2.n 1000)], (keyN s k).2.x 1000) := rfl
    have hl : ((keyN s k).1.map rU).length ≤ 5 := by rw [List.length_map]; omega
    (repeat' (first | ((with_reducible apply WD_id); first | (refine WD_sum ?_) | (refine WD_nxt htb (by exact rfl) ?_) | (refine WD_call (by exact rfl) ?_; first | (refine WD_cM (nkA_m) ?_)) | (refine WD_ap htb ?_)) | (with_reducible apply WA_seq) | ((with_reducible apply gR hmix hN); exact (by kernel_rfl); (try dsimp only [List.append_eq, List.cons_append, List.nil_append])) | ((with_reducible apply WD_end); (first | exact no_draw | (intro _; kernel_rfl)); try simp only [thn, inB, List.length_map, List.cons_append, List.nil_append]) | ((with_reducible apply gCt); exact rfl; exact rfl) | ((with_reducible apply gCf); exact rfl; exact rfl) | ((with_reducible apply gCk); exact rfl; exact known; intro hb; rw [hb]; clear hb) | ((with_reducible apply gCn); exact rfl; exact known; intro hb; rw [hb]; clear hb) | (with_reducible apply WA_block) | ((with_reducible first | apply WA_skip | apply WA_ret | apply WA_exit | apply WA_label); try simp only [thn, inB, List.length_map, List.cons_append, List.nil_append])))
    refine ⟨hk', trivial, ?_⟩
    rw [hst]
    dsimp only
    rw [List.map_append]
    (exact LeV [(60, 22)])
  · have t1 : decide ((k : Int) < (n : Int)) = false := by simp; omega
    obtain rfl : k = n := by omega
    (repeat' (first | ((with_reducible apply WD_id); first | (refine WD_sum ?_) | (refine WD_nxt htb (by exact rfl) ?_) | (refine WD_ap htb ?_)) | (with_reducible apply WA_seq) | ((with_reducible apply gR hmix hN); exact (by kernel_rfl); (try dsimp only [List.append_eq, List.cons_append, List.nil_append])) | ((with_reducible apply WD_end); (first | exact no_draw | (intro _; kernel_rfl)); try simp only [thn, inB, List.length_map, List.cons_append, List.nil_append]) | ((with_reducible apply gCt); exact rfl; exact rfl) | ((with_reducible apply gCf); exact rfl; exact rfl) | ((with_reducible apply gCk); exact rfl; exact known; intro hb; rw [hb]; clear hb) | ((with_reducible apply gCn); exact rfl; exact known; intro hb; rw [hb]; clear hb) | (with_reducible apply WA_block) | ((with_reducible first | apply WA_skip | apply WA_ret | apply WA_exit | apply WA_label); try simp only [thn, inB, List.length_map, List.cons_append, List.nil_append])))
    (exact glV [(4, lU (keyN s k).1)] [(9000, tpB (keyN s k).2)] (LeV []))
theorem decl_d (s : Sc) (n : Nat) (hs : s.ok) (h1 : 1 ≤ n) (h2 : n ≤ 5) : FnM Tryz.prog 50 [(9000, tpB s)] [.ptr 9000 0, vI (n : Int)] (aTr (decF s n).1) [(9000, tpB (decF s n).2)] := by
  obtain ⟨f, o⟩ := trF_fit hs h1 h2
  have trZ_m := tr_m s n hs h1 h2
  have hz := f.siz
  unfold decF
  generalize trF s n = q at *
  obtain ⟨t, s1⟩ := q
  dsimp only at f o trZ_m hz ⊢
  refine FnM.of htb Tryz.func50 rfl rfl rfl rfl rfl fun cx hN h0 => ?_
  by_cases c1 : sizT t > 40
  · have t1 : decide (sizT t > 40) = true := by simpa using c1
    rw [if_pos (.inl c1)]
    (repeat' (first | ((with_reducible apply WD_id); first | (refine WD_nxt htb (by exact rfl) ?_) | (refine WD_call (by exact rfl) ?_; first | (refine WD_cM (trZ_m) ?_) | (refine WD_c0 (siz2_m _ ?_) ?_; (exact hyp)) | (refine WD_c0 (dep2_m _ ?_) ?_; (exact hyp))) | (refine WD_t (by exact rfl) (by exact rfl) (by exact known) fun hb => ?_; rw [hb]; clear hb) | (refine WD_f (by exact rfl) (by exact rfl) (by exact known) fun hb => ?_; rw [hb]; clear hb)) | (with_reducible apply WA_seq) | ((with_reducible apply gR hmix hN); exact (by kernel_rfl); (try dsimp only [List.append_eq, List.cons_append, List.nil_append])) | ((with_reducible apply WD_end); (first | exact no_draw | (intro _; kernel_rfl)); try simp only [thn, inB, List.length_map, List.cons_append, List.nil_append]) | ((with_reducible apply gCt); exact rfl; exact rfl) | ((with_reducible apply gCf); exact rfl; exact rfl) | ((with_reducible apply gCk); exact rfl; exact known; intro hb; rw [hb]; clear hb) | ((with_reducible apply gCn); exact rfl; exact known; intro hb; rw [hb]; clear hb) | (with_reducible apply WA_block) | ((with_reducible first | apply WA_skip | apply WA_ret | apply WA_exit | apply WA_label); try simp only [thn, inB, List.length_map, List.cons_append, List.nil_append])))
    (exact glV [(4, .ptr 4 0)] [(4, .box 37 (cellsOf (aTr (.mk 1 [0] [])))), (9000, tpB s1)] (LeV []))
  · have t1 : decide (sizT t > 40) = false := by simpa using c1
    by_cases c2 : depT t > 3
    · have t2 : decide (depT t > 3) = true := by simpa using c2
      rw [if_pos (.inr c2)]
      (repeat' (first | ((with_reducible apply WD_id); first | (refine WD_nxt htb (by exact rfl) ?_) | (refine WD_call (by exact rfl) ?_; first | (refine WD_cM (trZ_m) ?_) | (refine WD_c0 (siz2_m _ ?_) ?_; (exact hyp)) | (refine WD_c0 (dep2_m _ ?_) ?_; (exact hyp))) | (refine WD_t (by exact rfl) (by exact rfl) (by exact known) fun hb => ?_; rw [hb]; clear hb) | (refine WD_f (by exact rfl) (by exact rfl) (by exact known) fun hb => ?_; rw [hb]; clear hb)) | (with_reducible apply WA_seq) | ((with_reducible apply gR hmix hN); exact (by kernel_rfl); (try dsimp only [List.append_eq, List.cons_append, List.nil_append])) | ((with_reducible apply WD_end); (first | exact no_draw | (intro _; kernel_rfl)); try simp only [thn, inB, List.length_map, List.cons_append, List.nil_append]) | ((with_reducible apply gCt); exact rfl; exact rfl) | ((with_reducible apply gCf); exact rfl; exact rfl) | ((with_reducible apply gCk); exact rfl; exact known; intro hb; rw [hb]; clear hb) | ((with_reducible apply gCn); exact rfl; exact known; intro hb; rw [hb]; clear hb) | (with_reducible apply WA_block) | ((with_reducible first | apply WA_skip | apply WA_ret | apply WA_exit | apply WA_label); try simp only [thn, inB, List.length_map, List.cons_append, List.nil_append])))
      (exact glV [(4, .ptr 4 0)] [(4, .box 37 (cellsOf (aTr (.mk 1 [0] [])))), (9000, tpB s1)] (LeV []))
    · have t2 : decide (depT t > 3) = false := by simpa using c2
      rw [if_neg (by omega)]
      (repeat' (first | ((with_reducible apply WD_id); first | (refine WD_nxt htb (by exact rfl) ?_) | (refine WD_call (by exact rfl) ?_; first | (refine WD_cM (trZ_m) ?_) | (refine WD_c0 (siz2_m _ ?_) ?_; (exact hyp)) | (refine WD_c0 (dep2_m _ ?_) ?_; (exact hyp))) | (refine WD_t (by exact rfl) (by exact rfl) (by exact known) fun hb => ?_; rw [hb]; clear hb) | (refine WD_f (by exact rfl) (by exact rfl) (by exact known) fun hb => ?_; rw [hb]; clear hb)) | (with_reducible apply WA_seq) | ((with_reducible apply gR hmix hN); exact (by kernel_rfl); (try dsimp only [List.append_eq, List.cons_append, List.nil_append])) | ((with_reducible apply WD_end); (first | exact no_draw | (intro _; kernel_rfl)); try simp only [thn, inB, List.length_map, List.cons_append, List.nil_append]) | ((with_reducible apply gCt); exact rfl; exact rfl) | ((with_reducible apply gCf); exact rfl; exact rfl) | ((with_reducible apply gCk); exact rfl; exact known; intro hb; rw [hb]; clear hb) | ((with_reducible apply gCn); exact rfl; exact known; intro hb; rw [hb]; clear hb) | (with_reducible apply WA_block) | ((with_reducible first | apply WA_skip | apply WA_ret | apply WA_exit | apply WA_label); try simp only [thn, inB, List.length_map, List.cons_append, List.nil_append])))
      exact gE (.inr rfl) rfl rfl ⟨rfl, trivial⟩
theorem dcl_m (s : Sc) (ks : List Int) (hs : s.ok) (h1 : 1 ≤ ks.length) (h2 : ks.length ≤ 5) : FnM Tryz.prog 23 [(9000, tpB s)] [.ptr 9000 0, lU ks] (aD (dclF s ks).1) [(9000, tpB (dclF s ks).2)] := by
  have hb := s.n_bd (k := (ks.length : Int)) (by omega)
  have hr := rgN_bd (s := s.x ks.length) (b := 4) (by decide)
  obtain ⟨⟨d1, d2, d3, d4⟩, d5⟩ := decF_spec (s := (s.x ks.length).x 4) (Sc.ok_x (Sc.ok_x hs _) _) h1 h2
  have nkA_m := tN_m s ks.length hs (by omega) (by omega)
  have rgZ_m := tRg_m (s.x ks.length) 4 4 (Sc.ok_x hs _) (by decide) (by decide) rfl
  have deZ_m := decl_d ((s.x ks.length).x 4) ks.length (Sc.ok_x (Sc.ok_x hs _) _) h1 h2
  unfold dclF
  dsimp only
  have hsx := Sc.ok_x hs (ks.length : Int)
  generalize s.n ks.length = kk at *
  generalize s.x ks.length = s1 at *
  generalize rgN s1 4 = rr at *
  generalize s1.x 4 = s2 at *
  generalize decF s2 ks.length = q at *
  obtain ⟨t, s3⟩ := q
  dsimp only at d1 d2 d3 d4 d5 deZ_m ⊢
  have sgZ_m := sign_m (nth ks kk.toNat) kk (rr : Int) t ⟨by show 0 ≤ kk ∧ kk < 10; omega, by show 1 ≤ (rr : Int) ∧ (rr : Int) ≤ 4; omega, d1, d2.chk, d3, d4⟩
  generalize tagB (nth ks kk.toNat) (bytD ⟨kk, (rr : Int), t, 0⟩) = tg at *
  refine FnM.of htb Tryz.func23 rfl rfl rfl rfl rfl fun cx hN h0 => ?_
  (repeat' (first | ((with_reducible apply WD_id); first | (refine WD_nxt htb (by exact rfl) ?_) | (refine WD_idx htb ?_)) | (with_reducible apply WA_seq) | ((with_reducible apply gR hmix hN); exact (by kernel_rfl); (try dsimp only [List.append_eq, List.cons_append, List.nil_append])) | ((with_reducible apply WD_end); (first | exact no_draw | (intro _; kernel_rfl)); try simp only [thn, inB, List.length_map, List.cons_append, List.nil_append]) | (with_reducible apply WA_block) | ((with_reducible first | apply WA_skip | apply WA_ret | apply WA_exit | apply WA_label); try simp only [thn, inB, List.length_map, List.cons_append, List.nil_append])))
  rw [List.length_map]
  (repeat' (first | ((with_reducible apply WD_id); first | (refine WD_nxt htb (by exact rfl) ?_) | (refine WD_call (by exact rfl) ?_; first | (refine WD_cM (nkA_m) ?_) | (refine WD_cM (rgZ_m) ?_)) | (refine WD_idx htb ?_)) | (with_reducible apply WA_seq) | ((with_reducible apply gR hmix hN); exact (by kernel_rfl); (try dsimp only [List.append_eq, List.cons_append, List.nil_append])) | ((with_reducible apply WD_end); (first | exact no_draw | (intro _; kernel_rfl)); try simp only [thn, inB, List.length_map, List.cons_append, List.nil_append]) | (with_reducible apply WA_block) | ((with_reducible first | apply WA_skip | apply WA_ret | apply WA_exit | apply WA_label); try simp only [thn, inB, List.length_map, List.cons_append, List.nil_append])))
  rw [List.length_map]
  (repeat' (first | ((with_reducible apply WD_id); first | (refine WD_nxt htb (by exact rfl) ?_) | (refine WD_call (by exact rfl) ?_; first | (refine WD_cM (deZ_m) ?_) | (refine WD_c0 (sgZ_m) ?_)) | (refine WD_idx htb ?_)) | (with_reducible apply WA_seq) | ((with_reducible apply gR hmix hN); exact (by kernel_rfl); (try dsimp only [List.append_eq, List.cons_append, List.nil_append])) | ((with_reducible apply WD_end); (first | exact no_draw | (intro _; kernel_rfl)); try simp only [thn, inB, List.length_map, List.cons_append, List.nil_append]) | (with_reducible apply WA_block) | ((with_reducible first | apply WA_skip | apply WA_ret | apply WA_exit | apply WA_label); try simp only [thn, inB, List.length_map, List.cons_append, List.nil_append])))
  exact gE (.inr rfl) rfl rfl ⟨rfl, trivial⟩
set_option maxHeartbeats 2000000 in
theorem dcs_m (s : Sc) (ks : List Int) (hs : s.ok) (h1 : 1 ≤ ks.length) (h2 : ks.length ≤ 5) : FnM Tryz.prog 7 [(9000, tpB s)] [.ptr 9000 0, lU ks, vI 10] (lD (dcsN ks (s.x 11) (s.n 11).toNat).1) [(9000, tpB (dcsN ks (s.x 11) (s.n 11).toNat).2)] := by
  have hb := s.n_bd (k := 11) (by decide)
  have nkA_m := tN_m s 11 hs (by decide) (by decide)
  have hsx := Sc.ok_x hs 11
  generalize s.x 11 = s1 at *
  generalize hm : (s.n 11).toNat = m at *
  have hm2 : s.n 11 = (m : Int) := by omega
  rw [hm2] at nkA_m
  refine FnM.of htb Tryz.func7 rfl rfl rfl rfl rfl fun cx hN h0 => ?_
  (repeat' (first | ((with_reducible apply WD_id); first | (refine WD_sum ?_) | (refine WD_nxt htb (by exact rfl) ?_) | (refine WD_call (by exact rfl) ?_; first | (refine WD_cM (nkA_m) ?_)) | (refine WD_idxo htb ?_) | (refine WD_lde htb ?_) | (refine WD_ap htb ?_) | (refine WD_t (by exact rfl) (by exact rfl) (by exact known) fun hb => ?_; rw [hb]; clear hb) | (refine WD_f (by exact rfl) (by exact rfl) (by exact known) fun hb => ?_; rw [hb]; clear hb)) | (with_reducible apply WA_seq) | ((with_reducible apply gR hmix hN); exact (by kernel_rfl); (try dsimp only [List.append_eq, List.cons_append, List.nil_append])) | ((with_reducible apply WD_end); (first | exact no_draw | (intro _; kernel_rfl)); try simp only [thn, inB, List.length_map, List.cons_append, List.nil_append]) | ((with_reducible apply gCt); exact rfl; exact rfl) | ((with_reducible apply gCf); exact rfl; exact rfl) | ((with_reducible apply gCk); exact rfl; exact known; intro hb; rw [hb]; clear hb) | ((with_reducible apply gCn); exact rfl; exact known; intro hb; rw [hb]; clear hb) | (with_reducible apply WA_block) | ((with_reducible first | apply WA_skip | apply WA_ret | apply WA_exit | apply WA_label); try simp only [thn, inB, List.length_map, List.cons_append, List.nil_append])))
  refine WA_le (Le_nilT 60 7 40 6 rfl rfl) ?_
  (refine WA_forV (m) [8, 7] [60, 9000] (fun k => [(8, vI ((m : Int) - (k : Int))), (7, .own 60)]) (fun k => [(60, .arr 40 6 ((dcsN ks s1 k).1.map rD)), (9000, tpB (dcsN ks s1 k).2)]) (fun k => True) ?h0 ?_)
  case h0 => trivial
  intro k hk _
  obtain ⟨⟨q1, q2⟩, q3⟩ := dcsN_spec hsx h1 h2 k
  rcases Nat.lt_or_ge k m with hk' | hk'
  · have t1 : decide ((m : Int) - (k : Int) > 0) = true := by simp; omega
    have hst : dcsN ks s1 (k + 1) = dcsS ks (dcsN ks s1 k) := rfl
    rw [hst]
    generalize dcsN ks s1 k = p at *
    obtain ⟨l, sk⟩ := p
    dsimp only at q1 q2 q3 ⊢
    obtain ⟨g, o⟩ := dclF_spec q2 h1 h2
    have dcZ_m := dcl_m sk ks q2 h1 h2
    have e6 : ((m : Int) - ((k + 1 : Nat) : Int)) = (m : Int) - (k : Int) - 1 := by omega
    unfold dcsS
    dsimp only
    generalize dclF sk ks = q at *
    obtain ⟨d, sd⟩ := q
    dsimp only at g o dcZ_m ⊢
    rw [e6]
    by_cases c1 : l.length > 0
    · have t2 : decide ((l.length : Int) > 0) = true := by simp; omega
      rw [if_pos c1]
      have nkB_m := tN_m sd 4 o (by decide) (by decide)
      have hb4 := sd.n_bd (k := 4) (by decide)
      by_cases c2 : sd.n 4 = 0
      · have t3 : (sd.n 4 == 0) = true := by rw [c2]; rfl
        have nkC_m := tN_m (sd.x 4) l.length (Sc.ok_x o _) (by omega) (by omega)
        have hbl := (sd.x 4).n_bd (k := (l.length : Int)) (by omega)
        rw [if_pos c2]
        (repeat' (first | ((with_reducible apply WD_id); first | (refine WD_sum ?_) | (refine WD_nxt htb (by exact rfl) ?_) | (refine WD_call (by exact rfl) ?_; first | (refine WD_cM (dcZ_m) ?_) | (refine WD_cM (nkB_m) ?_)) | (refine WD_idxo htb ?_) | (refine WD_lde htb ?_) | (refine WD_ap htb ?_) | (refine WD_t (by exact rfl) (by exact rfl) (by exact known) fun hb => ?_; rw [hb]; clear hb) | (refine WD_f (by exact rfl) (by exact rfl) (by exact known) fun hb => ?_; rw [hb]; clear hb)) | (with_reducible apply WA_seq) | ((with_reducible apply gR hmix hN); exact (by kernel_rfl); (try dsimp only [List.append_eq, List.cons_append, List.nil_append])) | ((with_reducible apply WD_end); (first | exact no_draw | (intro _; kernel_rfl)); try simp only [thn, inB, List.length_map, List.cons_append, List.nil_append]) | ((with_reducible apply gCt); exact rfl; exact rfl) | ((with_reducible apply gCf); exact rfl; exact rfl) | ((with_reducible apply gCk); exact rfl; exact known; intro hb; rw [hb]; clear hb) | ((with_reducible apply gCn); exact rfl; exact known; intro hb; rw [hb]; clear hb) | (with_reducible apply WA_block) | ((with_reducible first | apply WA_skip | apply WA_ret | apply WA_exit | apply WA_label); try simp only [thn, inB, List.length_map, List.cons_append, List.nil_append])))
        rw [List.length_map]
        (repeat' (first | ((with_reducible apply WD_id); first | (refine WD_sum ?_) | (refine WD_nxt htb (by exact rfl) ?_) | (refine WD_call (by exact rfl) ?_; first | (refine WD_cM (nkC_m) ?_)) | (refine WD_idxo htb ?_) | (refine WD_lde htb ?_) | (refine WD_ap htb ?_) | (refine WD_t (by exact rfl) (by exact rfl) (by exact known) fun hb => ?_; rw [hb]; clear hb) | (refine WD_f (by exact rfl) (by exact rfl) (by exact known) fun hb => ?_; rw [hb]; clear hb)) | (with_reducible apply WA_seq) | ((with_reducible apply gR hmix hN); exact (by kernel_rfl); (try dsimp only [List.append_eq, List.cons_append, List.nil_append])) | ((with_reducible apply WD_end); (first | exact no_draw | (intro _; kernel_rfl)); try simp only [thn, inB, List.length_map, List.cons_append, List.nil_append]) | ((with_reducible apply gCt); exact rfl; exact rfl) | ((with_reducible apply gCf); exact rfl; exact rfl) | ((with_reducible apply gCk); exact rfl; exact known; intro hb; rw [hb]; clear hb) | ((with_reducible apply gCn); exact rfl; exact known; intro hb; rw [hb]; clear hb) | (with_reducible apply WA_block) | ((with_reducible first | apply WA_skip | apply WA_ret | apply WA_exit | apply WA_label); try simp only [thn, inB, List.length_map, List.cons_append, List.nil_append])))
        refine ⟨hk', trivial, ?_⟩
        rw [List.map_append]
        (exact LeV [(60, 39)])
      · have t3 : (sd.n 4 == 0) = false := by simpa using c2
        rw [if_neg c2]
        (repeat' (first | ((with_reducible apply WD_id); first | (refine WD_sum ?_) | (refine WD_nxt htb (by exact rfl) ?_) | (refine WD_call (by exact rfl) ?_; first | (refine WD_cM (dcZ_m) ?_) | (refine WD_cM (nkB_m) ?_)) | (refine WD_idxo htb ?_) | (refine WD_lde htb ?_) | (refine WD_ap htb ?_) | (refine WD_t (by exact rfl) (by exact rfl) (by exact known) fun hb => ?_; rw [hb]; clear hb) | (refine WD_f (by exact rfl) (by exact rfl) (by exact known) fun hb => ?_; rw [hb]; clear hb)) | (with_reducible apply WA_seq) | ((with_reducible apply gR hmix hN); exact (by kernel_rfl); (try dsimp only [List.append_eq, List.cons_append, List.nil_append])) | ((with_reducible apply WD_end); (first | exact no_draw | (intro _; kernel_rfl)); try simp only [thn, inB, List.length_map, List.cons_append, List.nil_append]) | ((with_reducible apply gCt); exact rfl; exact rfl) | ((with_reducible apply gCf); exact rfl; exact rfl) | ((with_reducible apply gCk); exact rfl; exact known; intro hb; rw [hb]; clear hb) | ((with_reducible apply gCn); exact rfl; exact known; intro hb; rw [hb]; clear hb) | (with_reducible apply WA_block) | ((with_reducible first | apply WA_skip | apply WA_ret | apply WA_exit | apply WA_label); try simp only [thn, inB, List.length_map, List.cons_append, List.nil_append])))
        refine ⟨hk', trivial, ?_⟩
        rw [List.map_append]
        (exact LeV [(60, 39)])
    · have t2 : decide ((l.length : Int) > 0) = false := by simp only [decide_eq_false_iff_not]; omega
      rw [if_neg c1]
      (repeat' (first | ((with_reducible apply WD_id); first | (refine WD_sum ?_) | (refine WD_nxt htb (by exact rfl) ?_) | (refine WD_call (by exact rfl) ?_; first | (refine WD_cM (dcZ_m) ?_)) | (refine WD_idxo htb ?_) | (refine WD_lde htb ?_) | (refine WD_ap htb ?_) | (refine WD_t (by exact rfl) (by exact rfl) (by exact known) fun hb => ?_; rw [hb]; clear hb) | (refine WD_f (by exact rfl) (by exact rfl) (by exact known) fun hb => ?_; rw [hb]; clear hb)) | (with_reducible apply WA_seq) | ((with_reducible apply gR hmix hN); exact (by kernel_rfl); (try dsimp only [List.append_eq, List.cons_append, List.nil_append])) | ((with_reducible apply WD_end); (first | exact no_draw | (intro _; kernel_rfl)); try simp only [thn, inB, List.length_map, List.cons_append, List.nil_append]) | ((with_reducible apply gCt); exact rfl; exact rfl) | ((with_reducible apply gCf); exact rfl; exact rfl) | ((with_reducible apply gCk); exact rfl; exact known; intro hb; rw [hb]; clear hb) | ((with_reducible apply gCn); exact rfl; exact known; intro hb; rw [hb]; clear hb) | (with_reducible apply WA_block) | ((with_reducible first | apply WA_skip | apply WA_ret | apply WA_exit | apply WA_label); try simp only [thn, inB, List.length_map, List.cons_append, List.nil_append])))
      refine ⟨hk', trivial, ?_⟩
      rw [List.map_append]
      (exact LeV [(60, 39)])
  · have t1 : decide ((m : Int) - (k : Int) > 0) = false := by simp only [decide_eq_false_iff_not]; omega
    obtain rfl : k = m := by omega
    (repeat' (first | ((with_reducible apply WD_id); first | (refine WD_sum ?_) | (refine WD_nxt htb (by exact rfl) ?_) | (refine WD_idxo htb ?_) | (refine WD_lde htb ?_) | (refine WD_ap htb ?_) | (refine WD_t (by exact rfl) (by exact rfl) (by exact known) fun hb => ?_; rw [hb]; clear hb) | (refine WD_f (by exact rfl) (by exact rfl) (by exact known) fun hb => ?_; rw [hb]; clear hb)) | (with_reducible apply WA_seq) | ((with_reducible apply gR hmix hN); exact (by kernel_rfl); (try dsimp only [List.append_eq, List.cons_append, List.nil_append])) | ((with_reducible apply WD_end); (first | exact no_draw | (intro _; kernel_rfl)); try simp only [thn, inB, List.length_map, List.cons_append, List.nil_append]) | ((with_reducible apply gCt); exact rfl; exact rfl) | ((with_reducible apply gCf); exact rfl; exact rfl) | ((with_reducible apply gCk); exact rfl; exact known; intro hb; rw [hb]; clear hb) | ((with_reducible apply gCn); exact rfl; exact known; intro hb; rw [hb]; clear hb) | (with_reducible apply WA_block) | ((with_reducible first | apply WA_skip | apply WA_ret | apply WA_exit | apply WA_label); try simp only [thn, inB, List.length_map, List.cons_append, List.nil_append])))
    (exact glV [(6, lD (dcsN ks s1 k).1)] [(9000, tpB (dcsN ks s1 k).2)] (LeV []))
end Go.Proofs.YtkjpnmodlmlhdaaGreatDoor
