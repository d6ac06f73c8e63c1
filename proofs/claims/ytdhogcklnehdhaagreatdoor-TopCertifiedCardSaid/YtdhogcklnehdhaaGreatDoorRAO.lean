import Derived.Test.YtdhogcklnehdhaaGreatDoorRAN
import Derived.Test.YtdhogcklnehdhaaGreatDoorRAE
import Derived.Test.YtdhogcklnehdhaaGreatDoorRAL
import Derived.Test.YtdhogcklnehdhaaGreatDoorRAJ
import Derived.Test.YtdhogcklnehdhaaGreatDoorRAM
import Derived.Test.YtdhogcklnehdhaaGreatDoorRAH
import Derived.Test.YtdhogcklnehdhaaGreatDoorRAK
namespace Go.Proofs.YtdhogcklnehdhaaGreatDoor
set_option linter.unusedSimpArgs false
set_option linter.unusedVariables false
set_option linter.unnecessarySimpa false
set_option linter.unusedSectionVars false
set_option maxRecDepth 100000
open Go Go.RowKit Go.Am Go.Proofs.Grow
theorem ap2_m (x y : Cl) : FnM Tryz.prog 131 [(70, bxC x)] [aC y, .ptr 70 0] (vB (ctrC x y)) [(70, bxC x)] := by
  refine FnM.of htb Tryz.func131 rfl rfl rfl rfl rfl fun cx hN h0 => ?_
  (repeat' (first | ((with_reducible apply WD_id); first | (refine WD_nxt htb (by exact rfl) ?_) | (refine WD_call (by exact rfl) ?_; first | (refine WD_c0 (ctrC_m (x := x) (y := y)) ?_))) | (refine ct ?_) | (with_reducible apply WA_block)))
  exact gE (.inr rfl) rfl rfl ⟨rfl, trivial⟩
theorem ix2_m (x : Cl) (l : List Cl) (hl : l.length ≤ 4000) : FnM Tryz.prog 166 [(70, bxC x)] [lC l, .clo 131 [.ptr 70 0]] (vI (idxF (ctrC x) 0 l)) [(70, bxC x)] := by
  refine FnM.of htb Tryz.func166 rfl rfl rfl rfl rfl fun cx hN h0 => ?_
  (repeat' (first | ((with_reducible apply WD_id); first | (refine WD_sum ?_) | (refine WD_nxt htb (by exact rfl) ?_) | (refine WD_idx htb ?_)) | (refine ct ?_) | (with_reducible apply WA_block)))
  (refine WA_forV (l.length) [8] [] (fun k => [(8, vI k)]) (fun k => []) (fun k => idxF (ctrC x) 0 l = idxF (ctrC x) k (l.drop k)) ?h0 ?_)
  case h0 => rfl
  intro k hk hI
  rcases Nat.lt_or_ge k l.length with hk' | hk'
  · have t1 : decide ((k : Int) < (l.length : Int)) = true := by simp; omega
    cases hx : ctrC x (nth l k) with
    | true =>
      (repeat' (first | ((with_reducible apply WD_id); first | (refine WD_sum ?_) | (refine WD_nxt htb (by exact rfl) ?_) | (refine WD_call (by exact rfl) ?_; first | (refine WD_cM (ap2_m (x := x) (y := nth l k)) ?_)) | (refine WD_idx htb ?_)) | (refine ct ?_) | (with_reducible apply WA_block)))
      exact gE (.inr rfl) rfl (congrArg vI (idx_hit hI hk' hx).symm) ⟨rfl, trivial⟩
    | false =>
      (repeat' (first | ((with_reducible apply WD_id); first | (refine WD_sum ?_) | (refine WD_nxt htb (by exact rfl) ?_) | (refine WD_call (by exact rfl) ?_; first | (refine WD_cM (ap2_m (x := x) (y := nth l k)) ?_)) | (refine WD_idx htb ?_)) | (refine ct ?_) | (with_reducible apply WA_block)))
      refine ⟨hk', idx_miss hI hk' hx, ?_⟩
      (exact LeV [])
  · have t1 : decide ((k : Int) < (l.length : Int)) = false := by simp; omega
    (repeat' (first | ((with_reducible apply WD_id); first | (refine WD_sum ?_) | (refine WD_nxt htb (by exact rfl) ?_) | (refine WD_idx htb ?_)) | (refine ct ?_) | (with_reducible apply WA_block)))
    exact gE (.inr rfl) rfl (congrArg vI (idx_end hI hk').symm) ⟨rfl, trivial⟩
theorem cn2_m (x : Cl) (l : List Cl) (hl : l.length ≤ 4000) : FnM Tryz.prog 111 [(70, bxC x)] [lC l, .clo 131 [.ptr 70 0]] (vB (l.any (ctrC x))) [(70, bxC x)] := by
  refine FnM.of htb Tryz.func111 rfl rfl rfl rfl rfl fun cx hN h0 => ?_
  (repeat' (first | ((with_reducible apply WD_id); first | (refine WD_nxt htb (by exact rfl) ?_) | (refine WD_call (by exact rfl) ?_; first | (refine WD_cM (ix2_m (x := x) _ ?_) ?_; (exact hyp)))) | (refine ct ?_) | (with_reducible apply WA_block)))
  exact gE (.inr rfl) rfl (congrArg vB (idx_any _ _ _)) ⟨rfl, trivial⟩
def aprX (v : Vo) (x : Cl) : Bool := v.co.any (ctrC x)
theorem ap1_m (v : Vo) (x : Cl) (hl : v.co.length ≤ 4000) : FnM Tryz.prog 130 [(3, bxV v)] [aC x, .ptr 3 0] (vB (aprX v x)) [(3, bxV v)] := by
  refine FnM.of htb Tryz.func130 rfl rfl rfl rfl rfl fun cx hN h0 => ?_
  (repeat' (first | (with_reducible apply WA_seq) | (with_reducible apply WA_block) | ((with_reducible first | apply WA_skip | apply WA_ret | apply WA_exit | apply WA_label); try simp only [thn, inB, List.length_map, List.cons_append, List.nil_append])))
  ((with_reducible apply gR hmix hN); exact (by kernel_rfl); (try dsimp only [List.append_eq, List.cons_append, List.nil_append]))
  (repeat' (first | ((with_reducible apply WD_id); first | (refine WD_nxt htb (by exact rfl) ?_)) | ((with_reducible apply WD_end); (first | exact no_draw | (intro _; kernel_rfl)); try simp only [thn, inB, List.length_map, List.cons_append, List.nil_append])))
  (repeat' (first | (with_reducible apply WA_seq) | (with_reducible apply WA_block) | ((with_reducible first | apply WA_skip | apply WA_ret | apply WA_exit | apply WA_label); try simp only [thn, inB, List.length_map, List.cons_append, List.nil_append])))
  refine WA_le (s' := ⟨[(3, vB false), (2, .ptr 70 0), (1, .ptr 3 0)], [(70, bxC x), (3, bxV v)]⟩) (LeV [(70, 2)]) ?_
  (repeat' (first | ((with_reducible apply WD_id); first | (refine WD_nxt htb (by exact rfl) ?_) | (refine WD_call (by exact rfl) ?_; first | (refine WD_cM (cn2_m (x := x) _ ?_) ?_; (exact hyp)))) | (refine ct ?_) | (with_reducible apply WA_block)))
  exact gE (.inr rfl) rfl rfl ⟨rfl, trivial⟩
theorem ix1_m (v : Vo) (l : List Cl) (hl : l.length ≤ 4000 ∧ v.co.length ≤ 4000) : FnM Tryz.prog 166 [(3, bxV v)] [lC l, .clo 130 [.ptr 3 0]] (vI (idxF (aprX v) 0 l)) [(3, bxV v)] := by
  obtain ⟨hl1, hl2⟩ := hl
  refine FnM.of htb Tryz.func166 rfl rfl rfl rfl rfl fun cx hN h0 => ?_
  (repeat' (first | ((with_reducible apply WD_id); first | (refine WD_sum ?_) | (refine WD_nxt htb (by exact rfl) ?_) | (refine WD_idx htb ?_)) | (refine ct ?_) | (with_reducible apply WA_block)))
  (refine WA_forV (l.length) [8] [] (fun k => [(8, vI k)]) (fun k => []) (fun k => idxF (aprX v) 0 l = idxF (aprX v) k (l.drop k)) ?h0 ?_)
  case h0 => rfl
  intro k hk hI
  rcases Nat.lt_or_ge k l.length with hk' | hk'
  · have t1 : decide ((k : Int) < (l.length : Int)) = true := by simp; omega
    cases hx : aprX v (nth l k) with
    | true =>
      (repeat' (first | ((with_reducible apply WD_id); first | (refine WD_sum ?_) | (refine WD_nxt htb (by exact rfl) ?_) | (refine WD_call (by exact rfl) ?_; first | (refine WD_cM (ap1_m (v := v) (x := nth l k) ?_) ?_; (exact hyp))) | (refine WD_idx htb ?_)) | (refine ct ?_) | (with_reducible apply WA_block)))
      exact gE (.inr rfl) rfl (congrArg vI (idx_hit hI hk' hx).symm) ⟨rfl, trivial⟩
    | false =>
      (repeat' (first | ((with_reducible apply WD_id); first | (refine WD_sum ?_) | (refine WD_nxt htb (by exact rfl) ?_) | (refine WD_call (by exact rfl) ?_; first | (refine WD_cM (ap1_m (v := v) (x := nth l k) ?_) ?_; (exact hyp))) | (refine WD_idx htb ?_)) | (refine ct ?_) | (with_reducible apply WA_block)))
      refine ⟨hk', idx_miss hI hk' hx, ?_⟩
      (exact LeV [])
  · have t1 : decide ((k : Int) < (l.length : Int)) = false := by simp; omega
    (repeat' (first | ((with_reducible apply WD_id); first | (refine WD_sum ?_) | (refine WD_nxt htb (by exact rfl) ?_) | (refine WD_idx htb ?_)) | (refine ct ?_) | (with_reducible apply WA_block)))
    exact gE (.inr rfl) rfl (congrArg vI (idx_end hI hk').symm) ⟨rfl, trivial⟩
theorem cn1_m (v : Vo) (l : List Cl) (hl : l.length ≤ 4000 ∧ v.co.length ≤ 4000) : FnM Tryz.prog 111 [(3, bxV v)] [lC l, .clo 130 [.ptr 3 0]] (vB (l.any (aprX v))) [(3, bxV v)] := by
  refine FnM.of htb Tryz.func111 rfl rfl rfl rfl rfl fun cx hN h0 => ?_
  (repeat' (first | ((with_reducible apply WD_id); first | (refine WD_nxt htb (by exact rfl) ?_) | (refine WD_call (by exact rfl) ?_; first | (refine WD_cM (ix1_m (v := v) _ ?_) ?_; (exact hyp)))) | (refine ct ?_) | (with_reducible apply WA_block)))
  exact gE (.inr rfl) rfl (congrArg vB (idx_any _ _ _)) ⟨rfl, trivial⟩
def aprB (a b : Vo) : Bool := a.co.any (aprX b)
theorem apart_m (a b : Vo) (h : a.co.length ≤ 4000 ∧ b.co.length ≤ 4000) : FnM Tryz.prog 69 [] [aVo a, aVo b] (vB (aprB a b)) [] := by
  refine FnM.of htb Tryz.func69 rfl rfl rfl rfl rfl fun cx hN h0 => ?_
  (repeat' (first | ((with_reducible apply WD_id); first | (refine WD_nxt htb (by exact rfl) ?_) | (refine WD_call (by exact rfl) ?_; first | (refine WD_cM (cn1_m (v := b) (l := a.co) ?_) ?_; (exact hyp)))) | (refine ct ?_) | (with_reducible apply WA_block)))
  exact gE (.inr rfl) rfl rfl trivial
/-- The first two that contradict each other. -/
def ctdJ (m : Mt) (w : List Nat) (a : Nat) : Option Nat := w.find? fun b => aprB (nth m.vs a) (nth m.vs b)
def ctdI (m : Mt) (w : List Nat) : List Nat → Option (Nat × Nat)
  | [] => none
  | a :: r => match ctdJ m w a with
    | some b => some (a, b)
    | none => ctdI m w r
def ctdR : Option (Nat × Nat) → AV
  | none => .tup [vI 0, vI 0, vB false]
  | some p => .tup [vI (p.1 : Int), vI (p.2 : Int), vB true]
set_option maxHeartbeats 2000000 in
theorem contr_m (m : Mt) (n : Nat) (h : MtOK n m) : FnM Tryz.prog 23 [] [aMt m] (ctdR (ctdI m (wellN m) (wellN m))) [] := by
  obtain ⟨hw1, hw2⟩ := well_lt h
  have hl := h.len
  have hn := h.n10
  have h2 := two_le hn
  have hil := h.il
  have nodW := nodes_m (2 ^ m.vs.length - 1 - m.il) hw1
  have e0 : ((2 ^ m.vs.length - 1 - m.il : Nat) : Int) = ((2 ^ m.vs.length : Nat) : Int) - 1 - (m.il : Int) := by rw [hl]; omega
  rw [e0] at nodW
  have nodW_m : FnM Tryz.prog 68 [] [vI (((2 ^ m.vs.length : Nat) : Int) - 1 - (m.il : Int))] (lN (wellN m)) [] := nodW
  have hml : m.vs.length ≤ 61 := by omega
  have hb1 : ((2 ^ m.vs.length : Nat) : Int) ≤ 1024 := by rw [hl]; omega
  have hb2 : (m.il : Int) ≤ 1024 := by omega
  have hwl : (wellN m).length ≤ 10 := nodesTo_len _ 10
  have t0 : (!true) = false := rfl
  generalize wellN m = w at *
  refine FnM.of htb Tryz.func23 rfl rfl rfl (by cases ctdI m w w <;> rfl) rfl fun cx hN h0 => ?_
  (repeat' (first | ((with_reducible apply WD_id); first | (refine WD_sum ?_) | (refine WD_nxt htb (by exact rfl) ?_) | (refine WD_call (by exact rfl) ?_; first | (refine WD_c0 (mval_m (n := n) _ ?_) ?_; (exact hyp))) | (refine WD_eq (shlN_step rfl rfl rfl) ?_) | (refine WD_idx htb ?_)) | (refine ct ?_) | (with_reducible apply WA_block)))
  rw [List.length_map]
  (repeat' (first | ((with_reducible apply WD_id); first | (refine WD_sum ?_) | (refine WD_nxt htb (by exact rfl) ?_) | (refine WD_call (by exact rfl) ?_; first | (refine WD_c0 (nodW_m) ?_)) | (refine WD_idx htb ?_)) | (refine ct ?_) | (with_reducible apply WA_block)))
  (refine WA_forV (w.length) [24] [] (fun k => [(24, vI k)]) (fun k => []) (fun k => ctdI m w w = ctdI m w (w.drop k)) ?h0 ?_)
  case h0 => rfl
  intro i hi hI
  rcases Nat.lt_or_ge i w.length with hi' | hi'
  · have d1 : decide ((i : Int) < (w.length : Int)) = true := by simp; omega
    have ha := hw2 _ (nth_mem w i hi')
    have hal : nth w i < m.vs.length := by omega
    have hac := ((h.ok _ ha).co).len
    rw [drop_nth w i hi', ctdI] at hI
    unfold ctdJ at hI
    (repeat' (first | ((with_reducible apply WD_id); first | (refine WD_sum ?_) | (refine WD_nxt htb (by exact rfl) ?_) | (refine WD_idx htb ?_)) | (refine ct ?_) | (with_reducible apply WA_block)))
    (refine WA_forV (w.length) [30] [] (fun k => [(30, vI k)]) (fun k => []) (fun k => (w.find? fun b => aprB (nth m.vs (nth w i)) (nth m.vs b)) = ((w.drop k).find? fun b => aprB (nth m.vs (nth w i)) (nth m.vs b))) ?h0 ?_)
    case h0 => rfl
    intro j hj hJ
    rcases Nat.lt_or_ge j w.length with hj' | hj'
    · have d2 : decide ((j : Int) < (w.length : Int)) = true := by simp; omega
      have hb := hw2 _ (nth_mem w j hj')
      have hbl : nth w j < m.vs.length := by omega
      have hbc := ((h.ok _ hb).co).len
      have hap : (nth m.vs (nth w i)).co.length ≤ 4000 ∧ (nth m.vs (nth w j)).co.length ≤ 4000 := by omega
      have ap := apart_m (nth m.vs (nth w i)) (nth m.vs (nth w j)) hap
      rw [find_step hj'] at hJ
      cases hx : aprB (nth m.vs (nth w i)) (nth m.vs (nth w j)) with
      | true =>
        rw [hx] at ap hJ
        rw [if_pos rfl] at hJ
        rw [hJ] at hI
        have apZ_m := ap
        rw [hI]
        (repeat' (first | ((with_reducible apply WD_id); first | (refine WD_sum ?_) | (refine WD_nxt htb (by exact rfl) ?_) | (refine WD_call (by exact rfl) ?_; first | (refine WD_c0 (apZ_m) ?_)) | (refine WD_idx htb ?_)) | (refine ct ?_) | (with_reducible apply WA_block)))
        exact gE (.inr rfl) rfl rfl trivial
      | false =>
        rw [hx] at ap hJ
        rw [if_neg (by simp)] at hJ
        have apZ_m := ap
        (repeat' (first | ((with_reducible apply WD_id); first | (refine WD_sum ?_) | (refine WD_nxt htb (by exact rfl) ?_) | (refine WD_call (by exact rfl) ?_; first | (refine WD_c0 (apZ_m) ?_)) | (refine WD_idx htb ?_)) | (refine ct ?_) | (with_reducible apply WA_block)))
        refine ⟨hj', hJ, ?_⟩
        (exact LeV [])
    · have d2 : decide ((j : Int) < (w.length : Int)) = false := by simp; omega
      rw [List.drop_eq_nil_of_le hj', List.find?_nil] at hJ
      rw [hJ] at hI
      (repeat' (first | ((with_reducible apply WD_id); first | (refine WD_sum ?_) | (refine WD_nxt htb (by exact rfl) ?_) | (refine WD_idx htb ?_)) | (refine ct ?_) | (with_reducible apply WA_block)))
      refine ⟨hi', hI, ?_⟩
      (exact LeV [])
  · have d1 : decide ((i : Int) < (w.length : Int)) = false := by simp; omega
    rw [List.drop_eq_nil_of_le hi', ctdI] at hI
    rw [hI]
    (repeat' (first | ((with_reducible apply WD_id); first | (refine WD_sum ?_) | (refine WD_nxt htb (by exact rfl) ?_) | (refine WD_idx htb ?_)) | (refine ct ?_) | (with_reducible apply WA_block)))
    exact gE (.inr rfl) rfl rfl trivial
theorem splitN_m (c : List Mb) (il : Nat) (hc : FullC c) (hi : il < 2 ^ c.length) (p : Nat × Nat) (e : Int) (he : e ≠ 0) (parS : FnM Tryz.prog 66 [] [aCf c, vI (il : Int)] (.tup [vI (p.1 : Int), vI (p.2 : Int), vI e]) []) :
    FnM Tryz.prog 22 [] [aCf c, vI (il : Int)] (.tup [lPl [], vI e]) [] := by
  have begS_m := begin_m c il hc hi
  have parS_m := parS
  generalize (⟨begV c c.length, 0, il⟩ : Mt) = m0 at *
  have t0 : ((0 : Int) != 0) = false := rfl
  have t1 : (e != 0) = true := by simpa using he
  refine FnM.of htb Tryz.func22 rfl rfl rfl rfl rfl fun cx hN h0 => ?_
  (repeat' (first | ((with_reducible apply WD_id); first | (refine WD_nxt htb (by exact rfl) ?_) | (refine WD_call (by exact rfl) ?_; first | (refine WD_c0 (begS_m) ?_) | (refine WD_c0 (parS_m) ?_))) | (refine ct ?_) | (with_reducible apply WA_block)))
  (exact glV [(4, lPl []), (5, vI e)] [] (LeV []))
set_option maxHeartbeats 2000000 in
theorem splitY_m (c : List Mb) (il a b : Nat) (hc : FullC c) (hi : il < 2 ^ c.length) (ca : Cvn c.length a il (0, 0)) (cb : Cvn c.length b il (0, 1)) (e : Int) (he : e = 0) (parS : FnM Tryz.prog 66 [] [aCf c, vI (il : Int)] (.tup [vI (a : Int), vI (b : Int), vI e]) [])
    (h1 : Ts c.length il (cnvF a il (0, 0) (⟨begV c c.length, 0, il⟩, [])) 400) :
    FnM Tryz.prog 22 [] [aCf c, vI (il : Int)] (.tup [lPl (splF c il a b).2, vI 0]) [] := by
  have begS_m := begin_m c il hc hi
  have parS_m := parS
  have hI := beg_I hc hi
  have ts0 : Ts c.length il (⟨begV c c.length, 0, il⟩, []) 400 := ⟨hI.ok, rfl, by simp⟩
  unfold splF
  generalize (⟨begV c c.length, 0, il⟩ : Mt) = m0 at *
  have t0 : ((0 : Int) != 0) = false := rfl
  refine FnM.of htb Tryz.func22 rfl rfl rfl rfl rfl fun cx hN h0 => ?_
  (repeat' (first | ((with_reducible apply WD_id); first | (refine WD_nxt htb (by exact rfl) ?_) | (refine WD_call (by exact rfl) ?_; first | (refine WD_c0 (begS_m) ?_) | (refine WD_c0 (parS_m) ?_))) | (refine ct ?_) | (with_reducible apply WA_block)))
  have t1 : (e != 0) = false := by simp [he]
  (repeat' (first | (with_reducible apply WA_seq) | ((with_reducible apply gCf); exact rfl; exact rfl) | ((with_reducible apply gCn); exact rfl; exact known; intro hb; rw [hb]; clear hb) | (with_reducible apply WA_block) | ((with_reducible first | apply WA_skip | apply WA_ret | apply WA_exit | apply WA_label); try simp only [thn, inB, List.length_map, List.cons_append, List.nil_append])))
  ((with_reducible apply gR hmix hN); exact (by kernel_rfl); (try dsimp only [List.append_eq, List.cons_append, List.nil_append]))
  (repeat' (first | ((with_reducible apply WD_id); first | (refine WD_nxt htb (by exact rfl) ?_)) | ((with_reducible apply WD_end); (first | exact no_draw | (intro _; kernel_rfl)); try simp only [thn, inB, List.length_map, List.cons_append, List.nil_append])))
  (repeat' (first | (with_reducible apply WA_seq) | ((with_reducible apply gCf); exact rfl; exact rfl) | ((with_reducible apply gCn); exact rfl; exact known; intro hb; rw [hb]; clear hb) | (with_reducible apply WA_block) | ((with_reducible first | apply WA_skip | apply WA_ret | apply WA_exit | apply WA_label); try simp only [thn, inB, List.length_map, List.cons_append, List.nil_append])))
  refine WA_le (Le_nilM 61 32 3 88 15 rfl rfl rfl rfl) ?_
  refine WA_le (s' := ⟨[(10, .ptr 32 0), (9, vI (b : Int)), (8, vI (a : Int)), (5, vI 0), (4, .d (.v (.slice none 0 0)))], [(32, bxN 61 m0), (61, plO [])]⟩) (LeV []) ?_
  ((with_reducible apply gR hmix hN); exact (by kernel_rfl); (try dsimp only [List.append_eq, List.cons_append, List.nil_append]))
  (repeat' (first | ((with_reducible apply WD_id); first | (refine WD_nxt htb (by exact rfl) ?_) | (refine WD_call (by exact rfl) ?_; first | (refine WD_cM (cvn_m (s := (m0, [])) (n := c.length) (q := a) (il := il) (x := (0, 0)) ?_ ?_) ?_; (exact hyp); (exact hyp)))) | ((with_reducible apply WD_end); (first | exact no_draw | (intro _; kernel_rfl)); try simp only [thn, inB, List.length_map, List.cons_append, List.nil_append])))
  (repeat' (first | (with_reducible apply WA_seq) | ((with_reducible apply gCf); exact rfl; exact rfl) | ((with_reducible apply gCn); exact rfl; exact known; intro hb; rw [hb]; clear hb) | (with_reducible apply WA_block) | ((with_reducible first | apply WA_skip | apply WA_ret | apply WA_exit | apply WA_label); try simp only [thn, inB, List.length_map, List.cons_append, List.nil_append])))
  generalize cnvF a il (0, 0) (m0, []) = s1 at *
  refine WA_le (s' := ⟨[(10, .ptr 32 0), (9, vI (b : Int)), (8, vI (a : Int)), (5, vI 0), (4, .d (.v (.slice none 0 0)))], [(32, bxN 61 s1.1), (61, plO s1.2)]⟩) (LeV [(61, 62)]) ?_
  (repeat' (first | ((with_reducible apply WD_id); first | (refine WD_nxt htb (by exact rfl) ?_) | (refine WD_call (by exact rfl) ?_; first | (refine WD_cM (cvn_m (s := s1) (n := c.length) (q := b) (il := il) (x := (0, 1)) ?_ ?_) ?_; (exact hyp); (exact hyp)))) | (refine ct ?_) | (with_reducible apply WA_block)))
  generalize cnvF b il (0, 1) s1 = s2 at *
  (exact glV [(4, lPl s2.2), (5, vI 0)] [] (LeV []))
end Go.Proofs.YtdhogcklnehdhaaGreatDoor
namespace Go.Proofs.YtdhogcklnehdhaaGreatDoor
set_option linter.unusedSimpArgs false
set_option linter.unusedVariables false
set_option linter.unnecessarySimpa false
set_option linter.unusedSectionVars false
set_option maxRecDepth 100000
open Go Go.RowKit Go.Am Go.Proofs.Grow
theorem has_step {l : List Cl} {x : Cl} {k : Nat} (h : k < l.length) : hasC (l.drop k) x = (decide (x = nth l k) || hasC (l.drop (k + 1)) x) := by
  rw [drop_nth l k h]
  unfold hasC
  simp only [List.mem_cons, Bool.decide_or]
theorem has17_m (l : List Cl) (x : Cl) (hl : l.length ≤ 10000) : FnM Tryz.prog 43 [] [lC l, aC x] (vB (hasC l x)) [] := by
  refine FnM.of htb Tryz.func43 rfl rfl rfl rfl rfl fun cx hN h0 => ?_
  (repeat' (first | ((with_reducible apply WD_id); first | (refine WD_sum ?_) | (refine WD_nxt htb (by exact rfl) ?_) | (refine WD_idx htb ?_)) | (refine ct ?_) | (with_reducible apply WA_block)))
  (refine WA_forV (l.length) [9] [] (fun k => [(9, vI k)]) (fun k => []) (fun k => hasC l x = hasC (l.drop k) x) ?h0 ?_)
  case h0 => rfl
  intro k hk hI
  rcases Nat.lt_or_ge k l.length with hk' | hk'
  · have t1 : decide ((k : Int) < (l.length : Int)) = true := by simp; omega
    rw [has_step hk'] at hI
    by_cases e : x = nth l k
    · have t2 : decide (x = nth l k) = true := by simpa using e
      rw [t2, Bool.true_or] at hI
      rw [hI]
      (repeat' (first | ((with_reducible apply WD_id); first | (refine WD_sum ?_) | (refine WD_nxt htb (by exact rfl) ?_) | (refine WD_eq ((eqC_step (a := x) (b := nth l k)) rfl rfl rfl) ?_) | (refine WD_idx htb ?_)) | (refine ct ?_) | (with_reducible apply WA_block)))
      exact gE (.inr rfl) rfl rfl trivial
    · have t2 : decide (x = nth l k) = false := by simpa using e
      rw [t2, Bool.false_or] at hI
      (repeat' (first | ((with_reducible apply WD_id); first | (refine WD_sum ?_) | (refine WD_nxt htb (by exact rfl) ?_) | (refine WD_eq ((eqC_step (a := x) (b := nth l k)) rfl rfl rfl) ?_) | (refine WD_idx htb ?_)) | (refine ct ?_) | (with_reducible apply WA_block)))
      refine ⟨hk', hI, ?_⟩
      (exact LeV [])
  · have t1 : decide ((k : Int) < (l.length : Int)) = false := by simp; omega
    rw [List.drop_eq_nil_of_le hk'] at hI
    have e : hasC [] x = false := rfl
    rw [hI, e]
    (repeat' (first | ((with_reducible apply WD_id); first | (refine WD_sum ?_) | (refine WD_nxt htb (by exact rfl) ?_) | (refine WD_idx htb ?_)) | (refine ct ?_) | (with_reducible apply WA_block)))
    exact gE (.inr rfl) rfl rfl trivial
def srT (l : List Cl) (p : Nat) : List Cl := (allC.take p).filter fun x => hasC l x
theorem all_len : allC.length = 128 := by decide +kernel
theorem all_nth {i k : Nat} (hi : i < 8) (hk : k < 16) : nth allC (16 * i + k) = ((i : Int), (k : Int)) := by
  have h : ∀ i ∈ List.range 8, ∀ k ∈ List.range 16, nth allC (16 * i + k) = ((i : Int), (k : Int)) := by decide +kernel
  exact h i (List.mem_range.2 hi) k (List.mem_range.2 hk)
theorem srT_step {l : List Cl} {i k : Nat} (hi : i < 8) (hk : k < 16) : srT l (16 * i + (k + 1)) = if hasC l ((i : Int), (k : Int)) = true then srT l (16 * i + k) ++ [((i : Int), (k : Int))] else srT l (16 * i + k) := by
  have h1 : 16 * i + k < allC.length := by rw [all_len]; omega
  unfold srT
  rw [show 16 * i + (k + 1) = 16 * i + k + 1 by omega, List.take_succ_eq_append_getElem h1, ← nth_getElem allC _ h1, all_nth hi hk, List.filter_append]
  cases h : hasC l ((i : Int), (k : Int)) with
  | true => rw [if_pos rfl]; simp [h]
  | false => rw [if_neg (by simp)]; simp [h]
theorem srT_end (l : List Cl) : srT l 128 = sortC l := by
  unfold srT sortC
  rw [List.take_of_length_le (by rw [all_len]; omega)]
theorem srT_len (l : List Cl) (p : Nat) : (srT l p).length ≤ 128 := by
  unfold srT
  have h1 := List.length_filter_le (fun x => hasC l x) (allC.take p)
  have h2 : (allC.take p).length ≤ 128 := by rw [List.length_take, all_len]; omega
  omega
theorem sor17_m (l : List Cl) (hl : l.length ≤ 10000) : FnM Tryz.prog 36 [] [lC l] (lC (sortC l)) [] := by
  refine FnM.of htb Tryz.func36 rfl rfl rfl rfl rfl fun cx hN h0 => ?_
  (repeat' (first | ((with_reducible apply WD_id); first | (refine WD_sum ?_) | (refine WD_nxt htb (by exact rfl) ?_) | (refine WD_ap htb ?_)) | (refine ct ?_) | (with_reducible apply WA_block)))
  refine WA_le (Le_nilT 60 3 86 2 rfl rfl) ?_
  (refine WA_forV (8) [4, 3] [60] (fun k => [(4, vI k), (3, .own 60)]) (fun k => [(60, .arr 86 2 ((srT l (16 * k)).map rC))]) (fun k => True) ?h0 ?_)
  case h0 => trivial
  intro i hi _
  rcases Nat.lt_or_ge i 8 with hi' | hi'
  · have t1 : decide ((i : Int) < 8) = true := by simp; omega
    (repeat' (first | ((with_reducible apply WD_id); first | (refine WD_sum ?_) | (refine WD_nxt htb (by exact rfl) ?_) | (refine WD_ap htb ?_)) | (refine ct ?_) | (with_reducible apply WA_block)))
    (refine WA_forV (16) [5, 3] [60] (fun k => [(5, vI k), (3, .own 60)]) (fun k => [(60, .arr 86 2 ((srT l (16 * i + k)).map rC))]) (fun k => True) ?h0 ?_)
    case h0 => trivial
    intro k hk _
    have hsl := srT_len l (16 * i + k)
    rcases Nat.lt_or_ge k 16 with hk' | hk'
    · have t2 : decide ((k : Int) ≤ 15) = true := by simp; omega
      have hst := srT_step (l := l) hi' hk'
      cases hx : hasC l ((i : Int), (k : Int)) with
      | true =>
        rw [hx, if_pos rfl] at hst
        (repeat' (first | ((with_reducible apply WD_id); first | (refine WD_sum ?_) | (refine WD_nxt htb (by exact rfl) ?_) | (refine WD_call (by exact rfl) ?_; first | (refine WD_c0 (has17_m (x := ((i : Int), (k : Int))) _ ?_) ?_; (exact hyp))) | (refine WD_ap htb ?_)) | (refine ct ?_) | (with_reducible apply WA_block)))
        refine ⟨hk', trivial, ?_⟩
        rw [hst, List.map_append]
        (exact LeV [(60, 24)])
      | false =>
        rw [hx, if_neg (by simp)] at hst
        (repeat' (first | ((with_reducible apply WD_id); first | (refine WD_sum ?_) | (refine WD_nxt htb (by exact rfl) ?_) | (refine WD_call (by exact rfl) ?_; first | (refine WD_c0 (has17_m (x := ((i : Int), (k : Int))) _ ?_) ?_; (exact hyp))) | (refine WD_ap htb ?_)) | (refine ct ?_) | (with_reducible apply WA_block)))
        refine ⟨hk', trivial, ?_⟩
        rw [hst]
        (exact LeV [])
    · have t2 : decide ((k : Int) ≤ 15) = false := by simp; omega
      obtain rfl : k = 16 := by omega
      (repeat' (first | ((with_reducible apply WD_id); first | (refine WD_sum ?_) | (refine WD_nxt htb (by exact rfl) ?_) | (refine WD_ap htb ?_)) | (refine ct ?_) | (with_reducible apply WA_block)))
      refine ⟨hi', trivial, ?_⟩
      (exact LeV [])
  · have t1 : decide ((i : Int) < 8) = false := by simp; omega
    obtain rfl : i = 8 := by omega
    rw [srT_end]
    (repeat' (first | ((with_reducible apply WD_id); first | (refine WD_sum ?_) | (refine WD_nxt htb (by exact rfl) ?_) | (refine WD_ap htb ?_)) | (refine ct ?_) | (with_reducible apply WA_block)))
    (exact glV [(2, lC (sortC l))] [] (LeV []))
end Go.Proofs.YtdhogcklnehdhaaGreatDoor
namespace Go.Proofs.YtdhogcklnehdhaaGreatDoor
set_option linter.unusedSimpArgs false
set_option linter.unusedVariables false
set_option linter.unnecessarySimpa false
set_option linter.unusedSectionVars false
set_option maxRecDepth 100000
open Go Go.RowKit Go.Am Go.Proofs.Grow
theorem clm_m (s : Sc) (hs : s.ok) : FnM Tryz.prog 95 [(9000, tpB s)] [.ptr 9000 0] (aC (clmD s).1) [(9000, tpB (clmD s).2)] := by
  have hs1 := Sc.ok_x hs 30
  have dA_m := tN_m s 30 hs (by decide) (by decide)
  have dP_m := tP_m (s.x 30) pkA hs1 (by decide) (by decide)
  rw [show ((pkA.length : Nat) : Int) = 4 from rfl] at dP_m
  have dQ_m := tP_m ((s.x 30).x 4) pkB (Sc.ok_x hs1 4) (by decide) (by decide)
  rw [show ((pkB.length : Nat) : Int) = 4 from rfl] at dQ_m
  have dB_m := tN_m (s.x 30) 3 hs1 (by decide) (by decide)
  have dC_m := tN_m ((s.x 30).x 3) 3 (Sc.ok_x hs1 3) (by decide) (by decide)
  unfold clmD
  by_cases h : s.n 30 = 29
  · have t1 : (s.n 30 == 29) = true := by simpa using h
    rw [if_pos h]
    refine FnM.of htb Tryz.func95 rfl rfl rfl rfl rfl fun cx hN h0 => ?_
    (repeat' (first | ((with_reducible apply WD_id); first | (refine WD_nxt htb (by exact rfl) ?_) | (refine WD_call (by exact rfl) ?_; first | (refine WD_cM (dA_m) ?_) | (refine WD_cM (dP_m) ?_) | (refine WD_cM (dQ_m) ?_))) | (refine ct ?_) | (with_reducible apply WA_block)))
    (exact glV [(2, .ptr 2 0)] [(2, .box 86 [vI (nth pkA ((s.x 30).n 4).toNat), vI (nth pkB (((s.x 30).x 4).n 4).toNat)]), (9000, tpB (((s.x 30).x 4).x 4))] (LeV []))
  · have t1 : (s.n 30 == 29) = false := by simpa using h
    rw [if_neg h]
    refine FnM.of htb Tryz.func95 rfl rfl rfl rfl rfl fun cx hN h0 => ?_
    (repeat' (first | ((with_reducible apply WD_id); first | (refine WD_nxt htb (by exact rfl) ?_) | (refine WD_call (by exact rfl) ?_; first | (refine WD_cM (dA_m) ?_) | (refine WD_cM (dB_m) ?_) | (refine WD_cM (dC_m) ?_))) | (refine ct ?_) | (with_reducible apply WA_block)))
    (exact glV [(2, .ptr 2 0)] [(2, .box 86 [vI ((s.x 30).n 3), vI (((s.x 30).x 3).n 3)]), (9000, tpB (((s.x 30).x 3).x 3))] (LeV []))
theorem cls_m (s : Sc) (hs : s.ok) : FnM Tryz.prog 37 [(9000, tpB s)] [.ptr 9000 0, vI 3] (lC (clsD (s.n 4).toNat (s.x 4) []).1) [(9000, tpB (clsD (s.n 4).toNat (s.x 4) []).2)] := by
  have hs1 := Sc.ok_x hs 4
  have hb := s.n_bd (k := 4) (by omega)
  have dA := tN_m s 4 hs (by decide) (by decide)
  obtain ⟨i, hi⟩ : ∃ i : Nat, s.n 4 = (i : Int) := ⟨(s.n 4).toNat, by omega⟩
  rw [hi] at dA ⊢
  rw [Int.toNat_natCast]
  have dA_m := dA
  generalize s.x 4 = s1 at *
  have hi4 : i < 4 := by omega
  refine FnM.of htb Tryz.func37 rfl rfl rfl rfl rfl fun cx hN h0 => ?_
  (repeat' (first | ((with_reducible apply WD_id); first | (refine WD_sum ?_) | (refine WD_nxt htb (by exact rfl) ?_) | (refine WD_call (by exact rfl) ?_; first | (refine WD_cM (dA_m) ?_)) | (refine WD_ap htb ?_)) | (refine ct ?_) | (with_reducible apply WA_block)))
  refine WA_le (Le_nilT 60 5 86 2 rfl rfl) ?_
  (refine WA_anyV (α := Nat × Sc × List Cl) (fun x => x.1) ((i, s1, [])) [6, 5] [60, 9000] (fun x => [(6, vI ((x.1 : Nat) : Int)), (5, .own 60)]) (fun x => [(9000, tpB x.2.1), (60, .arr 86 2 (x.2.2.map rC))]) (fun x => x.1 ≤ 3 ∧ x.2.1.ok ∧ x.2.2.length + x.1 ≤ 10 ∧ clsD i s1 [] = clsD x.1 x.2.1 x.2.2) ?h0 ?_)
  case h0 => exact ⟨by dsimp only; omega, hs1, by dsimp only; simp; omega, rfl⟩
  rintro ⟨j, s2, o⟩ ⟨hj, g1, g2, hI⟩
  dsimp only at hj g1 g2 hI ⊢
  rw [hI]
  cases j with
  | succ j =>
    have t1 : decide (((j + 1 : Nat) : Int) > 0) = true := by simp <;> omega
    have ho : o.length ≤ 10 := by omega
    have g3 := clmD_ok g1
    (repeat' (first | ((with_reducible apply WD_id); first | (refine WD_sum ?_) | (refine WD_nxt htb (by exact rfl) ?_) | (refine WD_call (by exact rfl) ?_; first | (refine WD_cM (clm_m (s := s2) ?_) ?_; (exact hyp))) | (refine WD_ap htb ?_)) | (refine ct ?_) | (with_reducible apply WA_block)))
    refine ⟨(j, (clmD s2).2, o ++ [(clmD s2).1]), by dsimp only; omega, ⟨by dsimp only; omega, g3, by dsimp only; simp; omega, rfl⟩, ?_⟩
    rw [List.map_append, List.map_cons, List.map_nil]
    (exact LeV [(60, 19)])
  | zero =>
    have t1 : decide (((0 : Nat) : Int) > 0) = false := by simp
    (repeat' (first | ((with_reducible apply WD_id); first | (refine WD_sum ?_) | (refine WD_nxt htb (by exact rfl) ?_) | (refine WD_ap htb ?_)) | (refine ct ?_) | (with_reducible apply WA_block)))
    (exact glV [(4, lC o)] [(9000, tpB s2)] (LeV []))
end Go.Proofs.YtdhogcklnehdhaaGreatDoor
namespace Go.Proofs.YtdhogcklnehdhaaGreatDoor
set_option linter.unusedSimpArgs false
set_option linter.unusedVariables false
set_option linter.unnecessarySimpa false
set_option linter.unusedSectionVars false
set_option maxRecDepth 100000
open Go Go.RowKit Go.Am Go.Proofs.Grow
theorem cfO_m (s : Sc) (n : Nat) (hs : s.ok) (h1 : 1 ≤ n) (h5 : n ≤ 5) : FnM Tryz.prog 27 [(9000, tpB s)] [.ptr 9000 0, vI (n : Int)] (.agg [.own 60]) [(9000, tpB (cfF s n).2), (60, .arr 53 4 ((cfF s n).1.map rMb))] := by
  have hb := rgN_bd (s := s) h1
  have rgF_m := tRg_m s n n hs h1 (by omega) rfl
  have hs1 := Sc.ok_x hs n
  unfold cfF
  generalize hm : rgN s n = m at *
  generalize hsa : s.x n = sa at *
  have nnD_m := tN_m sa 3 hs1 (by omega) (by omega)
  have hkb := sa.n_bd (k := 3) (by omega)
  have hs2 := Sc.ok_x hs1 3
  generalize hkind : sa.n 3 = kind at *
  generalize hsb : sa.x 3 = sb at *
  refine FnM.of htb Tryz.func27 rfl rfl rfl rfl rfl fun cx hN h0 => ?_
  (repeat' (first | ((with_reducible apply WD_id); first | (refine WD_sum ?_) | (refine WD_nxt htb (by exact rfl) ?_) | (refine WD_call (by exact rfl) ?_; first | (refine WD_cM (rgF_m) ?_) | (refine WD_cM (nnD_m) ?_)) | (refine WD_ap htb ?_)) | (refine ct ?_) | (with_reducible apply WA_block)))
  refine WA_le (Le_nilM 60 7 0 53 4 rfl rfl rfl rfl) ?_
  (refine WA_forV (m) [8] [7, 60, 9000] (fun k => [(8, vI k)]) (fun k => [(9000, tpB (cfT m kind k sb).2), (7, .box 27 [.own 60]), (60, .arr 53 4 ((cfT m kind k sb).1.map rMb))]) (fun k => True) ?h0 ?_)
  case h0 => trivial
  intro k hk _
  obtain ⟨g1, g2, g3⟩ := cfT_spec (kind := kind) hs2 hb.1 (by omega) k
  rcases Nat.lt_or_ge k m with hk' | hk'
  · have t1 : decide ((k : Int) < (m : Int)) = true := by simp; omega
    have hst : cfT m kind (k + 1) sb = ((cfT m kind k sb).1 ++ [if (tkF (cfT m kind k sb).2 m kind k).2.n 12 = 11 then ⟨false, .mk 0 [] []⟩ else ⟨true, (tkF (cfT m kind k sb).2 m kind k).1⟩], (tkF (cfT m kind k sb).2 m kind k).2.x 12) := rfl
    rw [hst]
    dsimp only
    generalize cfT m kind k sb = q at *
    obtain ⟨c, s1⟩ := q
    dsimp only at g1 g2 g3 ⊢
    obtain ⟨f1, f2⟩ := tkF_fit (k := k) (kind := kind) g3 hb.1 (by omega)
    have hcl : (c.map rMb).length ≤ 10 := by rw [List.length_map]; omega
    have nnE_m := tN_m (tkF s1 m kind k).2 12 f2 (by omega) (by omega)
    have trX := tr_m s1 m g3 hb.1 (by omega)
    have mosX := mos_m s1 m g3 hb.1 (by omega)
    have groX := gro_m s1 m k g3 hb.1 (by omega) (by omega)
    by_cases k0 : kind = 0
    · have t2 : (kind == 0) = true := by simpa using k0
      have e : tkF s1 m kind k = trF s1 m := by unfold tkF; rw [if_pos k0]
      rw [← e] at trX
      have trX_m := trX
      generalize tkF s1 m kind k = q at *
      obtain ⟨t, s2⟩ := q
      dsimp only at *
      by_cases hx : s2.n 12 = 11
      · have t4 : (s2.n 12 == 11) = true := by simpa using hx
        rw [if_pos hx]
        (repeat' (first | ((with_reducible apply WD_id); first | (refine WD_sum ?_) | (refine WD_nxt htb (by exact rfl) ?_) | (refine WD_call (by exact rfl) ?_; first | (refine WD_cM (trX_m) ?_) | (refine WD_cM (nnE_m) ?_)) | (refine WD_ap htb ?_)) | (refine ct ?_) | (with_reducible apply WA_block)))
        refine ⟨hk', trivial, Le.trans (Le_norm 42 rfl rMb_blank) ?_⟩
        rw [List.map_append, List.map_cons, List.map_nil]
        (exact LeV [(60, 42)])
      · have t4 : (s2.n 12 == 11) = false := by simpa using hx
        rw [if_neg hx]
        (repeat' (first | ((with_reducible apply WD_id); first | (refine WD_sum ?_) | (refine WD_nxt htb (by exact rfl) ?_) | (refine WD_call (by exact rfl) ?_; first | (refine WD_cM (trX_m) ?_) | (refine WD_cM (nnE_m) ?_)) | (refine WD_ap htb ?_)) | (refine ct ?_) | (with_reducible apply WA_block)))
        refine ⟨hk', trivial, ?_⟩
        rw [List.map_append, List.map_cons, List.map_nil]
        (exact LeV [(60, 49)])
    · have t2 : (kind == 0) = false := by simpa using k0
      by_cases k1 : kind = 1
      · have t3 : (kind == 1) = true := by simpa using k1
        have e : tkF s1 m kind k = mosF s1 m := by unfold tkF; rw [if_neg k0, if_pos k1]
        rw [← e] at mosX
        have mosX_m := mosX
        generalize tkF s1 m kind k = q at *
        obtain ⟨t, s2⟩ := q
        dsimp only at *
        by_cases hx : s2.n 12 = 11
        · have t4 : (s2.n 12 == 11) = true := by simpa using hx
          rw [if_pos hx]
          (repeat' (first | ((with_reducible apply WD_id); first | (refine WD_sum ?_) | (refine WD_nxt htb (by exact rfl) ?_) | (refine WD_call (by exact rfl) ?_; first | (refine WD_cM (mosX_m) ?_) | (refine WD_cM (nnE_m) ?_)) | (refine WD_ap htb ?_)) | (refine ct ?_) | (with_reducible apply WA_block)))
          refine ⟨hk', trivial, Le.trans (Le_norm 42 rfl rMb_blank) ?_⟩
          rw [List.map_append, List.map_cons, List.map_nil]
          (exact LeV [(60, 42)])
        · have t4 : (s2.n 12 == 11) = false := by simpa using hx
          rw [if_neg hx]
          (repeat' (first | ((with_reducible apply WD_id); first | (refine WD_sum ?_) | (refine WD_nxt htb (by exact rfl) ?_) | (refine WD_call (by exact rfl) ?_; first | (refine WD_cM (mosX_m) ?_) | (refine WD_cM (nnE_m) ?_)) | (refine WD_ap htb ?_)) | (refine ct ?_) | (with_reducible apply WA_block)))
          refine ⟨hk', trivial, ?_⟩
          rw [List.map_append, List.map_cons, List.map_nil]
          (exact LeV [(60, 49)])
      · have t3 : (kind == 1) = false := by simpa using k1
        have e : tkF s1 m kind k = groF s1 m k := by unfold tkF; rw [if_neg k0, if_neg k1]
        rw [← e] at groX
        have groX_m := groX
        generalize tkF s1 m kind k = q at *
        obtain ⟨t, s2⟩ := q
        dsimp only at *
        by_cases hx : s2.n 12 = 11
        · have t4 : (s2.n 12 == 11) = true := by simpa using hx
          rw [if_pos hx]
          (repeat' (first | ((with_reducible apply WD_id); first | (refine WD_sum ?_) | (refine WD_nxt htb (by exact rfl) ?_) | (refine WD_call (by exact rfl) ?_; first | (refine WD_cM (groX_m) ?_) | (refine WD_cM (nnE_m) ?_)) | (refine WD_ap htb ?_)) | (refine ct ?_) | (with_reducible apply WA_block)))
          refine ⟨hk', trivial, Le.trans (Le_norm 42 rfl rMb_blank) ?_⟩
          rw [List.map_append, List.map_cons, List.map_nil]
          (exact LeV [(60, 42)])
        · have t4 : (s2.n 12 == 11) = false := by simpa using hx
          rw [if_neg hx]
          (repeat' (first | ((with_reducible apply WD_id); first | (refine WD_sum ?_) | (refine WD_nxt htb (by exact rfl) ?_) | (refine WD_call (by exact rfl) ?_; first | (refine WD_cM (groX_m) ?_) | (refine WD_cM (nnE_m) ?_)) | (refine WD_ap htb ?_)) | (refine ct ?_) | (with_reducible apply WA_block)))
          refine ⟨hk', trivial, ?_⟩
          rw [List.map_append, List.map_cons, List.map_nil]
          (exact LeV [(60, 49)])
  · have t1 : decide ((k : Int) < (m : Int)) = false := by simp; omega
    obtain rfl : k = m := by omega
    (repeat' (first | ((with_reducible apply WD_id); first | (refine WD_sum ?_) | (refine WD_nxt htb (by exact rfl) ?_) | (refine WD_ap htb ?_)) | (refine ct ?_) | (with_reducible apply WA_block)))
    (exact glV [(4, .ptr 4 0)] [(4, .box 27 [.own 60]), (9000, tpB (cfT k kind k sb).2), (60, .arr 53 4 ((cfT k kind k sb).1.map rMb))] (LeV []))
theorem useQ_g : ∀ (d : Nat) (t : Tr) (hd : hT t ≤ d) (hs : sizT t ≤ 1000), FnM Tryz.prog 82 [] [aTr t] (vI (useT t)) [] := by
  intro d
  induction d with
  | zero => intro t hd; cases t; simp [hT] at hd
  | succ d ih =>
    intro t hd hs
    have hl := siz_len t
    have useQ_m : ∀ (x : Tr) (hx : hT x ≤ d ∧ sizT x ≤ 1000), FnM Tryz.prog 82 [] [aTr x] (vI (useT x)) [] := fun x hx => ih x hx.1 hx.2
    show FnM _ _ _ [.agg [vI t.k, lI t.ns, .d (.rows 3 (t.is.map rTr))]] _ _
    rw [rTr_p, useT_eq]
    refine FnM.of htb Tryz.func82 rfl rfl rfl rfl rfl fun cx hN h0 => ?_
    (repeat' (first | ((with_reducible apply WD_id); first | (refine WD_sum ?_) | (refine WD_nxt htb (by exact rfl) ?_) | (refine WD_idx htb ?_) | (refine WD_t (by exact rfl) (by exact rfl) (by exact known) fun hb => ?_; rw [hb]; clear hb) | (refine WD_f (by exact rfl) (by exact rfl) (by exact known) fun hb => ?_; rw [hb]; clear hb)) | (refine ct ?_) | (with_reducible apply WA_block)))
    (refine WA_forV (t.ns.length) [11, 3] [] (fun k => [(11, vI k), (3, vI (useI (t.ns.take k) 0))]) (fun k => []) (fun k => True) ?h0 ?_)
    case h0 => trivial
    intro k hk _
    rcases Nat.lt_or_ge k t.ns.length with hk' | hk'
    · have t1 : decide ((k : Int) < (t.ns.length : Int)) = true := by simp; omega
      have hw := useI_take (a := 0) hk'
      cases hx : nodeB (nth t.ns k) with
      | true =>
        have hx2 : 0 ≤ nth t.ns k ∧ nth t.ns k < 10 := by simpa [nodeB] using hx
        have hx3 := hx2.1
        have q1 : decide (nth t.ns k ≥ 0) = true := by simpa using hx2.1
        have q2 : decide (nth t.ns k < 10) = true := by simpa using hx2.2
        (repeat' (first | ((with_reducible apply WD_id); first | (refine WD_sum ?_) | (refine WD_nxt htb (by exact rfl) ?_) | (refine WD_eq (shl_step rfl rfl rfl) ?_) | (refine WD_eq (bor_step rfl rfl rfl) ?_) | (refine WD_idx htb ?_) | (refine WD_t (by exact rfl) (by exact rfl) (by exact known) fun hb => ?_; rw [hb]; clear hb) | (refine WD_f (by exact rfl) (by exact rfl) (by exact known) fun hb => ?_; rw [hb]; clear hb)) | (refine ct ?_) | (with_reducible apply WA_block)))
        refine ⟨hk', trivial, ?_⟩
        rw [hw, if_pos hx]
        (exact LeV [])
      | false =>
        by_cases q : nth t.ns k ≥ 0
        · have q1 : decide (nth t.ns k ≥ 0) = true := by simpa using q
          have q2 : decide (nth t.ns k < 10) = false := by
            simp only [nodeB, Bool.and_eq_false_iff, decide_eq_false_iff_not] at hx
            simp only [decide_eq_false_iff_not]; omega
          (repeat' (first | ((with_reducible apply WD_id); first | (refine WD_sum ?_) | (refine WD_nxt htb (by exact rfl) ?_) | (refine WD_idx htb ?_) | (refine WD_t (by exact rfl) (by exact rfl) (by exact known) fun hb => ?_; rw [hb]; clear hb) | (refine WD_f (by exact rfl) (by exact rfl) (by exact known) fun hb => ?_; rw [hb]; clear hb)) | (refine ct ?_) | (with_reducible apply WA_block)))
          refine ⟨hk', trivial, ?_⟩
          rw [hw, if_neg (by simp [hx])]
          (exact LeV [])
        · have q1 : decide (nth t.ns k ≥ 0) = false := by simpa using q
          (repeat' (first | ((with_reducible apply WD_id); first | (refine WD_sum ?_) | (refine WD_nxt htb (by exact rfl) ?_) | (refine WD_idx htb ?_) | (refine WD_t (by exact rfl) (by exact rfl) (by exact known) fun hb => ?_; rw [hb]; clear hb) | (refine WD_f (by exact rfl) (by exact rfl) (by exact known) fun hb => ?_; rw [hb]; clear hb)) | (refine ct ?_) | (with_reducible apply WA_block)))
          refine ⟨hk', trivial, ?_⟩
          rw [hw, if_neg (by simp [hx])]
          (exact LeV [])
    · have t1 : decide ((k : Int) < (t.ns.length : Int)) = false := by simp; omega
      have e1 : t.ns.take k = t.ns := take_all hk'
      rw [e1]
      (repeat' (first | ((with_reducible apply WD_id); first | (refine WD_sum ?_) | (refine WD_nxt htb (by exact rfl) ?_) | (refine WD_idx htb ?_) | (refine WD_t (by exact rfl) (by exact rfl) (by exact known) fun hb => ?_; rw [hb]; clear hb) | (refine WD_f (by exact rfl) (by exact rfl) (by exact known) fun hb => ?_; rw [hb]; clear hb)) | (refine ct ?_) | (with_reducible apply WA_block)))
      (refine WA_forV (t.is.length) [29, 3] [] (fun k => [(29, vI k), (3, vI (useL (t.is.take k) (useI t.ns 0)))]) (fun k => []) (fun k => True) ?h0 ?_)
      case h0 => trivial
      intro k2 hk2 _
      rcases Nat.lt_or_ge k2 t.is.length with hk2' | hk2'
      · have t2 : decide ((k2 : Int) < (t.is.length : Int)) = true := by simp; omega
        have hw := useL_take (a := useI t.ns 0) hk2'
        have hm := nth_mem t.is k2 hk2'
        have hx : hT (nth t.is k2) ≤ d ∧ sizT (nth t.is k2) ≤ 1000 := by have := hT_mem hm; have := siz_mem hm; omega
        (repeat' (first | ((with_reducible apply WD_id); first | (refine WD_sum ?_) | (refine WD_nxt htb (by exact rfl) ?_) | (refine WD_call (by exact rfl) ?_; first | (refine WD_c0 (useQ_m _ ?_) ?_; (exact hyp))) | (refine WD_eq (bor_step rfl rfl rfl) ?_) | (refine WD_idx htb ?_) | (refine WD_t (by exact rfl) (by exact rfl) (by exact known) fun hb => ?_; rw [hb]; clear hb) | (refine WD_f (by exact rfl) (by exact rfl) (by exact known) fun hb => ?_; rw [hb]; clear hb)) | (refine ct ?_) | (with_reducible apply WA_block)))
        refine ⟨hk2', trivial, ?_⟩
        rw [hw]
        (exact LeV [])
      · have t2 : decide ((k2 : Int) < (t.is.length : Int)) = false := by simp; omega
        have e2 : t.is.take k2 = t.is := take_all hk2'
        rw [e2]
        (repeat' (first | ((with_reducible apply WD_id); first | (refine WD_sum ?_) | (refine WD_nxt htb (by exact rfl) ?_) | (refine WD_idx htb ?_) | (refine WD_t (by exact rfl) (by exact rfl) (by exact known) fun hb => ?_; rw [hb]; clear hb) | (refine WD_f (by exact rfl) (by exact rfl) (by exact known) fun hb => ?_; rw [hb]; clear hb)) | (refine ct ?_) | (with_reducible apply WA_block)))
        exact gE (.inr rfl) rfl rfl trivial
theorem useQ_t (t : Tr) (hs : sizT t ≤ 1000) : FnM Tryz.prog 82 [] [aTr t] (vI (useT t)) [] := useQ_g _ t (Nat.le_refl _) hs
theorem vr6_m (c : List Mb) (hc : FullC c) : FnM Tryz.prog 28 [] [aCf c] (vI 0) [] := by
  have hl := hc.len
  have hl2 : c.length ≤ 61 := by omega
  have t0 : decide (((c.length : Nat) : Int) > 10) = false := by simp only [decide_eq_false_iff_not]; omega
  have t9 : ((0 : Int) != 0) = false := rfl
  have t8 : (!true) = false := rfl
  refine FnM.of htb Tryz.func28 rfl rfl rfl rfl rfl fun cx hN h0 => ?_
  (repeat' (first | ((with_reducible apply WD_id); first | (refine WD_sum ?_) | (refine WD_nxt htb (by exact rfl) ?_) | (refine WD_idx htb ?_)) | (refine ct ?_) | (with_reducible apply WA_block)))
  (refine WA_forV (c.length) [13] [] (fun k => [(13, vI k)]) (fun k => []) (fun k => True) ?h0 ?_)
  case h0 => trivial
  intro k hk _
  rcases Nat.lt_or_ge k c.length with hk' | hk'
  · have t1 : decide ((k : Int) < (c.length : Int)) = true := by simp; omega
    have hd := hc.decl k hk'
    have hf := hc.fit k hk'
    have hs := hf.siz
    have t3 : (!(nth c k).decl) = false := by rw [hd]; rfl
    have useZ_m := useQ_t (nth c k).t (by omega)
    have chkS := chkR_m (nth c k).t (by omega)
    rw [hf.chk] at chkS
    have chkS_m := chkS
    have t2 : decide (useT (nth c k).t ≥ ((2 ^ c.length : Nat) : Int)) = false := by have := hf.use; simp only [decide_eq_false_iff_not]; omega
    (repeat' (first | ((with_reducible apply WD_id); first | (refine WD_sum ?_) | (refine WD_nxt htb (by exact rfl) ?_) | (refine WD_call (by exact rfl) ?_; first | (refine WD_c0 (chkS_m) ?_) | (refine WD_c0 (useZ_m) ?_)) | (refine WD_eq (shlN_step rfl rfl rfl) ?_) | (refine WD_idx htb ?_)) | (refine ct ?_) | (with_reducible apply WA_block)))
    refine ⟨hk', trivial, ?_⟩
    (exact LeV [])
  · have t1 : decide ((k : Int) < (c.length : Int)) = false := by simp; omega
    (repeat' (first | ((with_reducible apply WD_id); first | (refine WD_sum ?_) | (refine WD_nxt htb (by exact rfl) ?_) | (refine WD_idx htb ?_)) | (refine ct ?_) | (with_reducible apply WA_block)))
    exact gE (.inr rfl) rfl rfl trivial
theorem dn_set {r r' : List D} (h : DNs r r') : ∀ (rs : List (List D)) (i : Nat), DNs (rs.set i r).flatten (rs.set i r').flatten
  | [], _ => DNs.refl _
  | x :: rs, 0 => DNs.append h (DNs.refl _)
  | x :: rs, i + 1 => DNs.append (DNs.refl x) (dn_set h rs i)
theorem mbS_dn (k n : Nat) : DNs [.v (.bool true), .v (.int .i64 1), .rows 1 (([k, (k + 1) % n] : List Nat).map rN), .v (.slice none 0 0)] (rMb (mbS k n)) :=
  DNs.cons (.refl _) (DNs.cons (.refl _) (DNs.cons (.refl _) (DNs.cons (.nil 3) DNs.nil)))
set_option maxHeartbeats 2000000 in
theorem full_m (s : Sc) (n : Nat) (hs : s.ok) (h1 : 2 ≤ n) (h5 : n ≤ 5) : FnM Tryz.prog 6 [(9000, tpB s)] [.ptr 9000 0, vI (n : Int)] (aCf (fulC (cfF s n).1)) [(9000, tpB (cfF s n).2)] := by
  obtain ⟨c1, c2, c3, c4⟩ := cfF_spec hs (by omega : 1 ≤ n) h5
  have cfX := cfO_m s n hs (by omega) h5
  generalize cfF s n = q at *
  obtain ⟨c, s1⟩ := q
  dsimp only at c1 c2 c3 c4 cfX ⊢
  have f1 : FullC (fulT (ful0 c) (ful0 c).length) := (full_spec c1 c2 h1 h5 c3).1
  show FnM _ _ _ _ (aCf (fulT (ful0 c) (ful0 c).length)) _
  obtain ⟨d1, d2, d3⟩ := ful0_spec c1 c2 h1 c3
  have d4 := fulT_spec d1 (by omega) d3
  obtain ⟨x0, L, e0, e1, e2, e3⟩ : ∃ (x0 : Nat) (L : Nat → List Mb), L x0 = c ∧ L 0 = ful0 c ∧ x0 ≤ 1 ∧ (x0 = 1 → (L 1).length < 2 ∧ L 0 = L 1 ++ [mb0]) := by
    by_cases e : c.length < 2
    · exact ⟨1, fun x => if x = 0 then ful0 c else c, by simp, by simp, by omega, fun _ => ⟨by simpa using e, by simp [ful0, e]⟩⟩
    · exact ⟨0, fun _ => c, rfl, by simp [ful0, e], by omega, fun h => by omega⟩
  rw [← e0] at cfX
  have cfX_m := cfX
  refine FnM.of htb Tryz.func6 rfl rfl rfl rfl rfl fun cx hN h0 => ?_
  (repeat' (first | ((with_reducible apply WD_id); first | (refine WD_sum ?_) | (refine WD_nxt htb (by exact rfl) ?_) | (refine WD_call (by exact rfl) ?_; first | (refine WD_cM (cfX_m) ?_)) | (refine WD_idxo htb ?_) | (refine WD_lde1 htb ?_) | (refine WD_ste htb ?_) | (refine WD_ap htb ?_) | (refine WD_rem ?_)) | (refine ct ?_) | (with_reducible apply WA_block)))
  (refine WA_anyV (α := Nat) (fun x => x) (x0) [9, 10, 11, 12, 13] [5, 60, 9000] (fun x => []) (fun x => [(9000, tpB s1), (5, .box 27 [.own 60]), (60, .arr 53 4 ((L x).map rMb))]) (fun x => x ≤ 1 ∧ (x = 1 → (L 1).length < 2 ∧ L 0 = L 1 ++ [mb0])) ?h0 ?_)
  case h0 => exact ⟨e2, e3⟩
  rintro x ⟨hx, hx2⟩
  obtain rfl | rfl : x = 1 ∨ x = 0 := by omega
  · obtain ⟨g1, g2⟩ := hx2 rfl
    have t1 : decide ((((L 1).length : Nat) : Int) < 2) = true := by simp only [decide_eq_true_eq]; omega
    (repeat' (first | ((with_reducible apply WD_id); first | (refine WD_sum ?_) | (refine WD_nxt htb (by exact rfl) ?_) | (refine WD_idxo htb ?_) | (refine WD_lde1 htb ?_) | (refine WD_ste htb ?_) | (refine WD_ap htb ?_) | (refine WD_rem ?_)) | (refine ct ?_) | (with_reducible apply WA_block)))
    refine ⟨0, by omega, ⟨by omega, fun h => by omega⟩, Le.trans (Le_norm 18 rfl rMb_blank) ?_⟩
    rw [g2, List.map_append, List.map_cons, List.map_nil]
    (exact LeV [(60, 18)])
  rw [e1]
  generalize ful0 c = d at *
  have t1 : decide (((d.length : Nat) : Int) < 2) = false := by simp only [decide_eq_false_iff_not]; omega
  (repeat' (first | ((with_reducible apply WD_id); first | (refine WD_sum ?_) | (refine WD_nxt htb (by exact rfl) ?_) | (refine WD_idxo htb ?_) | (refine WD_lde1 htb ?_) | (refine WD_ste htb ?_) | (refine WD_ap htb ?_) | (refine WD_rem ?_)) | (refine ct ?_) | (with_reducible apply WA_block)))
  (refine WA_forV (d.length) [23] [5, 60, 9000] (fun k => [(23, vI k)]) (fun k => [(9000, tpB s1), (5, .box 27 [.own 60]), (60, .arr 53 4 ((fulT d k).map rMb))]) (fun k => True) ?h0 ?_)
  case h0 => trivial
  intro k hk _
  obtain ⟨g1, g2, _⟩ := d4 k hk
  rcases Nat.lt_or_ge k d.length with hk' | hk'
  · have t2 : decide ((k : Int) < (d.length : Int)) = true := by simp; omega
    have hkl : k < (fulT d k).length := by omega
    have hst : fulT d (k + 1) = if (nth (fulT d k) k).decl = true then fulT d k else (fulT d k).set k (mbS k d.length) := rfl
    cases hd : (nth (fulT d k) k).decl with
    | true =>
      rw [hd, if_pos rfl] at hst
      have t3 : (!(nth (fulT d k) k).decl) = false := by rw [hd]; rfl
      (repeat' (first | ((with_reducible apply WD_id); first | (refine WD_sum ?_) | (refine WD_nxt htb (by exact rfl) ?_) | (refine WD_idxo htb ?_) | (refine WD_lde1 htb ?_) | (refine WD_ste htb ?_) | (refine WD_ap htb ?_) | (refine WD_rem ?_)) | (refine ct ?_) | (with_reducible apply WA_block)))
      rw [hst]
      refine ⟨hk', trivial, ?_⟩
      (exact LeV [])
    | false =>
      rw [hd, if_neg (by simp)] at hst
      have t3 : (!(nth (fulT d k) k).decl) = true := by rw [hd]; rfl
      (repeat' (first | ((with_reducible apply WD_id); first | (refine WD_sum ?_) | (refine WD_nxt htb (by exact rfl) ?_) | (refine WD_idxo htb ?_) | (refine WD_lde1 htb ?_) | (refine WD_ste htb ?_) | (refine WD_ap htb ?_) | (refine WD_rem ?_)) | (refine ct ?_) | (with_reducible apply WA_block)))
      have em : ((k : Int) + 1).tmod ((fulT d k).length : Int) = (((k + 1) % d.length : Nat) : Int) := by rw [g1]; rfl
      rw [em, hst]
      refine ⟨hk', trivial, Le.trans (Le_normR 60 (rs' := ((fulT d k).set k (mbS k d.length)).map rMb) rfl (by simp) (fun r hr => by obtain ⟨x, _, rfl⟩ := List.mem_map.1 hr; rfl) (by rw [← set_rMb]; exact dn_set (mbS_dn k d.length) _ _)) ?_⟩
      (exact LeV [])
  · have t2 : decide ((k : Int) < (d.length : Int)) = false := by simp; omega
    obtain rfl : k = d.length := by omega
    have t5 : ((0 : Int) != 0) = false := rfl
    (repeat' (first | ((with_reducible apply WD_id); first | (refine WD_sum ?_) | (refine WD_nxt htb (by exact rfl) ?_) | (refine WD_call (by exact rfl) ?_; first | (refine WD_c0 (vr6_m (c := fulT d d.length) ?_) ?_; (exact hyp))) | (refine WD_idxo htb ?_) | (refine WD_lde1 htb ?_) | (refine WD_ste htb ?_) | (refine WD_ap htb ?_) | (refine WD_rem ?_)) | (refine ct ?_) | (with_reducible apply WA_block)))
    (exact glV [(4, .ptr 4 0)] [(4, .box 27 (cellsOf (aCf (fulT d d.length)))), (9000, tpB s1)] (LeV []))
end Go.Proofs.YtdhogcklnehdhaaGreatDoor
namespace Go.Proofs.YtdhogcklnehdhaaGreatDoor
set_option linter.unusedSimpArgs false
set_option linter.unusedVariables false
set_option linter.unnecessarySimpa false
set_option linter.unusedSectionVars false
set_option maxRecDepth 100000
open Go Go.RowKit Go.Am Go.Proofs.Grow
structure Kq (K : Prop) : Prop where
  x : K
/-- A goal that is shown once, and used on several ways. -/
theorem shareW {K G : Prop} (pf : K) (use : Kq K → G) : G := use ⟨pf⟩
abbrev dN0 : D := .v (.slice none 0 0)
theorem pl_blank (kd a b c1 c2 : Int) : DNs [dI kd, dI a, dI b, dI c1, dI c2, dI 0, dN0, dN0, dI 0, dI 0, dI 0, dN0, dN0, dN0, dN0] (rPl ⟨kd, a, b, (c1, c2), .mk 0 [] [], ms0⟩) :=
  DNs.cons (.refl _) (DNs.cons (.refl _) (DNs.cons (.refl _) (DNs.cons (.refl _) (DNs.cons (.refl _) (DNs.cons (.refl _) (DNs.cons (.nil 1) (DNs.cons (.nil 3) (DNs.cons (.refl _) (DNs.cons (.refl _) (DNs.cons (.refl _) (DNs.cons (.nil 1) (DNs.cons (.nil 3) (DNs.cons (.nil 2) (DNs.cons (.nil 2) DNs.nil))))))))))))))
theorem lie_blank (f b q c1 c2 : Int) (A : List Cl) : DNs [dI 5, dI f, dI b, dI 0, dI 0, dI 0, dN0, dN0, dI f, dI q, dI 1, .rows 1 [[dI f]], dN0, .rows 2 [[dI c1, dI c2]], .rows 2 (A.map rC)] (rPl ⟨5, f, b, (0, 0), .mk 0 [] [], ⟨f, q, .mk 1 [f] [], [(c1, c2)], A⟩⟩) :=
  DNs.cons (.refl _) (DNs.cons (.refl _) (DNs.cons (.refl _) (DNs.cons (.refl _) (DNs.cons (.refl _) (DNs.cons (.refl _) (DNs.cons (.nil 1) (DNs.cons (.nil 3) (DNs.cons (.refl _) (DNs.cons (.refl _) (DNs.cons (.refl _) (DNs.cons (.refl _) (DNs.cons (.nil 3) (DNs.cons (.refl _) (DNs.cons (.refl _) DNs.nil))))))))))))))
theorem liaF_succ (ill m : Nat) : ∀ (k f : Nat), liaF ill m (k + 1) f = if ill.testBit (liaF ill m k f) = true then liaF ill m k f else (liaF ill m k f + 1) % m
  | 0, f => rfl
  | k + 1, f => by
    rw [liaF, liaF_succ ill m k]
    rfl
theorem shr_bit (s k : Nat) : (((s / 2 ^ k &&& 1 : Nat) : Int) == 0) = !s.testBit k := by
  rw [Nat.testBit, Nat.shiftRight_eq_div_pow, Nat.and_comm 1]
  have := Nat.and_one_is_mod (s / 2 ^ k)
  rcases Nat.mod_two_eq_zero_or_one (s / 2 ^ k) with h | h <;> simp [this, h]
theorem pk_cases {j : Nat} (h : j < 13) : nth pk13 j = 1 ∨ nth pk13 j = 2 ∨ nth pk13 j = 3 ∨ nth pk13 j = 4 ∨ nth pk13 j = 5 := by
  have : ∀ j ∈ List.range 13, nth pk13 j = 1 ∨ nth pk13 j = 2 ∨ nth pk13 j = 3 ∨ nth pk13 j = 4 ∨ nth pk13 j = 5 := by decide
  exact this j (List.mem_range.2 h)
set_option maxHeartbeats 4000000 in
theorem plays_m (s : Sc) (c : List Mb) (ill n : Nat) (hs : s.ok) (hb : (1 ≤ c.length ∧ c.length ≤ 5) ∧ n ≤ 100 ∧ ill < 1024) : FnM Tryz.prog 9 [(9000, tpB s)] [.ptr 9000 0, aCf c, vI (ill : Int), vI (n : Int), vB false] (lPl (plsF c.length ill n s).1) [(9000, tpB (plsF c.length ill n s).2)] := by
  obtain ⟨⟨h1, h5⟩, hn, hill⟩ := hb
  have hsp := fun k hk => plsF_spec (ill := ill) hs h1 (by omega : c.length ≤ 10) k hk
  refine FnM.of htb Tryz.func9 rfl rfl rfl rfl rfl fun cx hN h0 => ?_
  (repeat' (first | ((with_reducible apply WD_id); first | (refine WD_sum ?_) | (refine WD_nxt htb (by exact rfl) ?_) | (refine WD_ap htb ?_) | (refine WD_rem ?_)) | (refine ct ?_) | (with_reducible apply WA_block)))
  generalize c.length = m at *
  refine WA_le (Le_nilT 60 11 88 15 rfl rfl) ?_
  refine WA_le (s' := ⟨[(13, vI 0), (11, .own 60), (12, vI (m : Int)), (4, vB false), (3, vI (n : Int)), (2, vI (ill : Int)), (0, .ptr 9000 0)], [(9000, tpB s), (60, .arr 88 15 [])]⟩) (LeV []) ?_
  (refine WA_forV (n) [13, 11] [60, 9000] (fun k => [(13, vI k), (11, .own 60)]) (fun k => [(9000, tpB (plsF m ill k s).2), (60, .arr 88 15 ((plsF m ill k s).1.map rPl))]) (fun k => True) ?h0 ?_)
  case h0 => trivial
  intro k hk _
  obtain ⟨g1, _, g3⟩ := hsp k (by omega)
  rcases Nat.lt_or_ge k n with hk' | hk'
  · have d1 : decide ((k : Int) < (n : Int)) = true := by simp; omega
    have hst : plsF m ill (k + 1) s = ((plsF m ill k s).1 ++ [(plyF (plsF m ill k s).2 m ill k).1], (plyF (plsF m ill k s).2 m ill k).2) := rfl
    rw [hst]
    clear hst hsp
    generalize plsF m ill k s = p at *
    obtain ⟨l, s0⟩ := p
    dsimp only at g1 g3 ⊢
    have hll : l.length ≤ 100 := by omega
    have ba := s0.n_bd (k := m) (by omega)
    have bb := (s0.x m).n_bd (k := m) (by omega)
    have eA := tN_m s0 m g3 (by omega) (by omega)
    have eB := tN_m (s0.x m) m (Sc.ok_x g3 m) (by omega) (by omega)
    have hs2 : ((s0.x m).x m).ok := Sc.ok_x (Sc.ok_x g3 _) _
    obtain ⟨a, ha⟩ : ∃ a : Nat, s0.n m = (a : Int) := ⟨(s0.n m).toNat, by omega⟩
    obtain ⟨b0, hb0⟩ : ∃ b0 : Nat, (s0.x m).n m = (b0 : Int) := ⟨((s0.x m).n m).toNat, by omega⟩
    unfold plyF
    dsimp only
    rw [ha] at eA ba ⊢
    rw [hb0] at eB bb ⊢
    rw [Int.toNat_natCast, Int.toNat_natCast]
    generalize (s0.x m).x m = s2 at *
    have eA_m := eA
    have eB_m := eB
    have eP := tP_m s2 pk13 hs2 (by decide) (by decide)
    rw [show ((pk13.length : Nat) : Int) = 13 from rfl] at eP
    have bp := s2.n_bd (k := 13) (by omega)
    have hkc := pk_cases (j := (s2.n 13).toNat) (by omega)
    have eP_m := eP
    generalize nth pk13 (s2.n 13).toNat = kd at *
    have hs3 := Sc.ok_x hs2 13
    generalize s2.x 13 = s3 at *
    have hbm := othF_lt (a := a) h1 (by omega : b0 < m)
    have hob : othF a b0 m = if a = b0 then (b0 + 1) % m else b0 := rfl
    generalize othF a b0 m = b at *
    have em : ∀ z : Nat, ((z : Int) + 1).tmod (m : Int) = (((z + 1) % m : Nat) : Int) := fun z => rfl
    apply shareW
    case use =>
      intro key
      (repeat' (first | ((with_reducible apply WD_id); first | (refine WD_sum ?_) | (refine WD_nxt htb (by exact rfl) ?_) | (refine WD_call (by exact rfl) ?_; first | (refine WD_cM (eA_m) ?_) | (refine WD_cM (eB_m) ?_)) | (refine WD_ap htb ?_) | (refine WD_rem ?_)) | (refine ct ?_) | (with_reducible apply WA_block)))
      by_cases hab : a = b0
      · have t1 : ((a : Int) == (b0 : Int)) = true := by rw [hab]; simp
        (repeat' (first | (with_reducible apply WA_seq) | ((with_reducible apply gCt); exact rfl; exact rfl) | ((with_reducible apply gCf); exact rfl; exact rfl) | ((with_reducible apply gCk); exact rfl; exact known; intro hb; rw [hb]; clear hb) | ((with_reducible apply gCn); exact rfl; exact known; intro hb; rw [hb]; clear hb) | (with_reducible apply WA_block) | ((with_reducible first | apply WA_skip | apply WA_ret | apply WA_exit | apply WA_label); try simp only [thn, inB, List.length_map, List.cons_append, List.nil_append])))
        ((with_reducible apply gR hmix hN); exact (by kernel_rfl); (try dsimp only [List.append_eq, List.cons_append, List.nil_append]))
        (repeat' (first | ((with_reducible apply WD_id); first | (refine WD_sum ?_) | (refine WD_nxt htb (by exact rfl) ?_) | (refine WD_ap htb ?_) | (refine WD_rem ?_)) | ((with_reducible apply WD_end); (first | exact no_draw | (intro _; kernel_rfl)); try simp only [thn, inB, List.length_map, List.cons_append, List.nil_append])))
        (repeat' (first | (with_reducible apply WA_seq) | ((with_reducible apply gCt); exact rfl; exact rfl) | ((with_reducible apply gCf); exact rfl; exact rfl) | ((with_reducible apply gCk); exact rfl; exact known; intro hb; rw [hb]; clear hb) | ((with_reducible apply gCn); exact rfl; exact known; intro hb; rw [hb]; clear hb) | (with_reducible apply WA_block) | ((with_reducible first | apply WA_skip | apply WA_ret | apply WA_exit | apply WA_label); try simp only [thn, inB, List.length_map, List.cons_append, List.nil_append])))
        rw [em, show (b0 + 1) % m = b by rw [hob, if_pos hab]]
        refine WA_le (s' := ⟨[(14, .ptr 14 0), (13, vI k), (11, .own 60), (12, vI (m : Int)), (4, vB false), (3, vI (n : Int)), (2, vI (ill : Int)), (0, .ptr 9000 0)], [(14, .box 88 [vI 0, vI (a : Int), vI (b : Int), vI 0, vI 0, vI 0, .d dN0, .d dN0, vI 0, vI 0, vI 0, .d dN0, .d dN0, .d dN0, .d dN0]), (9000, tpB s2), (60, .arr 88 15 (l.map rPl))]⟩) (LeV []) ?_
        exact key.x
      · have t1 : ((a : Int) == (b0 : Int)) = false := by rw [beq_eq_false_iff_ne]; omega
        (repeat' (first | (with_reducible apply WA_seq) | ((with_reducible apply gCt); exact rfl; exact rfl) | ((with_reducible apply gCf); exact rfl; exact rfl) | ((with_reducible apply gCk); exact rfl; exact known; intro hb; rw [hb]; clear hb) | ((with_reducible apply gCn); exact rfl; exact known; intro hb; rw [hb]; clear hb) | (with_reducible apply WA_block) | ((with_reducible first | apply WA_skip | apply WA_ret | apply WA_exit | apply WA_label); try simp only [thn, inB, List.length_map, List.cons_append, List.nil_append])))
        rw [show b0 = b by rw [hob, if_neg hab]]
        refine WA_le (s' := ⟨[(14, .ptr 14 0), (13, vI k), (11, .own 60), (12, vI (m : Int)), (4, vB false), (3, vI (n : Int)), (2, vI (ill : Int)), (0, .ptr 9000 0)], [(14, .box 88 [vI 0, vI (a : Int), vI (b : Int), vI 0, vI 0, vI 0, .d dN0, .d dN0, vI 0, vI 0, vI 0, .d dN0, .d dN0, .d dN0, .d dN0]), (9000, tpB s2), (60, .arr 88 15 (l.map rPl))]⟩) (LeV []) ?_
        exact key.x
    clear eA eB eA_m eB_m hob hb0 ha bb
    rcases hkc with rfl | rfl | rfl | rfl | rfl
    · have t1 : ((1 : Int) == 1) = true := rfl
      have eC_m := tN_m s3 2 hs3 (by omega) (by omega)
      have eD_m := tN_m (s3.x 2) 2 (Sc.ok_x hs3 _) (by omega) (by omega)
      rw [if_pos rfl]
      dsimp only
      (repeat' (first | ((with_reducible apply WD_id); first | (refine WD_sum ?_) | (refine WD_nxt htb (by exact rfl) ?_) | (refine WD_call (by exact rfl) ?_; first | (refine WD_cM (eP_m) ?_) | (refine WD_cM (eC_m) ?_) | (refine WD_cM (eD_m) ?_)) | (refine WD_ap htb ?_) | (refine WD_rem ?_)) | (refine ct ?_) | (with_reducible apply WA_block)))
      refine ⟨hk', trivial, Le.trans (Le_norm 135 rfl (pl_blank _ _ _ _ _)) ?_⟩
      rw [List.map_append, List.map_cons, List.map_nil]
      (exact LeV [(60, 135)])
    · have t1 : ((2 : Int) == 1) = false := rfl
      have t2 : ((2 : Int) == 2) = true := rfl
      rw [if_neg (by decide), if_pos rfl]
      dsimp only
      (repeat' (first | ((with_reducible apply WD_id); first | (refine WD_sum ?_) | (refine WD_nxt htb (by exact rfl) ?_) | (refine WD_call (by exact rfl) ?_; first | (refine WD_cM (eP_m) ?_)) | (refine WD_ap htb ?_) | (refine WD_rem ?_)) | (refine ct ?_) | (with_reducible apply WA_block)))
      refine ⟨hk', trivial, Le.trans (Le_norm 135 rfl (pl_blank _ _ _ _ _)) ?_⟩
      rw [List.map_append, List.map_cons, List.map_nil]
      (exact LeV [(60, 135)])
    · have t1 : ((3 : Int) == 1) = false := rfl
      have t2 : ((3 : Int) == 2) = false := rfl
      have t3 : ((3 : Int) == 3) = true := rfl
      have t4 : (!false) = true := rfl
      rw [if_neg (by decide), if_neg (by decide), if_pos rfl]
      dsimp only
      (repeat' (first | ((with_reducible apply WD_id); first | (refine WD_sum ?_) | (refine WD_nxt htb (by exact rfl) ?_) | (refine WD_call (by exact rfl) ?_; first | (refine WD_cM (eP_m) ?_)) | (refine WD_ap htb ?_) | (refine WD_rem ?_)) | (refine ct ?_) | (with_reducible apply WA_block)))
      refine ⟨hk', trivial, Le.trans (Le_norm 135 rfl (pl_blank _ _ _ _ _)) ?_⟩
      rw [List.map_append, List.map_cons, List.map_nil]
      (exact LeV [(60, 135)])
    · have t1 : ((4 : Int) == 1) = false := rfl
      have t2 : ((4 : Int) == 2) = false := rfl
      have t3 : ((4 : Int) == 3) = false := rfl
      have t4 : ((4 : Int) == 4) = true := rfl
      have eC_m := tN_m s3 4 hs3 (by omega) (by omega)
      rw [if_neg (by decide), if_neg (by decide), if_neg (by decide), if_pos rfl]
      dsimp only
      by_cases hz : s3.n 4 = 0
      · have t5 : (s3.n 4 == 0) = true := by simpa using hz
        rw [if_pos hz]
        (repeat' (first | ((with_reducible apply WD_id); first | (refine WD_sum ?_) | (refine WD_nxt htb (by exact rfl) ?_) | (refine WD_call (by exact rfl) ?_; first | (refine WD_cM (eP_m) ?_) | (refine WD_cM (eC_m) ?_)) | (refine WD_ap htb ?_) | (refine WD_rem ?_)) | (refine ct ?_) | (with_reducible apply WA_block)))
        refine ⟨hk', trivial, Le.trans (Le_norm 135 rfl (pl_blank _ _ _ _ _)) ?_⟩
        rw [List.map_append, List.map_cons, List.map_nil]
        (exact LeV [(60, 135)])
      · have t5 : (s3.n 4 == 0) = false := by simpa using hz
        rw [if_neg hz]
        (repeat' (first | ((with_reducible apply WD_id); first | (refine WD_sum ?_) | (refine WD_nxt htb (by exact rfl) ?_) | (refine WD_call (by exact rfl) ?_; first | (refine WD_cM (eP_m) ?_) | (refine WD_cM (eC_m) ?_)) | (refine WD_ap htb ?_) | (refine WD_rem ?_)) | (refine ct ?_) | (with_reducible apply WA_block)))
        refine ⟨hk', trivial, Le.trans (Le_norm 135 rfl (pl_blank _ _ _ _ _)) ?_⟩
        rw [List.map_append, List.map_cons, List.map_nil]
        (exact LeV [(60, 135)])
    · have t1 : ((5 : Int) == 1) = false := rfl
      have t2 : ((5 : Int) == 2) = false := rfl
      have t3 : ((5 : Int) == 3) = false := rfl
      have t4 : ((5 : Int) == 4) = false := rfl
      rw [if_neg (by decide), if_neg (by decide), if_neg (by decide), if_neg (by decide)]
      (repeat' (first | ((with_reducible apply WD_id); first | (refine WD_sum ?_) | (refine WD_nxt htb (by exact rfl) ?_) | (refine WD_call (by exact rfl) ?_; first | (refine WD_cM (eP_m) ?_)) | (refine WD_ap htb ?_) | (refine WD_rem ?_)) | (refine ct ?_) | (with_reducible apply WA_block)))
      (refine WA_forV (m) [15] [14, 9000] (fun k => [(15, vI k)]) (fun k => [(9000, tpB s3), (14, .box 88 [vI 5, vI (liaF ill m k a : Int), vI (b : Int), vI 0, vI 0, vI 0, .d dN0, .d dN0, vI 0, vI 0, vI 0, .d dN0, .d dN0, .d dN0, .d dN0])]) (fun k => True) ?h0 ?_)
      case h0 => trivial
      intro j hj _
      have hfm := liaF_lt (ill := ill) h1 j a (by omega)
      rcases Nat.lt_or_ge j m with hj' | hj'
      · have t5 : decide ((j : Int) < (m : Int)) = true := by simp; omega
        have hls := liaF_succ ill m j a
        have hsb := shr_bit ill (liaF ill m j a)
        have hf61 : liaF ill m j a ≤ 61 := by omega
        have hq : ill / 2 ^ liaF ill m j a < 4611686018427387904 := Nat.lt_of_le_of_lt (Nat.div_le_self _ _) (by omega)
        rw [hls]
        generalize liaF ill m j a = f at *
        cases hbt : ill.testBit f with
        | true =>
          rw [hbt] at hsb
          rw [if_pos rfl]
          have hsb2 : (((ill / 2 ^ f &&& 1 : Nat) : Int) == 0) = false := hsb
          (repeat' (first | ((with_reducible apply WD_id); first | (refine WD_sum ?_) | (refine WD_nxt htb (by exact rfl) ?_) | (refine WD_eq (shrN_step rfl rfl rfl) ?_) | (refine WD_eq (band1_step rfl rfl rfl) ?_) | (refine WD_ap htb ?_) | (refine WD_rem ?_)) | (refine ct ?_) | (with_reducible apply WA_block)))
          refine ⟨hj', trivial, ?_⟩
          (exact LeV [])
        | false =>
          rw [hbt] at hsb
          rw [if_neg (by simp)]
          have hsb2 : (((ill / 2 ^ f &&& 1 : Nat) : Int) == 0) = true := hsb
          (repeat' (first | ((with_reducible apply WD_id); first | (refine WD_sum ?_) | (refine WD_nxt htb (by exact rfl) ?_) | (refine WD_eq (shrN_step rfl rfl rfl) ?_) | (refine WD_eq (band1_step rfl rfl rfl) ?_) | (refine WD_ap htb ?_) | (refine WD_rem ?_)) | (refine ct ?_) | (with_reducible apply WA_block)))
          rw [em]
          refine ⟨hj', trivial, ?_⟩
          (exact LeV [])
      · have t5 : decide ((j : Int) < (m : Int)) = false := by simp; omega
        obtain rfl : j = m := by omega
        generalize liaF ill j j a = f at *
        unfold liePF
        dsimp only
        have eC_m := tN_m s3 2 hs3 (by omega) (by omega)
        have eD_m := tN_m (s3.x 2) 2 (Sc.ok_x hs3 _) (by omega) (by omega)
        have hs5 : ((s3.x 2).x 2).ok := Sc.ok_x (Sc.ok_x hs3 _) _
        generalize (s3.x 2).n 2 = y at *
        generalize (s3.x 2).x 2 = s5 at *
        have eE_m := tN_m s5 3 hs5 (by omega) (by omega)
        have hs6 := Sc.ok_x hs5 3
        have hcl := (clsD_spec ((s5.x 3).n 4).toNat ((s5.x 3).x 4) [] (Sc.ok_x hs6 4)).2
        have hcb := (s5.x 3).n_bd (k := 4) (by omega)
        have hcl2 : (clsD ((s5.x 3).n 4).toNat ((s5.x 3).x 4) []).1.length ≤ 10000 := by rw [hcl]; simp; omega
        by_cases hz : s5.n 3 = 0
        · have t6 : (s5.n 3 == 0) = true := by simpa using hz
          rw [if_pos hz, if_pos hz]
          by_cases hfb : f = b
          · have t7 : ((f : Int) == (b : Int)) = true := by rw [hfb]; simp
            rw [show othF f b j = (b + 1) % j by unfold othF; rw [if_pos hfb]]
            (repeat' (first | ((with_reducible apply WD_id); first | (refine WD_sum ?_) | (refine WD_nxt htb (by exact rfl) ?_) | (refine WD_call (by exact rfl) ?_; first | (refine WD_cM (eC_m) ?_) | (refine WD_cM (eD_m) ?_) | (refine WD_cM (eE_m) ?_) | (refine WD_cM (cls_m (s := s5.x 3) ?_) ?_; (exact hyp)) | (refine WD_c0 (sor17_m _ ?_) ?_; (exact hyp))) | (refine WD_ap htb ?_) | (refine WD_rem ?_)) | (refine ct ?_) | (with_reducible apply WA_block)))
            rw [em]
            refine ⟨hk', trivial, Le.trans (Le_norm 135 rfl (lie_blank _ _ _ _ _ _)) ?_⟩
            rw [List.map_append, List.map_cons, List.map_nil]
            (exact LeV [(60, 135)])
          · have t7 : ((f : Int) == (b : Int)) = false := by rw [beq_eq_false_iff_ne]; omega
            rw [show othF f b j = b by unfold othF; rw [if_neg hfb]]
            (repeat' (first | ((with_reducible apply WD_id); first | (refine WD_sum ?_) | (refine WD_nxt htb (by exact rfl) ?_) | (refine WD_call (by exact rfl) ?_; first | (refine WD_cM (eC_m) ?_) | (refine WD_cM (eD_m) ?_) | (refine WD_cM (eE_m) ?_) | (refine WD_cM (cls_m (s := s5.x 3) ?_) ?_; (exact hyp)) | (refine WD_c0 (sor17_m _ ?_) ?_; (exact hyp))) | (refine WD_ap htb ?_) | (refine WD_rem ?_)) | (refine ct ?_) | (with_reducible apply WA_block)))
            refine ⟨hk', trivial, Le.trans (Le_norm 135 rfl (lie_blank _ _ _ _ _ _)) ?_⟩
            rw [List.map_append, List.map_cons, List.map_nil]
            (exact LeV [(60, 135)])
        · have t6 : (s5.n 3 == 0) = false := by simpa using hz
          rw [if_neg hz, if_neg hz]
          by_cases hfb : f = b
          · have t7 : ((f : Int) == (b : Int)) = true := by rw [hfb]; simp
            rw [show othF f b j = (b + 1) % j by unfold othF; rw [if_pos hfb]]
            (repeat' (first | ((with_reducible apply WD_id); first | (refine WD_sum ?_) | (refine WD_nxt htb (by exact rfl) ?_) | (refine WD_call (by exact rfl) ?_; first | (refine WD_cM (eC_m) ?_) | (refine WD_cM (eD_m) ?_) | (refine WD_cM (eE_m) ?_)) | (refine WD_ap htb ?_) | (refine WD_rem ?_)) | (refine ct ?_) | (with_reducible apply WA_block)))
            rw [em]
            refine ⟨hk', trivial, Le.trans (Le_norm 135 rfl (lie_blank _ _ _ _ _ [(s3.n 2, y)])) ?_⟩
            rw [List.map_append, List.map_cons, List.map_nil]
            (exact LeV [(60, 135)])
          · have t7 : ((f : Int) == (b : Int)) = false := by rw [beq_eq_false_iff_ne]; omega
            rw [show othF f b j = b by unfold othF; rw [if_neg hfb]]
            (repeat' (first | ((with_reducible apply WD_id); first | (refine WD_sum ?_) | (refine WD_nxt htb (by exact rfl) ?_) | (refine WD_call (by exact rfl) ?_; first | (refine WD_cM (eC_m) ?_) | (refine WD_cM (eD_m) ?_) | (refine WD_cM (eE_m) ?_)) | (refine WD_ap htb ?_) | (refine WD_rem ?_)) | (refine ct ?_) | (with_reducible apply WA_block)))
            refine ⟨hk', trivial, Le.trans (Le_norm 135 rfl (lie_blank _ _ _ _ _ [(s3.n 2, y)])) ?_⟩
            rw [List.map_append, List.map_cons, List.map_nil]
            (exact LeV [(60, 135)])
  · have d1 : decide ((k : Int) < (n : Int)) = false := by simp; omega
    obtain rfl : k = n := by omega
    (repeat' (first | ((with_reducible apply WD_id); first | (refine WD_sum ?_) | (refine WD_nxt htb (by exact rfl) ?_) | (refine WD_ap htb ?_) | (refine WD_rem ?_)) | (refine ct ?_) | (with_reducible apply WA_block)))
    (exact glV [(10, lPl (plsF m ill k s).1)] [(9000, tpB (plsF m ill k s).2)] (LeV []))
end Go.Proofs.YtdhogcklnehdhaaGreatDoor
namespace Go.Proofs.YtdhogcklnehdhaaGreatDoor
set_option linter.unusedSimpArgs false
set_option linter.unusedVariables false
set_option linter.unnecessarySimpa false
set_option linter.unusedSectionVars false
set_option maxRecDepth 100000
open Go Go.RowKit Go.Am Go.Proofs.Grow
theorem clm_I {c : List Mb} (hc : FullC c) {il st : Nat} : ∀ (f : Nat) (m : Mt), 100000 - sumV m.vs < f → MtI c il st m → MtI c il st (clmF f m) ∧ (rndF (clmF f m)).2 = false
  | 0, m, h, _ => by omega
  | f + 1, m, h, hI => by
    have hr := rnd_I hc hI
    obtain ⟨r1, r2, r3⟩ := rnd_ok hI.ok
    rw [clmF]
    cases e : (rndF m).2 with
    | true =>
      rw [if_pos rfl]
      have := r2 e
      have := mt_sum r1
      exact clm_I hc f _ (by omega) hr
    | false =>
      rw [if_neg (by simp), (r3 e).1]
      exact ⟨hI, e⟩
end Go.Proofs.YtdhogcklnehdhaaGreatDoor
namespace Go.Proofs.YtdhogcklnehdhaaGreatDoor
set_option linter.unusedSimpArgs false
set_option linter.unusedVariables false
set_option linter.unnecessarySimpa false
set_option linter.unusedSectionVars false
set_option maxRecDepth 100000
open Go Go.RowKit Go.Am Go.Proofs.Grow
theorem fnd_two {c : List Mb} (hl : c.length ≤ 10) : ∀ (m s : Nat), muN s ≤ m → s < 2 ^ c.length → ((fndN c s).1 = 0 ∧ (fndN c s).2 = 0) ∨ ((fndN c s).1 ≠ 0 ∧ quoN c (fndN c s).1 = true ∧ (fndN c s).1 < 2 ^ c.length ∧ (fndN c s).2 = (greatN c (andn (memN c) (fndN c s).1)).1 ∧ (fndN c s).2 ≠ 0)
  | m, s, hm, hs => by
    rw [fndN_eq c hl hs]
    by_cases h : quoN c s = true ∧ (greatN c (andn (memN c) s)).1 ≠ 0
    · rw [if_pos h]
      refine .inr ⟨fun e => ?_, h.1, hs, rfl, h.2⟩
      have e : s = 0 := e
      have := h.1
      rw [e] at this
      simp [quoN] at this
    · rw [if_neg h]
      cases hn : nextF s c.length with
      | none => exact .inl ⟨rfl, rfl⟩
      | some t =>
        obtain ⟨h1, h2⟩ := next_some hl hs hn
        cases m with
        | zero => omega
        | succ m => exact fnd_two hl m t (by omega) h1
theorem ctd_none {m : Mt} {w : List Nat} : ∀ {l : List Nat}, (∀ a ∈ l, ∀ b ∈ w, aprB (nth m.vs a) (nth m.vs b) = false) → ctdI m w l = none
  | [], _ => rfl
  | a :: r, h => by
    have h1 : ctdJ m w a = none := by
      unfold ctdJ
      rw [List.find?_eq_none]
      intro b hb
      rw [h a (by simp) b hb]; simp
    rw [ctdI, h1]
    exact ctd_none fun x hx => h x (by simp [hx])
theorem ctd_some {m : Mt} {w : List Nat} : ∀ {l : List Nat} {a b : Nat}, a ∈ l → b ∈ w → aprB (nth m.vs a) (nth m.vs b) = true → ∃ p, ctdI m w l = some p ∧ p.1 ∈ l ∧ p.2 ∈ w
  | [], a, b, ha, _, _ => by simp at ha
  | x :: r, a, b, ha, hb, h => by
    rw [ctdI]
    cases e : ctdJ m w x with
    | some y => exact ⟨(x, y), rfl, by simp, List.mem_of_find?_eq_some e⟩
    | none =>
      rcases List.mem_cons.1 ha with rfl | ha
      · unfold ctdJ at e
        have := List.find?_eq_none.1 e b hb
        rw [h] at this; simp at this
      · obtain ⟨p, p1, p2, p3⟩ := ctd_some ha hb h
        exact ⟨p, p1, by simp [p2], p3⟩
theorem well_bit {c : List Mb} {il st : Nat} {m : Mt} (h : MtI c il st m) {b : Nat} : b ∈ wellN m ↔ b < c.length ∧ il.testBit b = false := by
  have hl := h.ok.len
  have hi := h.ok.il
  have hlt := (well_lt h.ok).1
  unfold wellN
  rw [mem_nodes hlt, hl, show 2 ^ c.length - 1 - m.il = 2 ^ c.length - (m.il + 1) by omega, Nat.testBit_two_pow_sub_succ hi, h.il]
  simp
theorem safe_none {c : List Mb} (hc : FullC c) {il st : Nat} (hil : il < 2 ^ c.length) (hm : MeetC (delC c il)) {m : Mt} (h : MtI c il st m) : ctdI m (wellN m) (wellN m) = none := by
  have h5 := hc.len
  have h2 := two_le (n := c.length) (by omega)
  have hin : InvH c il m.vs := by have := h.inv; rwa [h.il] at this
  refine ctd_none fun a ha b hb => ?_
  obtain ⟨a1, a2⟩ := (well_bit h).1 ha
  obtain ⟨b1, b2⟩ := (well_bit h).1 hb
  unfold aprB
  rw [List.any_eq_false]
  intro x hx
  unfold aprX
  rw [Bool.not_eq_true, List.any_eq_false]
  intro y hy
  rw [safe_con hc (by omega) hm hin a1 b1 a2 b2 hx hy]; simp
theorem quo_or {d : List Mb} {a b : Nat} (ha : a < 1024) (hb : b < 1024) (h0 : a ≠ 0) (qa : ClQ d a) (qb : ClQ d b) : quoN d (a ||| b) = true := by
  have ho := or_lt10 ha hb
  refine cl_quo ho (fun e => ?_) fun k hk => ?_
  · obtain ⟨k, hk⟩ := bit_ne h0
    have := congrArg (·.testBit k) e
    simp only [Nat.testBit_or, hk, Nat.zero_testBit] at this
    simp at this
  · rw [Nat.testBit_or, Bool.or_eq_true] at hk
    rcases hk with hk | hk
    · obtain ⟨h1, h2⟩ := qa k hk
      exact ⟨h1, satT_mono ha ho (fun i hi => by rw [Nat.testBit_or, hi]; rfl) _ h2⟩
    · obtain ⟨h1, h2⟩ := qb k hk
      exact ⟨h1, satT_mono hb ho (fun i hi => by rw [Nat.testBit_or, hi, Bool.or_true]) _ h2⟩
/-- What the two quorums bring. -/
structure SpC (c : List Mb) (il a b : Nat) : Prop where
  qa : quoN (delC c il) a = true
  qb : quoN (delC c il) b = true
  qo : quoN (delC c il) (a ||| b) = true
  ab : a &&& b = 0
  a10 : a < 1024
  b10 : b < 1024
  ca : Cvn c.length a il (0, 0)
  cb : Cvn c.length b il (0, 1)
  ts : Ts c.length il (cnvF a il (0, 0) (⟨begV c c.length, 0, il⟩, [])) 400
  len : (splF c il a b).2.length ≤ 400
  pl : ∀ p ∈ (splF c il a b).2, PlOK c.length p
  run : runM (splF c il a b).2 ⟨begV c c.length, 0, il⟩ = (splF c il a b).1
  I : MtI c il 0 (splF c il a b).1
  bad : ∃ p, ctdI (splF c il a b).1 (wellN (splF c il a b).1) (wellN (splF c il a b).1) = some p ∧ (p.1 < c.length ∧ il.testBit p.1 = false) ∧ (p.2 < c.length ∧ il.testBit p.2 = false)
theorem spc_of {c : List Mb} (hc : FullC c) {il a b : Nat} (hil : il < 2 ^ c.length) (h0 : a ≠ 0) (hq : quoN (delC c il) a = true) (ha : a < 2 ^ c.length) (hb : b = (greatN (delC c il) (andn (memN (delC c il)) a)).1) (hb0 : b ≠ 0) : SpC c il a b := by
  have h5 := hc.len
  have h2 := two_le (n := c.length) (by omega)
  have hi10 : il < 1024 := by omega
  have ha10 : a < 1024 := by omega
  have hdl : (delC c il).length = c.length := delTo_len c il c.length
  have hm := mem_lt (c := delC c il) (by omega)
  have han : andn (memN (delC c il)) a < 1024 := andn_lt10 hm
  have hb10 : b < 1024 := by rw [hb]; exact great_lt _ han
  have cqa : ClQ (delC c il) a := quo_cl ha10 hq
  have cqb : ClQ (delC c il) b := by rw [hb]; exact great_cl han
  have hab : ∀ k, a.testBit k = true → b.testBit k = false := fun k hk => by
    cases e : b.testBit k
    · rfl
    · rw [hb] at e
      have := great_sub e
      rw [andn_bit, hk] at this
      simp at this
  have da := (del_cl hc hi10 ha10).1 cqa
  have db := (del_cl hc hi10 hb10).1 cqb
  have hbn : b < 2 ^ c.length := by
    rcases Nat.lt_or_ge b (2 ^ c.length) with e | e
    · exact e
    · obtain ⟨i, i1, i2⟩ := Nat.exists_ge_and_testBit_of_ge_two_pow e
      have := (db i i2).1; omega
  obtain ⟨s1, s2, s3⟩ := split_law hc hil ha10 hb10 cqa cqb hab
  have Ca : CvC c il a (0, 0) := ⟨hc, hil, ha, fun k hk => (da k hk).2.1, by decide⟩
  have Cb : CvC c il b (0, 1) := ⟨hc, hil, hbn, fun k hk => (db k hk).2.1, by decide⟩
  have hbeg := beg_I hc hil
  have sc0 : Scr ⟨begV c c.length, 0, il⟩ c.length (⟨begV c c.length, 0, il⟩, []) 0 := ⟨rfl, fun p hp => by simp at hp, by simp, rfl⟩
  have sc1 := cnv_scr Ca sc0
  have sc2 := cnv_scr Cb sc1
  have il1 : ∀ k ∈ nodesN il, k < c.length := fun k hk => testBit_lt' hil ((mem_nodes hi10).1 hk)
  refine ⟨hq, cl_quo hb10 hb0 cqb, quo_or ha10 hb10 h0 cqa cqb, ?_, ha10, hb10, ⟨by omega, ha10, hi10, fun k hk => testBit_lt' ha ((mem_nodes ha10).1 hk), il1, by decide⟩,
    ⟨by omega, hb10, hi10, fun k hk => testBit_lt' hbn ((mem_nodes hb10).1 hk), il1, by decide⟩, ⟨?_, sc1.il, Nat.le_trans sc1.len (by omega)⟩, Nat.le_trans sc2.len (by omega), sc2.ok, sc2.run, s1, ?_⟩
  · apply Nat.eq_of_testBit_eq
    intro k
    rw [Nat.testBit_and, Nat.zero_testBit]
    cases e : a.testBit k
    · rfl
    · rw [hab k e]; rfl
  · have := (runM_ok hc _ _ sc1.ok hbeg.ok hbeg.inv).1
    rwa [sc1.run] at this
  · obtain ⟨x, hx⟩ := bit_ne h0
    obtain ⟨y, hy⟩ := bit_ne hb0
    have wx : x ∈ wellN (splF c il a b).1 := (well_bit s1).2 ⟨(da x hx).1, (da x hx).2.1⟩
    have wy : y ∈ wellN (splF c il a b).1 := (well_bit s1).2 ⟨(db y hy).1, (db y hy).2.1⟩
    obtain ⟨p, p1, p2, p3⟩ := ctd_some wx wy (m := (splF c il a b).1) (by
      unfold aprB
      rw [List.any_eq_true]
      refine ⟨(0, 0), s2 x hx, ?_⟩
      unfold aprX
      rw [List.any_eq_true]
      exact ⟨(0, 1), s3 y hy, by decide⟩)
    exact ⟨p, p1, (well_bit s1).1 p2, (well_bit s1).1 p3⟩
end Go.Proofs.YtdhogcklnehdhaaGreatDoor
namespace Go.Proofs.YtdhogcklnehdhaaGreatDoor
set_option linter.unusedSimpArgs false
set_option linter.unusedVariables false
set_option linter.unnecessarySimpa false
set_option linter.unusedSectionVars false
set_option maxRecDepth 100000
open Go Go.RowKit Go.Am Go.Proofs.Grow
section
variable {o : Oper} {t t' : TypeId} {x y : Operand} {T : Nat → Option AV} {M : Nat → Option AO}
theorem eqBw_step {a b : Bool} (ho : o.op = .binOp .eql 4 x y t') (hx : evA T x = some (vB a)) (hy : evA T y = some (vB b)) : StepOK Tryz.prog o T M ⟨vB (a == b), [], []⟩ :=
  step_read [] fun cx μ T' M' ac w h hT _ => by
    have h1 := (h.ev (x := x) hT (by simp [ho, Op.operands]) hx).val
    have h2 := (h.ev (x := y) hT (by simp [ho, Op.operands]) hy).val
    refine ⟨.bool (a == b), ?_, .d (.v _)⟩
    simp only [execOp, ho, h1, h2]
    cases a <;> cases b <;> simp [eqGuard, go_sem]
end
set_option maxHeartbeats 4000000 in
theorem cert_m (t : List Int) (awk_m : FnM Tryz.prog 11 [] [] (vB true) []) : FnM Tryz.prog 4 [] [lI t] (vB true) [] := by
  have hs0 : Sc.ok ⟨t.take 400, 0⟩ := ⟨Nat.zero_le _, by rw [List.length_take]; omega⟩
  obtain ⟨c1, c2, c3, c4⟩ := cfF_spec (n := 5) hs0 (by decide) (by decide)
  have fulY_m := full_m ⟨t.take 400, 0⟩ 5 hs0 (by decide) (by decide)
  obtain ⟨hc, f2, f3, f4⟩ := full_spec c1 c2 (by decide) (by decide) c3
  generalize hfc : fulC (cfF ⟨t.take 400, 0⟩ 5).1 = c at *
  generalize (cfF ⟨t.take 400, 0⟩ 5).2 = s1 at *
  have hcc := (hc.okS (s := 0) (Nat.zero_le _)).cc
  obtain ⟨i1, i2⟩ := seF_spec (c := c) c4 hc.pos
  have setY_m := se_m s1 c c4 hcc hc.pos hc.len
  generalize seF s1 c = q at *
  obtain ⟨il, s2⟩ := q
  dsimp only at i1 i2 setY_m
  have hS := hc.okS i1
  have hp0 : 0 < 2 ^ c.length := Nat.pow_pos (by decide)
  have hmm : memN c = 2 ^ c.length - 1 := rfl
  have hil : il < 2 ^ c.length := by omega
  have hil10 := hS.lt
  have hv := del_valid hc il
  have delY_m := delC_m c il hS.cc hS.lt hS.kb
  have hdk := delC_ok hcc il
  have hdl : (delC c il).length = c.length := delTo_len c il c.length
  have h2n := fnd_two (c := delC c il) (by omega) _ 0 (Nat.le_refl _) (Nat.pow_pos (by decide))
  have hz : (fndN (delC c il) 0).1 = 0 → (fndN (delC c il) 0).2 = 0 := fun e => by
    rcases h2n with h | h
    · exact h.2
    · exact absurd e h.1
  have hho : (holdF (delC c il)).1 = ((fndN (delC c il) 0).1 == 0) := by unfold holdF; rw [hv]; rfl
  have disY0 := disj_m (delC c il) hdk hv hz
  have splY0 := Spl_m c il hS
  have parY := pairD_m c il hS hv hz
  have t0 : ((0 : Int) != 0) = false := rfl
  have t00 : ((0 : Int) == 0) = true := rfl
  have t11 : ((11 : Int) == 0) = false := rfl
  have t1 : (true == false) = false := rfl
  have t2 : (false == true) = false := rfl
  have t3 : (true != true) = false := rfl
  have t4 : (false != false) = false := rfl
  have t5 : (!true) = false := rfl
  have t6 : (!false) = true := rfl
  rcases h2n with ⟨e1, e2⟩ | ⟨e1, e3, e4, e5, e6⟩
  · have hH : (holdF (delC c il)).1 = true := by rw [hho, e1]; rfl
    have hMeet := hold_meet (by omega) hH
    have prvY_m := proveY_m (delC c il) hdk (by omega) hH hv
    have chkX_m := check_m (delC c il) hdk (by omega) hH hv
    have hd11 : disF (delC c il) = 11 := by unfold disF; rw [if_pos e1]
    rw [hd11, e1, e2] at disY0
    have disY_m := disY0
    have hsp : splN c il = false := by unfold splN; rw [hH]; rfl
    rw [hsp] at splY0
    have splY_m := splY0
    have scr := splitN_m c il hc hil (fndN (delC c il) 0) (disF (delC c il)) (by rw [hd11]; decide) parY
    rw [hd11] at scr
    have scrY_m := scr
    have plyY_m := plays_m s2 c il 30 i2 ⟨⟨hc.pos, hc.len⟩, by decide, hil10⟩
    obtain ⟨p1, p2, p3⟩ := plsF_spec (m := c.length) (ill := il) i2 hc.pos (by omega) 30 (by decide)
    have runY_m := run_m c il (plsF c.length il 30 s2).1 hc hil ⟨by omega, p2⟩
    have hbI := beg_I hc hil
    have hrI := runM_ok hc (plsF c.length il 30 s2).1 ⟨begV c c.length, 0, il⟩ p2 hbI.ok hbI.inv
    generalize runD (plsF c.length il 30 s2).1 ⟨begV c c.length, 0, il⟩ (plsF c.length il 30 s2).1.length = cds at *
    generalize runM (plsF c.length il 30 s2).1 ⟨begV c c.length, 0, il⟩ = m0 at *
    generalize plsF c.length il 30 s2 = q at *
    obtain ⟨pl, s3⟩ := q
    dsimp only at p1 p2 p3 plyY_m runY_m
    obtain ⟨r1, r2, r3⟩ := hrI
    have hI0 : MtI c il m0.st m0 := ⟨r1, r2, r3, rfl⟩
    have clmY_m := calm_m m0 c.length r1
    obtain ⟨hI, hrd⟩ := clm_I hc 100001 m0 (by omega) hI0
    generalize clmF 100001 m0 = m at *
    have ctr := contr_m m c.length hI.ok
    rw [safe_none hc hil hMeet hI] at ctr
    have ctrY_m : FnM Tryz.prog 23 [] [aMt m] (.tup [vI 0, vI 0, vB false]) [] := ctr
    have hl := hI.ok.len
    have u2 : ((m.vs.length : Int) == (c.length : Int)) = true := by rw [hl]; simp
    generalize delC c il = d at *
    generalize proF d 6 0 0 = tr at *
    clear scr splY0 disY0 parY hI0 hrd
    refine FnM.of htb Tryz.func4 rfl rfl rfl rfl rfl fun cx hN h0 => ?_
    (repeat' (first | ((with_reducible apply WD_id); first | (refine WD_nxt htb (by exact rfl) ?_) | (refine WD_call (by exact rfl) ?_; first | (refine WD_cM (tNew_m _) ?_) | (refine WD_cM (fulY_m) ?_) | (refine WD_cM (setY_m) ?_) | (refine WD_c0 (delY_m) ?_) | (refine WD_c0 (prvY_m) ?_) | (refine WD_c0 (disY_m) ?_) | (refine WD_c0 (splY_m) ?_) | (refine WD_c0 (scrY_m) ?_) | (refine WD_cM (plyY_m) ?_) | (refine WD_c0 (runY_m) ?_) | (refine WD_c0 (clmY_m) ?_) | (refine WD_c0 (ctrY_m) ?_) | (refine WD_c0 (chkX_m) ?_) | (refine WD_c0 (awk_m) ?_)) | (refine WD_eq (eqBw_step rfl rfl rfl) ?_) | (refine WD_eq (neBw_step rfl rfl rfl) ?_) | (refine WD_t (by exact rfl) (by exact rfl) (by exact known) fun hb => ?_; rw [hb]; clear hb)) | (refine ct ?_) | (with_reducible apply WA_block)))
    exact gE (.inr rfl) rfl rfl trivial
  · have hH : (holdF (delC c il)).1 = false := by rw [hho]; simpa using e1
    have prvY_m := proveN_m (delC c il) hdk hH hv
    have hd0 : disF (delC c il) = 0 := by unfold disF; rw [if_neg e1]
    rw [hdl] at e4
    have sp := spc_of hc hil e1 e3 e4 e5 e6
    have hsp : splN c il = true := by unfold splN; rw [hH]; rfl
    rw [hsp] at splY0
    have splY_m := splY0
    generalize (fndN (delC c il) 0).1 = a at *
    generalize (fndN (delC c il) 0).2 = b at *
    have scrY_m := splitY_m c il a b hc hil sp.ca sp.cb _ hd0 parY sp.ts
    rw [hd0] at disY0
    have disY_m := disY0
    have run := run_m c il (splF c il a b).2 hc hil ⟨sp.len, sp.pl⟩
    rw [sp.run] at run
    have runY_m := run
    have hI := sp.I
    obtain ⟨p, b1, ⟨b2, b3⟩, b4, b5⟩ := sp.bad
    have ctr := contr_m (splF c il a b).1 c.length hI.ok
    rw [b1] at ctr
    have ctrY_m : FnM Tryz.prog 23 [] [aMt (splF c il a b).1] (.tup [vI (p.1 : Int), vI (p.2 : Int), vB true]) [] := ctr
    have hk := hasR_m il (p.1 : Int) hil10
    rw [has_nat hil10 (by have := hc.len; omega), b3] at hk
    have hskY_m := hk
    have ho := hasR_m il (p.2 : Int) hil10
    rw [has_nat hil10 (by have := hc.len; omega), b5] at ho
    have hsoY_m := ho
    have qa := quo_m (delC c il) a hdk sp.a10
    rw [sp.qa] at qa
    have quaY_m := qa
    have qb := quo_m (delC c il) b hdk sp.b10
    rw [sp.qb] at qb
    have qubY_m := qb
    have qo := quo_m (delC c il) (a ||| b) hdk (or_lt10 sp.a10 sp.b10)
    rw [sp.qo] at qo
    have quoY_m := qo
    have hab := sp.ab
    have ha10 := sp.a10
    have hb10 := sp.b10
    have t7 : (((a &&& b : Nat) : Int) == 0) = true := by rw [hab]; rfl
    clear sp qa qb qo ho hk ctr run parY disY0 splY0 hz hho
    generalize splF c il a b = z at *
    generalize delC c il = d at *
    generalize runD z.2 ⟨begV c c.length, 0, il⟩ z.2.length = cds at *
    refine FnM.of htb Tryz.func4 rfl rfl rfl rfl rfl fun cx hN h0 => ?_
    (repeat' (first | ((with_reducible apply WD_id); first | (refine WD_nxt htb (by exact rfl) ?_) | (refine WD_call (by exact rfl) ?_; first | (refine WD_cM (tNew_m _) ?_) | (refine WD_cM (fulY_m) ?_) | (refine WD_cM (setY_m) ?_) | (refine WD_c0 (delY_m) ?_) | (refine WD_c0 (prvY_m) ?_) | (refine WD_c0 (disY_m) ?_) | (refine WD_c0 (splY_m) ?_) | (refine WD_c0 (scrY_m) ?_) | (refine WD_c0 (runY_m) ?_) | (refine WD_c0 (ctrY_m) ?_) | (refine WD_c0 (hskY_m) ?_) | (refine WD_c0 (hsoY_m) ?_) | (refine WD_c0 (quaY_m) ?_) | (refine WD_c0 (qubY_m) ?_) | (refine WD_c0 (quoY_m) ?_) | (refine WD_c0 (awk_m) ?_)) | (refine WD_eq (eqBw_step rfl rfl rfl) ?_) | (refine WD_eq (neBw_step rfl rfl rfl) ?_) | (refine WD_eq (bandN_step rfl rfl rfl) ?_) | (refine WD_eq (borN_step rfl rfl rfl) ?_) | (refine WD_t (by exact rfl) (by exact rfl) (by exact known) fun hb => ?_; rw [hb]; clear hb)) | (refine ct ?_) | (with_reducible apply WA_block)))
    exact gE (.inr rfl) rfl rfl trivial
end Go.Proofs.YtdhogcklnehdhaaGreatDoor
namespace Go.Proofs.YtdhogcklnehdhaaGreatDoor
set_option linter.unusedSimpArgs false
set_option linter.unusedVariables false
set_option linter.unnecessarySimpa false
set_option linter.unusedSectionVars false
set_option maxRecDepth 100000
open Go Go.RowKit Go.Am Go.Proofs.Grow
def xsrc : AV := .d (.v (.string ⟨#[48, 58, 32, 50, 32, 111, 102, 32, 40, 48, 44, 32, 49, 44, 32, 50, 41, 10, 49, 58, 32, 50, 32, 111, 102, 32, 40, 48, 44, 32, 49, 44, 32, 50, 41, 10, 50, 58, 32, 50, 32, 111, 102, 32, 40, 48, 44, 32, 49, 44, 32, 50, 41, 10]⟩))
def xmem : List D := [xT, xn 2, .rows 1 [[xn 0], [xn 1], [xn 2]], xl]
def xc3 : AV := .agg [.d (.rows 4 [xmem, xmem, xmem])]
theorem e36 : okE (runF (cfX t0) 60 40 [] [xsrc] 0) (.tup [xc3, xv 0, xv 0], []) = true := by kernel_rfl
theorem e37 : okE (runF (cfX t0) 60 41 [] [xc3] 0) (.tup [.own 5168, xv 0], [(5168, .arr 3 1 [[xn 3], [xn 5], [xn 6]])]) = true := by kernel_rfl
end Go.Proofs.YtdhogcklnehdhaaGreatDoor
namespace Go.Proofs.YtdhogcklnehdhaaGreatDoor
set_option linter.unusedSimpArgs false
set_option linter.unusedVariables false
set_option linter.unnecessarySimpa false
set_option linter.unusedSectionVars false
set_option maxRecDepth 100000
open Go Go.RowKit Go.Am Go.Proofs.Grow
theorem st0_00 : okE (runF (cfX t0) 60 31 [] [mt0, xsd 0 0] 0) (.tup [.agg [.d (xl), .d (xn 0), .d (xn 0)], xv 1], []) = true := by kernel_rfl
theorem st0_01 : okE (runF (cfX t0) 60 31 [] [mt0, xsd 0 1] 0) (.tup [mt1, xv 0], []) = true := by kernel_rfl
theorem st1_02 : okE (runF (cfX t0) 60 31 [] [mt1, xsd 0 2] 0) (.tup [mt2, xv 0], []) = true := by kernel_rfl
end Go.Proofs.YtdhogcklnehdhaaGreatDoor
/- Reckoned calls: steps of the meeting. -/
namespace Go.Proofs.YtdhogcklnehdhaaGreatDoor
set_option linter.unusedSimpArgs false
set_option linter.unusedVariables false
set_option linter.unnecessarySimpa false
set_option linter.unusedSectionVars false
set_option maxRecDepth 100000
open Go Go.RowKit Go.Am Go.Proofs.Grow
theorem st2_10 : okE (runF (cfX t0) 60 31 [] [mt2, xsd 1 0] 0) (.tup [mt3, xv 0], []) = true := by kernel_rfl
theorem st3_11 : okE (runF (cfX t0) 60 31 [] [mt3, xsd 1 1] 0) (.tup [.agg [.d (xl), .d (xn 0), .d (xn 0)], xv 1], []) = true := by kernel_rfl
theorem st3_12 : okE (runF (cfX t0) 60 31 [] [mt3, xsd 1 2] 0) (.tup [mt4, xv 0], []) = true := by kernel_rfl
end Go.Proofs.YtdhogcklnehdhaaGreatDoor
/- Reckoned calls: steps of the meeting. -/
namespace Go.Proofs.YtdhogcklnehdhaaGreatDoor
set_option linter.unusedSimpArgs false
set_option linter.unusedVariables false
set_option linter.unnecessarySimpa false
set_option linter.unusedSectionVars false
set_option maxRecDepth 100000
open Go Go.RowKit Go.Am Go.Proofs.Grow
theorem st4_20 : okE (runF (cfX t0) 60 31 [] [mt4, xsd 2 0] 0) (.tup [mt5, xv 0], []) = true := by kernel_rfl
theorem st5_21 : okE (runF (cfX t0) 60 31 [] [mt5, xsd 2 1] 0) (.tup [mt6, xv 0], []) = true := by kernel_rfl
theorem st6_22 : okE (runF (cfX t0) 60 31 [] [mt6, xsd 2 2] 0) (.tup [.agg [.d (xl), .d (xn 0), .d (xn 0)], xv 1], []) = true := by kernel_rfl
theorem st6_00 : okE (runF (cfX t0) 60 31 [] [mt6, xsd 0 0] 0) (.tup [.agg [.d (xl), .d (xn 0), .d (xn 0)], xv 1], []) = true := by kernel_rfl
end Go.Proofs.YtdhogcklnehdhaaGreatDoor
namespace Go.Proofs.YtdhogcklnehdhaaGreatDoor
set_option linter.unusedSimpArgs false
set_option linter.unusedVariables false
set_option linter.unnecessarySimpa false
set_option linter.unusedSectionVars false
set_option maxRecDepth 100000
open Go Go.RowKit Go.Am Go.Proofs.Grow
theorem st6_01 : okE (runF (cfX t0) 60 31 [] [mt6, xsd 0 1] 0) (.tup [mt7, xv 0], []) = true := by kernel_rfl
theorem st7_02 : okE (runF (cfX t0) 60 31 [] [mt7, xsd 0 2] 0) (.tup [mt8, xv 0], []) = true := by kernel_rfl
theorem st8_10 : okE (runF (cfX t0) 60 31 [] [mt8, xsd 1 0] 0) (.tup [mt9, xv 0], []) = true := by kernel_rfl
theorem st9_11 : okE (runF (cfX t0) 60 31 [] [mt9, xsd 1 1] 0) (.tup [.agg [.d (xl), .d (xn 0), .d (xn 0)], xv 1], []) = true := by kernel_rfl
end Go.Proofs.YtdhogcklnehdhaaGreatDoor
/- Reckoned calls: steps of the meeting. -/
namespace Go.Proofs.YtdhogcklnehdhaaGreatDoor
set_option linter.unusedSimpArgs false
set_option linter.unusedVariables false
set_option linter.unnecessarySimpa false
set_option linter.unusedSectionVars false
set_option maxRecDepth 100000
open Go Go.RowKit Go.Am Go.Proofs.Grow
theorem st9_12 : okE (runF (cfX t0) 60 31 [] [mt9, xsd 1 2] 0) (.tup [mt10, xv 0], []) = true := by kernel_rfl
theorem st10_20 : okE (runF (cfX t0) 60 31 [] [mt10, xsd 2 0] 0) (.tup [.agg [.d (xl), .d (xn 0), .d (xn 0)], xv 9], []) = true := by kernel_rfl
theorem st10_21 : okE (runF (cfX t0) 60 31 [] [mt10, xsd 2 1] 0) (.tup [.agg [.d (xl), .d (xn 0), .d (xn 0)], xv 9], []) = true := by kernel_rfl
theorem st10_22 : okE (runF (cfX t0) 60 31 [] [mt10, xsd 2 2] 0) (.tup [.agg [.d (xl), .d (xn 0), .d (xn 0)], xv 1], []) = true := by kernel_rfl
theorem st10_00 : okE (runF (cfX t0) 60 31 [] [mt10, xsd 0 0] 0) (.tup [.agg [.d (xl), .d (xn 0), .d (xn 0)], xv 1], []) = true := by kernel_rfl
theorem st10_01 : okE (runF (cfX t0) 60 31 [] [mt10, xsd 0 1] 0) (.tup [.agg [.d (xl), .d (xn 0), .d (xn 0)], xv 9], []) = true := by kernel_rfl
end Go.Proofs.YtdhogcklnehdhaaGreatDoor
/- Reckoned calls: steps of the meeting. -/
namespace Go.Proofs.YtdhogcklnehdhaaGreatDoor
set_option linter.unusedSimpArgs false
set_option linter.unusedVariables false
set_option linter.unnecessarySimpa false
set_option linter.unusedSectionVars false
set_option maxRecDepth 100000
open Go Go.RowKit Go.Am Go.Proofs.Grow
theorem st10_02 : okE (runF (cfX t0) 60 31 [] [mt10, xsd 0 2] 0) (.tup [.agg [.d (xl), .d (xn 0), .d (xn 0)], xv 9], []) = true := by kernel_rfl
theorem st10_10 : okE (runF (cfX t0) 60 31 [] [mt10, xsd 1 0] 0) (.tup [.agg [.d (xl), .d (xn 0), .d (xn 0)], xv 9], []) = true := by kernel_rfl
theorem st10_11 : okE (runF (cfX t0) 60 31 [] [mt10, xsd 1 1] 0) (.tup [.agg [.d (xl), .d (xn 0), .d (xn 0)], xv 1], []) = true := by kernel_rfl
theorem st10_12 : okE (runF (cfX t0) 60 31 [] [mt10, xsd 1 2] 0) (.tup [.agg [.d (xl), .d (xn 0), .d (xn 0)], xv 9], []) = true := by kernel_rfl
end Go.Proofs.YtdhogcklnehdhaaGreatDoor
namespace Go.Proofs.YtdhogcklnehdhaaGreatDoor
set_option linter.unusedSimpArgs false
set_option linter.unusedVariables false
set_option linter.unnecessarySimpa false
set_option linter.unusedSectionVars false
set_option maxRecDepth 100000
open Go Go.RowKit Go.Am Go.Proofs.Grow
def stL : List (List AV × Res) := [([mt0, xsd 0 0], (.tup [.agg [.d (xl), .d (xn 0), .d (xn 0)], xv 1], [])), ([mt0, xsd 0 1], (.tup [mt1, xv 0], [])), ([mt1, xsd 0 2], (.tup [mt2, xv 0], [])), ([mt2, xsd 1 0], (.tup [mt3, xv 0], [])), ([mt3, xsd 1 1], (.tup [.agg [.d (xl), .d (xn 0), .d (xn 0)], xv 1], [])), ([mt3, xsd 1 2], (.tup [mt4, xv 0], [])), ([mt4, xsd 2 0], (.tup [mt5, xv 0], [])), ([mt5, xsd 2 1], (.tup [mt6, xv 0], [])), ([mt6, xsd 2 2], (.tup [.agg [.d (xl), .d (xn 0), .d (xn 0)], xv 1], [])), ([mt6, xsd 0 0], (.tup [.agg [.d (xl), .d (xn 0), .d (xn 0)], xv 1], [])), ([mt6, xsd 0 1], (.tup [mt7, xv 0], [])), ([mt7, xsd 0 2], (.tup [mt8, xv 0], [])), ([mt8, xsd 1 0], (.tup [mt9, xv 0], [])), ([mt9, xsd 1 1], (.tup [.agg [.d (xl), .d (xn 0), .d (xn 0)], xv 1], [])), ([mt9, xsd 1 2], (.tup [mt10, xv 0], [])), ([mt10, xsd 2 0], (.tup [.agg [.d (xl), .d (xn 0), .d (xn 0)], xv 9], [])), ([mt10, xsd 2 1], (.tup [.agg [.d (xl), .d (xn 0), .d (xn 0)], xv 9], [])), ([mt10, xsd 2 2], (.tup [.agg [.d (xl), .d (xn 0), .d (xn 0)], xv 1], [])), ([mt10, xsd 0 0], (.tup [.agg [.d (xl), .d (xn 0), .d (xn 0)], xv 1], [])), ([mt10, xsd 0 1], (.tup [.agg [.d (xl), .d (xn 0), .d (xn 0)], xv 9], [])), ([mt10, xsd 0 2], (.tup [.agg [.d (xl), .d (xn 0), .d (xn 0)], xv 9], [])), ([mt10, xsd 1 0], (.tup [.agg [.d (xl), .d (xn 0), .d (xn 0)], xv 9], [])), ([mt10, xsd 1 1], (.tup [.agg [.d (xl), .d (xn 0), .d (xn 0)], xv 1], [])), ([mt10, xsd 1 2], (.tup [.agg [.d (xl), .d (xn 0), .d (xn 0)], xv 9], []))]
theorem stL_ok : EntOK Tryz.prog 31 stL := .cons (okE_fn (cfX_ok t0_ok) st0_00) (.cons (okE_fn (cfX_ok t0_ok) st0_01) (.cons (okE_fn (cfX_ok t0_ok) st1_02) (.cons (okE_fn (cfX_ok t0_ok) st2_10) (.cons (okE_fn (cfX_ok t0_ok) st3_11) (.cons (okE_fn (cfX_ok t0_ok) st3_12) (.cons (okE_fn (cfX_ok t0_ok) st4_20) (.cons (okE_fn (cfX_ok t0_ok) st5_21) (.cons (okE_fn (cfX_ok t0_ok) st6_22) (.cons (okE_fn (cfX_ok t0_ok) st6_00) (.cons (okE_fn (cfX_ok t0_ok) st6_01) (.cons (okE_fn (cfX_ok t0_ok) st7_02) (.cons (okE_fn (cfX_ok t0_ok) st8_10) (.cons (okE_fn (cfX_ok t0_ok) st9_11) (.cons (okE_fn (cfX_ok t0_ok) st9_12) (.cons (okE_fn (cfX_ok t0_ok) st10_20) (.cons (okE_fn (cfX_ok t0_ok) st10_21) (.cons (okE_fn (cfX_ok t0_ok) st10_22) (.cons (okE_fn (cfX_ok t0_ok) st10_00) (.cons (okE_fn (cfX_ok t0_ok) st10_01) (.cons (okE_fn (cfX_ok t0_ok) st10_02) (.cons (okE_fn (cfX_ok t0_ok) st10_10) (.cons (okE_fn (cfX_ok t0_ok) st10_11) (.cons (okE_fn (cfX_ok t0_ok) st10_12) (.nil _ _))))))))))))))))))))))))
def t1 : Tbl := (31, stL) :: t0
theorem t1_ok : TblOK Tryz.prog t1 := .cons stL_ok t0_ok
def xply (k : Nat) : List D := [xn 1, xn k, xn 0, xn 1, xn 1, xn 0, xl, xl, xn 0, xn 0, xn 0, xl, xl, xl, xl]
def rRun : Res := (.tup [mt0, .own 6555, xv 0], [(6555, .arr 29 1 [[xn 0], [xn 0]])])
theorem e38 : okE (runF (cfX t1) 60 8 [] [xc3, xv 0, .d (.rows 15 [xply 0, xply 2])] 0) rRun = true := by kernel_rfl
theorem e39 : okE (runF (cfX t1) 60 10 [] [mt0] 0) (.tup [mt10, xv 0], []) = true := by kernel_rfl
def t2 : Tbl := [(40, [([xsrc], (.tup [xc3, xv 0, xv 0], []))]), (41, [([xc3], (.tup [.own 5168, xv 0], [(5168, .arr 3 1 [[xn 3], [xn 5], [xn 6]])]))]), (8, [([xc3, xv 0, .d (.rows 15 [xply 0, xply 2])], rRun)]), (10, [([mt0], (.tup [mt10, xv 0], []))])]
theorem t2_ok : TblOK Tryz.prog t2 := .cons (.cons (okE_fn (cfX_ok t0_ok) e36) (.nil _ _)) (.cons (.cons (okE_fn (cfX_ok t0_ok) e37) (.nil _ _)) (.cons (.cons (okE_fn (cfX_ok t1_ok) e38) (.nil _ _)) (.cons (.cons (okE_fn (cfX_ok t1_ok) e39) (.nil _ _)) (.nil _))))
theorem e14 : okE (runF (cfX t2) 60 11 [] [] 0) (.d xT, []) = true := by kernel_rfl
/-- The members of the assembly agree. -/
theorem awake_m : FnM Tryz.prog 11 [] [] (vB true) [] := okE_fn (cfX_ok t2_ok) e14
end Go.Proofs.YtdhogcklnehdhaaGreatDoor
