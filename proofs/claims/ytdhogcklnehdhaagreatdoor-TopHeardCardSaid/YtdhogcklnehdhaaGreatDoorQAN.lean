/- Contracts: a meeting begins, goes through a script, and comes to rest. -/
import Derived.Test.YtdhogcklnehdhaaGreatDoorQAM
import Derived.Test.YtdhogcklnehdhaaGreatDoorQAD
import Derived.Test.YtdhogcklnehdhaaGreatDoorQAK
import Derived.Test.YtdhogcklnehdhaaGreatDoorQAL
import Derived.Test.YtdhogcklnehdhaaGreatDoorQAH
namespace Go.Proofs.YtdhogcklnehdhaaGreatDoor
set_option linter.unusedSimpArgs false
set_option linter.unusedVariables false
set_option linter.unnecessarySimpa false
set_option linter.unusedSectionVars false
set_option maxRecDepth 100000
open Go Go.RowKit Go.Am Go.Proofs.Grow
set_option maxHeartbeats 1000000 in
theorem begin_m (c : List Mb) (ill : Nat) (hc : FullC c) (hi : ill < 2 ^ c.length) : FnM Tryz.prog 30 [] [aCf c, vI (ill : Int)] (.tup [aMt ⟨begV c c.length, 0, ill⟩, vI 0]) [] := by
  have hS := hc.okS (s := 0) (Nat.zero_le _)
  have hl := hc.len
  have hp := hc.pos
  have valB := valC_m c hS.cc
  rw [hS.v] at valB
  have valB_m := valB
  have t0 : ((0 : Int) != 0) = false := rfl
  have t1 : (((c.length : Nat) : Int) == 0) = false := by rw [beq_eq_false_iff_ne]; omega
  have t2 : decide ((ill : Int) < 0) = false := by simp only [decide_eq_false_iff_not]; omega
  have t3 : decide ((ill : Int) ≥ ((2 ^ c.length : Nat) : Int)) = false := by simp only [decide_eq_false_iff_not]; omega
  have t4 : (!true) = false := rfl
  have hl61 : c.length ≤ 61 := by omega
  refine FnM.of htb Tryz.func30 rfl rfl rfl rfl rfl fun cx hN h0 => ?_
  (repeat' (first | ((with_reducible apply WD_id); first | (refine WD_sum ?_) | (refine WD_nxt htb (by exact rfl) ?_) | (refine WD_call (by exact rfl) ?_; first | (refine WD_c0 (valB_m) ?_)) | (refine WD_eq (shlN_step rfl rfl rfl) ?_) | (refine WD_idx htb ?_) | (refine WD_ap htb ?_) | (refine WD_f (by exact rfl) (by exact rfl) (by exact known) fun hb => ?_; rw [hb]; clear hb)) | (refine ct ?_) | (with_reducible apply WA_block)))
  refine WA_le (Le_nilM 62 7 0 49 9 rfl rfl rfl rfl) ?_
  (refine WA_forV (c.length) [41] [7, 62] (fun k => [(41, vI k)]) (fun k => [(7, .box 34 [.own 62, vI 0, vI (ill : Int)]), (62, .arr 49 9 ((begV c k).map rVo))]) (fun k => True) ?h0 ?_)
  case h0 => trivial
  intro k hk _
  have hbl := begV_len c k
  have hbl2 : (begV c k).length ≤ 10 := by omega
  rcases Nat.lt_or_ge k c.length with hk' | hk'
  · have d1 : decide ((k : Int) < (c.length : Int)) = true := by simp; omega
    have hst := begV_succ c k
    have hd := hc.decl k hk'
    have hf := (hc.fit k hk').chk
    have t5 : (!(nth c k).decl) = false := by rw [hd]; rfl
    have hk10 : k < 10 := by omega
    (repeat' (first | ((with_reducible apply WD_id); first | (refine WD_sum ?_) | (refine WD_nxt htb (by exact rfl) ?_) | (refine WD_call (by exact rfl) ?_; first | (refine WD_c0 (start_m (k := k) (t := (nth c k).t) ?_ ?_) ?_; (exact hyp); (exact hyp))) | (refine WD_idx htb ?_) | (refine WD_ap htb ?_) | (refine WD_f (by exact rfl) (by exact rfl) (by exact known) fun hb => ?_; rw [hb]; clear hb)) | (refine ct ?_) | (with_reducible apply WA_block)))
    refine ⟨hk', trivial, ?_⟩
    rw [hst, List.map_append, List.map_cons, List.map_nil]
    (exact LeV [(62, 68)])
  · have d1 : decide ((k : Int) < (c.length : Int)) = false := by simp; omega
    obtain rfl : k = c.length := by omega
    (repeat' (first | ((with_reducible apply WD_id); first | (refine WD_sum ?_) | (refine WD_nxt htb (by exact rfl) ?_) | (refine WD_idx htb ?_) | (refine WD_ap htb ?_) | (refine WD_f (by exact rfl) (by exact rfl) (by exact known) fun hb => ?_; rw [hb]; clear hb)) | (refine ct ?_) | (with_reducible apply WA_block)))
    (exact glV [(4, .ptr 4 0), (5, vI 0)] [(4, .box 34 (cellsOf (aMt ⟨begV c c.length, 0, ill⟩)))] (LeV []))
set_option maxHeartbeats 1000000 in
theorem run_m (c : List Mb) (ill : Nat) (l : List Pl) (hc : FullC c) (hi : ill < 2 ^ c.length) (hl : l.length ≤ 400 ∧ ∀ p ∈ l, PlOK c.length p) :
    FnM Tryz.prog 8 [] [aCf c, vI (ill : Int), lPl l] (.tup [aMt (runM l ⟨begV c c.length, 0, ill⟩), .d (.rows 1 ((runD l ⟨begV c c.length, 0, ill⟩ l.length).map rI)), vI 0]) [] := by
  obtain ⟨hll, hpl⟩ := hl
  have h0 := beg_I hc hi
  have hok := fun k => runM_ok hc (l.take k) ⟨begV c c.length, 0, ill⟩ (fun p hp => hpl p (List.mem_of_mem_take hp)) h0.ok h0.inv
  have hbeg_m := begin_m c ill hc hi
  generalize hm0 : (⟨begV c c.length, 0, ill⟩ : Mt) = m0 at *
  have t0 : ((0 : Int) != 0) = false := rfl
  have t1 : decide (((l.length : Nat) : Int) > 400) = false := by simp only [decide_eq_false_iff_not]; omega
  refine FnM.of htb Tryz.func8 rfl rfl rfl rfl rfl fun cx hN h0 => ?_
  (repeat' (first | ((with_reducible apply WD_id); first | (refine WD_sum ?_) | (refine WD_nxt htb (by exact rfl) ?_) | (refine WD_call (by exact rfl) ?_; first | (refine WD_c0 (hbeg_m) ?_)) | (refine WD_idx htb ?_) | (refine WD_ap htb ?_)) | (refine ct ?_) | (with_reducible apply WA_block)))
  refine WA_le (Le_nilT 61 11 29 1 rfl rfl) ?_
  (refine WA_forV (l.length) [32, 11] [9, 61] (fun k => [(32, vI k), (11, .own 61)]) (fun k => [(9, .box 34 (cellsOf (aMt (runM (l.take k) m0)))), (61, .arr 29 1 ((runD l m0 k).map rI))]) (fun k => True) ?h0 ?_)
  case h0 => trivial
  intro k hk _
  have hdl := runD_len l m0 k
  have hdl2 : (runD l m0 k).length ≤ 400 := by omega
  obtain ⟨ok, _, _⟩ := hok k
  rcases Nat.lt_or_ge k l.length with hk' | hk'
  · have d1 : decide ((k : Int) < (l.length : Int)) = true := by simp; omega
    have hst := runM_take (m := m0) hk'
    have hsd : runD l m0 (k + 1) = runD l m0 k ++ [(stpF (runM (l.take k) m0) (nth l k)).2] := rfl
    have hp := hpl _ (nth_mem l k hk')
    rw [hst, hsd]
    generalize runM (l.take k) m0 = m at *
    by_cases he : (stpF m (nth l k)).2 = 0
    · have t2 : ((stpF m (nth l k)).2 == 0) = true := by simpa using he
      rw [stpM_ok he]
      (repeat' (first | ((with_reducible apply WD_id); first | (refine WD_sum ?_) | (refine WD_nxt htb (by exact rfl) ?_) | (refine WD_call (by exact rfl) ?_; first | (refine WD_c0 (step_m (m := m) (p := nth l k) (n := c.length) ?_ ?_) ?_; (exact hyp); (exact hyp))) | (refine WD_idx htb ?_) | (refine WD_ap htb ?_)) | (refine ct ?_) | (with_reducible apply WA_block)))
      refine ⟨hk', trivial, ?_⟩
      rw [List.map_append, List.map_cons, List.map_nil]
      (exact LeV [(61, 48)])
    · have t2 : ((stpF m (nth l k)).2 == 0) = false := by simpa using he
      rw [stpM_no he]
      (repeat' (first | ((with_reducible apply WD_id); first | (refine WD_sum ?_) | (refine WD_nxt htb (by exact rfl) ?_) | (refine WD_call (by exact rfl) ?_; first | (refine WD_c0 (step_m (m := m) (p := nth l k) (n := c.length) ?_ ?_) ?_; (exact hyp); (exact hyp))) | (refine WD_idx htb ?_) | (refine WD_ap htb ?_)) | (refine ct ?_) | (with_reducible apply WA_block)))
      refine ⟨hk', trivial, ?_⟩
      rw [List.map_append, List.map_cons, List.map_nil]
      (exact LeV [(61, 48)])
  · have d1 : decide ((k : Int) < (l.length : Int)) = false := by simp; omega
    obtain rfl : k = l.length := by omega
    rw [List.take_length] at ok ⊢
    (repeat' (first | ((with_reducible apply WD_id); first | (refine WD_sum ?_) | (refine WD_nxt htb (by exact rfl) ?_) | (refine WD_call (by exact rfl) ?_; first | (refine WD_c0 (freshM_m (n := c.length) _ ?_) ?_; (exact hyp))) | (refine WD_idx htb ?_) | (refine WD_ap htb ?_)) | (refine ct ?_) | (with_reducible apply WA_block)))
    (exact glV [(6, .ptr 6 0), (7, .d (.rows 1 ((runD l m0 l.length).map rI))), (8, vI 0)] [(6, .box 34 (cellsOf (aMt (runM l m0))))] (LeV []))
set_option maxHeartbeats 2000000 in
theorem round_m (m : Mt) (n : Nat) (h : MtOK n m) : FnM Tryz.prog 39 [] [aMt m] (.tup [aMt (rndF m).1, vB (rndF m).2]) [] := by
  obtain ⟨hw1, hw2⟩ := well_lt h
  have hl := h.len
  have hn := h.n10
  have h2 := two_le hn
  have hil := h.il
  have nodW := nodes_m (2 ^ m.vs.length - 1 - m.il) hw1
  have e0 : ((2 ^ m.vs.length - 1 - m.il : Nat) : Int) = ((2 ^ m.vs.length : Nat) : Int) - 1 - (m.il : Int) := by rw [hl]; omega
  rw [e0] at nodW
  have nodW_m : FnM Tryz.prog 68 [] [vI (((2 ^ m.vs.length : Nat) : Int) - 1 - (m.il : Int))] (lN (wellN m)) [] := nodW
  have hml : m.vs.length ≤ 61 := by omega
  have hb1 : ((2 ^ m.vs.length : Nat) : Int) ≤ 1024 := by rw [hl]; omega
  have hb2 : (m.il : Int) ≤ 1024 := by omega
  have hwl : (wellN m).length ≤ 10 := nodesTo_len _ 10
  have hro := fun k => rndI_ro (wellN m) hw2 ((wellN m).take k) (m, false) (fun b hb => hw2 b (List.mem_of_mem_take hb)) h
  unfold rndF
  generalize wellN m = w at *
  refine FnM.of htb Tryz.func39 rfl rfl rfl rfl rfl fun cx hN h0 => ?_
  (repeat' (first | ((with_reducible apply WD_id); first | (refine WD_sum ?_) | (refine WD_nxt htb (by exact rfl) ?_) | (refine WD_call (by exact rfl) ?_; first | (refine WD_c0 (nodW_m) ?_)) | (refine WD_eq (shlN_step rfl rfl rfl) ?_) | (refine WD_idx htb ?_)) | (refine ct ?_) | (with_reducible apply WA_block)))
  rw [List.length_map]
  (repeat' (first | ((with_reducible apply WD_id); first | (refine WD_sum ?_) | (refine WD_nxt htb (by exact rfl) ?_) | (refine WD_call (by exact rfl) ?_; first | (refine WD_c0 (nodW_m) ?_)) | (refine WD_idx htb ?_)) | (refine ct ?_) | (with_reducible apply WA_block)))
  (refine WA_forV (w.length) [23, 5] [1] (fun k => [(23, vI k), (5, vB (rndI w (w.take k) (m, false)).2)]) (fun k => [(1, .box 34 (cellsOf (aMt (rndI w (w.take k) (m, false)).1)))]) (fun k => True) ?h0 ?_)
  case h0 => trivial
  intro i hi _
  obtain ⟨_, ok, _⟩ := hro i
  rcases Nat.lt_or_ge i w.length with hi' | hi'
  · have d1 : decide ((i : Int) < (w.length : Int)) = true := by simp; omega
    have hst : rndI w (w.take (i + 1)) (m, false) = rndJ (nth w i) w (rndI w (w.take i) (m, false)) := by
      rw [List.take_succ_eq_append_getElem hi', rndI_snoc, nth_getElem w i hi']
    have ha := hw2 _ (nth_mem w i hi')
    rw [hst]
    generalize rndI w (w.take i) (m, false) = x at *
    have hri := fun j => rndJ_ro ha (w.take j) x (fun b hb => hw2 b (List.mem_of_mem_take hb)) ok
    (repeat' (first | ((with_reducible apply WD_id); first | (refine WD_sum ?_) | (refine WD_nxt htb (by exact rfl) ?_) | (refine WD_idx htb ?_)) | (refine ct ?_) | (with_reducible apply WA_block)))
    (refine WA_forV (w.length) [29, 5] [1] (fun k => [(29, vI k), (5, vB (rndJ (nth w i) (w.take k) x).2)]) (fun k => [(1, .box 34 (cellsOf (aMt (rndJ (nth w i) (w.take k) x).1)))]) (fun k => True) ?h0 ?_)
    case h0 => trivial
    intro j hj _
    obtain ⟨_, ok2, _⟩ := hri j
    rcases Nat.lt_or_ge j w.length with hj' | hj'
    · have d2 : decide ((j : Int) < (w.length : Int)) = true := by simp; omega
      have hst2 : rndJ (nth w i) (w.take (j + 1)) x = sndS (nth w i) (nth w j) (rndJ (nth w i) (w.take j) x) := by
        rw [List.take_succ_eq_append_getElem hj', rndJ_snoc, nth_getElem w j hj']
      have hb := hw2 _ (nth_mem w j hj')
      rw [hst2]
      generalize rndJ (nth w i) (w.take j) x = y at *
      have hp := snd_ok ha hb
      have stpS_m := step_m y.1 (sndP (nth w i) (nth w j)) n ok2 hp
      unfold sndS
      by_cases he : (stpF y.1 (sndP (nth w i) (nth w j))).2 = 0
      · have t2 : ((stpF y.1 (sndP (nth w i) (nth w j))).2 == 0) = true := by simpa using he
        rw [if_pos he]
        (repeat' (first | ((with_reducible apply WD_id); first | (refine WD_sum ?_) | (refine WD_nxt htb (by exact rfl) ?_) | (refine WD_call (by exact rfl) ?_; first | (refine WD_c0 (stpS_m) ?_)) | (refine WD_idx htb ?_)) | (refine ct ?_) | (with_reducible apply WA_block)))
        refine ⟨hj', trivial, ?_⟩
        (exact LeV [])
      · have t2 : ((stpF y.1 (sndP (nth w i) (nth w j))).2 == 0) = false := by simpa using he
        rw [if_neg he]
        (repeat' (first | ((with_reducible apply WD_id); first | (refine WD_sum ?_) | (refine WD_nxt htb (by exact rfl) ?_) | (refine WD_call (by exact rfl) ?_; first | (refine WD_c0 (stpS_m) ?_)) | (refine WD_idx htb ?_)) | (refine ct ?_) | (with_reducible apply WA_block)))
        refine ⟨hj', trivial, ?_⟩
        (exact LeV [])
    · have d2 : decide ((j : Int) < (w.length : Int)) = false := by simp; omega
      have e1 : w.take j = w := take_all hj'
      rw [e1]
      (repeat' (first | ((with_reducible apply WD_id); first | (refine WD_sum ?_) | (refine WD_nxt htb (by exact rfl) ?_) | (refine WD_idx htb ?_)) | (refine ct ?_) | (with_reducible apply WA_block)))
      refine ⟨hi', trivial, ?_⟩
      (exact LeV [])
  · have d1 : decide ((i : Int) < (w.length : Int)) = false := by simp; omega
    have e1 : w.take i = w := take_all hi'
    rw [e1]
    (repeat' (first | ((with_reducible apply WD_id); first | (refine WD_sum ?_) | (refine WD_nxt htb (by exact rfl) ?_) | (refine WD_idx htb ?_)) | (refine ct ?_) | (with_reducible apply WA_block)))
    (exact glV [(2, .ptr 2 0), (3, vB (rndI w w (m, false)).2)] [(2, .box 34 (cellsOf (aMt (rndI w w (m, false)).1)))] (LeV []))
theorem calm_m (m : Mt) (n : Nat) (h : MtOK n m) : FnM Tryz.prog 10 [] [aMt m] (.tup [aMt (clmF 100001 m), vI 0]) [] := by
  have t0 : (!true) = false := rfl
  refine FnM.of htb Tryz.func10 rfl rfl rfl rfl rfl fun cx hN h0 => ?_
  (repeat' (first | ((with_reducible apply WD_id); first | (refine WD_nxt htb (by exact rfl) ?_) | (refine WD_call (by exact rfl) ?_; first | (refine WD_c0 (mval_m (n := n) _ ?_) ?_; (exact hyp)))) | (refine ct ?_) | (with_reducible apply WA_block)))
  (refine WA_anyV (α := Nat × Mt × Bool) (fun x => x.1) ((100001, m, true)) [4, 9, 10, 11, 12, 13, 14] [1] (fun x => [(4, vB x.2.2)]) (fun x => [(1, .box 34 (cellsOf (aMt x.2.1)))]) (fun x => MtOK n x.2.1 ∧ ((x.2.2 = true ∧ 100000 - sumV x.2.1.vs < x.1 ∧ clmF 100001 m = clmF x.1 x.2.1) ∨ (x.2.2 = false ∧ clmF 100001 m = x.2.1))) ?h0 ?_)
  case h0 => exact ⟨h, .inl ⟨rfl, by dsimp only; omega, rfl⟩⟩
  rintro ⟨f, z, b⟩ ⟨hz, hI⟩
  dsimp only at hz hI ⊢
  rcases hI with ⟨rfl, hf, hI⟩ | ⟨rfl, hI⟩
  · obtain ⟨g, rfl⟩ : ∃ g, f = g + 1 := ⟨f - 1, by omega⟩
    obtain ⟨r1, r2, r3⟩ := rnd_ok hz
    have hs := mt_sum r1
    (repeat' (first | ((with_reducible apply WD_id); first | (refine WD_nxt htb (by exact rfl) ?_) | (refine WD_call (by exact rfl) ?_; first | (refine WD_c0 (round_m (m := z) (n := n) ?_) ?_; (exact hyp)))) | (refine ct ?_) | (with_reducible apply WA_block)))
    refine ⟨(g, (rndF z).1, (rndF z).2), by dsimp only; omega, ⟨r1, ?_⟩, ?_⟩
    · dsimp only
      cases e : (rndF z).2 with
      | true =>
        have := r2 e
        exact .inl ⟨rfl, by omega, by rw [hI, clmF, if_pos e]⟩
      | false => exact .inr ⟨rfl, by rw [hI, clmF, if_neg (by simp [e])]⟩
    (exact LeV [])
  · rw [hI]
    (repeat' (first | ((with_reducible apply WD_id); first | (refine WD_nxt htb (by exact rfl) ?_) | (refine WD_call (by exact rfl) ?_; first | (refine WD_c0 (freshM_m (n := n) _ ?_) ?_; (exact hyp)))) | (refine ct ?_) | (with_reducible apply WA_block)))
    (exact glV [(2, .ptr 2 0), (3, vI 0)] [(2, .box 34 (cellsOf (aMt z)))] (LeV []))
end Go.Proofs.YtdhogcklnehdhaaGreatDoor
/- Contracts: the reference's lists of claims. -/
namespace Go.Proofs.YtdhogcklnehdhaaGreatDoor
set_option linter.unusedSimpArgs false
set_option linter.unusedVariables false
set_option linter.unnecessarySimpa false
set_option linter.unusedSectionVars false
set_option maxRecDepth 100000
open Go Go.RowKit Go.Am Go.Proofs.Grow
theorem has_step {l : List Cl} {x : Cl} {k : Nat} (h : k < l.length) : hasC (l.drop k) x = (decide (x = nth l k) || hasC (l.drop (k + 1)) x) := by
  rw [drop_nth l k h]
  unfold hasC
  simp only [List.mem_cons, Bool.decide_or]
theorem has17_m (l : List Cl) (x : Cl) (hl : l.length ≤ 10000) : FnM Tryz.prog 43 [] [lC l, aC x] (vB (hasC l x)) [] := by
  refine FnM.of htb Tryz.func43 rfl rfl rfl rfl rfl fun cx hN h0 => ?_
  (repeat' (first | ((with_reducible apply WD_id); first | (refine WD_sum ?_) | (refine WD_nxt htb (by exact rfl) ?_) | (refine WD_idx htb ?_)) | (refine ct ?_) | (with_reducible apply WA_block)))
  (refine WA_forV (l.length) [9] [] (fun k => [(9, vI k)]) (fun k => []) (fun k => hasC l x = hasC (l.drop k) x) ?h0 ?_)
  case h0 => rfl
  intro k hk hI
  rcases Nat.lt_or_ge k l.length with hk' | hk'
  · have t1 : decide ((k : Int) < (l.length : Int)) = true := by simp; omega
    rw [has_step hk'] at hI
    by_cases e : x = nth l k
    · have t2 : decide (x = nth l k) = true := by simpa using e
      rw [t2, Bool.true_or] at hI
      rw [hI]
      (repeat' (first | ((with_reducible apply WD_id); first | (refine WD_sum ?_) | (refine WD_nxt htb (by exact rfl) ?_) | (refine WD_eq ((eqC_step (a := x) (b := nth l k)) rfl rfl rfl) ?_) | (refine WD_idx htb ?_)) | (refine ct ?_) | (with_reducible apply WA_block)))
      exact gE (.inr rfl) rfl rfl trivial
    · have t2 : decide (x = nth l k) = false := by simpa using e
      rw [t2, Bool.false_or] at hI
      (repeat' (first | ((with_reducible apply WD_id); first | (refine WD_sum ?_) | (refine WD_nxt htb (by exact rfl) ?_) | (refine WD_eq ((eqC_step (a := x) (b := nth l k)) rfl rfl rfl) ?_) | (refine WD_idx htb ?_)) | (refine ct ?_) | (with_reducible apply WA_block)))
      refine ⟨hk', hI, ?_⟩
      (exact LeV [])
  · have t1 : decide ((k : Int) < (l.length : Int)) = false := by simp; omega
    rw [List.drop_eq_nil_of_le hk'] at hI
    have e : hasC [] x = false := rfl
    rw [hI, e]
    (repeat' (first | ((with_reducible apply WD_id); first | (refine WD_sum ?_) | (refine WD_nxt htb (by exact rfl) ?_) | (refine WD_idx htb ?_)) | (refine ct ?_) | (with_reducible apply WA_block)))
    exact gE (.inr rfl) rfl rfl trivial
def srT (l : List Cl) (p : Nat) : List Cl := (allC.take p).filter fun x => hasC l x
theorem all_len : allC.length = 128 := by decide +kernel
theorem all_nth {i k : Nat} (hi : i < 8) (hk : k < 16) : nth allC (16 * i + k) = ((i : Int), (k : Int)) := by
  have h : ∀ i ∈ List.range 8, ∀ k ∈ List.range 16, nth allC (16 * i + k) = ((i : Int), (k : Int)) := by decide +kernel
  exact h i (List.mem_range.2 hi) k (List.mem_range.2 hk)
theorem srT_step {l : List Cl} {i k : Nat} (hi : i < 8) (hk : k < 16) : srT l (16 * i + (k + 1)) = if hasC l ((i : Int), (k : Int)) = true then srT l (16 * i + k) ++ [((i : Int), (k : Int))] else srT l (16 * i + k) := by
  have h1 : 16 * i + k < allC.length := by rw [all_len]; omega
  unfold srT
  rw [show 16 * i + (k + 1) = 16 * i + k + 1 by omega, List.take_succ_eq_append_getElem h1, ← nth_getElem allC _ h1, all_nth hi hk, List.filter_append]
  cases h : hasC l ((i : Int), (k : Int)) with
  | true => rw [if_pos rfl]; simp [h]
  | false => rw [if_neg (by simp)]; simp [h]
theorem srT_end (l : List Cl) : srT l 128 = sortC l := by
  unfold srT sortC
  rw [List.take_of_length_le (by rw [all_len]; omega)]
theorem srT_len (l : List Cl) (p : Nat) : (srT l p).length ≤ 128 := by
  unfold srT
  have h1 := List.length_filter_le (fun x => hasC l x) (allC.take p)
  have h2 : (allC.take p).length ≤ 128 := by rw [List.length_take, all_len]; omega
  omega
theorem sor17_m (l : List Cl) (hl : l.length ≤ 10000) : FnM Tryz.prog 36 [] [lC l] (lC (sortC l)) [] := by
  refine FnM.of htb Tryz.func36 rfl rfl rfl rfl rfl fun cx hN h0 => ?_
  (repeat' (first | ((with_reducible apply WD_id); first | (refine WD_sum ?_) | (refine WD_nxt htb (by exact rfl) ?_) | (refine WD_ap htb ?_)) | (refine ct ?_) | (with_reducible apply WA_block)))
  refine WA_le (Le_nilT 60 3 86 2 rfl rfl) ?_
  (refine WA_forV (8) [4, 3] [60] (fun k => [(4, vI k), (3, .own 60)]) (fun k => [(60, .arr 86 2 ((srT l (16 * k)).map rC))]) (fun k => True) ?h0 ?_)
  case h0 => trivial
  intro i hi _
  rcases Nat.lt_or_ge i 8 with hi' | hi'
  · have t1 : decide ((i : Int) < 8) = true := by simp; omega
    (repeat' (first | ((with_reducible apply WD_id); first | (refine WD_sum ?_) | (refine WD_nxt htb (by exact rfl) ?_) | (refine WD_ap htb ?_)) | (refine ct ?_) | (with_reducible apply WA_block)))
    (refine WA_forV (16) [5, 3] [60] (fun k => [(5, vI k), (3, .own 60)]) (fun k => [(60, .arr 86 2 ((srT l (16 * i + k)).map rC))]) (fun k => True) ?h0 ?_)
    case h0 => trivial
    intro k hk _
    have hsl := srT_len l (16 * i + k)
    rcases Nat.lt_or_ge k 16 with hk' | hk'
    · have t2 : decide ((k : Int) ≤ 15) = true := by simp; omega
      have hst := srT_step (l := l) hi' hk'
      cases hx : hasC l ((i : Int), (k : Int)) with
      | true =>
        rw [hx, if_pos rfl] at hst
        (repeat' (first | ((with_reducible apply WD_id); first | (refine WD_sum ?_) | (refine WD_nxt htb (by exact rfl) ?_) | (refine WD_call (by exact rfl) ?_; first | (refine WD_c0 (has17_m (x := ((i : Int), (k : Int))) _ ?_) ?_; (exact hyp))) | (refine WD_ap htb ?_)) | (refine ct ?_) | (with_reducible apply WA_block)))
        refine ⟨hk', trivial, ?_⟩
        rw [hst, List.map_append]
        (exact LeV [(60, 24)])
      | false =>
        rw [hx, if_neg (by simp)] at hst
        (repeat' (first | ((with_reducible apply WD_id); first | (refine WD_sum ?_) | (refine WD_nxt htb (by exact rfl) ?_) | (refine WD_call (by exact rfl) ?_; first | (refine WD_c0 (has17_m (x := ((i : Int), (k : Int))) _ ?_) ?_; (exact hyp))) | (refine WD_ap htb ?_)) | (refine ct ?_) | (with_reducible apply WA_block)))
        refine ⟨hk', trivial, ?_⟩
        rw [hst]
        (exact LeV [])
    · have t2 : decide ((k : Int) ≤ 15) = false := by simp; omega
      obtain rfl : k = 16 := by omega
      (repeat' (first | ((with_reducible apply WD_id); first | (refine WD_sum ?_) | (refine WD_nxt htb (by exact rfl) ?_) | (refine WD_ap htb ?_)) | (refine ct ?_) | (with_reducible apply WA_block)))
      refine ⟨hi', trivial, ?_⟩
      (exact LeV [])
  · have t1 : decide ((i : Int) < 8) = false := by simp; omega
    obtain rfl : i = 8 := by omega
    rw [srT_end]
    (repeat' (first | ((with_reducible apply WD_id); first | (refine WD_sum ?_) | (refine WD_nxt htb (by exact rfl) ?_) | (refine WD_ap htb ?_)) | (refine ct ?_) | (with_reducible apply WA_block)))
    (exact glV [(2, lC (sortC l))] [] (LeV []))
theorem sor17L_m (l : List Cl) (hl : l.length ≤ 10000) : FnM Tryz.prog 36 [(9, .arr 86 2 (l.map rC))] [.own 9] (lC (sortC l)) [(9, .dead)] := by
  refine FnM.of htb Tryz.func36 rfl rfl rfl rfl rfl fun cx hN h0 => ?_
  refine WA_le (s' := ⟨[(0, lC l)], [(9, .dead)]⟩) (Le.trans (Le_own 0 61 rfl rfl rfl) (LeV [])) ?_
  (repeat' (first | ((with_reducible apply WD_id); first | (refine WD_sum ?_) | (refine WD_nxt htb (by exact rfl) ?_) | (refine WD_ap htb ?_)) | (refine ct ?_) | (with_reducible apply WA_block)))
  refine WA_le (Le_nilT 60 3 86 2 rfl rfl) ?_
  (refine WA_forV (8) [4, 3] [60] (fun k => [(4, vI k), (3, .own 60)]) (fun k => [(60, .arr 86 2 ((srT l (16 * k)).map rC))]) (fun k => True) ?h0 ?_)
  case h0 => trivial
  intro i hi _
  rcases Nat.lt_or_ge i 8 with hi' | hi'
  · have t1 : decide ((i : Int) < 8) = true := by simp; omega
    (repeat' (first | ((with_reducible apply WD_id); first | (refine WD_sum ?_) | (refine WD_nxt htb (by exact rfl) ?_) | (refine WD_ap htb ?_)) | (refine ct ?_) | (with_reducible apply WA_block)))
    (refine WA_forV (16) [5, 3] [60] (fun k => [(5, vI k), (3, .own 60)]) (fun k => [(60, .arr 86 2 ((srT l (16 * i + k)).map rC))]) (fun k => True) ?h0 ?_)
    case h0 => trivial
    intro k hk _
    have hsl := srT_len l (16 * i + k)
    rcases Nat.lt_or_ge k 16 with hk' | hk'
    · have t2 : decide ((k : Int) ≤ 15) = true := by simp; omega
      have hst := srT_step (l := l) hi' hk'
      cases hx : hasC l ((i : Int), (k : Int)) with
      | true =>
        rw [hx, if_pos rfl] at hst
        (repeat' (first | ((with_reducible apply WD_id); first | (refine WD_sum ?_) | (refine WD_nxt htb (by exact rfl) ?_) | (refine WD_call (by exact rfl) ?_; first | (refine WD_c0 (has17_m (x := ((i : Int), (k : Int))) _ ?_) ?_; (exact hyp))) | (refine WD_ap htb ?_)) | (refine ct ?_) | (with_reducible apply WA_block)))
        refine ⟨hk', trivial, ?_⟩
        rw [hst, List.map_append]
        (exact LeV [(60, 24)])
      | false =>
        rw [hx, if_neg (by simp)] at hst
        (repeat' (first | ((with_reducible apply WD_id); first | (refine WD_sum ?_) | (refine WD_nxt htb (by exact rfl) ?_) | (refine WD_call (by exact rfl) ?_; first | (refine WD_c0 (has17_m (x := ((i : Int), (k : Int))) _ ?_) ?_; (exact hyp))) | (refine WD_ap htb ?_)) | (refine ct ?_) | (with_reducible apply WA_block)))
        refine ⟨hk', trivial, ?_⟩
        rw [hst]
        (exact LeV [])
    · have t2 : decide ((k : Int) ≤ 15) = false := by simp; omega
      obtain rfl : k = 16 := by omega
      (repeat' (first | ((with_reducible apply WD_id); first | (refine WD_sum ?_) | (refine WD_nxt htb (by exact rfl) ?_) | (refine WD_ap htb ?_)) | (refine ct ?_) | (with_reducible apply WA_block)))
      refine ⟨hi', trivial, ?_⟩
      (exact LeV [])
  · have t1 : decide ((i : Int) < 8) = false := by simp; omega
    obtain rfl : i = 8 := by omega
    rw [srT_end]
    (repeat' (first | ((with_reducible apply WD_id); first | (refine WD_sum ?_) | (refine WD_nxt htb (by exact rfl) ?_) | (refine WD_ap htb ?_)) | (refine ct ?_) | (with_reducible apply WA_block)))
    refine gL (.inr rfl) (T' := [(2, lC (sortC l))]) (M' := [(9, .dead)]) ?_ rfl rfl ⟨rfl, trivial⟩
    (exact LeV [])
theorem sor17O_m (a b : List Cl) (hl : a.length ≤ 1000 ∧ b.length ≤ 1000) : FnM Tryz.prog 36 [(9, .arr 86 2 (a.map rC ++ b.map rC))] [.own 9] (lC (sortC (a ++ b))) [(9, .dead)] := by
  have := sor17L_m (a ++ b) (by simp; omega)
  rw [List.map_append] at this
  exact this
theorem uni17_m (a b : List Cl) (hl : a.length ≤ 1000 ∧ b.length ≤ 1000) : FnM Tryz.prog 16 [] [lC a, lC b] (lC (sortC (a ++ b))) [] := by
  refine FnM.of htb Tryz.func16 rfl rfl rfl rfl rfl fun cx hN h0 => ?_
  (repeat' (first | ((with_reducible apply WD_id); first | (refine WD_nxt htb (by exact rfl) ?_) | (refine WD_call (by exact rfl) ?_; first | (refine WD_cM (sor17O_m (a := a) (b := b) ?_) ?_; (exact hyp))) | (refine WD_ap htb ?_)) | (refine ct ?_) | (with_reducible apply WA_block)))
  exact gE (.inr rfl) rfl rfl trivial
theorem neC_self (x : Cl) : (!decide (x = x)) = false := by simp
theorem sm17_m (l : List Cl) (hl : l.length ≤ 10000) : FnM Tryz.prog 15 [] [lC l, lC l] (vB true) [] := by
  have t0 : ((l.length : Int) != (l.length : Int)) = false := by simp
  refine FnM.of htb Tryz.func15 rfl rfl rfl rfl rfl fun cx hN h0 => ?_
  (repeat' (first | ((with_reducible apply WD_id); first | (refine WD_sum ?_) | (refine WD_nxt htb (by exact rfl) ?_) | (refine WD_idx htb ?_)) | (refine ct ?_) | (with_reducible apply WA_block)))
  (refine WA_forV (l.length) [13] [] (fun k => [(13, vI k)]) (fun k => []) (fun k => True) ?h0 ?_)
  case h0 => trivial
  intro k hk _
  rcases Nat.lt_or_ge k l.length with hk' | hk'
  · have t1 : decide ((k : Int) < (l.length : Int)) = true := by simp; omega
    have t2 := neC_self (nth l k)
    (repeat' (first | ((with_reducible apply WD_id); first | (refine WD_sum ?_) | (refine WD_nxt htb (by exact rfl) ?_) | (refine WD_eq ((neC_step (a := nth l k) (b := nth l k)) rfl rfl rfl) ?_) | (refine WD_idx htb ?_)) | (refine ct ?_) | (with_reducible apply WA_block)))
    refine ⟨hk', trivial, ?_⟩
    (exact LeV [])
  · have t1 : decide ((k : Int) < (l.length : Int)) = false := by simp; omega
    (repeat' (first | ((with_reducible apply WD_id); first | (refine WD_sum ?_) | (refine WD_nxt htb (by exact rfl) ?_) | (refine WD_idx htb ?_)) | (refine ct ?_) | (with_reducible apply WA_block)))
    exact gE (.inr rfl) rfl rfl trivial
end Go.Proofs.YtdhogcklnehdhaaGreatDoor
/- Contracts: drawn claims and scripts. -/
namespace Go.Proofs.YtdhogcklnehdhaaGreatDoor
set_option linter.unusedSimpArgs false
set_option linter.unusedVariables false
set_option linter.unnecessarySimpa false
set_option linter.unusedSectionVars false
set_option maxRecDepth 100000
open Go Go.RowKit Go.Am Go.Proofs.Grow
theorem clm_m (s : Sc) (hs : s.ok) : FnM Tryz.prog 95 [(9000, tpB s)] [.ptr 9000 0] (aC (clmD s).1) [(9000, tpB (clmD s).2)] := by
  have hs1 := Sc.ok_x hs 30
  have dA_m := tN_m s 30 hs (by decide) (by decide)
  have dP_m := tP_m (s.x 30) pkA hs1 (by decide) (by decide)
  rw [show ((pkA.length : Nat) : Int) = 4 from rfl] at dP_m
  have dQ_m := tP_m ((s.x 30).x 4) pkB (Sc.ok_x hs1 4) (by decide) (by decide)
  rw [show ((pkB.length : Nat) : Int) = 4 from rfl] at dQ_m
  have dB_m := tN_m (s.x 30) 3 hs1 (by decide) (by decide)
  have dC_m := tN_m ((s.x 30).x 3) 3 (Sc.ok_x hs1 3) (by decide) (by decide)
  unfold clmD
  by_cases h : s.n 30 = 29
  · have t1 : (s.n 30 == 29) = true := by simpa using h
    rw [if_pos h]
    refine FnM.of htb Tryz.func95 rfl rfl rfl rfl rfl fun cx hN h0 => ?_
    (repeat' (first | ((with_reducible apply WD_id); first | (refine WD_nxt htb (by exact rfl) ?_) | (refine WD_call (by exact rfl) ?_; first | (refine WD_cM (dA_m) ?_) | (refine WD_cM (dP_m) ?_) | (refine WD_cM (dQ_m) ?_))) | (refine ct ?_) | (with_reducible apply WA_block)))
    (exact glV [(2, .ptr 2 0)] [(2, .box 86 [vI (nth pkA ((s.x 30).n 4).toNat), vI (nth pkB (((s.x 30).x 4).n 4).toNat)]), (9000, tpB (((s.x 30).x 4).x 4))] (LeV []))
  · have t1 : (s.n 30 == 29) = false := by simpa using h
    rw [if_neg h]
    refine FnM.of htb Tryz.func95 rfl rfl rfl rfl rfl fun cx hN h0 => ?_
    (repeat' (first | ((with_reducible apply WD_id); first | (refine WD_nxt htb (by exact rfl) ?_) | (refine WD_call (by exact rfl) ?_; first | (refine WD_cM (dA_m) ?_) | (refine WD_cM (dB_m) ?_) | (refine WD_cM (dC_m) ?_))) | (refine ct ?_) | (with_reducible apply WA_block)))
    (exact glV [(2, .ptr 2 0)] [(2, .box 86 [vI ((s.x 30).n 3), vI (((s.x 30).x 3).n 3)]), (9000, tpB (((s.x 30).x 3).x 3))] (LeV []))
theorem cls_m (s : Sc) (hs : s.ok) : FnM Tryz.prog 37 [(9000, tpB s)] [.ptr 9000 0, vI 3] (lC (clsD (s.n 4).toNat (s.x 4) []).1) [(9000, tpB (clsD (s.n 4).toNat (s.x 4) []).2)] := by
  have hs1 := Sc.ok_x hs 4
  have hb := s.n_bd (k := 4) (by omega)
  have dA := tN_m s 4 hs (by decide) (by decide)
  obtain ⟨i, hi⟩ : ∃ i : Nat, s.n 4 = (i : Int) := ⟨(s.n 4).toNat, by omega⟩
  rw [hi] at dA ⊢
  rw [Int.toNat_natCast]
  have dA_m := dA
  generalize s.x 4 = s1 at *
  have hi4 : i < 4 := by omega
  refine FnM.of htb Tryz.func37 rfl rfl rfl rfl rfl fun cx hN h0 => ?_
  (repeat' (first | ((with_reducible apply WD_id); first | (refine WD_sum ?_) | (refine WD_nxt htb (by exact rfl) ?_) | (refine WD_call (by exact rfl) ?_; first | (refine WD_cM (dA_m) ?_)) | (refine WD_ap htb ?_)) | (refine ct ?_) | (with_reducible apply WA_block)))
  refine WA_le (Le_nilT 60 5 86 2 rfl rfl) ?_
  (refine WA_anyV (α := Nat × Sc × List Cl) (fun x => x.1) ((i, s1, [])) [6, 5] [60, 9000] (fun x => [(6, vI ((x.1 : Nat) : Int)), (5, .own 60)]) (fun x => [(9000, tpB x.2.1), (60, .arr 86 2 (x.2.2.map rC))]) (fun x => x.1 ≤ 3 ∧ x.2.1.ok ∧ x.2.2.length + x.1 ≤ 10 ∧ clsD i s1 [] = clsD x.1 x.2.1 x.2.2) ?h0 ?_)
  case h0 => exact ⟨by dsimp only; omega, hs1, by dsimp only; simp; omega, rfl⟩
  rintro ⟨j, s2, o⟩ ⟨hj, g1, g2, hI⟩
  dsimp only at hj g1 g2 hI ⊢
  rw [hI]
  cases j with
  | succ j =>
    have t1 : decide (((j + 1 : Nat) : Int) > 0) = true := by simp <;> omega
    have ho : o.length ≤ 10 := by omega
    have g3 := clmD_ok g1
    (repeat' (first | ((with_reducible apply WD_id); first | (refine WD_sum ?_) | (refine WD_nxt htb (by exact rfl) ?_) | (refine WD_call (by exact rfl) ?_; first | (refine WD_cM (clm_m (s := s2) ?_) ?_; (exact hyp))) | (refine WD_ap htb ?_)) | (refine ct ?_) | (with_reducible apply WA_block)))
    refine ⟨(j, (clmD s2).2, o ++ [(clmD s2).1]), by dsimp only; omega, ⟨by dsimp only; omega, g3, by dsimp only; simp; omega, rfl⟩, ?_⟩
    rw [List.map_append, List.map_cons, List.map_nil]
    (exact LeV [(60, 19)])
  | zero =>
    have t1 : decide (((0 : Nat) : Int) > 0) = false := by simp
    (repeat' (first | ((with_reducible apply WD_id); first | (refine WD_sum ?_) | (refine WD_nxt htb (by exact rfl) ?_) | (refine WD_ap htb ?_)) | (refine ct ?_) | (with_reducible apply WA_block)))
    (exact glV [(4, lC o)] [(9000, tpB s2)] (LeV []))
end Go.Proofs.YtdhogcklnehdhaaGreatDoor
/- Contracts: drawn configurations in which all are declared. -/
namespace Go.Proofs.YtdhogcklnehdhaaGreatDoor
set_option linter.unusedSimpArgs false
set_option linter.unusedVariables false
set_option linter.unnecessarySimpa false
set_option linter.unusedSectionVars false
set_option maxRecDepth 100000
open Go Go.RowKit Go.Am Go.Proofs.Grow
theorem cfO_m (s : Sc) (n : Nat) (hs : s.ok) (h1 : 1 ≤ n) (h5 : n ≤ 5) : FnM Tryz.prog 27 [(9000, tpB s)] [.ptr 9000 0, vI (n : Int)] (.agg [.own 60]) [(9000, tpB (cfF s n).2), (60, .arr 53 4 ((cfF s n).1.map rMb))] := by
  have hb := rgN_bd (s := s) h1
  have rgF_m := tRg_m s n n hs h1 (by omega) rfl
  have hs1 := Sc.ok_x hs n
  unfold cfF
  generalize hm : rgN s n = m at *
  generalize hsa : s.x n = sa at *
  have nnD_m := tN_m sa 3 hs1 (by omega) (by omega)
  have hkb := sa.n_bd (k := 3) (by omega)
  have hs2 := Sc.ok_x hs1 3
  generalize hkind : sa.n 3 = kind at *
  generalize hsb : sa.x 3 = sb at *
  refine FnM.of htb Tryz.func27 rfl rfl rfl rfl rfl fun cx hN h0 => ?_
  (repeat' (first | ((with_reducible apply WD_id); first | (refine WD_sum ?_) | (refine WD_nxt htb (by exact rfl) ?_) | (refine WD_call (by exact rfl) ?_; first | (refine WD_cM (rgF_m) ?_) | (refine WD_cM (nnD_m) ?_)) | (refine WD_ap htb ?_)) | (refine ct ?_) | (with_reducible apply WA_block)))
  refine WA_le (Le_nilM 60 7 0 53 4 rfl rfl rfl rfl) ?_
  (refine WA_forV (m) [8] [7, 60, 9000] (fun k => [(8, vI k)]) (fun k => [(9000, tpB (cfT m kind k sb).2), (7, .box 27 [.own 60]), (60, .arr 53 4 ((cfT m kind k sb).1.map rMb))]) (fun k => True) ?h0 ?_)
  case h0 => trivial
  intro k hk _
  obtain ⟨g1, g2, g3⟩ := cfT_spec (kind := kind) hs2 hb.1 (by omega) k
  rcases Nat.lt_or_ge k m with hk' | hk'
  · have t1 : decide ((k : Int) < (m : Int)) = true := by simp; omega
    have hst : cfT m kind (k + 1) sb = ((cfT m kind k sb).1 ++ [if (tkF (cfT m kind k sb).2 m kind k).2.n 12 = 11 then ⟨false, .mk 0 [] []⟩ else ⟨true, (tkF (cfT m kind k sb).2 m kind k).1⟩], (tkF (cfT m kind k sb).2 m kind k).2.x 12) := rfl
    rw [hst]
    dsimp only
    generalize cfT m kind k sb = q at *
    obtain ⟨c, s1⟩ := q
    dsimp only at g1 g2 g3 ⊢
    obtain ⟨f1, f2⟩ := tkF_fit (k := k) (kind := kind) g3 hb.1 (by omega)
    have hcl : (c.map rMb).length ≤ 10 := by rw [List.length_map]; omega
    have nnE_m := tN_m (tkF s1 m kind k).2 12 f2 (by omega) (by omega)
    have trX := tr_m s1 m g3 hb.1 (by omega)
    have mosX := mos_m s1 m g3 hb.1 (by omega)
    have groX := gro_m s1 m k g3 hb.1 (by omega) (by omega)
    by_cases k0 : kind = 0
    · have t2 : (kind == 0) = true := by simpa using k0
      have e : tkF s1 m kind k = trF s1 m := by unfold tkF; rw [if_pos k0]
      rw [← e] at trX
      have trX_m := trX
      generalize tkF s1 m kind k = q at *
      obtain ⟨t, s2⟩ := q
      dsimp only at *
      by_cases hx : s2.n 12 = 11
      · have t4 : (s2.n 12 == 11) = true := by simpa using hx
        rw [if_pos hx]
        (repeat' (first | ((with_reducible apply WD_id); first | (refine WD_sum ?_) | (refine WD_nxt htb (by exact rfl) ?_) | (refine WD_call (by exact rfl) ?_; first | (refine WD_cM (trX_m) ?_) | (refine WD_cM (nnE_m) ?_)) | (refine WD_ap htb ?_)) | (refine ct ?_) | (with_reducible apply WA_block)))
        refine ⟨hk', trivial, Le.trans (Le_norm 42 rfl rMb_blank) ?_⟩
        rw [List.map_append, List.map_cons, List.map_nil]
        (exact LeV [(60, 42)])
      · have t4 : (s2.n 12 == 11) = false := by simpa using hx
        rw [if_neg hx]
        (repeat' (first | ((with_reducible apply WD_id); first | (refine WD_sum ?_) | (refine WD_nxt htb (by exact rfl) ?_) | (refine WD_call (by exact rfl) ?_; first | (refine WD_cM (trX_m) ?_) | (refine WD_cM (nnE_m) ?_)) | (refine WD_ap htb ?_)) | (refine ct ?_) | (with_reducible apply WA_block)))
        refine ⟨hk', trivial, ?_⟩
        rw [List.map_append, List.map_cons, List.map_nil]
        (exact LeV [(60, 49)])
    · have t2 : (kind == 0) = false := by simpa using k0
      by_cases k1 : kind = 1
      · have t3 : (kind == 1) = true := by simpa using k1
        have e : tkF s1 m kind k = mosF s1 m := by unfold tkF; rw [if_neg k0, if_pos k1]
        rw [← e] at mosX
        have mosX_m := mosX
        generalize tkF s1 m kind k = q at *
        obtain ⟨t, s2⟩ := q
        dsimp only at *
        by_cases hx : s2.n 12 = 11
        · have t4 : (s2.n 12 == 11) = true := by simpa using hx
          rw [if_pos hx]
          (repeat' (first | ((with_reducible apply WD_id); first | (refine WD_sum ?_) | (refine WD_nxt htb (by exact rfl) ?_) | (refine WD_call (by exact rfl) ?_; first | (refine WD_cM (mosX_m) ?_) | (refine WD_cM (nnE_m) ?_)) | (refine WD_ap htb ?_)) | (refine ct ?_) | (with_reducible apply WA_block)))
          refine ⟨hk', trivial, Le.trans (Le_norm 42 rfl rMb_blank) ?_⟩
          rw [List.map_append, List.map_cons, List.map_nil]
          (exact LeV [(60, 42)])
        · have t4 : (s2.n 12 == 11) = false := by simpa using hx
          rw [if_neg hx]
          (repeat' (first | ((with_reducible apply WD_id); first | (refine WD_sum ?_) | (refine WD_nxt htb (by exact rfl) ?_) | (refine WD_call (by exact rfl) ?_; first | (refine WD_cM (mosX_m) ?_) | (refine WD_cM (nnE_m) ?_)) | (refine WD_ap htb ?_)) | (refine ct ?_) | (with_reducible apply WA_block)))
          refine ⟨hk', trivial, ?_⟩
          rw [List.map_append, List.map_cons, List.map_nil]
          (exact LeV [(60, 49)])
      · have t3 : (kind == 1) = false := by simpa using k1
        have e : tkF s1 m kind k = groF s1 m k := by unfold tkF; rw [if_neg k0, if_neg k1]
        rw [← e] at groX
        have groX_m := groX
        generalize tkF s1 m kind k = q at *
        obtain ⟨t, s2⟩ := q
        dsimp only at *
        by_cases hx : s2.n 12 = 11
        · have t4 : (s2.n 12 == 11) = true := by simpa using hx
          rw [if_pos hx]
          (repeat' (first | ((with_reducible apply WD_id); first | (refine WD_sum ?_) | (refine WD_nxt htb (by exact rfl) ?_) | (refine WD_call (by exact rfl) ?_; first | (refine WD_cM (groX_m) ?_) | (refine WD_cM (nnE_m) ?_)) | (refine WD_ap htb ?_)) | (refine ct ?_) | (with_reducible apply WA_block)))
          refine ⟨hk', trivial, Le.trans (Le_norm 42 rfl rMb_blank) ?_⟩
          rw [List.map_append, List.map_cons, List.map_nil]
          (exact LeV [(60, 42)])
        · have t4 : (s2.n 12 == 11) = false := by simpa using hx
          rw [if_neg hx]
          (repeat' (first | ((with_reducible apply WD_id); first | (refine WD_sum ?_) | (refine WD_nxt htb (by exact rfl) ?_) | (refine WD_call (by exact rfl) ?_; first | (refine WD_cM (groX_m) ?_) | (refine WD_cM (nnE_m) ?_)) | (refine WD_ap htb ?_)) | (refine ct ?_) | (with_reducible apply WA_block)))
          refine ⟨hk', trivial, ?_⟩
          rw [List.map_append, List.map_cons, List.map_nil]
          (exact LeV [(60, 49)])
  · have t1 : decide ((k : Int) < (m : Int)) = false := by simp; omega
    obtain rfl : k = m := by omega
    (repeat' (first | ((with_reducible apply WD_id); first | (refine WD_sum ?_) | (refine WD_nxt htb (by exact rfl) ?_) | (refine WD_ap htb ?_)) | (refine ct ?_) | (with_reducible apply WA_block)))
    (exact glV [(4, .ptr 4 0)] [(4, .box 27 [.own 60]), (9000, tpB (cfT k kind k sb).2), (60, .arr 53 4 ((cfT k kind k sb).1.map rMb))] (LeV []))
theorem useQ_g : ∀ (d : Nat) (t : Tr) (hd : hT t ≤ d) (hs : sizT t ≤ 1000), FnM Tryz.prog 82 [] [aTr t] (vI (useT t)) [] := by
  intro d
  induction d with
  | zero => intro t hd; cases t; simp [hT] at hd
  | succ d ih =>
    intro t hd hs
    have hl := siz_len t
    have useQ_m : ∀ (x : Tr) (hx : hT x ≤ d ∧ sizT x ≤ 1000), FnM Tryz.prog 82 [] [aTr x] (vI (useT x)) [] := fun x hx => ih x hx.1 hx.2
    show FnM _ _ _ [.agg [vI t.k, lI t.ns, .d (.rows 3 (t.is.map rTr))]] _ _
    rw [rTr_p, useT_eq]
    refine FnM.of htb Tryz.func82 rfl rfl rfl rfl rfl fun cx hN h0 => ?_
    (repeat' (first | ((with_reducible apply WD_id); first | (refine WD_sum ?_) | (refine WD_nxt htb (by exact rfl) ?_) | (refine WD_idx htb ?_) | (refine WD_t (by exact rfl) (by exact rfl) (by exact known) fun hb => ?_; rw [hb]; clear hb) | (refine WD_f (by exact rfl) (by exact rfl) (by exact known) fun hb => ?_; rw [hb]; clear hb)) | (refine ct ?_) | (with_reducible apply WA_block)))
    (refine WA_forV (t.ns.length) [11, 3] [] (fun k => [(11, vI k), (3, vI (useI (t.ns.take k) 0))]) (fun k => []) (fun k => True) ?h0 ?_)
    case h0 => trivial
    intro k hk _
    rcases Nat.lt_or_ge k t.ns.length with hk' | hk'
    · have t1 : decide ((k : Int) < (t.ns.length : Int)) = true := by simp; omega
      have hw := useI_take (a := 0) hk'
      cases hx : nodeB (nth t.ns k) with
      | true =>
        have hx2 : 0 ≤ nth t.ns k ∧ nth t.ns k < 10 := by simpa [nodeB] using hx
        have hx3 := hx2.1
        have q1 : decide (nth t.ns k ≥ 0) = true := by simpa using hx2.1
        have q2 : decide (nth t.ns k < 10) = true := by simpa using hx2.2
        (repeat' (first | ((with_reducible apply WD_id); first | (refine WD_sum ?_) | (refine WD_nxt htb (by exact rfl) ?_) | (refine WD_eq (shl_step rfl rfl rfl) ?_) | (refine WD_eq (bor_step rfl rfl rfl) ?_) | (refine WD_idx htb ?_) | (refine WD_t (by exact rfl) (by exact rfl) (by exact known) fun hb => ?_; rw [hb]; clear hb) | (refine WD_f (by exact rfl) (by exact rfl) (by exact known) fun hb => ?_; rw [hb]; clear hb)) | (refine ct ?_) | (with_reducible apply WA_block)))
        refine ⟨hk', trivial, ?_⟩
        rw [hw, if_pos hx]
        (exact LeV [])
      | false =>
        by_cases q : nth t.ns k ≥ 0
        · have q1 : decide (nth t.ns k ≥ 0) = true := by simpa using q
          have q2 : decide (nth t.ns k < 10) = false := by
            simp only [nodeB, Bool.and_eq_false_iff, decide_eq_false_iff_not] at hx
            simp only [decide_eq_false_iff_not]; omega
          (repeat' (first | ((with_reducible apply WD_id); first | (refine WD_sum ?_) | (refine WD_nxt htb (by exact rfl) ?_) | (refine WD_idx htb ?_) | (refine WD_t (by exact rfl) (by exact rfl) (by exact known) fun hb => ?_; rw [hb]; clear hb) | (refine WD_f (by exact rfl) (by exact rfl) (by exact known) fun hb => ?_; rw [hb]; clear hb)) | (refine ct ?_) | (with_reducible apply WA_block)))
          refine ⟨hk', trivial, ?_⟩
          rw [hw, if_neg (by simp [hx])]
          (exact LeV [])
        · have q1 : decide (nth t.ns k ≥ 0) = false := by simpa using q
          (repeat' (first | ((with_reducible apply WD_id); first | (refine WD_sum ?_) | (refine WD_nxt htb (by exact rfl) ?_) | (refine WD_idx htb ?_) | (refine WD_t (by exact rfl) (by exact rfl) (by exact known) fun hb => ?_; rw [hb]; clear hb) | (refine WD_f (by exact rfl) (by exact rfl) (by exact known) fun hb => ?_; rw [hb]; clear hb)) | (refine ct ?_) | (with_reducible apply WA_block)))
          refine ⟨hk', trivial, ?_⟩
          rw [hw, if_neg (by simp [hx])]
          (exact LeV [])
    · have t1 : decide ((k : Int) < (t.ns.length : Int)) = false := by simp; omega
      have e1 : t.ns.take k = t.ns := take_all hk'
      rw [e1]
      (repeat' (first | ((with_reducible apply WD_id); first | (refine WD_sum ?_) | (refine WD_nxt htb (by exact rfl) ?_) | (refine WD_idx htb ?_) | (refine WD_t (by exact rfl) (by exact rfl) (by exact known) fun hb => ?_; rw [hb]; clear hb) | (refine WD_f (by exact rfl) (by exact rfl) (by exact known) fun hb => ?_; rw [hb]; clear hb)) | (refine ct ?_) | (with_reducible apply WA_block)))
      (refine WA_forV (t.is.length) [29, 3] [] (fun k => [(29, vI k), (3, vI (useL (t.is.take k) (useI t.ns 0)))]) (fun k => []) (fun k => True) ?h0 ?_)
      case h0 => trivial
      intro k2 hk2 _
      rcases Nat.lt_or_ge k2 t.is.length with hk2' | hk2'
      · have t2 : decide ((k2 : Int) < (t.is.length : Int)) = true := by simp; omega
        have hw := useL_take (a := useI t.ns 0) hk2'
        have hm := nth_mem t.is k2 hk2'
        have hx : hT (nth t.is k2) ≤ d ∧ sizT (nth t.is k2) ≤ 1000 := by have := hT_mem hm; have := siz_mem hm; omega
        (repeat' (first | ((with_reducible apply WD_id); first | (refine WD_sum ?_) | (refine WD_nxt htb (by exact rfl) ?_) | (refine WD_call (by exact rfl) ?_; first | (refine WD_c0 (useQ_m _ ?_) ?_; (exact hyp))) | (refine WD_eq (bor_step rfl rfl rfl) ?_) | (refine WD_idx htb ?_) | (refine WD_t (by exact rfl) (by exact rfl) (by exact known) fun hb => ?_; rw [hb]; clear hb) | (refine WD_f (by exact rfl) (by exact rfl) (by exact known) fun hb => ?_; rw [hb]; clear hb)) | (refine ct ?_) | (with_reducible apply WA_block)))
        refine ⟨hk2', trivial, ?_⟩
        rw [hw]
        (exact LeV [])
      · have t2 : decide ((k2 : Int) < (t.is.length : Int)) = false := by simp; omega
        have e2 : t.is.take k2 = t.is := take_all hk2'
        rw [e2]
        (repeat' (first | ((with_reducible apply WD_id); first | (refine WD_sum ?_) | (refine WD_nxt htb (by exact rfl) ?_) | (refine WD_idx htb ?_) | (refine WD_t (by exact rfl) (by exact rfl) (by exact known) fun hb => ?_; rw [hb]; clear hb) | (refine WD_f (by exact rfl) (by exact rfl) (by exact known) fun hb => ?_; rw [hb]; clear hb)) | (refine ct ?_) | (with_reducible apply WA_block)))
        exact gE (.inr rfl) rfl rfl trivial
theorem useQ_t (t : Tr) (hs : sizT t ≤ 1000) : FnM Tryz.prog 82 [] [aTr t] (vI (useT t)) [] := useQ_g _ t (Nat.le_refl _) hs
theorem vr6_m (c : List Mb) (hc : FullC c) : FnM Tryz.prog 28 [] [aCf c] (vI 0) [] := by
  have hl := hc.len
  have hl2 : c.length ≤ 61 := by omega
  have t0 : decide (((c.length : Nat) : Int) > 10) = false := by simp only [decide_eq_false_iff_not]; omega
  have t9 : ((0 : Int) != 0) = false := rfl
  have t8 : (!true) = false := rfl
  refine FnM.of htb Tryz.func28 rfl rfl rfl rfl rfl fun cx hN h0 => ?_
  (repeat' (first | ((with_reducible apply WD_id); first | (refine WD_sum ?_) | (refine WD_nxt htb (by exact rfl) ?_) | (refine WD_idx htb ?_)) | (refine ct ?_) | (with_reducible apply WA_block)))
  (refine WA_forV (c.length) [13] [] (fun k => [(13, vI k)]) (fun k => []) (fun k => True) ?h0 ?_)
  case h0 => trivial
  intro k hk _
  rcases Nat.lt_or_ge k c.length with hk' | hk'
  · have t1 : decide ((k : Int) < (c.length : Int)) = true := by simp; omega
    have hd := hc.decl k hk'
    have hf := hc.fit k hk'
    have hs := hf.siz
    have t3 : (!(nth c k).decl) = false := by rw [hd]; rfl
    have useZ_m := useQ_t (nth c k).t (by omega)
    have chkS := chkR_m (nth c k).t (by omega)
    rw [hf.chk] at chkS
    have chkS_m := chkS
    have t2 : decide (useT (nth c k).t ≥ ((2 ^ c.length : Nat) : Int)) = false := by have := hf.use; simp only [decide_eq_false_iff_not]; omega
    (repeat' (first | ((with_reducible apply WD_id); first | (refine WD_sum ?_) | (refine WD_nxt htb (by exact rfl) ?_) | (refine WD_call (by exact rfl) ?_; first | (refine WD_c0 (chkS_m) ?_) | (refine WD_c0 (useZ_m) ?_)) | (refine WD_eq (shlN_step rfl rfl rfl) ?_) | (refine WD_idx htb ?_)) | (refine ct ?_) | (with_reducible apply WA_block)))
    refine ⟨hk', trivial, ?_⟩
    (exact LeV [])
  · have t1 : decide ((k : Int) < (c.length : Int)) = false := by simp; omega
    (repeat' (first | ((with_reducible apply WD_id); first | (refine WD_sum ?_) | (refine WD_nxt htb (by exact rfl) ?_) | (refine WD_idx htb ?_)) | (refine ct ?_) | (with_reducible apply WA_block)))
    exact gE (.inr rfl) rfl rfl trivial
theorem dn_set {r r' : List D} (h : DNs r r') : ∀ (rs : List (List D)) (i : Nat), DNs (rs.set i r).flatten (rs.set i r').flatten
  | [], _ => DNs.refl _
  | x :: rs, 0 => DNs.append h (DNs.refl _)
  | x :: rs, i + 1 => DNs.append (DNs.refl x) (dn_set h rs i)
theorem mbS_dn (k n : Nat) : DNs [.v (.bool true), .v (.int .i64 1), .rows 1 (([k, (k + 1) % n] : List Nat).map rN), .v (.slice none 0 0)] (rMb (mbS k n)) :=
  DNs.cons (.refl _) (DNs.cons (.refl _) (DNs.cons (.refl _) (DNs.cons (.nil 3) DNs.nil)))
set_option maxHeartbeats 2000000 in
theorem full_m (s : Sc) (n : Nat) (hs : s.ok) (h1 : 2 ≤ n) (h5 : n ≤ 5) : FnM Tryz.prog 6 [(9000, tpB s)] [.ptr 9000 0, vI (n : Int)] (aCf (fulC (cfF s n).1)) [(9000, tpB (cfF s n).2)] := by
  obtain ⟨c1, c2, c3, c4⟩ := cfF_spec hs (by omega : 1 ≤ n) h5
  have cfX := cfO_m s n hs (by omega) h5
  generalize cfF s n = q at *
  obtain ⟨c, s1⟩ := q
  dsimp only at c1 c2 c3 c4 cfX ⊢
  have f1 : FullC (fulT (ful0 c) (ful0 c).length) := (full_spec c1 c2 h1 h5 c3).1
  show FnM _ _ _ _ (aCf (fulT (ful0 c) (ful0 c).length)) _
  obtain ⟨d1, d2, d3⟩ := ful0_spec c1 c2 h1 c3
  have d4 := fulT_spec d1 (by omega) d3
  obtain ⟨x0, L, e0, e1, e2, e3⟩ : ∃ (x0 : Nat) (L : Nat → List Mb), L x0 = c ∧ L 0 = ful0 c ∧ x0 ≤ 1 ∧ (x0 = 1 → (L 1).length < 2 ∧ L 0 = L 1 ++ [mb0]) := by
    by_cases e : c.length < 2
    · exact ⟨1, fun x => if x = 0 then ful0 c else c, by simp, by simp, by omega, fun _ => ⟨by simpa using e, by simp [ful0, e]⟩⟩
    · exact ⟨0, fun _ => c, rfl, by simp [ful0, e], by omega, fun h => by omega⟩
  rw [← e0] at cfX
  have cfX_m := cfX
  refine FnM.of htb Tryz.func6 rfl rfl rfl rfl rfl fun cx hN h0 => ?_
  (repeat' (first | ((with_reducible apply WD_id); first | (refine WD_sum ?_) | (refine WD_nxt htb (by exact rfl) ?_) | (refine WD_call (by exact rfl) ?_; first | (refine WD_cM (cfX_m) ?_)) | (refine WD_idxo htb ?_) | (refine WD_lde1 htb ?_) | (refine WD_ste htb ?_) | (refine WD_ap htb ?_) | (refine WD_rem ?_)) | (refine ct ?_) | (with_reducible apply WA_block)))
  (refine WA_anyV (α := Nat) (fun x => x) (x0) [9, 10, 11, 12, 13] [5, 60, 9000] (fun x => []) (fun x => [(9000, tpB s1), (5, .box 27 [.own 60]), (60, .arr 53 4 ((L x).map rMb))]) (fun x => x ≤ 1 ∧ (x = 1 → (L 1).length < 2 ∧ L 0 = L 1 ++ [mb0])) ?h0 ?_)
  case h0 => exact ⟨e2, e3⟩
  rintro x ⟨hx, hx2⟩
  obtain rfl | rfl : x = 1 ∨ x = 0 := by omega
  · obtain ⟨g1, g2⟩ := hx2 rfl
    have t1 : decide ((((L 1).length : Nat) : Int) < 2) = true := by simp only [decide_eq_true_eq]; omega
    (repeat' (first | ((with_reducible apply WD_id); first | (refine WD_sum ?_) | (refine WD_nxt htb (by exact rfl) ?_) | (refine WD_idxo htb ?_) | (refine WD_lde1 htb ?_) | (refine WD_ste htb ?_) | (refine WD_ap htb ?_) | (refine WD_rem ?_)) | (refine ct ?_) | (with_reducible apply WA_block)))
    refine ⟨0, by omega, ⟨by omega, fun h => by omega⟩, Le.trans (Le_norm 18 rfl rMb_blank) ?_⟩
    rw [g2, List.map_append, List.map_cons, List.map_nil]
    (exact LeV [(60, 18)])
  rw [e1]
  generalize ful0 c = d at *
  have t1 : decide (((d.length : Nat) : Int) < 2) = false := by simp only [decide_eq_false_iff_not]; omega
  (repeat' (first | ((with_reducible apply WD_id); first | (refine WD_sum ?_) | (refine WD_nxt htb (by exact rfl) ?_) | (refine WD_idxo htb ?_) | (refine WD_lde1 htb ?_) | (refine WD_ste htb ?_) | (refine WD_ap htb ?_) | (refine WD_rem ?_)) | (refine ct ?_) | (with_reducible apply WA_block)))
  (refine WA_forV (d.length) [23] [5, 60, 9000] (fun k => [(23, vI k)]) (fun k => [(9000, tpB s1), (5, .box 27 [.own 60]), (60, .arr 53 4 ((fulT d k).map rMb))]) (fun k => True) ?h0 ?_)
  case h0 => trivial
  intro k hk _
  obtain ⟨g1, g2, _⟩ := d4 k hk
  rcases Nat.lt_or_ge k d.length with hk' | hk'
  · have t2 : decide ((k : Int) < (d.length : Int)) = true := by simp; omega
    have hkl : k < (fulT d k).length := by omega
    have hst : fulT d (k + 1) = if (nth (fulT d k) k).decl = true then fulT d k else (fulT d k).set k (mbS k d.length) := rfl
    cases hd : (nth (fulT d k) k).decl with
    | true =>
      rw [hd, if_pos rfl] at hst
      have t3 : (!(nth (fulT d k) k).decl) = false := by rw [hd]; rfl
      (repeat' (first | ((with_reducible apply WD_id); first | (refine WD_sum ?_) | (refine WD_nxt htb (by exact rfl) ?_) | (refine WD_idxo htb ?_) | (refine WD_lde1 htb ?_) | (refine WD_ste htb ?_) | (refine WD_ap htb ?_) | (refine WD_rem ?_)) | (refine ct ?_) | (with_reducible apply WA_block)))
      rw [hst]
      refine ⟨hk', trivial, ?_⟩
      (exact LeV [])
    | false =>
      rw [hd, if_neg (by simp)] at hst
      have t3 : (!(nth (fulT d k) k).decl) = true := by rw [hd]; rfl
      (repeat' (first | ((with_reducible apply WD_id); first | (refine WD_sum ?_) | (refine WD_nxt htb (by exact rfl) ?_) | (refine WD_idxo htb ?_) | (refine WD_lde1 htb ?_) | (refine WD_ste htb ?_) | (refine WD_ap htb ?_) | (refine WD_rem ?_)) | (refine ct ?_) | (with_reducible apply WA_block)))
      have em : ((k : Int) + 1).tmod ((fulT d k).length : Int) = (((k + 1) % d.length : Nat) : Int) := by rw [g1]; rfl
      rw [em, hst]
      refine ⟨hk', trivial, Le.trans (Le_normR 60 (rs' := ((fulT d k).set k (mbS k d.length)).map rMb) rfl (by simp) (fun r hr => by obtain ⟨x, _, rfl⟩ := List.mem_map.1 hr; rfl) (by rw [← set_rMb]; exact dn_set (mbS_dn k d.length) _ _)) ?_⟩
      (exact LeV [])
  · have t2 : decide ((k : Int) < (d.length : Int)) = false := by simp; omega
    obtain rfl : k = d.length := by omega
    have t5 : ((0 : Int) != 0) = false := rfl
    (repeat' (first | ((with_reducible apply WD_id); first | (refine WD_sum ?_) | (refine WD_nxt htb (by exact rfl) ?_) | (refine WD_call (by exact rfl) ?_; first | (refine WD_c0 (vr6_m (c := fulT d d.length) ?_) ?_; (exact hyp))) | (refine WD_idxo htb ?_) | (refine WD_lde1 htb ?_) | (refine WD_ste htb ?_) | (refine WD_ap htb ?_) | (refine WD_rem ?_)) | (refine ct ?_) | (with_reducible apply WA_block)))
    (exact glV [(4, .ptr 4 0)] [(4, .box 27 (cellsOf (aCf (fulT d d.length)))), (9000, tpB s1)] (LeV []))
end Go.Proofs.YtdhogcklnehdhaaGreatDoor
/- Contract: drawn scripts. -/
namespace Go.Proofs.YtdhogcklnehdhaaGreatDoor
set_option linter.unusedSimpArgs false
set_option linter.unusedVariables false
set_option linter.unnecessarySimpa false
set_option linter.unusedSectionVars false
set_option maxRecDepth 100000
open Go Go.RowKit Go.Am Go.Proofs.Grow
structure Kq (K : Prop) : Prop where
  x : K
/-- A goal that is shown once, and used on several ways. -/
theorem shareW {K G : Prop} (pf : K) (use : Kq K → G) : G := use ⟨pf⟩
abbrev dN0 : D := .v (.slice none 0 0)
theorem pl_blank (kd a b c1 c2 : Int) : DNs [dI kd, dI a, dI b, dI c1, dI c2, dI 0, dN0, dN0, dI 0, dI 0, dI 0, dN0, dN0, dN0, dN0] (rPl ⟨kd, a, b, (c1, c2), .mk 0 [] [], ms0⟩) :=
  DNs.cons (.refl _) (DNs.cons (.refl _) (DNs.cons (.refl _) (DNs.cons (.refl _) (DNs.cons (.refl _) (DNs.cons (.refl _) (DNs.cons (.nil 1) (DNs.cons (.nil 3) (DNs.cons (.refl _) (DNs.cons (.refl _) (DNs.cons (.refl _) (DNs.cons (.nil 1) (DNs.cons (.nil 3) (DNs.cons (.nil 2) (DNs.cons (.nil 2) DNs.nil))))))))))))))
theorem lie_blank (f b q c1 c2 : Int) (A : List Cl) : DNs [dI 5, dI f, dI b, dI 0, dI 0, dI 0, dN0, dN0, dI f, dI q, dI 1, .rows 1 [[dI f]], dN0, .rows 2 [[dI c1, dI c2]], .rows 2 (A.map rC)] (rPl ⟨5, f, b, (0, 0), .mk 0 [] [], ⟨f, q, .mk 1 [f] [], [(c1, c2)], A⟩⟩) :=
  DNs.cons (.refl _) (DNs.cons (.refl _) (DNs.cons (.refl _) (DNs.cons (.refl _) (DNs.cons (.refl _) (DNs.cons (.refl _) (DNs.cons (.nil 1) (DNs.cons (.nil 3) (DNs.cons (.refl _) (DNs.cons (.refl _) (DNs.cons (.refl _) (DNs.cons (.refl _) (DNs.cons (.nil 3) (DNs.cons (.refl _) (DNs.cons (.refl _) DNs.nil))))))))))))))
theorem liaF_succ (ill m : Nat) : ∀ (k f : Nat), liaF ill m (k + 1) f = if ill.testBit (liaF ill m k f) = true then liaF ill m k f else (liaF ill m k f + 1) % m
  | 0, f => rfl
  | k + 1, f => by
    rw [liaF, liaF_succ ill m k]
    rfl
theorem shr_bit (s k : Nat) : (((s / 2 ^ k &&& 1 : Nat) : Int) == 0) = !s.testBit k := by
  rw [Nat.testBit, Nat.shiftRight_eq_div_pow, Nat.and_comm 1]
  have := Nat.and_one_is_mod (s / 2 ^ k)
  rcases Nat.mod_two_eq_zero_or_one (s / 2 ^ k) with h | h <;> simp [this, h]
theorem pk_cases {j : Nat} (h : j < 13) : nth pk13 j = 1 ∨ nth pk13 j = 2 ∨ nth pk13 j = 3 ∨ nth pk13 j = 4 ∨ nth pk13 j = 5 := by
  have : ∀ j ∈ List.range 13, nth pk13 j = 1 ∨ nth pk13 j = 2 ∨ nth pk13 j = 3 ∨ nth pk13 j = 4 ∨ nth pk13 j = 5 := by decide
  exact this j (List.mem_range.2 h)
set_option maxHeartbeats 4000000 in
theorem plays_m (s : Sc) (c : List Mb) (ill n : Nat) (hs : s.ok) (hb : (1 ≤ c.length ∧ c.length ≤ 5) ∧ n ≤ 100 ∧ ill < 1024) : FnM Tryz.prog 9 [(9000, tpB s)] [.ptr 9000 0, aCf c, vI (ill : Int), vI (n : Int), vB false] (lPl (plsF c.length ill n s).1) [(9000, tpB (plsF c.length ill n s).2)] := by
  obtain ⟨⟨h1, h5⟩, hn, hill⟩ := hb
  have hsp := fun k hk => plsF_spec (ill := ill) hs h1 (by omega : c.length ≤ 10) k hk
  refine FnM.of htb Tryz.func9 rfl rfl rfl rfl rfl fun cx hN h0 => ?_
  (repeat' (first | ((with_reducible apply WD_id); first | (refine WD_sum ?_) | (refine WD_nxt htb (by exact rfl) ?_) | (refine WD_ap htb ?_) | (refine WD_rem ?_)) | (refine ct ?_) | (with_reducible apply WA_block)))
  generalize c.length = m at *
  refine WA_le (Le_nilT 60 11 88 15 rfl rfl) ?_
  refine WA_le (s' := ⟨[(13, vI 0), (11, .own 60), (12, vI (m : Int)), (4, vB false), (3, vI (n : Int)), (2, vI (ill : Int)), (0, .ptr 9000 0)], [(9000, tpB s), (60, .arr 88 15 [])]⟩) (LeV []) ?_
  (refine WA_forV (n) [13, 11] [60, 9000] (fun k => [(13, vI k), (11, .own 60)]) (fun k => [(9000, tpB (plsF m ill k s).2), (60, .arr 88 15 ((plsF m ill k s).1.map rPl))]) (fun k => True) ?h0 ?_)
  case h0 => trivial
  intro k hk _
  obtain ⟨g1, _, g3⟩ := hsp k (by omega)
  rcases Nat.lt_or_ge k n with hk' | hk'
  · have d1 : decide ((k : Int) < (n : Int)) = true := by simp; omega
    have hst : plsF m ill (k + 1) s = ((plsF m ill k s).1 ++ [(plyF (plsF m ill k s).2 m ill k).1], (plyF (plsF m ill k s).2 m ill k).2) := rfl
    rw [hst]
    clear hst hsp
    generalize plsF m ill k s = p at *
    obtain ⟨l, s0⟩ := p
    dsimp only at g1 g3 ⊢
    have hll : l.length ≤ 100 := by omega
    have ba := s0.n_bd (k := m) (by omega)
    have bb := (s0.x m).n_bd (k := m) (by omega)
    have eA := tN_m s0 m g3 (by omega) (by omega)
    have eB := tN_m (s0.x m) m (Sc.ok_x g3 m) (by omega) (by omega)
    have hs2 : ((s0.x m).x m).ok := Sc.ok_x (Sc.ok_x g3 _) _
    obtain ⟨a, ha⟩ : ∃ a : Nat, s0.n m = (a : Int) := ⟨(s0.n m).toNat, by omega⟩
    obtain ⟨b0, hb0⟩ : ∃ b0 : Nat, (s0.x m).n m = (b0 : Int) := ⟨((s0.x m).n m).toNat, by omega⟩
    unfold plyF
    dsimp only
    rw [ha] at eA ba ⊢
    rw [hb0] at eB bb ⊢
    rw [Int.toNat_natCast, Int.toNat_natCast]
    generalize (s0.x m).x m = s2 at *
    have eA_m := eA
    have eB_m := eB
    have eP := tP_m s2 pk13 hs2 (by decide) (by decide)
    rw [show ((pk13.length : Nat) : Int) = 13 from rfl] at eP
    have bp := s2.n_bd (k := 13) (by omega)
    have hkc := pk_cases (j := (s2.n 13).toNat) (by omega)
    have eP_m := eP
    generalize nth pk13 (s2.n 13).toNat = kd at *
    have hs3 := Sc.ok_x hs2 13
    generalize s2.x 13 = s3 at *
    have hbm := othF_lt (a := a) h1 (by omega : b0 < m)
    have hob : othF a b0 m = if a = b0 then (b0 + 1) % m else b0 := rfl
    generalize othF a b0 m = b at *
    have em : ∀ z : Nat, ((z : Int) + 1).tmod (m : Int) = (((z + 1) % m : Nat) : Int) := fun z => rfl
    apply shareW
    case use =>
      intro key
      (repeat' (first | ((with_reducible apply WD_id); first | (refine WD_sum ?_) | (refine WD_nxt htb (by exact rfl) ?_) | (refine WD_call (by exact rfl) ?_; first | (refine WD_cM (eA_m) ?_) | (refine WD_cM (eB_m) ?_)) | (refine WD_ap htb ?_) | (refine WD_rem ?_)) | (refine ct ?_) | (with_reducible apply WA_block)))
      by_cases hab : a = b0
      · have t1 : ((a : Int) == (b0 : Int)) = true := by rw [hab]; simp
        (repeat' (first | (with_reducible apply WA_seq) | ((with_reducible apply gCt); exact rfl; exact rfl) | ((with_reducible apply gCf); exact rfl; exact rfl) | ((with_reducible apply gCk); exact rfl; exact known; intro hb; rw [hb]; clear hb) | ((with_reducible apply gCn); exact rfl; exact known; intro hb; rw [hb]; clear hb) | (with_reducible apply WA_block) | ((with_reducible first | apply WA_skip | apply WA_ret | apply WA_exit | apply WA_label); try simp only [thn, inB, List.length_map, List.cons_append, List.nil_append])))
        ((with_reducible apply gR hmix hN); exact (by kernel_rfl); (try dsimp only [List.append_eq, List.cons_append, List.nil_append]))
        (repeat' (first | ((with_reducible apply WD_id); first | (refine WD_sum ?_) | (refine WD_nxt htb (by exact rfl) ?_) | (refine WD_ap htb ?_) | (refine WD_rem ?_)) | ((with_reducible apply WD_end); (first | exact no_draw | (intro _; kernel_rfl)); try simp only [thn, inB, List.length_map, List.cons_append, List.nil_append])))
        (repeat' (first | (with_reducible apply WA_seq) | ((with_reducible apply gCt); exact rfl; exact rfl) | ((with_reducible apply gCf); exact rfl; exact rfl) | ((with_reducible apply gCk); exact rfl; exact known; intro hb; rw [hb]; clear hb) | ((with_reducible apply gCn); exact rfl; exact known; intro hb; rw [hb]; clear hb) | (with_reducible apply WA_block) | ((with_reducible first | apply WA_skip | apply WA_ret | apply WA_exit | apply WA_label); try simp only [thn, inB, List.length_map, List.cons_append, List.nil_append])))
        rw [em, show (b0 + 1) % m = b by rw [hob, if_pos hab]]
        refine WA_le (s' := ⟨[(14, .ptr 14 0), (13, vI k), (11, .own 60), (12, vI (m : Int)), (4, vB false), (3, vI (n : Int)), (2, vI (ill : Int)), (0, .ptr 9000 0)], [(14, .box 88 [vI 0, vI (a : Int), vI (b : Int), vI 0, vI 0, vI 0, .d dN0, .d dN0, vI 0, vI 0, vI 0, .d dN0, .d dN0, .d dN0, .d dN0]), (9000, tpB s2), (60, .arr 88 15 (l.map rPl))]⟩) (LeV []) ?_
        exact key.x
      · have t1 : ((a : Int) == (b0 : Int)) = false := by rw [beq_eq_false_iff_ne]; omega
        (repeat' (first | (with_reducible apply WA_seq) | ((with_reducible apply gCt); exact rfl; exact rfl) | ((with_reducible apply gCf); exact rfl; exact rfl) | ((with_reducible apply gCk); exact rfl; exact known; intro hb; rw [hb]; clear hb) | ((with_reducible apply gCn); exact rfl; exact known; intro hb; rw [hb]; clear hb) | (with_reducible apply WA_block) | ((with_reducible first | apply WA_skip | apply WA_ret | apply WA_exit | apply WA_label); try simp only [thn, inB, List.length_map, List.cons_append, List.nil_append])))
        rw [show b0 = b by rw [hob, if_neg hab]]
        refine WA_le (s' := ⟨[(14, .ptr 14 0), (13, vI k), (11, .own 60), (12, vI (m : Int)), (4, vB false), (3, vI (n : Int)), (2, vI (ill : Int)), (0, .ptr 9000 0)], [(14, .box 88 [vI 0, vI (a : Int), vI (b : Int), vI 0, vI 0, vI 0, .d dN0, .d dN0, vI 0, vI 0, vI 0, .d dN0, .d dN0, .d dN0, .d dN0]), (9000, tpB s2), (60, .arr 88 15 (l.map rPl))]⟩) (LeV []) ?_
        exact key.x
    clear eA eB eA_m eB_m hob hb0 ha bb
    rcases hkc with rfl | rfl | rfl | rfl | rfl
    · have t1 : ((1 : Int) == 1) = true := rfl
      have eC_m := tN_m s3 2 hs3 (by omega) (by omega)
      have eD_m := tN_m (s3.x 2) 2 (Sc.ok_x hs3 _) (by omega) (by omega)
      rw [if_pos rfl]
      dsimp only
      (repeat' (first | ((with_reducible apply WD_id); first | (refine WD_sum ?_) | (refine WD_nxt htb (by exact rfl) ?_) | (refine WD_call (by exact rfl) ?_; first | (refine WD_cM (eP_m) ?_) | (refine WD_cM (eC_m) ?_) | (refine WD_cM (eD_m) ?_)) | (refine WD_ap htb ?_) | (refine WD_rem ?_)) | (refine ct ?_) | (with_reducible apply WA_block)))
      refine ⟨hk', trivial, Le.trans (Le_norm 135 rfl (pl_blank _ _ _ _ _)) ?_⟩
      rw [List.map_append, List.map_cons, List.map_nil]
      (exact LeV [(60, 135)])
    · have t1 : ((2 : Int) == 1) = false := rfl
      have t2 : ((2 : Int) == 2) = true := rfl
      rw [if_neg (by decide), if_pos rfl]
      dsimp only
      (repeat' (first | ((with_reducible apply WD_id); first | (refine WD_sum ?_) | (refine WD_nxt htb (by exact rfl) ?_) | (refine WD_call (by exact rfl) ?_; first | (refine WD_cM (eP_m) ?_)) | (refine WD_ap htb ?_) | (refine WD_rem ?_)) | (refine ct ?_) | (with_reducible apply WA_block)))
      refine ⟨hk', trivial, Le.trans (Le_norm 135 rfl (pl_blank _ _ _ _ _)) ?_⟩
      rw [List.map_append, List.map_cons, List.map_nil]
      (exact LeV [(60, 135)])
    · have t1 : ((3 : Int) == 1) = false := rfl
      have t2 : ((3 : Int) == 2) = false := rfl
      have t3 : ((3 : Int) == 3) = true := rfl
      have t4 : (!false) = true := rfl
      rw [if_neg (by decide), if_neg (by decide), if_pos rfl]
      dsimp only
      (repeat' (first | ((with_reducible apply WD_id); first | (refine WD_sum ?_) | (refine WD_nxt htb (by exact rfl) ?_) | (refine WD_call (by exact rfl) ?_; first | (refine WD_cM (eP_m) ?_)) | (refine WD_ap htb ?_) | (refine WD_rem ?_)) | (refine ct ?_) | (with_reducible apply WA_block)))
      refine ⟨hk', trivial, Le.trans (Le_norm 135 rfl (pl_blank _ _ _ _ _)) ?_⟩
      rw [List.map_append, List.map_cons, List.map_nil]
      (exact LeV [(60, 135)])
    · have t1 : ((4 : Int) == 1) = false := rfl
      have t2 : ((4 : Int) == 2) = false := rfl
      have t3 : ((4 : Int) == 3) = false := rfl
      have t4 : ((4 : Int) == 4) = true := rfl
      have eC_m := tN_m s3 4 hs3 (by omega) (by omega)
      rw [if_neg (by decide), if_neg (by decide), if_neg (by decide), if_pos rfl]
      dsimp only
      by_cases hz : s3.n 4 = 0
      · have t5 : (s3.n 4 == 0) = true := by simpa using hz
        rw [if_pos hz]
        (repeat' (first | ((with_reducible apply WD_id); first | (refine WD_sum ?_) | (refine WD_nxt htb (by exact rfl) ?_) | (refine WD_call (by exact rfl) ?_; first | (refine WD_cM (eP_m) ?_) | (refine WD_cM (eC_m) ?_)) | (refine WD_ap htb ?_) | (refine WD_rem ?_)) | (refine ct ?_) | (with_reducible apply WA_block)))
        refine ⟨hk', trivial, Le.trans (Le_norm 135 rfl (pl_blank _ _ _ _ _)) ?_⟩
        rw [List.map_append, List.map_cons, List.map_nil]
        (exact LeV [(60, 135)])
      · have t5 : (s3.n 4 == 0) = false := by simpa using hz
        rw [if_neg hz]
        (repeat' (first | ((with_reducible apply WD_id); first | (refine WD_sum ?_) | (refine WD_nxt htb (by exact rfl) ?_) | (refine WD_call (by exact rfl) ?_; first | (refine WD_cM (eP_m) ?_) | (refine WD_cM (eC_m) ?_)) | (refine WD_ap htb ?_) | (refine WD_rem ?_)) | (refine ct ?_) | (with_reducible apply WA_block)))
        refine ⟨hk', trivial, Le.trans (Le_norm 135 rfl (pl_blank _ _ _ _ _)) ?_⟩
        rw [List.map_append, List.map_cons, List.map_nil]
        (exact LeV [(60, 135)])
    · have t1 : ((5 : Int) == 1) = false := rfl
      have t2 : ((5 : Int) == 2) = false := rfl
      have t3 : ((5 : Int) == 3) = false := rfl
      have t4 : ((5 : Int) == 4) = false := rfl
      rw [if_neg (by decide), if_neg (by decide), if_neg (by decide), if_neg (by decide)]
      (repeat' (first | ((with_reducible apply WD_id); first | (refine WD_sum ?_) | (refine WD_nxt htb (by exact rfl) ?_) | (refine WD_call (by exact rfl) ?_; first | (refine WD_cM (eP_m) ?_)) | (refine WD_ap htb ?_) | (refine WD_rem ?_)) | (refine ct ?_) | (with_reducible apply WA_block)))
      (refine WA_forV (m) [15] [14, 9000] (fun k => [(15, vI k)]) (fun k => [(9000, tpB s3), (14, .box 88 [vI 5, vI (liaF ill m k a : Int), vI (b : Int), vI 0, vI 0, vI 0, .d dN0, .d dN0, vI 0, vI 0, vI 0, .d dN0, .d dN0, .d dN0, .d dN0])]) (fun k => True) ?h0 ?_)
      case h0 => trivial
      intro j hj _
      have hfm := liaF_lt (ill := ill) h1 j a (by omega)
      rcases Nat.lt_or_ge j m with hj' | hj'
      · have t5 : decide ((j : Int) < (m : Int)) = true := by simp; omega
        have hls := liaF_succ ill m j a
        have hsb := shr_bit ill (liaF ill m j a)
        have hf61 : liaF ill m j a ≤ 61 := by omega
        have hq : ill / 2 ^ liaF ill m j a < 4611686018427387904 := Nat.lt_of_le_of_lt (Nat.div_le_self _ _) (by omega)
        rw [hls]
        generalize liaF ill m j a = f at *
        cases hbt : ill.testBit f with
        | true =>
          rw [hbt] at hsb
          rw [if_pos rfl]
          have hsb2 : (((ill / 2 ^ f &&& 1 : Nat) : Int) == 0) = false := hsb
          (repeat' (first | ((with_reducible apply WD_id); first | (refine WD_sum ?_) | (refine WD_nxt htb (by exact rfl) ?_) | (refine WD_eq (shrN_step rfl rfl rfl) ?_) | (refine WD_eq (band1_step rfl rfl rfl) ?_) | (refine WD_ap htb ?_) | (refine WD_rem ?_)) | (refine ct ?_) | (with_reducible apply WA_block)))
          refine ⟨hj', trivial, ?_⟩
          (exact LeV [])
        | false =>
          rw [hbt] at hsb
          rw [if_neg (by simp)]
          have hsb2 : (((ill / 2 ^ f &&& 1 : Nat) : Int) == 0) = true := hsb
          (repeat' (first | ((with_reducible apply WD_id); first | (refine WD_sum ?_) | (refine WD_nxt htb (by exact rfl) ?_) | (refine WD_eq (shrN_step rfl rfl rfl) ?_) | (refine WD_eq (band1_step rfl rfl rfl) ?_) | (refine WD_ap htb ?_) | (refine WD_rem ?_)) | (refine ct ?_) | (with_reducible apply WA_block)))
          rw [em]
          refine ⟨hj', trivial, ?_⟩
          (exact LeV [])
      · have t5 : decide ((j : Int) < (m : Int)) = false := by simp; omega
        obtain rfl : j = m := by omega
        generalize liaF ill j j a = f at *
        unfold liePF
        dsimp only
        have eC_m := tN_m s3 2 hs3 (by omega) (by omega)
        have eD_m := tN_m (s3.x 2) 2 (Sc.ok_x hs3 _) (by omega) (by omega)
        have hs5 : ((s3.x 2).x 2).ok := Sc.ok_x (Sc.ok_x hs3 _) _
        generalize (s3.x 2).n 2 = y at *
        generalize (s3.x 2).x 2 = s5 at *
        have eE_m := tN_m s5 3 hs5 (by omega) (by omega)
        have hs6 := Sc.ok_x hs5 3
        have hcl := (clsD_spec ((s5.x 3).n 4).toNat ((s5.x 3).x 4) [] (Sc.ok_x hs6 4)).2
        have hcb := (s5.x 3).n_bd (k := 4) (by omega)
        have hcl2 : (clsD ((s5.x 3).n 4).toNat ((s5.x 3).x 4) []).1.length ≤ 10000 := by rw [hcl]; simp; omega
        by_cases hz : s5.n 3 = 0
        · have t6 : (s5.n 3 == 0) = true := by simpa using hz
          rw [if_pos hz, if_pos hz]
          by_cases hfb : f = b
          · have t7 : ((f : Int) == (b : Int)) = true := by rw [hfb]; simp
            rw [show othF f b j = (b + 1) % j by unfold othF; rw [if_pos hfb]]
            (repeat' (first | ((with_reducible apply WD_id); first | (refine WD_sum ?_) | (refine WD_nxt htb (by exact rfl) ?_) | (refine WD_call (by exact rfl) ?_; first | (refine WD_cM (eC_m) ?_) | (refine WD_cM (eD_m) ?_) | (refine WD_cM (eE_m) ?_) | (refine WD_cM (cls_m (s := s5.x 3) ?_) ?_; (exact hyp)) | (refine WD_c0 (sor17_m _ ?_) ?_; (exact hyp))) | (refine WD_ap htb ?_) | (refine WD_rem ?_)) | (refine ct ?_) | (with_reducible apply WA_block)))
            rw [em]
            refine ⟨hk', trivial, Le.trans (Le_norm 135 rfl (lie_blank _ _ _ _ _ _)) ?_⟩
            rw [List.map_append, List.map_cons, List.map_nil]
            (exact LeV [(60, 135)])
          · have t7 : ((f : Int) == (b : Int)) = false := by rw [beq_eq_false_iff_ne]; omega
            rw [show othF f b j = b by unfold othF; rw [if_neg hfb]]
            (repeat' (first | ((with_reducible apply WD_id); first | (refine WD_sum ?_) | (refine WD_nxt htb (by exact rfl) ?_) | (refine WD_call (by exact rfl) ?_; first | (refine WD_cM (eC_m) ?_) | (refine WD_cM (eD_m) ?_) | (refine WD_cM (eE_m) ?_) | (refine WD_cM (cls_m (s := s5.x 3) ?_) ?_; (exact hyp)) | (refine WD_c0 (sor17_m _ ?_) ?_; (exact hyp))) | (refine WD_ap htb ?_) | (refine WD_rem ?_)) | (refine ct ?_) | (with_reducible apply WA_block)))
            refine ⟨hk', trivial, Le.trans (Le_norm 135 rfl (lie_blank _ _ _ _ _ _)) ?_⟩
            rw [List.map_append, List.map_cons, List.map_nil]
            (exact LeV [(60, 135)])
        · have t6 : (s5.n 3 == 0) = false := by simpa using hz
          rw [if_neg hz, if_neg hz]
          by_cases hfb : f = b
          · have t7 : ((f : Int) == (b : Int)) = true := by rw [hfb]; simp
            rw [show othF f b j = (b + 1) % j by unfold othF; rw [if_pos hfb]]
            (repeat' (first | ((with_reducible apply WD_id); first | (refine WD_sum ?_) | (refine WD_nxt htb (by exact rfl) ?_) | (refine WD_call (by exact rfl) ?_; first | (refine WD_cM (eC_m) ?_) | (refine WD_cM (eD_m) ?_) | (refine WD_cM (eE_m) ?_)) | (refine WD_ap htb ?_) | (refine WD_rem ?_)) | (refine ct ?_) | (with_reducible apply WA_block)))
            rw [em]
            refine ⟨hk', trivial, Le.trans (Le_norm 135 rfl (lie_blank _ _ _ _ _ [(s3.n 2, y)])) ?_⟩
            rw [List.map_append, List.map_cons, List.map_nil]
            (exact LeV [(60, 135)])
          · have t7 : ((f : Int) == (b : Int)) = false := by rw [beq_eq_false_iff_ne]; omega
            rw [show othF f b j = b by unfold othF; rw [if_neg hfb]]
            (repeat' (first | ((with_reducible apply WD_id); first | (refine WD_sum ?_) | (refine WD_nxt htb (by exact rfl) ?_) | (refine WD_call (by exact rfl) ?_; first | (refine WD_cM (eC_m) ?_) | (refine WD_cM (eD_m) ?_) | (refine WD_cM (eE_m) ?_)) | (refine WD_ap htb ?_) | (refine WD_rem ?_)) | (refine ct ?_) | (with_reducible apply WA_block)))
            refine ⟨hk', trivial, Le.trans (Le_norm 135 rfl (lie_blank _ _ _ _ _ [(s3.n 2, y)])) ?_⟩
            rw [List.map_append, List.map_cons, List.map_nil]
            (exact LeV [(60, 135)])
  · have d1 : decide ((k : Int) < (n : Int)) = false := by simp; omega
    obtain rfl : k = n := by omega
    (repeat' (first | ((with_reducible apply WD_id); first | (refine WD_sum ?_) | (refine WD_nxt htb (by exact rfl) ?_) | (refine WD_ap htb ?_) | (refine WD_rem ?_)) | (refine ct ?_) | (with_reducible apply WA_block)))
    (exact glV [(10, lPl (plsF m ill k s).1)] [(9000, tpB (plsF m ill k s).2)] (LeV []))
end Go.Proofs.YtdhogcklnehdhaaGreatDoor
/- Contracts that are reckoned: all subsets of the first nodes, in their order. -/
namespace Go.Proofs.YtdhogcklnehdhaaGreatDoor
set_option linter.unusedSimpArgs false
set_option linter.unusedVariables false
set_option linter.unnecessarySimpa false
set_option linter.unusedSectionVars false
set_option maxRecDepth 100000
open Go Go.RowKit Go.Am Go.Proofs.Grow
theorem rank_m (s : Nat) (hs : s < 1024) : FnM Tryz.prog 198 [] [vI (s : Int)] (vI (popN s : Int)) [] := by
  have t0 : (!validS (s : Int)) = false := by rw [valid_nat hs]; rfl
  refine FnM.of htb Tryz.func198 rfl rfl rfl rfl rfl fun cx hN h0 => ?_
  (repeat' (first | ((with_reducible apply WD_id); first | (refine WD_nxt htb (by exact rfl) ?_) | (refine WD_call (by exact rfl) ?_; first | (refine WD_c0 (valid_m _) ?_) | (refine WD_c0 (size_m _ ?_) ?_; (exact hyp)))) | (refine ct ?_) | (with_reducible apply WA_block)))
  exact gE (.inr rfl) rfl rfl trivial
def cmpN (a b : Nat) : Int := match cmpI (popN a) (popN b) with
  | 0 => cmpI a b
  | x => x
theorem orI_two (x y : Int) : orI [x, y] = match x with
    | 0 => y
    | z => z := by
  by_cases h : x = 0
  · subst h
    by_cases hy : y = 0
    · subst hy; rfl
    · simp only [orI, if_neg hy]; rfl
  · simp only [orI, if_neg h] <;> (split <;> first | rfl | (rename_i e; exact absurd e h))
theorem cmpN_m (a b : Nat) (ha : a < 1024) (hb : b < 1024) : FnM Tryz.prog 158 [] [vI (a : Int), vI (b : Int)] (vI (cmpN a b)) [] := by
  have orS_m : FnM Tryz.prog 197 [] [.d (.rows 1 [[dI (cmpI (popN a) (popN b))], [dI (cmpI a b)]])] (vI (cmpN a b)) [] := by
    have := orN_m [cmpI (popN a) (popN b), cmpI a b] (by simp)
    rw [orI_two] at this
    exact this
  refine FnM.of htb Tryz.func158 rfl rfl rfl rfl rfl fun cx hN h0 => ?_
  (repeat' (first | ((with_reducible apply WD_id); first | (refine WD_nxt htb (by exact rfl) ?_) | (refine WD_call (by exact rfl) ?_; first | (refine WD_c0 (rank_m _ ?_) ?_; (exact hyp)) | (refine WD_c0 (cmp_pm _ _) ?_) | (refine WD_c0 (orS_m) ?_))) | (refine ct ?_) | (with_reducible apply WA_block)))
  exact gE (.inr rfl) rfl rfl trivial
noncomputable def ktC (f : FuncId) (ys : List AV) (_ : Nat) : Option (AV × List (Nat × AO)) := match Nat.beq f 158 with
  | true => match ys with
    | [.d (.v (.int .i64 (.ofNat a))), .d (.v (.int .i64 (.ofNat b)))] => match Nat.blt a 1024, Nat.blt b 1024 with
      | true, true => some (vI (cmpN a b), [])
      | _, _ => none
    | _ => none
  | false => none
theorem ktC_ok : ∀ f ys n res Mo, ktC f ys n = some (res, Mo) → FnM Tryz.prog f [] ys res Mo := by
  intro f ys n res Mo h
  unfold ktC at h
  split at h
  · rename_i hf
    have := Nat.eq_of_beq_eq_true hf
    subst this
    split at h
    · rename_i a b
      split at h
      · rename_i h1 h2; cases h; exact cmpN_m a b (Nat.le_of_ble_eq_true h1) (Nat.le_of_ble_eq_true h2)
      · cases h
    · cases h
  · cases h
noncomputable def cf1 : Cfg := { P := Tryz.prog, tt := ttT, fs := fsT.get, kt := ktC, pol := fun _ => true }
theorem cf1_ok : CfgOK cf1 := ⟨mixT, ttT_ok, ttT_ord, fun f fn h => BT.good_get fsT_good f fn h, ktC_ok⟩
def eqRN : List (List D) → List Nat → Bool
  | [], [] => true
  | [.v (.int .i64 (.ofNat a))] :: r, b :: l => Nat.beq a b && eqRN r l
  | _, _ => false
theorem eqRN_spec : ∀ {rs : List (List D)} {l : List Nat}, eqRN rs l = true → rs = l.map rN
  | [], [], _ => rfl
  | [], _ :: _, h => by cases h
  | r :: rs, l, h => by
    unfold eqRN at h
    split at h
    · rename_i he; cases he
    · rename_i a r' b l' he
      cases he
      rw [Bool.and_eq_true] at h
      rw [Nat.eq_of_beq_eq_true h.1, eqRN_spec h.2]; rfl
    · cases h
noncomputable def okL (x : Rn (AV × List (Nat × AO) × Nat)) (l : List Nat) : Bool := match x with
  | .ok (.own g, Mo, _) => match lk Mo g, Mo with
    | some (.arr _ sz rs), [_] => Nat.beq sz 1 && eqRN rs l
    | _, _ => false
  | .ok (.d (.rows sz rs), [], _) => Nat.beq sz 1 && eqRN rs l
  | _ => false
theorem rows_own {P : Program} {f : FuncId} {ys : List AV} {g ty sz : Nat} {rs : List (List D)} (h : FnM P f [] ys (.own g) [(g, .arr ty sz rs)]) : FnM P f [] ys (.d (.rows sz rs)) [] := by
  intro H0 μ w vs hl hI
  have h0 : ∀ k u, μ k = some u → keyIn ([] : List (Nat × AO)) k = true := fun k u hu => by
    have := hI.free k rfl
    rw [this] at hu; cases hu
  refine (h H0 μ w vs hl hI).mono ?_
  rintro e w' ⟨v, μ', rfl, hI'⟩
  have hle : Le ⟨w, Hot μ (lk []), H0, 1, μ⟩ ⟨[(0, .own g)], [(g, .arr ty sz rs)]⟩ ⟨[(0, .d (.rows sz rs))], []⟩ :=
    Le_view [] h0 [] ⟨⟨_, rfl, .own (ty := ty) (by simp [gone, lk])⟩, rfl, trivial⟩ trivial rfl rfl
  obtain ⟨μ2, h2⟩ := hle _ _ ⟨μ', hI'⟩
  exact ⟨v, μ2, rfl, h2⟩
theorem okL_fn {cf : Cfg} (hc : CfgOK cf) {k : Nat} {f : FuncId} {ys : List AV} {n : Nat} {l : List Nat} (h : okL (runF cf k f [] ys n) l = true) : FnM cf.P f [] ys (lN l) [] := by
  unfold okL at h
  split at h
  · rename_i g Mo n' hr
    have hf := runF_ok hc k _ _ _ _ _ _ _ hr
    split at h
    · rename_i ty sz rs p hlk
      rw [Bool.and_eq_true] at h
      have := Nat.eq_of_beq_eq_true h.1; subst this
      obtain ⟨g', ob⟩ := p
      simp only [lk] at hlk
      split at hlk
      · rename_i hb
        have hg := Nat.eq_of_beq_eq_true hb
        subst hg
        obtain rfl := Option.some.inj hlk
        obtain rfl := eqRN_spec h.2
        exact rows_own hf
      · cases hlk
    · cases h
  · rename_i sz rs n' hr
    have hf := runF_ok hc k _ _ _ _ _ _ _ hr
    rw [Bool.and_eq_true] at h
    have := Nat.eq_of_beq_eq_true h.1; subst this
    obtain rfl := eqRN_spec h.2
    exact hf
  · cases h
def subL : Nat → List Nat
  | 1 => [0, 1]
  | 2 => [0, 1, 2, 3]
  | 3 => [0, 1, 2, 4, 3, 5, 6, 7]
  | 4 => [0, 1, 2, 4, 8, 3, 5, 6, 9, 10, 12, 7, 11, 13, 14, 15]
  | 5 => [0, 1, 2, 4, 8, 16, 3, 5, 6, 9, 10, 12, 17, 18, 20, 24, 7, 11, 13, 14, 19, 21, 22, 25, 26, 28, 15, 23, 27, 29, 30, 31]
  | _ => []
theorem sub1 : okL (runF cf1 60 140 [] [vI ((2 ^ 1 - 1 : Nat) : Int)] 0) (subL 1) = true := by kernel_rfl
theorem sub2 : okL (runF cf1 60 140 [] [vI ((2 ^ 2 - 1 : Nat) : Int)] 0) (subL 2) = true := by kernel_rfl
theorem sub3 : okL (runF cf1 60 140 [] [vI ((2 ^ 3 - 1 : Nat) : Int)] 0) (subL 3) = true := by kernel_rfl
theorem sub4 : okL (runF cf1 60 140 [] [vI ((2 ^ 4 - 1 : Nat) : Int)] 0) (subL 4) = true := by kernel_rfl
theorem sub5 : okL (runF cf1 60 140 [] [vI ((2 ^ 5 - 1 : Nat) : Int)] 0) (subL 5) = true := by kernel_rfl
theorem subs_ok {n : Nat} (h : 1 ≤ n ∧ n ≤ 5) : SubM' n (subL n) := by
  obtain rfl | rfl | rfl | rfl | rfl : n = 1 ∨ n = 2 ∨ n = 3 ∨ n = 4 ∨ n = 5 := by omega
  · exact ⟨by decide, by decide, okL_fn cf1_ok sub1⟩
  · exact ⟨by decide, by decide, okL_fn cf1_ok sub2⟩
  · exact ⟨by decide, by decide, okL_fn cf1_ok sub3⟩
  · exact ⟨by decide, by decide, okL_fn cf1_ok sub4⟩
  · exact ⟨by decide, by decide, okL_fn cf1_ok sub5⟩
end Go.Proofs.YtdhogcklnehdhaaGreatDoor
/- The walk of TopHeard. -/
namespace Go.Proofs.YtdhogcklnehdhaaGreatDoor
set_option linter.unusedSimpArgs false
set_option linter.unusedVariables false
set_option linter.unnecessarySimpa false
set_option linter.unusedSectionVars false
set_option maxRecDepth 100000
open Go Go.RowKit Go.Am Go.Proofs.Grow
theorem int_meet {c : List Mb} (hc : FullC c) {l : List Nat} (h : (intN c 0 l).1 = memN c) : MeetC c := by
  refine hold_meet hc.len ?_
  unfold intN at h
  rw [delC_zero hc] at h
  cases e : (holdF c).1
  · rw [e, if_neg (by simp)] at h
    have hp := hc.pos
    have : 2 ^ 1 ≤ 2 ^ c.length := Nat.pow_le_pow_right (by decide) hp
    have hm : memN c = 2 ^ c.length - 1 := rfl
    have h : (0 : Nat) = memN c := h
    omega
  · rfl
theorem uni_sub {a b : List Cl} (hb : PlC b) (h : ∀ x ∈ a, x ∈ b) : sortC (a ++ b) = b := by
  rw [← sort_plc hb]
  conv => rhs; rw [← sort_plc hb]
  exact sort_eq fun x _ => by
    rw [sort_plc hb, List.mem_append]
    exact ⟨fun q => q.elim (h x) id, .inr⟩
theorem clm_I {c : List Mb} (hc : FullC c) {il st : Nat} : ∀ (f : Nat) (m : Mt), 100000 - sumV m.vs < f → MtI c il st m → MtI c il st (clmF f m) ∧ (rndF (clmF f m)).2 = false
  | 0, m, h, _ => by omega
  | f + 1, m, h, hI => by
    have hr := rnd_I hc hI
    obtain ⟨r1, r2, r3⟩ := rnd_ok hI.ok
    rw [clmF]
    cases e : (rndF m).2 with
    | true =>
      rw [if_pos rfl]
      have := r2 e
      have := mt_sum r1
      exact clm_I hc f _ (by omega) hr
    | false =>
      rw [if_neg (by simp), (r3 e).1]
      exact ⟨hI, e⟩
set_option maxHeartbeats 4000000 in
theorem heard_m (t : List Int) (awk_m : FnM Tryz.prog 11 [] [] (vB true) []) : FnM Tryz.prog 3 [] [lI t] (vB true) [] := by
  have hs0 : Sc.ok ⟨t.take 400, 0⟩ := ⟨Nat.zero_le _, by rw [List.length_take]; omega⟩
  obtain ⟨c1, c2, c3, c4⟩ := cfF_spec (n := 4) hs0 (by decide) (by decide)
  have fulZ_m := full_m ⟨t.take 400, 0⟩ 4 hs0 (by decide) (by decide)
  obtain ⟨hc, f2, f3, f4⟩ := full_spec c1 c2 (by decide) (by decide) c3
  generalize hfc : fulC (cfF ⟨t.take 400, 0⟩ 4).1 = c at *
  generalize (cfF ⟨t.take 400, 0⟩ 4).2 = s1 at *
  have hS0 := hc.okS (s := 0) (Nat.zero_le _)
  have hsub := subs_ok (n := c.length) ⟨hc.pos, hc.len⟩
  have iofH_m := iOf_m c 0 (subL c.length) impM hsub hS0 (by omega)
  have hp0 : 0 < 2 ^ c.length := Nat.pow_pos (by decide)
  have plyZ_m := plays_m s1 c 0 24 c4 ⟨⟨hc.pos, hc.len⟩, by decide, by decide⟩
  obtain ⟨p1, p2, p3⟩ := plsF_spec (m := c.length) (ill := 0) c4 hc.pos (by omega) 24 (by decide)
  have runZ_m := run_m c 0 (plsF c.length 0 24 s1).1 hc hp0 ⟨by omega, p2⟩
  have hbI := beg_I hc hp0
  have hrI := runM_ok hc (plsF c.length 0 24 s1).1 ⟨begV c c.length, 0, 0⟩ p2 hbI.ok hbI.inv
  generalize runD (plsF c.length 0 24 s1).1 ⟨begV c c.length, 0, 0⟩ (plsF c.length 0 24 s1).1.length = cds at *
  generalize runM (plsF c.length 0 24 s1).1 ⟨begV c c.length, 0, 0⟩ = m0 at *
  generalize plsF c.length 0 24 s1 = q at *
  obtain ⟨pl, s2⟩ := q
  dsimp only at p1 p2 p3 plyZ_m runZ_m
  obtain ⟨r1, r2, r3⟩ := hrI
  have hI0 : MtI c 0 m0.st m0 := ⟨r1, r2, r3, rfl⟩
  have clmZ_m := calm_m m0 c.length r1
  obtain ⟨hI, hrd⟩ := clm_I hc 100001 m0 (by omega) hI0
  generalize clmF 100001 m0 = m at *
  generalize m0.st = st at *
  refine FnM.of htb Tryz.func3 rfl rfl rfl rfl rfl fun cx hN h0 => ?_
  have hl := hI.ok.len
  have hl61 : c.length ≤ 61 := by omega
  have t0 : ((0 : Int) != 0) = false := rfl
  have t00 : ((0 : Int) == 0) = true := rfl
  have u1 : ((m.vs.length : Int) != (c.length : Int)) = false := by rw [hl]; simp
  have u2 : ((m.vs.length : Int) == (c.length : Int)) = true := by rw [hl]; simp
  have hfin : m.st ≠ 0 ∨ (m.st = 0 ∧ ((((intN c 0 (subL c.length)).1 : Nat) : Int) != ((2 ^ c.length : Nat) : Int) - 1) = true) ∨ (m.st = 0 ∧ ((((intN c 0 (subL c.length)).1 : Nat) : Int) != ((2 ^ c.length : Nat) : Int) - 1) = false) := by
    by_cases h1 : m.st = 0
    · cases ((((intN c 0 (subL c.length)).1 : Nat) : Int) != ((2 ^ c.length : Nat) : Int) - 1)
      · exact .inr (.inr ⟨h1, rfl⟩)
      · exact .inr (.inl ⟨h1, rfl⟩)
    · exact .inl h1
  have w1 : ((2 ^ c.length : Nat) : Int) ≤ 1024 := by have := two_le (n := c.length) (by omega); omega
  have w2 : (0 : Int) ≤ ((2 ^ c.length : Nat) : Int) := by omega
  rcases hfin with h1 | ⟨h1, h2⟩ | ⟨h1, h2⟩
  · have u3 : ((m.st : Int) != 0) = true := by simpa using h1
    (repeat' (first | ((with_reducible apply WD_id); first | (refine WD_sum ?_) | (refine WD_nxt htb (by exact rfl) ?_) | (refine WD_call (by exact rfl) ?_; first | (refine WD_cM (tNew_m _) ?_) | (refine WD_cM (fulZ_m) ?_) | (refine WD_c0 (iofH_m) ?_) | (refine WD_cM (plyZ_m) ?_) | (refine WD_c0 (runZ_m) ?_) | (refine WD_c0 (clmZ_m) ?_) | (refine WD_c0 (awk_m) ?_)) | (refine WD_eq (shlN_step rfl rfl rfl) ?_) | (refine WD_idx htb ?_) | (refine WD_t (by exact rfl) (by exact rfl) (by exact known) fun hb => ?_; rw [hb]; clear hb) | (refine WD_f (by exact rfl) (by exact rfl) (by exact known) fun hb => ?_; rw [hb]; clear hb)) | (refine ct ?_) | (with_reducible apply WA_block)))
    exact gE (.inr rfl) rfl rfl trivial
  · have u3 : ((m.st : Int) != 0) = false := by simpa using h1
    (repeat' (first | ((with_reducible apply WD_id); first | (refine WD_sum ?_) | (refine WD_nxt htb (by exact rfl) ?_) | (refine WD_call (by exact rfl) ?_; first | (refine WD_cM (tNew_m _) ?_) | (refine WD_cM (fulZ_m) ?_) | (refine WD_c0 (iofH_m) ?_) | (refine WD_cM (plyZ_m) ?_) | (refine WD_c0 (runZ_m) ?_) | (refine WD_c0 (clmZ_m) ?_) | (refine WD_c0 (awk_m) ?_)) | (refine WD_eq (shlN_step rfl rfl rfl) ?_) | (refine WD_idx htb ?_) | (refine WD_t (by exact rfl) (by exact rfl) (by exact known) fun hb => ?_; rw [hb]; clear hb) | (refine WD_f (by exact rfl) (by exact rfl) (by exact known) fun hb => ?_; rw [hb]; clear hb)) | (refine ct ?_) | (with_reducible apply WA_block)))
    exact gE (.inr rfl) rfl rfl trivial
  · have u3 : ((m.st : Int) != 0) = false := by simpa using h1
    have hI2 : MtI c 0 0 m := ⟨hI.ok, hI.inv, hI.il, h1⟩
    have hh := calm_heard hI2 hrd
    have hin : InvH c 0 m.vs := by have := hI.inv; rwa [hI.il] at this
    have hmeet : MeetC c := int_meet hc (l := subL c.length) (by
      have hp : 0 < 2 ^ c.length := hp0
      have hm : memN c = 2 ^ c.length - 1 := rfl
      simp only [bne_eq_false_iff_eq] at h2
      omega)
    (repeat' (first | ((with_reducible apply WD_id); first | (refine WD_sum ?_) | (refine WD_nxt htb (by exact rfl) ?_) | (refine WD_call (by exact rfl) ?_; first | (refine WD_cM (tNew_m _) ?_) | (refine WD_cM (fulZ_m) ?_) | (refine WD_c0 (iofH_m) ?_) | (refine WD_cM (plyZ_m) ?_) | (refine WD_c0 (runZ_m) ?_) | (refine WD_c0 (clmZ_m) ?_) | (refine WD_c0 (awk_m) ?_)) | (refine WD_eq (shlN_step rfl rfl rfl) ?_) | (refine WD_idx htb ?_) | (refine WD_t (by exact rfl) (by exact rfl) (by exact known) fun hb => ?_; rw [hb]; clear hb) | (refine WD_f (by exact rfl) (by exact rfl) (by exact known) fun hb => ?_; rw [hb]; clear hb)) | (refine ct ?_) | (with_reducible apply WA_block)))
    refine WA_le (s' := ⟨[(12, vI 0), (5, vI (c.length : Int)), (8, .ptr 8 0), (4, .ptr 4 0), (2, vB false)], [(8, .box 34 (cellsOf (aMt m))), (4, .box 27 (cellsOf (aCf c)))]⟩) (LeV []) ?_
    clear iofH_m plyZ_m runZ_m clmZ_m fulZ_m h2
    (refine WA_forV (c.length) [12] [] (fun k => [(12, vI k)]) (fun k => []) (fun k => True) ?h0 ?_)
    case h0 => trivial
    intro k hk _
    rcases Nat.lt_or_ge k c.length with hk' | hk'
    · have d1 : decide ((k : Int) < (c.length : Int)) = true := by simp; omega
      have hf := hc.fit k hk'
      have hfc := hf.chk
      have hi0 : InvO c m.vs k 0 ⟨((9 : Nat) : Int), 1, (nth c k).t, [], [], [], []⟩ := ⟨⟨by show (0 : Int) ≤ 9; decide, by show (9 : Int) < 10; decide, by show (1 : Int) ≤ 1; decide, by show (1 : Int) ≤ _; simp, hf, PlC.nil, PlC.nil, PlC.nil, rfl, rfl, fun x hx => by simp at hx, fun m hm => by simp at hm, List.Pairwise.nil⟩, rfl, rfl, rfl, rfl, fun x hx => by simp at hx, fun h => by omega⟩
      have h9 : (9 : Nat) < 10 := by decide
      (repeat' (first | ((with_reducible apply WD_id); first | (refine WD_sum ?_) | (refine WD_nxt htb (by exact rfl) ?_) | (refine WD_call (by exact rfl) ?_; first | (refine WD_c0 (start_m (k := 9) (t := (nth c k).t) ?_ ?_) ?_; (exact hyp); (exact hyp))) | (refine WD_idx htb ?_) | (refine WD_t (by exact rfl) (by exact rfl) (by exact known) fun hb => ?_; rw [hb]; clear hb) | (refine WD_f (by exact rfl) (by exact rfl) (by exact known) fun hb => ?_; rw [hb]; clear hb)) | (refine ct ?_) | (with_reducible apply WA_block)))
      (refine WA_anyV (α := Nat × Vo) (fun x => c.length - x.1) ((0, ⟨((9 : Nat) : Int), 1, (nth c k).t, [], [], [], []⟩)) [15] [13] (fun x => [(15, vI ((x.1 : Nat) : Int))]) (fun x => [(13, .box 49 (cellsOf (aVo x.2)))]) (fun x => x.1 ≤ c.length ∧ InvO c m.vs k x.1 x.2) ?h0 ?_)
      case h0 => exact ⟨Nat.zero_le _, hi0⟩
      rintro ⟨i, v⟩ ⟨hi, ho⟩
      dsimp only at hi ho ⊢
      have hv10 := ho.ok.mono (by omega : c.length ≤ 10)
      rcases Nat.lt_or_ge i c.length with hi' | hi'
      · have d2 : decide ((i : Int) < (c.length : Int)) = true := by simp; omega
        obtain ⟨s1', s2'⟩ := ho.step hc hin hi'
        have hiv := (hin.ok i hi').mono (by omega : c.length ≤ 10)
        have hind := hin.nd i hi'
        have hill : i < m.vs.length := by omega
        have hms := say_ok hiv hiv.nd1
        have hear0 := hear_m v (sayV (nth m.vs i)) hv10 hms (by rw [ho.nd]; show (nth m.vs i).nd ≠ 9; omega)
        have he : heaV v (sayV (nth m.vs i)) = (turV v { v with he := putM v.he (sayV (nth m.vs i)) }, 0) := by unfold heaV; rw [s1', if_neg (by simp)]
        rw [he] at hear0
        dsimp only at hear0
        have hearZ_m := hear0
        generalize turV v { v with he := putM v.he (sayV (nth m.vs i)) } = v' at *
        (repeat' (first | ((with_reducible apply WD_id); first | (refine WD_sum ?_) | (refine WD_nxt htb (by exact rfl) ?_) | (refine WD_call (by exact rfl) ?_; first | (refine WD_c0 (Say_m (v := nth m.vs i) ?_) ?_; (exact hyp)) | (refine WD_c0 (hearZ_m) ?_)) | (refine WD_idx htb ?_) | (refine WD_t (by exact rfl) (by exact rfl) (by exact known) fun hb => ?_; rw [hb]; clear hb) | (refine WD_f (by exact rfl) (by exact rfl) (by exact known) fun hb => ?_; rw [hb]; clear hb)) | (refine ct ?_) | (with_reducible apply WA_block)))
        refine ⟨(i + 1, v'), by dsimp only; omega, ⟨hi', s2'⟩, ?_⟩
        (exact LeV [])
      · have d2 : decide ((i : Int) < (c.length : Int)) = false := by simp; omega
        obtain rfl : i = c.length := by omega
        have hkl : k < m.vs.length := by omega
        have hsubs := ho.all hc hmeet hin hh hk'
        have hco := (hin.ok k hk').co.len
        have hac := ho.ok.ac.len
        have hal : (nth m.vs k).co.length ≤ 1000 ∧ v.ac.length ≤ 1000 := by omega
        have uniZ := uni17_m (nth m.vs k).co v.ac hal
        rw [uni_sub ho.ok.ac hsubs] at uniZ
        have uniZ_m := uniZ
        have hac2 : v.ac.length ≤ 10000 := by omega
        have t9 : (!true) = false := rfl
        (repeat' (first | ((with_reducible apply WD_id); first | (refine WD_sum ?_) | (refine WD_nxt htb (by exact rfl) ?_) | (refine WD_call (by exact rfl) ?_; first | (refine WD_c0 (uniZ_m) ?_) | (refine WD_c0 (sm17_m _ ?_) ?_; (exact hyp))) | (refine WD_idx htb ?_) | (refine WD_t (by exact rfl) (by exact rfl) (by exact known) fun hb => ?_; rw [hb]; clear hb) | (refine WD_f (by exact rfl) (by exact rfl) (by exact known) fun hb => ?_; rw [hb]; clear hb)) | (refine ct ?_) | (with_reducible apply WA_block)))
        refine ⟨hk', trivial, ?_⟩
        (exact LeV [])
    · have d1 : decide ((k : Int) < (c.length : Int)) = false := by simp; omega
      (repeat' (first | ((with_reducible apply WD_id); first | (refine WD_sum ?_) | (refine WD_nxt htb (by exact rfl) ?_) | (refine WD_call (by exact rfl) ?_; first | (refine WD_c0 (awk_m) ?_)) | (refine WD_idx htb ?_) | (refine WD_t (by exact rfl) (by exact rfl) (by exact known) fun hb => ?_; rw [hb]; clear hb) | (refine WD_f (by exact rfl) (by exact rfl) (by exact known) fun hb => ?_; rw [hb]; clear hb)) | (refine ct ?_) | (with_reducible apply WA_block)))
      exact gE (.inr rfl) rfl rfl trivial
end Go.Proofs.YtdhogcklnehdhaaGreatDoor
/- Reckoned calls: the configuration is read; its minimal quorums. -/
namespace Go.Proofs.YtdhogcklnehdhaaGreatDoor
set_option linter.unusedSimpArgs false
set_option linter.unusedVariables false
set_option linter.unnecessarySimpa false
set_option linter.unusedSectionVars false
set_option maxRecDepth 100000
open Go Go.RowKit Go.Am Go.Proofs.Grow
def xsrc : AV := .d (.v (.string ⟨#[48, 58, 32, 50, 32, 111, 102, 32, 40, 48, 44, 32, 49, 44, 32, 50, 41, 10, 49, 58, 32, 50, 32, 111, 102, 32, 40, 48, 44, 32, 49, 44, 32, 50, 41, 10, 50, 58, 32, 50, 32, 111, 102, 32, 40, 48, 44, 32, 49, 44, 32, 50, 41, 10]⟩))
def xmem : List D := [xT, xn 2, .rows 1 [[xn 0], [xn 1], [xn 2]], xl]
def xc3 : AV := .agg [.d (.rows 4 [xmem, xmem, xmem])]
theorem e36 : okE (runF (cfX t0) 60 40 [] [xsrc] 0) (.tup [xc3, xv 0, xv 0], []) = true := by kernel_rfl
theorem e37 : okE (runF (cfX t0) 60 41 [] [xc3] 0) (.tup [.own 5168, xv 0], [(5168, .arr 3 1 [[xn 3], [xn 5], [xn 6]])]) = true := by kernel_rfl
end Go.Proofs.YtdhogcklnehdhaaGreatDoor
/- Reckoned calls: steps of the meeting. -/
namespace Go.Proofs.YtdhogcklnehdhaaGreatDoor
set_option linter.unusedSimpArgs false
set_option linter.unusedVariables false
set_option linter.unnecessarySimpa false
set_option linter.unusedSectionVars false
set_option maxRecDepth 100000
open Go Go.RowKit Go.Am Go.Proofs.Grow
theorem st0_00 : okE (runF (cfX t0) 60 31 [] [mt0, xsd 0 0] 0) (.tup [.agg [.d (xl), .d (xn 0), .d (xn 0)], xv 1], []) = true := by kernel_rfl
theorem st0_01 : okE (runF (cfX t0) 60 31 [] [mt0, xsd 0 1] 0) (.tup [mt1, xv 0], []) = true := by kernel_rfl
theorem st1_02 : okE (runF (cfX t0) 60 31 [] [mt1, xsd 0 2] 0) (.tup [mt2, xv 0], []) = true := by kernel_rfl
end Go.Proofs.YtdhogcklnehdhaaGreatDoor
/- Reckoned calls: steps of the meeting. -/
namespace Go.Proofs.YtdhogcklnehdhaaGreatDoor
set_option linter.unusedSimpArgs false
set_option linter.unusedVariables false
set_option linter.unnecessarySimpa false
set_option linter.unusedSectionVars false
set_option maxRecDepth 100000
open Go Go.RowKit Go.Am Go.Proofs.Grow
theorem st2_10 : okE (runF (cfX t0) 60 31 [] [mt2, xsd 1 0] 0) (.tup [mt3, xv 0], []) = true := by kernel_rfl
theorem st3_11 : okE (runF (cfX t0) 60 31 [] [mt3, xsd 1 1] 0) (.tup [.agg [.d (xl), .d (xn 0), .d (xn 0)], xv 1], []) = true := by kernel_rfl
theorem st3_12 : okE (runF (cfX t0) 60 31 [] [mt3, xsd 1 2] 0) (.tup [mt4, xv 0], []) = true := by kernel_rfl
end Go.Proofs.YtdhogcklnehdhaaGreatDoor
/- Reckoned calls: steps of the meeting. -/
namespace Go.Proofs.YtdhogcklnehdhaaGreatDoor
set_option linter.unusedSimpArgs false
set_option linter.unusedVariables false
set_option linter.unnecessarySimpa false
set_option linter.unusedSectionVars false
set_option maxRecDepth 100000
open Go Go.RowKit Go.Am Go.Proofs.Grow
theorem st4_20 : okE (runF (cfX t0) 60 31 [] [mt4, xsd 2 0] 0) (.tup [mt5, xv 0], []) = true := by kernel_rfl
theorem st5_21 : okE (runF (cfX t0) 60 31 [] [mt5, xsd 2 1] 0) (.tup [mt6, xv 0], []) = true := by kernel_rfl
theorem st6_22 : okE (runF (cfX t0) 60 31 [] [mt6, xsd 2 2] 0) (.tup [.agg [.d (xl), .d (xn 0), .d (xn 0)], xv 1], []) = true := by kernel_rfl
theorem st6_00 : okE (runF (cfX t0) 60 31 [] [mt6, xsd 0 0] 0) (.tup [.agg [.d (xl), .d (xn 0), .d (xn 0)], xv 1], []) = true := by kernel_rfl
end Go.Proofs.YtdhogcklnehdhaaGreatDoor
/- Reckoned calls: steps of the meeting. -/
namespace Go.Proofs.YtdhogcklnehdhaaGreatDoor
set_option linter.unusedSimpArgs false
set_option linter.unusedVariables false
set_option linter.unnecessarySimpa false
set_option linter.unusedSectionVars false
set_option maxRecDepth 100000
open Go Go.RowKit Go.Am Go.Proofs.Grow
theorem st6_01 : okE (runF (cfX t0) 60 31 [] [mt6, xsd 0 1] 0) (.tup [mt7, xv 0], []) = true := by kernel_rfl
theorem st7_02 : okE (runF (cfX t0) 60 31 [] [mt7, xsd 0 2] 0) (.tup [mt8, xv 0], []) = true := by kernel_rfl
theorem st8_10 : okE (runF (cfX t0) 60 31 [] [mt8, xsd 1 0] 0) (.tup [mt9, xv 0], []) = true := by kernel_rfl
theorem st9_11 : okE (runF (cfX t0) 60 31 [] [mt9, xsd 1 1] 0) (.tup [.agg [.d (xl), .d (xn 0), .d (xn 0)], xv 1], []) = true := by kernel_rfl
end Go.Proofs.YtdhogcklnehdhaaGreatDoor
/- Reckoned calls: steps of the meeting. -/
namespace Go.Proofs.YtdhogcklnehdhaaGreatDoor
set_option linter.unusedSimpArgs false
set_option linter.unusedVariables false
set_option linter.unnecessarySimpa false
set_option linter.unusedSectionVars false
set_option maxRecDepth 100000
open Go Go.RowKit Go.Am Go.Proofs.Grow
theorem st9_12 : okE (runF (cfX t0) 60 31 [] [mt9, xsd 1 2] 0) (.tup [mt10, xv 0], []) = true := by kernel_rfl
theorem st10_20 : okE (runF (cfX t0) 60 31 [] [mt10, xsd 2 0] 0) (.tup [.agg [.d (xl), .d (xn 0), .d (xn 0)], xv 9], []) = true := by kernel_rfl
theorem st10_21 : okE (runF (cfX t0) 60 31 [] [mt10, xsd 2 1] 0) (.tup [.agg [.d (xl), .d (xn 0), .d (xn 0)], xv 9], []) = true := by kernel_rfl
theorem st10_22 : okE (runF (cfX t0) 60 31 [] [mt10, xsd 2 2] 0) (.tup [.agg [.d (xl), .d (xn 0), .d (xn 0)], xv 1], []) = true := by kernel_rfl
theorem st10_00 : okE (runF (cfX t0) 60 31 [] [mt10, xsd 0 0] 0) (.tup [.agg [.d (xl), .d (xn 0), .d (xn 0)], xv 1], []) = true := by kernel_rfl
theorem st10_01 : okE (runF (cfX t0) 60 31 [] [mt10, xsd 0 1] 0) (.tup [.agg [.d (xl), .d (xn 0), .d (xn 0)], xv 9], []) = true := by kernel_rfl
end Go.Proofs.YtdhogcklnehdhaaGreatDoor
/- Reckoned calls: steps of the meeting. -/
namespace Go.Proofs.YtdhogcklnehdhaaGreatDoor
set_option linter.unusedSimpArgs false
set_option linter.unusedVariables false
set_option linter.unnecessarySimpa false
set_option linter.unusedSectionVars false
set_option maxRecDepth 100000
open Go Go.RowKit Go.Am Go.Proofs.Grow
theorem st10_02 : okE (runF (cfX t0) 60 31 [] [mt10, xsd 0 2] 0) (.tup [.agg [.d (xl), .d (xn 0), .d (xn 0)], xv 9], []) = true := by kernel_rfl
theorem st10_10 : okE (runF (cfX t0) 60 31 [] [mt10, xsd 1 0] 0) (.tup [.agg [.d (xl), .d (xn 0), .d (xn 0)], xv 9], []) = true := by kernel_rfl
theorem st10_11 : okE (runF (cfX t0) 60 31 [] [mt10, xsd 1 1] 0) (.tup [.agg [.d (xl), .d (xn 0), .d (xn 0)], xv 1], []) = true := by kernel_rfl
theorem st10_12 : okE (runF (cfX t0) 60 31 [] [mt10, xsd 1 2] 0) (.tup [.agg [.d (xl), .d (xn 0), .d (xn 0)], xv 9], []) = true := by kernel_rfl
end Go.Proofs.YtdhogcklnehdhaaGreatDoor
