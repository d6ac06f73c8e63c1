/- Contracts: a voter that votes, a voter that hears. -/
import Derived.Test.YtdhogcklnehdhaaGreatDoorQAL
import Derived.Test.YtdhogcklnehdhaaGreatDoorQAD
import Derived.Test.YtdhogcklnehdhaaGreatDoorQAJ
import Derived.Test.YtdhogcklnehdhaaGreatDoorQAI
namespace Go.Proofs.YtdhogcklnehdhaaGreatDoor
set_option linter.unusedSimpArgs false
set_option linter.unusedVariables false
set_option linter.unnecessarySimpa false
set_option linter.unusedSectionVars false
set_option maxRecDepth 100000
open Go Go.RowKit Go.Am Go.Proofs.Grow
theorem putM_pos : ∀ {l : List Ms} {m : Ms}, l.Pairwise (fun a b => a.nd < b.nd) → putM l m = if hitM l m.nd (posM m.nd l) = true then l.set (posM m.nd l) m else putF l (posM m.nd l) m
  | [], m, _ => by simp [putM, posM, hitM, putF]
  | y :: r, m, h => by
    obtain ⟨h1, h2⟩ := List.pairwise_cons.1 h
    rw [putM, posM]
    by_cases e : y.nd < m.nd
    · rw [if_pos e, if_pos e, putM_pos h2]
      have e1 : hitM (y :: r) m.nd (posM m.nd r + 1) = hitM r m.nd (posM m.nd r) := by
        unfold hitM
        simp only [List.length_cons, Nat.add_lt_add_iff_right]
        rfl
      rw [e1]
      split <;> rfl
    · rw [if_neg e, if_neg e]
      by_cases e2 : y.nd = m.nd
      · have e1 : hitM (y :: r) m.nd 0 = true := by unfold hitM; simp [nth, e2]
        rw [if_pos e2, if_pos e1]; rfl
      · have e1 : hitM (y :: r) m.nd 0 = false := by unfold hitM; simp [nth, e2]
        rw [if_neg e2, if_neg (by simp [e1])]; rfl
theorem oldM_pos : ∀ {l : List Ms} {m : Ms}, l.Pairwise (fun a b => a.nd < b.nd) → oldM l m = (hitM l m.nd (posM m.nd l) && decide ((nth l (posM m.nd l)).sq ≥ m.sq))
  | [], m, _ => by simp [oldM, posM, hitM]
  | y :: r, m, h => by
    obtain ⟨h1, h2⟩ := List.pairwise_cons.1 h
    have hno : ∀ z ∈ r, ¬ y.nd < m.nd → decide (z.nd = m.nd) = false := fun z hz e => by have := h1 z hz; simp; omega
    rw [posM]
    by_cases e : y.nd < m.nd
    · rw [if_pos e]
      have e1 : hitM (y :: r) m.nd (posM m.nd r + 1) = hitM r m.nd (posM m.nd r) := by
        unfold hitM
        simp only [List.length_cons, Nat.add_lt_add_iff_right]
        rfl
      rw [e1, show nth (y :: r) (posM m.nd r + 1) = nth r (posM m.nd r) from rfl, ← oldM_pos h2]
      unfold oldM
      rw [List.any_cons, show decide (y.nd = m.nd) = false by simp; omega, Bool.false_and, Bool.false_or]
    · rw [if_neg e]
      have hr : (r.any fun z => decide (z.nd = m.nd) && decide (m.sq ≤ z.sq)) = false := by
        rw [List.any_eq_false]
        intro z hz
        rw [hno z hz e]; simp
      unfold oldM
      rw [List.any_cons, hr, Bool.or_false]
      by_cases e2 : y.nd = m.nd
      · simp [hitM, nth, e2]
      · simp [hitM, nth, e2]
theorem idx_any {α : Type} (p : α → Bool) : ∀ (l : List α) (k : Nat), decide (idxF p k l ≥ 0) = l.any p
  | [], k => by simp [idxF]
  | y :: r, k => by
    unfold idxF
    rw [List.any_cons]
    cases h : p y with
    | true => rw [if_pos rfl]; simp
    | false => rw [if_neg (by simp), idx_any p r]; rfl
abbrev bxC (x : Cl) : AO := .box 86 [vI x.1, vI x.2]
theorem vt1_m (x y : Cl) : FnM Tryz.prog 184 [(3, bxC x)] [aC y, .ptr 3 0] (vB (ctrC x y)) [(3, bxC x)] := by
  refine FnM.of htb Tryz.func184 rfl rfl rfl rfl rfl fun cx hN h0 => ?_
  (repeat' (first | ((with_reducible apply WD_id); first | (refine WD_nxt htb (by exact rfl) ?_) | (refine WD_call (by exact rfl) ?_; first | (refine WD_c0 (ctrC_m (x := x) (y := y)) ?_))) | (refine ct ?_) | (with_reducible apply WA_block)))
  exact gE (.inr rfl) rfl rfl ⟨rfl, trivial⟩
theorem ixW_m (x : Cl) (l : List Cl) (hl : l.length ≤ 4000) : FnM Tryz.prog 166 [(3, bxC x)] [lC l, .clo 184 [.ptr 3 0]] (vI (idxF (ctrC x) 0 l)) [(3, bxC x)] := by
  refine FnM.of htb Tryz.func166 rfl rfl rfl rfl rfl fun cx hN h0 => ?_
  (repeat' (first | ((with_reducible apply WD_id); first | (refine WD_sum ?_) | (refine WD_nxt htb (by exact rfl) ?_) | (refine WD_idx htb ?_)) | (refine ct ?_) | (with_reducible apply WA_block)))
  (refine WA_forV (l.length) [8] [] (fun k => [(8, vI k)]) (fun k => []) (fun k => idxF (ctrC x) 0 l = idxF (ctrC x) k (l.drop k)) ?h0 ?_)
  case h0 => rfl
  intro k hk hI
  rcases Nat.lt_or_ge k l.length with hk' | hk'
  · have t1 : decide ((k : Int) < (l.length : Int)) = true := by simp; omega
    cases hx : ctrC x (nth l k) with
    | true =>
      (repeat' (first | ((with_reducible apply WD_id); first | (refine WD_sum ?_) | (refine WD_nxt htb (by exact rfl) ?_) | (refine WD_call (by exact rfl) ?_; first | (refine WD_cM (vt1_m (x := x) (y := nth l k)) ?_)) | (refine WD_idx htb ?_)) | (refine ct ?_) | (with_reducible apply WA_block)))
      exact gE (.inr rfl) rfl (congrArg vI (idx_hit hI hk' hx).symm) ⟨rfl, trivial⟩
    | false =>
      (repeat' (first | ((with_reducible apply WD_id); first | (refine WD_sum ?_) | (refine WD_nxt htb (by exact rfl) ?_) | (refine WD_call (by exact rfl) ?_; first | (refine WD_cM (vt1_m (x := x) (y := nth l k)) ?_)) | (refine WD_idx htb ?_)) | (refine ct ?_) | (with_reducible apply WA_block)))
      refine ⟨hk', idx_miss hI hk' hx, ?_⟩
      (exact LeV [])
  · have t1 : decide ((k : Int) < (l.length : Int)) = false := by simp; omega
    (repeat' (first | ((with_reducible apply WD_id); first | (refine WD_sum ?_) | (refine WD_nxt htb (by exact rfl) ?_) | (refine WD_idx htb ?_)) | (refine ct ?_) | (with_reducible apply WA_block)))
    exact gE (.inr rfl) rfl (congrArg vI (idx_end hI hk').symm) ⟨rfl, trivial⟩
theorem cnW_m (x : Cl) (l : List Cl) (hl : l.length ≤ 4000) : FnM Tryz.prog 111 [(3, bxC x)] [lC l, .clo 184 [.ptr 3 0]] (vB (l.any (ctrC x))) [(3, bxC x)] := by
  refine FnM.of htb Tryz.func111 rfl rfl rfl rfl rfl fun cx hN h0 => ?_
  (repeat' (first | ((with_reducible apply WD_id); first | (refine WD_nxt htb (by exact rfl) ?_) | (refine WD_call (by exact rfl) ?_; first | (refine WD_cM (ixW_m (x := x) _ ?_) ?_; (exact hyp)))) | (refine ct ?_) | (with_reducible apply WA_block)))
  exact gE (.inr rfl) rfl (congrArg vB (idx_any _ _ _)) ⟨rfl, trivial⟩
set_option maxHeartbeats 2000000 in
theorem vote_m (v : Vo) (x : Cl) (h : VoOK 10 v) (hx : okC x = true) : FnM Tryz.prog 145 [] [aVo v, aC x] (.tup [aVo (votV v x).1, vI (votV v x).2]) [] := by
  have hval := valV_m v h
  have l1 : v.vo.length ≤ 4000 := by have := h.vo.len; omega
  have l2 : v.ac.length ≤ 4000 := by have := h.ac.len; omega
  have l3 : v.vo.length ≤ 10000 := by omega
  have l4 : v.vo.length ≤ 400 := by have := h.vo.len; omega
  have ho := h.vo.ok
  have t0 : (!true) = false := rfl
  have t1 : (!okC x) = false := by rw [hx]; rfl
  unfold votV
  cases e1 : v.vo.any (ctrC x) with
  | true =>
    rw [if_pos (.inl rfl)]
    refine FnM.of htb Tryz.func145 rfl rfl rfl rfl rfl fun cx hN h0 => ?_
    (repeat' (first | ((with_reducible apply WD_id); first | (refine WD_nxt htb (by exact rfl) ?_) | (refine WD_call (by exact rfl) ?_; first | (refine WD_c0 (valV_m (v := v) ?_) ?_; (exact hyp)) | (refine WD_c0 (okC_m _) ?_) | (refine WD_cM (cnW_m (x := x) _ ?_) ?_; (exact hyp))) | (refine WD_t (by exact rfl) (by exact rfl) (by exact known) fun hb => ?_; rw [hb]; clear hb) | (refine WD_f (by exact rfl) (by exact rfl) (by exact known) fun hb => ?_; rw [hb]; clear hb)) | (refine ct ?_) | (with_reducible apply WA_block)))
    (exact glV [(4, .ptr 4 0), (5, vI 14)] [(4, .box 49 (cellsOf (aVo vo0)))] (LeV []))
  | false =>
    cases e2 : v.ac.any (ctrC x) with
    | true =>
      rw [if_pos (.inr rfl)]
      refine FnM.of htb Tryz.func145 rfl rfl rfl rfl rfl fun cx hN h0 => ?_
      (repeat' (first | ((with_reducible apply WD_id); first | (refine WD_nxt htb (by exact rfl) ?_) | (refine WD_call (by exact rfl) ?_; first | (refine WD_c0 (valV_m (v := v) ?_) ?_; (exact hyp)) | (refine WD_c0 (okC_m _) ?_) | (refine WD_cM (cnW_m (x := x) _ ?_) ?_; (exact hyp))) | (refine WD_t (by exact rfl) (by exact rfl) (by exact known) fun hb => ?_; rw [hb]; clear hb) | (refine WD_f (by exact rfl) (by exact rfl) (by exact known) fun hb => ?_; rw [hb]; clear hb)) | (refine ct ?_) | (with_reducible apply WA_block)))
      (exact glV [(4, .ptr 4 0), (5, vI 14)] [(4, .box 49 (cellsOf (aVo vo0)))] (LeV []))
    | false =>
      rw [if_neg (by simp)]
      cases e3 : hasC v.vo x with
      | true =>
        rw [if_pos rfl]
        refine FnM.of htb Tryz.func145 rfl rfl rfl rfl rfl fun cx hN h0 => ?_
        (repeat' (first | ((with_reducible apply WD_id); first | (refine WD_nxt htb (by exact rfl) ?_) | (refine WD_call (by exact rfl) ?_; first | (refine WD_c0 (valV_m (v := v) ?_) ?_; (exact hyp)) | (refine WD_c0 (okC_m _) ?_) | (refine WD_cM (cnW_m (x := x) _ ?_) ?_; (exact hyp)) | (refine WD_c0 (hasC_m _ _ ?_) ?_; (exact hyp)) | (refine WD_c0 (fresh_v _ ?_) ?_; (exact hyp))) | (refine WD_t (by exact rfl) (by exact rfl) (by exact known) fun hb => ?_; rw [hb]; clear hb) | (refine WD_f (by exact rfl) (by exact rfl) (by exact known) fun hb => ?_; rw [hb]; clear hb)) | (refine ct ?_) | (with_reducible apply WA_block)))
        (exact glV [(4, .ptr 4 0), (5, vI 0)] [(4, .box 49 (cellsOf (aVo v)))] (LeV []))
      | false =>
        rw [if_neg (by simp)]
        have ok2 := ok_vote h hx (any_ctr (by simp [e1]))
        have tu : Turn v { v with vo := sortC (v.vo ++ [x]) } := ⟨rfl, rfl, rfl, fun y hy => mem_sort.2 ⟨ho y hy, by simp [hy]⟩, rfl, rfl⟩
        have s2 := turV_spec h ok2 tu
        have s1 := setV_spec ok2
        have trnV_m := turned_m v { v with vo := sortC (v.vo ++ [x]) } h ok2 s1.ok s2.ok (s1.t.trans tu.t)
        refine FnM.of htb Tryz.func145 rfl rfl rfl rfl rfl fun cx hN h0 => ?_
        (repeat' (first | ((with_reducible apply WD_id); first | (refine WD_nxt htb (by exact rfl) ?_) | (refine WD_call (by exact rfl) ?_; first | (refine WD_c0 (valV_m (v := v) ?_) ?_; (exact hyp)) | (refine WD_c0 (okC_m _) ?_) | (refine WD_cM (cnW_m (x := x) _ ?_) ?_; (exact hyp)) | (refine WD_c0 (hasC_m _ _ ?_) ?_; (exact hyp)) | (refine WD_c0 (putC_m (a := v.vo) (x := x) ?_ ?_ ?_) ?_; (exact hyp); (exact hyp); (exact hyp)) | (refine WD_c0 (trnV_m) ?_)) | (refine WD_t (by exact rfl) (by exact rfl) (by exact known) fun hb => ?_; rw [hb]; clear hb) | (refine WD_f (by exact rfl) (by exact rfl) (by exact known) fun hb => ?_; rw [hb]; clear hb)) | (refine ct ?_) | (with_reducible apply WA_block)))
        (exact glV [(4, .ptr 4 0), (5, vI 0)] [(4, .box 49 (cellsOf (aVo (turV v { v with vo := sortC (v.vo ++ [x]) }))))] (LeV []))
end Go.Proofs.YtdhogcklnehdhaaGreatDoor
/- Contract: a voter that hears. -/
namespace Go.Proofs.YtdhogcklnehdhaaGreatDoor
set_option linter.unusedSimpArgs false
set_option linter.unusedVariables false
set_option linter.unnecessarySimpa false
set_option linter.unusedSectionVars false
set_option maxRecDepth 100000
open Go Go.RowKit Go.Am Go.Proofs.Grow
theorem cloM49_m (l : List Ms) (hl : l.length ≤ 1000) : FnM Tryz.prog 51 [] [lMs l] (.own 49) [(49, .arr 56 7 (l.map rMs))] := by
  cases l with
  | nil =>
    refine FnM.nil_cases 0 rfl ?_ fun ad cap => ?_
    all_goals
      refine FnM.of htb Tryz.func51 rfl rfl rfl rfl rfl fun cx hN h0 => ?_
      (repeat' (first | ((with_reducible apply WD_id); first | (refine WD_bso htb ?_) | (refine WD_nxt htb (by exact rfl) ?_) | (refine WD_ap htb ?_) | (refine WD_nil htb ?_) | (refine WD_nilr htb ?_)) | (refine ct ?_) | (with_reducible apply WA_block)))
    · exact gL (.inr rfl) (Le_nilT 49 2 56 7 rfl rfl) rfl rfl ⟨rfl, trivial⟩
    · refine gL (.inr rfl) (T' := [(2, .own 49)]) (M' := [(49, .arr 56 7 [])]) ?_ rfl rfl ⟨rfl, trivial⟩
      (exact LeV [(49, 7)])
  | cons x r =>
    refine FnM.of htb Tryz.func51 rfl rfl rfl rfl rfl fun cx hN h0 => ?_
    (repeat' (first | ((with_reducible apply WD_id); first | (refine WD_bso htb ?_) | (refine WD_nxt htb (by exact rfl) ?_) | (refine WD_ap htb ?_) | (refine WD_nil htb ?_) | (refine WD_nilr htb ?_)) | (refine ct ?_) | (with_reducible apply WA_block)))
    refine gL (.inr rfl) (T' := [(2, .own 49)]) (M' := [(49, .arr 56 7 ((x :: r).map rMs))]) ?_ rfl rfl ⟨rfl, trivial⟩
    (exact LeV [(49, 7)])
theorem hitM_iff {l : List Ms} {i : Int} {p : Nat} (h : hitM l i p = true) : p < l.length := by
  simp only [hitM, Bool.and_eq_true, decide_eq_true_eq] at h; exact h.1
set_option maxHeartbeats 4000000 in
theorem hear_m (v : Vo) (m : Ms) (h : VoOK 10 v) (hm : MsOK 10 m) (hne : m.nd ≠ v.nd) : FnM Tryz.prog 13 [] [aVo v, aMs m] (.tup [aVo (heaV v m).1, vI (heaV v m).2]) [] := by
  have hhl := h.hlen (Nat.le_refl _)
  have hhl2 : v.he.length ≤ 1000 := by omega
  have hle := posM_le m.nd v.he
  have hpp := @posM_iff m.nd v.he h.asc
  have t0 : (!true) = false := rfl
  have t1 : (m.nd == v.nd) = false := by simpa using hne
  have hold := @oldM_pos v.he m h.asc
  have hput := @putM_pos v.he m h.asc
  generalize hp : posM m.nd v.he = p at *
  unfold heaV
  rw [hold]
  have ok2 := ok_hear h hm hne
  have tu : Turn v { v with he := putM v.he m } := ⟨rfl, rfl, rfl, fun y hy => hy, rfl, rfl⟩
  have s2 := turV_spec h ok2 tu
  have s1 := setV_spec ok2
  have trnH_m := turned_m v { v with he := putM v.he m } h ok2 s1.ok s2.ok (s1.t.trans tu.t)
  clear s1 s2 tu ok2
  cases hh : hitM v.he m.nd p with
  | true =>
    have hpl := hitM_iff hh
    cases ho : decide ((nth v.he p).sq ≥ m.sq) with
    | true =>
      rw [show (true && true) = true from rfl, if_pos rfl]
      refine FnM.of htb Tryz.func13 rfl rfl rfl rfl rfl fun cx hN h0 => ?_
      (repeat' (first | ((with_reducible apply WD_id); first | (refine WD_bso htb ?_) | (refine WD_nxt htb (by exact rfl) ?_) | (refine WD_call (by exact rfl) ?_; first | (refine WD_c0 (valV_m (v := v) ?_) ?_; (exact hyp)) | (refine WD_c0 (fpl_m (m := m) ?_) ?_; (exact hyp)) | (refine WD_c0 (bsM_m (l := v.he) (i := m.nd) (p := p) ?_ ?_ ?_) ?_; (exact hyp); (exact hyp); (exact hyp))) | (refine WD_idx htb ?_) | (refine WD_idxo htb ?_) | (refine WD_ste htb ?_) | (refine WD_t (by exact rfl) (by exact rfl) (by exact known) fun hb => ?_; rw [hb]; clear hb) | (refine WD_f (by exact rfl) (by exact rfl) (by exact known) fun hb => ?_; rw [hb]; clear hb)) | (refine ct ?_) | (with_reducible apply WA_block)))
      (exact glV [(4, .ptr 4 0), (5, vI 9)] [(4, .box 49 (cellsOf (aVo vo0)))] (LeV []))
    | false =>
      rw [if_neg (by simp)]
      rw [hh, if_pos rfl] at hput
      have hrow : (v.he.map rMs).set p (rMs m) = (v.he.set p m).map rMs := by rw [List.map_set]
      refine FnM.of htb Tryz.func13 rfl rfl rfl rfl rfl fun cx hN h0 => ?_
      (repeat' (first | ((with_reducible apply WD_id); first | (refine WD_bso htb ?_) | (refine WD_nxt htb (by exact rfl) ?_) | (refine WD_call (by exact rfl) ?_; first | (refine WD_c0 (valV_m (v := v) ?_) ?_; (exact hyp)) | (refine WD_c0 (fpl_m (m := m) ?_) ?_; (exact hyp)) | (refine WD_c0 (bsM_m (l := v.he) (i := m.nd) (p := p) ?_ ?_ ?_) ?_; (exact hyp); (exact hyp); (exact hyp))) | (refine WD_idx htb ?_) | (refine WD_idxo htb ?_) | (refine WD_ste htb ?_) | (refine WD_t (by exact rfl) (by exact rfl) (by exact known) fun hb => ?_; rw [hb]; clear hb) | (refine WD_f (by exact rfl) (by exact rfl) (by exact known) fun hb => ?_; rw [hb]; clear hb)) | (refine ct ?_) | (with_reducible apply WA_block)))
      (repeat' (first | ((with_reducible apply WD_id); first | (refine WD_bso htb ?_) | (refine WD_nxt htb (by exact rfl) ?_) | (refine WD_call (by exact rfl) ?_; first | (refine WD_cM (cloM49_m _ ?_) ?_; (exact hyp))) | (refine WD_idx htb ?_) | (refine WD_idxo htb ?_) | (refine WD_ste htb ?_) | (refine WD_t (by exact rfl) (by exact rfl) (by exact known) fun hb => ?_; rw [hb]; clear hb) | (refine WD_f (by exact rfl) (by exact rfl) (by exact known) fun hb => ?_; rw [hb]; clear hb)) | ((with_reducible apply WD_end); (first | exact no_draw | (intro _; kernel_rfl)); try simp only [thn, inB, List.length_map, List.cons_append, List.nil_append])))
      (repeat' (first | (with_reducible apply WA_seq) | ((with_reducible apply gCt); exact rfl; exact rfl) | ((with_reducible apply gCf); exact rfl; exact rfl) | ((with_reducible apply gCk); exact rfl; exact known; intro hb; rw [hb]; clear hb) | ((with_reducible apply gCn); exact rfl; exact known; intro hb; rw [hb]; clear hb) | (with_reducible apply WA_block) | ((with_reducible first | apply WA_skip | apply WA_ret | apply WA_exit | apply WA_label); try simp only [thn, inB, List.length_map, List.cons_append, List.nil_append])))
      ((with_reducible apply gR hmix hN); exact (by kernel_rfl); (try dsimp only [List.append_eq, List.cons_append, List.nil_append]))
      (repeat' (first | ((with_reducible apply WD_id); first | (refine WD_bso htb ?_) | (refine WD_nxt htb (by exact rfl) ?_) | (refine WD_idx htb ?_) | (refine WD_idxo htb ?_) | (refine WD_ste htb ?_) | (refine WD_t (by exact rfl) (by exact rfl) (by exact known) fun hb => ?_; rw [hb]; clear hb) | (refine WD_f (by exact rfl) (by exact rfl) (by exact known) fun hb => ?_; rw [hb]; clear hb)) | ((with_reducible apply WD_end); (first | exact no_draw | (intro _; kernel_rfl)); try simp only [thn, inB, List.length_map, List.cons_append, List.nil_append])))
      (repeat' (first | (with_reducible apply WA_seq) | ((with_reducible apply gCt); exact rfl; exact rfl) | ((with_reducible apply gCf); exact rfl; exact rfl) | ((with_reducible apply gCk); exact rfl; exact known; intro hb; rw [hb]; clear hb) | ((with_reducible apply gCn); exact rfl; exact known; intro hb; rw [hb]; clear hb) | (with_reducible apply WA_block) | ((with_reducible first | apply WA_skip | apply WA_ret | apply WA_exit | apply WA_label); try simp only [thn, inB, List.length_map, List.cons_append, List.nil_append])))
      ((with_reducible apply gR hmix hN); exact (by kernel_rfl); (try dsimp only [List.append_eq, List.cons_append, List.nil_append]))
      (repeat' (first | ((with_reducible apply WD_id); first | (refine WD_bso htb ?_) | (refine WD_nxt htb (by exact rfl) ?_) | (refine WD_idx htb ?_) | (refine WD_idxo htb ?_) | (refine WD_ste htb ?_) | (refine WD_t (by exact rfl) (by exact rfl) (by exact known) fun hb => ?_; rw [hb]; clear hb) | (refine WD_f (by exact rfl) (by exact rfl) (by exact known) fun hb => ?_; rw [hb]; clear hb)) | ((with_reducible apply WD_end); (first | exact no_draw | (intro _; kernel_rfl)); try simp only [thn, inB, List.length_map, List.cons_append, List.nil_append])))
      (repeat' (first | (with_reducible apply WA_seq) | ((with_reducible apply gCt); exact rfl; exact rfl) | ((with_reducible apply gCf); exact rfl; exact rfl) | ((with_reducible apply gCk); exact rfl; exact known; intro hb; rw [hb]; clear hb) | ((with_reducible apply gCn); exact rfl; exact known; intro hb; rw [hb]; clear hb) | (with_reducible apply WA_block) | ((with_reducible first | apply WA_skip | apply WA_ret | apply WA_exit | apply WA_label); try simp only [thn, inB, List.length_map, List.cons_append, List.nil_append])))
      show WA _ _ _ _ ⟨_, (49, .arr _ 7 ((v.he.map rMs).set p (rMs m))) :: _⟩
      rw [hrow, ← hput]
      refine WA_le (s' := ⟨[(8, .ptr 8 0), (4, .ptr 4 0), (3, .ptr 3 0), (2, .ptr 2 0)], [(8, .box 49 [vI v.nd, vI v.sq, vI v.t.k, lI v.t.ns, lTr v.t.is, lC v.vo, lC v.ac, lC v.co, lMs (putM v.he m)]), (4, .box 49 (cellsOf (aVo vo0))), (3, .box 56 (cellsOf (aMs m))), (2, .box 49 (cellsOf (aVo v)))]⟩) (LeV []) ?_
      (repeat' (first | ((with_reducible apply WD_id); first | (refine WD_bso htb ?_) | (refine WD_nxt htb (by exact rfl) ?_) | (refine WD_call (by exact rfl) ?_; first | (refine WD_c0 (trnH_m) ?_)) | (refine WD_idx htb ?_) | (refine WD_idxo htb ?_) | (refine WD_ste htb ?_) | (refine WD_t (by exact rfl) (by exact rfl) (by exact known) fun hb => ?_; rw [hb]; clear hb) | (refine WD_f (by exact rfl) (by exact rfl) (by exact known) fun hb => ?_; rw [hb]; clear hb)) | (refine ct ?_) | (with_reducible apply WA_block)))
      (exact glV [(4, .ptr 4 0), (5, vI 0)] [(4, .box 49 (cellsOf (aVo (turV v { v with he := putM v.he m }))))] (LeV []))
  | false =>
    rw [Bool.false_and, if_neg (by simp)]
    rw [hh, if_neg (by simp)] at hput
    refine FnM.of htb Tryz.func13 rfl rfl rfl rfl rfl fun cx hN h0 => ?_
    (repeat' (first | ((with_reducible apply WD_id); first | (refine WD_bso htb ?_) | (refine WD_nxt htb (by exact rfl) ?_) | (refine WD_call (by exact rfl) ?_; first | (refine WD_c0 (valV_m (v := v) ?_) ?_; (exact hyp)) | (refine WD_c0 (fpl_m (m := m) ?_) ?_; (exact hyp)) | (refine WD_c0 (bsM_m (l := v.he) (i := m.nd) (p := p) ?_ ?_ ?_) ?_; (exact hyp); (exact hyp); (exact hyp))) | (refine WD_idx htb ?_) | (refine WD_idxo htb ?_) | (refine WD_ste htb ?_) | (refine WD_t (by exact rfl) (by exact rfl) (by exact known) fun hb => ?_; rw [hb]; clear hb) | (refine WD_f (by exact rfl) (by exact rfl) (by exact known) fun hb => ?_; rw [hb]; clear hb)) | (refine ct ?_) | (with_reducible apply WA_block)))
    (repeat' (first | ((with_reducible apply WD_id); first | (refine WD_bso htb ?_) | (refine WD_nxt htb (by exact rfl) ?_) | (refine WD_call (by exact rfl) ?_; first | (refine WD_cM (cloM49_m _ ?_) ?_; (exact hyp))) | (refine WD_idx htb ?_) | (refine WD_idxo htb ?_) | (refine WD_ste htb ?_) | (refine WD_t (by exact rfl) (by exact rfl) (by exact known) fun hb => ?_; rw [hb]; clear hb) | (refine WD_f (by exact rfl) (by exact rfl) (by exact known) fun hb => ?_; rw [hb]; clear hb)) | ((with_reducible apply WD_end); (first | exact no_draw | (intro _; kernel_rfl)); try simp only [thn, inB, List.length_map, List.cons_append, List.nil_append])))
    (repeat' (first | (with_reducible apply WA_seq) | ((with_reducible apply gCt); exact rfl; exact rfl) | ((with_reducible apply gCf); exact rfl; exact rfl) | ((with_reducible apply gCk); exact rfl; exact known; intro hb; rw [hb]; clear hb) | ((with_reducible apply gCn); exact rfl; exact known; intro hb; rw [hb]; clear hb) | (with_reducible apply WA_block) | ((with_reducible first | apply WA_skip | apply WA_ret | apply WA_exit | apply WA_label); try simp only [thn, inB, List.length_map, List.cons_append, List.nil_append])))
    ((with_reducible apply gR hmix hN); exact (by kernel_rfl); (try dsimp only [List.append_eq, List.cons_append, List.nil_append]))
    (repeat' (first | ((with_reducible apply WD_id); first | (refine WD_bso htb ?_) | (refine WD_nxt htb (by exact rfl) ?_) | (refine WD_idx htb ?_) | (refine WD_idxo htb ?_) | (refine WD_ste htb ?_) | (refine WD_t (by exact rfl) (by exact rfl) (by exact known) fun hb => ?_; rw [hb]; clear hb) | (refine WD_f (by exact rfl) (by exact rfl) (by exact known) fun hb => ?_; rw [hb]; clear hb)) | ((with_reducible apply WD_end); (first | exact no_draw | (intro _; kernel_rfl)); try simp only [thn, inB, List.length_map, List.cons_append, List.nil_append])))
    (repeat' (first | (with_reducible apply WA_seq) | ((with_reducible apply gCt); exact rfl; exact rfl) | ((with_reducible apply gCf); exact rfl; exact rfl) | ((with_reducible apply gCk); exact rfl; exact known; intro hb; rw [hb]; clear hb) | ((with_reducible apply gCn); exact rfl; exact known; intro hb; rw [hb]; clear hb) | (with_reducible apply WA_block) | ((with_reducible first | apply WA_skip | apply WA_ret | apply WA_exit | apply WA_label); try simp only [thn, inB, List.length_map, List.cons_append, List.nil_append])))
    ((with_reducible apply gR hmix hN); exact (by kernel_rfl); (try dsimp only [List.append_eq, List.cons_append, List.nil_append]))
    (repeat' (first | ((with_reducible apply WD_id); first | (refine WD_bso htb ?_) | (refine WD_nxt htb (by exact rfl) ?_) | (refine WD_call (by exact rfl) ?_; first | (refine WD_cM (insM_pm (l := v.he) (i := p) (x := m) ?_ ?_) ?_; (exact hyp); (exact hyp))) | (refine WD_idx htb ?_) | (refine WD_idxo htb ?_) | (refine WD_ste htb ?_) | (refine WD_t (by exact rfl) (by exact rfl) (by exact known) fun hb => ?_; rw [hb]; clear hb) | (refine WD_f (by exact rfl) (by exact rfl) (by exact known) fun hb => ?_; rw [hb]; clear hb)) | ((with_reducible apply WD_end); (first | exact no_draw | (intro _; kernel_rfl)); try simp only [thn, inB, List.length_map, List.cons_append, List.nil_append])))
    (repeat' (first | (with_reducible apply WA_seq) | ((with_reducible apply gCt); exact rfl; exact rfl) | ((with_reducible apply gCf); exact rfl; exact rfl) | ((with_reducible apply gCk); exact rfl; exact known; intro hb; rw [hb]; clear hb) | ((with_reducible apply gCn); exact rfl; exact known; intro hb; rw [hb]; clear hb) | (with_reducible apply WA_block) | ((with_reducible first | apply WA_skip | apply WA_ret | apply WA_exit | apply WA_label); try simp only [thn, inB, List.length_map, List.cons_append, List.nil_append])))
    rw [← hput]
    refine WA_le (s' := ⟨[(8, .ptr 8 0), (4, .ptr 4 0), (3, .ptr 3 0), (2, .ptr 2 0)], [(8, .box 49 [vI v.nd, vI v.sq, vI v.t.k, lI v.t.ns, lTr v.t.is, lC v.vo, lC v.ac, lC v.co, lMs (putM v.he m)]), (4, .box 49 (cellsOf (aVo vo0))), (3, .box 56 (cellsOf (aMs m))), (2, .box 49 (cellsOf (aVo v)))]⟩) (LeV []) ?_
    (repeat' (first | ((with_reducible apply WD_id); first | (refine WD_bso htb ?_) | (refine WD_nxt htb (by exact rfl) ?_) | (refine WD_call (by exact rfl) ?_; first | (refine WD_c0 (trnH_m) ?_)) | (refine WD_idx htb ?_) | (refine WD_idxo htb ?_) | (refine WD_ste htb ?_) | (refine WD_t (by exact rfl) (by exact rfl) (by exact known) fun hb => ?_; rw [hb]; clear hb) | (refine WD_f (by exact rfl) (by exact rfl) (by exact known) fun hb => ?_; rw [hb]; clear hb)) | (refine ct ?_) | (with_reducible apply WA_block)))
    (exact glV [(4, .ptr 4 0), (5, vI 0)] [(4, .box 49 (cellsOf (aVo (turV v { v with he := putM v.he m }))))] (LeV []))
end Go.Proofs.YtdhogcklnehdhaaGreatDoor
/- Contracts: valid meetings; who may act. -/
namespace Go.Proofs.YtdhogcklnehdhaaGreatDoor
set_option linter.unusedSimpArgs false
set_option linter.unusedVariables false
set_option linter.unnecessarySimpa false
set_option linter.unusedSectionVars false
set_option maxRecDepth 100000
open Go Go.RowKit Go.Am Go.Proofs.Grow
abbrev aMt (m : Mt) : AV := .agg [lVo m.vs, vI (m.st : Int), vI (m.il : Int)]
def rPl (p : Pl) : List D := [dI p.kd, dI p.fr, dI p.to, dI p.c.1, dI p.c.2, dI p.t.k, .rows 1 (p.t.ns.map rI), .rows 3 (p.t.is.map rTr), dI p.m.nd, dI p.m.sq, dI p.m.t.k, .rows 1 (p.m.t.ns.map rI), .rows 3 (p.m.t.is.map rTr), .rows 2 (p.m.vo.map rC), .rows 2 (p.m.ac.map rC)]
abbrev aPl (p : Pl) : AV := .agg [vI p.kd, vI p.fr, vI p.to, vI p.c.1, vI p.c.2, vI p.t.k, lI p.t.ns, lTr p.t.is, vI p.m.nd, vI p.m.sq, vI p.m.t.k, lI p.m.t.ns, lTr p.m.t.is, lC p.m.vo, lC p.m.ac]
abbrev lPl (l : List Pl) : AV := .d (.rows 15 (l.map rPl))
theorem ins_m (t : Tr) (n : Nat) (hn : n ≤ 10) (ht : FitT n t) : FnM Tryz.prog 96 [] [aTr t, vI (n : Int)] (vB true) [] := by
  have hs := ht.siz
  have useX_m := use_m _ t (Nat.le_refl _) (by omega)
  have h1 : decide (useT t < ((2 ^ n : Nat) : Int)) = true := by simpa using ht.use
  refine FnM.of htb Tryz.func96 rfl rfl rfl rfl rfl fun cx hN h0 => ?_
  (repeat' (first | ((with_reducible apply WD_id); first | (refine WD_nxt htb (by exact rfl) ?_) | (refine WD_call (by exact rfl) ?_; first | (refine WD_c0 (useX_m) ?_)) | (refine WD_eq (shlN_step rfl rfl rfl) ?_)) | (refine ct ?_) | (with_reducible apply WA_block)))
  exact gE (.inr rfl) rfl (congrArg vB h1) trivial
theorem av1_m (m : Ms) (n : Nat) (hn : n ≤ 10) (h : MsOK n m) : FnM Tryz.prog 98 [(3, .box 3 [vI (n : Int)])] [aMs m, .ptr 3 0] (vB false) [(3, .box 3 [vI (n : Int)])] := by
  have ht := h.t
  have h1 := h.nd1
  have t1 : decide (m.nd ≥ (n : Int)) = false := by simp only [decide_eq_false_iff_not]; omega
  have t2 : (!true) = false := rfl
  refine FnM.of htb Tryz.func98 rfl rfl rfl rfl rfl fun cx hN h0 => ?_
  (repeat' (first | ((with_reducible apply WD_id); first | (refine WD_nxt htb (by exact rfl) ?_) | (refine WD_call (by exact rfl) ?_; first | (refine WD_c0 (ins_m (t := m.t) (n := n) ?_ ?_) ?_; (exact hyp); (exact hyp))) | (refine WD_f (by exact rfl) (by exact rfl) (by exact known) fun hb => ?_; rw [hb]; clear hb)) | (refine ct ?_) | (with_reducible apply WA_block)))
  exact gE (.inr rfl) rfl rfl ⟨rfl, trivial⟩
theorem aix_m (l : List Ms) (n : Nat) (hn : n ≤ 10 ∧ l.length ≤ 1000) (h : ∀ m ∈ l, MsOK n m) : FnM Tryz.prog 148 [(3, .box 3 [vI (n : Int)])] [lMs l, .clo 98 [.ptr 3 0]] (vI (-1)) [(3, .box 3 [vI (n : Int)])] := by
  obtain ⟨hn, hl⟩ := hn
  refine FnM.of htb Tryz.func148 rfl rfl rfl rfl rfl fun cx hN h0 => ?_
  (repeat' (first | ((with_reducible apply WD_id); first | (refine WD_sum ?_) | (refine WD_nxt htb (by exact rfl) ?_) | (refine WD_idx htb ?_)) | (refine ct ?_) | (with_reducible apply WA_block)))
  (refine WA_forV (l.length) [8] [] (fun k => [(8, vI k)]) (fun k => []) (fun k => True) ?h0 ?_)
  case h0 => trivial
  intro k hk _
  rcases Nat.lt_or_ge k l.length with hk' | hk'
  · have t1 : decide ((k : Int) < (l.length : Int)) = true := by simp; omega
    have hm := h _ (nth_mem l k hk')
    (repeat' (first | ((with_reducible apply WD_id); first | (refine WD_sum ?_) | (refine WD_nxt htb (by exact rfl) ?_) | (refine WD_call (by exact rfl) ?_; first | (refine WD_cM (av1_m (m := nth l k) (n := n) ?_ ?_) ?_; (exact hyp); (exact hyp))) | (refine WD_idx htb ?_)) | (refine ct ?_) | (with_reducible apply WA_block)))
    refine ⟨hk', trivial, ?_⟩
    (exact LeV [])
  · have t1 : decide ((k : Int) < (l.length : Int)) = false := by simp; omega
    (repeat' (first | ((with_reducible apply WD_id); first | (refine WD_sum ?_) | (refine WD_nxt htb (by exact rfl) ?_) | (refine WD_idx htb ?_)) | (refine ct ?_) | (with_reducible apply WA_block)))
    exact gE (.inr rfl) rfl rfl ⟨rfl, trivial⟩
theorem acn_m (l : List Ms) (n : Nat) (hn : n ≤ 10 ∧ l.length ≤ 1000) (h : ∀ m ∈ l, MsOK n m) : FnM Tryz.prog 97 [(3, .box 3 [vI (n : Int)])] [lMs l, .clo 98 [.ptr 3 0]] (vB false) [(3, .box 3 [vI (n : Int)])] := by
  refine FnM.of htb Tryz.func97 rfl rfl rfl rfl rfl fun cx hN h0 => ?_
  (repeat' (first | ((with_reducible apply WD_id); first | (refine WD_nxt htb (by exact rfl) ?_) | (refine WD_call (by exact rfl) ?_; first | (refine WD_cM (aix_m (n := n) _ ?_ ?_) ?_; (exact hyp); (exact hyp)))) | (refine ct ?_) | (with_reducible apply WA_block)))
  exact gE (.inr rfl) rfl rfl ⟨rfl, trivial⟩
set_option maxHeartbeats 4000000 in
theorem mval_m (m : Mt) (n : Nat) (h : MtOK n m) : FnM Tryz.prog 38 [] [aMt m] (vB true) [] := by
  have hn1 := h.n1
  have hn := h.n10
  have hl := h.len
  have h2 := two_le hn
  have hs := h.st
  have hi := h.il
  have t1 : decide (((m.vs.length : Nat) : Int) < 1) = false := by simp only [decide_eq_false_iff_not]; omega
  have t2 : decide (((m.vs.length : Nat) : Int) > 10) = false := by simp only [decide_eq_false_iff_not]; omega
  have t3 : decide ((m.il : Int) < 0) = false := by simp only [decide_eq_false_iff_not]; omega
  have t4 : decide ((m.il : Int) ≥ ((2 ^ m.vs.length : Nat) : Int)) = false := by rw [hl]; simp only [decide_eq_false_iff_not]; omega
  have t5 : decide ((m.st : Int) < 0) = false := by simp only [decide_eq_false_iff_not]; omega
  have t6 : decide ((m.st : Int) ≥ ((2 ^ m.vs.length : Nat) : Int)) = false := by rw [hl]; simp only [decide_eq_false_iff_not]; omega
  have t7 : (((m.il &&& m.st : Nat) : Int) != 0) = false := by rw [h.dis]; rfl
  have t8 : (!true) = false := rfl
  have hsl : m.st < 4611686018427387904 := by omega
  have hil : m.il < 4611686018427387904 := by omega
  have hln : m.vs.length ≤ 61 := by omega
  refine FnM.of htb Tryz.func38 rfl rfl rfl rfl rfl fun cx hN h0 => ?_
  (repeat' (first | ((with_reducible apply WD_id); first | (refine WD_sum ?_) | (refine WD_nxt htb (by exact rfl) ?_) | (refine WD_eq (shlN_step rfl rfl rfl) ?_) | (refine WD_eq (bandN_step rfl rfl rfl) ?_) | (refine WD_idx htb ?_) | (refine WD_f (by exact rfl) (by exact rfl) (by exact known) fun hb => ?_; rw [hb]; clear hb)) | (refine ct ?_) | (with_reducible apply WA_block)))
  refine WA_le (s' := ⟨[(50, vI 0), (49, vI (m.vs.length : Int)), (48, lVo m.vs), (3, .ptr 3 0), (1, .ptr 1 0)], [(3, .box 3 [vI (m.vs.length : Int)]), (1, .box 34 (cellsOf (aMt m)))]⟩) (LeV []) ?_
  (refine WA_forV (m.vs.length) [50] [] (fun k => [(50, vI k)]) (fun k => []) (fun k => True) ?h0 ?_)
  case h0 => trivial
  intro k hk _
  rcases Nat.lt_or_ge k m.vs.length with hk' | hk'
  · have d1 : decide ((k : Int) < (m.vs.length : Int)) = true := by simp; omega
    have hv := h.ok k (by omega)
    have hv10 := hv.mono hn
    have hnd := h.nd k (by omega)
    have d2 : ((nth m.vs k).nd != (k : Int)) = false := by rw [hnd]; simp
    have ht := hv.t
    have hhl := hv.hlen hn
    have hho : ∀ x ∈ (nth m.vs k).he, MsOK m.vs.length x := fun x hx => by rw [hl]; exact (hv.he x hx).1
    have ht2 : FitT m.vs.length (nth m.vs k).t := by rw [hl]; exact ht
    have hb : m.vs.length ≤ 10 ∧ (nth m.vs k).he.length ≤ 1000 := by omega
    have hb1 : m.vs.length ≤ 10 := hb.1
    (repeat' (first | ((with_reducible apply WD_id); first | (refine WD_sum ?_) | (refine WD_nxt htb (by exact rfl) ?_) | (refine WD_call (by exact rfl) ?_; first | (refine WD_c0 (valV_m (v := nth m.vs k) ?_) ?_; (exact hyp)) | (refine WD_c0 (ins_m (t := (nth m.vs k).t) (n := m.vs.length) ?_ ?_) ?_; (exact hyp); (exact hyp)) | (refine WD_cM (acn_m (l := (nth m.vs k).he) (n := m.vs.length) ?_ ?_) ?_; (exact hyp); (exact hyp))) | (refine WD_idx htb ?_) | (refine WD_f (by exact rfl) (by exact rfl) (by exact known) fun hb => ?_; rw [hb]; clear hb)) | (refine ct ?_) | (with_reducible apply WA_block)))
    refine ⟨hk', trivial, ?_⟩
    (exact LeV [])
  · have d1 : decide ((k : Int) < (m.vs.length : Int)) = false := by simp; omega
    (repeat' (first | ((with_reducible apply WD_id); first | (refine WD_sum ?_) | (refine WD_nxt htb (by exact rfl) ?_) | (refine WD_idx htb ?_) | (refine WD_f (by exact rfl) (by exact rfl) (by exact known) fun hb => ?_; rw [hb]; clear hb)) | (refine ct ?_) | (with_reducible apply WA_block)))
    exact gE (.inr rfl) rfl rfl trivial
theorem tgt_m (k : Int) : FnM Tryz.prog 144 [] [vI k] (vB (isTo k)) [] := by
  refine FnM.of htb Tryz.func144 rfl rfl rfl rfl rfl fun cx hN h0 => ?_
  (repeat' (first | ((with_reducible apply WD_id); first | (refine WD_nxt htb (by exact rfl) ?_) | ((refine WD_tf (by exact rfl) (by exact rfl) ?_ ?_) <;> (intro hb; (fail_if_success (with_reducible injection hb)); rw [hb]; (try simp only [List.length_map] at hb)))) | (refine ct ?_) | (with_reducible apply WA_block)))
  all_goals exact gE (.inr rfl) rfl (congrArg vB (by simp_all [isTo])) trivial
end Go.Proofs.YtdhogcklnehdhaaGreatDoor
/- Contracts: a step of a meeting. -/
namespace Go.Proofs.YtdhogcklnehdhaaGreatDoor
set_option linter.unusedSimpArgs false
set_option linter.unusedVariables false
set_option linter.unnecessarySimpa false
set_option linter.unusedSectionVars false
set_option maxRecDepth 100000
open Go Go.RowKit Go.Am Go.Proofs.Grow
section
variable {o : Oper} {t t' : TypeId} {x y : Operand} {T : Nat → Option AV} {M : Nat → Option AO}
theorem neBw_step {a b : Bool} (ho : o.op = .binOp .neq 4 x y t') (hx : evA T x = some (vB a)) (hy : evA T y = some (vB b)) : StepOK Tryz.prog o T M ⟨vB (a != b), [], []⟩ :=
  step_read [] fun cx μ T' M' ac w h hT _ => by
    have h1 := (h.ev (x := x) hT (by simp [ho, Op.operands]) hx).val
    have h2 := (h.ev (x := y) hT (by simp [ho, Op.operands]) hy).val
    refine ⟨.bool (a != b), ?_, .d (.v _)⟩
    simp only [execOp, ho, h1, h2]
    cases a <;> cases b <;> simp [eqGuard, go_sem]
end
theorem has_nm {s k : Nat} (hs : s < 1024) (hk : k < 10) : FnM Tryz.prog 57 [] [vI (s : Int), vI (k : Int)] (vB (s.testBit k)) [] := by
  have := has_m (s : Int) (k : Int)
  rw [has_nat hs hk] at this
  exact this
theorem ask_facts {n : Nat} {m : Mt} {a b : Nat} (h : MtOK n m) (ha : a < n) (hb : b < n) : m.il < 1024 ∧ m.st < 1024 ∧ m.il ||| m.st < 1024 ∧ a < 10 ∧ b < 10 ∧ decide ((a : Int) < 0) = false ∧ decide ((b : Int) < 0) = false ∧ decide ((a : Int) ≥ ((m.vs.length : Nat) : Int)) = false ∧ decide ((b : Int) ≥ ((m.vs.length : Nat) : Int)) = false := by
  have hn := h.n10
  have hl := h.len
  have h2 := two_le hn
  have := h.st
  have := h.il
  refine ⟨by omega, by omega, or_lt10 (by omega) (by omega), by omega, by omega, ?_, ?_, ?_, ?_⟩ <;> simp only [decide_eq_false_iff_not] <;> omega
theorem ask1_m (m : Mt) (n a b : Nat) (c : Cl) (t : Tr) (x : Ms) (h : MtOK n m) (ha : a < n) (hb : b < n) : FnM Tryz.prog 87 [] [aMt m, aPl ⟨1, (a : Int), (b : Int), c, t, x⟩] (vI (askF m ⟨1, (a : Int), (b : Int), c, t, x⟩)) [] := by
  obtain ⟨f1, f2, f3, f4, f5, f6, f7, f8, f9⟩ := ask_facts h ha hb
  have t0 : (!true) = false := rfl
  have t1 : decide ((1 : Int) < 1) = false := by decide
  have t2 : decide ((1 : Int) > 5) = false := by decide
  have t3 : isTo 1 = false := rfl
  have t4 : ((1 : Int) == 5) = false := rfl
  have hsA_m := has_nm f1 f4
  have hsB_m := has_nm f2 f4
  have e0 : askF m ⟨1, (a : Int), (b : Int), c, t, x⟩ = if (m.il.testBit a || m.st.testBit a) = true then 13 else 0 := by
    unfold askF gonB
    dsimp only
    rw [t3, if_neg (by simp), t4, if_neg (c := false = true) (by simp), Int.toNat_natCast]
    cases m.il.testBit a <;> rfl
  rw [e0]
  cases e1 : m.il.testBit a with
  | true =>
    rw [e1] at hsA_m
    have d1 : (true != ((1 : Int) == 5)) = true := by rw [t4]; rfl
    refine FnM.of htb Tryz.func87 rfl rfl rfl rfl rfl fun cx hN h0 => ?_
    (repeat' (first | ((with_reducible apply WD_id); first | (refine WD_nxt htb (by exact rfl) ?_) | (refine WD_call (by exact rfl) ?_; first | (refine WD_c0 (mval_m (n := n) _ ?_) ?_; (exact hyp)) | (refine WD_c0 (tgt_m _) ?_) | (refine WD_c0 (hsA_m) ?_) | (refine WD_c0 (hsB_m) ?_)) | (refine WD_eq (neBw_step rfl rfl rfl) ?_)) | (refine ct ?_) | (with_reducible apply WA_block)))
    exact gE (.inr rfl) rfl rfl trivial
  | false =>
    rw [e1] at hsA_m
    have d1 : (false != ((1 : Int) == 5)) = false := by rw [t4]; rfl
    cases e2 : m.st.testBit a with
    | true =>
      rw [e2] at hsB_m
      refine FnM.of htb Tryz.func87 rfl rfl rfl rfl rfl fun cx hN h0 => ?_
      (repeat' (first | ((with_reducible apply WD_id); first | (refine WD_nxt htb (by exact rfl) ?_) | (refine WD_call (by exact rfl) ?_; first | (refine WD_c0 (mval_m (n := n) _ ?_) ?_; (exact hyp)) | (refine WD_c0 (tgt_m _) ?_) | (refine WD_c0 (hsA_m) ?_) | (refine WD_c0 (hsB_m) ?_)) | (refine WD_eq (neBw_step rfl rfl rfl) ?_)) | (refine ct ?_) | (with_reducible apply WA_block)))
      exact gE (.inr rfl) rfl rfl trivial
    | false =>
      rw [e2] at hsB_m
      refine FnM.of htb Tryz.func87 rfl rfl rfl rfl rfl fun cx hN h0 => ?_
      (repeat' (first | ((with_reducible apply WD_id); first | (refine WD_nxt htb (by exact rfl) ?_) | (refine WD_call (by exact rfl) ?_; first | (refine WD_c0 (mval_m (n := n) _ ?_) ?_; (exact hyp)) | (refine WD_c0 (tgt_m _) ?_) | (refine WD_c0 (hsA_m) ?_) | (refine WD_c0 (hsB_m) ?_)) | (refine WD_eq (neBw_step rfl rfl rfl) ?_)) | (refine ct ?_) | (with_reducible apply WA_block)))
      exact gE (.inr rfl) rfl rfl trivial
theorem ask4_m (m : Mt) (n a b : Nat) (c : Cl) (t : Tr) (x : Ms) (h : MtOK n m) (ha : a < n) (hb : b < n) : FnM Tryz.prog 87 [] [aMt m, aPl ⟨4, (a : Int), (b : Int), c, t, x⟩] (vI (askF m ⟨4, (a : Int), (b : Int), c, t, x⟩)) [] := by
  obtain ⟨f1, f2, f3, f4, f5, f6, f7, f8, f9⟩ := ask_facts h ha hb
  have t0 : (!true) = false := rfl
  have t1 : decide ((4 : Int) < 1) = false := by decide
  have t2 : decide ((4 : Int) > 5) = false := by decide
  have t3 : isTo 4 = false := rfl
  have t4 : ((4 : Int) == 5) = false := rfl
  have hsA_m := has_nm f1 f4
  have hsB_m := has_nm f2 f4
  have e0 : askF m ⟨4, (a : Int), (b : Int), c, t, x⟩ = if (m.il.testBit a || m.st.testBit a) = true then 13 else 0 := by
    unfold askF gonB
    dsimp only
    rw [t3, if_neg (by simp), t4, if_neg (c := false = true) (by simp), Int.toNat_natCast]
    cases m.il.testBit a <;> rfl
  rw [e0]
  cases e1 : m.il.testBit a with
  | true =>
    rw [e1] at hsA_m
    have d1 : (true != ((4 : Int) == 5)) = true := by rw [t4]; rfl
    refine FnM.of htb Tryz.func87 rfl rfl rfl rfl rfl fun cx hN h0 => ?_
    (repeat' (first | ((with_reducible apply WD_id); first | (refine WD_nxt htb (by exact rfl) ?_) | (refine WD_call (by exact rfl) ?_; first | (refine WD_c0 (mval_m (n := n) _ ?_) ?_; (exact hyp)) | (refine WD_c0 (tgt_m _) ?_) | (refine WD_c0 (hsA_m) ?_) | (refine WD_c0 (hsB_m) ?_)) | (refine WD_eq (neBw_step rfl rfl rfl) ?_)) | (refine ct ?_) | (with_reducible apply WA_block)))
    exact gE (.inr rfl) rfl rfl trivial
  | false =>
    rw [e1] at hsA_m
    have d1 : (false != ((4 : Int) == 5)) = false := by rw [t4]; rfl
    cases e2 : m.st.testBit a with
    | true =>
      rw [e2] at hsB_m
      refine FnM.of htb Tryz.func87 rfl rfl rfl rfl rfl fun cx hN h0 => ?_
      (repeat' (first | ((with_reducible apply WD_id); first | (refine WD_nxt htb (by exact rfl) ?_) | (refine WD_call (by exact rfl) ?_; first | (refine WD_c0 (mval_m (n := n) _ ?_) ?_; (exact hyp)) | (refine WD_c0 (tgt_m _) ?_) | (refine WD_c0 (hsA_m) ?_) | (refine WD_c0 (hsB_m) ?_)) | (refine WD_eq (neBw_step rfl rfl rfl) ?_)) | (refine ct ?_) | (with_reducible apply WA_block)))
      exact gE (.inr rfl) rfl rfl trivial
    | false =>
      rw [e2] at hsB_m
      refine FnM.of htb Tryz.func87 rfl rfl rfl rfl rfl fun cx hN h0 => ?_
      (repeat' (first | ((with_reducible apply WD_id); first | (refine WD_nxt htb (by exact rfl) ?_) | (refine WD_call (by exact rfl) ?_; first | (refine WD_c0 (mval_m (n := n) _ ?_) ?_; (exact hyp)) | (refine WD_c0 (tgt_m _) ?_) | (refine WD_c0 (hsA_m) ?_) | (refine WD_c0 (hsB_m) ?_)) | (refine WD_eq (neBw_step rfl rfl rfl) ?_)) | (refine ct ?_) | (with_reducible apply WA_block)))
      exact gE (.inr rfl) rfl rfl trivial
theorem ask2_m (m : Mt) (n a b : Nat) (c : Cl) (t : Tr) (x : Ms) (h : MtOK n m) (ha : a < n) (hb : b < n) : FnM Tryz.prog 87 [] [aMt m, aPl ⟨2, (a : Int), (b : Int), c, t, x⟩] (vI (askF m ⟨2, (a : Int), (b : Int), c, t, x⟩)) [] := by
  obtain ⟨f1, f2, f3, f4, f5, f6, f7, f8, f9⟩ := ask_facts h ha hb
  have t0 : (!true) = false := rfl
  have t1 : decide ((2 : Int) < 1) = false := by decide
  have t2 : decide ((2 : Int) > 5) = false := by decide
  have t3 : isTo 2 = true := rfl
  have t4 : ((2 : Int) == 5) = false := rfl
  have hsA_m := has_nm f1 f4
  have hsB_m := has_nm f2 f4
  have hsC_m := has_nm f3 f5
  rcases Nat.decEq b a with hba | hba
  · have d0 : ((b : Int) == (a : Int)) = false := by simp; omega
    have e0 : askF m ⟨2, (a : Int), (b : Int), c, t, x⟩ = if ((m.il.testBit a != false) || (m.il ||| m.st).testBit b) = true then 13 else 0 := by
      unfold askF gonB
      dsimp only
      rw [t3, if_neg (by omega), t4, if_pos rfl, Int.toNat_natCast, Int.toNat_natCast]
    rw [e0]
    cases e1 : (m.il.testBit a != false) with
    | true =>
      have d1 : (m.il.testBit a != ((2 : Int) == 5)) = true := by rw [t4]; exact e1
      refine FnM.of htb Tryz.func87 rfl rfl rfl rfl rfl fun cx hN h0 => ?_
      (repeat' (first | ((with_reducible apply WD_id); first | (refine WD_nxt htb (by exact rfl) ?_) | (refine WD_call (by exact rfl) ?_; first | (refine WD_c0 (mval_m (n := n) _ ?_) ?_; (exact hyp)) | (refine WD_c0 (tgt_m _) ?_) | (refine WD_c0 (hsA_m) ?_) | (refine WD_c0 (hsB_m) ?_) | (refine WD_c0 (hsC_m) ?_)) | (refine WD_eq (neBw_step rfl rfl rfl) ?_) | (refine WD_eq (borN_step rfl rfl rfl) ?_) | (refine WD_t (by exact rfl) (by exact rfl) (by exact known) fun hb => ?_; rw [hb]; clear hb) | (refine WD_f (by exact rfl) (by exact rfl) (by exact known) fun hb => ?_; rw [hb]; clear hb)) | (refine ct ?_) | (with_reducible apply WA_block)))
      exact gE (.inr rfl) rfl rfl trivial
    | false =>
      have d1 : (m.il.testBit a != ((2 : Int) == 5)) = false := by rw [t4]; exact e1
      cases e2 : (m.il ||| m.st).testBit b with
      | true =>
        rw [e2] at hsC_m
        refine FnM.of htb Tryz.func87 rfl rfl rfl rfl rfl fun cx hN h0 => ?_
        (repeat' (first | ((with_reducible apply WD_id); first | (refine WD_nxt htb (by exact rfl) ?_) | (refine WD_call (by exact rfl) ?_; first | (refine WD_c0 (mval_m (n := n) _ ?_) ?_; (exact hyp)) | (refine WD_c0 (tgt_m _) ?_) | (refine WD_c0 (hsA_m) ?_) | (refine WD_c0 (hsB_m) ?_) | (refine WD_c0 (hsC_m) ?_)) | (refine WD_eq (neBw_step rfl rfl rfl) ?_) | (refine WD_eq (borN_step rfl rfl rfl) ?_) | (refine WD_t (by exact rfl) (by exact rfl) (by exact known) fun hb => ?_; rw [hb]; clear hb) | (refine WD_f (by exact rfl) (by exact rfl) (by exact known) fun hb => ?_; rw [hb]; clear hb)) | (refine ct ?_) | (with_reducible apply WA_block)))
        exact gE (.inr rfl) rfl rfl trivial
      | false =>
        rw [e2] at hsC_m
        refine FnM.of htb Tryz.func87 rfl rfl rfl rfl rfl fun cx hN h0 => ?_
        (repeat' (first | ((with_reducible apply WD_id); first | (refine WD_nxt htb (by exact rfl) ?_) | (refine WD_call (by exact rfl) ?_; first | (refine WD_c0 (mval_m (n := n) _ ?_) ?_; (exact hyp)) | (refine WD_c0 (tgt_m _) ?_) | (refine WD_c0 (hsA_m) ?_) | (refine WD_c0 (hsB_m) ?_) | (refine WD_c0 (hsC_m) ?_)) | (refine WD_eq (neBw_step rfl rfl rfl) ?_) | (refine WD_eq (borN_step rfl rfl rfl) ?_) | (refine WD_t (by exact rfl) (by exact rfl) (by exact known) fun hb => ?_; rw [hb]; clear hb) | (refine WD_f (by exact rfl) (by exact rfl) (by exact known) fun hb => ?_; rw [hb]; clear hb)) | (refine ct ?_) | (with_reducible apply WA_block)))
        exact gE (.inr rfl) rfl rfl trivial
  · subst hba
    have d0 : ((b : Int) == (b : Int)) = true := by simp
    have e0 : askF m ⟨2, (b : Int), (b : Int), c, t, x⟩ = 1 := by
      unfold askF
      dsimp only
      rw [t3, if_pos ⟨rfl, rfl⟩]
    rw [e0]
    refine FnM.of htb Tryz.func87 rfl rfl rfl rfl rfl fun cx hN h0 => ?_
    (repeat' (first | ((with_reducible apply WD_id); first | (refine WD_nxt htb (by exact rfl) ?_) | (refine WD_call (by exact rfl) ?_; first | (refine WD_c0 (mval_m (n := n) _ ?_) ?_; (exact hyp)) | (refine WD_c0 (tgt_m _) ?_) | (refine WD_c0 (hsA_m) ?_) | (refine WD_c0 (hsB_m) ?_) | (refine WD_c0 (hsC_m) ?_)) | (refine WD_eq (neBw_step rfl rfl rfl) ?_) | (refine WD_eq (borN_step rfl rfl rfl) ?_) | (refine WD_t (by exact rfl) (by exact rfl) (by exact known) fun hb => ?_; rw [hb]; clear hb) | (refine WD_f (by exact rfl) (by exact rfl) (by exact known) fun hb => ?_; rw [hb]; clear hb)) | (refine ct ?_) | (with_reducible apply WA_block)))
    exact gE (.inr rfl) rfl rfl trivial
theorem ask5_m (m : Mt) (n a b : Nat) (c : Cl) (t : Tr) (x : Ms) (h : MtOK n m) (ha : a < n) (hb : b < n) : FnM Tryz.prog 87 [] [aMt m, aPl ⟨5, (a : Int), (b : Int), c, t, x⟩] (vI (askF m ⟨5, (a : Int), (b : Int), c, t, x⟩)) [] := by
  obtain ⟨f1, f2, f3, f4, f5, f6, f7, f8, f9⟩ := ask_facts h ha hb
  have t0 : (!true) = false := rfl
  have t1 : decide ((5 : Int) < 1) = false := by decide
  have t2 : decide ((5 : Int) > 5) = false := by decide
  have t3 : isTo 5 = true := rfl
  have t4 : ((5 : Int) == 5) = true := rfl
  have hsA_m := has_nm f1 f4
  have hsB_m := has_nm f2 f4
  have hsC_m := has_nm f3 f5
  rcases Nat.decEq b a with hba | hba
  · have d0 : ((b : Int) == (a : Int)) = false := by simp; omega
    have e0 : askF m ⟨5, (a : Int), (b : Int), c, t, x⟩ = if ((m.il.testBit a != true) || (m.il ||| m.st).testBit b) = true then 13 else 0 := by
      unfold askF gonB
      dsimp only
      rw [t3, if_neg (by omega), t4, if_pos rfl, Int.toNat_natCast, Int.toNat_natCast]
    rw [e0]
    cases e1 : (m.il.testBit a != true) with
    | true =>
      have d1 : (m.il.testBit a != ((5 : Int) == 5)) = true := by rw [t4]; exact e1
      refine FnM.of htb Tryz.func87 rfl rfl rfl rfl rfl fun cx hN h0 => ?_
      (repeat' (first | ((with_reducible apply WD_id); first | (refine WD_nxt htb (by exact rfl) ?_) | (refine WD_call (by exact rfl) ?_; first | (refine WD_c0 (mval_m (n := n) _ ?_) ?_; (exact hyp)) | (refine WD_c0 (tgt_m _) ?_) | (refine WD_c0 (hsA_m) ?_) | (refine WD_c0 (hsB_m) ?_) | (refine WD_c0 (hsC_m) ?_)) | (refine WD_eq (neBw_step rfl rfl rfl) ?_) | (refine WD_eq (borN_step rfl rfl rfl) ?_) | (refine WD_t (by exact rfl) (by exact rfl) (by exact known) fun hb => ?_; rw [hb]; clear hb) | (refine WD_f (by exact rfl) (by exact rfl) (by exact known) fun hb => ?_; rw [hb]; clear hb)) | (refine ct ?_) | (with_reducible apply WA_block)))
      exact gE (.inr rfl) rfl rfl trivial
    | false =>
      have d1 : (m.il.testBit a != ((5 : Int) == 5)) = false := by rw [t4]; exact e1
      cases e2 : (m.il ||| m.st).testBit b with
      | true =>
        rw [e2] at hsC_m
        refine FnM.of htb Tryz.func87 rfl rfl rfl rfl rfl fun cx hN h0 => ?_
        (repeat' (first | ((with_reducible apply WD_id); first | (refine WD_nxt htb (by exact rfl) ?_) | (refine WD_call (by exact rfl) ?_; first | (refine WD_c0 (mval_m (n := n) _ ?_) ?_; (exact hyp)) | (refine WD_c0 (tgt_m _) ?_) | (refine WD_c0 (hsA_m) ?_) | (refine WD_c0 (hsB_m) ?_) | (refine WD_c0 (hsC_m) ?_)) | (refine WD_eq (neBw_step rfl rfl rfl) ?_) | (refine WD_eq (borN_step rfl rfl rfl) ?_) | (refine WD_t (by exact rfl) (by exact rfl) (by exact known) fun hb => ?_; rw [hb]; clear hb) | (refine WD_f (by exact rfl) (by exact rfl) (by exact known) fun hb => ?_; rw [hb]; clear hb)) | (refine ct ?_) | (with_reducible apply WA_block)))
        exact gE (.inr rfl) rfl rfl trivial
      | false =>
        rw [e2] at hsC_m
        refine FnM.of htb Tryz.func87 rfl rfl rfl rfl rfl fun cx hN h0 => ?_
        (repeat' (first | ((with_reducible apply WD_id); first | (refine WD_nxt htb (by exact rfl) ?_) | (refine WD_call (by exact rfl) ?_; first | (refine WD_c0 (mval_m (n := n) _ ?_) ?_; (exact hyp)) | (refine WD_c0 (tgt_m _) ?_) | (refine WD_c0 (hsA_m) ?_) | (refine WD_c0 (hsB_m) ?_) | (refine WD_c0 (hsC_m) ?_)) | (refine WD_eq (neBw_step rfl rfl rfl) ?_) | (refine WD_eq (borN_step rfl rfl rfl) ?_) | (refine WD_t (by exact rfl) (by exact rfl) (by exact known) fun hb => ?_; rw [hb]; clear hb) | (refine WD_f (by exact rfl) (by exact rfl) (by exact known) fun hb => ?_; rw [hb]; clear hb)) | (refine ct ?_) | (with_reducible apply WA_block)))
        exact gE (.inr rfl) rfl rfl trivial
  · subst hba
    have d0 : ((b : Int) == (b : Int)) = true := by simp
    have e0 : askF m ⟨5, (b : Int), (b : Int), c, t, x⟩ = 1 := by
      unfold askF
      dsimp only
      rw [t3, if_pos ⟨rfl, rfl⟩]
    rw [e0]
    refine FnM.of htb Tryz.func87 rfl rfl rfl rfl rfl fun cx hN h0 => ?_
    (repeat' (first | ((with_reducible apply WD_id); first | (refine WD_nxt htb (by exact rfl) ?_) | (refine WD_call (by exact rfl) ?_; first | (refine WD_c0 (mval_m (n := n) _ ?_) ?_; (exact hyp)) | (refine WD_c0 (tgt_m _) ?_) | (refine WD_c0 (hsA_m) ?_) | (refine WD_c0 (hsB_m) ?_) | (refine WD_c0 (hsC_m) ?_)) | (refine WD_eq (neBw_step rfl rfl rfl) ?_) | (refine WD_eq (borN_step rfl rfl rfl) ?_) | (refine WD_t (by exact rfl) (by exact rfl) (by exact known) fun hb => ?_; rw [hb]; clear hb) | (refine WD_f (by exact rfl) (by exact rfl) (by exact known) fun hb => ?_; rw [hb]; clear hb)) | (refine ct ?_) | (with_reducible apply WA_block)))
    exact gE (.inr rfl) rfl rfl trivial
theorem ask_m (m : Mt) (p : Pl) (n : Nat) (h : MtOK n m) (hp : PlOK n p) : FnM Tryz.prog 87 [] [aMt m, aPl p] (vI (askF m p)) [] := by
  obtain ⟨kd, fr, to, c, t, x⟩ := p
  obtain ⟨h1, h2, h3, _, _⟩ := hp
  dsimp only at h1 h2 h3
  obtain ⟨a, rfl⟩ : ∃ a : Nat, fr = (a : Int) := ⟨fr.toNat, by omega⟩
  obtain ⟨b, rfl⟩ : ∃ b : Nat, to = (b : Int) := ⟨to.toNat, by omega⟩
  rcases h1 with rfl | rfl | rfl | rfl
  · exact ask1_m m n a b c t x h (by omega) (by omega)
  · exact ask2_m m n a b c t x h (by omega) (by omega)
  · exact ask4_m m n a b c t x h (by omega) (by omega)
  · exact ask5_m m n a b c t x h (by omega) (by omega)
end Go.Proofs.YtdhogcklnehdhaaGreatDoor
/- Contracts: a step of a meeting changes a voter. -/
namespace Go.Proofs.YtdhogcklnehdhaaGreatDoor
set_option linter.unusedSimpArgs false
set_option linter.unusedVariables false
set_option linter.unnecessarySimpa false
set_option linter.unusedSectionVars false
set_option maxRecDepth 100000
open Go Go.RowKit Go.Am Go.Proofs.Grow
theorem ask_ne {m : Mt} {p : Pl} (h : askF m p = 0) (hk : isTo p.kd = true) : p.to ≠ p.fr := fun q => by
  unfold askF at h
  rw [if_pos ⟨hk, q⟩] at h; cases h
theorem chg1_m (m : Mt) (n a : Nat) (b : Int) (c : Cl) (t : Tr) (x : Ms) (h : MtOK n m) (ha : a < n) (hc : okC c = true) : FnM Tryz.prog 88 [] [aMt m, aPl ⟨1, (a : Int), b, c, t, x⟩] (.tup [vI (a : Int), aVo (votV (nth m.vs a) c).1, vI (votV (nth m.vs a) c).2]) [] := by
  have hl := h.len
  have hav : a < m.vs.length := by omega
  have hv := (h.ok a ha).mono h.n10
  have q1 : ((1 : Int) == 1) = true := rfl
  refine FnM.of htb Tryz.func88 rfl rfl rfl rfl rfl fun cx hN h0 => ?_
  (repeat' (first | ((with_reducible apply WD_id); first | (refine WD_nxt htb (by exact rfl) ?_) | (refine WD_call (by exact rfl) ?_; first | (refine WD_c0 (vote_m (v := nth m.vs a) (x := c) ?_ ?_) ?_; (exact hyp); (exact hyp))) | (refine WD_idx htb ?_)) | (refine ct ?_) | (with_reducible apply WA_block)))
  (exact glV [(4, vI (a : Int)), (5, .ptr 5 0), (6, vI (votV (nth m.vs a) c).2)] [(5, .box 49 (cellsOf (aVo (votV (nth m.vs a) c).1)))] (LeV []))
theorem chg2_m (m : Mt) (n a b : Nat) (c : Cl) (t : Tr) (x : Ms) (h : MtOK n m) (ha : a < n) (hb : b < n) (hab : b ≠ a) : FnM Tryz.prog 88 [] [aMt m, aPl ⟨2, (a : Int), (b : Int), c, t, x⟩] (.tup [vI (b : Int), aVo (heaV (nth m.vs b) (sayV (nth m.vs a))).1, vI (heaV (nth m.vs b) (sayV (nth m.vs a))).2]) [] := by
  have hl := h.len
  have hav : a < m.vs.length := by omega
  have hbv : b < m.vs.length := by omega
  have hva := (h.ok a ha).mono h.n10
  have hvb := (h.ok b hb).mono h.n10
  have n1 := h.nd a ha
  have n2 := h.nd b hb
  have hn := h.n10
  have hms : MsOK 10 (sayV (nth m.vs a)) := say_ok hva hva.nd1
  have hne : (sayV (nth m.vs a)).nd ≠ (nth m.vs b).nd := by show (nth m.vs a).nd ≠ _; omega
  have q1 : ((2 : Int) == 1) = false := rfl
  have q2 : ((2 : Int) == 2) = true := rfl
  refine FnM.of htb Tryz.func88 rfl rfl rfl rfl rfl fun cx hN h0 => ?_
  (repeat' (first | ((with_reducible apply WD_id); first | (refine WD_nxt htb (by exact rfl) ?_) | (refine WD_call (by exact rfl) ?_; first | (refine WD_c0 (Say_m (v := nth m.vs a) ?_) ?_; (exact hyp)) | (refine WD_c0 (hear_m (v := nth m.vs b) (m := sayV (nth m.vs a)) ?_ ?_ ?_) ?_; (exact hyp); (exact hyp); (exact hyp))) | (refine WD_idx htb ?_)) | (refine ct ?_) | (with_reducible apply WA_block)))
  (exact glV [(4, vI (b : Int)), (5, .ptr 5 0), (6, vI (heaV (nth m.vs b) (sayV (nth m.vs a))).2)] [(5, .box 49 (cellsOf (aVo (heaV (nth m.vs b) (sayV (nth m.vs a))).1)))] (LeV []))
theorem chg4_m (m : Mt) (n a : Nat) (b : Int) (c : Cl) (t : Tr) (x : Ms) (h : MtOK n m) (ha : a < n) : FnM Tryz.prog 88 [] [aMt m, aPl ⟨4, (a : Int), b, c, t, x⟩] (.tup [vI (a : Int), aVo (nth m.vs a), vI 0]) [] := by
  have hl := h.len
  have hav : a < m.vs.length := by omega
  have q1 : ((4 : Int) == 1) = false := rfl
  have q2 : ((4 : Int) == 2) = false := rfl
  have q3 : ((4 : Int) == 3) = false := rfl
  have q5 : ((4 : Int) == 5) = false := rfl
  refine FnM.of htb Tryz.func88 rfl rfl rfl rfl rfl fun cx hN h0 => ?_
  (repeat' (first | ((with_reducible apply WD_id); first | (refine WD_nxt htb (by exact rfl) ?_) | (refine WD_idx htb ?_)) | (refine ct ?_) | (with_reducible apply WA_block)))
  (exact glV [(4, vI (a : Int)), (5, .ptr 5 0), (6, vI 0)] [(5, .box 49 (cellsOf (aVo (nth m.vs a))))] (LeV []))
theorem chg5_m (m : Mt) (n a b : Nat) (c : Cl) (t : Tr) (x : Ms) (h : MtOK n m) (ha : a < n) (hb : b < n) (hab : b ≠ a) (hx : MsOK n x) (hxn : x.nd = (a : Int)) : FnM Tryz.prog 88 [] [aMt m, aPl ⟨5, (a : Int), (b : Int), c, t, x⟩] (.tup [vI (b : Int), aVo (heaV (nth m.vs b) x).1, vI (heaV (nth m.vs b) x).2]) [] := by
  have hl := h.len
  have hav : a < m.vs.length := by omega
  have hbv : b < m.vs.length := by omega
  have hvb := (h.ok b hb).mono h.n10
  have n2 := h.nd b hb
  have hn := h.n10
  have hms : MsOK 10 x := hx.mono h.n10
  have hne : x.nd ≠ (nth m.vs b).nd := by omega
  have hvn : (m.vs.map rVo).length ≤ 10 := by rw [List.length_map]; omega
  have hfit : FitT (m.vs.map rVo).length x.t := by rw [List.length_map, hl]; exact hx.t
  have q1 : ((5 : Int) == 1) = false := rfl
  have q2 : ((5 : Int) == 2) = false := rfl
  have q3 : ((5 : Int) == 3) = false := rfl
  have q5 : ((5 : Int) == 5) = true := rfl
  have q6 : (x.nd != (a : Int)) = false := by rw [hxn]; simp
  have q7 : (!true) = false := rfl
  refine FnM.of htb Tryz.func88 rfl rfl rfl rfl rfl fun cx hN h0 => ?_
  (repeat' (first | ((with_reducible apply WD_id); first | (refine WD_nxt htb (by exact rfl) ?_) | (refine WD_call (by exact rfl) ?_; first | (refine WD_c0 (fpl_m (m := x) ?_) ?_; (exact hyp)) | (refine WD_c0 (ins_m (t := x.t) (n := (m.vs.map rVo).length) ?_ ?_) ?_; (exact hyp); (exact hyp)) | (refine WD_c0 (hear_m (v := nth m.vs b) (m := x) ?_ ?_ ?_) ?_; (exact hyp); (exact hyp); (exact hyp))) | (refine WD_idx htb ?_)) | (refine ct ?_) | (with_reducible apply WA_block)))
  (exact glV [(4, vI (b : Int)), (5, .ptr 5 0), (6, vI (heaV (nth m.vs b) x).2)] [(5, .box 49 (cellsOf (aVo (heaV (nth m.vs b) x).1)))] (LeV []))
theorem chg_m (m : Mt) (p : Pl) (n : Nat) (h : MtOK n m) (hp : PlOK n p) (hk : askF m p = 0) : FnM Tryz.prog 88 [] [aMt m, aPl p] (.tup [vI (chgF m p).1, aVo (chgF m p).2.1, vI (chgF m p).2.2]) [] := by
  have hq := @ask_ne m p hk
  obtain ⟨kd, fr, to, c, t, x⟩ := p
  obtain ⟨h1, h2, h3, h4, h5⟩ := hp
  dsimp only at h1 h2 h3 h4 h5 hq
  obtain ⟨a, rfl⟩ : ∃ a : Nat, fr = (a : Int) := ⟨fr.toNat, by omega⟩
  obtain ⟨b, rfl⟩ : ∃ b : Nat, to = (b : Int) := ⟨to.toNat, by omega⟩
  rcases h1 with rfl | rfl | rfl | rfl
  · exact chg1_m m n a b c t x h (by omega) (h4 rfl)
  · exact chg2_m m n a b c t x h (by omega) (by omega) (by have := hq rfl; omega)
  · exact chg4_m m n a b c t x h (by omega)
  · exact chg5_m m n a b c t x h (by omega) (by omega) (by have := hq rfl; omega) (h5 rfl).1 (h5 rfl).2
end Go.Proofs.YtdhogcklnehdhaaGreatDoor
/- Contracts: a step of a meeting; a meeting that shares no memory. -/
namespace Go.Proofs.YtdhogcklnehdhaaGreatDoor
set_option linter.unusedSimpArgs false
set_option linter.unusedVariables false
set_option linter.unnecessarySimpa false
set_option linter.unusedSectionVars false
set_option maxRecDepth 100000
open Go Go.RowKit Go.Am Go.Proofs.Grow
theorem cloVo_m (l : List Vo) (hl : l.length ≤ 1000) : FnM Tryz.prog 89 [] [lVo l] (.own 30) [(30, .arr 49 9 (l.map rVo))] := by
  cases l with
  | nil =>
    refine FnM.nil_cases 0 rfl ?_ fun ad cap => ?_
    all_goals
      refine FnM.of htb Tryz.func89 rfl rfl rfl rfl rfl fun cx hN h0 => ?_
      (repeat' (first | ((with_reducible apply WD_id); first | (refine WD_nxt htb (by exact rfl) ?_) | (refine WD_ap htb ?_) | (refine WD_nil htb ?_) | (refine WD_nilr htb ?_)) | (refine ct ?_) | (with_reducible apply WA_block)))
    · exact gL (.inr rfl) (Le_nilT 30 2 49 9 rfl rfl) rfl rfl ⟨rfl, trivial⟩
    · refine gL (.inr rfl) (T' := [(2, .own 30)]) (M' := [(30, .arr 49 9 [])]) ?_ rfl rfl ⟨rfl, trivial⟩
      (exact LeV [(30, 7)])
  | cons x r =>
    refine FnM.of htb Tryz.func89 rfl rfl rfl rfl rfl fun cx hN h0 => ?_
    (repeat' (first | ((with_reducible apply WD_id); first | (refine WD_nxt htb (by exact rfl) ?_) | (refine WD_ap htb ?_) | (refine WD_nil htb ?_) | (refine WD_nilr htb ?_)) | (refine ct ?_) | (with_reducible apply WA_block)))
    refine gL (.inr rfl) (T' := [(2, .own 30)]) (M' := [(30, .arr 49 9 ((x :: r).map rVo))]) ?_ rfl rfl ⟨rfl, trivial⟩
    (exact LeV [(30, 7)])
set_option maxHeartbeats 2000000 in
theorem step_m (m : Mt) (p : Pl) (n : Nat) (h : MtOK n m) (hp : PlOK n p) : FnM Tryz.prog 31 [] [aMt m, aPl p] (.tup [aMt (stpF m p).1, vI (stpF m p).2]) [] := by
  have hl := h.len
  have hn := h.n10
  have askS_m := ask_m m p n h hp
  have h2 := two_le hn
  have hst := h.st
  have hfr := hp.fr
  unfold stpF
  by_cases h1 : askF m p = 0
  · have t1 : (askF m p != 0) = false := by simp [h1]
    rw [if_neg (by simp [h1])]
    have chgS := chg_m m p n h hp h1
    have hok := fun e => chg_ok h hp h1 e
    unfold goF
    generalize hq : chgF m p = q at *
    obtain ⟨k, v, e⟩ := q
    dsimp only at chgS hok ⊢
    have chgS_m := chgS
    by_cases he : e = 0
    · subst he
      have t2 : ((0 : Int) != 0) = false := rfl
      rw [if_neg (by simp)]
      obtain ⟨⟨k0, k1⟩, _, _⟩ := hok rfl
      obtain ⟨j, rfl⟩ : ∃ j : Nat, k = (j : Int) := ⟨k.toNat, by omega⟩
      rw [Int.toNat_natCast] at k1 ⊢
      obtain ⟨a, ha⟩ : ∃ a : Nat, p.fr = (a : Int) := ⟨p.fr.toNat, by omega⟩
      have hj : j < m.vs.length := by omega
      have hrow : (m.vs.map rVo).set j (rVo v) = (m.vs.set j v).map rVo := by rw [List.map_set]
      have hml : m.vs.length ≤ 1000 := by omega
      have hst2 : m.st < 4611686018427387904 := by omega
      have ha2 : 2 ^ a < 4611686018427387904 := by
        have := Nat.pow_le_pow_right (n := 2) (by decide) (show a ≤ 10 by omega)
        omega
      have ha3 : a ≤ 61 := by omega
      refine FnM.of htb Tryz.func31 rfl rfl rfl rfl rfl fun cx hN h0 => ?_
      (repeat' (first | ((with_reducible apply WD_id); first | (refine WD_nxt htb (by exact rfl) ?_) | (refine WD_call (by exact rfl) ?_; first | (refine WD_c0 (askS_m) ?_) | (refine WD_c0 (chgS_m) ?_)) | (refine WD_idxo htb ?_) | (refine WD_ste htb ?_)) | (refine ct ?_) | (with_reducible apply WA_block)))
      (repeat' (first | ((with_reducible apply WD_id); first | (refine WD_nxt htb (by exact rfl) ?_) | (refine WD_call (by exact rfl) ?_; first | (refine WD_cM (cloVo_m _ ?_) ?_; (exact hyp))) | (refine WD_idxo htb ?_) | (refine WD_ste htb ?_)) | ((with_reducible apply WD_end); (first | exact no_draw | (intro _; kernel_rfl)); try simp only [thn, inB, List.length_map, List.cons_append, List.nil_append])))
      (repeat' (first | (with_reducible apply WA_seq) | ((with_reducible apply gCt); exact rfl; exact rfl) | ((with_reducible apply gCf); exact rfl; exact rfl) | ((with_reducible apply gCk); exact rfl; exact known; intro hb; rw [hb]; clear hb) | ((with_reducible apply gCn); exact rfl; exact known; intro hb; rw [hb]; clear hb) | (with_reducible apply WA_block) | ((with_reducible first | apply WA_skip | apply WA_ret | apply WA_exit | apply WA_label); try simp only [thn, inB, List.length_map, List.cons_append, List.nil_append])))
      ((with_reducible apply gR hmix hN); exact (by kernel_rfl); (try dsimp only [List.append_eq, List.cons_append, List.nil_append]))
      (repeat' (first | ((with_reducible apply WD_id); first | (refine WD_nxt htb (by exact rfl) ?_) | (refine WD_idxo htb ?_) | (refine WD_ste htb ?_)) | ((with_reducible apply WD_end); (first | exact no_draw | (intro _; kernel_rfl)); try simp only [thn, inB, List.length_map, List.cons_append, List.nil_append])))
      (repeat' (first | (with_reducible apply WA_seq) | ((with_reducible apply gCt); exact rfl; exact rfl) | ((with_reducible apply gCf); exact rfl; exact rfl) | ((with_reducible apply gCk); exact rfl; exact known; intro hb; rw [hb]; clear hb) | ((with_reducible apply gCn); exact rfl; exact known; intro hb; rw [hb]; clear hb) | (with_reducible apply WA_block) | ((with_reducible first | apply WA_skip | apply WA_ret | apply WA_exit | apply WA_label); try simp only [thn, inB, List.length_map, List.cons_append, List.nil_append])))
      show WA _ _ _ _ ⟨_, (30, .arr _ 9 ((m.vs.map rVo).set j (rVo v))) :: _⟩
      rw [hrow]
      refine WA_le (s' := ⟨[(5, vI 0), (4, .ptr 4 0), (3, .ptr 3 0), (2, .ptr 2 0)], [(4, .box 34 (cellsOf (aMt mtZ))), (3, .box 88 (cellsOf (aPl p))), (2, .box 34 (cellsOf (aMt ⟨m.vs.set j v, m.st, m.il⟩)))]⟩) (LeV []) ?_
      by_cases h4 : p.kd = 4
      · have t3 : (p.kd == 4) = true := by simpa using h4
        rw [if_pos h4, ha, Int.toNat_natCast]
        (repeat' (first | ((with_reducible apply WD_id); first | (refine WD_nxt htb (by exact rfl) ?_) | (refine WD_idxo htb ?_) | (refine WD_ste htb ?_)) | (refine ct ?_) | (with_reducible apply WA_block)))
        rw [ha]
        (repeat' (first | ((with_reducible apply WD_id); first | (refine WD_nxt htb (by exact rfl) ?_) | (refine WD_eq (shlN_step rfl rfl rfl) ?_) | (refine WD_eq (borN_step rfl rfl rfl) ?_) | (refine WD_idxo htb ?_) | (refine WD_ste htb ?_)) | (refine ct ?_) | (with_reducible apply WA_block)))
        generalize m.st ||| 2 ^ a = z
        (exact glV [(4, .ptr 4 0), (5, vI 0)] [(4, .box 34 (cellsOf (aMt ⟨m.vs.set j v, z, m.il⟩)))] (LeV []))
      · have t3 : (p.kd == 4) = false := by simpa using h4
        rw [if_neg h4]
        (repeat' (first | ((with_reducible apply WD_id); first | (refine WD_nxt htb (by exact rfl) ?_) | (refine WD_idxo htb ?_) | (refine WD_ste htb ?_)) | (refine ct ?_) | (with_reducible apply WA_block)))
        (exact glV [(4, .ptr 4 0), (5, vI 0)] [(4, .box 34 (cellsOf (aMt ⟨m.vs.set j v, m.st, m.il⟩)))] (LeV []))
    · have t2 : (e != 0) = true := by simpa using he
      rw [if_pos he]
      refine FnM.of htb Tryz.func31 rfl rfl rfl rfl rfl fun cx hN h0 => ?_
      (repeat' (first | ((with_reducible apply WD_id); first | (refine WD_nxt htb (by exact rfl) ?_) | (refine WD_call (by exact rfl) ?_; first | (refine WD_c0 (askS_m) ?_) | (refine WD_c0 (chgS_m) ?_)) | (refine WD_idxo htb ?_) | (refine WD_ste htb ?_)) | (refine ct ?_) | (with_reducible apply WA_block)))
      (exact glV [(4, .ptr 4 0), (5, vI e)] [(4, .box 34 (cellsOf (aMt mtZ)))] (LeV []))
  · have t1 : (askF m p != 0) = true := by simpa using h1
    rw [if_pos h1]
    refine FnM.of htb Tryz.func31 rfl rfl rfl rfl rfl fun cx hN h0 => ?_
    (repeat' (first | ((with_reducible apply WD_id); first | (refine WD_nxt htb (by exact rfl) ?_) | (refine WD_call (by exact rfl) ?_; first | (refine WD_c0 (askS_m) ?_)) | (refine WD_idxo htb ?_) | (refine WD_ste htb ?_)) | (refine ct ?_) | (with_reducible apply WA_block)))
    (exact glV [(4, .ptr 4 0), (5, vI (askF m p))] [(4, .box 34 (cellsOf (aMt mtZ)))] (LeV []))
set_option maxHeartbeats 2000000 in
theorem freshM_m (m : Mt) (n : Nat) (h : MtOK n m) : FnM Tryz.prog 32 [] [aMt m] (aMt m) [] := by
  have hl := h.len
  have hn := h.n10
  refine FnM.of htb Tryz.func32 rfl rfl rfl rfl rfl fun cx hN h0 => ?_
  (repeat' (first | ((with_reducible apply WD_id); first | (refine WD_sum ?_) | (refine WD_nxt htb (by exact rfl) ?_) | (refine WD_idx htb ?_) | (refine WD_ap htb ?_)) | (refine ct ?_) | (with_reducible apply WA_block)))
  refine WA_le (Le_nilM 62 1 0 49 9 rfl rfl rfl rfl) ?_
  refine WA_le (s' := ⟨[(14, vI 0), (13, vI (m.vs.length : Int)), (12, lVo m.vs), (2, .ptr 2 0), (1, .ptr 1 0)], [(1, .box 34 [.own 62, vI (m.st : Int), vI (m.il : Int)]), (62, .arr 49 9 []), (2, .box 34 (cellsOf (aMt mtZ)))]⟩) (LeV []) ?_
  (refine WA_forV (m.vs.length) [14] [1, 62] (fun k => [(14, vI k)]) (fun k => [(1, .box 34 [.own 62, vI (m.st : Int), vI (m.il : Int)]), (62, .arr 49 9 ((m.vs.take k).map rVo))]) (fun k => True) ?h0 ?_)
  case h0 => trivial
  intro i hi _
  have hlk : (m.vs.take i).length ≤ i := by rw [List.length_take]; omega
  rcases Nat.lt_or_ge i m.vs.length with hi' | hi'
  · have t1 : decide ((i : Int) < (m.vs.length : Int)) = true := by simp; omega
    have hv := (h.ok i (by omega)).mono hn
    have hw := take_snoc hi'
    have hs : sizT (nth m.vs i).t ≤ 1000 := by have := hv.t.siz; omega
    have h1 : (nth m.vs i).vo.length ≤ 4000 := by have := hv.vo.len; omega
    have h2 : (nth m.vs i).ac.length ≤ 4000 := by have := hv.ac.len; omega
    have h3 : (nth m.vs i).co.length ≤ 4000 := by have := hv.co.len; omega
    have hhl := hv.hlen (Nat.le_refl _)
    (repeat' (first | ((with_reducible apply WD_id); first | (refine WD_sum ?_) | (refine WD_nxt htb (by exact rfl) ?_) | (refine WD_call (by exact rfl) ?_; first | (refine WD_c0 (atr_m _ ?_) ?_; (exact hyp)) | (refine WD_c0 (cloC_m _ ?_) ?_; (exact hyp))) | (refine WD_idx htb ?_) | (refine WD_ap htb ?_)) | (refine ct ?_) | (with_reducible apply WA_block)))
    refine WA_le (Le_nilM 61 5 8 56 7 rfl rfl rfl rfl) ?_
    (refine WA_forV ((nth m.vs i).he.length) [39] [5, 61] (fun k => [(39, vI k)]) (fun k => [(5, .box 49 [vI (nth m.vs i).nd, vI (nth m.vs i).sq, vI (nth m.vs i).t.k, lI (nth m.vs i).t.ns, lTr (nth m.vs i).t.is, lC (nth m.vs i).vo, lC (nth m.vs i).ac, lC (nth m.vs i).co, .own 61]), (61, .arr 56 7 (((nth m.vs i).he.take k).map rMs))]) (fun k => True) ?h0 ?_)
    case h0 => trivial
    intro j hj _
    have hlj : ((nth m.vs i).he.take j).length ≤ j := by rw [List.length_take]; omega
    rcases Nat.lt_or_ge j (nth m.vs i).he.length with hj' | hj'
    · have t2 : decide ((j : Int) < ((nth m.vs i).he.length : Int)) = true := by simp; omega
      have hm := (hv.he _ (nth_mem (nth m.vs i).he j hj')).1
      have hw2 := take_snoc hj'
      (repeat' (first | ((with_reducible apply WD_id); first | (refine WD_sum ?_) | (refine WD_nxt htb (by exact rfl) ?_) | (refine WD_call (by exact rfl) ?_; first | (refine WD_c0 (ams_m (m := nth (nth m.vs i).he j) ?_) ?_; (exact hyp))) | (refine WD_idx htb ?_) | (refine WD_ap htb ?_)) | (refine ct ?_) | (with_reducible apply WA_block)))
      refine ⟨hj', trivial, ?_⟩
      rw [hw2, List.map_append, List.map_cons, List.map_nil]
      (exact LeV [(61, 48)])
    · have t2 : decide ((j : Int) < ((nth m.vs i).he.length : Int)) = false := by simp; omega
      have e2 : (nth m.vs i).he.take j = (nth m.vs i).he := take_all hj'
      rw [e2]
      refine WA_le (s' := ⟨[(39, vI j), (38, vI ((nth m.vs i).he.length : Int)), (14, vI i), (13, vI (m.vs.length : Int)), (12, lVo m.vs), (5, .ptr 5 0), (2, .ptr 2 0), (1, .ptr 1 0)], [(5, .box 49 (cellsOf (aVo (nth m.vs i)))), (1, .box 34 [.own 62, vI (m.st : Int), vI (m.il : Int)]), (62, .arr 49 9 ((m.vs.take i).map rVo)), (2, .box 34 (cellsOf (aMt mtZ)))]⟩) (LeV []) ?_
      (repeat' (first | ((with_reducible apply WD_id); first | (refine WD_sum ?_) | (refine WD_nxt htb (by exact rfl) ?_) | (refine WD_idx htb ?_) | (refine WD_ap htb ?_)) | (refine ct ?_) | (with_reducible apply WA_block)))
      refine ⟨hi', trivial, ?_⟩
      rw [hw, List.map_append, List.map_cons, List.map_nil]
      (exact LeV [(62, 55)])
  · have t1 : decide ((i : Int) < (m.vs.length : Int)) = false := by simp; omega
    have e1 : m.vs.take i = m.vs := take_all hi'
    rw [e1]
    (repeat' (first | ((with_reducible apply WD_id); first | (refine WD_sum ?_) | (refine WD_nxt htb (by exact rfl) ?_) | (refine WD_idx htb ?_) | (refine WD_ap htb ?_)) | (refine ct ?_) | (with_reducible apply WA_block)))
    (exact glV [(2, .ptr 2 0)] [(2, .box 34 (cellsOf (aMt m)))] (LeV []))
end Go.Proofs.YtdhogcklnehdhaaGreatDoor
/- Plain law: rounds of messages come to an end, and then all have heard all. No program stands here. -/
namespace Go.Proofs.YtdhogcklnehdhaaGreatDoor
set_option linter.unusedSimpArgs false
set_option linter.unusedVariables false
set_option linter.unnecessarySimpa false
set_option linter.unusedSectionVars false
set_option maxRecDepth 100000
open Go Go.RowKit Go.Am Go.Proofs.Grow
def sumH : List Ms → Nat
  | [] => 0
  | m :: r => m.sq.toNat + sumH r
def sumV : List Vo → Nat
  | [] => 0
  | v :: r => sumH v.he + sumV r
theorem sumH_put : ∀ {l : List Ms} {m : Ms}, 1 ≤ m.sq → oldM l m = false → sumH l < sumH (putM l m)
  | [], m, h, _ => by simp only [putM, sumH]; omega
  | y :: r, m, h, ho => by
    unfold oldM at ho
    rw [List.any_cons, Bool.or_eq_false_iff] at ho
    obtain ⟨h1, h2⟩ := ho
    rw [putM]
    by_cases e : y.nd < m.nd
    · rw [if_pos e]
      have := sumH_put (l := r) (m := m) h h2
      simp only [sumH]; omega
    · rw [if_neg e]
      by_cases e2 : y.nd = m.nd
      · rw [if_pos e2]
        simp only [e2, decide_true, Bool.true_and, decide_eq_false_iff_not] at h1
        simp only [sumH]; omega
      · rw [if_neg e2]
        simp only [sumH]; omega
theorem sumH_le : ∀ {l : List Ms}, (∀ m ∈ l, m.sq ≤ 1000) → sumH l ≤ 1000 * l.length
  | [], _ => by simp [sumH]
  | m :: r, h => by
    have h1 := h m (by simp)
    have h2 := sumH_le (l := r) fun y hy => h y (by simp [hy])
    simp only [sumH, List.length_cons]; omega
theorem sumV_le {n : Nat} (hn : n ≤ 10) : ∀ {l : List Vo}, (∀ v ∈ l, VoOK n v) → sumV l ≤ 10000 * l.length
  | [], _ => by simp [sumV]
  | v :: r, h => by
    have h1 := h v (by simp)
    have h2 := sumV_le hn (l := r) fun y hy => h y (by simp [hy])
    have h3 := sumH_le (l := v.he) fun m hm => (h1.he m hm).1.sq1
    have h4 := h1.hlen hn
    simp only [sumV, List.length_cons]; omega
theorem sumV_set : ∀ {l : List Vo} {k : Nat} {v : Vo}, k < l.length → sumH (nth l k).he < sumH v.he → sumV l < sumV (l.set k v)
  | [], k, v, h, _ => by simp at h
  | y :: r, 0, v, _, h => by
    have e : nth (y :: r) 0 = y := rfl
    rw [e] at h
    simp only [List.set_cons_zero, sumV]; omega
  | y :: r, k + 1, v, h, h2 => by
    have e : nth (y :: r) (k + 1) = nth r k := rfl
    rw [e] at h2
    have := sumV_set (l := r) (k := k) (v := v) (by simpa using h) h2
    simp only [List.set_cons_succ, sumV]; omega
theorem mt_sum {n : Nat} {m : Mt} (h : MtOK n m) : sumV m.vs ≤ 100000 := by
  have hl := h.len
  have hn := h.n10
  have := sumV_le hn (l := m.vs) fun v hv => by
    obtain ⟨k, hk, rfl⟩ := List.mem_iff_getElem.1 hv
    rw [← nth_getElem m.vs k hk]
    exact h.ok k (by omega)
  omega
theorem stpM_ok {m : Mt} {p : Pl} (h : (stpF m p).2 = 0) : stpM m p = (stpF m p).1 := by unfold stpM; rw [if_pos h]
theorem stpM_no {m : Mt} {p : Pl} (h : (stpF m p).2 ≠ 0) : stpM m p = m := by unfold stpM; rw [if_neg h]
theorem snd_sum {n a b : Nat} {m : Mt} (hm : MtOK n m) (ha : a < n) (hb : b < n) (h : (stpF m (sndP a b)).2 = 0) : sumV m.vs < sumV (stpM m (sndP a b)).vs := by
  have hp := snd_ok ha hb
  obtain ⟨h1, h2, h3⟩ := stp_cases hm hp h
  have hl := hm.len
  have hab : a ≠ b := fun e => by
    unfold askF at h2
    rw [if_pos ⟨rfl, by show ((b : Nat) : Int) = ((a : Nat) : Int); omega⟩] at h2; cases h2
  have n1 := hm.nd a ha
  have n2 := hm.nd b hb
  rw [stpM_ok h, h1]
  have e1 : chgF m (sndP a b) = ((b : Int), heaV (nth m.vs b) (sayV (nth m.vs a))) := by
    unfold chgF sndP
    dsimp only
    rw [if_neg (by omega), if_pos rfl, Int.toNat_natCast, Int.toNat_natCast]
  rw [e1] at h3
  dsimp only at h3
  have ho : oldM (nth m.vs b).he (sayV (nth m.vs a)) = false := by
    unfold heaV at h3
    cases e : oldM (nth m.vs b).he (sayV (nth m.vs a))
    · rfl
    · rw [e, if_pos rfl] at h3; cases h3
  have ms := say_ok (hm.ok a ha) (by rw [n1]; omega)
  obtain ⟨_, _, q⟩ := hea_ok hm.n10 (hm.ok b hb) ms (by show (nth m.vs a).nd ≠ _; omega) h3
  show sumV m.vs < sumV (m.vs.set (chgF m (sndP a b)).1.toNat (chgF m (sndP a b)).2.1)
  rw [e1]
  dsimp only
  rw [Int.toNat_natCast]
  refine sumV_set (by omega) ?_
  rw [q]
  exact sumH_put ms.sq0 ho
theorem sndS_1 (a b : Nat) (x : Mt × Bool) : (sndS a b x).1 = stpM x.1 (sndP a b) := by
  unfold sndS stpM
  split <;> rfl
/-- What is kept by every message is kept by a round. -/
theorem rndJ_keep {n a : Nat} {P : Mt → Prop} (hs : ∀ m b, b < n → P m → P (stpM m (sndP a b))) : ∀ (l : List Nat) (x : Mt × Bool), (∀ b ∈ l, b < n) → P x.1 → P (rndJ a l x).1
  | [], _, _, h => h
  | b :: r, x, hl, h => by
    rw [rndJ]
    exact rndJ_keep hs r _ (fun y hy => hl y (by simp [hy])) (by rw [sndS_1]; exact hs _ _ (hl b (by simp)) h)
theorem rndI_keep {n : Nat} {P : Mt → Prop} (hs : ∀ m a b, a < n → b < n → P m → P (stpM m (sndP a b))) (w : List Nat) (hw : ∀ b ∈ w, b < n) : ∀ (l : List Nat) (x : Mt × Bool), (∀ b ∈ l, b < n) → P x.1 → P (rndI w l x).1
  | [], _, _, h => h
  | a :: r, x, hl, h => by
    rw [rndI]
    exact rndI_keep hs w hw r _ (fun y hy => hl y (by simp [hy])) (rndJ_keep (fun m b hb hm => hs m a b (hl a (by simp)) hb hm) w x hw h)
/-- A round goes on, or stands still. -/
structure RO (x y : Mt × Bool) : Prop where
  le : sumV x.1.vs ≤ sumV y.1.vs
  up : y.2 = true → x.2 = true ∨ sumV x.1.vs < sumV y.1.vs
  no : y.2 = false → y = x
theorem RO.refl (x : Mt × Bool) : RO x x := ⟨Nat.le_refl _, fun h => .inl h, fun _ => rfl⟩
theorem RO.trans {x y z : Mt × Bool} (h : RO x y) (k : RO y z) : RO x z := by
  refine ⟨Nat.le_trans h.le k.le, fun hz => ?_, fun hz => ?_⟩
  · have := h.le; have := k.le
    rcases k.up hz with q | q
    · rcases h.up q with p | p
      · exact .inl p
      · exact .inr (by omega)
    · exact .inr (by omega)
  · have e := k.no hz
    subst e
    exact h.no hz
theorem sndS_ro {n a b : Nat} {x : Mt × Bool} (hm : MtOK n x.1) (ha : a < n) (hb : b < n) : RO x (sndS a b x) := by
  unfold sndS
  by_cases h : (stpF x.1 (sndP a b)).2 = 0
  · have := snd_sum hm ha hb h
    rw [stpM_ok h] at this
    rw [if_pos h]
    exact ⟨Nat.le_of_lt this, fun _ => .inr this, fun e => by cases e⟩
  · rw [if_neg h]; exact .refl _
theorem sndS_ok {n a b : Nat} {x : Mt × Bool} (hm : MtOK n x.1) (ha : a < n) (hb : b < n) : MtOK n (sndS a b x).1 := by
  rw [sndS_1]; exact hm.step (snd_ok ha hb)
theorem rndJ_ro {n a : Nat} (ha : a < n) : ∀ (l : List Nat) (x : Mt × Bool), (∀ b ∈ l, b < n) → MtOK n x.1 → RO x (rndJ a l x) ∧ MtOK n (rndJ a l x).1 ∧ ((rndJ a l x).2 = false → ∀ b ∈ l, (stpF x.1 (sndP a b)).2 ≠ 0)
  | [], x, _, h => ⟨.refl _, h, fun _ b hb => by simp at hb⟩
  | b :: r, x, hl, h => by
    have hb := hl b (by simp)
    have h1 := sndS_ro h ha hb
    obtain ⟨k1, k2, k3⟩ := rndJ_ro ha r (sndS a b x) (fun y hy => hl y (by simp [hy])) (sndS_ok h ha hb)
    rw [rndJ]
    refine ⟨h1.trans k1, k2, fun he c hc => ?_⟩
    have e1 := k1.no he
    have e2 : (sndS a b x).2 = false := by rw [← e1]; exact he
    have e3 := h1.no e2
    rcases List.mem_cons.1 hc with rfl | hc
    · intro q
      unfold sndS at e2
      rw [if_pos q] at e2; cases e2
    · have := k3 he c hc
      rwa [e3] at this
theorem rndI_ro {n : Nat} (w : List Nat) (hw : ∀ b ∈ w, b < n) : ∀ (l : List Nat) (x : Mt × Bool), (∀ b ∈ l, b < n) → MtOK n x.1 → RO x (rndI w l x) ∧ MtOK n (rndI w l x).1 ∧ ((rndI w l x).2 = false → ∀ a ∈ l, ∀ b ∈ w, (stpF x.1 (sndP a b)).2 ≠ 0)
  | [], x, _, h => ⟨.refl _, h, fun _ b hb => by simp at hb⟩
  | a :: r, x, hl, h => by
    have ha := hl a (by simp)
    obtain ⟨h1, h2, h3⟩ := rndJ_ro ha w x hw h
    obtain ⟨k1, k2, k3⟩ := rndI_ro w hw r (rndJ a w x) (fun y hy => hl y (by simp [hy])) h2
    rw [rndI]
    refine ⟨h1.trans k1, k2, fun he c hc => ?_⟩
    have e1 := k1.no he
    have e2 : (rndJ a w x).2 = false := by rw [← e1]; exact he
    have e3 := h1.no e2
    rcases List.mem_cons.1 hc with rfl | hc
    · exact h3 e2
    · have := k3 he c hc
      rwa [e3] at this
theorem well_lt {n : Nat} {m : Mt} (h : MtOK n m) : 2 ^ m.vs.length - 1 - m.il < 1024 ∧ ∀ b ∈ wellN m, b < n := by
  have hl := h.len
  have h2 := two_le h.n10
  rw [hl]
  have hlt : 2 ^ n - 1 - m.il < 1024 := by omega
  refine ⟨hlt, fun b hb => ?_⟩
  unfold wellN at hb
  rw [hl] at hb
  have hp : 0 < 2 ^ n := Nat.pow_pos (by decide)
  exact testBit_lt' (s := 2 ^ n - 1 - m.il) (by omega) ((mem_nodes hlt).1 hb)
theorem rnd_ok {n : Nat} {m : Mt} (h : MtOK n m) : MtOK n (rndF m).1 ∧ ((rndF m).2 = true → sumV m.vs < sumV (rndF m).1.vs) ∧ ((rndF m).2 = false → (rndF m).1 = m ∧ ∀ a ∈ wellN m, ∀ b ∈ wellN m, (stpF m (sndP a b)).2 ≠ 0) := by
  have hw := (well_lt h).2
  obtain ⟨h1, h2, h3⟩ := rndI_ro (wellN m) hw (wellN m) (m, false) hw h
  refine ⟨h2, fun e => ?_, fun e => ⟨by rw [rndF, h1.no e], h3 e⟩⟩
  rcases h1.up e with q | q
  · cases q
  · exact q
/-- What a meeting of a configuration keeps: its voters go on, as they are ill and as they stopped. -/
structure MtI (c : List Mb) (il st : Nat) (m : Mt) : Prop where
  ok : MtOK c.length m
  inv : InvH c m.il m.vs
  il : m.il = il
  st : m.st = st
theorem snd_I {c : List Mb} (hc : FullC c) {il st : Nat} {m : Mt} {a b : Nat} (h : MtI c il st m) (ha : a < c.length) (hb : b < c.length) : MtI c il st (stpM m (sndP a b)) := by
  have hp := snd_ok ha hb
  refine ⟨h.ok.step hp, h.inv.step hc h.ok hp, ?_, ?_⟩
  · by_cases q : (stpF m (sndP a b)).2 = 0
    · rw [stpM_ok q, (stp_cases h.ok hp q).1]; exact h.il
    · rw [stpM_no q]; exact h.il
  · by_cases q : (stpF m (sndP a b)).2 = 0
    · rw [stpM_ok q, (stp_cases h.ok hp q).1]; exact h.st
    · rw [stpM_no q]; exact h.st
theorem rnd_I {c : List Mb} (hc : FullC c) {il st : Nat} {m : Mt} (h : MtI c il st m) : MtI c il st (rndF m).1 :=
  have hw := (well_lt h.ok).2
  rndI_keep (P := MtI c il st) (fun _ _ _ ha hb hm => snd_I hc hm ha hb) (wellN m) hw (wellN m) (m, false) hw h
theorem calm_heard {c : List Mb} {m : Mt} (h : MtI c 0 0 m) (he : (rndF m).2 = false) : AllHeard c.length m.vs := by
  obtain ⟨_, q⟩ := (rnd_ok h.ok).2.2 he
  intro k j hk hj hjk
  have hl := h.ok.len
  have hil := h.il
  have hst := h.st
  have mem : ∀ i, i < c.length → i ∈ wellN m := fun i hi => by
    have hlt := (well_lt h.ok).1
    unfold wellN
    rw [mem_nodes hlt, hil, hl, Nat.sub_zero, Nat.testBit_two_pow_sub_one]
    simpa using hi
  have h1 := q j (mem j hj) k (mem k hk)
  have e1 : chgF m (sndP j k) = ((k : Int), heaV (nth m.vs k) (sayV (nth m.vs j))) := by
    unfold chgF sndP
    dsimp only
    rw [if_neg (by omega), if_pos rfl, Int.toNat_natCast, Int.toNat_natCast]
  have e0 : askF m (sndP j k) = 0 := by
    unfold askF gonB
    rw [if_neg (fun e => hjk (by have := e.2; unfold sndP at this; dsimp only at this; omega)), hil, hst]
    simp [sndP, isTo]
  unfold stpF at h1
  rw [if_neg (by rw [e0]; simp)] at h1
  have h2 : (chgF m (sndP j k)).2.2 ≠ 0 := fun e => h1 (by rw [if_neg (by rw [e]; simp)])
  rw [e1] at h2
  dsimp only at h2
  have ho : oldM (nth m.vs k).he (sayV (nth m.vs j)) = true := by
    unfold heaV at h2
    cases e : oldM (nth m.vs k).he (sayV (nth m.vs j))
    · rw [e, if_neg (by simp)] at h2; exact absurd rfl h2
    · rfl
  unfold oldM at ho
  obtain ⟨y, y1, y2⟩ := List.any_eq_true.1 ho
  simp only [Bool.and_eq_true, decide_eq_true_eq] at y2
  have nj := h.ok.nd j hj
  exact ⟨y, y1, by rw [y2.1]; exact nj, y2.2⟩
/-- Whom a meeting begins with. -/
def begV (c : List Mb) (n : Nat) : List Vo := (List.range n).map fun (k : Nat) => ⟨(k : Int), 1, (nth c k).t, [], [], [], []⟩
theorem begV_len (c : List Mb) (n : Nat) : (begV c n).length = n := by simp [begV]
theorem begV_succ (c : List Mb) (n : Nat) : begV c (n + 1) = begV c n ++ [⟨(n : Int), 1, (nth c n).t, [], [], [], []⟩] := by
  unfold begV; rw [List.range_succ, List.map_append]; rfl
theorem begV_nth (c : List Mb) {n k : Nat} (h : k < n) : nth (begV c n) k = ⟨(k : Int), 1, (nth c k).t, [], [], [], []⟩ := by
  rw [nth_getElem _ _ (by rw [begV_len]; exact h)]; simp [begV]
theorem sort_nil : sortC [] = [] := by
  unfold sortC
  rw [List.filter_eq_nil_iff]
  intro x _
  simp [hasC]
theorem beg_ok {c : List Mb} (hc : FullC c) {k : Nat} (hk : k < c.length) : VoOK c.length ⟨(k : Int), 1, (nth c k).t, [], [], [], []⟩ := by
  have := hc.len
  exact ⟨by show (0 : Int) ≤ (k : Int); omega, by show (k : Int) < 10; omega, by show (1 : Int) ≤ 1; omega, by show (1 : Int) ≤ _; simp, hc.fit k hk, PlC.nil, PlC.nil, PlC.nil, rfl, rfl, fun x hx => by simp at hx, fun m hm => by simp at hm, List.Pairwise.nil⟩
theorem beg_inv {c : List Mb} (hc : FullC c) (ill : Nat) : InvH c ill (begV c c.length) := by
  refine ⟨begV_len _ _, fun k hk => ?_, fun k hk => ?_, fun k hk => ?_, fun k hk m hm => ?_, fun k hk => ?_, fun _ k hk x hx => ?_, fun k hk x hx => ?_⟩
  · rw [begV_nth c hk]; exact beg_ok hc hk
  · rw [begV_nth c hk]
  · rw [begV_nth c hk]
  · rw [begV_nth c hk] at hm; simp at hm
  · rw [begV_nth c hk]
    have e : ∀ v : Vo, v.vo = [] → v.ac = [] → v.he = [] → nxtV (viewF v) v = none := fun v h1 h2 h3 => by
      unfold nxtV knowM
      rw [h3]
      simp only [List.nil_append, catM, sayV, h1, h2]
      rw [sort_nil]; rfl
    exact e _ rfl rfl rfl
  · rw [begV_nth c hk] at hx; simp at hx
  · rw [begV_nth c hk] at hx; simp at hx
theorem beg_I {c : List Mb} (hc : FullC c) {ill : Nat} (hi : ill < 2 ^ c.length) : MtI c ill 0 ⟨begV c c.length, 0, ill⟩ := by
  have h5 := hc.len
  refine ⟨⟨hc.pos, by omega, begV_len _ _, fun k hk => ?_, fun k hk => ?_, Nat.pow_pos (by decide), hi, Nat.and_zero _⟩, beg_inv hc ill, rfl, rfl⟩
  · rw [begV_nth c hk]; exact beg_ok hc hk
  · rw [begV_nth c hk]
end Go.Proofs.YtdhogcklnehdhaaGreatDoor
/- Plain law: drawn configurations in which all are declared, drawn claims and scripts. No program stands here. -/
namespace Go.Proofs.YtdhogcklnehdhaaGreatDoor
set_option linter.unusedSimpArgs false
set_option linter.unusedVariables false
set_option linter.unnecessarySimpa false
set_option linter.unusedSectionVars false
set_option maxRecDepth 100000
open Go Go.RowKit Go.Am Go.Proofs.Grow
def mbS (k n : Nat) : Mb := ⟨true, .mk 1 (([k, (k + 1) % n] : List Nat).map fun x : Nat => (x : Int)) []⟩
def ful0 (c : List Mb) : List Mb := if c.length < 2 then c ++ [mb0] else c
def fulT (c : List Mb) : Nat → List Mb
  | 0 => c
  | k + 1 => if (nth (fulT c k) k).decl = true then fulT c k else (fulT c k).set k (mbS k c.length)
def fulC (c : List Mb) : List Mb := fulT (ful0 c) (ful0 c).length
theorem FitM.mono {n m : Nat} (h : n ≤ m) {x : Mb} (hx : FitM n x) : FitM m x := by
  rcases hx with e | ⟨h1, h2⟩
  · exact .inl e
  · exact .inr ⟨h1, h2.mono h⟩
theorem ful0_spec {c : List Mb} {n : Nat} (h1 : 1 ≤ c.length) (hn : c.length ≤ n) (h2 : 2 ≤ n) (h : ∀ x ∈ c, FitM c.length x) : 2 ≤ (ful0 c).length ∧ (ful0 c).length ≤ n ∧ ∀ x ∈ ful0 c, FitM (ful0 c).length x := by
  unfold ful0
  by_cases e : c.length < 2
  · rw [if_pos e]
    have hl : (c ++ [mb0]).length = 2 := by simp; omega
    refine ⟨by omega, by omega, fun x hx => ?_⟩
    rcases List.mem_append.1 hx with hx | hx
    · exact (h x hx).mono (by omega)
    · obtain rfl := List.mem_singleton.1 hx
      exact .inl rfl
  · rw [if_neg e]
    exact ⟨by omega, hn, h⟩
theorem next_ne {k n : Nat} (h2 : 2 ≤ n) (hk : k < n) : k ≠ (k + 1) % n := by
  rcases Nat.lt_or_ge (k + 1) n with h | h
  · rw [Nat.mod_eq_of_lt h]; omega
  · rw [show k + 1 = n by omega, Nat.mod_self]; omega
theorem mbS_fit {k n : Nat} (h2 : 2 ≤ n) (h10 : n ≤ 10) (hk : k < n) : FitT n (mbS k n).t := by
  have hm : (k + 1) % n < n := Nat.mod_lt _ (by omega)
  exact leaf_fit (k := 1) h10 (by simp) (fun x hx => by
    simp only [List.mem_cons, List.not_mem_nil, or_false] at hx
    rcases hx with rfl | rfl
    · exact hk
    · exact hm) (by have := next_ne h2 hk; simp [this]) (by omega) (by simp)
theorem fulT_spec {c : List Mb} (h2 : 2 ≤ c.length) (h5 : c.length ≤ 5) (h : ∀ x ∈ c, FitM c.length x) : ∀ k, k ≤ c.length → (fulT c k).length = c.length ∧ (∀ j, j < c.length → FitM c.length (nth (fulT c k) j)) ∧ ∀ j, j < k → (nth (fulT c k) j).decl = true
  | 0, _ => ⟨rfl, fun j hj => h _ (nth_mem c j hj), fun j hj => by omega⟩
  | k + 1, hk => by
    obtain ⟨g1, g2, g3⟩ := fulT_spec h2 h5 h k (by omega)
    rw [fulT]
    by_cases e : (nth (fulT c k) k).decl = true
    · rw [if_pos e]
      refine ⟨g1, g2, fun j hj => ?_⟩
      rcases Nat.lt_succ_iff_lt_or_eq.1 hj with q | rfl
      · exact g3 j q
      · exact e
    · rw [if_neg e]
      have hn : ∀ j, nth ((fulT c k).set k (mbS k c.length)) j = if k = j then mbS k c.length else nth (fulT c k) j := fun j => nth_setI _ _ _ _ (by omega)
      refine ⟨by rw [List.length_set]; exact g1, fun j hj => ?_, fun j hj => ?_⟩
      · rw [hn]; split
        · exact .inr ⟨rfl, mbS_fit h2 (by omega) (by omega)⟩
        · exact g2 j hj
      · rw [hn]; split
        · rfl
        · exact g3 j (by omega)
theorem full_spec {c : List Mb} {n : Nat} (h1 : 1 ≤ c.length) (hn : c.length ≤ n) (h2 : 2 ≤ n) (h5 : n ≤ 5) (h : ∀ x ∈ c, FitM c.length x) : FullC (fulC c) ∧ 2 ≤ (fulC c).length ∧ (fulC c).length ≤ n ∧ ∀ x ∈ fulC c, FitM (fulC c).length x := by
  obtain ⟨a1, a2, a3⟩ := ful0_spec h1 hn h2 h
  obtain ⟨g1, g2, g3⟩ := fulT_spec a1 (by omega) a3 (ful0 c).length (Nat.le_refl _)
  have e : (fulC c).length = (ful0 c).length := g1
  refine ⟨⟨by omega, by omega, fun k hk => g3 k (by omega), fun k hk => ?_⟩, by omega, by omega, fun x hx => ?_⟩
  · rw [e]
    rcases g2 k (by omega) with q | ⟨_, q⟩
    · have := g3 k (by omega)
      rw [q] at this; cases this
    · exact q
  · obtain ⟨k, hk, rfl⟩ := List.mem_iff_getElem.1 hx
    rw [← nth_getElem _ k hk, e]
    exact g2 k (by omega)
/-- A drawn claim: not always a right one. -/
def pkA : List Int := [-1, 0, 7, 8]
def pkB : List Int := [-1, 0, 15, 16]
def pk13 : List Int := [1, 1, 1, 2, 2, 2, 2, 2, 2, 5, 5, 3, 4]
def clmD (s : Sc) : Cl × Sc :=
  if s.n 30 = 29 then ((nth pkA ((s.x 30).n 4).toNat, nth pkB (((s.x 30).x 4).n 4).toNat), ((s.x 30).x 4).x 4)
  else (((s.x 30).n 3, ((s.x 30).x 3).n 3), ((s.x 30).x 3).x 3)
def clsD : Nat → Sc → List Cl → List Cl × Sc
  | 0, s, o => (o, s)
  | i + 1, s, o => clsD i (clmD s).2 (o ++ [(clmD s).1])
theorem clmD_ok {s : Sc} (h : s.ok) : (clmD s).2.ok := by
  unfold clmD
  split <;> exact Sc.ok_x (Sc.ok_x (Sc.ok_x h _) _) _
theorem clsD_spec : ∀ (i : Nat) (s : Sc) (o : List Cl), s.ok → (clsD i s o).2.ok ∧ (clsD i s o).1.length = o.length + i
  | 0, s, o, h => ⟨h, rfl⟩
  | i + 1, s, o, h => by
    obtain ⟨g1, g2⟩ := clsD_spec i (clmD s).2 (o ++ [(clmD s).1]) (clmD_ok h)
    exact ⟨g1, by rw [clsD, g2]; simp; omega⟩
/-- The next liar. -/
def liaF (ill m : Nat) : Nat → Nat → Nat
  | 0, f => f
  | k + 1, f => liaF ill m k (if ill.testBit f = true then f else (f + 1) % m)
theorem liaF_lt {ill m : Nat} (hm : 0 < m) : ∀ (k f : Nat), f < m → liaF ill m k f < m
  | 0, f, h => h
  | k + 1, f, h => by
    rw [liaF]
    refine liaF_lt hm k _ ?_
    split
    · exact h
    · exact Nat.mod_lt _ hm
def othF (a b m : Nat) : Nat := if a = b then (b + 1) % m else b
theorem othF_lt {a b m : Nat} (hm : 0 < m) (h : b < m) : othF a b m < m := by
  unfold othF; split
  · exact Nat.mod_lt _ hm
  · exact h
def aloT (f : Nat) : Tr := .mk 1 (([f] : List Nat).map fun x : Nat => (x : Int)) []
theorem aloT_fit {n f : Nat} (hn : n ≤ 10) (hf : f < n) : FitT n (aloT f) :=
  leaf_fit (k := 1) hn (by simp) (fun x hx => by rw [List.mem_singleton.1 hx]; exact hf) (by simp) (by omega) (by simp)
abbrev pl0F (kd : Int) (a b : Nat) (c : Cl) : Pl := ⟨kd, (a : Int), (b : Int), c, .mk 0 [] [], ms0⟩
def liePF (s : Sc) (m i f b : Nat) : Pl × Sc :=
  let x : Cl := (s.n 2, (s.x 2).n 2)
  let s2 := (s.x 2).x 2
  let q := if s2.n 3 = 0 then clsD ((s2.x 3).n 4).toNat ((s2.x 3).x 4) [] else ([], s2.x 3)
  (⟨5, (f : Int), (othF f b m : Int), (0, 0), .mk 0 [] [], ⟨(f : Int), 2 * ((i : Int) + 1), aloT f, [x], if s2.n 3 = 0 then sortC q.1 else [x]⟩⟩, q.2)
/-- One drawn step of a script. -/
def plyF (s : Sc) (m ill i : Nat) : Pl × Sc :=
  let a := (s.n m).toNat
  let b := othF a ((s.x m).n m).toNat m
  let s2 := (s.x m).x m
  let k := nth pk13 (s2.n 13).toNat
  let s3 := s2.x 13
  if k = 1 then (pl0F 1 a b (s3.n 2, (s3.x 2).n 2), (s3.x 2).x 2)
  else if k = 2 then (pl0F 2 a b (0, 0), s3)
  else if k = 3 then (pl0F 2 a b (0, 0), s3)
  else if k = 4 then (pl0F (if s3.n 4 = 0 then 4 else 2) a b (0, 0), s3.x 4)
  else liePF s3 m i (liaF ill m m a) b
theorem okC_small {s : Sc} : okC (s.n 2, (s.x 2).n 2) = true := by
  have h1 := s.n_bd (k := 2) (by omega)
  have h2 := (s.x 2).n_bd (k := 2) (by omega)
  unfold okC
  simp only [Bool.and_eq_true, decide_eq_true_eq]
  omega
theorem lieP_spec {s : Sc} {m i f b : Nat} (hs : s.ok) (h1 : 1 ≤ m) (h5 : m ≤ 10) (hi : i < 100) (hf : f < m) (hb : b < m) : PlOK m (liePF s m i f b).1 ∧ (liePF s m i f b).2.ok := by
  have ho := othF_lt (a := f) h1 hb
  have hs2 : ((s.x 2).x 2).ok := Sc.ok_x (Sc.ok_x hs _) _
  unfold liePF
  dsimp only
  refine ⟨⟨.inr (.inr (.inr rfl)), ⟨Int.natCast_nonneg _, by dsimp only; omega⟩, ⟨Int.natCast_nonneg _, by dsimp only; omega⟩, fun e => by (cases e), fun _ => ⟨⟨Int.natCast_nonneg _, by dsimp only; omega, by dsimp only; omega, by dsimp only; omega, aloT_fit h5 hf, plc_one okC_small, ?_⟩, rfl⟩⟩, ?_⟩
  · dsimp only
    split
    · exact plc_sort _
    · exact plc_one okC_small
  · split
    · exact (clsD_spec _ _ _ (Sc.ok_x (Sc.ok_x hs2 _) _)).1
    · exact Sc.ok_x hs2 _
theorem pl0_ok {m a b : Nat} {kd : Int} {c : Cl} (hk : kd = 1 ∨ kd = 2 ∨ kd = 4) (ha : a < m) (hb : b < m) (hc : kd = 1 → okC c = true) : PlOK m (pl0F kd a b c) :=
  ⟨by rcases hk with e | e | e <;> simp [e], ⟨by dsimp only; omega, by dsimp only; omega⟩, ⟨by dsimp only; omega, by dsimp only; omega⟩, hc, fun e => by dsimp only at e; omega⟩
theorem plyF_spec {s : Sc} {m ill i : Nat} (hs : s.ok) (h1 : 1 ≤ m) (h5 : m ≤ 10) (hi : i < 100) : PlOK m (plyF s m ill i).1 ∧ (plyF s m ill i).2.ok := by
  have ba := s.n_bd (k := m) (by omega)
  have bb := (s.x m).n_bd (k := m) (by omega)
  have hs2 : ((s.x m).x m).ok := Sc.ok_x (Sc.ok_x hs _) _
  have hs3 : (((s.x m).x m).x 13).ok := Sc.ok_x hs2 _
  have ha : (s.n m).toNat < m := by omega
  have hb : othF (s.n m).toNat ((s.x m).n m).toNat m < m := othF_lt h1 (by omega)
  unfold plyF
  dsimp only
  split
  · exact ⟨pl0_ok (.inl rfl) ha hb fun _ => okC_small, Sc.ok_x (Sc.ok_x hs3 _) _⟩
  split
  · exact ⟨pl0_ok (.inr (.inl rfl)) ha hb fun e => by omega, hs3⟩
  split
  · exact ⟨pl0_ok (.inr (.inl rfl)) ha hb fun e => by omega, hs3⟩
  split
  · refine ⟨pl0_ok ?_ ha hb fun e => ?_, Sc.ok_x hs3 _⟩
    · split
      · exact .inr (.inr rfl)
      · exact .inr (.inl rfl)
    · split at e <;> omega
  · exact lieP_spec hs3 h1 h5 hi (liaF_lt h1 _ _ ha) hb
/-- A drawn script. -/
def plsF (m ill : Nat) : Nat → Sc → List Pl × Sc
  | 0, s => ([], s)
  | k + 1, s => ((plsF m ill k s).1 ++ [(plyF (plsF m ill k s).2 m ill k).1], (plyF (plsF m ill k s).2 m ill k).2)
theorem plsF_spec {m ill : Nat} {s : Sc} (hs : s.ok) (h1 : 1 ≤ m) (h5 : m ≤ 10) : ∀ k, k ≤ 100 → (plsF m ill k s).1.length = k ∧ (∀ p ∈ (plsF m ill k s).1, PlOK m p) ∧ (plsF m ill k s).2.ok
  | 0, _ => ⟨rfl, fun p hp => by simp [plsF] at hp, hs⟩
  | k + 1, hk => by
    obtain ⟨g1, g2, g3⟩ := plsF_spec (ill := ill) hs h1 h5 k (by omega)
    obtain ⟨f1, f2⟩ := plyF_spec (ill := ill) (i := k) g3 h1 h5 (by omega)
    rw [plsF]
    refine ⟨by simp [g1], fun p hp => ?_, f2⟩
    rcases List.mem_append.1 hp with hp | hp
    · exact g2 p hp
    · rw [List.mem_singleton.1 hp]; exact f1
theorem runM_snoc : ∀ (l : List Pl) (m : Mt) (p : Pl), runM (l ++ [p]) m = stpM (runM l m) p
  | [], _, _ => rfl
  | y :: r, m, p => runM_snoc r (stpM m y) p
theorem runM_take {l : List Pl} {m : Mt} {k : Nat} (h : k < l.length) : runM (l.take (k + 1)) m = stpM (runM (l.take k) m) (nth l k) := by
  rw [List.take_succ_eq_append_getElem h, runM_snoc, nth_getElem l k h]
/-- The codes of the first steps. -/
def runD (l : List Pl) (m : Mt) : Nat → List Int
  | 0 => []
  | k + 1 => runD l m k ++ [(stpF (runM (l.take k) m) (nth l k)).2]
theorem runD_len (l : List Pl) (m : Mt) : ∀ k, (runD l m k).length = k
  | 0 => rfl
  | k + 1 => by rw [runD, List.length_append, runD_len l m k]; rfl
theorem rndJ_snoc (a : Nat) : ∀ (l : List Nat) (b : Nat) (x : Mt × Bool), rndJ a (l ++ [b]) x = sndS a b (rndJ a l x)
  | [], _, _ => rfl
  | y :: r, b, x => rndJ_snoc a r b (sndS a y x)
theorem rndI_snoc (w : List Nat) : ∀ (l : List Nat) (a : Nat) (x : Mt × Bool), rndI w (l ++ [a]) x = rndJ a w (rndI w l x)
  | [], _, _ => rfl
  | y :: r, a, x => rndI_snoc w r a (rndJ y w x)
theorem FullC.fitM {c : List Mb} (hc : FullC c) : ∀ x ∈ c, FitM c.length x := fun x hx => by
  obtain ⟨k, hk, rfl⟩ := List.mem_iff_getElem.1 hx
  rw [← nth_getElem _ k hk]
  exact .inr ⟨hc.decl k hk, hc.fit k hk⟩
theorem FullC.okS {c : List Mb} (hc : FullC c) {s : Nat} (hs : s ≤ memN c) : OkS c s := fit_okS hc.len hc.fitM hs
end Go.Proofs.YtdhogcklnehdhaaGreatDoor
