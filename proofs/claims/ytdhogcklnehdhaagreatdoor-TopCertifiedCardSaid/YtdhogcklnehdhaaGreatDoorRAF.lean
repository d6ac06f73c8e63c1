import Derived.Test.YtdhogcklnehdhaaGreatDoorRAE
namespace Go.Proofs.YtdhogcklnehdhaaGreatDoor
set_option linter.unusedSimpArgs false
set_option linter.unusedVariables false
set_option linter.unnecessarySimpa false
set_option linter.unusedSectionVars false
set_option maxRecDepth 100000
open Go Go.RowKit Go.Am Go.Proofs.Grow
theorem low_m (a b : Int) (ha : 0 ≤ a ∧ a ≤ 1000000) (hb : 0 ≤ b ∧ b ≤ 1000) : FnM Tryz.prog 176 [] [vI a, vI b] (vI (lowI a b)) [] := by
  have h1 : 0 ≤ mxI a b ∧ mxI a b ≤ 1000000 := by unfold mxI; split <;> omega
  unfold mxI at h1
  refine FnM.of htb Tryz.func176 rfl rfl rfl rfl rfl fun cx hN h0 => ?_
  (repeat' (first | ((with_reducible apply WD_id); first | (refine WD_sum ?_) | (refine WD_nxt htb (by exact rfl) ?_)) | (refine ct ?_) | (with_reducible apply WA_block)))
  exact gE (.inr rfl) rfl rfl trivial
theorem delT_eq (s : Int) (t : Tr) : delT s t = delL s t.is (delI s t.ns (mxI t.k 0) []).1 (delI s t.ns (mxI t.k 0) []).2 [] := by cases t; simp only [delT, Tr.k, Tr.ns, Tr.is]
theorem low_bd {a : Int} (h : 0 ≤ a) : 0 ≤ lowI a 1 ∧ lowI a 1 ≤ a := by unfold lowI mxI; split <;> omega
theorem del_m : ∀ (d : Nat) (s : Int) (t : Tr) (hd : hT t ≤ d) (hs : sizT t ≤ 1000) (hb : kbT t ≤ 1000), FnM Tryz.prog 122 [] [aTr t, vI s] (aTr (delT s t)) [] := by
  intro d
  induction d with
  | zero => intro s t hd; cases t; simp [hT] at hd
  | succ d ih =>
    intro s t hd hs hb
    have hl := siz_len t
    have hk := kb_k t
    have delR_m : ∀ (s : Int) (x : Tr) (hx : hT x ≤ d ∧ sizT x ≤ 1000 ∧ kbT x ≤ 1000), FnM Tryz.prog 122 [] [aTr x, vI s] (aTr (delT s x)) [] := fun s x hx => ih s x hx.1 hx.2.1 hx.2.2
    have hmx : 0 ≤ mxI t.k 0 ∧ mxI t.k 0 ≤ 1000 := by unfold mxI; split <;> omega
    show FnM _ _ _ [.agg [vI t.k, lI t.ns, .d (.rows 3 (t.is.map rTr))], vI s] _ _
    rw [show t.is.map rTr = t.is.map rTp by rw [rTr_p], delT_eq]
    refine FnM.of htb Tryz.func122 rfl rfl rfl rfl rfl fun cx hN h0 => ?_
    (repeat' (first | ((with_reducible apply WD_id); first | (refine WD_sum ?_) | (refine WD_nxt htb (by exact rfl) ?_) | (refine WD_idx htb ?_) | (refine WD_ap htb ?_)) | (refine ct ?_) | (with_reducible apply WA_block)))
    refine WA_le (Le_nilM 60 5 1 3 1 rfl rfl rfl rfl) ?_
    refine WA_le (Le_nilM 61 5 2 45 3 rfl rfl rfl rfl) ?_
    (refine WA_anyV (α := Nat × Int × List Int) (fun x => t.ns.length - x.1) ((0, mxI t.k 0, [])) [17] [5, 60, 61] (fun x => [(17, vI x.1)]) (fun x => [(5, .box 45 [vI x.2.1, .own 60, .own 61]), (60, .arr 3 1 (x.2.2.map rI)), (61, .arr 45 3 [])]) (fun x => x.1 ≤ t.ns.length ∧ 0 ≤ x.2.1 ∧ x.2.1 ≤ 1000 ∧ x.2.2.length ≤ x.1 ∧ delI s t.ns (mxI t.k 0) [] = delI s (t.ns.drop x.1) x.2.1 x.2.2) ?h0 ?_)
    case h0 => exact ⟨Nat.zero_le _, hmx.1, hmx.2, Nat.le_refl _, rfl⟩
    rintro ⟨k, a, out⟩ ⟨hk1, ha0, ha1, hlo, hI⟩
    dsimp only at hk1 ha0 ha1 hlo hI ⊢
    rcases Nat.lt_or_ge k t.ns.length with hk' | hk'
    · have t1 : decide ((k : Int) < (t.ns.length : Int)) = true := by simp; omega
      rw [delI_step hk'] at hI
      have hlw := low_bd ha0
      have hlb : 0 ≤ a ∧ a ≤ 1000000 := by omega
      have hob : (0 : Int) ≤ 1 ∧ (1 : Int) ≤ 1000 := by omega
      cases hx : hasB s (nth t.ns k) with
      | true =>
        rw [hx, if_pos rfl] at hI
        (repeat' (first | ((with_reducible apply WD_id); first | (refine WD_sum ?_) | (refine WD_nxt htb (by exact rfl) ?_) | (refine WD_call (by exact rfl) ?_; first | (refine WD_c0 (has_m _ _) ?_) | (refine WD_c0 (low_m _ _ ?_ ?_) ?_; (exact hyp); (exact hyp))) | (refine WD_idx htb ?_) | (refine WD_ap htb ?_)) | (refine ct ?_) | (with_reducible apply WA_block)))
        refine ⟨(k + 1, lowI a 1, out), by dsimp only; omega, ⟨hk', hlw.1, by dsimp only; omega, by dsimp only; omega, hI⟩, ?_⟩
        (exact LeV [])
      | false =>
        rw [hx, if_neg (by simp)] at hI
        (repeat' (first | ((with_reducible apply WD_id); first | (refine WD_sum ?_) | (refine WD_nxt htb (by exact rfl) ?_) | (refine WD_call (by exact rfl) ?_; first | (refine WD_c0 (has_m _ _) ?_)) | (refine WD_idx htb ?_) | (refine WD_ap htb ?_)) | (refine ct ?_) | (with_reducible apply WA_block)))
        refine ⟨(k + 1, a, out ++ [nth t.ns k]), by dsimp only; omega, ⟨hk', ha0, ha1, by simp; omega, hI⟩, ?_⟩
        rw [List.map_append]
        (exact LeV [(60, 32)])
    · have t1 : decide ((k : Int) < (t.ns.length : Int)) = false := by simp; omega
      rw [List.drop_eq_nil_of_le hk', delI] at hI
      rw [hI]
      (repeat' (first | ((with_reducible apply WD_id); first | (refine WD_sum ?_) | (refine WD_nxt htb (by exact rfl) ?_) | (refine WD_idx htb ?_) | (refine WD_ap htb ?_)) | (refine ct ?_) | (with_reducible apply WA_block)))
      (refine WA_anyV (α := Nat × Int × List Tr) (fun x => t.is.length - x.1) ((0, a, [])) [38] [5, 61] (fun x => [(38, vI x.1)]) (fun x => [(5, .box 45 [vI x.2.1, .own 60, .own 61]), (61, .arr 45 3 (x.2.2.map rTr))]) (fun x => x.1 ≤ t.is.length ∧ 0 ≤ x.2.1 ∧ x.2.1 ≤ 1000 ∧ x.2.2.length ≤ x.1 ∧ delL s t.is a out [] = delL s (t.is.drop x.1) x.2.1 out x.2.2) ?h0 ?_)
      case h0 => exact ⟨Nat.zero_le _, ha0, ha1, Nat.le_refl _, rfl⟩
      rintro ⟨k2, b, ot⟩ ⟨hk2, hb0, hb1, hlo2, hI2⟩
      dsimp only at hk2 hb0 hb1 hlo2 hI2 ⊢
      rcases Nat.lt_or_ge k2 t.is.length with hk2' | hk2'
      · have t2 : decide ((k2 : Int) < (t.is.length : Int)) = true := by simp; omega
        rw [delL_step hk2'] at hI2
        have hlw := low_bd hb0
        have hlb : 0 ≤ b ∧ b ≤ 1000000 := by omega
        have hob : (0 : Int) ≤ 1 ∧ (1 : Int) ≤ 1000 := by omega
        have hm := nth_mem t.is k2 hk2'
        have hx : hT (nth t.is k2) ≤ d ∧ sizT (nth t.is k2) ≤ 1000 ∧ kbT (nth t.is k2) ≤ 1000 := by have := hT_mem hm; have := siz_mem hm; have := kb_mem hm; omega
        by_cases hz : (delT s (nth t.is k2)).k = 0
        · have t3 : ((delT s (nth t.is k2)).k == 0) = true := by simpa using hz
          rw [if_pos hz] at hI2
          (repeat' (first | ((with_reducible apply WD_id); first | (refine WD_sum ?_) | (refine WD_nxt htb (by exact rfl) ?_) | (refine WD_call (by exact rfl) ?_; first | (refine WD_c0 (delR_m _ _ ?_) ?_; (exact hyp)) | (refine WD_c0 (low_m _ _ ?_ ?_) ?_; (exact hyp); (exact hyp))) | (refine WD_idx htb ?_) | (refine WD_ap htb ?_)) | (refine ct ?_) | (with_reducible apply WA_block)))
          refine ⟨(k2 + 1, lowI b 1, ot), by dsimp only; omega, ⟨hk2', hlw.1, by dsimp only; omega, by dsimp only; omega, hI2⟩, ?_⟩
          (exact LeV [])
        · have t3 : ((delT s (nth t.is k2)).k == 0) = false := by simpa using hz
          rw [if_neg hz] at hI2
          (repeat' (first | ((with_reducible apply WD_id); first | (refine WD_sum ?_) | (refine WD_nxt htb (by exact rfl) ?_) | (refine WD_call (by exact rfl) ?_; first | (refine WD_c0 (delR_m _ _ ?_) ?_; (exact hyp))) | (refine WD_idx htb ?_) | (refine WD_ap htb ?_)) | (refine ct ?_) | (with_reducible apply WA_block)))
          refine ⟨(k2 + 1, b, ot ++ [delT s (nth t.is k2)]), by dsimp only; omega, ⟨hk2', hb0, hb1, by simp; omega, hI2⟩, ?_⟩
          rw [List.map_append, List.map_cons, List.map_nil, show rTr (delT s (nth t.is k2)) = rTp (delT s (nth t.is k2)) by rw [rTr_p]]
          (exact LeV [(61, 56)])
      · have t2 : decide ((k2 : Int) < (t.is.length : Int)) = false := by simp; omega
        rw [List.drop_eq_nil_of_le hk2', delL] at hI2
        rw [hI2]
        (repeat' (first | ((with_reducible apply WD_id); first | (refine WD_sum ?_) | (refine WD_nxt htb (by exact rfl) ?_) | (refine WD_idx htb ?_) | (refine WD_ap htb ?_)) | (refine ct ?_) | (with_reducible apply WA_block)))
        (exact glV [(4, .ptr 4 0)] [(4, .box 45 (cellsOf (aTr (.mk b out ot))))] (LeV []))
theorem cop_m : ∀ (d : Nat) (t : Tr) (hd : hT t ≤ d) (hs : sizT t ≤ 1000), FnM Tryz.prog 59 [] [aTr t] (aTr t) [] := by
  intro d
  induction d with
  | zero => intro t hd; cases t; simp [hT] at hd
  | succ d ih =>
    intro t hd hs
    have hl := siz_len t
    have copR_m : ∀ (x : Tr) (hx : hT x ≤ d ∧ sizT x ≤ 1000), FnM Tryz.prog 59 [] [aTr x] (aTr x) [] := fun x hx => ih x hx.1 hx.2
    show FnM _ _ _ [.agg [vI t.k, lI t.ns, .d (.rows 3 (t.is.map rTr))]] (.agg [vI t.k, lI t.ns, .d (.rows 3 (t.is.map rTr))]) _
    rw [rTr_p]
    refine FnM.of htb Tryz.func59 rfl rfl rfl rfl rfl fun cx hN h0 => ?_
    (repeat' (first | ((with_reducible apply WD_id); first | (refine WD_sum ?_) | (refine WD_nxt htb (by exact rfl) ?_) | (refine WD_idx htb ?_) | (refine WD_ap htb ?_) | (refine WD_ap0 htb ?_)) | (refine ct ?_) | (with_reducible apply WA_block)))
    refine WA_le (Le_nilM 61 3 2 45 3 rfl rfl rfl rfl) ?_
    (refine WA_forV (t.is.length) [15] [3, 10, 61] (fun k => [(15, vI k)]) (fun k => [(3, .box 45 [vI t.k, .own 10, .own 61]), (10, .arr 3 1 (t.ns.map rI)), (61, .arr 45 3 ((t.is.take k).map rTp))]) (fun k => True) ?h0 ?_)
    case h0 => trivial
    intro k hk _
    have hlk : (t.is.take k).length ≤ k := by rw [List.length_take]; omega
    rcases Nat.lt_or_ge k t.is.length with hk' | hk'
    · have t1 : decide ((k : Int) < (t.is.length : Int)) = true := by simp; omega
      have hm := nth_mem t.is k hk'
      have hx : hT (nth t.is k) ≤ d ∧ sizT (nth t.is k) ≤ 1000 := by have := hT_mem hm; have := siz_mem hm; omega
      have hw : (t.is.take (k + 1)) = t.is.take k ++ [nth t.is k] := by rw [List.take_succ_eq_append_getElem hk', nth_getElem _ _ hk']
      (repeat' (first | ((with_reducible apply WD_id); first | (refine WD_sum ?_) | (refine WD_nxt htb (by exact rfl) ?_) | (refine WD_call (by exact rfl) ?_; first | (refine WD_c0 (copR_m _ ?_) ?_; (exact hyp))) | (refine WD_idx htb ?_) | (refine WD_ap htb ?_) | (refine WD_ap0 htb ?_)) | (refine ct ?_) | (with_reducible apply WA_block)))
      refine ⟨hk', trivial, ?_⟩
      rw [hw, List.map_append, List.map_cons, List.map_nil]
      (exact LeV [(61, 24)])
    · have t1 : decide ((k : Int) < (t.is.length : Int)) = false := by simp; omega
      have e1 : t.is.take k = t.is := take_all hk'
      rw [e1]
      (repeat' (first | ((with_reducible apply WD_id); first | (refine WD_sum ?_) | (refine WD_nxt htb (by exact rfl) ?_) | (refine WD_idx htb ?_) | (refine WD_ap htb ?_) | (refine WD_ap0 htb ?_)) | (refine ct ?_) | (with_reducible apply WA_block)))
      (exact glV [(2, .ptr 2 0)] [(2, .box 45 [vI t.k, lI t.ns, .d (.rows 3 (t.is.map rTp))])] (LeV []))
theorem dtr_m (t : Tr) (k s : Nat) (hs : s < 1024) (hz : sizT t ≤ 1000) (hb : kbT t ≤ 1000) : FnM Tryz.prog 58 [] [aTr t, vI (k : Int), vI (s : Int)] (aTr (dtrT s k t)) [] := by
  have t0 : (!validS (s : Int)) = false := by rw [valid_nat hs]; rfl
  have delS_m : FnM Tryz.prog 122 [] [aTr t, vI (s : Int)] (aTr (delT s t)) [] := del_m _ s t (Nat.le_refl _) hz hb
  refine FnM.of htb Tryz.func58 rfl rfl rfl rfl rfl fun cx hN h0 => ?_
  unfold dtrT
  by_cases hk : (delT s t).k = 0
  · have t1 : ((delT s t).k == 0) = true := by simpa using hk
    rw [if_pos hk]
    (repeat' (first | ((with_reducible apply WD_id); first | (refine WD_nxt htb (by exact rfl) ?_) | (refine WD_call (by exact rfl) ?_; first | (refine WD_c0 (valid_m _) ?_) | (refine WD_c0 (delS_m) ?_))) | (refine ct ?_) | (with_reducible apply WA_block)))
    (exact glV [(6, .ptr 6 0)] [(6, .box 45 (cellsOf (aTr (.mk 1 [(k : Int)] []))))] (LeV []))
  · have t1 : ((delT s t).k == 0) = false := by simpa using hk
    rw [if_neg hk]
    (repeat' (first | ((with_reducible apply WD_id); first | (refine WD_nxt htb (by exact rfl) ?_) | (refine WD_call (by exact rfl) ?_; first | (refine WD_c0 (valid_m _) ?_) | (refine WD_c0 (delS_m) ?_))) | (refine ct ?_) | (with_reducible apply WA_block)))
    exact gE (.inr rfl) rfl rfl trivial
theorem rMb_blank : DNs [.v (.bool false), .v (.int .i64 0), .v (.slice none 0 0), .v (.slice none 0 0)] (rMb ⟨false, .mk 0 [] []⟩) :=
  DNs.cons (.refl _) (DNs.cons (.refl _) (DNs.cons (.nil 1) (DNs.cons (.nil 3) DNs.nil)))
theorem delC_m (c : List Mb) (s : Nat) (hc : OkC c) (hs : s < 1024) (hkb : ∀ k, k < c.length → kbT (nth c k).t ≤ 1000) : FnM Tryz.prog 18 [] [aCf c, vI (s : Int)] (aCf (delC c s)) [] := by
  have hl := hc.len
  refine FnM.of htb Tryz.func18 rfl rfl rfl rfl rfl fun cx hN h0 => ?_
  (repeat' (first | ((with_reducible apply WD_id); first | (refine WD_sum ?_) | (refine WD_nxt htb (by exact rfl) ?_) | (refine WD_idx htb ?_) | (refine WD_ap htb ?_)) | (refine ct ?_) | (with_reducible apply WA_block)))
  refine WA_le (Le_nilM 60 5 0 53 4 rfl rfl rfl rfl) ?_
  (refine WA_forV (c.length) [11] [5, 60] (fun k => [(11, vI k)]) (fun k => [(5, .box 27 [.own 60]), (60, .arr 53 4 ((delTo c s k).map rMb))]) (fun k => True) ?h0 ?_)
  case h0 => trivial
  intro k hk _
  have hlk := delTo_len c s k
  rcases Nat.lt_or_ge k c.length with hk' | hk'
  · have t1 : decide ((k : Int) < (c.length : Int)) = true := by simp; omega
    have hsz := hc.siz k hk'
    have hb := hkb k hk'
    have hk10 : k < 10 := by omega
    have hh := has_nat hs hk10
    have hst := delTo_succ c s k
    cases hx : s.testBit k with
    | true =>
      rw [hx] at hh
      have e : delM s k (nth c k) = ⟨false, .mk 0 [] []⟩ := by unfold delM; rw [if_pos hx]
      rw [e] at hst
      (repeat' (first | ((with_reducible apply WD_id); first | (refine WD_sum ?_) | (refine WD_nxt htb (by exact rfl) ?_) | (refine WD_call (by exact rfl) ?_; first | (refine WD_c0 (has_m _ _) ?_)) | (refine WD_idx htb ?_) | (refine WD_ap htb ?_)) | (refine ct ?_) | (with_reducible apply WA_block)))
      refine ⟨hk', trivial, Le.trans (Le_norm 38 rfl rMb_blank) ?_⟩
      rw [hst, List.map_append]
      (exact LeV [(60, 38)])
    | false =>
      rw [hx] at hh
      cases hd : (nth c k).decl with
      | true =>
        have e : delM s k (nth c k) = ⟨true, dtrT s k (nth c k).t⟩ := by unfold delM; rw [if_neg (by simp [hx]), if_pos hd]
        have dtrX_m : FnM Tryz.prog 58 [] [aTr (nth c k).t, vI (k : Int), vI (s : Int)] (aTr (dtrT s k (nth c k).t)) [] := dtr_m _ _ _ hs hsz hb
        rw [e] at hst
        (repeat' (first | ((with_reducible apply WD_id); first | (refine WD_sum ?_) | (refine WD_nxt htb (by exact rfl) ?_) | (refine WD_call (by exact rfl) ?_; first | (refine WD_c0 (has_m _ _) ?_) | (refine WD_c0 (dtrX_m) ?_)) | (refine WD_idx htb ?_) | (refine WD_ap htb ?_)) | (refine ct ?_) | (with_reducible apply WA_block)))
        refine ⟨hk', trivial, ?_⟩
        rw [hst, List.map_append]
        (exact LeV [(60, 38)])
      | false =>
        have e : delM s k (nth c k) = nth c k := by unfold delM; rw [if_neg (by simp [hx]), if_neg (by simp [hd])]
        have copX_m : FnM Tryz.prog 59 [] [aTr (nth c k).t] (aTr (nth c k).t) [] := cop_m _ _ (Nat.le_refl _) hsz
        rw [e] at hst
        have er : rMb (nth c k) = [.v (.bool false), dI (nth c k).t.k, .rows 1 ((nth c k).t.ns.map rI), .rows 3 ((nth c k).t.is.map rTr)] := by unfold rMb; rw [hd]
        (repeat' (first | ((with_reducible apply WD_id); first | (refine WD_sum ?_) | (refine WD_nxt htb (by exact rfl) ?_) | (refine WD_call (by exact rfl) ?_; first | (refine WD_c0 (has_m _ _) ?_) | (refine WD_c0 (copX_m) ?_)) | (refine WD_idx htb ?_) | (refine WD_ap htb ?_)) | (refine ct ?_) | (with_reducible apply WA_block)))
        refine ⟨hk', trivial, ?_⟩
        rw [hst, List.map_append, List.map_cons, List.map_nil, er]
        (exact LeV [(60, 38)])
  · have t1 : decide ((k : Int) < (c.length : Int)) = false := by simp; omega
    obtain rfl : k = c.length := by omega
    (repeat' (first | ((with_reducible apply WD_id); first | (refine WD_sum ?_) | (refine WD_nxt htb (by exact rfl) ?_) | (refine WD_idx htb ?_) | (refine WD_ap htb ?_)) | (refine ct ?_) | (with_reducible apply WA_block)))
    (exact glV [(4, .ptr 4 0)] [(4, .box 27 (cellsOf (aCf (delC c s))))] (LeV []))
end Go.Proofs.YtdhogcklnehdhaaGreatDoor
namespace Go.Proofs.YtdhogcklnehdhaaGreatDoor
set_option linter.unusedSimpArgs false
set_option linter.unusedVariables false
set_option linter.unnecessarySimpa false
set_option linter.unusedSectionVars false
set_option maxRecDepth 100000
open Go.RowKit Go.Proofs.Grow Go.Sort
def popN (s : Nat) : Nat := s % 2 + s / 2 % 2 + s / 4 % 2 + s / 8 % 2 + s / 16 % 2 + s / 32 % 2 + s / 64 % 2 + s / 128 % 2 + s / 256 % 2 + s / 512 % 2
theorem pop_bd {s n : Nat} (hn : n ≤ 10) (h : s < 2 ^ n) : popN s ≤ n := by
  unfold popN
  obtain rfl | rfl | rfl | rfl | rfl | rfl | rfl | rfl | rfl | rfl | rfl : n = 0 ∨ n = 1 ∨ n = 2 ∨ n = 3 ∨ n = 4 ∨ n = 5 ∨ n = 6 ∨ n = 7 ∨ n = 8 ∨ n = 9 ∨ n = 10 := by omega
  all_goals (simp only [Nat.reducePow] at h; omega)
theorem pop_first {k : Nat} (h : k ≤ 9) : popN (2 ^ (k + 1) - 1) = k + 1 := by
  obtain rfl | rfl | rfl | rfl | rfl | rfl | rfl | rfl | rfl | rfl : k = 0 ∨ k = 1 ∨ k = 2 ∨ k = 3 ∨ k = 4 ∨ k = 5 ∨ k = 6 ∨ k = 7 ∨ k = 8 ∨ k = 9 := by omega
  all_goals decide
/-- The next set of the same size. -/
def nxS (size : Nat) : Nat → Nat → Option Nat
  | 0, _ => none
  | f + 1, t => if popN t = size then some t else nxS size f (t + 1)
def nextF (s n : Nat) : Option Nat := match nxS (popN s) (2 ^ n - (s + 1)) (s + 1) with
  | some t => some t
  | none => if popN s = n then none else some (2 ^ (popN s + 1) - 1)
theorem nxS_some {size : Nat} : ∀ {f t u : Nat}, nxS size f t = some u → t ≤ u ∧ u < t + f ∧ popN u = size
  | 0, t, u, h => by cases h
  | f + 1, t, u, h => by
    unfold nxS at h
    split at h
    · rename_i hp; obtain rfl := Option.some.inj h; exact ⟨Nat.le_refl _, by omega, hp⟩
    · have := nxS_some h; omega
def muN (s : Nat) : Nat := (10 - popN s) * 1024 + (1023 - s)
theorem two_le {n : Nat} (hn : n ≤ 10) : 2 ^ n ≤ 1024 := Nat.pow_le_pow_right (n := 2) (by decide) hn
theorem next_some {s n t : Nat} (hn : n ≤ 10) (hs : s < 2 ^ n) (h : nextF s n = some t) : t < 2 ^ n ∧ muN t < muN s := by
  have h2 := two_le hn
  have hp := pop_bd hn hs
  unfold nextF at h
  split at h
  · rename_i u hu
    obtain rfl := Option.some.inj h
    obtain ⟨h1, h3, h4⟩ := nxS_some hu
    refine ⟨by omega, ?_⟩
    unfold muN; rw [h4]; omega
  · split at h
    · cases h
    · rename_i hne
      obtain rfl := Option.some.inj h
      have h5 : popN s + 1 ≤ n := by omega
      have h6 := pop_first (k := popN s) (by omega)
      have h7 : 2 ^ (popN s + 1) ≤ 2 ^ n := Nat.pow_le_pow_right (n := 2) (by decide) h5
      have h8 : 0 < 2 ^ (popN s + 1) := Nat.pow_pos (by decide)
      refine ⟨by omega, ?_⟩
      unfold muN; rw [h6]; omega
abbrev memN (c : List Mb) : Nat := 2 ^ c.length - 1
theorem mem_lt {c : List Mb} (h : c.length ≤ 10) : memN c < 1024 := by
  show 2 ^ c.length - 1 < 1024
  have := two_le h; have : 0 < 2 ^ c.length := Nat.pow_pos (by decide); omega
theorem mem_bit (c : List Mb) (k : Nat) : (memN c).testBit k = decide (k < c.length) := Nat.testBit_two_pow_sub_one _ _
/-- The first quorum for which there is a disjoint one, and the greatest one of these. -/
def fndN (c : List Mb) (s : Nat) : Nat × Nat :=
  if quoN c s = true ∧ (greatN c (andn (memN c) s)).1 ≠ 0 then (s, (greatN c (andn (memN c) s)).1)
  else match nextF s c.length with
    | none => (0, 0)
    | some t => if _h : muN t < muN s then fndN c t else (0, 0)
termination_by muN s
end Go.Proofs.YtdhogcklnehdhaaGreatDoor
namespace Go.Proofs.YtdhogcklnehdhaaGreatDoor
set_option linter.unusedSimpArgs false
set_option linter.unusedVariables false
set_option linter.unnecessarySimpa false
set_option linter.unusedSectionVars false
set_option maxRecDepth 100000
open Go Go.RowKit Go.Am Go.Proofs.Grow
section
variable {o : Oper} {t t' : TypeId} {x y : Operand} {T : Nat → Option AV} {M : Nat → Option AO} {b : Nat}
theorem shlP_step (ho : o.op = .binOp .shl t x y t') (hx : evA T x = some (vI 1)) (hy : evA T y = some (vI ((b : Int) + 1))) (h0 : b + 1 ≤ 61 := by exact num) : StepOK Tryz.prog o T M ⟨vI ((2 ^ (b + 1) : Nat) : Int), [], []⟩ :=
  shlN_step (b := b + 1) ho hx hy h0
end
theorem mbsA_m (c : List Mb) (hc : OkC c) : FnM Tryz.prog 141 [] [aCf c] (vI (memN c : Nat)) [] := by
  have hl := hc.len
  have h2 := two_le hl
  have h3 : 0 < 2 ^ c.length := Nat.pow_pos (by decide)
  refine FnM.of htb Tryz.func141 rfl rfl rfl rfl rfl fun cx hN h0 => ?_
  have hl61 : (c.map rMb).length ≤ 61 := by rw [List.length_map]; omega
  have h4 : 2 ^ (c.map rMb).length ≤ 1024 := by rw [List.length_map]; omega
  (repeat' (first | ((with_reducible apply WD_id); first | (refine WD_sum ?_) | (refine WD_nxt htb (by exact rfl) ?_) | (refine WD_unk (by exact rfl) ?_; first | (refine WD_t (by exact rfl) (by exact rfl) (by exact known) fun hb => ?_; rw [hb]; clear hb) | (refine WD_f (by exact rfl) (by exact rfl) (by exact known) fun hb => ?_; rw [hb]; clear hb) | ((refine WD_tf (by exact rfl) (by exact rfl) ?_ ?_) <;> (intro hb; (fail_if_success (with_reducible injection hb)); rw [hb]; (try simp only [List.length_map] at hb)))) | (refine WD_eq (shlN_step rfl rfl rfl) ?_) | (refine WD_idx htb ?_) | (refine WD_idxo htb ?_) | (refine WD_lde1 htb ?_) | (refine WD_lde htb ?_) | (refine WD_ste htb ?_) | (refine WD_ap htb ?_) | (refine WD_ap0 htb ?_) | (refine WD_nil htb ?_) | (refine WD_nilr htb ?_) | (refine WD_rem ?_) | (refine WD_quo ?_) | (refine WD_slc htb ?_) | (refine WD_ixa htb ?_) | (refine WD_ix1 htb ?_) | (refine WD_cut htb ?_) | (refine WD_cut3 htb ?_) | (refine WD_lens htb ?_) | (refine WD_caps htb ?_) | (refine WD_cps htb ?_) | (refine WD_cpp htb ?_) | (refine WD_api htb ?_) | (refine WD_apz htb ?_) | (refine WD_clr htb ?_) | (refine WD_t (by exact rfl) (by exact rfl) (by exact known) fun hb => ?_; rw [hb]; clear hb) | (refine WD_f (by exact rfl) (by exact rfl) (by exact known) fun hb => ?_; rw [hb]; clear hb) | ((refine WD_tf (by exact rfl) (by exact rfl) ?_ ?_) <;> (intro hb; (fail_if_success (with_reducible injection hb)); rw [hb]; (try simp only [List.length_map] at hb)))) | (refine ct ?_) | (((with_reducible apply gC2); exact rfl) <;> (intro hb; rw [hb]))))
  refine gE (.inr rfl) rfl (congrArg vI ?_) trivial
  simp only [List.length_map] at *
  show _ = ((2 ^ c.length - 1 : Nat) : Int)
  omega
theorem mbsB_m (c : List Mb) (hc : OkC c) : FnM Tryz.prog 128 [] [aCf c] (vI (memN c : Nat)) [] := by
  have hl := hc.len
  have h2 := two_le hl
  have h3 : 0 < 2 ^ c.length := Nat.pow_pos (by decide)
  refine FnM.of htb Tryz.func128 rfl rfl rfl rfl rfl fun cx hN h0 => ?_
  have hl61 : (c.map rMb).length ≤ 61 := by rw [List.length_map]; omega
  have h4 : 2 ^ (c.map rMb).length ≤ 1024 := by rw [List.length_map]; omega
  (repeat' (first | ((with_reducible apply WD_id); first | (refine WD_sum ?_) | (refine WD_nxt htb (by exact rfl) ?_) | (refine WD_eq (shlN_step rfl rfl rfl) ?_)) | (refine ct ?_) | (with_reducible apply WA_block)))
  refine gE (.inr rfl) rfl (congrArg vI ?_) trivial
  simp only [List.length_map] at *
  show _ = ((2 ^ c.length - 1 : Nat) : Int)
  omega
theorem mbsC_m (c : List Mb) (hc : OkC c) : FnM Tryz.prog 126 [] [aCf c] (vI (memN c : Nat)) [] := by
  have hl := hc.len
  have h2 := two_le hl
  have h3 : 0 < 2 ^ c.length := Nat.pow_pos (by decide)
  refine FnM.of htb Tryz.func126 rfl rfl rfl rfl rfl fun cx hN h0 => ?_
  have hl61 : (c.map rMb).length ≤ 61 := by rw [List.length_map]; omega
  have h4 : 2 ^ (c.map rMb).length ≤ 1024 := by rw [List.length_map]; omega
  (repeat' (first | ((with_reducible apply WD_id); first | (refine WD_sum ?_) | (refine WD_nxt htb (by exact rfl) ?_) | (refine WD_eq (shlN_step rfl rfl rfl) ?_)) | (refine ct ?_) | (with_reducible apply WA_block)))
  refine gE (.inr rfl) rfl (congrArg vI ?_) trivial
  simp only [List.length_map] at *
  show _ = ((2 ^ c.length - 1 : Nat) : Int)
  omega
theorem belowN_m (s n : Nat) (hn : n ≤ 10) : FnM Tryz.prog 133 [] [vI (s : Int), vI (n : Int)] (vB (decide (s < 2 ^ n))) [] := by
  have h2 := two_le hn
  have h61 : n ≤ 61 := by omega
  have t1 : decide ((s : Int) ≥ 0) = true := by simp
  refine FnM.of htb Tryz.func133 rfl rfl rfl rfl rfl fun cx hN h0 => ?_
  (repeat' (first | ((with_reducible apply WD_id); first | (refine WD_nxt htb (by exact rfl) ?_) | (refine WD_eq (shlN_step rfl rfl rfl) ?_)) | (refine ct ?_) | (with_reducible apply WA_block)))
  exact gE (.inr rfl) rfl (congrArg vB (by rw [Bool.eq_iff_iff]; simp only [decide_eq_true_eq]; omega)) trivial
theorem nextSet_m (s n : Nat) (hn : n ≤ 10) (hs : s < 2 ^ n) (size_m : ∀ (s : Nat) (hs : s < 1024), FnM Tryz.prog 178 [] [vI (s : Int)] (vI (popN s : Int)) []) :
    FnM Tryz.prog 127 [] [vI (s : Int), vI (n : Int)] (.tup [vI (uhR (nextF s n)).1, vB (uhR (nextF s n)).2]) [] := by
  have h2 := two_le hn
  have hs10 : s < 1024 := by omega
  have hp := pop_bd hn hs
  have t1 : decide ((n : Int) < 0) = false := by simp
  have t2 : decide ((n : Int) > 10) = false := by simp; omega
  have t3 : (!decide (s < 2 ^ n)) = false := by simp; omega
  refine FnM.of htb Tryz.func127 rfl rfl rfl rfl rfl fun cx hN h0 => ?_
  (repeat' (first | ((with_reducible apply WD_id); first | (refine WD_sum ?_) | (refine WD_nxt htb (by exact rfl) ?_) | (refine WD_call (by exact rfl) ?_; first | (refine WD_c0 (belowN_m _ _ ?_) ?_; (exact hyp)) | (refine WD_c0 (size_m _ ?_) ?_; (exact hyp))) | (refine WD_f (by exact rfl) (by exact rfl) (by exact known) fun hb => ?_; rw [hb]; clear hb)) | (refine ct ?_) | (with_reducible apply WA_block)))
  rw [show (s : Int) + 1 = ((s + 1 : Nat) : Int) from rfl]
  (refine WA_anyV (α := Nat) (fun x => 2 ^ n - x) (s + 1) [7] [] (fun x => [(7, vI ((x : Nat) : Int))]) (fun x => []) (fun x => s < x ∧ x ≤ 2 ^ n ∧ nxS (popN s) (2 ^ n - (s + 1)) (s + 1) = nxS (popN s) (2 ^ n - x) x) ?h0 ?_)
  case h0 => exact ⟨by omega, by omega, rfl⟩
  rintro x ⟨hx1, hx2, hI⟩
  rcases Nat.lt_or_ge x (2 ^ n) with hx | hx
  · have t4 : decide (x < 2 ^ n) = true := by simp; omega
    have hx10 : x < 1024 := by omega
    obtain ⟨f, hf⟩ : ∃ f, 2 ^ n - x = f + 1 := ⟨2 ^ n - x - 1, by omega⟩
    rw [hf, nxS] at hI
    by_cases he : popN x = popN s
    · have t5 : (((popN x : Nat) : Int) == ((popN s : Nat) : Int)) = true := by simp [he]
      rw [if_pos he] at hI
      have e : nextF s n = some x := by unfold nextF; rw [hI]
      rw [e]
      (repeat' (first | ((with_reducible apply WD_id); first | (refine WD_sum ?_) | (refine WD_nxt htb (by exact rfl) ?_) | (refine WD_call (by exact rfl) ?_; first | (refine WD_c0 (belowN_m _ _ ?_) ?_; (exact hyp)) | (refine WD_c0 (size_m _ ?_) ?_; (exact hyp))) | (refine WD_f (by exact rfl) (by exact rfl) (by exact known) fun hb => ?_; rw [hb]; clear hb)) | (refine ct ?_) | (with_reducible apply WA_block)))
      exact gE (.inr rfl) rfl rfl trivial
    · have t5 : (((popN x : Nat) : Int) == ((popN s : Nat) : Int)) = false := by simp <;> omega
      rw [if_neg he, show f = 2 ^ n - (x + 1) by omega] at hI
      (repeat' (first | ((with_reducible apply WD_id); first | (refine WD_sum ?_) | (refine WD_nxt htb (by exact rfl) ?_) | (refine WD_call (by exact rfl) ?_; first | (refine WD_c0 (belowN_m _ _ ?_) ?_; (exact hyp)) | (refine WD_c0 (size_m _ ?_) ?_; (exact hyp))) | (refine WD_f (by exact rfl) (by exact rfl) (by exact known) fun hb => ?_; rw [hb]; clear hb)) | (refine ct ?_) | (with_reducible apply WA_block)))
      refine ⟨x + 1, by omega, ⟨by omega, by omega, hI⟩, ?_⟩
      rw [show ((x + 1 : Nat) : Int) = (x : Int) + 1 from rfl]
      (exact LeV [])
  · have t4 : decide (x < 2 ^ n) = false := by simp; omega
    obtain rfl : x = 2 ^ n := by omega
    rw [Nat.sub_self, nxS] at hI
    by_cases he : popN s = n
    · have t5 : (((popN s : Nat) : Int) == (n : Int)) = true := by simp [he]
      have e : nextF s n = none := by unfold nextF; rw [hI]; simp [he]
      rw [e]
      (repeat' (first | ((with_reducible apply WD_id); first | (refine WD_sum ?_) | (refine WD_nxt htb (by exact rfl) ?_) | (refine WD_call (by exact rfl) ?_; first | (refine WD_c0 (belowN_m _ _ ?_) ?_; (exact hyp))) | (refine WD_f (by exact rfl) (by exact rfl) (by exact known) fun hb => ?_; rw [hb]; clear hb)) | (refine ct ?_) | (with_reducible apply WA_block)))
      exact gE (.inr rfl) rfl rfl trivial
    · have t5 : (((popN s : Nat) : Int) == (n : Int)) = false := by simp <;> omega
      have e : nextF s n = some (2 ^ (popN s + 1) - 1) := by unfold nextF; rw [hI]; simp [he]
      have hp3 : 2 ^ (popN s + 1) ≤ 2 ^ 10 := Nat.pow_le_pow_right (by decide) (by omega)
      have hp4 : 0 < 2 ^ (popN s + 1) := Nat.pow_pos (by decide)
      have hp61 : popN s + 1 ≤ 61 := by omega
      rw [e]
      (repeat' (first | ((with_reducible apply WD_id); first | (refine WD_sum ?_) | (refine WD_nxt htb (by exact rfl) ?_) | (refine WD_call (by exact rfl) ?_; first | (refine WD_c0 (belowN_m _ _ ?_) ?_; (exact hyp))) | (refine WD_eq (shlP_step rfl rfl rfl) ?_) | (refine WD_f (by exact rfl) (by exact rfl) (by exact known) fun hb => ?_; rw [hb]; clear hb)) | (refine ct ?_) | (with_reducible apply WA_block)))
      refine gE (.inr rfl) rfl ?_ trivial
      show AV.tup [vI (((2 ^ (popN s + 1) : Nat) : Int) - 1), vB true] = AV.tup [vI ((2 ^ (popN s + 1) - 1 : Nat) : Int), vB true]
      rw [show ((2 ^ (popN s + 1) - 1 : Nat) : Int) = ((2 ^ (popN s + 1) : Nat) : Int) - 1 by omega]
theorem fndN_eq (c : List Mb) {s : Nat} (hl : c.length ≤ 10) (hs : s < 2 ^ c.length) : fndN c s = if quoN c s = true ∧ (greatN c (andn (memN c) s)).1 ≠ 0 then (s, (greatN c (andn (memN c) s)).1) else match nextF s c.length with
    | none => (0, 0)
    | some t => fndN c t := by
  rw [fndN]
  split
  · rfl
  · cases h : nextF s c.length with
    | none => rfl
    | some t => simp only; rw [dif_pos (next_some hl hs h).2]
def muO : Option Nat → Nat
  | none => 0
  | some y => muN y + 2
def FndI (c : List Mb) : Option Nat → Prop
  | none => fndN c 0 = (0, 0)
  | some x => x < 2 ^ c.length ∧ fndN c 0 = fndN c x
theorem find_m (c : List Mb) (hc : OkC c) (size_m : ∀ (s : Nat) (hs : s < 1024), FnM Tryz.prog 178 [] [vI (s : Int)] (vI (popN s : Int)) []) :
    FnM Tryz.prog 63 [] [aCf c] (.tup [vI ((fndN c 0).1 : Int), vI ((fndN c 0).2 : Int)]) [] := by
  have hl := hc.len
  have h2 := two_le hl
  have hm := mem_lt hl
  have h3 : 0 < 2 ^ c.length := Nat.pow_pos (by decide)
  refine FnM.of htb Tryz.func63 rfl rfl rfl rfl rfl fun cx hN h0 => ?_
  (repeat' (first | ((with_reducible apply WD_id); first | (refine WD_nxt htb (by exact rfl) ?_)) | (refine ct ?_) | (with_reducible apply WA_block)))
  (refine WA_anyV (α := Option Nat) (fun x => muO x) (some 0) [5, 6] [] (fun x => [(5, vI (uhR x).1), (6, vB (uhR x).2)]) (fun x => []) (fun x => FndI c x) ?h0 ?_)
  case h0 => exact ⟨h3, rfl⟩
  rintro (_ | x) hI
  · have t1 : (uhR (none : Option Nat)).2 = false := rfl
    have hI : fndN c 0 = (0, 0) := hI
    rw [hI]
    (repeat' (first | ((with_reducible apply WD_id); first | (refine WD_nxt htb (by exact rfl) ?_)) | (refine ct ?_) | (with_reducible apply WA_block)))
    exact gE (.inr rfl) rfl rfl trivial
  obtain ⟨hx, hI⟩ : x < 2 ^ c.length ∧ fndN c 0 = fndN c x := hI
  have hx10 : x < 1024 := by omega
  have ha := andn_lt10 (b := x) hm
  have hg := great_lt c ha
  have t1 : (uhR (some x)).2 = true := rfl
  have nextS_m := nextSet_m x c.length hl hx size_m
  rw [fndN_eq c hl hx] at hI
  have hstep : ¬ (quoN c x = true ∧ (greatN c (andn (memN c) x)).1 ≠ 0) → FndI c (nextF x c.length) ∧ muO (nextF x c.length) < muO (some x) := fun h => by
    rw [if_neg h] at hI
    cases hn : nextF x c.length with
    | none => rw [hn] at hI; exact ⟨hI, by simp [muO]⟩
    | some t =>
      rw [hn] at hI
      have := next_some hl hx hn
      exact ⟨⟨this.1, hI⟩, by simp only [muO]; omega⟩
  cases hq : quoN c x with
  | false =>
    have t2 : (!quoN c x) = true := by rw [hq]; rfl
    obtain ⟨k1, k2⟩ := hstep (by simp [hq])
    (repeat' (first | ((with_reducible apply WD_id); first | (refine WD_nxt htb (by exact rfl) ?_) | (refine WD_call (by exact rfl) ?_; first | (refine WD_c0 (quo_m _ _ ?_ ?_) ?_; (exact hyp); (exact hyp)) | (refine WD_c0 (nextS_m) ?_))) | (refine ct ?_) | (with_reducible apply WA_block)))
    refine ⟨nextF x c.length, k2, k1, ?_⟩
    (exact LeV [])
  | true =>
    have t2 : (!quoN c x) = false := by rw [hq]; rfl
    by_cases hz : (greatN c (andn (memN c) x)).1 = 0
    · have t3 : (((greatN c (andn (memN c) x)).1 : Int) != 0) = false := by simp [hz]
      obtain ⟨k1, k2⟩ := hstep (by simp [hz])
      (repeat' (first | ((with_reducible apply WD_id); first | (refine WD_nxt htb (by exact rfl) ?_) | (refine WD_call (by exact rfl) ?_; first | (refine WD_c0 (quo_m _ _ ?_ ?_) ?_; (exact hyp); (exact hyp)) | (refine WD_c0 (mbsC_m _ ?_) ?_; (exact hyp)) | (refine WD_c0 (great_m _ _ ?_ ?_) ?_; (exact hyp); (exact hyp)) | (refine WD_c0 (nextS_m) ?_)) | (refine WD_eq (bnotN_step rfl rfl rfl) ?_)) | (refine ct ?_) | (with_reducible apply WA_block)))
      refine ⟨nextF x c.length, k2, k1, ?_⟩
      (exact LeV [])
    · have t3 : (((greatN c (andn (memN c) x)).1 : Int) != 0) = true := by simp [hz]
      rw [if_pos ⟨hq, hz⟩] at hI
      rw [hI]
      (repeat' (first | ((with_reducible apply WD_id); first | (refine WD_nxt htb (by exact rfl) ?_) | (refine WD_call (by exact rfl) ?_; first | (refine WD_c0 (quo_m _ _ ?_ ?_) ?_; (exact hyp); (exact hyp)) | (refine WD_c0 (mbsC_m _ ?_) ?_; (exact hyp)) | (refine WD_c0 (great_m _ _ ?_ ?_) ?_; (exact hyp); (exact hyp))) | (refine WD_eq (bnotN_step rfl rfl rfl) ?_)) | (refine ct ?_) | (with_reducible apply WA_block)))
      exact gE (.inr rfl) rfl rfl trivial
end Go.Proofs.YtdhogcklnehdhaaGreatDoor
