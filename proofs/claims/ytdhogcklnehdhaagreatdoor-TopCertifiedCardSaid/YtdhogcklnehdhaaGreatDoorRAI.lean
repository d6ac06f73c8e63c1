import Derived.Test.YtdhogcklnehdhaaGreatDoorRAH
import Derived.Test.YtdhogcklnehdhaaGreatDoorRAE
import Derived.Test.YtdhogcklnehdhaaGreatDoorRAA
namespace Go.Proofs.YtdhogcklnehdhaaGreatDoor
set_option linter.unusedSimpArgs false
set_option linter.unusedVariables false
set_option linter.unnecessarySimpa false
set_option linter.unusedSectionVars false
set_option maxRecDepth 100000
open Go Go.RowKit Go.Am Go.Proofs.Grow
theorem aTr_p (t : Tr) : aTr t = .agg [vI t.k, lI t.ns, .d (.rows 3 (t.is.map rTp))] := by
  show AV.agg [vI t.k, lI t.ns, .d (.rows 3 (t.is.map rTr))] = _
  rw [rTr_p]
theorem aTr_cast2 (k : Int) (m : List Nat) (is : List Tr) : aTr (.mk k (m.map fun x : Nat => (x : Int)) is) = .agg [vI k, lN m, .d (.rows 3 (is.map rTp))] := by
  rw [aTr_cast]
  show AV.agg [vI k, lN m, .d (.rows 3 (is.map rTr))] = _
  rw [rTr_p]
theorem tr2_m (s : Sc) (n : Nat) (hs : s.ok) (h1 : 1 ≤ n) (h2 : n ≤ 5) : FnM Tryz.prog 136 [(9000, tpB s)] [.ptr 9000 0, vI (n : Int), vI 2] (aTr (tr2F s n).1) [(9000, tpB (tr2F s n).2)] := by
  obtain ⟨ho1, ho2, ho3⟩ := ordF_spec hs h1
  unfold tr2F
  generalize hp : ordF s n = p at *
  obtain ⟨l, s1⟩ := p
  dsimp only at ho1 ho2 ho3 ⊢
  have hr := rgN_bd (s := s1) h1
  have hs2 := Sc.ok_x ho3 (n : Int)
  have rgA_m := tRg_m s1 n (if (5 : Int) < (n : Int) then 5 else (n : Int)) ho3 h1 (by omega) (by rw [if_neg (by omega)])
  have hrl : (l.take (rgN s1 n)).length = rgN s1 n := by rw [List.length_take]; omega
  generalize hrr : rgN s1 n = r at *
  have hlr : r ≤ (l.map rN).length := by rw [List.length_map]; omega
  generalize hsa : s1.x n = sa at *
  have hnb := sa.n_bd (k := 6) (by omega)
  have pkA_m := tP_m sa picks hs2 (by decide) (by decide)
  rw [show ((picks.length : Nat) : Int) = 6 from rfl] at pkA_m
  have hpb := pick_bd (k := (sa.n 6).toNat) (by omega)
  obtain ⟨i, hi⟩ : ∃ i : Nat, nth picks (sa.n 6).toNat = (i : Int) := ⟨(nth picks (sa.n 6).toNat).toNat, by omega⟩
  rw [hi] at pkA_m hpb ⊢
  rw [Int.toNat_natCast]
  have hs3 := Sc.ok_x hs2 6
  generalize hsb : sa.x 6 = sb at *
  refine FnM.of htb Tryz.func136 rfl rfl rfl rfl rfl fun cx hN h0 => ?_
  have tOX : FnM Tryz.prog 180 [(9000, tpB s)] [.ptr 9000 0, vI (n : Int)] (lN l) [(9000, tpB s1)] := by
    have := tO_m s n hs h1 (by omega)
    rw [hp] at this; exact this
  have tOX_m := tOX
  (repeat' (first | ((with_reducible apply WD_id); first | (refine WD_sum ?_) | (refine WD_nxt htb (by exact rfl) ?_) | (refine WD_call (by exact rfl) ?_; first | (refine WD_cM (tOX_m) ?_) | (refine WD_cM (rgA_m) ?_)) | (refine WD_idx htb ?_) | (refine WD_ap htb ?_) | (refine WD_slc htb ?_) | (refine WD_t (by exact rfl) (by exact rfl) (by exact known) fun hb => ?_; rw [hb]; clear hb) | (refine WD_f (by exact rfl) (by exact rfl) (by exact known) fun hb => ?_; rw [hb]; clear hb)) | (refine ct ?_) | (with_reducible apply WA_block)))
  rw [show List.drop 0 (List.take r (List.map rN l)) = (l.take r).map rN by rw [List.drop_zero, List.map_take], List.length_map]
  refine WA_le (Le_nilM 60 7 1 3 1 rfl rfl rfl rfl) ?_
  refine WA_le (Le_nilM 61 7 2 45 3 rfl rfl rfl rfl) ?_
  generalize hm : l.take r = m at *
  (refine WA_forV (m.length) [22] [7, 60, 61, 9000] (fun k => [(22, vI k)]) (fun k => [(9000, tpB sa), (7, .box 45 [vI 0, .own 60, .own 61]), (60, .arr 3 1 ((m.take k).map rN)), (61, .arr 45 3 [])]) (fun k => True) ?h0 ?_)
  case h0 => trivial
  intro k hk _
  have hlk : (m.take k).length ≤ k := by rw [List.length_take]; omega
  rcases Nat.lt_or_ge k m.length with hk' | hk'
  · have t1 : decide ((k : Int) < (m.length : Int)) = true := by simp; omega
    have hw : (m.take (k + 1)) = m.take k ++ [nth m k] := by rw [List.take_succ_eq_append_getElem hk', nth_getElem _ _ hk']
    (repeat' (first | ((with_reducible apply WD_id); first | (refine WD_sum ?_) | (refine WD_nxt htb (by exact rfl) ?_) | (refine WD_idx htb ?_) | (refine WD_ap htb ?_) | (refine WD_slc htb ?_) | (refine WD_t (by exact rfl) (by exact rfl) (by exact known) fun hb => ?_; rw [hb]; clear hb) | (refine WD_f (by exact rfl) (by exact rfl) (by exact known) fun hb => ?_; rw [hb]; clear hb)) | (refine ct ?_) | (with_reducible apply WA_block)))
    refine ⟨hk', trivial, ?_⟩
    rw [hw, List.map_append, List.map_cons, List.map_nil]
    (exact LeV [(60, 30)])
  have t1 : decide ((k : Int) < (m.length : Int)) = false := by simp; omega
  have e1 : m.take k = m := take_all hk'
  rw [e1]
  have hml : (m.map rN).length ≤ 10 := by rw [List.length_map]; omega
  (repeat' (first | ((with_reducible apply WD_id); first | (refine WD_sum ?_) | (refine WD_nxt htb (by exact rfl) ?_) | (refine WD_call (by exact rfl) ?_; first | (refine WD_cM (pkA_m) ?_)) | (refine WD_idx htb ?_) | (refine WD_ap htb ?_) | (refine WD_slc htb ?_) | (refine WD_t (by exact rfl) (by exact rfl) (by exact known) fun hb => ?_; rw [hb]; clear hb) | (refine WD_f (by exact rfl) (by exact rfl) (by exact known) fun hb => ?_; rw [hb]; clear hb)) | (refine ct ?_) | (with_reducible apply WA_block)))
  (refine WA_anyV (α := Nat × Sc × List Tr) (fun x => x.1) ((i, sb, [])) [11] [9000, 61] (fun x => [(11, vI ((x.1 : Nat) : Int))]) (fun x => [(9000, tpB x.2.1), (61, .arr 45 3 (x.2.2.map rTp))]) (fun x => x.1 ≤ 3 ∧ x.2.1.ok ∧ x.2.2.length + x.1 = i ∧ innF i sb n [] = innF x.1 x.2.1 n x.2.2) ?h0 ?_)
  case h0 => exact ⟨by omega, hs3, by simp, rfl⟩
  rintro ⟨j, s4, o⟩ ⟨hj, hs4, hol, hI⟩
  dsimp only at hj hs4 hol hI ⊢
  rw [hI]
  cases j with
  | succ j =>
    have t2 : decide (((j + 1 : Nat) : Int) > 0) = true := by simp <;> omega
    have tr1X_m := tr1_m s4 n hs4 h1 h2
    (repeat' (first | ((with_reducible apply WD_id); first | (refine WD_sum ?_) | (refine WD_nxt htb (by exact rfl) ?_) | (refine WD_call (by exact rfl) ?_; first | (refine WD_cM (tr1X_m) ?_)) | (refine WD_idx htb ?_) | (refine WD_ap htb ?_) | (refine WD_slc htb ?_) | (refine WD_t (by exact rfl) (by exact rfl) (by exact known) fun hb => ?_; rw [hb]; clear hb) | (refine WD_f (by exact rfl) (by exact rfl) (by exact known) fun hb => ?_; rw [hb]; clear hb)) | (refine ct ?_) | (with_reducible apply WA_block)))
    refine ⟨(j, (tr1F s4 n).2, o ++ [(tr1F s4 n).1]), by dsimp only; omega, ⟨by dsimp only; omega, (tr1_spec hs4 h1 h2).2.2, by simp; omega, rfl⟩, ?_⟩
    rw [List.map_append, List.map_cons, List.map_nil]
    (exact LeV [(61, 50)])
  | zero =>
    have t2 : decide (((0 : Nat) : Int) > 0) = false := by simp
    rw [show innF 0 s4 n o = (o, s4) from rfl]
    dsimp only
    have hom : (o.map rTp).length ≤ 10 := by rw [List.length_map]; omega
    by_cases ho : o.length = 0
    · rw [if_pos ho]
      have t3 : decide (((o.map rTp).length : Int) > 0) = false := by simp only [decide_eq_false_iff_not, List.length_map]; omega
      have hra := rgN_bd (s := s4) (b := r) hr.1
      have rgC_m := tRg_m s4 r ((((m.map rN).length : Nat) : Int) + (((o.map rTp).length : Nat) : Int)) hs4 hr.1 (by omega) (by simp; omega)
      (repeat' (first | ((with_reducible apply WD_id); first | (refine WD_sum ?_) | (refine WD_nxt htb (by exact rfl) ?_) | (refine WD_call (by exact rfl) ?_; first | (refine WD_cM (rgC_m) ?_)) | (refine WD_idx htb ?_) | (refine WD_ap htb ?_) | (refine WD_slc htb ?_) | (refine WD_t (by exact rfl) (by exact rfl) (by exact known) fun hb => ?_; rw [hb]; clear hb) | (refine WD_f (by exact rfl) (by exact rfl) (by exact known) fun hb => ?_; rw [hb]; clear hb)) | (refine ct ?_) | (with_reducible apply WA_block)))
      obtain rfl : o = [] := List.eq_nil_of_length_eq_zero ho
      rw [aTr_cast]
      (exact glV [(6, .ptr 6 0)] [(6, .box 45 [vI ((rgN s4 r : Nat) : Int), lN m, .d (.rows 3 [])]), (9000, tpB (s4.x r))] (LeV []))
    · rw [if_neg ho]
      have t3 : decide (((o.map rTp).length : Int) > 0) = true := by simp only [decide_eq_true_eq, List.length_map]; omega
      have hb3 := s4.n_bd (k := 3) (by omega)
      have nnA_m := tN_m s4 3 hs4 (by omega) (by omega)
      have hs5 := Sc.ok_x hs4 3
      by_cases hz : s4.n 3 = 0
      · rw [if_pos hz]
        have t4 : (s4.n 3 == 0) = true := by simpa using hz
        have rgC_m := tRg_m (s4.x 3) o.length (0 + (((o.map rTp).length : Nat) : Int)) hs5 (by omega) (by omega) (by simp)
        (repeat' (first | ((with_reducible apply WD_id); first | (refine WD_sum ?_) | (refine WD_nxt htb (by exact rfl) ?_) | (refine WD_call (by exact rfl) ?_; first | (refine WD_cM (nnA_m) ?_) | (refine WD_cM (rgC_m) ?_)) | (refine WD_idx htb ?_) | (refine WD_ap htb ?_) | (refine WD_slc htb ?_) | (refine WD_t (by exact rfl) (by exact rfl) (by exact known) fun hb => ?_; rw [hb]; clear hb) | (refine WD_f (by exact rfl) (by exact rfl) (by exact known) fun hb => ?_; rw [hb]; clear hb)) | (refine ct ?_) | (with_reducible apply WA_block)))
        rw [aTr_p]
        (exact glV [(6, .ptr 6 0)] [(6, .box 45 [vI ((rgN (s4.x 3) o.length : Nat) : Int), .d (.rows 1 []), .d (.rows 3 (o.map rTp))]), (9000, tpB ((s4.x 3).x o.length))] (LeV []))
      · rw [if_neg hz]
        have t4 : (s4.n 3 == 0) = false := by simpa using hz
        have rgC_m := tRg_m (s4.x 3) (r + o.length) ((((m.map rN).length : Nat) : Int) + (((o.map rTp).length : Nat) : Int)) hs5 (by omega) (by omega) (by simp; omega)
        (repeat' (first | ((with_reducible apply WD_id); first | (refine WD_sum ?_) | (refine WD_nxt htb (by exact rfl) ?_) | (refine WD_call (by exact rfl) ?_; first | (refine WD_cM (nnA_m) ?_) | (refine WD_cM (rgC_m) ?_)) | (refine WD_idx htb ?_) | (refine WD_ap htb ?_) | (refine WD_slc htb ?_) | (refine WD_t (by exact rfl) (by exact rfl) (by exact known) fun hb => ?_; rw [hb]; clear hb) | (refine WD_f (by exact rfl) (by exact rfl) (by exact known) fun hb => ?_; rw [hb]; clear hb)) | (refine ct ?_) | (with_reducible apply WA_block)))
        rw [aTr_cast2]
        (exact glV [(6, .ptr 6 0)] [(6, .box 45 [vI ((rgN (s4.x 3) (r + o.length) : Nat) : Int), lN m, .d (.rows 3 (o.map rTp))]), (9000, tpB ((s4.x 3).x (r + o.length : Nat)))] (LeV []))
end Go.Proofs.YtdhogcklnehdhaaGreatDoor
/- Plain facts: trusts that fit a configuration. No program stands here. -/
namespace Go.Proofs.YtdhogcklnehdhaaGreatDoor
set_option linter.unusedSimpArgs false
set_option linter.unusedVariables false
set_option linter.unnecessarySimpa false
set_option linter.unusedSectionVars false
set_option maxRecDepth 100000
open Go Go.RowKit Go.Am Go.Proofs.Grow
mutual
theorem lev_kb : ∀ t : Tr, levT t = 0 → (kbT t : Int) ≤ sizT t
  | .mk k ns is, h => by
    simp only [levT] at h
    split at h
    · omega
    rename_i h1
    split at h
    · omega
    split at h
    · rename_i h2; exact absurd h h2
    have h3 := lev_kbL is ((ns.length : Int) + (is.length : Int)) (by omega) h
    have h4 := sizL_nn is ((ns.length : Int) + (is.length : Int))
    simp only [kbT, sizT]
    omega
theorem lev_kbL : ∀ (l : List Tr) (a : Int), 0 ≤ a → levL l = 0 → (kbL l : Int) ≤ sizL l a
  | [], a, ha, _ => by simp only [kbL, sizL]; omega
  | t :: r, a, ha, h => by
    simp only [levL] at h
    split at h
    · rename_i h1; exact absurd h h1
    rename_i h1
    have h2 := lev_kb t (by omega)
    have h3 := siz_nn t
    have h4 := lev_kbL r (a + sizT t) (by omega) h
    have h5 := sizL_nn r (a + sizT t)
    simp only [kbL, sizL]
    omega
end
/-- A right trust that fits n nodes. -/
structure FitT (n : Nat) (t : Tr) : Prop where
  chk : chkT t = 0
  use : useT t < ((2 ^ n : Nat) : Int)
theorem chk_lev {t : Tr} (h : chkT t = 0) : sizT t ≤ 200 ∧ levT t = 0 := by
  unfold chkT at h
  split at h
  · omega
  · exact ⟨by omega, h⟩
theorem FitT.siz {n : Nat} {t : Tr} (h : FitT n t) : sizT t ≤ 200 := (chk_lev h.chk).1
theorem FitT.kb {n : Nat} {t : Tr} (h : FitT n t) : kbT t ≤ 200 := by
  have := lev_kb t (chk_lev h.chk).2
  have := h.siz
  omega
theorem or_ltn {a b n : Nat} (ha : a < 2 ^ n) (hb : b < 2 ^ n) : a ||| b < 2 ^ n := Nat.or_lt_two_pow ha hb
theorem useI_lt {n : Nat} (hn : n ≤ 10) : ∀ (l : List Int) (a : Nat), (∀ x ∈ l, 0 ≤ x ∧ x < (n : Int)) → a < 2 ^ n → ∃ b : Nat, useI l (a : Int) = (b : Int) ∧ b < 2 ^ n
  | [], a, _, ha => ⟨a, rfl, ha⟩
  | x :: r, a, h, ha => by
    have hx := h x (by simp)
    have h2 := two_le hn
    obtain ⟨k, rfl⟩ : ∃ k : Nat, x = (k : Int) := ⟨x.toNat, by omega⟩
    have hk : k < n := by omega
    have hp : 2 ^ k < 2 ^ n := Nat.pow_lt_pow_right (by decide) hk
    have h1 : nodeB (k : Int) = true := by simp [nodeB]; omega
    rw [useI, if_pos h1, shl_nat (by omega), bor_nat (by omega) (by omega)]
    exact useI_lt hn r _ (fun y hy => h y (by simp [hy])) (or_ltn ha hp)
theorem useL_lt {n : Nat} (hn : n ≤ 10) : ∀ (l : List Tr) (a : Nat), (∀ x ∈ l, ∃ b : Nat, useT x = (b : Int) ∧ b < 2 ^ n) → a < 2 ^ n → ∃ b : Nat, useL l (a : Int) = (b : Int) ∧ b < 2 ^ n
  | [], a, _, ha => ⟨a, rfl, ha⟩
  | x :: r, a, h, ha => by
    obtain ⟨b, hb, hl⟩ := h x (by simp)
    have h2 := two_le hn
    rw [useL, hb, bor_nat (by omega) (by omega)]
    exact useL_lt hn r _ (fun y hy => h y (by simp [hy])) (or_ltn ha hl)
theorem useT_leaf {n : Nat} (hn : n ≤ 10) {t : Tr} (hi : t.is = []) (h : ∀ x ∈ t.ns, 0 ≤ x ∧ x < (n : Int)) : ∃ b : Nat, useT t = (b : Int) ∧ b < 2 ^ n := by
  cases t with
  | mk k ns is =>
    obtain rfl : is = [] := hi
    obtain ⟨b, hb, hl⟩ := useI_lt hn ns 0 h (Nat.pow_pos (by decide))
    exact ⟨b, by simp only [useT, useL]; exact hb, hl⟩
theorem GoodT.use {n : Nat} (hn : n ≤ 10) {t : Tr} (h : GoodT n t) : ∃ b : Nat, useT t = (b : Int) ∧ b < 2 ^ n := by
  obtain ⟨g1, g2, g3, g4⟩ := h
  cases t with
  | mk k ns is =>
    obtain ⟨b, hb, hl⟩ := useI_lt hn ns 0 g1 (Nat.pow_pos (by decide))
    obtain ⟨c, hc, hl2⟩ := useL_lt hn is b (fun x hx => useT_leaf hn (g4 x hx).1 (g4 x hx).2.2) hl
    refine ⟨c, ?_, hl2⟩
    simp only [useT]
    rw [show (0 : Int) = ((0 : Nat) : Int) from rfl, hb, hc]
theorem siz_leaf {t : Tr} (hi : t.is = []) : sizT t = t.ns.length := by
  cases t with
  | mk k ns is => obtain rfl : is = [] := hi; simp [sizT, sizL, Tr.ns]
theorem sizL_leaf : ∀ (l : List Tr) (a : Int), (∀ y ∈ l, y.is = [] ∧ y.ns.length ≤ 5) → sizL l a ≤ a + 5 * (l.length : Int)
  | [], a, _ => by simp [sizL]
  | t :: r, a, h => by
    have h1 := h t (by simp)
    have h2 := siz_leaf h1.1
    have h3 := sizL_leaf r (a + sizT t) (fun y hy => h y (by simp [hy]))
    simp only [sizL, List.length_cons]
    omega
theorem GoodT.siz {n : Nat} {t : Tr} (h : GoodT n t) : sizT t ≤ 200 := by
  obtain ⟨g1, g2, g3, g4⟩ := h
  cases t with
  | mk k ns is =>
    have := sizL_leaf is ((ns.length : Int) + (is.length : Int)) (fun y hy => ⟨(g4 y hy).1, (g4 y hy).2.1⟩)
    simp only [Tr.ns, Tr.is] at g2 g3
    simp only [sizT]
    omega
theorem dep_leaf {t : Tr} (hi : t.is = []) : depT t = 1 := by
  cases t with
  | mk k ns is => obtain rfl : is = [] := hi; simp [depT, depL]
theorem depL_leaf : ∀ (l : List Tr) (a : Int), (∀ y ∈ l, y.is = []) → a ≤ 1 → depL l a ≤ 1
  | [], a, _, h => by simpa [depL] using h
  | t :: r, a, h, ha => by
    simp only [depL]
    refine depL_leaf r _ (fun y hy => h y (by simp [hy])) ?_
    rw [dep_leaf (h t (by simp))]
    unfold mxI; split <;> omega
theorem GoodT.fit {n : Nat} (hn : n ≤ 10) {t : Tr} (h : GoodT n t) (hc : chkT t = 0) : FitT n t := by
  obtain ⟨b, hb, hl⟩ := h.use hn
  exact ⟨hc, by omega⟩
theorem ofI_nodup : ∀ (l : List Nat) (a : Nat), a < 1024 → (∀ x ∈ l, x < 10 ∧ a.testBit x = false) → l.Nodup → (ofI (l.map fun x : Nat => (x : Int)) (a : Int)).2 = 0
  | [], a, _, _, _ => rfl
  | x :: r, a, ha, h, hd => by
    have hx := h x (by simp)
    have hp := pow_lt hx.1
    obtain ⟨hd1, hd2⟩ := List.nodup_cons.1 hd
    have h1 : nodeB (x : Int) = true := by simp [nodeB]; omega
    have h2 : hasB (a : Int) (x : Int) = false := by rw [has_nat ha hx.1]; exact hx.2
    rw [List.map_cons, ofI, if_neg (by rw [h1]; simp), if_neg (by rw [h2]; simp), shl_nat (by omega), bor_nat (by omega) (by omega)]
    refine ofI_nodup r _ (or_lt10 ha hp) (fun y hy => ⟨(h y (by simp [hy])).1, ?_⟩) hd2
    rw [Nat.testBit_or, (h y (by simp [hy])).2, Nat.testBit_two_pow_of_ne (fun e => hd1 (by rw [e]; exact hy))]
    rfl
theorem idx_no {l : List Int} (h : ∀ x ∈ l, nodeB x = true) : ∀ k, idxF (fun k => !nodeB k) k l = -1 := by
  induction l with
  | nil => intro k; rfl
  | cons x r ih =>
    intro k
    rw [idxF, if_neg (by rw [h x (by simp)]; simp)]
    exact ih (fun y hy => h y (by simp [hy])) _
/-- The first tests of a level. -/
theorem lev_eq (k : Nat) (l : List Nat) (is : List Tr) (h1 : 1 ≤ k) (h2 : k ≤ l.length + is.length) (hl : ∀ x ∈ l, x < 10) (hd : l.Nodup) : levT (.mk (k : Int) (l.map fun x : Nat => (x : Int)) is) = levL is := by
  have e := idx_no (l := l.map fun x : Nat => (x : Int)) (fun x hx => by
    obtain ⟨y, hy, rfl⟩ := List.mem_map.1 hx
    have := hl y hy
    simp [nodeB]; omega) 0
  have e2 := ofI_nodup l 0 (by decide) (fun x hx => ⟨hl x hx, Nat.zero_testBit _⟩) hd
  rw [show ((0 : Nat) : Int) = 0 from rfl] at e2
  simp only [levT]
  rw [if_neg (by rw [List.length_map]; omega), if_neg (by rw [e]; decide), if_neg (by rw [e2]; simp)]
theorem levL_all : ∀ {l : List Tr}, (∀ y ∈ l, levT y = 0) → levL l = 0
  | [], _ => rfl
  | t :: r, h => by
    rw [levL, if_neg (by rw [h t (by simp)]; simp)]
    exact levL_all fun y hy => h y (by simp [hy])
/-- Trusts of one or two levels with right thresholds. -/
theorem good_chk {n : Nat} {t : Tr} (h : GoodT n t) (hl : levT t = 0) : chkT t = 0 := by
  have h1 := h.siz
  have h2 : depT t ≤ 2 := by
    obtain ⟨g1, g2, g3, g4⟩ := h
    cases t with
    | mk k ns is =>
      have := depL_leaf is 0 (fun y hy => (g4 y hy).1) (by omega)
      simp only [depT]; omega
  unfold chkT
  rw [if_neg (by omega)]; exact hl
/-- A trust in some nodes. -/
theorem leaf_good {n k : Nat} {l : List Nat} (hn : n ≤ 10) (h5 : l.length ≤ 5) (hl : ∀ x ∈ l, x < n) (hd : l.Nodup) (h1 : 1 ≤ k) (h2 : k ≤ l.length) :
    GoodT n (.mk (k : Int) (l.map fun x : Nat => (x : Int)) []) ∧ levT (.mk (k : Int) (l.map fun x : Nat => (x : Int)) []) = 0 := by
  refine ⟨⟨fun x hx => ?_, by simpa [Tr.ns] using h5, by simp [Tr.is], fun y hy => by simp [Tr.is] at hy⟩, ?_⟩
  · obtain ⟨y, hy, rfl⟩ := List.mem_map.1 hx
    have := hl y hy
    omega
  · rw [lev_eq k l [] h1 (by simpa using h2) (fun x hx => by have := hl x hx; omega) hd]
    rfl
theorem leaf_fit {n k : Nat} {l : List Nat} (hn : n ≤ 10) (h5 : l.length ≤ 5) (hl : ∀ x ∈ l, x < n) (hd : l.Nodup) (h1 : 1 ≤ k) (h2 : k ≤ l.length) : FitT n (.mk (k : Int) (l.map fun x : Nat => (x : Int)) []) := by
  obtain ⟨g, e⟩ := leaf_good hn h5 hl hd h1 h2
  exact g.fit hn (good_chk g e)
theorem one_fit {n : Nat} (hn : n ≤ 10) {x : Int} (h : 0 ≤ x ∧ x < (n : Int)) : FitT n (.mk 1 [x] []) := by
  have := leaf_fit (k := 1) (l := [x.toNat]) hn (by simp) (by simp; omega) (by simp) (by omega) (by simp)
  rw [show List.map (fun x : Nat => (x : Int)) [x.toNat] = [x] by simp; omega] at this
  exact this
theorem tr2_good {s : Sc} {n : Nat} (hs : s.ok) (h1 : 1 ≤ n) (h2 : n ≤ 5) : GoodT n (tr2F s n).1 ∧ (tr2F s n).2.ok := by
  obtain ⟨ho1, ho2, ho3⟩ := ordF_spec hs h1
  unfold tr2F
  generalize ordF s n = p at *
  obtain ⟨l, s1⟩ := p
  dsimp only at ho1 ho2 ho3 ⊢
  have hs2 := Sc.ok_x ho3 (n : Int)
  generalize s1.x n = sa at *
  have hnb := sa.n_bd (k := 6) (by omega)
  have hpb := pick_bd (k := (sa.n 6).toNat) (by omega)
  generalize nth picks (sa.n 6).toNat = i at *
  obtain ⟨g1, g2, g3⟩ := inn_spec h1 h2 i.toNat (sa.x 6) [] (Sc.ok_x hs2 _) (fun y hy => by cases hy)
  generalize innF i.toNat (sa.x 6) n [] = q at *
  have gn : ∀ k, ∀ x ∈ (l.take k).map (fun x : Nat => (x : Int)), 0 ≤ x ∧ x < (n : Int) := fun k x hx => by
    obtain ⟨y, hy, rfl⟩ := List.mem_map.1 hx
    have := ho2 y (List.mem_of_mem_take hy)
    omega
  have gl : ∀ k, ((l.take k).map (fun x : Nat => (x : Int))).length ≤ 5 := fun k => by rw [List.length_map, List.length_take]; omega
  have g1' : q.1.length ≤ 3 := by simp at g1; omega
  split
  · exact ⟨⟨gn _, gl _, by simp [Tr.is], fun y hy => by simp [Tr.is] at hy⟩, Sc.ok_x g3 _⟩
  split
  · exact ⟨⟨fun x hx => by simp [Tr.ns] at hx, by simp [Tr.ns], g1', g2⟩, Sc.ok_x (Sc.ok_x g3 _) _⟩
  · exact ⟨⟨gn _, gl _, g1', g2⟩, Sc.ok_x (Sc.ok_x g3 _) _⟩
/-- A drawn trust. -/
def trF (s : Sc) (n : Nat) : Tr × Sc :=
  if chkT (tr2F s n).1 ≠ 0 then (.mk 1 [(tr2F s n).2.n n] [], (tr2F s n).2.x n) else tr2F s n
theorem trF_fit {s : Sc} {n : Nat} (hs : s.ok) (h1 : 1 ≤ n) (h2 : n ≤ 5) : FitT n (trF s n).1 ∧ (trF s n).2.ok := by
  obtain ⟨g, o⟩ := tr2_good hs h1 h2
  unfold trF
  generalize tr2F s n = q at *
  obtain ⟨t, s1⟩ := q
  dsimp only at g o ⊢
  have hb := s1.n_bd (k := n) (by omega)
  split
  · exact ⟨one_fit (by omega) (by omega), Sc.ok_x o _⟩
  · rename_i h; exact ⟨g.fit (by omega) (by omega), o⟩
end Go.Proofs.YtdhogcklnehdhaaGreatDoor
/- Contracts: drawn trusts, configurations and sets. -/
namespace Go.Proofs.YtdhogcklnehdhaaGreatDoor
set_option linter.unusedSimpArgs false
set_option linter.unusedVariables false
set_option linter.unnecessarySimpa false
set_option linter.unusedSectionVars false
set_option maxRecDepth 100000
open Go Go.RowKit Go.Am Go.Proofs.Grow
theorem tr_m (s : Sc) (n : Nat) (hs : s.ok) (h1 : 1 ≤ n) (h2 : n ≤ 5) : FnM Tryz.prog 77 [(9000, tpB s)] [.ptr 9000 0, vI (n : Int), vI 2] (aTr (trF s n).1) [(9000, tpB (trF s n).2)] := by
  obtain ⟨g, o⟩ := tr2_good hs h1 h2
  have tr2X_m := tr2_m s n hs h1 h2
  unfold trF
  generalize tr2F s n = q at *
  obtain ⟨t, s1⟩ := q
  dsimp only at g o tr2X_m ⊢
  have chkZ_m := chkR_m t (by have := g.siz; omega)
  have nnB_m := tN_m s1 n o (by omega) (by omega)
  refine FnM.of htb Tryz.func77 rfl rfl rfl rfl rfl fun cx hN h0 => ?_
  by_cases hc : chkT t ≠ 0
  · have t1 : (chkT t != 0) = true := by simpa using hc
    rw [if_pos hc]
    (repeat' (first | ((with_reducible apply WD_id); first | (refine WD_nxt htb (by exact rfl) ?_) | (refine WD_call (by exact rfl) ?_; first | (refine WD_cM (tr2X_m) ?_) | (refine WD_c0 (chkZ_m) ?_) | (refine WD_cM (nnB_m) ?_))) | (refine ct ?_) | (with_reducible apply WA_block)))
    (exact glV [(6, .ptr 6 0)] [(6, .box 45 (cellsOf (aTr (.mk 1 [s1.n n] [])))), (9000, tpB (s1.x n))] (LeV []))
  · have t1 : (chkT t != 0) = false := by simpa using hc
    rw [if_neg hc]
    (repeat' (first | ((with_reducible apply WD_id); first | (refine WD_nxt htb (by exact rfl) ?_) | (refine WD_call (by exact rfl) ?_; first | (refine WD_cM (tr2X_m) ?_) | (refine WD_c0 (chkZ_m) ?_) | (refine WD_cM (nnB_m) ?_))) | (refine ct ?_) | (with_reducible apply WA_block)))
    exact gE (.inr rfl) rfl rfl ⟨rfl, trivial⟩
/-- Most of the nodes. -/
def mosT (m : Nat) : Nat → Sc → List Nat × Sc
  | 0, s => ([], s)
  | k + 1, s => let q := mosT m k s; (if q.2.n 10 < 9 then q.1 ++ [k] else q.1, q.2.x 10)
def picks3 : List Int := [0, 0, 0, 1, -1]
def mosF (s : Sc) (m : Nat) : Tr × Sc :=
  let q := mosT m m s
  let l := if q.1.length = 0 then [0] else q.1
  let z : Int := (2 * (l.length : Int) + 2).tdiv 3 + nth picks3 (q.2.n 5).toNat
  let y : Int := if z > 1 then z else 1
  (.mk (if y < l.length then y else l.length) (l.map fun x : Nat => (x : Int)) [], q.2.x 5)
theorem mosT_spec (m : Nat) {s : Sc} (hs : s.ok) : ∀ k, (mosT m k s).1.length ≤ k ∧ (∀ x ∈ (mosT m k s).1, x < k) ∧ (mosT m k s).1.Nodup ∧ (mosT m k s).2.ok
  | 0 => ⟨by simp [mosT], by simp [mosT], by simp [mosT], hs⟩
  | k + 1 => by
    obtain ⟨h1, h2, h3, h4⟩ := mosT_spec m hs k
    have h5 := Sc.ok_x h4 10
    rw [mosT]
    dsimp only
    split
    · refine ⟨by simp; omega, fun x hx => ?_, ?_, h5⟩
      · rcases List.mem_append.1 hx with hx | hx
        · have := h2 x hx; omega
        · have : x = k := by simpa using hx
          omega
      · rw [List.nodup_append]
        exact ⟨h3, by simp, fun x hx y hy => by have := h2 x hx; simp at hy; omega⟩
    · exact ⟨by omega, fun x hx => by have := h2 x hx; omega, h3, h5⟩
theorem pick3_bd {k : Nat} (h : k < 5) : -1 ≤ nth picks3 k ∧ nth picks3 k ≤ 1 := by
  obtain rfl | rfl | rfl | rfl | rfl : k = 0 ∨ k = 1 ∨ k = 2 ∨ k = 3 ∨ k = 4 := by omega
  all_goals decide
theorem mosF_fit {s : Sc} {m : Nat} (hs : s.ok) (h1 : 1 ≤ m) (h5 : m ≤ 5) : FitT m (mosF s m).1 ∧ (mosF s m).2.ok := by
  obtain ⟨g1, g2, g3, g4⟩ := mosT_spec m hs m
  unfold mosF
  generalize mosT m m s = q at *
  obtain ⟨l0, s1⟩ := q
  dsimp only at g1 g2 g3 g4 ⊢
  refine ⟨?_, Sc.ok_x g4 _⟩
  have hl : (if l0.length = 0 then [0] else l0).length ≤ 5 ∧ (∀ x ∈ (if l0.length = 0 then [0] else l0), x < m) ∧ (if l0.length = 0 then [0] else l0).Nodup ∧ 1 ≤ (if l0.length = 0 then [0] else l0).length := by
    split
    · exact ⟨by simp, by simp; omega, by simp, by simp⟩
    · exact ⟨by omega, g2, g3, by omega⟩
  generalize (if l0.length = 0 then [0] else l0) = l at *
  generalize (2 * (l.length : Int) + 2).tdiv 3 + nth picks3 (s1.n 5).toNat = z
  have e : (if (if z > 1 then z else 1) < (l.length : Int) then (if z > 1 then z else 1) else (l.length : Int)) = (((if (if z > 1 then z else 1) < (l.length : Int) then (if z > 1 then z else 1) else (l.length : Int)).toNat : Nat) : Int) := by
    split <;> split <;> omega
  rw [e]
  refine leaf_fit (by omega) hl.1 hl.2.1 hl.2.2.1 ?_ ?_
  · split <;> split <;> omega
  · split <;> split <;> omega
theorem mos_m (s : Sc) (m : Nat) (hs : s.ok) (h1 : 1 ≤ m) (h5 : m ≤ 5) : FnM Tryz.prog 78 [(9000, tpB s)] [.ptr 9000 0, vI (m : Int)] (aTr (mosF s m).1) [(9000, tpB (mosF s m).2)] := by
  unfold mosF
  refine FnM.of htb Tryz.func78 rfl rfl rfl rfl rfl fun cx hN h0 => ?_
  (repeat' (first | ((with_reducible apply WD_id); first | (refine WD_sum ?_) | (refine WD_nxt htb (by exact rfl) ?_) | (refine WD_ap htb ?_) | (refine WD_quo ?_)) | (refine ct ?_) | (with_reducible apply WA_block)))
  refine WA_le (Le_nilM 60 5 1 3 1 rfl rfl rfl rfl) ?_
  (refine WA_forV (m) [6] [5, 60, 9000] (fun k => [(6, vI k)]) (fun k => [(9000, tpB (mosT m k s).2), (5, .box 45 [vI 0, .own 60, .d (.v (.slice none 0 0))]), (60, .arr 3 1 ((mosT m k s).1.map rN))]) (fun k => True) ?h0 ?_)
  case h0 => trivial
  intro k hk _
  obtain ⟨g1, g2, g3, g4⟩ := mosT_spec m hs k
  rcases Nat.lt_or_ge k m with hk' | hk'
  · have t1 : decide ((k : Int) < (m : Int)) = true := by simp; omega
    have hw : mosT m (k + 1) s = (if (mosT m k s).2.n 10 < 9 then (mosT m k s).1 ++ [k] else (mosT m k s).1, (mosT m k s).2.x 10) := rfl
    rw [hw]
    dsimp only
    generalize mosT m k s = q at *
    obtain ⟨l, s1⟩ := q
    dsimp only at g1 g2 g3 g4 ⊢
    have nnB_m := tN_m s1 10 g4 (by omega) (by omega)
    by_cases hx : s1.n 10 < 9
    · have t2 : decide (s1.n 10 < 9) = true := by simpa using hx
      rw [if_pos hx]
      have hll : (l.map rN).length ≤ 10 := by rw [List.length_map]; omega
      (repeat' (first | ((with_reducible apply WD_id); first | (refine WD_sum ?_) | (refine WD_nxt htb (by exact rfl) ?_) | (refine WD_call (by exact rfl) ?_; first | (refine WD_cM (nnB_m) ?_)) | (refine WD_ap htb ?_) | (refine WD_quo ?_)) | (refine ct ?_) | (with_reducible apply WA_block)))
      refine ⟨hk', trivial, ?_⟩
      rw [List.map_append, List.map_cons, List.map_nil]
      (exact LeV [(60, 20)])
    · have t2 : decide (s1.n 10 < 9) = false := by simpa using hx
      rw [if_neg hx]
      (repeat' (first | ((with_reducible apply WD_id); first | (refine WD_sum ?_) | (refine WD_nxt htb (by exact rfl) ?_) | (refine WD_call (by exact rfl) ?_; first | (refine WD_cM (nnB_m) ?_)) | (refine WD_ap htb ?_) | (refine WD_quo ?_)) | (refine ct ?_) | (with_reducible apply WA_block)))
      refine ⟨hk', trivial, ?_⟩
      (exact LeV [])
  have t1 : decide ((k : Int) < (m : Int)) = false := by simp; omega
  obtain rfl : k = m := by omega
  generalize mosT k k s = q at *
  obtain ⟨l, s1⟩ := q
  dsimp only at g1 g2 g3 g4 ⊢
  have hnb := s1.n_bd (k := 5) (by omega)
  have hpb := pick3_bd (k := (s1.n 5).toNat) (by omega)
  have pkB_m := tP_m s1 picks3 g4 (by decide) (by decide)
  rw [show ((picks3.length : Nat) : Int) = 5 from rfl] at pkB_m
  generalize nth picks3 (s1.n 5).toNat = i at *
  have td : ∀ x : Nat, x ≤ 5 → 0 ≤ (2 * (x : Int) + 2).tdiv 3 ∧ (2 * (x : Int) + 2).tdiv 3 ≤ 4 := fun x hx => by
    rw [Int.tdiv_eq_ediv_of_nonneg (by omega)]; omega
  have wd : ∀ x : Nat, x ≤ 5 → IntKind.i64.wrap (IntKind.i64.wrap ((2 * (x : Int) + 2).tdiv 3) + i) = (2 * (x : Int) + 2).tdiv 3 + i := fun x hx => by
    have := td x hx
    rw [IntWalk.i64_in ((2 * (x : Int) + 2).tdiv 3) (by omega)]
    exact IntWalk.i64_in _ (by omega)
  by_cases hz : l.length = 0
  · have t2 : ((l.length : Int) == 0) = true := by simp [hz]
    rw [if_pos hz]
    have l1 : (([[.v (.int .i64 0)]] : List (List D)).length : Int) = 1 := rfl
    have l2 := td ([[.v (.int .i64 0)]] : List (List D)).length (by decide)
    (repeat' (first | ((with_reducible apply WD_id); first | (refine WD_sum ?_) | (refine WD_nxt htb (by exact rfl) ?_) | (refine WD_call (by exact rfl) ?_; first | (refine WD_cM (pkB_m) ?_)) | (refine WD_ap htb ?_) | (refine WD_quo ?_)) | (refine ct ?_) | (with_reducible apply WA_block)))
    simp only [wd _ (show ([[.v (.int .i64 0)]] : List (List D)).length ≤ 5 by decide)]
    (exact glV [(4, .ptr 4 0)] [(4, .box 45 [vI (if (if (2 * ((([0] : List Nat).length : Nat) : Int) + 2).tdiv 3 + i > 1 then (2 * ((([0] : List Nat).length : Nat) : Int) + 2).tdiv 3 + i else 1) < ((([0] : List Nat).length : Nat) : Int) then (if (2 * ((([0] : List Nat).length : Nat) : Int) + 2).tdiv 3 + i > 1 then (2 * ((([0] : List Nat).length : Nat) : Int) + 2).tdiv 3 + i else 1) else ((([0] : List Nat).length : Nat) : Int)), lN [0], .d (.rows 3 [])]), (9000, tpB (s1.x 5))] (LeV []))
  · have t2 : ((l.length : Int) == 0) = false := by rw [beq_eq_false_iff_ne]; omega
    rw [if_neg hz]
    have hll : (l.map rN).length ≤ 10 := by rw [List.length_map]; omega
    have l2 := td l.length (by omega)
    (repeat' (first | ((with_reducible apply WD_id); first | (refine WD_sum ?_) | (refine WD_nxt htb (by exact rfl) ?_) | (refine WD_call (by exact rfl) ?_; first | (refine WD_cM (pkB_m) ?_)) | (refine WD_ap htb ?_) | (refine WD_quo ?_)) | (refine ct ?_) | (with_reducible apply WA_block)))
    simp only [wd l.length (by omega)]
    rw [aTr_cast]
    (exact glV [(4, .ptr 4 0)] [(4, .box 45 [vI (if (if (2 * ((l.length : Nat) : Int) + 2).tdiv 3 + i > 1 then (2 * ((l.length : Nat) : Int) + 2).tdiv 3 + i else 1) < ((l.length : Nat) : Int) then (if (2 * ((l.length : Nat) : Int) + 2).tdiv 3 + i > 1 then (2 * ((l.length : Nat) : Int) + 2).tdiv 3 + i else 1) else ((l.length : Nat) : Int)), lN l, .d (.rows 3 [])]), (9000, tpB (s1.x 5))] (LeV []))
end Go.Proofs.YtdhogcklnehdhaaGreatDoor
/- Contracts: groups, configurations and sets. -/
namespace Go.Proofs.YtdhogcklnehdhaaGreatDoor
set_option linter.unusedSimpArgs false
set_option linter.unusedVariables false
set_option linter.unnecessarySimpa false
set_option linter.unusedSectionVars false
set_option maxRecDepth 100000
open Go Go.RowKit Go.Am Go.Proofs.Grow
/-- The nodes of a group. -/
def gA (m : Nat) : Nat → Nat → List Nat → List Nat
  | 0, _, o => o
  | f + 1, i, o => if i < m then gA m f (i + 3) (o ++ [i]) else o
def grN (m g : Nat) : List Nat := gA m 3 g []
theorem grN_spec {m g : Nat} (h1 : 1 ≤ m) (h5 : m ≤ 5) (hg : g < 3) : (grN m g).length ≤ 2 ∧ (∀ x ∈ grN m g, x < m) ∧ (grN m g).Nodup ∧ (g = 0 → 1 ≤ (grN m g).length) := by
  obtain rfl | rfl | rfl | rfl | rfl : m = 1 ∨ m = 2 ∨ m = 3 ∨ m = 4 ∨ m = 5 := by omega
  all_goals (obtain rfl | rfl | rfl : g = 0 ∨ g = 1 ∨ g = 2 := by omega)
  all_goals decide
/-- The groups. -/
def grT (m : Nat) : Nat → Sc → List Tr × Sc
  | 0, s => ([], s)
  | g + 1, s => let q := grT m g s; if (grN m g).length = 0 then q else (q.1 ++ [.mk ((rgN q.2 (grN m g).length : Nat) : Int) ((grN m g).map fun x : Nat => (x : Int)) []], q.2.x (grN m g).length)
def lwN (n : Nat) : Nat := if n = 3 then 2 else 1
def groF (s : Sc) (m k : Nat) : Tr × Sc :=
  let q := grT m 3 s
  let n := q.1.length
  let s2 := q.2.x 4
  if q.2.n 4 = 0 then (nth q.1 (k % n), s2)
  else (.mk ((lwN n : Int) + s2.n ((n : Int) - lwN n + 1)) [] q.1, s2.x ((n : Int) - lwN n + 1))
theorem grT_spec {m : Nat} {s : Sc} (h1 : 1 ≤ m) (h5 : m ≤ 5) (hs : s.ok) : ∀ g, g ≤ 3 → (grT m g s).1.length ≤ g ∧ (1 ≤ g → 1 ≤ (grT m g s).1.length) ∧
    (∀ y ∈ (grT m g s).1, GoodT m y ∧ levT y = 0 ∧ y.is = []) ∧ (grT m g s).2.ok
  | 0, _ => ⟨by simp [grT], by omega, by simp [grT], hs⟩
  | g + 1, hg => by
    obtain ⟨g1, g2, g3, g4⟩ := grT_spec h1 h5 hs g (by omega)
    obtain ⟨n1, n2, n3, n4⟩ := grN_spec h1 h5 (g := g) (by omega)
    rw [grT]
    split
    · rename_i h
      exact ⟨by omega, fun _ => by
        rcases Nat.eq_zero_or_pos g with h0 | h0
        · have := n4 h0; omega
        · exact g2 h0, g3, g4⟩
    · rename_i h
      have hr := rgN_bd (s := (grT m g s).2) (b := (grN m g).length) (by omega)
      have hl := leaf_good (n := m) (k := rgN (grT m g s).2 (grN m g).length) (by omega) (by omega) n2 n3 hr.1 hr.2
      refine ⟨by simp; omega, fun _ => by simp, fun y hy => ?_, Sc.ok_x g4 _⟩
      rcases List.mem_append.1 hy with hy | hy
      · exact g3 y hy
      · obtain rfl := List.mem_singleton.1 hy
        exact ⟨hl.1, hl.2, rfl⟩
theorem groF_fit {s : Sc} {m k : Nat} (hs : s.ok) (h1 : 1 ≤ m) (h5 : m ≤ 5) : FitT m (groF s m k).1 ∧ (groF s m k).2.ok := by
  obtain ⟨g1, g2, g3, g4⟩ := grT_spec (s := s) h1 h5 hs 3 (by omega)
  unfold groF
  generalize grT m 3 s = q at *
  obtain ⟨l, s1⟩ := q
  dsimp only at g1 g2 g3 g4 ⊢
  have hl := g2 (by omega)
  split
  · have hm := g3 _ (nth_mem l (k % l.length) (Nat.mod_lt _ (by omega)))
    exact ⟨hm.1.fit (by omega) (good_chk hm.1 hm.2.1), Sc.ok_x g4 _⟩
  · have hw : lwN l.length ≤ l.length ∧ 1 ≤ lwN l.length := by unfold lwN; split <;> omega
    have hb := (s1.x 4).n_bd (k := (l.length : Int) - lwN l.length + 1) (by omega)
    generalize (s1.x 4).n ((l.length : Int) - lwN l.length + 1) = z at *
    obtain ⟨j, rfl⟩ : ∃ j : Nat, z = (j : Int) := ⟨z.toNat, by omega⟩
    have hg : GoodT m (.mk ((lwN l.length : Int) + (j : Int)) [] l) := ⟨fun x hx => by simp [Tr.ns] at hx, by simp [Tr.ns], by simpa [Tr.is] using g1, fun y hy => ⟨(g3 y hy).2.2, (g3 y hy).1.nl, (g3 y hy).1.ns⟩⟩
    refine ⟨hg.fit (by omega) (good_chk hg ?_), Sc.ok_x (Sc.ok_x g4 _) _⟩
    have e := lev_eq (lwN l.length + j) [] l (by omega) (by simp; omega) (by simp) (by simp)
    rw [List.map_nil, show (((lwN l.length + j : Nat)) : Int) = (lwN l.length : Int) + (j : Int) by omega] at e
    rw [e]
    exact levL_all fun y hy => (g3 y hy).2.1
theorem gro_m (s : Sc) (m k0 : Nat) (hs : s.ok) (h1 : 1 ≤ m) (h5 : m ≤ 5) (hk0 : k0 ≤ 10) : FnM Tryz.prog 79 [(9000, tpB s)] [.ptr 9000 0, vI (m : Int), vI (k0 : Int)] (aTr (groF s m k0).1) [(9000, tpB (groF s m k0).2)] := by
  unfold groF
  refine FnM.of htb Tryz.func79 rfl rfl rfl rfl rfl fun cx hN h0 => ?_
  (repeat' (first | ((with_reducible apply WD_id); first | (refine WD_sum ?_) | (refine WD_nxt htb (by exact rfl) ?_) | (refine WD_idxo htb ?_) | (refine WD_lde htb ?_) | (refine WD_ap htb ?_) | (refine WD_rem ?_)) | (refine ct ?_) | (with_reducible apply WA_block)))
  refine WA_le (Le_nilT 61 7 45 3 rfl rfl) ?_
  (refine WA_forV (3) [8, 7] [61, 9000] (fun k => [(8, vI k), (7, .own 61)]) (fun k => [(9000, tpB (grT m k s).2), (61, .arr 45 3 ((grT m k s).1.map rTp))]) (fun k => True) ?h0 ?_)
  case h0 => trivial
  intro g hg _
  obtain ⟨g1, g2, g3, g4⟩ := grT_spec (s := s) h1 h5 hs g hg
  rcases Nat.lt_or_ge g 3 with hg' | hg'
  · have t1 : decide ((g : Int) < 3) = true := by simp; omega
    obtain ⟨n1, n2, n3, n4⟩ := grN_spec h1 h5 (g := g) hg'
    have hw : grT m (g + 1) s = if (grN m g).length = 0 then grT m g s else ((grT m g s).1 ++ [.mk ((rgN (grT m g s).2 (grN m g).length : Nat) : Int) ((grN m g).map fun x : Nat => (x : Int)) []], (grT m g s).2.x (grN m g).length) := rfl
    rw [hw]
    generalize grT m g s = q at *
    obtain ⟨l, s1⟩ := q
    dsimp only at g1 g2 g3 g4 ⊢
    (repeat' (first | ((with_reducible apply WD_id); first | (refine WD_sum ?_) | (refine WD_nxt htb (by exact rfl) ?_) | (refine WD_idxo htb ?_) | (refine WD_lde htb ?_) | (refine WD_ap htb ?_) | (refine WD_rem ?_)) | (refine ct ?_) | (with_reducible apply WA_block)))
    refine WA_le (Le_nilM 60 9 1 3 1 rfl rfl rfl rfl) ?_
    (refine WA_anyV (α := Nat × Nat × List Nat) (fun x => x.1) ((3, g, [])) [10] [9, 60] (fun x => [(10, vI ((x.2.1 : Nat) : Int))]) (fun x => [(9, .box 45 [vI 1, .own 60, .d (.v (.slice none 0 0))]), (60, .arr 3 1 (x.2.2.map rN))]) (fun x => x.1 ≤ 3 ∧ x.2.1 + 3 * x.1 ≥ 9 ∧ x.2.1 ≤ 20 ∧ x.2.2.length + x.1 ≤ 3 ∧ grN m g = gA m x.1 x.2.1 x.2.2) ?h0 ?_)
    case h0 => exact ⟨by dsimp only; omega, by dsimp only; omega, by dsimp only; omega, by simp, rfl⟩
    rintro ⟨f, i, o⟩ ⟨hf, hi1, hi2, ho, hI⟩
    dsimp only at hf hi1 hi2 ho hI ⊢
    rcases Nat.lt_or_ge i m with him | him
    · have t2 : decide ((i : Int) < (m : Int)) = true := by simp; omega
      cases f with
      | zero => omega
      | succ f =>
        rw [gA, if_pos him] at hI
        have hoo : (o.map rN).length ≤ 10 := by rw [List.length_map]; omega
        (repeat' (first | ((with_reducible apply WD_id); first | (refine WD_sum ?_) | (refine WD_nxt htb (by exact rfl) ?_) | (refine WD_idxo htb ?_) | (refine WD_lde htb ?_) | (refine WD_ap htb ?_) | (refine WD_rem ?_)) | (refine ct ?_) | (with_reducible apply WA_block)))
        refine ⟨(f, i + 3, o ++ [i]), by dsimp only; omega, ⟨by dsimp only; omega, by dsimp only; omega, by dsimp only; omega, by simp; omega, hI⟩, ?_⟩
        rw [List.map_append, List.map_cons, List.map_nil]
        (exact LeV [(60, 26)])
    · have t2 : decide ((i : Int) < (m : Int)) = false := by simp; omega
      obtain rfl : grN m g = o := by
        cases f with
        | zero => exact hI
        | succ f => rw [gA, if_neg (by omega)] at hI; exact hI
      refine WA_le (s' := ⟨[(10, vI (i : Int)), (9, .ptr 9 0), (8, vI (g : Int)), (7, .own 61), (6, .ptr 6 0), (0, .ptr 9000 0), (1, vI (m : Int)), (2, vI (k0 : Int))], [(9, .box 45 [vI 1, lN (grN m g), .d (.rows 3 [])]), (9000, tpB s1), (61, .arr 45 3 (l.map rTp)), (6, .box 45 [vI 0, .d (.v (.slice none 0 0)), .d (.v (.slice none 0 0))])]⟩) (LeV []) ?_
      generalize hgr : grN m g = ns at *
      have hns : (ns.map rN).length ≤ 10 := by rw [List.length_map]; omega
      have hll : (l.map rTp).length ≤ 10 := by rw [List.length_map]; omega
      by_cases hz : ns.length = 0
      · have t3 : decide ((ns.length : Int) > 0) = false := by simp only [decide_eq_false_iff_not]; omega
        rw [if_pos hz]
        (repeat' (first | ((with_reducible apply WD_id); first | (refine WD_sum ?_) | (refine WD_nxt htb (by exact rfl) ?_) | (refine WD_idxo htb ?_) | (refine WD_lde htb ?_) | (refine WD_ap htb ?_) | (refine WD_rem ?_)) | (refine ct ?_) | (with_reducible apply WA_block)))
        refine ⟨hg', trivial, ?_⟩
        (exact LeV [])
      · have t3 : decide ((ns.length : Int) > 0) = true := by simp only [decide_eq_true_eq]; omega
        rw [if_neg hz]
        have rgD_m := tRg_m s1 ns.length (((ns.map rN).length : Nat) : Int) g4 (by omega) (by omega) (by simp)
        (repeat' (first | ((with_reducible apply WD_id); first | (refine WD_sum ?_) | (refine WD_nxt htb (by exact rfl) ?_) | (refine WD_call (by exact rfl) ?_; first | (refine WD_cM (rgD_m) ?_)) | (refine WD_idxo htb ?_) | (refine WD_lde htb ?_) | (refine WD_ap htb ?_) | (refine WD_rem ?_)) | (refine ct ?_) | (with_reducible apply WA_block)))
        refine ⟨hg', trivial, ?_⟩
        rw [List.map_append, List.map_cons, List.map_nil, show rTp (.mk ((rgN s1 ns.length : Nat) : Int) (ns.map fun x : Nat => (x : Int)) []) = [dI ((rgN s1 ns.length : Nat) : Int), .rows 1 (ns.map rN), .rows 3 []] by rw [← castI]; rfl]
        (exact LeV [(61, 41)])
  · have t1 : decide ((g : Int) < 3) = false := by simp; omega
    obtain rfl : g = 3 := by omega
    generalize grT m 3 s = q at *
    obtain ⟨l, s1⟩ := q
    dsimp only at g1 g2 g3 g4 ⊢
    have hl := g2 (by omega)
    have hll : (l.map rTp).length ≤ 10 := by rw [List.length_map]; omega
    have nnC_m := tN_m s1 4 g4 (by omega) (by omega)
    have g5 := Sc.ok_x g4 4
    by_cases hz : s1.n 4 = 0
    · have t2 : (s1.n 4 == 0) = true := by simpa using hz
      rw [if_pos hz]
      have hmod : k0 % l.length < l.length := Nat.mod_lt _ (by omega)
      have e0 : (k0 : Int).tmod (l.length : Int) = ((k0 % l.length : Nat) : Int) := by
        rw [Int.tmod_eq_emod_of_nonneg (by omega)]; rfl
      (repeat' (first | ((with_reducible apply WD_id); first | (refine WD_sum ?_) | (refine WD_nxt htb (by exact rfl) ?_) | (refine WD_call (by exact rfl) ?_; first | (refine WD_cM (nnC_m) ?_)) | (refine WD_idxo htb ?_) | (refine WD_lde htb ?_) | (refine WD_ap htb ?_) | (refine WD_rem ?_)) | (refine ct ?_) | (with_reducible apply WA_block)))
      exact gE (.inr rfl) rfl rfl ⟨rfl, trivial⟩
    · have t2 : (s1.n 4 == 0) = false := by simpa using hz
      rw [if_neg hz]
      have hlw : 1 ≤ lwN l.length ∧ lwN l.length ≤ l.length := by unfold lwN; split <;> omega
      have hw : (if (((l.map rTp).length : Nat) : Int) - 1 > 1 then (((l.map rTp).length : Nat) : Int) - 1 else 1) = (lwN l.length : Int) := by rw [List.length_map]; unfold lwN; split <;> split <;> omega
      have rgE_m : FnM Tryz.prog 76 [(9000, tpB (s1.x 4))] [.ptr 9000 0, vI (if (((l.map rTp).length : Nat) : Int) - 1 > 1 then (((l.map rTp).length : Nat) : Int) - 1 else 1), vI (((l.map rTp).length : Nat) : Int)] (vI ((lwN l.length : Int) + (s1.x 4).n ((l.length : Int) - lwN l.length + 1))) [(9000, tpB ((s1.x 4).x ((l.length : Int) - lwN l.length + 1)))] := by
        rw [hw, List.length_map]
        exact tR_m (s1.x 4) (lwN l.length) l.length g5 (by omega) (by omega) (by omega)
      (repeat' (first | ((with_reducible apply WD_id); first | (refine WD_sum ?_) | (refine WD_nxt htb (by exact rfl) ?_) | (refine WD_call (by exact rfl) ?_; first | (refine WD_cM (nnC_m) ?_) | (refine WD_cM (rgE_m) ?_)) | (refine WD_idxo htb ?_) | (refine WD_lde htb ?_) | (refine WD_ap htb ?_) | (refine WD_rem ?_)) | (refine ct ?_) | (with_reducible apply WA_block)))
      rw [aTr_p]
      (exact glV [(6, .ptr 6 0)] [(6, .box 45 [vI ((lwN l.length : Int) + (s1.x 4).n ((l.length : Int) - lwN l.length + 1)), .d (.rows 1 []), .d (.rows 3 (l.map rTp))]), (9000, tpB ((s1.x 4).x ((l.length : Int) - lwN l.length + 1)))] (LeV []))
end Go.Proofs.YtdhogcklnehdhaaGreatDoor
/- Contracts: drawn configurations and sets of members. -/
namespace Go.Proofs.YtdhogcklnehdhaaGreatDoor
set_option linter.unusedSimpArgs false
set_option linter.unusedVariables false
set_option linter.unnecessarySimpa false
set_option linter.unusedSectionVars false
set_option maxRecDepth 100000
open Go Go.RowKit Go.Am Go.Proofs.Grow
def tkF (s : Sc) (m : Nat) (kind : Int) (k : Nat) : Tr × Sc := if kind = 0 then trF s m else if kind = 1 then mosF s m else groF s m k
theorem tkF_fit {s : Sc} {m k : Nat} {kind : Int} (hs : s.ok) (h1 : 1 ≤ m) (h5 : m ≤ 5) : FitT m (tkF s m kind k).1 ∧ (tkF s m kind k).2.ok := by
  unfold tkF
  split
  · exact trF_fit hs h1 h5
  split
  · exact mosF_fit hs h1 h5
  · exact groF_fit hs h1 h5
def cfT (m : Nat) (kind : Int) : Nat → Sc → List Mb × Sc
  | 0, s => ([], s)
  | k + 1, s => ((cfT m kind k s).1 ++ [if (tkF (cfT m kind k s).2 m kind k).2.n 12 = 11 then ⟨false, .mk 0 [] []⟩ else ⟨true, (tkF (cfT m kind k s).2 m kind k).1⟩], (tkF (cfT m kind k s).2 m kind k).2.x 12)
def FitM (m : Nat) (x : Mb) : Prop := x = ⟨false, .mk 0 [] []⟩ ∨ (x.decl = true ∧ FitT m x.t)
theorem cfT_spec {m : Nat} {kind : Int} {s : Sc} (hs : s.ok) (h1 : 1 ≤ m) (h5 : m ≤ 5) : ∀ k, (cfT m kind k s).1.length = k ∧ (∀ x ∈ (cfT m kind k s).1, FitM m x) ∧ (cfT m kind k s).2.ok
  | 0 => ⟨rfl, by simp [cfT], hs⟩
  | k + 1 => by
    obtain ⟨g1, g2, g3⟩ := cfT_spec (kind := kind) hs h1 h5 k
    obtain ⟨f1, f2⟩ := tkF_fit (k := k) (kind := kind) g3 h1 h5
    rw [cfT]
    refine ⟨by simp [g1], fun x hx => ?_, Sc.ok_x f2 _⟩
    rcases List.mem_append.1 hx with hx | hx
    · exact g2 x hx
    · obtain rfl := List.mem_singleton.1 hx
      split
      · exact .inl rfl
      · exact .inr ⟨rfl, f1⟩
def cfF (s : Sc) (n : Nat) : List Mb × Sc := cfT (rgN s n) ((s.x n).n 3) (rgN s n) ((s.x n).x 3)
theorem cfF_spec {s : Sc} {n : Nat} (hs : s.ok) (h1 : 1 ≤ n) (h5 : n ≤ 5) : 1 ≤ (cfF s n).1.length ∧ (cfF s n).1.length ≤ n ∧ (∀ x ∈ (cfF s n).1, FitM (cfF s n).1.length x) ∧ (cfF s n).2.ok := by
  have hb := rgN_bd (s := s) h1
  obtain ⟨g1, g2, g3⟩ := cfT_spec (kind := (s.x n).n 3) (Sc.ok_x (Sc.ok_x hs n) 3) hb.1 (by omega) (rgN s n)
  unfold cfF
  rw [g1]
  exact ⟨hb.1, hb.2, g2, g3⟩
theorem FitM.small {m : Nat} {x : Mb} (h : FitM m x) : sizT x.t ≤ 200 ∧ kbT x.t ≤ 200 ∧ membF x m = 0 := by
  rcases h with rfl | ⟨h1, h2⟩
  · exact ⟨by decide, by decide, by simp [membF]; decide⟩
  · refine ⟨h2.siz, h2.kb, ?_⟩
    have h3 := h2.use
    unfold membF
    rw [if_neg (by rw [h1]; simp), if_neg (by rw [h2.chk]; simp), if_neg (by omega)]
theorem valL_all {n : Nat} : ∀ {l : List Mb}, (∀ x ∈ l, membF x n = 0) → valL n l = 0
  | [], _ => rfl
  | x :: r, h => by
    rw [valL, if_neg (by rw [h x (by simp)]; simp)]
    exact valL_all fun y hy => h y (by simp [hy])
theorem fit_okS {c : List Mb} (h5 : c.length ≤ 5) (h : ∀ x ∈ c, FitM c.length x) {s : Nat} (hs : s ≤ memN c) : OkS c s :=
  ⟨⟨by omega, fun k hk => by have := (h _ (nth_mem c k hk)).small.1; omega⟩, valL_all fun x hx => (h x hx).small.2.2, hs, fun k hk => by have := (h _ (nth_mem c k hk)).small.2.1; omega⟩
end Go.Proofs.YtdhogcklnehdhaaGreatDoor
/- Contracts: drawn sets of members. -/
namespace Go.Proofs.YtdhogcklnehdhaaGreatDoor
set_option linter.unusedSimpArgs false
set_option linter.unusedVariables false
set_option linter.unnecessarySimpa false
set_option linter.unusedSectionVars false
set_option maxRecDepth 100000
open Go Go.RowKit Go.Am Go.Proofs.Grow
def picks5 : List Int := [0, 1, 1, 2, 3]
theorem pick5_bd {k : Nat} (h : k < 5) : 0 ≤ nth picks5 k ∧ nth picks5 k ≤ 3 := by
  obtain rfl | rfl | rfl | rfl | rfl : k = 0 ∨ k = 1 ∨ k = 2 ∨ k = 3 ∨ k = 4 := by omega
  all_goals decide
def seT (n : Nat) : Nat → Sc → Nat → Nat × Sc
  | 0, s, a => (a, s)
  | i + 1, s, a => seT n i (s.x n) (a ||| 2 ^ (s.n n).toNat)
theorem seT_spec {n : Nat} (h1 : 1 ≤ n) : ∀ (i : Nat) (s : Sc) (a : Nat), s.ok → a < 2 ^ n → (seT n i s a).1 < 2 ^ n ∧ (seT n i s a).2.ok
  | 0, s, a, hs, ha => ⟨ha, hs⟩
  | i + 1, s, a, hs, ha => by
    have hb := s.n_bd (k := n) (by omega)
    exact seT_spec h1 i _ _ (Sc.ok_x hs _) (or_ltn ha (Nat.pow_lt_pow_right (by decide) (by omega)))
def seF (s : Sc) (c : List Mb) : Nat × Sc :=
  let q := seT c.length (nth picks5 (s.n 5).toNat).toNat (s.x 5) 0
  (q.1 ||| (andn (memN c) (declN c) * (q.2.n 2).toNat), q.2.x 2)
theorem seF_spec {s : Sc} {c : List Mb} (hs : s.ok) (h1 : 1 ≤ c.length) : (seF s c).1 ≤ memN c ∧ (seF s c).2.ok := by
  obtain ⟨g1, g2⟩ := seT_spec h1 (nth picks5 (s.n 5).toNat).toNat (s.x 5) 0 (Sc.ok_x hs _) (Nat.pow_pos (by decide))
  unfold seF
  generalize seT c.length (nth picks5 (s.n 5).toNat).toNat (s.x 5) 0 = q at *
  obtain ⟨a, s1⟩ := q
  dsimp only at g1 g2 ⊢
  have hb := s1.n_bd (k := 2) (by omega)
  have hp : 0 < 2 ^ c.length := Nat.pow_pos (by decide)
  refine ⟨?_, Sc.ok_x g2 _⟩
  have hal := andn_le (memN c) (declN c)
  have hml : memN c = 2 ^ c.length - 1 := rfl
  have : andn (memN c) (declN c) * (s1.n 2).toNat < 2 ^ c.length := by
    obtain h | h : (s1.n 2).toNat = 0 ∨ (s1.n 2).toNat = 1 := by omega
    · rw [h]; omega
    · rw [h]; omega
  have := or_ltn g1 this
  omega
theorem se_m (s : Sc) (c : List Mb) (hs : s.ok) (hc : OkC c) (h1 : 1 ≤ c.length) (h5 : c.length ≤ 5) : FnM Tryz.prog 17 [(9000, tpB s)] [.ptr 9000 0, aCf c] (vI ((seF s c).1 : Int)) [(9000, tpB (seF s c).2)] := by
  have hs1 := Sc.ok_x hs 5
  have hb := s.n_bd (k := 5) (by omega)
  have hpb := pick5_bd (k := (s.n 5).toNat) (by omega)
  have pkF_m := tP_m s picks5 hs (by decide) (by decide)
  rw [show ((picks5.length : Nat) : Int) = 5 from rfl] at pkF_m
  have hsp := seF_spec (c := c) hs h1
  have hst := seT_spec (n := c.length) h1 (nth picks5 (s.n 5).toNat).toNat (s.x 5) 0 hs1 (Nat.pow_pos (by decide))
  unfold seF at hsp ⊢
  obtain ⟨i, hi⟩ : ∃ i : Nat, nth picks5 (s.n 5).toNat = (i : Int) := ⟨(nth picks5 (s.n 5).toNat).toNat, by omega⟩
  rw [hi] at pkF_m hpb hsp hst ⊢
  rw [Int.toNat_natCast] at hsp hst ⊢
  generalize hsb : s.x 5 = sb at *
  have h2n := Nat.pow_le_pow_right (n := 2) (by decide) h5
  refine FnM.of htb Tryz.func17 rfl rfl rfl rfl rfl fun cx hN h0 => ?_
  (repeat' (first | ((with_reducible apply WD_id); first | (refine WD_sum ?_) | (refine WD_nxt htb (by exact rfl) ?_) | (refine WD_call (by exact rfl) ?_; first | (refine WD_cM (pkF_m) ?_))) | (refine ct ?_) | (with_reducible apply WA_block)))
  (refine WA_anyV (α := Nat × Sc × Nat) (fun x => x.1) ((i, sb, 0)) [6, 7] [9000] (fun x => [(6, vI ((x.2.2 : Nat) : Int)), (7, vI ((x.1 : Nat) : Int))]) (fun x => [(9000, tpB x.2.1)]) (fun x => x.1 ≤ 3 ∧ x.2.1.ok ∧ x.2.2 < 2 ^ c.length ∧ seT c.length i sb 0 = seT c.length x.1 x.2.1 x.2.2) ?h0 ?_)
  case h0 => exact ⟨by dsimp only; omega, hs1, Nat.pow_pos (by decide), rfl⟩
  rintro ⟨j, s1, a⟩ ⟨hj, g3, ha, hI⟩
  dsimp only at hj g3 ha hI ⊢
  rw [hI] at hsp ⊢
  cases j with
  | succ j =>
    have t2 : decide (((j + 1 : Nat) : Int) > 0) = true := by simp <;> omega
    have hnb := s1.n_bd (k := c.length) (by omega)
    have nnF := tN_m s1 c.length g3 (by omega) (by omega)
    obtain ⟨z, hz⟩ : ∃ z : Nat, s1.n c.length = (z : Int) := ⟨(s1.n c.length).toNat, by omega⟩
    rw [hz] at nnF hnb
    have nnF_m := nnF
    have hz2 : 2 ^ z < 2 ^ c.length := Nat.pow_lt_pow_right (by decide) (by omega)
    (repeat' (first | ((with_reducible apply WD_id); first | (refine WD_sum ?_) | (refine WD_nxt htb (by exact rfl) ?_) | (refine WD_call (by exact rfl) ?_; first | (refine WD_cM (nnF_m) ?_)) | (refine WD_eq (shlN_step rfl rfl rfl) ?_) | (refine WD_eq (borN_step rfl rfl rfl) ?_)) | (refine ct ?_) | (with_reducible apply WA_block)))
    refine ⟨(j, s1.x c.length, a ||| 2 ^ z), by dsimp only; omega, ⟨by dsimp only; omega, Sc.ok_x g3 _, or_ltn ha hz2, by rw [seT, hz]; rfl⟩, ?_⟩
    (exact LeV [])
  | zero =>
    have t2 : decide (((0 : Nat) : Int) > 0) = false := by simp
    rw [show seT c.length 0 s1 a = (a, s1) from rfl] at hsp ⊢
    dsimp only at hsp ⊢
    have nnG := tN_m s1 2 g3 (by omega) (by omega)
    have hnb := s1.n_bd (k := 2) (by omega)
    have hd := declN_lt hc.len
    have hal := andn_le (memN c) (declN c)
    have hml : memN c = 2 ^ c.length - 1 := rfl
    obtain ⟨z, hz⟩ : ∃ z : Nat, s1.n 2 = (z : Int) := ⟨(s1.n 2).toNat, by omega⟩
    rw [hz] at nnG hnb ⊢
    have nnG_m := nnG
    (repeat' (first | ((with_reducible apply WD_id); first | (refine WD_sum ?_) | (refine WD_nxt htb (by exact rfl) ?_) | (refine WD_call (by exact rfl) ?_; first | (refine WD_cM (nnG_m) ?_) | (refine WD_c0 (declR_m _ ?_) ?_; (exact hyp))) | (refine WD_eq (shlN_step rfl rfl rfl) ?_) | (refine WD_eq (bnotN_step rfl rfl rfl) ?_) | (refine WD_eq (borN_step rfl rfl rfl) ?_)) | (refine ct ?_) | (with_reducible apply WA_block)))
    have hp : 0 < 2 ^ c.length := Nat.pow_pos (by decide)
    rw [show (((2 ^ c.length : Nat) : Int) - 1) = ((memN c : Nat) : Int) by omega]
    have hmb : andn (memN c) (declN c) * z ≤ 31 ∧ (0 : Int) ≤ (andn (memN c) (declN c) : Int) * (z : Int) ∧ (andn (memN c) (declN c) : Int) * (z : Int) ≤ 31 := by
      obtain rfl | rfl : z = 0 ∨ z = 1 := by omega
      · simp
      · simp; omega
    (repeat' (first | ((with_reducible apply WD_id); first | (refine WD_sum ?_) | (refine WD_nxt htb (by exact rfl) ?_) | (refine WD_call (by exact rfl) ?_; first | (refine WD_cM (nnG_m) ?_) | (refine WD_c0 (declR_m _ ?_) ?_; (exact hyp))) | (refine WD_eq (shlN_step rfl rfl rfl) ?_) | (refine WD_eq (bnotN_step rfl rfl rfl) ?_) | (refine WD_eq (borN_step rfl rfl rfl) ?_)) | (refine ct ?_) | (with_reducible apply WA_block)))
    rw [show ((andn (memN c) (declN c) : Int) * (z : Int)) = ((andn (memN c) (declN c) * z : Nat) : Int) from (Int.natCast_mul _ _).symm]
    (repeat' (first | ((with_reducible apply WD_id); first | (refine WD_sum ?_) | (refine WD_nxt htb (by exact rfl) ?_) | (refine WD_call (by exact rfl) ?_; first | (refine WD_cM (nnG_m) ?_) | (refine WD_c0 (declR_m _ ?_) ?_; (exact hyp))) | (refine WD_eq (shlN_step rfl rfl rfl) ?_) | (refine WD_eq (bnotN_step rfl rfl rfl) ?_) | (refine WD_eq (borN_step rfl rfl rfl) ?_)) | (refine ct ?_) | (with_reducible apply WA_block)))
    exact gE (.inr rfl) rfl rfl ⟨rfl, trivial⟩
end Go.Proofs.YtdhogcklnehdhaaGreatDoor
namespace Go.Proofs.YtdhogcklnehdhaaGreatDoor
set_option linter.unusedSimpArgs false
set_option linter.unusedVariables false
set_option linter.unnecessarySimpa false
set_option linter.unusedSectionVars false
set_option maxRecDepth 100000
open Go Go.RowKit Go.Am Go.Proofs.Grow
theorem has_mono {s u : Nat} (hs : s < 1024) (hu : u < 1024) (h : ∀ k, s.testBit k = true → u.testBit k = true) {x : Int} (hx : hasB (s : Int) x = true) : hasB (u : Int) x = true := by
  have hn : nodeB x = true := by unfold hasB at hx; simp at hx; exact hx.2.1
  obtain ⟨k, rfl⟩ : ∃ k : Nat, x = (k : Int) := ⟨x.toNat, by simp [nodeB] at hn; omega⟩
  have hk : k < 10 := by simp [nodeB] at hn; omega
  rw [has_nat hs hk] at hx
  rw [has_nat hu hk]
  exact h k hx
theorem cntI_mono {s u : Int} (h : ∀ x, hasB s x = true → hasB u x = true) : ∀ (l : List Int) {a b : Int}, a ≤ b → cntI s l a ≤ cntI u l b
  | [], a, b, hab => hab
  | x :: r, a, b, hab => by
    rw [cntI, cntI]
    refine cntI_mono h r ?_
    cases h1 : hasB s x with
    | true => rw [h x h1]; simp; omega
    | false =>
      rw [if_neg (by simp)]
      split <;> omega
mutual
theorem satT_mono {s u : Nat} (hs : s < 1024) (hu : u < 1024) (h : ∀ k, s.testBit k = true → u.testBit k = true) : ∀ t : Tr, satT (s : Int) t = true → satT (u : Int) t = true
  | .mk k ns is, hx => by
    have h1 := cntI_mono (fun x => has_mono hs hu h (x := x)) ns (Int.le_refl 0)
    have h2 := satL_mono hs hu h is _ _ h1
    simp only [satT, Bool.and_eq_true, decide_eq_true_eq] at hx ⊢
    exact ⟨valid_nat hu, by omega⟩
theorem satL_mono {s u : Nat} (hs : s < 1024) (hu : u < 1024) (h : ∀ k, s.testBit k = true → u.testBit k = true) : ∀ (l : List Tr) (a b : Int), a ≤ b → satL (s : Int) l a ≤ satL (u : Int) l b
  | [], a, b, hab => hab
  | t :: r, a, b, hab => by
    have ht := satT_mono hs hu h t
    simp only [satL]
    refine satL_mono hs hu h r _ _ ?_
    cases h1 : satT (s : Int) t with
    | true => rw [ht h1]; simp; omega
    | false =>
      rw [if_neg (by simp)]
      split <;> omega
end
/-- Each member of a set is declared and content with it. -/
def ClQ (c : List Mb) (q : Nat) : Prop := ∀ k, q.testBit k = true → (declN c).testBit k = true ∧ satT (q : Int) (nth c k).t = true
theorem quo_cl {c : List Mb} {q : Nat} (hq : q < 1024) (h : quoN c q = true) : ClQ c q := by
  intro k hk
  simp only [quoN, Bool.and_eq_true, beq_iff_eq] at h
  obtain ⟨_, h1, h2⟩ := h
  refine ⟨sub_bit h1 hk, ?_⟩
  have h3 := unhL_none.1 (Option.isNone_iff_eq_none.1 h2) k ((mem_nodes hq).2 hk)
  exact h3
theorem elim_keep {c : List Mb} {q : Nat} (hq : q < 1024) (hc : ClQ c q) : ∀ (n s : Nat) (out : List Nat), s < 1024 → (∀ k, q.testBit k = true → s.testBit k = true) → ∀ k, q.testBit k = true → (elimG c n s out).1.testBit k = true
  | 0, s, out, _, h, k, hk => h k hk
  | n + 1, s, out, hs, h, k, hk => by
    rw [elimG]
    split
    · exact h k hk
    · rename_i j hj
      obtain ⟨j1, j2⟩ := unhL_some hj
      refine elim_keep hq hc n _ _ (Nat.lt_of_le_of_lt (andn_le _ _) hs) (fun i hi => ?_) k hk
      rw [andn_bit, h i hi]
      rcases Nat.decEq j i with e | e
      · rw [Nat.testBit_two_pow_of_ne e]; rfl
      · subst e
        have := satT_mono hq hs h _ (hc j hi).2
        rw [j2] at this; cases this
theorem elim_sub {c : List Mb} : ∀ (n s : Nat) (out : List Nat) (k : Nat), (elimG c n s out).1.testBit k = true → s.testBit k = true
  | 0, s, out, k, h => h
  | n + 1, s, out, k, h => by
    rw [elimG] at h
    split at h
    · exact h
    · have := elim_sub n _ _ k h
      rw [andn_bit] at this
      simp at this
      exact this.1
theorem great_keep {c : List Mb} {q s : Nat} (hq : q < 1024) (hs : s < 1024) (hc : ClQ c q) (h : ∀ k, q.testBit k = true → s.testBit k = true) : ∀ k, q.testBit k = true → (greatN c s).1.testBit k = true :=
  elim_keep hq hc 1024 _ [] (and_lt10 hs) fun k hk => by rw [Nat.testBit_and, h k hk, (hc k hk).1]; rfl
theorem great_sub {c : List Mb} {s k : Nat} (h : (greatN c s).1.testBit k = true) : s.testBit k = true := by
  have := elim_sub 1024 _ [] k h
  rw [Nat.testBit_and] at this
  simp at this
  exact this.1
theorem ne_zero_bit {a : Nat} (h : a ≠ 0) : ∃ k, a.testBit k = true := by
  rcases Classical.em (∃ k, a.testBit k = true) with h1 | h1
  · exact h1
  · exact absurd (Nat.eq_of_testBit_eq fun i => by
      rw [Nat.zero_testBit]
      cases h2 : a.testBit i
      · rfl
      · exact absurd ⟨i, h2⟩ h1) h
theorem bit_1023 {k : Nat} (h : k < 10) : (1023 : Nat).testBit k = true := by
  have := Nat.testBit_two_pow_sub_one 10 k
  rw [show (2 : Nat) ^ 10 - 1 = 1023 from rfl] at this
  rw [this]; simpa using h
end Go.Proofs.YtdhogcklnehdhaaGreatDoor
namespace Go.Proofs.YtdhogcklnehdhaaGreatDoor
set_option linter.unusedSimpArgs false
set_option linter.unusedVariables false
set_option linter.unnecessarySimpa false
set_option linter.unusedSectionVars false
set_option maxRecDepth 100000
open Go Go.RowKit Go.Am Go.Proofs.Grow
mutual
def usesB (p : Int → Bool) : Tr → Bool
  | .mk _ ns is => ns.all p && usesL p is
def usesL (p : Int → Bool) : List Tr → Bool
  | [] => true
  | t :: r => usesB p t && usesL p r
end
theorem idxF_none {p : Int → Bool} : ∀ {l : List Int} {k : Nat}, ¬ (idxF p k l ≥ 0) → ∀ x ∈ l, p x = false
  | [], _, _, x, hx => by simp at hx
  | y :: r, k, h, x, hx => by
    unfold idxF at h
    split at h
    · omega
    · rename_i h1
      rcases List.mem_cons.1 hx with rfl | hx
      · simpa using h1
      · exact idxF_none h x hx
theorem lev_parts {t : Tr} (h : levT t = 0) : (1 ≤ t.k ∧ t.k ≤ (t.ns.length : Int) + (t.is.length : Int)) ∧ (∀ x ∈ t.ns, nodeB x = true) ∧ levL t.is = 0 := by
  cases t with
  | mk k ns is =>
    simp only [levT] at h
    simp only [Tr.k, Tr.ns, Tr.is]
    split at h
    · omega
    · rename_i h1
      split at h
      · omega
      · rename_i h2
        split at h
        · rename_i h3; exact absurd h h3
        · refine ⟨by omega, fun x hx => ?_, h⟩
          have := idxF_none (p := fun k => !nodeB k) (by simpa using h2) x hx
          simpa using this
mutual
theorem lev_uses : ∀ t : Tr, levT t = 0 → usesB nodeB t = true
  | .mk k ns is, h => by
    obtain ⟨_, h1, h2⟩ := lev_parts h
    simp only [usesB, Bool.and_eq_true, List.all_eq_true]
    exact ⟨h1, levL_uses is h2⟩
theorem levL_uses : ∀ l : List Tr, levL l = 0 → usesL nodeB l = true
  | [], _ => by simp only [usesL]
  | t :: r, h => by
    simp only [levL] at h
    split at h
    · rename_i h1; exact absurd h h1
    · rename_i h1
      simp only [usesL, Bool.and_eq_true]
      exact ⟨lev_uses t (by omega), levL_uses r h⟩
end
/-- The nodes that are used, as bits. -/
theorem useI_bits : ∀ (l : List Int) (a : Nat), a < 1024 → (∀ x ∈ l, nodeB x = true) → ∃ b : Nat, useI l (a : Int) = (b : Int) ∧ b < 1024 ∧ (∀ k, a.testBit k = true → b.testBit k = true) ∧ ∀ x ∈ l, b.testBit x.toNat = true
  | [], a, ha, _ => ⟨a, rfl, ha, fun k h => h, by simp⟩
  | x :: r, a, ha, h => by
    have hx := h x (by simp)
    have hx2 := hx
    simp [nodeB] at hx2
    obtain ⟨k, rfl⟩ : ∃ k : Nat, x = (k : Int) := ⟨x.toNat, by omega⟩
    have hk : k < 10 := by omega
    have hp := pow_lt hk
    rw [useI, if_pos hx, shl_nat (by omega), bor_nat (by omega) (by omega)]
    obtain ⟨b, h1, h2, h3, h4⟩ := useI_bits r (a ||| 2 ^ k) (or_lt10 ha hp) (fun y hy => h y (by simp [hy]))
    refine ⟨b, h1, h2, fun j hj => h3 j (by rw [Nat.testBit_or, hj]; rfl), fun y hy => ?_⟩
    rcases List.mem_cons.1 hy with rfl | hy
    · exact h3 _ (by rw [Nat.testBit_or, Int.toNat_natCast, Nat.testBit_two_pow_self]; simp)
    · exact h4 y hy
mutual
theorem useT_bits : ∀ t : Tr, usesB nodeB t = true → ∃ b : Nat, useT t = (b : Int) ∧ b < 1024 ∧ usesB (fun x => nodeB x && b.testBit x.toNat) t = true
  | .mk k ns is, h => by
    simp only [usesB, Bool.and_eq_true, List.all_eq_true] at h
    obtain ⟨b, h1, h2, _, h4⟩ := useI_bits ns 0 (by decide) h.1
    obtain ⟨d, e1, e2, e3, e4⟩ := useL_bits is b h2 h.2
    refine ⟨d, by simp only [useT]; rw [show useI ns 0 = (b : Int) from h1]; exact e1, e2, ?_⟩
    simp only [usesB, Bool.and_eq_true, List.all_eq_true]
    exact ⟨fun x hx => ⟨h.1 x hx, e3 _ (h4 x hx)⟩, e4⟩
theorem useL_bits : ∀ (l : List Tr) (a : Nat), a < 1024 → usesL nodeB l = true → ∃ b : Nat, useL l (a : Int) = (b : Int) ∧ b < 1024 ∧ (∀ k, a.testBit k = true → b.testBit k = true) ∧ usesL (fun x => nodeB x && b.testBit x.toNat) l = true
  | [], a, ha, _ => ⟨a, rfl, ha, fun k h => h, by simp only [usesL]⟩
  | t :: r, a, ha, h => by
    simp only [usesL, Bool.and_eq_true] at h
    obtain ⟨c, c1, c2, c3⟩ := useT_bits t h.1
    simp only [useL]
    rw [c1, bor_nat (by omega) (by omega)]
    obtain ⟨b, b1, b2, b3, b4⟩ := useL_bits r (a ||| c) (or_lt10 ha c2) h.2
    refine ⟨b, b1, b2, fun k hk => b3 k (by rw [Nat.testBit_or, hk]; rfl), ?_⟩
    simp only [usesL, Bool.and_eq_true]
    exact ⟨usesB_mono (fun x hx => by
      simp only [Bool.and_eq_true] at hx ⊢
      exact ⟨hx.1, b3 _ (by rw [Nat.testBit_or, hx.2]; simp)⟩) t c3, b4⟩
theorem usesB_mono {p q : Int → Bool} (h : ∀ x, p x = true → q x = true) : ∀ t : Tr, usesB p t = true → usesB q t = true
  | .mk k ns is, ht => by
    simp only [usesB, Bool.and_eq_true, List.all_eq_true] at ht ⊢
    exact ⟨fun x hx => h x (ht.1 x hx), usesL_mono h is ht.2⟩
theorem usesL_mono {p q : Int → Bool} (h : ∀ x, p x = true → q x = true) : ∀ l : List Tr, usesL p l = true → usesL q l = true
  | [], _ => by simp only [usesL]
  | t :: r, ht => by
    simp only [usesL, Bool.and_eq_true] at ht ⊢
    exact ⟨usesB_mono h t ht.1, usesL_mono h r ht.2⟩
end
/-- A right trust of n nodes looks at these alone. -/
def inNn (n : Nat) (x : Int) : Bool := decide (0 ≤ x) && decide (x < (n : Int))
theorem FitT.uses {n : Nat} {t : Tr} (h : FitT n t) : usesB (inNn n) t = true := by
  obtain ⟨b, h1, h2, h3⟩ := useT_bits t (lev_uses t (chk_lev h.chk).2)
  have h4 := h.use
  rw [h1] at h4
  refine usesB_mono (fun x hx => ?_) t h3
  simp only [Bool.and_eq_true, nodeB, decide_eq_true_eq, inNn] at hx ⊢
  refine ⟨by omega, ?_⟩
  rcases Nat.lt_or_ge x.toNat n with h5 | h5
  · omega
  · have : b < 2 ^ x.toNat := Nat.lt_of_lt_of_le (by omega) (Nat.pow_le_pow_right (by decide) h5)
    rw [Nat.testBit_lt_two_pow this] at hx
    simp at hx
theorem cntI_none {s : Int} : ∀ (l : List Int) (a : Int), (∀ x ∈ l, hasB s x = false) → cntI s l a = a
  | [], _, _ => rfl
  | x :: r, a, h => by rw [cntI, h x (by simp)]; exact cntI_none r _ fun y hy => h y (by simp [hy])
theorem cntI_all {s : Int} : ∀ (l : List Int) (a : Int), (∀ x ∈ l, hasB s x = true) → cntI s l a = a + l.length
  | [], a, _ => by simp [cntI]
  | x :: r, a, h => by
    rw [cntI, h x (by simp), if_pos rfl, cntI_all r _ fun y hy => h y (by simp [hy])]
    simp only [List.length_cons]; omega
mutual
theorem satT_none {s : Int} {p : Int → Bool} (h : ∀ x, p x = true → hasB s x = false) : ∀ t : Tr, levT t = 0 → usesB p t = true → satT s t = false
  | .mk k ns is, hl, ht => by
    obtain ⟨h1, _, h2⟩ := lev_parts hl
    simp only [Tr.k, Tr.ns, Tr.is] at h1 h2
    simp only [usesB, Bool.and_eq_true, List.all_eq_true] at ht
    simp only [satT]
    rw [cntI_none ns 0 fun x hx => h x (ht.1 x hx), satL_none h is _ h2 ht.2]
    have : decide ((0 : Int) ≥ k) = false := by simp; omega
    rw [this, Bool.and_false]
theorem satL_none {s : Int} {p : Int → Bool} (h : ∀ x, p x = true → hasB s x = false) : ∀ (l : List Tr) (a : Int), levL l = 0 → usesL p l = true → satL s l a = a
  | [], _, _, _ => rfl
  | t :: r, a, hl, ht => by
    simp only [levL] at hl
    split at hl
    · rename_i h1; exact absurd hl h1
    · rename_i h1
      simp only [usesL, Bool.and_eq_true] at ht
      rw [satL, satT_none h t (by omega) ht.1]
      exact satL_none h r _ hl ht.2
end
mutual
theorem satT_all {s : Int} {p : Int → Bool} (hv : validS s = true) (h : ∀ x, p x = true → hasB s x = true) : ∀ t : Tr, levT t = 0 → usesB p t = true → satT s t = true
  | .mk k ns is, hl, ht => by
    obtain ⟨h1, _, h2⟩ := lev_parts hl
    simp only [Tr.k, Tr.ns, Tr.is] at h1 h2
    simp only [usesB, Bool.and_eq_true, List.all_eq_true] at ht
    simp only [satT]
    rw [cntI_all ns 0 fun x hx => h x (ht.1 x hx), satL_all hv h is _ h2 ht.2, hv]
    have : decide ((0 : Int) + ns.length + is.length ≥ k) = true := by simp; omega
    rw [this]; rfl
theorem satL_all {s : Int} {p : Int → Bool} (hv : validS s = true) (h : ∀ x, p x = true → hasB s x = true) : ∀ (l : List Tr) (a : Int), levL l = 0 → usesL p l = true → satL s l a = a + l.length
  | [], a, _, _ => by simp [satL]
  | t :: r, a, hl, ht => by
    simp only [levL] at hl
    split at hl
    · rename_i h1; exact absurd hl h1
    · rename_i h1
      simp only [usesL, Bool.and_eq_true] at ht
      rw [satL, satT_all hv h t (by omega) ht.1, if_pos rfl, satL_all hv h r _ hl ht.2]
      simp only [List.length_cons]; omega
end
/-- All together satisfy a right trust; those that it doesn't use never do. -/
theorem sat_all {n s : Nat} {t : Tr} (hn : n ≤ 10) (hs : s < 1024) (ht : FitT n t) (h : ∀ k, k < n → s.testBit k = true) : satT (s : Int) t = true :=
  satT_all (p := inNn n) (valid_nat hs) (fun x hx => by
    simp only [inNn, Bool.and_eq_true, decide_eq_true_eq] at hx
    obtain ⟨k, rfl⟩ : ∃ k : Nat, x = (k : Int) := ⟨x.toNat, by omega⟩
    rw [has_nat hs (by omega), h k (by omega)]) t (chk_lev ht.chk).2 ht.uses
/-- The greatest quorum in a set is closed. -/
theorem elim_cl {c : List Mb} : ∀ (n s : Nat) (out : List Nat), s < 1024 → s ≤ n → (∀ k, s.testBit k = true → (declN c).testBit k = true) → ClQ c (elimG c n s out).1
  | 0, s, out, hs, hn, hd => by
    intro k hk
    obtain rfl : s = 0 := by omega
    rw [elimG, Nat.zero_testBit] at hk; cases hk
  | n + 1, s, out, hs, hn, hd => by
    rw [elimG]
    split
    · rename_i h
      intro k hk
      exact ⟨hd k hk, unhL_none.1 h k ((mem_nodes hs).2 hk)⟩
    · rename_i j hj
      obtain ⟨j1, j2⟩ := unhL_some hj
      have j3 := (mem_nodes hs).1 j1
      have := andn_lt j3
      exact elim_cl n _ _ (by omega) (by omega) fun k hk => hd k (by rw [andn_bit] at hk; simp at hk; exact hk.1)
theorem great_cl {c : List Mb} {s : Nat} (hs : s < 1024) : ClQ c (greatN c s).1 := by
  have h : s &&& declN c ≤ s := Nat.and_le_left
  exact elim_cl 1024 _ [] (by omega) (by omega) fun k hk => by rw [Nat.testBit_and] at hk; simp at hk; exact hk.2
end Go.Proofs.YtdhogcklnehdhaaGreatDoor
namespace Go.Proofs.YtdhogcklnehdhaaGreatDoor
set_option linter.unusedSimpArgs false
set_option linter.unusedVariables false
set_option linter.unnecessarySimpa false
set_option linter.unusedSectionVars false
set_option maxRecDepth 100000
open Go Go.RowKit Go.Am Go.Proofs.Grow
structure Ms where
  nd : Int
  sq : Int
  t : Tr
  vo : List Cl
  ac : List Cl
structure Vo where
  nd : Int
  sq : Int
  t : Tr
  vo : List Cl
  ac : List Cl
  co : List Cl
  he : List Ms
def ms0 : Ms := ⟨0, 0, .mk 0 [] [], [], []⟩
def vo0 : Vo := ⟨0, 0, .mk 0 [] [], [], [], [], []⟩
instance : Inhabited Ms := ⟨ms0⟩
instance : Inhabited Vo := ⟨vo0⟩
def sayV (v : Vo) : Ms := ⟨v.nd, v.sq, v.t, v.vo, v.ac⟩
/-- The set of the nodes of some messages. -/
def setM (p : Ms → Bool) : List Ms → Nat → Nat
  | [], a => a
  | m :: r, a => setM p r (if p m = true then a ||| 2 ^ m.nd.toNat else a)
def votS (l : List Ms) (x : Cl) : Nat := setM (fun m => hasC m.vo x) l 0
def accS (l : List Ms) (x : Cl) : Nat := setM (fun m => hasC m.ac x) l 0
def viewL : List Ms → List Mb → List Mb
  | [], c => c
  | m :: r, c => viewL r (c.set m.nd.toNat ⟨true, m.t⟩)
def mb0 : Mb := ⟨false, .mk 0 [] []⟩
/-- The configuration as a node sees it. -/
def viewV (nd : Int) (t : Tr) (he : List Ms) : List Mb := (viewL he (List.replicate 10 mb0)).set nd.toNat ⟨true, t⟩
def catM : List Ms → List Cl → List Cl
  | [], a => a
  | m :: r, a => catM r (a ++ m.vo ++ m.ac)
def knowM (l : List Ms) : List Cl := sortC (catM l [])
def canV (c : List Mb) (v : Vo) (l : List Ms) (x : Cl) : Bool := !hasC v.ac x && (consC (v.ac ++ [x]) && accN c v.nd.toNat (votS l x) (accS l x))
def nxtV (c : List Mb) (v : Vo) : Option Cl := (knowM (v.he ++ [sayV v])).find? (canV c v (v.he ++ [sayV v]))
def addA (v : Vo) (x : Cl) : Vo := { v with ac := sortC (v.ac ++ [x]) }
def setA (c : List Mb) : Nat → Vo → Vo
  | 0, v => v
  | n + 1, v => match nxtV c v with
    | none => v
    | some x => setA c n (addA v x)
def conN (c : List Mb) (k a : Nat) : Bool := (greatN c a).1.testBit k
def conL (c : List Mb) (k : Nat) (l : List Ms) : List Cl → List Cl → List Cl
  | [], o => o
  | x :: r, o => conL c k l r (if conN c k (accS l x) = true then sortC (o ++ [x]) else o)
def setV (v : Vo) : Vo :=
  let w := setA (viewV v.nd v.t v.he) 129 v
  { w with co := conL (viewV v.nd v.t v.he) v.nd.toNat (v.he ++ [sayV w]) w.ac w.co }
def turV (b v : Vo) : Vo := if b.vo = (setV v).vo ∧ b.ac = (setV v).ac then setV v else { setV v with sq := (setV v).sq + 1 }
def votV (v : Vo) (x : Cl) : Vo × Int :=
  if v.vo.any (ctrC x) = true ∨ v.ac.any (ctrC x) = true then (vo0, 14) else if hasC v.vo x = true then (v, 0) else (turV v { v with vo := sortC (v.vo ++ [x]) }, 0)
/-- A message in the place of an earlier one of its node. -/
def putM : List Ms → Ms → List Ms
  | [], m => [m]
  | y :: r, m => if y.nd < m.nd then y :: putM r m else if y.nd = m.nd then m :: r else m :: y :: r
def oldM (l : List Ms) (m : Ms) : Bool := l.any fun y => decide (y.nd = m.nd) && decide (m.sq ≤ y.sq)
def heaV (v : Vo) (m : Ms) : Vo × Int := if oldM v.he m = true then (vo0, 9) else (turV v { v with he := putM v.he m }, 0)
structure MsOK (n : Nat) (m : Ms) : Prop where
  nd0 : 0 ≤ m.nd
  nd1 : m.nd < (n : Int)
  sq0 : 1 ≤ m.sq
  sq1 : m.sq ≤ 1000
  t : FitT n m.t
  vo : PlC m.vo
  ac : PlC m.ac
structure VoOK (n : Nat) (v : Vo) : Prop where
  nd0 : 0 ≤ v.nd
  nd1 : v.nd < 10
  sq0 : 1 ≤ v.sq
  sq1 : v.sq ≤ 1 + (v.vo.length : Int) + (v.ac.length : Int)
  t : FitT n v.t
  vo : PlC v.vo
  ac : PlC v.ac
  co : PlC v.co
  cv : consC v.vo = true
  ca : consC v.ac = true
  sub : ∀ x ∈ v.co, x ∈ v.ac
  he : ∀ m ∈ v.he, MsOK n m ∧ m.nd ≠ v.nd
  asc : v.he.Pairwise fun a b => a.nd < b.nd
theorem FitT.mono {n m : Nat} (h : n ≤ m) {t : Tr} (ht : FitT n t) : FitT m t :=
  ⟨ht.chk, by have := ht.use; have := Nat.pow_le_pow_right (n := 2) (by decide) h; omega⟩
theorem MsOK.mono {n k : Nat} (h : n ≤ k) {m : Ms} (hm : MsOK n m) : MsOK k m := { hm with nd1 := by have := hm.nd1; omega, t := hm.t.mono h }
theorem VoOK.mono {n k : Nat} (h : n ≤ k) {v : Vo} (hv : VoOK n v) : VoOK k v := { hv with t := hv.t.mono h, he := fun m hm => ⟨(hv.he m hm).1.mono h, (hv.he m hm).2⟩ }
theorem VoOK.sqb {n : Nat} {v : Vo} (h : VoOK n v) : v.sq ≤ 257 := by have := h.vo.len; have := h.ac.len; have := h.sq1; omega
theorem setM_bit (p : Ms → Bool) : ∀ (l : List Ms) (a k : Nat), (setM p l a).testBit k = true ↔ a.testBit k = true ∨ ∃ m ∈ l, p m = true ∧ m.nd.toNat = k
  | [], a, k => by simp [setM]
  | m :: r, a, k => by
    rw [setM, setM_bit p r]
    cases h : p m with
    | true =>
      rw [if_pos rfl, Nat.testBit_or, Bool.or_eq_true]
      constructor
      · rintro ((h1 | h1) | ⟨y, h1, h2⟩)
        · exact .inl h1
        · rcases Nat.decEq m.nd.toNat k with e | e
          · rw [Nat.testBit_two_pow_of_ne e] at h1; cases h1
          · exact .inr ⟨m, by simp, h, e⟩
        · exact .inr ⟨y, by simp [h1], h2⟩
      · rintro (h1 | ⟨y, h1, h2, h3⟩)
        · exact .inl (.inl h1)
        · rcases List.mem_cons.1 h1 with rfl | h1
          · exact .inl (.inr (by rw [h3, Nat.testBit_two_pow_self]))
          · exact .inr ⟨y, h1, h2, h3⟩
    | false =>
      rw [if_neg (by simp)]
      constructor
      · rintro (h1 | ⟨y, h1, h2⟩)
        · exact .inl h1
        · exact .inr ⟨y, by simp [h1], h2⟩
      · rintro (h1 | ⟨y, h1, h2, h3⟩)
        · exact .inl h1
        · rcases List.mem_cons.1 h1 with rfl | h1
          · rw [h] at h2; cases h2
          · exact .inr ⟨y, h1, h2, h3⟩
theorem setM_lt (p : Ms → Bool) : ∀ (l : List Ms) (a : Nat), a < 1024 → (∀ m ∈ l, 0 ≤ m.nd ∧ m.nd < 10) → setM p l a < 1024
  | [], a, ha, _ => ha
  | m :: r, a, ha, h => by
    have hm := h m (by simp)
    have hp := pow_lt (k := m.nd.toNat) (by omega)
    rw [setM]
    refine setM_lt p r _ ?_ fun y hy => h y (by simp [hy])
    split
    · exact or_lt10 ha hp
    · exact ha
theorem mem_votS {l : List Ms} {x : Cl} {k : Nat} : (votS l x).testBit k = true ↔ ∃ m ∈ l, x ∈ m.vo ∧ m.nd.toNat = k := by
  unfold votS; rw [setM_bit]; simp [hasC]
theorem mem_accS {l : List Ms} {x : Cl} {k : Nat} : (accS l x).testBit k = true ↔ ∃ m ∈ l, x ∈ m.ac ∧ m.nd.toNat = k := by
  unfold accS; rw [setM_bit]; simp [hasC]
theorem viewL_len : ∀ (l : List Ms) (c : List Mb), (viewL l c).length = c.length
  | [], _ => rfl
  | m :: r, c => by rw [viewL, viewL_len r, List.length_set]
theorem viewV_len (nd : Int) (t : Tr) (he : List Ms) : (viewV nd t he).length = 10 := by rw [viewV, List.length_set, viewL_len, List.length_replicate]
theorem nth_setI {α : Type} [Inhabited α] (l : List α) (i k : Nat) (x : α) (h : i < l.length) : nth (l.set i x) k = if i = k then x else nth l k := by
  unfold nth
  rw [List.getD_eq_getElem?_getD, List.getD_eq_getElem?_getD, List.getElem?_set]
  by_cases e : i = k
  · subst e; simp [h]
  · simp [e]
theorem nth_rep (k : Nat) : nth (List.replicate 10 mb0) k = mb0 := by
  unfold nth
  rw [List.getD_eq_getElem?_getD, List.getElem?_replicate]
  split <;> rfl
/-- Who is declared in a view. -/
theorem viewL_mem : ∀ (l : List Ms) (c : List Mb) (k : Nat), c.length = 10 → (∀ m ∈ l, 0 ≤ m.nd ∧ m.nd < 10) → nth (viewL l c) k = nth c k ∨ ∃ m ∈ l, m.nd.toNat = k ∧ nth (viewL l c) k = ⟨true, m.t⟩
  | [], c, k, _, _ => .inl rfl
  | m :: r, c, k, hc, h => by
    have hm := h m (by simp)
    rw [viewL]
    rcases viewL_mem r (c.set m.nd.toNat ⟨true, m.t⟩) k (by rw [List.length_set]; exact hc) (fun y hy => h y (by simp [hy])) with h1 | ⟨y, h1, h2, h3⟩
    · rw [h1, nth_setI _ _ _ _ (by omega)]
      by_cases e : m.nd.toNat = k
      · rw [if_pos e]; exact .inr ⟨m, by simp, e, rfl⟩
      · rw [if_neg e]; exact .inl rfl
    · exact .inr ⟨y, by simp [h1], h2, h3⟩
theorem viewL_out : ∀ (l : List Ms) (c : List Mb) (k : Nat), c.length = 10 → (∀ m ∈ l, 0 ≤ m.nd ∧ m.nd < 10) → (∀ m ∈ l, m.nd.toNat ≠ k) → nth (viewL l c) k = nth c k
  | [], _, _, _, _, _ => rfl
  | m :: r, c, k, hc, h, hk => by
    have hm := h m (by simp)
    rw [viewL, viewL_out r _ k (by rw [List.length_set]; exact hc) (fun y hy => h y (by simp [hy])) (fun y hy => hk y (by simp [hy])), nth_setI _ _ _ _ (by omega), if_neg (hk m (by simp))]
theorem viewL_at : ∀ (l : List Ms) (c : List Mb) {m : Ms}, c.length = 10 → (∀ m ∈ l, 0 ≤ m.nd ∧ m.nd < 10) → l.Pairwise (fun a b => a.nd < b.nd) → m ∈ l → nth (viewL l c) m.nd.toNat = ⟨true, m.t⟩
  | y :: r, c, m, hc, h, hp, hm => by
    obtain ⟨p1, p2⟩ := List.pairwise_cons.1 hp
    have hy := h y (by simp)
    rw [viewL]
    rcases List.mem_cons.1 hm with rfl | hm
    · rw [viewL_out r _ _ (by rw [List.length_set]; exact hc) (fun z hz => h z (by simp [hz])) (fun z hz => by have := p1 z hz; omega), nth_setI _ _ _ _ (by omega), if_pos rfl]
    · exact viewL_at r _ (by rw [List.length_set]; exact hc) (fun z hz => h z (by simp [hz])) p2 hm
theorem VoOK.hb {n : Nat} (hn : n ≤ 10) {v : Vo} (h : VoOK n v) : ∀ m ∈ v.he, 0 ≤ m.nd ∧ m.nd < 10 := fun m hm => by
  have := (h.he m hm).1.nd0
  have := (h.he m hm).1.nd1
  omega
abbrev viewF (v : Vo) : List Mb := viewV v.nd v.t v.he
theorem view_self {n : Nat} {v : Vo} (h : VoOK n v) : nth (viewF v) v.nd.toNat = ⟨true, v.t⟩ := by
  have := h.nd0; have := h.nd1
  rw [viewF, viewV, nth_setI _ _ _ _ (by rw [viewL_len, List.length_replicate]; omega), if_pos rfl]
theorem view_at {n : Nat} (hn : n ≤ 10) {v : Vo} (h : VoOK n v) {m : Ms} (hm : m ∈ v.he) : nth (viewF v) m.nd.toNat = ⟨true, m.t⟩ := by
  have := h.nd0; have := h.nd1
  have h1 := (h.he m hm).2
  have := h.hb hn m hm
  rw [viewF, viewV, nth_setI _ _ _ _ (by rw [viewL_len, List.length_replicate]; omega), if_neg (by omega)]
  exact viewL_at _ _ (by rw [List.length_replicate]) (h.hb hn) h.asc hm
/-- A member of a view is the node itself, or one that was heard. -/
theorem view_mem {n : Nat} (hn : n ≤ 10) {v : Vo} (h : VoOK n v) {k : Nat} (hk : (declN (viewF v)).testBit k = true) : k = v.nd.toNat ∨ ∃ m ∈ v.he, m.nd.toNat = k := by
  have := h.nd0; have := h.nd1
  unfold declN at hk
  rw [declTo_bit] at hk
  simp only [Bool.and_eq_true, decide_eq_true_eq] at hk
  rcases Nat.decEq v.nd.toNat k with e | e
  · right
    have h2 := hk.2
    rw [viewF, viewV, nth_setI _ _ _ _ (by rw [viewL_len, List.length_replicate]; omega), if_neg e] at h2
    rcases viewL_mem v.he (List.replicate 10 mb0) k (by rw [List.length_replicate]) (h.hb hn) with h3 | ⟨m, h3, h4, _⟩
    · rw [h3, nth_rep] at h2; cases h2
    · exact ⟨m, h3, h4⟩
  · exact .inl e.symm
theorem mem_catM : ∀ (l : List Ms) (a : List Cl) (x : Cl), x ∈ catM l a ↔ x ∈ a ∨ ∃ m ∈ l, x ∈ m.vo ∨ x ∈ m.ac
  | [], a, x => by simp [catM]
  | m :: r, a, x => by
    rw [catM, mem_catM r]
    simp only [List.mem_append, List.mem_cons, exists_eq_or_imp, or_assoc]
theorem mem_know {l : List Ms} {x : Cl} : x ∈ knowM l ↔ okC x = true ∧ ∃ m ∈ l, x ∈ m.vo ∨ x ∈ m.ac := by
  unfold knowM; rw [mem_sort, mem_catM]; simp
theorem nxt_some {c : List Mb} {v : Vo} {x : Cl} (h : nxtV c v = some x) : okC x = true ∧ x ∉ v.ac ∧ (∀ y ∈ v.ac, ctrC x y = false) ∧ accN c v.nd.toNat (votS (v.he ++ [sayV v]) x) (accS (v.he ++ [sayV v]) x) = true := by
  unfold nxtV at h
  have h1 := List.mem_of_find?_eq_some h
  have h2 := List.find?_some h
  simp only [canV, Bool.and_eq_true, Bool.not_eq_true', hasC, decide_eq_false_iff_not] at h2
  exact ⟨(mem_know.1 h1).1, h2.1, (cons_put.1 h2.2.1).2, h2.2.2⟩
theorem nxt_none {c : List Mb} {v : Vo} (h : nxtV c v = none) {x : Cl} (hk : x ∈ knowM (v.he ++ [sayV v])) (hx : x ∉ v.ac) (hc : consC v.ac = true) (hy : ∀ y ∈ v.ac, ctrC x y = false) :
    accN c v.nd.toNat (votS (v.he ++ [sayV v]) x) (accS (v.he ++ [sayV v]) x) = false := by
  unfold nxtV at h
  have h1 := List.find?_eq_none.1 h x hk
  simp only [canV, Bool.and_eq_true, Bool.not_eq_true', hasC, decide_eq_false_iff_not] at h1
  cases e : accN c v.nd.toNat (votS (v.he ++ [sayV v]) x) (accS (v.he ++ [sayV v]) x)
  · rfl
  · exact absurd ⟨hx, cons_put.2 ⟨hc, hy⟩, e⟩ h1
theorem mem_addA {v : Vo} {x y : Cl} (hv : PlC v.ac) (hx : okC x = true) : y ∈ (addA v x).ac ↔ y ∈ v.ac ∨ y = x := by
  unfold addA
  dsimp only
  rw [mem_sort, List.mem_append, List.mem_singleton]
  constructor
  · exact fun h => h.2
  · rintro (h | rfl)
    · exact ⟨hv.ok y h, .inl h⟩
    · exact ⟨hx, .inr rfl⟩
/-- What is kept while claims are accepted. -/
theorem setA_ind {c : List Mb} {P : Vo → Prop} (hs : ∀ v x, P v → nxtV c v = some x → P (addA v x)) : ∀ (n : Nat) (v : Vo), P v → P (setA c n v)
  | 0, v, h => h
  | n + 1, v, h => by
    rw [setA]
    split
    · exact h
    · rename_i x hx
      exact setA_ind hs n _ (hs v x h hx)
theorem setA_end {c : List Mb} : ∀ (n : Nat) (v : Vo), PlC v.ac → 128 - v.ac.length < n → nxtV c (setA c n v) = none
  | 0, v, _, h => by omega
  | n + 1, v, hp, h => by
    rw [setA]
    split
    · assumption
    · rename_i x hx
      obtain ⟨h1, h2, _⟩ := nxt_some hx
      have h3 : PlC (addA v x).ac := plc_sort _
      have h4 : v.ac.length < (addA v x).ac.length := plc_sub_len hp (fun y hy => (mem_addA hp h1).2 (.inl hy)) (fun e => h2 (by rw [e]; exact (mem_addA hp h1).2 (.inr rfl))) h3
      have := h3.len
      exact setA_end n _ h3 (by omega)
theorem mem_conL {c : List Mb} {k : Nat} {l : List Ms} {y : Cl} : ∀ (a o : List Cl), (∀ x ∈ a, okC x = true) → (∀ x ∈ o, okC x = true) → (y ∈ conL c k l a o ↔ y ∈ o ∨ y ∈ a ∧ conN c k (accS l y) = true)
  | [], o, _, _ => by simp [conL]
  | x :: r, o, ha, ho => by
    have hx := ha x (by simp)
    rw [conL, mem_conL r _ (fun z hz => ha z (by simp [hz])) (fun z hz => by
      split at hz
      · exact (mem_sort.1 hz).1
      · exact ho z hz)]
    cases e : conN c k (accS l x) with
    | true =>
      rw [if_pos rfl, mem_sort, List.mem_append, List.mem_singleton]
      constructor
      · rintro (⟨_, h | rfl⟩ | ⟨h1, h2⟩)
        · exact .inl h
        · exact .inr ⟨by simp, e⟩
        · exact .inr ⟨by simp [h1], h2⟩
      · rintro (h | ⟨h1, h2⟩)
        · exact .inl ⟨ho y h, .inl h⟩
        · rcases List.mem_cons.1 h1 with rfl | h1
          · exact .inl ⟨hx, .inr rfl⟩
          · exact .inr ⟨h1, h2⟩
    | false =>
      rw [if_neg (by simp)]
      constructor
      · rintro (h | ⟨h1, h2⟩)
        · exact .inl h
        · exact .inr ⟨by simp [h1], h2⟩
      · rintro (h | ⟨h1, h2⟩)
        · exact .inl h
        · rcases List.mem_cons.1 h1 with rfl | h1
          · rw [e] at h2; cases h2
          · exact .inr ⟨h1, h2⟩
theorem plc_conL {c : List Mb} {k : Nat} {l : List Ms} : ∀ (a o : List Cl), PlC o → PlC (conL c k l a o)
  | [], o, h => h
  | x :: r, o, h => by
    rw [conL]
    refine plc_conL r _ ?_
    split
    · exact plc_sort _
    · exact h
theorem asc_len : ∀ (l : List Ms) (lo : Int), lo ≤ 10 → l.Pairwise (fun a b => a.nd < b.nd) → (∀ m ∈ l, lo ≤ m.nd ∧ m.nd < 10) → (l.length : Int) ≤ 10 - lo
  | [], lo, h, _, _ => by simp; omega
  | m :: r, lo, _, hp, h => by
    obtain ⟨h1, h2⟩ := List.pairwise_cons.1 hp
    have hm := h m (by simp)
    have := asc_len r (m.nd + 1) (by omega) h2 fun y hy => by have := h1 y hy; have := h y (by simp [hy]); omega
    simp only [List.length_cons]; omega
theorem VoOK.hlen {n : Nat} (hn : n ≤ 10) {v : Vo} (h : VoOK n v) : v.he.length ≤ 10 := by
  have := asc_len v.he 0 (by omega) h.asc (h.hb hn)
  omega
end Go.Proofs.YtdhogcklnehdhaaGreatDoor
namespace Go.Proofs.YtdhogcklnehdhaaGreatDoor
set_option linter.unusedSimpArgs false
set_option linter.unusedVariables false
set_option linter.unnecessarySimpa false
set_option linter.unusedSectionVars false
set_option maxRecDepth 100000
open Go Go.RowKit Go.Am Go.Proofs.Grow
theorem setM_app (p : Ms → Bool) : ∀ (l r : List Ms) (a : Nat), setM p (l ++ r) a = setM p r (setM p l a)
  | [], r, a => rfl
  | m :: l, r, a => by rw [List.cons_append, setM, setM, setM_app p l]
theorem catM_app : ∀ (l r : List Ms) (a : List Cl), catM (l ++ r) a = catM r (catM l a)
  | [], r, a => rfl
  | m :: l, r, a => by rw [List.cons_append, catM, catM, catM_app l]
/-- What can be accepted does not look at the number. -/
theorem nxt_sq (c : List Mb) (v : Vo) (s : Int) (t : Tr) (co : List Cl) : nxtV c { v with sq := s, co := co, t := t } = nxtV c v := by
  unfold nxtV knowM
  simp only [catM_app]
  have e : canV c { v with sq := s, co := co, t := t } (v.he ++ [sayV { v with sq := s, co := co, t := t }]) = canV c v (v.he ++ [sayV v]) := by
    funext x
    unfold canV votS accS
    simp only [setM_app]
    rfl
  rw [e]
  rfl
/-- A voter that goes on. -/
structure Grows (u w : Vo) : Prop where
  nd : w.nd = u.nd
  t : w.t = u.t
  sq : u.sq ≤ w.sq
  vo : ∀ x ∈ u.vo, x ∈ w.vo
  ac : ∀ x ∈ u.ac, x ∈ w.ac
  co : ∀ x ∈ u.co, x ∈ w.co
  eq : u.sq = w.sq → u.vo = w.vo ∧ u.ac = w.ac
theorem Grows.refl (u : Vo) : Grows u u := ⟨rfl, rfl, Int.le_refl _, fun _ h => h, fun _ h => h, fun _ h => h, fun _ => ⟨rfl, rfl⟩⟩
theorem Grows.trans {u v w : Vo} (h : Grows u v) (k : Grows v w) : Grows u w :=
  ⟨k.nd.trans h.nd, k.t.trans h.t, Int.le_trans h.sq k.sq, fun x hx => k.vo x (h.vo x hx), fun x hx => k.ac x (h.ac x hx), fun x hx => k.co x (h.co x hx), fun e => by
    have h1 := h.sq; have h2 := k.sq
    obtain ⟨a, b⟩ := h.eq (by omega)
    obtain ⟨c, d⟩ := k.eq (by omega)
    exact ⟨a.trans c, b.trans d⟩⟩
/-- A message of a voter as it was once. -/
structure Past (m : Ms) (u : Vo) : Prop where
  t : m.t = u.t
  sq : m.sq ≤ u.sq
  vo : ∀ x ∈ m.vo, x ∈ u.vo
  ac : ∀ x ∈ m.ac, x ∈ u.ac
  eq : m.sq = u.sq → m.vo = u.vo ∧ m.ac = u.ac
theorem Past.say (u : Vo) : Past (sayV u) u := ⟨rfl, Int.le_refl _, fun _ h => h, fun _ h => h, fun _ => ⟨rfl, rfl⟩⟩
theorem Past.grow {m : Ms} {u w : Vo} (h : Past m u) (k : Grows u w) : Past m w :=
  ⟨h.t.trans k.t.symm, Int.le_trans h.sq k.sq, fun x hx => k.vo x (h.vo x hx), fun x hx => k.ac x (h.ac x hx), fun e => by
    have h1 := h.sq; have h2 := k.sq
    obtain ⟨a, b⟩ := h.eq (by omega)
    obtain ⟨c, d⟩ := k.eq (by omega)
    exact ⟨a.trans c, b.trans d⟩⟩
/-- The same but for what was accepted. -/
structure Like (v u : Vo) : Prop where
  nd : u.nd = v.nd
  sq : u.sq = v.sq
  t : u.t = v.t
  vo : u.vo = v.vo
  co : u.co = v.co
  he : u.he = v.he
  ac : ∀ x ∈ v.ac, x ∈ u.ac
theorem Like.refl (v : Vo) : Like v v := ⟨rfl, rfl, rfl, rfl, rfl, rfl, fun _ h => h⟩
theorem add_ok {n : Nat} {c : List Mb} {v : Vo} {x : Cl} (h : VoOK n v) (hx : nxtV c v = some x) : VoOK n (addA v x) := by
  obtain ⟨h1, h2, h3, _⟩ := nxt_some hx
  have h4 : PlC (addA v x).ac := plc_sort _
  have h5 : ∀ y ∈ v.ac, y ∈ (addA v x).ac := fun y hy => (mem_addA h.ac h1).2 (.inl hy)
  have h6 := plc_sub_le h.ac h5 h4
  refine { h with sq1 := ?_, ac := h4, ca := ?_, sub := fun y hy => h5 y (h.sub y hy) }
  · have := h.sq1
    show v.sq ≤ 1 + (v.vo.length : Int) + ((addA v x).ac.length : Int)
    omega
  · refine cons_sub (b := v.ac ++ [x]) (fun y hy => ?_) (cons_put.2 ⟨h.ca, h3⟩)
    rcases (mem_addA h.ac h1).1 hy with h7 | rfl
    · simp [h7]
    · simp
theorem setA_like {n : Nat} {c : List Mb} {v : Vo} (h : VoOK n v) (k : Nat) : VoOK n (setA c k v) ∧ Like v (setA c k v) :=
  setA_ind (P := fun u => VoOK n u ∧ Like v u) (fun u x ⟨h1, h2⟩ hx => by
    obtain ⟨e, _⟩ := nxt_some hx
    exact ⟨add_ok h1 hx, ⟨h2.nd, h2.sq, h2.t, h2.vo, h2.co, h2.he, fun y hy => (mem_addA h1.ac e).2 (.inl (h2.ac y hy))⟩⟩) k v ⟨h, .refl v⟩
/-- What holds of all that is accepted. -/
theorem setA_acc {n : Nat} {c : List Mb} {Q : Cl → Prop} {v : Vo} (h : VoOK n v) (h0 : ∀ x ∈ v.ac, Q x) (hs : ∀ u x, VoOK n u → Like v u → (∀ y ∈ u.ac, Q y) → nxtV c u = some x → Q x) (k : Nat) : ∀ x ∈ (setA c k v).ac, Q x :=
  (setA_ind (P := fun u => (VoOK n u ∧ Like v u) ∧ ∀ y ∈ u.ac, Q y) (fun u x ⟨⟨h1, h2⟩, h3⟩ hx => by
    obtain ⟨e, _⟩ := nxt_some hx
    refine ⟨⟨add_ok h1 hx, ⟨h2.nd, h2.sq, h2.t, h2.vo, h2.co, h2.he, fun y hy => (mem_addA h1.ac e).2 (.inl (h2.ac y hy))⟩⟩, fun y hy => ?_⟩
    rcases (mem_addA h1.ac e).1 hy with h4 | rfl
    · exact h3 y h4
    · exact hs u y h1 h2 h3 hx) k v ⟨⟨h, .refl v⟩, h0⟩).2
/-- A voter that has settled. -/
structure Set1 (n : Nat) (v w : Vo) : Prop where
  ok : VoOK n w
  nd : w.nd = v.nd
  sq : w.sq = v.sq
  t : w.t = v.t
  vo : w.vo = v.vo
  he : w.he = v.he
  ac : ∀ x ∈ v.ac, x ∈ w.ac
  co : ∀ x ∈ v.co, x ∈ w.co
  set : nxtV (viewF w) w = none
  new : ∀ x ∈ w.co, x ∈ v.co ∨ x ∈ w.ac ∧ conN (viewF w) w.nd.toNat (accS (w.he ++ [sayV w]) x) = true
  acc : ∀ Q : Cl → Prop, (∀ x ∈ v.ac, Q x) → (∀ u x, VoOK n u → Like v u → (∀ y ∈ u.ac, Q y) → nxtV (viewF u) u = some x → Q x) → ∀ x ∈ w.ac, Q x
theorem setV_spec {n : Nat} {v : Vo} (h : VoOK n v) : Set1 n v (setV v) := by
  obtain ⟨h1, h2⟩ := setA_like (c := viewF v) h 129
  have hw : viewF (setV v) = viewF v := by
    show viewV (setA (viewF v) 129 v).nd (setA (viewF v) 129 v).t (setA (viewF v) 129 v).he = viewV v.nd v.t v.he
    rw [h2.nd, h2.t, h2.he]
  have hco : ∀ y, y ∈ (setV v).co ↔ y ∈ v.co ∨ y ∈ (setA (viewF v) 129 v).ac ∧ conN (viewF v) v.nd.toNat (accS (v.he ++ [sayV (setA (viewF v) 129 v)]) y) = true := fun y => by
    show y ∈ conL (viewF v) v.nd.toNat (v.he ++ [sayV (setA (viewF v) 129 v)]) (setA (viewF v) 129 v).ac (setA (viewF v) 129 v).co ↔ _
    rw [mem_conL _ _ h1.ac.ok h1.co.ok, h2.co]
  refine ⟨{ h1 with co := plc_conL _ _ h1.co, sub := fun y hy => ?_ }, h2.nd, h2.sq, h2.t, h2.vo, h2.he, h2.ac, fun x hx => (hco x).2 (.inl hx), ?_, fun x hx => ?_, fun Q q1 q2 => ?_⟩
  · rcases (hco y).1 hy with h3 | h3
    · exact h2.ac y (h.sub y h3)
    · exact h3.1
  · rw [hw]
    show nxtV (viewF v) { setA (viewF v) 129 v with co := (setV v).co } = none
    rw [show ({ setA (viewF v) 129 v with co := (setV v).co } : Vo) = { setA (viewF v) 129 v with sq := (setA (viewF v) 129 v).sq, co := (setV v).co, t := (setA (viewF v) 129 v).t } from rfl, nxt_sq]
    exact setA_end 129 v h.ac (by omega)
  · rcases (hco x).1 hx with h3 | ⟨h3, h4⟩
    · exact .inl h3
    · right
      refine ⟨h3, ?_⟩
      rw [hw, show (setV v).nd = v.nd from h2.nd, show (setV v).he = v.he from h2.he]
      have e : accS (v.he ++ [sayV (setV v)]) x = accS (v.he ++ [sayV (setA (viewF v) 129 v)]) x := by
        unfold accS
        rw [setM_app, setM_app]
        rfl
      rw [e]
      exact h4
  · exact setA_acc (Q := Q) (c := viewF v) h q1 (fun u x u1 u2 u3 u4 => q2 u x u1 u2 u3 (by
      rw [show viewF u = viewF v by unfold viewF; rw [u2.nd, u2.t, u2.he]]
      exact u4)) 129
/-- A voter before and behind a turn: what changed before it settled. -/
structure Turn (b v : Vo) : Prop where
  nd : v.nd = b.nd
  sq : v.sq = b.sq
  t : v.t = b.t
  vo : ∀ x ∈ b.vo, x ∈ v.vo
  ac : v.ac = b.ac
  co : v.co = b.co
structure Set2 (n : Nat) (b v w : Vo) : Prop where
  ok : VoOK n w
  gr : Grows b w
  vo : w.vo = v.vo
  he : w.he = v.he
  set : nxtV (viewF w) w = none
  new : ∀ x ∈ w.co, x ∈ v.co ∨ x ∈ w.ac ∧ conN (viewF w) w.nd.toNat (accS (w.he ++ [sayV w]) x) = true
  acc : ∀ Q : Cl → Prop, (∀ x ∈ v.ac, Q x) → (∀ u x, VoOK n u → Like v u → (∀ y ∈ u.ac, Q y) → nxtV (viewF u) u = some x → Q x) → ∀ x ∈ w.ac, Q x
theorem turV_spec {n : Nat} {b v : Vo} (hb : VoOK n b) (hv : VoOK n v) (h : Turn b v) : Set2 n b v (turV b v) := by
  have s := setV_spec hv
  unfold turV
  have e1 : ∀ x ∈ b.vo, x ∈ (setV v).vo := fun x hx => by rw [s.vo]; exact h.vo x hx
  have e2 : ∀ x ∈ b.ac, x ∈ (setV v).ac := fun x hx => s.ac x (by rw [h.ac]; exact hx)
  have e3 : ∀ x ∈ b.co, x ∈ (setV v).co := fun x hx => s.co x (by rw [h.co]; exact hx)
  have e4 : (setV v).sq = b.sq := s.sq.trans h.sq
  split
  · rename_i hc
    exact ⟨s.ok, ⟨s.nd.trans h.nd, s.t.trans h.t, by rw [e4]; exact Int.le_refl _, e1, e2, e3, fun _ => hc⟩, s.vo, s.he, s.set, s.new, s.acc⟩
  · rename_i hc
    have hl : (b.vo.length : Int) + (b.ac.length : Int) + 1 ≤ ((setV v).vo.length : Int) + ((setV v).ac.length : Int) := by
      have l1 := plc_sub_le hb.vo e1 s.ok.vo
      have l2 := plc_sub_le hb.ac e2 s.ok.ac
      rcases Classical.em (b.vo = (setV v).vo) with g1 | g1
      · have g2 : b.ac ≠ (setV v).ac := fun g2 => hc ⟨g1, g2⟩
        have := plc_sub_len hb.ac e2 g2 s.ok.ac
        omega
      · have := plc_sub_len hb.vo e1 g1 s.ok.vo
        omega
    have h0 := hb.sq0
    have h1 := hb.sq1
    refine ⟨{ s.ok with sq0 := ?_, sq1 := ?_ }, ⟨s.nd.trans h.nd, s.t.trans h.t, ?_, e1, e2, e3, fun e => ?_⟩, s.vo, s.he, ?_, fun x hx => ?_, s.acc⟩
    · show 1 ≤ (setV v).sq + 1
      omega
    · show (setV v).sq + 1 ≤ 1 + ((setV v).vo.length : Int) + ((setV v).ac.length : Int)
      omega
    · show b.sq ≤ (setV v).sq + 1
      omega
    · have e5 : b.sq = (setV v).sq + 1 := e
      omega
    · have := nxt_sq (viewF (setV v)) (setV v) ((setV v).sq + 1) (setV v).t (setV v).co
      exact this.trans s.set
    · rcases s.new x hx with h3 | ⟨h3, h4⟩
      · exact .inl h3
      · refine .inr ⟨h3, ?_⟩
        have e : accS ((setV v).he ++ [sayV { setV v with sq := (setV v).sq + 1 }]) x = accS ((setV v).he ++ [sayV (setV v)]) x := by
          unfold accS
          rw [setM_app, setM_app]
          rfl
        show conN (viewF (setV v)) (setV v).nd.toNat (accS ((setV v).he ++ [sayV { setV v with sq := (setV v).sq + 1 }]) x) = true
        rw [e]
        exact h4
/-- What stands in a list into which a message was put. -/
theorem putM_mem : ∀ {l : List Ms} {m y : Ms}, l.Pairwise (fun a b => a.nd < b.nd) → (y ∈ putM l m ↔ y = m ∨ y ∈ l ∧ y.nd ≠ m.nd)
  | [], m, y, _ => by simp [putM]
  | z :: r, m, y, h => by
    obtain ⟨h1, h2⟩ := List.pairwise_cons.1 h
    rw [putM]
    split
    · rename_i e
      rw [List.mem_cons, putM_mem h2, List.mem_cons]
      constructor
      · rintro (rfl | h3 | h3)
        · exact .inr ⟨.inl rfl, by omega⟩
        · exact .inl h3
        · exact .inr ⟨.inr h3.1, h3.2⟩
      · rintro (h3 | ⟨h3 | h3, h4⟩)
        · exact .inr (.inl h3)
        · exact .inl h3
        · exact .inr (.inr ⟨h3, h4⟩)
    · split
      · rename_i e0 e
        rw [List.mem_cons, List.mem_cons]
        constructor
        · rintro (h3 | h3)
          · exact .inl h3
          · exact .inr ⟨.inr h3, by have := h1 y h3; omega⟩
        · rintro (h3 | ⟨h3 | h3, h4⟩)
          · exact .inl h3
          · subst h3; exact absurd e h4
          · exact .inr h3
      · rename_i e0 e
        rw [List.mem_cons, List.mem_cons]
        constructor
        · rintro (h3 | h3 | h3)
          · exact .inl h3
          · subst h3; exact .inr ⟨.inl rfl, e⟩
          · exact .inr ⟨.inr h3, by have := h1 y h3; omega⟩
        · rintro (h3 | ⟨h3 | h3, h4⟩)
          · exact .inl h3
          · exact .inr (.inl h3)
          · exact .inr (.inr h3)
theorem putM_asc : ∀ {l : List Ms} {m : Ms}, l.Pairwise (fun a b => a.nd < b.nd) → (putM l m).Pairwise (fun a b => a.nd < b.nd)
  | [], m, _ => by simp [putM]
  | z :: r, m, h => by
    obtain ⟨h1, h2⟩ := List.pairwise_cons.1 h
    rw [putM]
    split
    · rename_i e
      refine List.pairwise_cons.2 ⟨fun y hy => ?_, putM_asc h2⟩
      rcases (putM_mem h2).1 hy with rfl | ⟨h3, _⟩
      · exact e
      · exact h1 y h3
    · split
      · rename_i e0 e
        exact List.pairwise_cons.2 ⟨fun y hy => by have := h1 y hy; omega, h2⟩
      · rename_i e0 e
        refine List.pairwise_cons.2 ⟨fun y hy => ?_, h⟩
        rcases List.mem_cons.1 hy with rfl | hy
        · omega
        · have := h1 y hy; omega
theorem ok_hear {n : Nat} {v : Vo} {m : Ms} (h : VoOK n v) (hm : MsOK n m) (hn : m.nd ≠ v.nd) : VoOK n { v with he := putM v.he m } :=
  { h with
    asc := putM_asc h.asc
    he := fun y hy => by
      rcases (putM_mem h.asc).1 hy with rfl | ⟨h1, _⟩
      · exact ⟨hm, hn⟩
      · exact h.he y h1 }
theorem ok_vote {n : Nat} {v : Vo} {x : Cl} (h : VoOK n v) (hx : okC x = true) (hc : ∀ y ∈ v.vo, ctrC x y = false) : VoOK n { v with vo := sortC (v.vo ++ [x]) } := by
  have h1 : ∀ y ∈ v.vo, y ∈ sortC (v.vo ++ [x]) := fun y hy => mem_sort.2 ⟨h.vo.ok y hy, by simp [hy]⟩
  have h2 := plc_sub_le h.vo h1 (plc_sort _)
  refine { h with sq1 := ?_, vo := plc_sort _, cv := ?_ }
  · have := h.sq1
    show v.sq ≤ 1 + ((sortC (v.vo ++ [x])).length : Int) + (v.ac.length : Int)
    omega
  · exact cons_sub (b := v.vo ++ [x]) (fun y hy => (mem_sort.1 hy).2) (cons_put.2 ⟨h.cv, hc⟩)
theorem any_ctr {l : List Cl} {x : Cl} (h : ¬ (l.any (ctrC x) = true)) : ∀ y ∈ l, ctrC x y = false := fun y hy => by
  cases e : ctrC x y
  · rfl
  · exact absurd (List.any_eq_true.2 ⟨y, hy, e⟩) h
theorem say_ok {n : Nat} {v : Vo} (h : VoOK n v) (hn : v.nd < (n : Int)) : MsOK n (sayV v) := ⟨h.nd0, hn, h.sq0, by have := h.sqb; show v.sq ≤ 1000; omega, h.t, h.vo, h.ac⟩
end Go.Proofs.YtdhogcklnehdhaaGreatDoor
