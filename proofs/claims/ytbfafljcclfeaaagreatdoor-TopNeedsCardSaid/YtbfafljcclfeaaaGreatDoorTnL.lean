/- Contracts that are reckoned: all subsets of the first nodes, in their order. -/
import Derived.Test.YtbfafljcclfeaaaGreatDoorTnK
namespace Go.Proofs.YtbfafljcclfeaaaGreatDoor
set_option linter.unusedSimpArgs false
set_option linter.unusedVariables false
set_option linter.unnecessarySimpa false
set_option linter.unusedSectionVars false
set_option maxRecDepth 100000
open Go Go.RowKit Go.Am Go.Proofs.Grow

theorem rank_m (s : Nat) (hs : s < 1024) : FnM Tryz.prog 81 [] [vI (s : Int)] (vI (popN s : Int)) [] := by
  have t0 : (!validS (s : Int)) = false := by rw [valid_nat hs]; rfl
  refine FnM.of htb Tryz.func81 rfl rfl rfl rfl rfl fun cx hN h0 => ?_
  (repeat' (first | ((with_reducible apply WD_id); first | (refine WD_sum ?_) | (refine WD_nxt htb (by exact rfl) ?_) | (refine WD_unk (by exact rfl) ?_; first | (refine WD_t (by exact rfl) (by exact rfl) (by exact known) fun hb => ?_; rw [hb]; clear hb) | (refine WD_f (by exact rfl) (by exact rfl) (by exact known) fun hb => ?_; rw [hb]; clear hb) | ((refine WD_tf (by exact rfl) (by exact rfl) ?_ ?_) <;> (intro hb; (fail_if_success (with_reducible injection hb)); rw [hb]; (try simp only [List.length_map] at hb)))) | (refine WD_call (by exact rfl) ?_; first | (refine WD_c0 (valid_m _) ?_) | (refine WD_c0 (size_m _ ?_) ?_; (exact hyp))) | (refine WD_idx htb ?_) | (refine WD_idxo htb ?_) | (refine WD_lde1 htb ?_) | (refine WD_lde htb ?_) | (refine WD_ste htb ?_) | (refine WD_ap htb ?_) | (refine WD_ap0 htb ?_) | (refine WD_nil htb ?_) | (refine WD_nilr htb ?_) | (refine WD_rem ?_) | (refine WD_quo ?_) | (refine WD_slc htb ?_) | (refine WD_ixa htb ?_) | (refine WD_ix1 htb ?_) | (refine WD_cut htb ?_) | (refine WD_cut3 htb ?_) | (refine WD_lens htb ?_) | (refine WD_caps htb ?_) | (refine WD_cps htb ?_) | (refine WD_cpp htb ?_) | (refine WD_api htb ?_) | (refine WD_apz htb ?_) | (refine WD_clr htb ?_) | (refine WD_t (by exact rfl) (by exact rfl) (by exact known) fun hb => ?_; rw [hb]; clear hb) | (refine WD_f (by exact rfl) (by exact rfl) (by exact known) fun hb => ?_; rw [hb]; clear hb) | ((refine WD_tf (by exact rfl) (by exact rfl) ?_ ?_) <;> (intro hb; (fail_if_success (with_reducible injection hb)); rw [hb]; (try simp only [List.length_map] at hb)))) | (with_reducible apply WA_seq) | ((with_reducible apply gR hmix hN); exact (by kernel_rfl); (try dsimp only [List.append_eq, List.cons_append, List.nil_append])) | ((with_reducible apply WD_end); (first | exact no_draw | (intro _; kernel_rfl)); try simp only [thn, inB, List.length_map, List.cons_append, List.nil_append]) | ((with_reducible apply gCt); exact rfl; exact rfl) | ((with_reducible apply gCf); exact rfl; exact rfl) | ((with_reducible apply gCk); exact rfl; exact known; intro hb; rw [hb]; clear hb) | ((with_reducible apply gCn); exact rfl; exact known; intro hb; rw [hb]; clear hb) | (((with_reducible apply gC2); exact rfl) <;> (intro hb; rw [hb])) | (with_reducible apply WA_block) | ((with_reducible first | apply WA_skip | apply WA_ret | apply WA_exit | apply WA_label); try simp only [thn, inB, List.length_map, List.cons_append, List.nil_append])))
  exact gE (.inr rfl) rfl rfl trivial
def cmpN (a b : Nat) : Int := match cmpI (popN a) (popN b) with
  | 0 => cmpI a b
  | x => x
theorem orI_two (x y : Int) : orI [x, y] = match x with
    | 0 => y
    | z => z := by
  by_cases h : x = 0
  · subst h
    by_cases hy : y = 0
    · subst hy; rfl
    · simp only [orI, if_neg hy]; rfl
  · simp only [orI, if_neg h] <;> (split <;> first | rfl | (rename_i e; exact absurd e h))
theorem cmpN_m (a b : Nat) (ha : a < 1024) (hb : b < 1024) : FnM Tryz.prog 47 [] [vI (a : Int), vI (b : Int)] (vI (cmpN a b)) [] := by
  have orS_m : FnM Tryz.prog 79 [] [.d (.rows 1 [[dI (cmpI (popN a) (popN b))], [dI (cmpI a b)]])] (vI (cmpN a b)) [] := by
    have := orN_m [cmpI (popN a) (popN b), cmpI a b] (by simp)
    rw [orI_two] at this
    exact this
  refine FnM.of htb Tryz.func47 rfl rfl rfl rfl rfl fun cx hN h0 => ?_
  (repeat' (first | ((with_reducible apply WD_id); first | (refine WD_sum ?_) | (refine WD_nxt htb (by exact rfl) ?_) | (refine WD_unk (by exact rfl) ?_; first | (refine WD_t (by exact rfl) (by exact rfl) (by exact known) fun hb => ?_; rw [hb]; clear hb) | (refine WD_f (by exact rfl) (by exact rfl) (by exact known) fun hb => ?_; rw [hb]; clear hb) | ((refine WD_tf (by exact rfl) (by exact rfl) ?_ ?_) <;> (intro hb; (fail_if_success (with_reducible injection hb)); rw [hb]; (try simp only [List.length_map] at hb)))) | (refine WD_call (by exact rfl) ?_; first | (refine WD_c0 (rank_m _ ?_) ?_; (exact hyp)) | (refine WD_c0 (cmp_pm _ _) ?_) | (refine WD_c0 (orS_m) ?_)) | (refine WD_idx htb ?_) | (refine WD_idxo htb ?_) | (refine WD_lde1 htb ?_) | (refine WD_lde htb ?_) | (refine WD_ste htb ?_) | (refine WD_ap htb ?_) | (refine WD_ap0 htb ?_) | (refine WD_nil htb ?_) | (refine WD_nilr htb ?_) | (refine WD_rem ?_) | (refine WD_quo ?_) | (refine WD_slc htb ?_) | (refine WD_ixa htb ?_) | (refine WD_ix1 htb ?_) | (refine WD_cut htb ?_) | (refine WD_cut3 htb ?_) | (refine WD_lens htb ?_) | (refine WD_caps htb ?_) | (refine WD_cps htb ?_) | (refine WD_cpp htb ?_) | (refine WD_api htb ?_) | (refine WD_apz htb ?_) | (refine WD_clr htb ?_) | (refine WD_t (by exact rfl) (by exact rfl) (by exact known) fun hb => ?_; rw [hb]; clear hb) | (refine WD_f (by exact rfl) (by exact rfl) (by exact known) fun hb => ?_; rw [hb]; clear hb) | ((refine WD_tf (by exact rfl) (by exact rfl) ?_ ?_) <;> (intro hb; (fail_if_success (with_reducible injection hb)); rw [hb]; (try simp only [List.length_map] at hb)))) | (with_reducible apply WA_seq) | ((with_reducible apply gR hmix hN); exact (by kernel_rfl); (try dsimp only [List.append_eq, List.cons_append, List.nil_append])) | ((with_reducible apply WD_end); (first | exact no_draw | (intro _; kernel_rfl)); try simp only [thn, inB, List.length_map, List.cons_append, List.nil_append]) | ((with_reducible apply gCt); exact rfl; exact rfl) | ((with_reducible apply gCf); exact rfl; exact rfl) | ((with_reducible apply gCk); exact rfl; exact known; intro hb; rw [hb]; clear hb) | ((with_reducible apply gCn); exact rfl; exact known; intro hb; rw [hb]; clear hb) | (((with_reducible apply gC2); exact rfl) <;> (intro hb; rw [hb])) | (with_reducible apply WA_block) | ((with_reducible first | apply WA_skip | apply WA_ret | apply WA_exit | apply WA_label); try simp only [thn, inB, List.length_map, List.cons_append, List.nil_append])))
  exact gE (.inr rfl) rfl rfl trivial
noncomputable def ktC (f : FuncId) (ys : List AV) (_ : Nat) : Option (AV × List (Nat × AO)) := match Nat.beq f 47 with
  | true => match ys with
    | [.d (.v (.int .i64 (.ofNat a))), .d (.v (.int .i64 (.ofNat b)))] => match Nat.blt a 1024, Nat.blt b 1024 with
      | true, true => some (vI (cmpN a b), [])
      | _, _ => none
    | _ => none
  | false => none
theorem ktC_ok : ∀ f ys n res Mo, ktC f ys n = some (res, Mo) → FnM Tryz.prog f [] ys res Mo := by
  intro f ys n res Mo h
  unfold ktC at h
  split at h
  · rename_i hf
    have := Nat.eq_of_beq_eq_true hf
    subst this
    split at h
    · rename_i a b
      split at h
      · rename_i h1 h2; cases h; exact cmpN_m a b (Nat.le_of_ble_eq_true h1) (Nat.le_of_ble_eq_true h2)
      · cases h
    · cases h
  · cases h
noncomputable def cf1 : Cfg := { P := Tryz.prog, tt := ttT, fs := fsT.get, kt := ktC, pol := fun _ => true }
theorem cf1_ok : CfgOK cf1 := ⟨mixT, ttT_ok, ttT_ord, fun f fn h => BT.good_get fsT_good f fn h, ktC_ok⟩
def eqRN : List (List D) → List Nat → Bool
  | [], [] => true
  | [.v (.int .i64 (.ofNat a))] :: r, b :: l => Nat.beq a b && eqRN r l
  | _, _ => false
theorem eqRN_spec : ∀ {rs : List (List D)} {l : List Nat}, eqRN rs l = true → rs = l.map rN
  | [], [], _ => rfl
  | [], _ :: _, h => by cases h
  | r :: rs, l, h => by
    unfold eqRN at h
    split at h
    · rename_i he; cases he
    · rename_i a r' b l' he
      cases he
      rw [Bool.and_eq_true] at h
      rw [Nat.eq_of_beq_eq_true h.1, eqRN_spec h.2]; rfl
    · cases h
noncomputable def okL (x : Rn (AV × List (Nat × AO) × Nat)) (l : List Nat) : Bool := match x with
  | .ok (.own g, Mo, _) => match lk Mo g, Mo with
    | some (.arr _ sz rs), [_] => Nat.beq sz 1 && eqRN rs l
    | _, _ => false
  | .ok (.d (.rows sz rs), [], _) => Nat.beq sz 1 && eqRN rs l
  | _ => false
theorem rows_own {P : Program} {f : FuncId} {ys : List AV} {g ty sz : Nat} {rs : List (List D)} (h : FnM P f [] ys (.own g) [(g, .arr ty sz rs)]) : FnM P f [] ys (.d (.rows sz rs)) [] := by
  intro H0 μ w vs hl hI
  have h0 : ∀ k u, μ k = some u → keyIn ([] : List (Nat × AO)) k = true := fun k u hu => by
    have := hI.free k rfl
    rw [this] at hu; cases hu
  refine (h H0 μ w vs hl hI).mono ?_
  rintro e w' ⟨v, μ', rfl, hI'⟩
  have hle : Le ⟨w, Hot μ (lk []), H0, 1, μ⟩ ⟨[(0, .own g)], [(g, .arr ty sz rs)]⟩ ⟨[(0, .d (.rows sz rs))], []⟩ :=
    Le_view [] h0 [] ⟨⟨_, rfl, .own (ty := ty) (by simp [gone, lk])⟩, rfl, trivial⟩ trivial rfl rfl
  obtain ⟨μ2, h2⟩ := hle _ _ ⟨μ', hI'⟩
  exact ⟨v, μ2, rfl, h2⟩
theorem okL_fn {cf : Cfg} (hc : CfgOK cf) {k : Nat} {f : FuncId} {ys : List AV} {n : Nat} {l : List Nat} (h : okL (runF cf k f [] ys n) l = true) : FnM cf.P f [] ys (lN l) [] := by
  unfold okL at h
  split at h
  · rename_i g Mo n' hr
    have hf := runF_ok hc k _ _ _ _ _ _ _ hr
    split at h
    · rename_i ty sz rs p hlk
      rw [Bool.and_eq_true] at h
      have := Nat.eq_of_beq_eq_true h.1; subst this
      obtain ⟨g', ob⟩ := p
      simp only [lk] at hlk
      split at hlk
      · rename_i hb
        have hg := Nat.eq_of_beq_eq_true hb
        subst hg
        obtain rfl := Option.some.inj hlk
        obtain rfl := eqRN_spec h.2
        exact rows_own hf
      · cases hlk
    · cases h
  · rename_i sz rs n' hr
    have hf := runF_ok hc k _ _ _ _ _ _ _ hr
    rw [Bool.and_eq_true] at h
    have := Nat.eq_of_beq_eq_true h.1; subst this
    obtain rfl := eqRN_spec h.2
    exact hf
  · cases h
def subL : Nat → List Nat
  | 1 => [0, 1]
  | 2 => [0, 1, 2, 3]
  | 3 => [0, 1, 2, 4, 3, 5, 6, 7]
  | 4 => [0, 1, 2, 4, 8, 3, 5, 6, 9, 10, 12, 7, 11, 13, 14, 15]
  | 5 => [0, 1, 2, 4, 8, 16, 3, 5, 6, 9, 10, 12, 17, 18, 20, 24, 7, 11, 13, 14, 19, 21, 22, 25, 26, 28, 15, 23, 27, 29, 30, 31]
  | _ => []
theorem sub1 : okL (runF cf1 60 23 [] [vI ((2 ^ 1 - 1 : Nat) : Int)] 0) (subL 1) = true := by kernel_rfl
theorem sub2 : okL (runF cf1 60 23 [] [vI ((2 ^ 2 - 1 : Nat) : Int)] 0) (subL 2) = true := by kernel_rfl
theorem sub3 : okL (runF cf1 60 23 [] [vI ((2 ^ 3 - 1 : Nat) : Int)] 0) (subL 3) = true := by kernel_rfl
theorem sub4 : okL (runF cf1 60 23 [] [vI ((2 ^ 4 - 1 : Nat) : Int)] 0) (subL 4) = true := by kernel_rfl
theorem sub5 : okL (runF cf1 60 23 [] [vI ((2 ^ 5 - 1 : Nat) : Int)] 0) (subL 5) = true := by kernel_rfl
theorem subs_ok {n : Nat} (h : 1 ≤ n ∧ n ≤ 5) : SubM' n (subL n) := by
  obtain rfl | rfl | rfl | rfl | rfl : n = 1 ∨ n = 2 ∨ n = 3 ∨ n = 4 ∨ n = 5 := by omega
  · exact ⟨by decide, by decide, okL_fn cf1_ok sub1⟩
  · exact ⟨by decide, by decide, okL_fn cf1_ok sub2⟩
  · exact ⟨by decide, by decide, okL_fn cf1_ok sub3⟩
  · exact ⟨by decide, by decide, okL_fn cf1_ok sub4⟩
  · exact ⟨by decide, by decide, okL_fn cf1_ok sub5⟩
end Go.Proofs.YtbfafljcclfeaaaGreatDoor
