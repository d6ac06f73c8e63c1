/- Contracts of the program's functions on lines: keys, checking, finding. -/
import Derived.Test.YtgebgpdoddjfhaaGreatAmZ
import Derived.Test.YtgebgpdoddjfhaaGreatPE
import Derived.Test.YtgebgpdoddjfhaaGreatWA1
namespace Go.Proofs.YtgebgpdoddjfhaaGreat
set_option linter.unusedSimpArgs false
set_option linter.unusedVariables false
set_option linter.unnecessarySimpa false
set_option linter.unusedSectionVars false
set_option maxRecDepth 100000
open Go Go.RowKit Go.Am Go.Proofs.Grow

abbrev aK (a : Int) (u : ByteArray) (i : Int) : AV := .agg [vI a, vS u, vI i]
def ordK (a : Int) (u : ByteArray) (i : Int) (b : Int) (v : ByteArray) (j : Int) : Int := orI [cmpI a b, ordA u i v j]
theorem ordK_ge (x : Lin) (a : Int) (u : ByteArray) (i : Int) : ordK x.acc x.code x.iss a u i ≥ 0 ↔ befL x a u i = false := by
  have h := ordA_neg x.code u x.iss i
  have h0 : lessA x.code x.iss u i = true ↔ ordA x.code x.iss u i < 0 := by rw [← h]; simp
  have e : befL x a u i = false ↔ ¬ (x.acc < a ∨ (x.acc = a ∧ ordA x.code x.iss u i < 0)) := by
    rw [← h0, Bool.eq_false_iff, Ne]
    simp only [befL, Bool.or_eq_true, Bool.and_eq_true, beq_iff_eq, decide_eq_true_eq]
  rw [e]
  simp only [ordK, orI, cmpI]
  by_cases h1 : x.acc < a
  · simp [h1]
  · by_cases h2 : a < x.acc
    · have : ¬ x.acc = a := by omega
      simp [h1, h2, this]
    · have h3 : x.acc = a := by omega
      by_cases h4 : ordA x.code x.iss u i = 0
      · simp [h3, h4]
      · simp [h3, h4]
section
variable {o : Oper} {T : Nat → Option AV} {M : Nat → Option AO} {x y : Operand} {t' : TypeId}
theorem eqK_step {a b : Int} {u v : ByteArray} {i j : Int} (ho : o.op = .binOp .eql 118 x y t') (hx : evA T x = some (aK a u i)) (hy : evA T y = some (aK b v j)) : StepOK Tryz.prog o T M ⟨vB (a == b && eqT u i v j), [], []⟩ :=
  step_eq (us := [.int .i64 a, .string u, .int .i64 i]) (vs := [.int .i64 b, .string v, .int .i64 j]) ho hx hy rfl rfl fun x y w => by
    by_cases h0 : a = b <;> by_cases h : u.toList = v.toList <;> by_cases k : i = j <;> simp [eqGuard, go_sem, eqT, eqS, h0, h, k]
theorem eqL_step {a b : Lin} (ho : o.op = .binOp .neq 69 x y t') (hx : evA T x = some (aL a)) (hy : evA T y = some (aL b)) : StepOK Tryz.prog o T M ⟨vB (!eqLin a b), [], []⟩ :=
  step_neq (us := [.int .i64 a.acc, .string a.code, .int .i64 a.iss, .int .i64 a.bal, .int .i64 a.lim]) (vs := [.int .i64 b.acc, .string b.code, .int .i64 b.iss, .int .i64 b.bal, .int .i64 b.lim]) ho hx hy rfl rfl fun x y w => by
    by_cases h1 : a.acc = b.acc <;> by_cases h2 : a.code.toList = b.code.toList <;> by_cases h3 : a.iss = b.iss <;> by_cases h4 : a.bal = b.bal <;> by_cases h5 : a.lim = b.lim <;> simp [eqGuard, go_sem, eqLin, eqS, h1, h2, h3, h4, h5]
theorem eqO_step {a b : Off} (ho : o.op = .binOp .neq 76 x y t') (hx : evA T x = some (aO a)) (hy : evA T y = some (aO b)) : StepOK Tryz.prog o T M ⟨vB (!eqOff a b), [], []⟩ :=
  step_neq (us := [.int .i64 a.id, .int .i64 a.seller, .string a.sc, .int .i64 a.si, .string a.bc, .int .i64 a.bi, .int .i64 a.amt, .int .i64 a.num, .int .i64 a.den]) (vs := [.int .i64 b.id, .int .i64 b.seller, .string b.sc, .int .i64 b.si, .string b.bc, .int .i64 b.bi, .int .i64 b.amt, .int .i64 b.num, .int .i64 b.den]) ho hx hy rfl rfl fun x y w => by
    have h : (!eqOff a b) = !(a.id == b.id && (a.seller == b.seller && (a.sc.toList == b.sc.toList && (a.si == b.si && (a.bc.toList == b.bc.toList && (a.bi == b.bi && (a.amt == b.amt && (a.num == b.num && a.den == b.den)))))))) := rfl
    rw [h]
    generalize a.id = a1
    generalize b.id = b1
    generalize a.seller = a2
    generalize b.seller = b2
    generalize a.sc = a3
    generalize b.sc = b3
    generalize a.si = a4
    generalize b.si = b4
    generalize a.bc = a5
    generalize b.bc = b5
    generalize a.bi = a6
    generalize b.bi = b6
    generalize a.amt = a7
    generalize b.amt = b7
    generalize a.num = a8
    generalize b.num = b8
    generalize a.den = a9
    generalize b.den = b9
    clear h
    by_cases h1 : a1 = b1
    case neg => simp [eqGuard, go_sem, h1]
    by_cases h2 : a2 = b2
    case neg => simp [eqGuard, go_sem, h1, h2]
    by_cases h3 : a3.toList = b3.toList
    case neg => simp [eqGuard, go_sem, h1, h2, h3]
    by_cases h4 : a4 = b4
    case neg => simp [eqGuard, go_sem, h1, h2, h3, h4]
    by_cases h5 : a5.toList = b5.toList
    case neg => simp [eqGuard, go_sem, h1, h2, h3, h4, h5]
    by_cases h6 : a6 = b6
    case neg => simp [eqGuard, go_sem, h1, h2, h3, h4, h5, h6]
    by_cases h7 : a7 = b7
    case neg => simp [eqGuard, go_sem, h1, h2, h3, h4, h5, h6, h7]
    by_cases h8 : a8 = b8
    case neg => simp [eqGuard, go_sem, h1, h2, h3, h4, h5, h6, h7, h8]
    by_cases h9 : a9 = b9
    case neg => simp [eqGuard, go_sem, h1, h2, h3, h4, h5, h6, h7, h8, h9]
    simp [eqGuard, go_sem, h1, h2, h3, h4, h5, h6, h7, h8, h9]
end
theorem of_pm (x : Lin) : FnM Tryz.prog 86 [] [aL x] (aK x.acc x.code x.iss) [] := by
  refine FnM.of htb Tryz.func86 rfl rfl rfl rfl rfl fun cx hN h0 => ?_
  (repeat' (first | (refine nx ?_) | (refine WD_unk (by exact rfl) ?_; ((refine WD_tf (by exact rfl) (by exact rfl) ?_ ?_) <;> (intro hb; (fail_if_success (with_reducible injection hb)); rw [hb]; (try simp only [List.length_map] at hb)))) | ((refine WD_tf (by exact rfl) (by exact rfl) ?_ ?_) <;> (intro hb; (fail_if_success (with_reducible injection hb)); rw [hb]; (try simp only [List.length_map] at hb))) | (((with_reducible apply gC2); exact rfl) <;> (intro hb; rw [hb]))))
  exact gE (.inr rfl) rfl rfl trivial
theorem or_m (l : List Int) (hl : l.length ≤ 100) : FnM Tryz.prog 111 [] [lI l] (vI (orI l)) [] := by
  refine FnM.of htb Tryz.func111 rfl rfl rfl rfl rfl fun cx hN h0 => ?_
  (repeat' (first | (refine nx ?_) | (refine WD_unk (by exact rfl) ?_; ((refine WD_tf (by exact rfl) (by exact rfl) ?_ ?_) <;> (intro hb; (fail_if_success (with_reducible injection hb)); rw [hb]; (try simp only [List.length_map] at hb)))) | ((refine WD_tf (by exact rfl) (by exact rfl) ?_ ?_) <;> (intro hb; (fail_if_success (with_reducible injection hb)); rw [hb]; (try simp only [List.length_map] at hb))) | (((with_reducible apply gC2); exact rfl) <;> (intro hb; rw [hb]))))
  (refine WA_forV (l.length) [8, 5] [] (fun k => [(8, vI k)]) (fun k => []) (fun k => orI l = orI (l.drop k)) ?h0 ?_)
  case h0 => rfl
  intro k hk hI
  (repeat' (first | (refine nx ?_) | (refine WD_unk (by exact rfl) ?_; ((refine WD_tf (by exact rfl) (by exact rfl) ?_ ?_) <;> (intro hb; (fail_if_success (with_reducible injection hb)); rw [hb]; (try simp only [List.length_map] at hb)))) | ((refine WD_tf (by exact rfl) (by exact rfl) ?_ ?_) <;> (intro hb; (fail_if_success (with_reducible injection hb)); rw [hb]; (try simp only [List.length_map] at hb))) | (((with_reducible apply gC2); exact rfl) <;> (intro hb; rw [hb]))))
  · have hk' : k < l.length := by simp at *; omega
    rw [drop_nth l k hk', orI, if_neg (by simpa using hb)] at hI
    exact gE (.inr rfl) rfl (congrArg vI hI.symm) trivial
  · have hk' : k < l.length := by simp at *; omega
    rw [drop_nth l k hk', orI, if_pos (by simpa using hb)] at hI
    refine ⟨hk', hI, ?_⟩
    (exact LeV [])
  · have hk' : l.length ≤ k := by simp at *; omega
    rw [List.drop_eq_nil_of_le hk'] at hI
    exact gE (.inr rfl) rfl (congrArg vI hI.symm) trivial
theorem cmpK_pm (a : Int) (u : ByteArray) (i : Int) (b : Int) (v : ByteArray) (j : Int) : FnM Tryz.prog 87 [] [aK a u i, aK b v j] (vI (ordK a u i b v j)) [] := by
  refine FnM.of htb Tryz.func87 rfl rfl rfl rfl rfl fun cx hN h0 => ?_
  (repeat' (first | (refine nx ?_) | (refine WD_unk (by exact rfl) ?_; ((refine WD_tf (by exact rfl) (by exact rfl) ?_ ?_) <;> (intro hb; (fail_if_success (with_reducible injection hb)); rw [hb]; (try simp only [List.length_map] at hb)))) | (refine WD_call (by exact rfl) ?_; first | (refine WD_c0 (cmp_pm _ _) ?_) | (refine WD_c0 (ordA_pm _ _ _ _) ?_) | (refine WD_c0 (or_m (l := [cmpI a b, ordA u i v j]) ?y0) ?_; (case y0 => exact hyp))) | ((refine WD_tf (by exact rfl) (by exact rfl) ?_ ?_) <;> (intro hb; (fail_if_success (with_reducible injection hb)); rw [hb]; (try simp only [List.length_map] at hb))) | (((with_reducible apply gC2); exact rfl) <;> (intro hb; rw [hb]))))
  exact gE (.inr rfl) rfl rfl trivial
set_option maxHeartbeats 4000000 in
theorem chkL_pm (l : List Lin) (all : List Acc) (hl : l.length ≤ 1000) (hall : all.length ≤ 1000) : FnM Tryz.prog 63 [] [lL l, lA all] (vI (chkL l all)) [] := by
  refine FnM.of htb Tryz.func63 rfl rfl rfl rfl rfl fun cx hN h0 => ?_
  (repeat' (first | (refine nx ?_) | (refine WD_unk (by exact rfl) ?_; ((refine WD_tf (by exact rfl) (by exact rfl) ?_ ?_) <;> (intro hb; (fail_if_success (with_reducible injection hb)); rw [hb]; (try simp only [List.length_map] at hb)))) | (refine WD_call (by exact rfl) ?_; first | (refine WD_c0 (chkA_pm _) ?_)) | ((refine WD_tf (by exact rfl) (by exact rfl) ?_ ?_) <;> (intro hb; (fail_if_success (with_reducible injection hb)); rw [hb]; (try simp only [List.length_map] at hb))) | (((with_reducible apply gC2); exact rfl) <;> (intro hb; rw [hb]))))
  · exact gE (.inr rfl) rfl (congrArg vI (by unfold chkL; rw [if_pos (by simpa using hb)])) trivial
  · exact gE (.inr rfl) rfl (congrArg vI (by unfold chkL; rw [if_neg (by simp at *; assumption), if_pos (by simp at hb; omega)])) trivial
  have hA : chkA all = 0 := by simp at *; assumption
  have h60 : ¬ 60 < l.length := by simp at hb; omega
  (refine WA_forV (l.length) [20] [] (fun k => [(20, vI k)]) (fun k => []) (fun k => linsOk all none l = linsOk all (prevL l k) (l.drop k)) ?h0 ?_)
  case h0 => rfl
  intro k hk hI
  have hkl := @lin_step all l k hA h60
  have hp := @prevL_pos Lin _ l k
  have hp0 := @prevL_zero Lin _ l k
  have hcm := ordK_ge (nth l ((k : Int) - 1).toNat) (nth l k).acc (nth l k).code (nth l k).iss
  (repeat' (first | (refine nx ?_) | (refine WD_unk (by exact rfl) ?_; ((refine WD_tf (by exact rfl) (by exact rfl) ?_ ?_) <;> (intro hb; (fail_if_success (with_reducible injection hb)); rw [hb]; (try simp only [List.length_map] at hb)))) | (refine WD_call (by exact rfl) ?_; first | (refine WD_c0 (findA_pm _ _ ?y0) ?_; (case y0 => exact hyp)) | (refine WD_c0 (asset_pm _ _) ?_) | (refine WD_c0 (native_pm _ _) ?_) | (refine WD_c0 (okA_pm _) ?_) | (refine WD_c0 (of_pm _) ?_) | (refine WD_c0 (cmpK_pm _ _ _ _ _ _) ?_)) | ((refine WD_tf (by exact rfl) (by exact rfl) ?_ ?_) <;> (intro hb; (fail_if_success (with_reducible injection hb)); rw [hb]; (try simp only [List.length_map] at hb))) | (((with_reducible apply gC2); exact rfl) <;> (intro hb; rw [hb]))))
  (all_goals try simp only [Bool.not_eq_true', Bool.not_eq_false', decide_eq_true_eq, decide_eq_false_iff_not, bne_iff_ne, bne_eq_false_iff_eq, beq_iff_eq, beq_eq_false_iff_ne] at *
   all_goals first
    | (refine gE (.inr rfl) rfl (congrArg vI ((hkl (by omega) hI).1 ?_).symm) trivial
       rw [Bool.eq_false_iff]
       intro hc
       rw [lin_iff] at hc
       by_cases h : 0 < k
       · rw [hp h] at hc; simp only [befO] at hc; first | omega | simp_all
       · rw [hp0 h] at hc; first | omega | simp_all)
    | (refine ⟨by omega, (hkl (by omega) hI).2 ?_, ?_⟩
       rotate_left
       (exact LeV [])
       rw [lin_iff]
       by_cases h : 0 < k
       · rw [hp h]; simp only [befO]; repeat' (first | assumption | omega | (refine ⟨?_, ?_⟩) | (simp_all; done))
       · rw [hp0 h]; repeat' (first | assumption | omega | rfl | (refine ⟨?_, ?_⟩) | (simp_all; done)))
    | exact gE (.inr rfl) rfl (congrArg vI (lin_end hA h60 (by omega) hI).symm) trivial)
theorem isL_pm (x : Lin) (a : Int) (u : ByteArray) (i : Int) : FnM Tryz.prog 142 [(4, .box 3 [vI a]), (5, .box 30 [vS u, vI i])] [aL x, .ptr 4 0, .ptr 5 0] (vB (hasKey a u i x)) [(4, .box 3 [vI a]), (5, .box 30 [vS u, vI i])] := by
  refine FnM.of htb Tryz.func142 rfl rfl rfl rfl rfl fun cx hN h0 => ?_
  (repeat' (first | ((with_reducible apply WD_id); first | (refine WD_eq (eqK_step rfl rfl rfl) ?_)) | (refine nx ?_) | (refine WD_unk (by exact rfl) ?_; ((refine WD_tf (by exact rfl) (by exact rfl) ?_ ?_) <;> (intro hb; (fail_if_success (with_reducible injection hb)); rw [hb]; (try simp only [List.length_map] at hb)))) | (refine WD_call (by exact rfl) ?_; first | (refine WD_c0 (of_pm _) ?_)) | ((refine WD_tf (by exact rfl) (by exact rfl) ?_ ?_) <;> (intro hb; (fail_if_success (with_reducible injection hb)); rw [hb]; (try simp only [List.length_map] at hb))) | (((with_reducible apply gC2); exact rfl) <;> (intro hb; rw [hb]))))
  exact gE (.inr rfl) rfl rfl ⟨rfl, rfl, trivial⟩
theorem idxfL_pm (l : List Lin) (a : Int) (u : ByteArray) (i : Int) (hl : l.length ≤ 1000) : FnM Tryz.prog 141 [(4, .box 3 [vI a]), (5, .box 30 [vS u, vI i])] [lL l, .clo 142 [.ptr 4 0, .ptr 5 0]] (vI (idxL l a u i)) [(4, .box 3 [vI a]), (5, .box 30 [vS u, vI i])] := by
  refine FnM.of htb Tryz.func141 rfl rfl rfl rfl rfl fun cx hN h0 => ?_
  (repeat' (first | (refine nx ?_) | (refine WD_unk (by exact rfl) ?_; ((refine WD_tf (by exact rfl) (by exact rfl) ?_ ?_) <;> (intro hb; (fail_if_success (with_reducible injection hb)); rw [hb]; (try simp only [List.length_map] at hb)))) | ((refine WD_tf (by exact rfl) (by exact rfl) ?_ ?_) <;> (intro hb; (fail_if_success (with_reducible injection hb)); rw [hb]; (try simp only [List.length_map] at hb))) | (((with_reducible apply gC2); exact rfl) <;> (intro hb; rw [hb]))))
  (refine WA_forV (l.length) [8] [] (fun k => [(8, vI k)]) (fun k => []) (fun k => idxL l a u i = idxF (hasKey a u i) k (l.drop k)) ?h0 ?_)
  case h0 => rfl
  intro k hk hI
  (repeat' (first | (refine nx ?_) | (refine WD_unk (by exact rfl) ?_; ((refine WD_tf (by exact rfl) (by exact rfl) ?_ ?_) <;> (intro hb; (fail_if_success (with_reducible injection hb)); rw [hb]; (try simp only [List.length_map] at hb)))) | (refine WD_call (by exact rfl) ?_; first | (refine WD_cM (isL_pm _ _ _ _) ?_)) | ((refine WD_tf (by exact rfl) (by exact rfl) ?_ ?_) <;> (intro hb; (fail_if_success (with_reducible injection hb)); rw [hb]; (try simp only [List.length_map] at hb))) | (((with_reducible apply gC2); exact rfl) <;> (intro hb; rw [hb]))))
  · exact gE (.inr rfl) rfl (congrArg vI (idx_hit hI (by simp at *; omega) (by assumption)).symm) ⟨rfl, rfl, trivial⟩
  · refine ⟨by simp at *; omega, idx_miss hI (by simp at *; omega) (by assumption), ?_⟩
    (exact LeV [])
  · exact gE (.inr rfl) rfl (congrArg vI (idx_end hI (by simp at *; omega)).symm) ⟨rfl, rfl, trivial⟩
theorem idxL_pm (l : List Lin) (a : Int) (u : ByteArray) (i : Int) (hl : l.length ≤ 1000) : FnM Tryz.prog 119 [] [lL l, vI a, aT u i] (vI (idxL l a u i)) [] := by
  refine FnM.of htb Tryz.func119 rfl rfl rfl rfl rfl fun cx hN h0 => ?_
  (repeat' (first | (refine nx ?_) | (refine WD_unk (by exact rfl) ?_; ((refine WD_tf (by exact rfl) (by exact rfl) ?_ ?_) <;> (intro hb; (fail_if_success (with_reducible injection hb)); rw [hb]; (try simp only [List.length_map] at hb)))) | (refine WD_call (by exact rfl) ?_; first | (refine WD_cM (idxfL_pm _ _ _ _ ?y0) ?_; (case y0 => exact hyp))) | ((refine WD_tf (by exact rfl) (by exact rfl) ?_ ?_) <;> (intro hb; (fail_if_success (with_reducible injection hb)); rw [hb]; (try simp only [List.length_map] at hb))) | (((with_reducible apply gC2); exact rfl) <;> (intro hb; rw [hb]))))
  exact gE (.inr rfl) rfl rfl trivial
theorem findL_pm (l : List Lin) (a : Int) (u : ByteArray) (i : Int) (hl : l.length ≤ 1000) : FnM Tryz.prog 115 [] [lL l, vI a, aT u i] (.tup [aL (findL l a u i).1, vB (findL l a u i).2]) [] := by
  refine FnM.of htb Tryz.func115 rfl rfl rfl rfl rfl fun cx hN h0 => ?_
  have hi := idxF_bd (hasKey a u i) l
  have hi2 : idxL l a u i = idxF (hasKey a u i) 0 l := rfl
  (repeat' (first | (refine nx ?_) | (refine WD_unk (by exact rfl) ?_; ((refine WD_tf (by exact rfl) (by exact rfl) ?_ ?_) <;> (intro hb; (fail_if_success (with_reducible injection hb)); rw [hb]; (try simp only [List.length_map] at hb)))) | (refine WD_call (by exact rfl) ?_; first | (refine WD_c0 (idxL_pm _ _ _ _ ?y0) ?_; (case y0 => exact hyp))) | ((refine WD_tf (by exact rfl) (by exact rfl) ?_ ?_) <;> (intro hb; (fail_if_success (with_reducible injection hb)); rw [hb]; (try simp only [List.length_map] at hb))) | (((with_reducible apply gC2); exact rfl) <;> (intro hb; rw [hb]))))
  · exact gE (.inr rfl) rfl (by rw [show findL l a u i = (⟨0, ⟨#[]⟩, 0, 0, 0⟩, false) from if_pos (by simp at *; omega)]; rfl) trivial
  · exact gE (.inr rfl) rfl (by rw [show findL l a u i = (nth l (idxL l a u i).toNat, true) from if_neg (by simp at *; omega)]; rfl) trivial
theorem rightG_pm (g : Led) (hl : g.lins.length ≤ 1000) (ha : g.accs.length ≤ 1000) : FnM Tryz.prog 114 [] [aG g] (vB (rightL g)) [] := by
  refine FnM.of htb Tryz.func114 rfl rfl rfl rfl rfl fun cx hN h0 => ?_
  (repeat' (first | (refine nx ?_) | (refine WD_unk (by exact rfl) ?_; ((refine WD_tf (by exact rfl) (by exact rfl) ?_ ?_) <;> (intro hb; (fail_if_success (with_reducible injection hb)); rw [hb]; (try simp only [List.length_map] at hb)))) | (refine WD_call (by exact rfl) ?_; first | (refine WD_c0 (chkL_pm _ _ ?y0 ?y1) ?_; (case y0 => exact hyp); (case y1 => exact hyp))) | ((refine WD_tf (by exact rfl) (by exact rfl) ?_ ?_) <;> (intro hb; (fail_if_success (with_reducible injection hb)); rw [hb]; (try simp only [List.length_map] at hb))) | (((with_reducible apply gC2); exact rfl) <;> (intro hb; rw [hb]))))
  exact gE (.inr rfl) rfl rfl trivial
end Go.Proofs.YtgebgpdoddjfhaaGreat
