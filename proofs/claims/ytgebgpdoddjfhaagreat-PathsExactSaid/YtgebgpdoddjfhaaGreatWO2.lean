/- Contracts of the program's functions on offers: what can be had, adding, cancelling. -/
import Derived.Test.YtgebgpdoddjfhaaGreatWO1
namespace Go.Proofs.YtgebgpdoddjfhaaGreat
set_option linter.unusedSimpArgs false
set_option linter.unusedVariables false
set_option linter.unnecessarySimpa false
set_option linter.unusedSectionVars false
set_option maxRecDepth 100000
open Go Go.RowKit Go.Am Go.Proofs.Grow

section
variable {P : Program} {tbl : List (Nat × TI)} {ops r : List Oper} {o : Oper} {fin : List (List Nat × List Nat) → List (Nat × AV) → List (Nat × AO) → Prop} {acc : List (List Nat × List Nat)} {T : List (Nat × AV)} {M : List (Nat × AO)}
theorem step_min3 {o : Oper} {T : Nat → Option AV} {M : Nat → Option AO} {t1 t2 t3 : TypeId} {x y z : Operand} {k : IntKind} {a b c : Int} (ho : o.op = .call { callee := .builtin .min, args := #[x, y, z], argTypes := #[t1, t2, t3] }) (hx : evA T x = some (.d (.v (.int k a)))) (hy : evA T y = some (.d (.v (.int k b)))) (hz : evA T z = some (.d (.v (.int k c)))) :
    StepOK P o T M ⟨.d (.v (.int k (min2 (min2 a b) c))), [], []⟩ :=
  step_read [] fun cx μ T' M' ac w h hT hM => by
    have h1 := (h.ev (x := x) hT (by simp [ho, Op.operands, Call.operands]) hx).val
    have h2 := (h.ev (x := y) hT (by simp [ho, Op.operands, Call.operands]) hy).val
    have h3 := (h.ev (x := z) hT (by simp [ho, Op.operands, Call.operands]) hz).val
    refine ⟨.int k (min2 (min2 a b) c), ?_, .d (.v _)⟩
    simp only [execOp, ho, resolve, invoke, builtin, List.map_toArray, List.map_cons, List.map_nil, h1, h2, h3, Builtin.min_]
    by_cases c1 : b < a
    · by_cases c2 : c < b <;> simp [Builtin.min2, min2, c1, c2]
    · by_cases c2 : c < a <;> simp [Builtin.min2, min2, c1, c2]
theorem WD_min3 {d : Tmp} {t1 t2 t3 : TypeId} {x y z : Operand} {kk : IntKind} {a b c : Int} (k : WD P ops fin r (([], []) :: acc) ((d, .d (.v (.int kk (min2 (min2 a b) c)))) :: T) M) (ho : o.op = .call { callee := .builtin .min, args := #[x, y, z], argTypes := #[t1, t2, t3] } := by exact rfl)
    (hg : gd ops T o = some true := by exact rfl) (hd : o.dst = some d := by exact rfl) (hx : evA (lk T) x = some (.d (.v (.int kk a))) := by exact rfl) (hy : evA (lk T) y = some (.d (.v (.int kk b))) := by exact rfl) (hz : evA (lk T) z = some (.d (.v (.int kk c))) := by exact rfl) : WD P ops fin (o :: r) acc T M := WD_dv hg hd (step_min3 ho hx hy hz) k
end
theorem isO_pm (x : Off) (i : Int) : FnM Tryz.prog 146 [(3, .box 3 [vI i])] [aO x, .ptr 3 0] (vB (hasOff i x)) [(3, .box 3 [vI i])] := by
  refine FnM.of htb Tryz.func146 rfl rfl rfl rfl rfl fun cx hN h0 => ?_
  (repeat' (first | (refine nx ?_) | (refine WD_unk (by exact rfl) ?_; ((refine WD_tf (by exact rfl) (by exact rfl) ?_ ?_) <;> (intro hb; (fail_if_success (with_reducible injection hb)); rw [hb]; (try simp only [List.length_map] at hb)))) | ((with_reducible apply WD_id); first | (refine WD_cut htb ?_) | (refine WD_cut3 htb ?_) | (refine WD_lens htb ?_) | (refine WD_caps htb ?_) | (refine WD_cps htb ?_) | (refine WD_cpp htb ?_) | (refine WD_api htb ?_) | (refine WD_apz htb ?_) | (refine WD_clr htb ?_)) | ((refine WD_tf (by exact rfl) (by exact rfl) ?_ ?_) <;> (intro hb; (fail_if_success (with_reducible injection hb)); rw [hb]; (try simp only [List.length_map] at hb))) | (((with_reducible apply gC2); exact rfl) <;> (intro hb; rw [hb]))))
  exact gE (.inr rfl) rfl (by simp [tupOf, hasOff]) ⟨rfl, trivial⟩
theorem idxfO_pm (l : List Off) (i : Int) (hl : l.length ≤ 1000) : FnM Tryz.prog 143 [(3, .box 3 [vI i])] [lO l, .clo 146 [.ptr 3 0]] (vI (idxO l i)) [(3, .box 3 [vI i])] := by
  refine FnM.of htb Tryz.func143 rfl rfl rfl rfl rfl fun cx hN h0 => ?_
  (repeat' (first | (refine nx ?_) | (refine WD_unk (by exact rfl) ?_; ((refine WD_tf (by exact rfl) (by exact rfl) ?_ ?_) <;> (intro hb; (fail_if_success (with_reducible injection hb)); rw [hb]; (try simp only [List.length_map] at hb)))) | ((with_reducible apply WD_id); first | (refine WD_cut htb ?_) | (refine WD_cut3 htb ?_) | (refine WD_lens htb ?_) | (refine WD_caps htb ?_) | (refine WD_cps htb ?_) | (refine WD_cpp htb ?_) | (refine WD_api htb ?_) | (refine WD_apz htb ?_) | (refine WD_clr htb ?_)) | ((refine WD_tf (by exact rfl) (by exact rfl) ?_ ?_) <;> (intro hb; (fail_if_success (with_reducible injection hb)); rw [hb]; (try simp only [List.length_map] at hb))) | (((with_reducible apply gC2); exact rfl) <;> (intro hb; rw [hb]))))
  (refine WA_forV (l.length) [8] [] (fun k => [(8, vI k)]) (fun k => []) (fun k => idxO l i = idxF (hasOff i) k (l.drop k)) ?h0 ?_)
  case h0 => rfl
  intro k hk hI
  (repeat' (first | (refine nx ?_) | (refine WD_unk (by exact rfl) ?_; ((refine WD_tf (by exact rfl) (by exact rfl) ?_ ?_) <;> (intro hb; (fail_if_success (with_reducible injection hb)); rw [hb]; (try simp only [List.length_map] at hb)))) | (refine WD_call (by exact rfl) ?_; first | (refine WD_cM (isO_pm _ _) ?_)) | ((with_reducible apply WD_id); first | (refine WD_cut htb ?_) | (refine WD_cut3 htb ?_) | (refine WD_lens htb ?_) | (refine WD_caps htb ?_) | (refine WD_cps htb ?_) | (refine WD_cpp htb ?_) | (refine WD_api htb ?_) | (refine WD_apz htb ?_) | (refine WD_clr htb ?_)) | ((refine WD_tf (by exact rfl) (by exact rfl) ?_ ?_) <;> (intro hb; (fail_if_success (with_reducible injection hb)); rw [hb]; (try simp only [List.length_map] at hb))) | (((with_reducible apply gC2); exact rfl) <;> (intro hb; rw [hb]))))
  · exact gE (.inr rfl) rfl (congrArg vI (idx_hit hI (by simp at *; omega) (by assumption)).symm) ⟨rfl, trivial⟩
  · refine ⟨by simp at *; omega, idx_miss hI (by simp at *; omega) (by assumption), ?_⟩
    (exact LeV [])
  · exact gE (.inr rfl) rfl (congrArg vI (idx_end hI (by simp at *; omega)).symm) ⟨rfl, trivial⟩
theorem place_pm (g : Led) (i : Int) (ho : g.offs.length ≤ 1000) : FnM Tryz.prog 128 [] [aG g, vI i] (vI (idxO g.offs i)) [] := by
  refine FnM.of htb Tryz.func128 rfl rfl rfl rfl rfl fun cx hN h0 => ?_
  (repeat' (first | (refine nx ?_) | (refine WD_unk (by exact rfl) ?_; ((refine WD_tf (by exact rfl) (by exact rfl) ?_ ?_) <;> (intro hb; (fail_if_success (with_reducible injection hb)); rw [hb]; (try simp only [List.length_map] at hb)))) | (refine WD_call (by exact rfl) ?_; first | (refine WD_cM (idxfO_pm _ _ ?_) ?_; (exact hyp))) | ((with_reducible apply WD_id); first | (refine WD_cut htb ?_) | (refine WD_cut3 htb ?_) | (refine WD_lens htb ?_) | (refine WD_caps htb ?_) | (refine WD_cps htb ?_) | (refine WD_cpp htb ?_) | (refine WD_api htb ?_) | (refine WD_apz htb ?_) | (refine WD_clr htb ?_)) | ((refine WD_tf (by exact rfl) (by exact rfl) ?_ ?_) <;> (intro hb; (fail_if_success (with_reducible injection hb)); rw [hb]; (try simp only [List.length_map] at hb))) | (((with_reducible apply gC2); exact rfl) <;> (intro hb; rw [hb]))))
  exact gE (.inr rfl) rfl rfl trivial
theorem copiedO_pm (g : Led) (hl : g.lins.length ≤ 1000) (ha : g.accs.length ≤ 1000) (ho : g.offs.length ≤ 1000) : FnM Tryz.prog 97 [] [aG g] (.agg [vI g.num, .own 50, .own 51, .own 52, vI g.nid, vI g.fees, vU g.link])
    [(50, .arr 63 3 (g.accs.map rA)), (51, .arr 69 5 (g.lins.map rL)), (52, .arr 76 9 (g.offs.map rO))] := by
  refine FnM.of htb Tryz.func97 rfl rfl rfl rfl rfl fun cx hN h0 => ?_
  (repeat' (first | (refine nx ?_) | (refine WD_unk (by exact rfl) ?_; ((refine WD_tf (by exact rfl) (by exact rfl) ?_ ?_) <;> (intro hb; (fail_if_success (with_reducible injection hb)); rw [hb]; (try simp only [List.length_map] at hb)))) | (refine WD_call (by exact rfl) ?_; first | (refine WD_cM (cloneA_pm _ ?_) ?_; (exact hyp)) | (refine WD_cM (cloneL_pm _ ?_) ?_; (exact hyp)) | (refine WD_cM (cloneO_pm _ ?_) ?_; (exact hyp))) | ((with_reducible apply WD_id); first | (refine WD_cut htb ?_) | (refine WD_cut3 htb ?_) | (refine WD_lens htb ?_) | (refine WD_caps htb ?_) | (refine WD_cps htb ?_) | (refine WD_cpp htb ?_) | (refine WD_api htb ?_) | (refine WD_apz htb ?_) | (refine WD_clr htb ?_)) | ((refine WD_tf (by exact rfl) (by exact rfl) ?_ ?_) <;> (intro hb; (fail_if_success (with_reducible injection hb)); rw [hb]; (try simp only [List.length_map] at hb))) | (((with_reducible apply gC2); exact rfl) <;> (intro hb; rw [hb]))))
  exact gE (.inr rfl) rfl rfl ⟨rfl, rfl, rfl, trivial⟩
theorem costO_pm (x : Off) (n : Int) : FnM Tryz.prog 131 [] [aO x, vI n] (.tup [vI (costF x n).1, vI (costF x n).2]) [] := by
  refine FnM.of htb Tryz.func131 rfl rfl rfl rfl rfl fun cx hN h0 => ?_
  (repeat' (first | (refine nx ?_) | (refine WD_unk (by exact rfl) ?_; ((refine WD_tf (by exact rfl) (by exact rfl) ?_ ?_) <;> (intro hb; (fail_if_success (with_reducible injection hb)); rw [hb]; (try simp only [List.length_map] at hb)))) | (refine WD_call (by exact rfl) ?_; first | (refine WD_c0 (up_pm _ _ _) ?_)) | ((with_reducible apply WD_id); first | (refine WD_cut htb ?_) | (refine WD_cut3 htb ?_) | (refine WD_lens htb ?_) | (refine WD_caps htb ?_) | (refine WD_cps htb ?_) | (refine WD_cpp htb ?_) | (refine WD_api htb ?_) | (refine WD_apz htb ?_) | (refine WD_clr htb ?_)) | ((refine WD_tf (by exact rfl) (by exact rfl) ?_ ?_) <;> (intro hb; (fail_if_success (with_reducible injection hb)); rw [hb]; (try simp only [List.length_map] at hb))) | (((with_reducible apply gC2); exact rfl) <;> (intro hb; rw [hb]))))
  exact gE (.inr rfl) rfl rfl trivial
theorem tdiv_pos {a b : Int} (ha : 0 ≤ a) (hb : 1 ≤ b) : a.tdiv b = a / b := Int.tdiv_eq_ediv_of_nonneg ha
theorem within_pm (x : Off) (m : Int) (m0 : 0 ≤ m) (m1 : m ≤ 1000000000000) : FnM Tryz.prog 130 [] [aO x, vI m] (vI (withinF x m)) [] := by
  refine FnM.of htb Tryz.func130 rfl rfl rfl rfl rfl fun cx hN h0 => ?_
  cases hp : priceB x.num x.den with
  | false =>
    have t1 : (!priceB x.num x.den) = true := by simp [hp]
    have e : withinF x m = 0 := by unfold withinF; rw [if_neg (by simp [hp])]
    rw [e]
    (repeat' (first | (refine nx ?_) | (refine WD_unk (by exact rfl) ?_; ((refine WD_tf (by exact rfl) (by exact rfl) ?_ ?_) <;> (intro hb; (fail_if_success (with_reducible injection hb)); rw [hb]; (try simp only [List.length_map] at hb)))) | (refine WD_call (by exact rfl) ?_; first | (refine WD_c0 (price_pm _ _) ?_)) | ((with_reducible apply WD_id); first | (refine WD_cut htb ?_) | (refine WD_cut3 htb ?_) | (refine WD_lens htb ?_) | (refine WD_caps htb ?_) | (refine WD_cps htb ?_) | (refine WD_cpp htb ?_) | (refine WD_api htb ?_) | (refine WD_apz htb ?_) | (refine WD_clr htb ?_)) | ((refine WD_tf (by exact rfl) (by exact rfl) ?_ ?_) <;> (intro hb; (fail_if_success (with_reducible injection hb)); rw [hb]; (try simp only [List.length_map] at hb))) | (((with_reducible apply gC2); exact rfl) <;> (intro hb; rw [hb]))))
    exact gE (.inr rfl) rfl rfl trivial
  | true =>
    have t1 : (!priceB x.num x.den) = false := by simp [hp]
    obtain ⟨⟨q1, q2⟩, q3, q4⟩ := price_iff.1 hp
    have hm1 : 0 ≤ m * x.den := Int.mul_nonneg m0 (by omega)
    have hm2 : m * x.den ≤ 1000000000000 * 1000000 := Int.mul_le_mul m1 q4 (by omega) (by omega)
    have e1 : (m * x.den).tdiv x.num = m * x.den / x.num := Int.tdiv_eq_ediv_of_nonneg hm1
    have h3 : m * x.den / x.num ≤ m * x.den := Int.ediv_le_self _ hm1
    have h4 : 0 ≤ m * x.den / x.num := Int.ediv_nonneg hm1 (by omega)
    have hw : IntKind.i64.wrap ((m * x.den).tdiv x.num) = m * x.den / x.num := by rw [e1]; exact IntWalk.i64_in _ (by omega)
    have e : withinF x m = min2 1000000000000 (m * x.den / x.num) := by unfold withinF; rw [if_pos hp]
    rw [e]
    (repeat' (first | (refine nx ?_) | (refine WD_unk (by exact rfl) ?_; ((refine WD_tf (by exact rfl) (by exact rfl) ?_ ?_) <;> (intro hb; (fail_if_success (with_reducible injection hb)); rw [hb]; (try simp only [List.length_map] at hb)))) | (refine WD_call (by exact rfl) ?_; first | (refine WD_c0 (price_pm _ _) ?_)) | ((with_reducible apply WD_id); first | (refine WD_cut htb ?_) | (refine WD_cut3 htb ?_) | (refine WD_lens htb ?_) | (refine WD_caps htb ?_) | (refine WD_cps htb ?_) | (refine WD_cpp htb ?_) | (refine WD_api htb ?_) | (refine WD_apz htb ?_) | (refine WD_clr htb ?_)) | ((refine WD_tf (by exact rfl) (by exact rfl) ?_ ?_) <;> (intro hb; (fail_if_success (with_reducible injection hb)); rw [hb]; (try simp only [List.length_map] at hb))) | (((with_reducible apply gC2); exact rfl) <;> (intro hb; rw [hb]))))
    rw [hw]
    (repeat' (first | (refine nx ?_) | (refine WD_unk (by exact rfl) ?_; ((refine WD_tf (by exact rfl) (by exact rfl) ?_ ?_) <;> (intro hb; (fail_if_success (with_reducible injection hb)); rw [hb]; (try simp only [List.length_map] at hb)))) | ((with_reducible apply WD_id); first | (refine WD_cut htb ?_) | (refine WD_cut3 htb ?_) | (refine WD_lens htb ?_) | (refine WD_caps htb ?_) | (refine WD_cps htb ?_) | (refine WD_cpp htb ?_) | (refine WD_api htb ?_) | (refine WD_apz htb ?_) | (refine WD_clr htb ?_)) | ((refine WD_tf (by exact rfl) (by exact rfl) ?_ ?_) <;> (intro hb; (fail_if_success (with_reducible injection hb)); rw [hb]; (try simp only [List.length_map] at hb))) | (((with_reducible apply gC2); exact rfl) <;> (intro hb; rw [hb]))))
    exact gE (.inr rfl) rfl rfl trivial
theorem room_bd {g : Led} (hr : chkL g.lins g.accs = 0) (a : Int) (u : ByteArray) (i : Int) : 0 ≤ roomF g a u i ∧ roomF g a u i ≤ 1000000000000 := by
  have h := chkL_zero.1 hr
  rw [(held_look h a u i).2]
  by_cases hf : (findA g.accs a).2 = true
  · by_cases hu : assetB u i = true
    · have := look_bd h hf hu; omega
    · have e : lookF g a u i = (0, 0, false) := by unfold lookF; rw [if_pos (.inr (by simpa using hu))]
      rw [e]; decide
  · have e : lookF g a u i = (0, 0, false) := by unfold lookF; rw [if_pos (.inl (by simpa using hf))]
    rw [e]; decide
theorem able_pm (g : Led) (x : Off) (hl : g.lins.length ≤ 1000) (ha : g.accs.length ≤ 1000) (hr : chkL g.lins g.accs = 0) : FnM Tryz.prog 129 [] [aG g, aO x] (vI (ablP g x)) [] := by
  refine FnM.of htb Tryz.func129 rfl rfl rfl rfl rfl fun cx hN h0 => ?_
  obtain ⟨b1, b2⟩ := room_bd hr x.seller x.bc x.bi
  (repeat' (first | (refine nx ?_) | (refine WD_unk (by exact rfl) ?_; ((refine WD_tf (by exact rfl) (by exact rfl) ?_ ?_) <;> (intro hb; (fail_if_success (with_reducible injection hb)); rw [hb]; (try simp only [List.length_map] at hb)))) | (refine WD_call (by exact rfl) ?_; first | (refine WD_c0 (held_pm _ _ _ _ ?_ ?_) ?_; (exact hyp); (exact hyp)) | (refine WD_c0 (room_pm _ _ _ _ ?_ ?_) ?_; (exact hyp); (exact hyp)) | (refine WD_c0 (within_pm _ _ ?_ ?_) ?_; (exact hyp); (exact hyp))) | ((with_reducible apply WD_id); first | (refine WD_cut htb ?_) | (refine WD_cut3 htb ?_) | (refine WD_lens htb ?_) | (refine WD_caps htb ?_) | (refine WD_cps htb ?_) | (refine WD_cpp htb ?_) | (refine WD_api htb ?_) | (refine WD_apz htb ?_) | (refine WD_clr htb ?_)) | ((refine WD_tf (by exact rfl) (by exact rfl) ?_ ?_) <;> (intro hb; (fail_if_success (with_reducible injection hb)); rw [hb]; (try simp only [List.length_map] at hb))) | (((with_reducible apply gC2); exact rfl) <;> (intro hb; rw [hb]))))
  refine WD_min3 ?_
  (repeat' (first | (refine nx ?_) | (refine WD_unk (by exact rfl) ?_; ((refine WD_tf (by exact rfl) (by exact rfl) ?_ ?_) <;> (intro hb; (fail_if_success (with_reducible injection hb)); rw [hb]; (try simp only [List.length_map] at hb)))) | ((with_reducible apply WD_id); first | (refine WD_cut htb ?_) | (refine WD_cut3 htb ?_) | (refine WD_lens htb ?_) | (refine WD_caps htb ?_) | (refine WD_cps htb ?_) | (refine WD_cpp htb ?_) | (refine WD_api htb ?_) | (refine WD_apz htb ?_) | (refine WD_clr htb ?_)) | ((refine WD_tf (by exact rfl) (by exact rfl) ?_ ?_) <;> (intro hb; (fail_if_success (with_reducible injection hb)); rw [hb]; (try simp only [List.length_map] at hb))) | (((with_reducible apply gC2); exact rfl) <;> (intro hb; rw [hb]))))
  exact gE (.inr rfl) rfl rfl trivial
theorem able_eq {g : Led} (x : Off) : ableF g x = if chkO g = 0 then ablP g x else 0 := able_eqP x
theorem cutO_eq {α : Type} {A B C R S : List α} {k : Nat} (hk : (A ++ B).length = k) : ((A ++ B ++ C).take k ++ R ++ S).take k = A ++ B := by
  rw [List.append_assoc _ R S, List.take_left' (l₁ := (A ++ B ++ C).take k) (by rw [List.length_take, List.length_append]; omega), List.take_left' hk]
theorem erase_cut {l : List Off} {i : Nat} (h : i < l.length) : (l.map rO).take i ++ (l.map rO).drop (i + 1) = (l.eraseIdx i).map rO := by
  rw [List.eraseIdx_eq_take_drop_succ l i, List.map_append, List.map_take, List.map_drop]
theorem delO52_0 (l : List (List D)) (i : Nat) (hl : l.length ≤ 1000) (hi : i < l.length) : FnM Tryz.prog 132 [(52, .arr 76 9 l)] [.own 52, vI i, vI (i + 1)] (.own 61) [(61, .arr 76 9 (l.take i ++ l.drop (i + 1))), (52, .dead)] := by
  refine FnM.of htb Tryz.func132 rfl rfl rfl rfl rfl fun cx hN h0 => ?_
  have t1 : ((i : Int) == (i : Int) + 1) = false := by simp only [beq_eq_false_iff_ne]; omega
  refine WA_room 0 rfl rfl fun q hq hq2 => ?_
  (repeat' (first | (refine nx ?_) | (refine WD_unk (by exact rfl) ?_; ((refine WD_tf (by exact rfl) (by exact rfl) ?_ ?_) <;> (intro hb; (fail_if_success (with_reducible injection hb)); rw [hb]; (try simp only [List.length_map] at hb)))) | ((with_reducible apply WD_id); first | (refine WD_cut htb ?_) | (refine WD_cut3 htb ?_) | (refine WD_lens htb ?_) | (refine WD_caps htb ?_) | (refine WD_cps htb ?_) | (refine WD_cpp htb ?_) | (refine WD_api htb ?_) | (refine WD_apz htb ?_) | (refine WD_clr htb ?_)) | ((refine WD_tf (by exact rfl) (by exact rfl) ?_ ?_) <;> (intro hb; (fail_if_success (with_reducible injection hb)); rw [hb]; (try simp only [List.length_map] at hb))) | (((with_reducible apply gC2); exact rfl) <;> (intro hb; rw [hb]))))
  simp only [Nat.zero_add, Nat.sub_zero, List.drop_zero, Option.map_some]
  have hD : List.take (l.length - (i + 1)) (List.drop (i + 1) l) = List.drop (i + 1) l := List.take_of_length_le (by rw [List.length_drop]; omega)
  rw [hD]
  exact glV [(6, .own 61)] [(61, .arr 76 9 (l.take i ++ l.drop (i + 1))), (52, .dead)] (Le.trans (Le_hide 6 61 rfl rfl (by simp only [List.length_append, List.length_take, List.length_drop, List.length_replicate]; omega) (show 0 < q by omega) rfl)
    (LeV [] (hM := ⟨⟨_, rfl, rfl, rfl, cutO_eq (by simp only [List.length_append, List.length_take, List.length_drop]; omega)⟩, ⟨_, rfl, trivial⟩, trivial⟩)))
theorem delO52_pm (l : List Off) (i : Nat) (hl : l.length ≤ 1000) (hi : i < l.length) : FnM Tryz.prog 132 [(52, .arr 76 9 (l.map rO))] [.own 52, vI i, vI (i + 1)] (.own 61) [(61, .arr 76 9 ((l.eraseIdx i).map rO)), (52, .dead)] := by
  have h := delO52_0 (l.map rO) i (by simpa using hl) (by simpa using hi)
  rwa [erase_cut hi] at h
theorem delO54_0 (l : List (List D)) (i : Nat) (hl : l.length ≤ 1000) (hi : i < l.length) : FnM Tryz.prog 132 [(54, .arr 76 9 l)] [.own 54, vI i, vI (i + 1)] (.own 61) [(61, .arr 76 9 (l.take i ++ l.drop (i + 1))), (54, .dead)] := by
  refine FnM.of htb Tryz.func132 rfl rfl rfl rfl rfl fun cx hN h0 => ?_
  have t1 : ((i : Int) == (i : Int) + 1) = false := by simp only [beq_eq_false_iff_ne]; omega
  refine WA_room 0 rfl rfl fun q hq hq2 => ?_
  (repeat' (first | (refine nx ?_) | (refine WD_unk (by exact rfl) ?_; ((refine WD_tf (by exact rfl) (by exact rfl) ?_ ?_) <;> (intro hb; (fail_if_success (with_reducible injection hb)); rw [hb]; (try simp only [List.length_map] at hb)))) | ((with_reducible apply WD_id); first | (refine WD_cut htb ?_) | (refine WD_cut3 htb ?_) | (refine WD_lens htb ?_) | (refine WD_caps htb ?_) | (refine WD_cps htb ?_) | (refine WD_cpp htb ?_) | (refine WD_api htb ?_) | (refine WD_apz htb ?_) | (refine WD_clr htb ?_)) | ((refine WD_tf (by exact rfl) (by exact rfl) ?_ ?_) <;> (intro hb; (fail_if_success (with_reducible injection hb)); rw [hb]; (try simp only [List.length_map] at hb))) | (((with_reducible apply gC2); exact rfl) <;> (intro hb; rw [hb]))))
  simp only [Nat.zero_add, Nat.sub_zero, List.drop_zero, Option.map_some]
  have hD : List.take (l.length - (i + 1)) (List.drop (i + 1) l) = List.drop (i + 1) l := List.take_of_length_le (by rw [List.length_drop]; omega)
  rw [hD]
  exact glV [(6, .own 61)] [(61, .arr 76 9 (l.take i ++ l.drop (i + 1))), (54, .dead)] (Le.trans (Le_hide 6 61 rfl rfl (by simp only [List.length_append, List.length_take, List.length_drop, List.length_replicate]; omega) (show 0 < q by omega) rfl)
    (LeV [] (hM := ⟨⟨_, rfl, rfl, rfl, cutO_eq (by simp only [List.length_append, List.length_take, List.length_drop]; omega)⟩, ⟨_, rfl, trivial⟩, trivial⟩)))
theorem delO54_pm (l : List Off) (i : Nat) (hl : l.length ≤ 1000) (hi : i < l.length) : FnM Tryz.prog 132 [(54, .arr 76 9 (l.map rO))] [.own 54, vI i, vI (i + 1)] (.own 61) [(61, .arr 76 9 ((l.eraseIdx i).map rO)), (54, .dead)] := by
  have h := delO54_0 (l.map rO) i (by simpa using hl) (by simpa using hi)
  rwa [erase_cut hi] at h
/-- Adding, with the test of the amount as the program has it. -/
def addO2 (g : Led) (a : Int) (u : ByteArray) (i : Int) (v : ByteArray) (j n p q : Int) : Led × Int × Int :=
  if ¬ chkO g = 0 then (led0, 0, chkO g) else if (findA g.accs a).2 = false then (led0, 0, 67) else
  if assetB u i = false ∨ assetB v j = false ∨ eqT u i v j = true then (led0, 0, 71) else
  if n = 0 ∨ okA n = false ∨ priceB p q = false then (led0, 0, 72) else
  if holdsF g a u i = false ∨ holdsF g a v j = false then (led0, 0, 70) else
  if heldF g a u i = 0 then (led0, 0, 66) else
  if g.offs.length = 40 ∨ g.nid = 1000000 then (led0, 0, 3) else
  ({ g with offs := g.offs ++ [⟨g.nid, a, u, i, v, j, n, (redF p q).1, (redF p q).2⟩], nid := g.nid + 1 }, g.nid, 0)
theorem addO_two (g : Led) (a : Int) (u : ByteArray) (i : Int) (v : ByteArray) (j n p q : Int) : addO g a u i v j n p q = addO2 g a u i v j n p q := by
  have h : (n < 1 ∨ okA n = false ∨ priceB p q = false) ↔ (n = 0 ∨ okA n = false ∨ priceB p q = false) := by
    cases e : okA n with
    | false => simp
    | true =>
      have := okA_iff.1 e
      have e1 : n < 1 ↔ n = 0 := by omega
      rw [e1]
  unfold addO addO2
  simp only [h]
end Go.Proofs.YtgebgpdoddjfhaaGreat
