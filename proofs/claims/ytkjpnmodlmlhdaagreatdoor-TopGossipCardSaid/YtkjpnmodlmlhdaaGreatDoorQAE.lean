/- Nothing is claimed here: parts of slices: cut, copied into, appended to in place; spare cells. -/
import Derived.Test.YtkjpnmodlmlhdaaGreatDoorQAD
import Derived.Test.YtkjpnmodlmlhdaaGreatDoorQAA
namespace Go.Am
set_option linter.unusedSimpArgs false
set_option linter.unusedVariables false
set_option linter.unnecessarySimpa false
set_option linter.unusedSectionVars false
set_option maxRecDepth 100000
open Go Go.RowKit Go.Proofs.Grow
section
variable {P : Program} {tbl : List (Nat × TI)} {ops r : List Oper} {o : Oper} {fin : List (List Nat × List Nat) → List (Nat × AV) → List (Nat × AO) → Prop} {acc : List (List Nat × List Nat)} {T : List (Nat × AV)} {M : List (Nat × AO)}
end
end Go.Am
/- Nothing is claimed here: one step of a walk, its rule found by itself. -/
namespace Go.Proofs.YtkjpnmodlmlhdaaGreatDoor
set_option linter.unusedSimpArgs false
set_option linter.unusedVariables false
set_option linter.unnecessarySimpa false
set_option linter.unusedSectionVars false
set_option maxRecDepth 100000
open Go Go.RowKit Go.Am Go.Proofs.Grow
/-- What is left, hidden from 'assumption'. -/
structure Kx (B : Prop) : Prop where
  x : B
theorem nx {A B : Prop} (b : B) (h : Kx B → A := by
    intro k
    first
    | ((with_reducible apply WD_id); first
        | (refine WD_sum ?_; exact k.x)
        | ((with_reducible apply WD_nxt htb); exact rfl; exact k.x)
        | (refine WD_unk ?_ ?_; exact rfl; first
            | ((with_reducible apply WD_t); exact rfl; exact rfl; exact known; intro hb; rw [hb]; exact k.x)
            | ((with_reducible apply WD_f); exact rfl; exact rfl; exact known; intro hb; rw [hb]; exact k.x))
        | (refine WD_idx htb ?_; exact k.x)
        | (refine WD_idxo htb ?_; exact k.x)
        | (refine WD_lde1 htb ?_; exact k.x)
        | (refine WD_lde htb ?_; exact k.x)
        | (refine WD_ste htb ?_; exact k.x)
        | (refine WD_ap htb ?_; exact k.x)
        | (refine WD_ap0 htb ?_; exact k.x)
        | (refine WD_nil htb ?_; exact k.x)
        | (refine WD_nilr htb ?_; exact k.x)
        | (refine WD_rem ?_; exact k.x)
        | (refine WD_quo ?_; exact k.x)
        | (refine WD_slc htb ?_; exact k.x)
        | (refine WD_ixa htb ?_; exact k.x)
        | (refine WD_ix1 htb ?_; exact k.x)
        | ((with_reducible apply WD_t); exact rfl; exact rfl; exact known; intro hb; rw [hb]; exact k.x)
        | ((with_reducible apply WD_f); exact rfl; exact rfl; exact known; intro hb; rw [hb]; exact k.x))
    | ((with_reducible apply WA_seq); exact k.x)
    | ((with_reducible apply gR hmix); assumption; kernel_rfl; (try dsimp only [List.append_eq, List.cons_append, List.nil_append]); exact k.x)
    | ((with_reducible refine WD_end ?_ ?_); (first | exact no_draw | (intro _; kernel_rfl)); (try simp only [thn, inB, List.length_map, List.cons_append, List.nil_append]); exact k.x)
    | ((with_reducible apply gCt); exact rfl; exact rfl; exact k.x)
    | ((with_reducible apply gCf); exact rfl; exact rfl; exact k.x)
    | ((with_reducible apply gCk); exact rfl; exact known; intro hb; rw [hb]; exact k.x)
    | ((with_reducible apply gCn); exact rfl; exact known; intro hb; rw [hb]; exact k.x)
    | ((with_reducible apply WA_block); exact k.x)
    | ((with_reducible first | apply WA_skip | apply WA_ret | apply WA_exit | apply WA_label); (try simp only [thn, inB, List.length_map, List.cons_append, List.nil_append]); exact k.x)) : A := h ⟨b⟩
end Go.Proofs.YtkjpnmodlmlhdaaGreatDoor
/- Nothing is claimed here: an element of a part of a slice; operations on the bits of numbers. -/
namespace Go.Am
set_option linter.unusedSimpArgs false
set_option linter.unusedVariables false
set_option linter.unnecessarySimpa false
set_option linter.unusedSectionVars false
set_option maxRecDepth 100000
open Go Go.RowKit Go.Proofs.Grow
section
variable {P : Program} {tbl : List (Nat × TI)} {o : Oper} {T : Nat → Option AV} {M : Nat → Option AO}
theorem step_bits {op : BinOp} {t t' : TypeId} {x y : Operand} {a b : Int} {r : Value} (ho : o.op = .binOp op t x y t') (hx : evA T x = some (.d (.v (.int .i64 a)))) (hy : evA T y = some (.d (.v (.int .i64 b))))
    (hr : ∀ w, (binOp op t (.int .i64 a) (.int .i64 b)).run P w = .ok r w) : StepOK P o T M ⟨.d (.v r), [], []⟩ :=
  step_read [] fun cx μ T' M' ac w h hT _ => by
    have h1 := (h.ev (x := x) hT (by simp [ho, Op.operands]) hx).val
    have h2 := (h.ev (x := y) hT (by simp [ho, Op.operands]) hy).val
    refine ⟨r, ?_, .d (.v r)⟩
    simp only [execOp, ho, h1, h2, Sem.run_bind, run_guard_int, Result.andThen_ok, hr, Sem.run_pure]
end
section
variable {cx : Cx} {T : List (Nat × AV)} {M : List (Nat × AO)}
end
section
variable {P : Program} {tbl : List (Nat × TI)} {ops r : List Oper} {o : Oper} {fin : List (List Nat × List Nat) → List (Nat × AV) → List (Nat × AO) → Prop} {acc : List (List Nat × List Nat)} {T : List (Nat × AV)} {M : List (Nat × AO)}
end
end Go.Am
/- Plain facts for the walks: how a check of a list goes on from one place to the next. No program stands here. -/
namespace Go.Proofs.YtkjpnmodlmlhdaaGreatDoor
set_option linter.unusedSimpArgs false
set_option linter.unusedVariables false
set_option linter.unnecessarySimpa false
set_option linter.unusedSectionVars false
set_option maxRecDepth 100000
open Go.RowKit Go.Proofs.Grow Go.Sort
theorem idx_step {α : Type} [Inhabited α] {p : α → Bool} {l : List α} {k : Nat} (hk : k < l.length) : idxF p k (l.drop k) = if p (nth l k) = true then (k : Int) else idxF p (k + 1) (l.drop (k + 1)) := by
  rw [drop_nth l k hk]; rfl
theorem idx_hit {α : Type} [Inhabited α] {p : α → Bool} {l : List α} {k : Nat} {r : Int} (hz : r = idxF p k (l.drop k)) (hk : k < l.length) (h : p (nth l k) = true) : r = (k : Int) := by
  rw [hz, idx_step hk, if_pos h]
theorem idx_miss {α : Type} [Inhabited α] {p : α → Bool} {l : List α} {k : Nat} {r : Int} (hz : r = idxF p k (l.drop k)) (hk : k < l.length) (h : p (nth l k) = false) : r = idxF p (k + 1) (l.drop (k + 1)) := by
  rw [hz, idx_step hk, if_neg (by simp [h])]
theorem idx_end {α : Type} {p : α → Bool} {l : List α} {k : Nat} {r : Int} (hz : r = idxF p k (l.drop k)) (hk : l.length ≤ k) : r = -1 := by
  rw [hz, List.drop_eq_nil_of_le hk]; rfl
end Go.Proofs.YtkjpnmodlmlhdaaGreatDoor
/- Plain functions: a source of numbers, and what is drawn from it. No program stands here. -/
namespace Go.Proofs.YtkjpnmodlmlhdaaGreatDoor
set_option linter.unusedSimpArgs false
set_option linter.unusedVariables false
set_option linter.unnecessarySimpa false
set_option linter.unusedSectionVars false
set_option maxRecDepth 100000
open Go Go.RowKit Go.Am Go.Proofs.Grow
structure Sc where
  l : List Int
  i : Nat
/-- A source: at most 800 numbers, and how many of them have been given out. -/
def Sc.ok (s : Sc) : Prop := s.i ≤ s.l.length ∧ s.l.length ≤ 800
/-- The number that is drawn, and the source behind it. -/
def Sc.n (s : Sc) (k : Int) : Int := if s.i < s.l.length ∧ 1 ≤ k then nth s.l s.i % k else 0
def Sc.x (s : Sc) (k : Int) : Sc := if s.i < s.l.length ∧ 1 ≤ k then ⟨s.l, s.i + 1⟩ else s
theorem Sc.ok_x {s : Sc} (h : s.ok) (k : Int) : (s.x k).ok := by
  unfold Sc.x; split
  · obtain ⟨h1, h2⟩ := h; exact ⟨by dsimp only; omega, h2⟩
  · exact h
theorem Sc.n_bd (s : Sc) {k : Int} (h : 1 ≤ k) : 0 ≤ s.n k ∧ s.n k ≤ k - 1 := by
  unfold Sc.n; split
  · have h1 := Int.emod_nonneg (nth s.l s.i) (show k ≠ 0 by omega)
    have h2 := Int.emod_lt_of_pos (nth s.l s.i) (show 0 < k by omega)
    omega
  · omega
theorem tmod_bd (x : Int) {k : Int} (h : 1 ≤ k) : -k < x.tmod k ∧ x.tmod k < k := by
  have h1 := Int.emod_nonneg x (show k ≠ 0 by omega)
  have h2 := Int.emod_lt_of_pos x (show 0 < k by omega)
  rw [Int.tmod_eq_emod]
  split <;> rename_i h3
  · omega
  · have : (k.natAbs : Int) = k := by omega
    rw [this]
    have : ¬ x % k = 0 := fun e => h3 (.inr (Int.dvd_of_emod_eq_zero e))
    omega
theorem tmod_emod (x : Int) {k : Int} (h : 1 ≤ k) : (x.tmod k + k).tmod k = x % k := by
  have hb := tmod_bd x h
  rw [Int.tmod_eq_emod_of_nonneg (by omega), Int.add_emod_right, Int.tmod_eq_emod]
  split
  · rw [show ((0 : Nat) : Int) = 0 from rfl, Int.sub_zero]; exact Int.emod_emod_of_dvd x (Int.dvd_refl k)
  · have e : (k.natAbs : Int) = k := by omega
    rw [e, Int.sub_emod, Int.emod_self, Int.sub_zero, Int.emod_emod_of_dvd _ (Int.dvd_refl k), Int.emod_emod_of_dvd _ (Int.dvd_refl k)]
end Go.Proofs.YtkjpnmodlmlhdaaGreatDoor
/- Contracts of the functions on networks: sets, parts, delays, checking. -/
namespace Go.Proofs.YtkjpnmodlmlhdaaGreatDoor
set_option linter.unusedSimpArgs false
set_option linter.unusedVariables false
set_option linter.unnecessarySimpa false
set_option linter.unusedSectionVars false
set_option maxRecDepth 100000
open Go Go.RowKit Go.Am Go.Proofs.Grow
section
variable {o : Oper} {t t' : TypeId} {x y : Operand} {T : Nat → Option AV} {M : Nat → Option AO} {a b : Int}
theorem band_step (ho : o.op = .binOp .and t x y t') (hx : evA T x = some (vI a)) (hy : evA T y = some (vI b)) : StepOK Tryz.prog o T M ⟨vI (bandI a b), [], []⟩ :=
  step_bits ho hx hy fun w => by simp only [binOp, Op.intBits]; rfl
theorem bor_step (ho : o.op = .binOp .or t x y t') (hx : evA T x = some (vI a)) (hy : evA T y = some (vI b)) : StepOK Tryz.prog o T M ⟨vI (borI a b), [], []⟩ :=
  step_bits ho hx hy fun w => by simp only [binOp, Op.intBits]; rfl
theorem bnot_step (ho : o.op = .binOp .andNot t x y t') (hx : evA T x = some (vI a)) (hy : evA T y = some (vI b)) : StepOK Tryz.prog o T M ⟨vI (bnotI a b), [], []⟩ :=
  step_bits ho hx hy fun w => by simp only [binOp, Op.intBits]; rfl
theorem shl_step (ho : o.op = .binOp .shl t x y t') (hx : evA T x = some (vI 1)) (hy : evA T y = some (vI b)) (h0 : 0 ≤ b := by exact num) : StepOK Tryz.prog o T M ⟨vI (shlI b), [], []⟩ :=
  step_bits ho hx hy fun w => by
    have h1 : ¬ b < 0 := by omega
    simp [binOp, Op.shift, shlI, IntKind.bits, h1]
end
theorem shl10 : shlI 10 = 1024 := by decide +kernel
theorem below_m (s : Int) : FnM Tryz.prog 101 [] [vI s, vI 10] (vB (validS s)) [] := by
  refine FnM.of htb Tryz.func101 rfl rfl rfl rfl rfl fun cx hN h0 => ?_
  (repeat' (first | ((with_reducible apply WD_id); first | (refine WD_nxt htb (by exact rfl) ?_) | (refine WD_eq (shl_step rfl rfl rfl) ?_) | ((refine WD_tf (by exact rfl) (by exact rfl) ?_ ?_) <;> (intro hb; (fail_if_success (with_reducible injection hb)); rw [hb]; (try simp only [List.length_map] at hb)))) | (with_reducible apply WA_seq) | ((with_reducible apply gR hmix hN); exact (by kernel_rfl); (try dsimp only [List.append_eq, List.cons_append, List.nil_append])) | ((with_reducible apply WD_end); (first | exact no_draw | (intro _; kernel_rfl)); try simp only [thn, inB, List.length_map, List.cons_append, List.nil_append]) | (with_reducible apply WA_block) | ((with_reducible first | apply WA_skip | apply WA_ret | apply WA_exit | apply WA_label); try simp only [thn, inB, List.length_map, List.cons_append, List.nil_append])))
  all_goals refine gE (.inr rfl) rfl (congrArg vB ?_) trivial
  all_goals first | (simp_all [validS, shl10]; done) | (simp_all [validS, shl10]; intros; omega)
theorem valid_m (s : Int) : FnM Tryz.prog 65 [] [vI s] (vB (validS s)) [] := by
  refine FnM.of htb Tryz.func65 rfl rfl rfl rfl rfl fun cx hN h0 => ?_
  (repeat' (first | ((with_reducible apply WD_id); first | (refine WD_nxt htb (by exact rfl) ?_) | (refine WD_call (by exact rfl) ?_; first | (refine WD_c0 (below_m _) ?_))) | (with_reducible apply WA_seq) | ((with_reducible apply gR hmix hN); exact (by kernel_rfl); (try dsimp only [List.append_eq, List.cons_append, List.nil_append])) | ((with_reducible apply WD_end); (first | exact no_draw | (intro _; kernel_rfl)); try simp only [thn, inB, List.length_map, List.cons_append, List.nil_append]) | (with_reducible apply WA_block) | ((with_reducible first | apply WA_skip | apply WA_ret | apply WA_exit | apply WA_label); try simp only [thn, inB, List.length_map, List.cons_append, List.nil_append])))
  exact gE (.inr rfl) rfl rfl trivial
theorem has_m (s x : Int) : FnM Tryz.prog 111 [] [vI s, vI x] (vB (hasB s x)) [] := by
  refine FnM.of htb Tryz.func111 rfl rfl rfl rfl rfl fun cx hN h0 => ?_
  (repeat' (first | ((with_reducible apply WD_id); first | (refine WD_nxt htb (by exact rfl) ?_) | (refine WD_call (by exact rfl) ?_; first | (refine WD_c0 (valid_m _) ?_)) | (refine WD_eq (shl_step rfl rfl rfl) ?_) | (refine WD_eq (band_step rfl rfl rfl) ?_) | ((refine WD_tf (by exact rfl) (by exact rfl) ?_ ?_) <;> (intro hb; (fail_if_success (with_reducible injection hb)); rw [hb]; (try simp only [List.length_map] at hb)))) | (with_reducible apply WA_seq) | ((with_reducible apply gR hmix hN); exact (by kernel_rfl); (try dsimp only [List.append_eq, List.cons_append, List.nil_append])) | ((with_reducible apply WD_end); (first | exact no_draw | (intro _; kernel_rfl)); try simp only [thn, inB, List.length_map, List.cons_append, List.nil_append]) | (with_reducible apply WA_block) | ((with_reducible first | apply WA_skip | apply WA_ret | apply WA_exit | apply WA_label); try simp only [thn, inB, List.length_map, List.cons_append, List.nil_append])))
  all_goals refine gE (.inr rfl) rfl (congrArg vB ?_) trivial
  all_goals first | (simp_all [hasB, nodeB, bne]; done) | (simp_all [hasB, nodeB, bne]; intros; omega)
theorem orN_m (l : List Int) (hl : l.length ≤ 100) : FnM Tryz.prog 94 [] [lI l] (vI (orI l)) [] := by
  refine FnM.of htb Tryz.func94 rfl rfl rfl rfl rfl fun cx hN h0 => ?_
  (repeat' (first | ((with_reducible apply WD_id); first | (refine WD_sum ?_) | (refine WD_nxt htb (by exact rfl) ?_) | (refine WD_idx htb ?_)) | (with_reducible apply WA_seq) | ((with_reducible apply gR hmix hN); exact (by kernel_rfl); (try dsimp only [List.append_eq, List.cons_append, List.nil_append])) | ((with_reducible apply WD_end); (first | exact no_draw | (intro _; kernel_rfl)); try simp only [thn, inB, List.length_map, List.cons_append, List.nil_append]) | ((with_reducible apply gCt); exact rfl; exact rfl) | ((with_reducible apply gCf); exact rfl; exact rfl) | (((with_reducible apply gC2); exact rfl) <;> (intro hb; rw [hb])) | (with_reducible apply WA_block) | ((with_reducible first | apply WA_skip | apply WA_ret | apply WA_exit | apply WA_label); try simp only [thn, inB, List.length_map, List.cons_append, List.nil_append])))
  (refine WA_forV (l.length) [8, 5] [] (fun k => [(8, vI k)]) (fun k => []) (fun k => orI l = orI (l.drop k)) ?h0 ?_)
  case h0 => rfl
  intro k hk hI
  (repeat' (first | ((with_reducible apply WD_id); first | (refine WD_sum ?_) | (refine WD_nxt htb (by exact rfl) ?_) | (refine WD_idx htb ?_)) | (with_reducible apply WA_seq) | ((with_reducible apply gR hmix hN); exact (by kernel_rfl); (try dsimp only [List.append_eq, List.cons_append, List.nil_append])) | ((with_reducible apply WD_end); (first | exact no_draw | (intro _; kernel_rfl)); try simp only [thn, inB, List.length_map, List.cons_append, List.nil_append]) | ((with_reducible apply gCt); exact rfl; exact rfl) | ((with_reducible apply gCf); exact rfl; exact rfl) | (((with_reducible apply gC2); exact rfl) <;> (intro hb; rw [hb])) | (with_reducible apply WA_block) | ((with_reducible first | apply WA_skip | apply WA_ret | apply WA_exit | apply WA_label); try simp only [thn, inB, List.length_map, List.cons_append, List.nil_append])))
  · have hk' : k < l.length := by simp at *; omega
    rw [drop_nth l k hk', orI, if_neg (by simpa using hb)] at hI
    exact gE (.inr rfl) rfl (congrArg vI hI.symm) trivial
  · have hk' : k < l.length := by simp at *; omega
    rw [drop_nth l k hk', orI, if_pos (by simpa using hb)] at hI
    refine ⟨hk', hI, ?_⟩
    (exact LeV [])
  · have hk' : l.length ≤ k := by simp at *; omega
    rw [List.drop_eq_nil_of_le hk'] at hI
    exact gE (.inr rfl) rfl (congrArg vI hI.symm) trivial
end Go.Proofs.YtkjpnmodlmlhdaaGreatDoor
/- Contracts of the functions on trusts. -/
namespace Go.Proofs.YtkjpnmodlmlhdaaGreatDoor
set_option linter.unusedSimpArgs false
set_option linter.unusedVariables false
set_option linter.unnecessarySimpa false
set_option linter.unusedSectionVars false
set_option maxRecDepth 100000
open Go Go.RowKit Go.Am Go.Proofs.Grow
mutual
def rTr : Tr → List D
  | .mk k ns is => [dI k, .rows 1 (ns.map rI), .rows 3 (rTrs is)]
def rTrs : List Tr → List (List D)
  | [] => []
  | t :: r => rTr t :: rTrs r
end
def rTp (t : Tr) : List D := [dI t.k, .rows 1 (t.ns.map rI), .rows 3 (t.is.map rTr)]
theorem rTrs_map : ∀ l : List Tr, rTrs l = l.map rTr
  | [] => rfl
  | t :: r => by simp only [rTrs, List.map_cons, rTrs_map r]
theorem rTr_p : rTr = rTp := funext fun t => by cases t; simp only [rTr, rTp, rTrs_map, Tr.k, Tr.ns, Tr.is]
abbrev lTr (l : List Tr) : AV := .d (.rows 3 (l.map rTr))
abbrev aTr (t : Tr) : AV := .agg [vI t.k, lI t.ns, lTr t.is]
theorem satT_eq (s : Int) (t : Tr) : satT s t = (validS s && decide (satL s t.is (cntI s t.ns 0) ≥ t.k)) := by cases t; simp only [satT, Tr.k, Tr.ns, Tr.is]; rfl
theorem take_all {α : Type} {l : List α} {k : Nat} (h : l.length ≤ k) : l.take k = l := List.take_of_length_le h
theorem sat_m : ∀ (d : Nat) (s : Int) (t : Tr) (hd : hT t ≤ d) (hs : sizT t ≤ 1000), FnM Tryz.prog 191 [] [aTr t, vI s] (vB (satT s t)) [] := by
  intro d
  induction d with
  | zero => intro s t hd; cases t; simp [hT] at hd
  | succ d ih =>
    intro s t hd hs
    have hl := siz_len t
    have satR_m : ∀ (s : Int) (x : Tr) (hx : hT x ≤ d ∧ sizT x ≤ 1000), FnM Tryz.prog 191 [] [aTr x, vI s] (vB (satT s x)) [] := fun s x hx => ih s x hx.1 hx.2
    show FnM _ _ _ [.agg [vI t.k, lI t.ns, .d (.rows 3 (t.is.map rTr))], vI s] _ _
    rw [rTr_p]
    refine FnM.of htb Tryz.func191 rfl rfl rfl rfl rfl fun cx hN h0 => ?_
    cases hv : validS s with
    | false =>
      have hv2 : (!validS s) = true := by rw [hv]; rfl
      (repeat' (first | (refine nx ?_) | (refine WD_call (by exact rfl) ?_; first | (refine WD_c0 (valid_m _) ?_)) | ((with_reducible apply WD_id); first | (refine WD_clr htb ?_))))
      exact gE (.inr rfl) rfl (congrArg vB (by rw [satT_eq, hv]; rfl)) trivial
    | true =>
      have hv2 : (!validS s) = false := by rw [hv]; rfl
      (repeat' (first | (refine nx ?_) | (refine WD_call (by exact rfl) ?_; first | (refine WD_c0 (valid_m _) ?_)) | ((with_reducible apply WD_id); first | (refine WD_clr htb ?_))))
      (refine WA_forV (t.ns.length) [16, 5] [] (fun k => [(16, vI k), (5, vI (cntI s (t.ns.take k) 0))]) (fun k => []) (fun k => True) ?h0 ?_)
      case h0 => trivial
      intro k hk _
      have hb := cntI_bd s (t.ns.take k) 0
      have hlk : (t.ns.take k).length ≤ k := by rw [List.length_take]; omega
      rcases Nat.lt_or_ge k t.ns.length with hk' | hk'
      · have t1 : decide ((k : Int) < (t.ns.length : Int)) = true := by simp; omega
        have hw := cntI_take (s := s) (a := 0) hk'
        cases hx : hasB s (nth t.ns k) with
        | true =>
          (repeat' (first | (refine nx ?_) | (refine WD_call (by exact rfl) ?_; first | (refine WD_c0 (has_m _ _) ?_)) | ((with_reducible apply WD_id); first | (refine WD_clr htb ?_))))
          refine ⟨hk', trivial, ?_⟩
          rw [hw, if_pos hx]
          (exact LeV [])
        | false =>
          (repeat' (first | (refine nx ?_) | (refine WD_call (by exact rfl) ?_; first | (refine WD_c0 (has_m _ _) ?_)) | ((with_reducible apply WD_id); first | (refine WD_clr htb ?_))))
          refine ⟨hk', trivial, ?_⟩
          rw [hw, if_neg (by simp [hx])]
          (exact LeV [])
      · have t1 : decide ((k : Int) < (t.ns.length : Int)) = false := by simp; omega
        have e1 : t.ns.take k = t.ns := take_all hk'
        rw [e1]
        rw [e1] at hb
        (repeat' (first | (refine nx ?_) | ((with_reducible apply WD_id); first | (refine WD_clr htb ?_))))
        (refine WA_forV (t.is.length) [29, 5] [] (fun k => [(29, vI k), (5, vI (satL s (t.is.take k) (cntI s t.ns 0)))]) (fun k => []) (fun k => True) ?h0 ?_)
        case h0 => trivial
        intro k2 hk2 _
        have hb2 := satL_bd s (t.is.take k2) (cntI s t.ns 0)
        have hlk2 : (t.is.take k2).length ≤ k2 := by rw [List.length_take]; omega
        rcases Nat.lt_or_ge k2 t.is.length with hk2' | hk2'
        · have t2 : decide ((k2 : Int) < (t.is.length : Int)) = true := by simp; omega
          have hw := satL_take (s := s) (a := cntI s t.ns 0) hk2'
          have hm := nth_mem t.is k2 hk2'
          have hx : hT (nth t.is k2) ≤ d ∧ sizT (nth t.is k2) ≤ 1000 := by have := hT_mem hm; have := siz_mem hm; omega
          cases hy : satT s (nth t.is k2) with
          | true =>
            (repeat' (first | (refine nx ?_) | (refine WD_call (by exact rfl) ?_; first | (refine WD_c0 (satR_m _ _ ?_) ?_; (exact hyp))) | ((with_reducible apply WD_id); first | (refine WD_clr htb ?_))))
            refine ⟨hk2', trivial, ?_⟩
            rw [hw, if_pos hy]
            (exact LeV [])
          | false =>
            (repeat' (first | (refine nx ?_) | (refine WD_call (by exact rfl) ?_; first | (refine WD_c0 (satR_m _ _ ?_) ?_; (exact hyp))) | ((with_reducible apply WD_id); first | (refine WD_clr htb ?_))))
            refine ⟨hk2', trivial, ?_⟩
            rw [hw, if_neg (by simp [hy])]
            (exact LeV [])
        · have t2 : decide ((k2 : Int) < (t.is.length : Int)) = false := by simp; omega
          have e2 : t.is.take k2 = t.is := take_all hk2'
          rw [e2]
          (repeat' (first | (refine nx ?_) | ((with_reducible apply WD_id); first | (refine WD_clr htb ?_))))
          exact gE (.inr rfl) rfl (congrArg vB (by rw [satT_eq, hv]; rfl)) trivial
theorem dep_m : ∀ (d : Nat) (t : Tr) (hd : hT t ≤ d) (hs : sizT t ≤ 1000), FnM Tryz.prog 88 [] [aTr t] (vI (depT t)) [] := by
  intro d
  induction d with
  | zero => intro t hd; cases t; simp [hT] at hd
  | succ d ih =>
    intro t hd hs
    have hl := siz_len t
    have depR_m : ∀ (x : Tr) (hx : hT x ≤ d ∧ sizT x ≤ 1000), FnM Tryz.prog 88 [] [aTr x] (vI (depT x)) [] := fun x hx => ih x hx.1 hx.2
    have hh : hT t = hL t.is + 1 := by cases t; simp only [hT, Tr.is]
    have hh2 := h_siz t
    have ed : depT t = depL t.is 0 + 1 := by cases t; simp only [depT, Tr.is]
    show FnM _ _ _ [.agg [vI t.k, lI t.ns, .d (.rows 3 (t.is.map rTr))]] _ _
    rw [rTr_p, ed]
    refine FnM.of htb Tryz.func88 rfl rfl rfl rfl rfl fun cx hN h0 => ?_
    (repeat' (first | (refine nx ?_) | ((with_reducible apply WD_id); first | (refine WD_clr htb ?_))))
    (refine WA_forV (t.is.length) [9, 3] [] (fun k => [(9, vI k), (3, vI (depL (t.is.take k) 0))]) (fun k => []) (fun k => True) ?h0 ?_)
    case h0 => trivial
    intro k hk _
    rcases Nat.lt_or_ge k t.is.length with hk' | hk'
    · have t1 : decide ((k : Int) < (t.is.length : Int)) = true := by simp; omega
      have hw := depL_take (a := 0) hk'
      have hm := nth_mem t.is k hk'
      have hx : hT (nth t.is k) ≤ d ∧ sizT (nth t.is k) ≤ 1000 := by have := hT_mem hm; have := siz_mem hm; omega
      (repeat' (first | (refine nx ?_) | (refine WD_call (by exact rfl) ?_; first | (refine WD_c0 (depR_m _ ?_) ?_; (exact hyp))) | ((with_reducible apply WD_id); first | (refine WD_clr htb ?_))))
      refine ⟨hk', trivial, ?_⟩
      rw [hw]
      (exact LeV [])
    · have t1 : decide ((k : Int) < (t.is.length : Int)) = false := by simp; omega
      have e1 : t.is.take k = t.is := take_all hk'
      rw [e1]
      have hb : 0 ≤ depL t.is 0 ∧ depL t.is 0 ≤ 1001 := by
        have := depL_h t.is 0
        rw [show ((0 : Nat) : Int) = 0 from rfl] at this
        omega
      (repeat' (first | (refine nx ?_) | ((with_reducible apply WD_id); first | (refine WD_clr htb ?_))))
      exact gE (.inr rfl) rfl rfl trivial
theorem siz_m : ∀ (d : Nat) (t : Tr) (hd : hT t ≤ d) (hs : sizT t ≤ 1000), FnM Tryz.prog 89 [] [aTr t] (vI (sizT t)) [] := by
  intro d
  induction d with
  | zero => intro t hd; cases t; simp [hT] at hd
  | succ d ih =>
    intro t hd hs
    have hl := siz_len t
    have sizR_m : ∀ (x : Tr) (hx : hT x ≤ d ∧ sizT x ≤ 1000), FnM Tryz.prog 89 [] [aTr x] (vI (sizT x)) [] := fun x hx => ih x hx.1 hx.2
    have ed : sizT t = sizL t.is ((t.ns.length : Int) + (t.is.length : Int)) := by cases t; simp only [sizT, Tr.is, Tr.ns]
    show FnM _ _ _ [.agg [vI t.k, lI t.ns, .d (.rows 3 (t.is.map rTr))]] _ _
    rw [rTr_p]
    refine FnM.of htb Tryz.func89 rfl rfl rfl rfl rfl fun cx hN h0 => ?_
    (repeat' (first | (refine nx ?_) | ((with_reducible apply WD_id); first | (refine WD_clr htb ?_))))
    (refine WA_forV (t.is.length) [16, 3] [] (fun k => [(16, vI k), (3, vI (sizL (t.is.take k) ((t.ns.length : Int) + (t.is.length : Int))))]) (fun k => []) (fun k => True) ?h0 ?_)
    case h0 => trivial
    intro k hk _
    rcases Nat.lt_or_ge k t.is.length with hk' | hk'
    · have t1 : decide ((k : Int) < (t.is.length : Int)) = true := by simp; omega
      have hw := sizL_take1 (a := (t.ns.length : Int) + (t.is.length : Int)) hk'
      have hm := nth_mem t.is k hk'
      have hx : hT (nth t.is k) ≤ d ∧ sizT (nth t.is k) ≤ 1000 := by have := hT_mem hm; have := siz_mem hm; omega
      have hb1 := sizL_take (l := t.is) (k := k + 1) (a := (t.ns.length : Int) + (t.is.length : Int))
      have hb2 := sizL_nn (t.is.take k) ((t.ns.length : Int) + (t.is.length : Int))
      have hb3 := siz_nn (nth t.is k)
      rw [hw, ← ed] at hb1
      (repeat' (first | (refine nx ?_) | (refine WD_call (by exact rfl) ?_; first | (refine WD_c0 (sizR_m _ ?_) ?_; (exact hyp))) | ((with_reducible apply WD_id); first | (refine WD_clr htb ?_))))
      refine ⟨hk', trivial, ?_⟩
      rw [hw]
      (exact LeV [])
    · have t1 : decide ((k : Int) < (t.is.length : Int)) = false := by simp; omega
      have e1 : t.is.take k = t.is := take_all hk'
      rw [e1, ← ed]
      (repeat' (first | (refine nx ?_) | ((with_reducible apply WD_id); first | (refine WD_clr htb ?_))))
      exact gE (.inr rfl) rfl rfl trivial
theorem tnode_m (n : Int) : FnM Tryz.prog 58 [] [vI n] (vB (nodeB n)) [] := by
  refine FnM.of htb Tryz.func58 rfl rfl rfl rfl rfl fun cx hN h0 => ?_
  (repeat' (first | (refine nx ?_) | ((with_reducible apply WD_id); first | (refine WD_clr htb ?_)) | ((refine WD_tf (by exact rfl) (by exact rfl) ?_ ?_) <;> (intro hb; (fail_if_success (with_reducible injection hb)); rw [hb]; (try simp only [List.length_map] at hb)))))
  all_goals refine gE (.inr rfl) rfl (congrArg vB ?_) trivial
  all_goals first | (simp_all [nodeB]; done) | (simp_all [nodeB]; intros; omega)
theorem nlev_m (n : Int) : FnM Tryz.prog 174 [] [vI n] (vB (!nodeB n)) [] := by
  refine FnM.of htb Tryz.func174 rfl rfl rfl rfl rfl fun cx hN h0 => ?_
  (repeat' (first | (refine nx ?_) | (refine WD_call (by exact rfl) ?_; first | (refine WD_c0 (tnode_m _) ?_)) | ((with_reducible apply WD_id); first | (refine WD_clr htb ?_))))
  exact gE (.inr rfl) rfl rfl trivial
theorem idxN_m (l : List Int) (hl : l.length ≤ 1000) : FnM Tryz.prog 100 [] [lI l, .clo 174 []] (vI (idxF (fun k => !nodeB k) 0 l)) [] := by
  refine FnM.of htb Tryz.func100 rfl rfl rfl rfl rfl fun cx hN h0 => ?_
  (repeat' (first | (refine nx ?_) | ((with_reducible apply WD_id); first | (refine WD_clr htb ?_)) | (((with_reducible apply gC2); exact rfl) <;> (intro hb; rw [hb]))))
  (refine WA_forV (l.length) [8] [] (fun k => [(8, vI k)]) (fun k => []) (fun k => idxF (fun k => !nodeB k) 0 l = idxF (fun k => !nodeB k) k (l.drop k)) ?h0 ?_)
  case h0 => rfl
  intro k hk hI
  (repeat' (first | (refine nx ?_) | (refine WD_call (by exact rfl) ?_; first | (refine WD_c0 (nlev_m _) ?_)) | ((with_reducible apply WD_id); first | (refine WD_clr htb ?_)) | (((with_reducible apply gC2); exact rfl) <;> (intro hb; rw [hb]))))
  · exact gE (.inr rfl) rfl (congrArg vI (idx_hit hI (by simp at *; omega) (by assumption)).symm) trivial
  · refine ⟨by simp at *; omega, idx_miss hI (by simp at *; omega) (by assumption), ?_⟩
    (exact LeV [])
  · exact gE (.inr rfl) rfl (congrArg vI (idx_end hI (by simp at *; omega)).symm) trivial
theorem contN_m (l : List Int) (hl : l.length ≤ 1000) : FnM Tryz.prog 68 [] [lI l, .clo 174 []] (vB (decide (idxF (fun k => !nodeB k) 0 l ≥ 0))) [] := by
  refine FnM.of htb Tryz.func68 rfl rfl rfl rfl rfl fun cx hN h0 => ?_
  (repeat' (first | (refine nx ?_) | (refine WD_call (by exact rfl) ?_; first | (refine WD_c0 (idxN_m _ ?_) ?_; (exact hyp))) | ((with_reducible apply WD_id); first | (refine WD_clr htb ?_))))
  exact gE (.inr rfl) rfl rfl trivial
theorem ofI_step {l : List Int} {k : Nat} {a : Int} (h : k < l.length) : ofI (l.drop k) a = if nodeB (nth l k) = false then (0, 5) else if hasB a (nth l k) = true then (0, 6) else ofI (l.drop (k + 1)) (borI a (shlI (nth l k))) := by
  rw [drop_nth l k h]; rfl
theorem of_m (l : List Int) (hl : l.length ≤ 1000) : FnM Tryz.prog 175 [] [lI l] (.tup [vI (ofI l 0).1, vI (ofI l 0).2]) [] := by
  refine FnM.of htb Tryz.func175 rfl rfl rfl rfl rfl fun cx hN h0 => ?_
  (repeat' (first | (refine nx ?_) | ((with_reducible apply WD_id); first | (refine WD_clr htb ?_))))
  (refine WA_anyV (α := Nat × Int) (fun x => l.length - x.1) ((0, 0)) [9, 4] [] (fun x => [(9, vI x.1), (4, vI x.2)]) (fun x => []) (fun x => x.1 ≤ l.length ∧ ofI l 0 = ofI (l.drop x.1) x.2) ?h0 ?_)
  case h0 => exact ⟨Nat.zero_le _, rfl⟩
  rintro ⟨k, a⟩ ⟨hk, hI⟩
  dsimp only at hk hI ⊢
  rcases Nat.lt_or_ge k l.length with hk' | hk'
  · have t1 : decide ((k : Int) < (l.length : Int)) = true := by simp; omega
    rw [ofI_step hk'] at hI
    cases hn : nodeB (nth l k) with
    | false =>
      rw [if_pos hn] at hI
      rw [hI]
      have hn2 : ¬ (0 ≤ nth l k ∧ nth l k < 10) := by intro h; simp [nodeB, h] at hn
      by_cases h0 : nth l k < 0
      · have t2 : decide (nth l k < 0) = true := by simp; omega
        (repeat' (first | (refine nx ?_) | ((with_reducible apply WD_id); first | (refine WD_clr htb ?_))))
        exact gE (.inr rfl) rfl rfl trivial
      · have t2 : decide (nth l k < 0) = false := by simp; omega
        have t3 : decide (nth l k ≥ 10) = true := by simp; omega
        (repeat' (first | (refine nx ?_) | ((with_reducible apply WD_id); first | (refine WD_clr htb ?_))))
        exact gE (.inr rfl) rfl rfl trivial
    | true =>
      have hn2 : 0 ≤ nth l k ∧ nth l k < 10 := by simpa [nodeB] using hn
      have t2 : decide (nth l k < 0) = false := by simp; omega
      have t3 : decide (nth l k ≥ 10) = false := by simp; omega
      rw [if_neg (by simp [hn])] at hI
      cases hh : hasB a (nth l k) with
      | true =>
        rw [if_pos hh] at hI
        rw [hI]
        (repeat' (first | (refine nx ?_) | (refine WD_call (by exact rfl) ?_; first | (refine WD_c0 (has_m _ _) ?_)) | ((with_reducible apply WD_id); first | (refine WD_clr htb ?_))))
        exact gE (.inr rfl) rfl rfl trivial
      | false =>
        rw [if_neg (by simp [hh])] at hI
        (repeat' (first | ((with_reducible apply WD_id); first | (refine WD_eq (shl_step rfl rfl rfl) ?_) | (refine WD_eq (bor_step rfl rfl rfl) ?_)) | (refine nx ?_) | (refine WD_call (by exact rfl) ?_; first | (refine WD_c0 (has_m _ _) ?_)) | ((with_reducible apply WD_id); first | (refine WD_clr htb ?_))))
        refine ⟨(k + 1, borI a (shlI (nth l k))), (by dsimp only; omega), ⟨hk', hI⟩, ?_⟩
        (exact LeV [])
  · have t1 : decide ((k : Int) < (l.length : Int)) = false := by simp; omega
    rw [List.drop_eq_nil_of_le hk'] at hI
    rw [hI]
    (repeat' (first | (refine nx ?_) | ((with_reducible apply WD_id); first | (refine WD_clr htb ?_))))
    exact gE (.inr rfl) rfl rfl trivial
theorem levT_eq (t : Tr) : levT t = if t.k < 1 ∨ (t.ns.length : Int) + (t.is.length : Int) < t.k then 4 else if decide (idxF (fun k => !nodeB k) 0 t.ns ≥ 0) = true then 5 else if (ofI t.ns 0).2 ≠ 0 then (ofI t.ns 0).2 else levL t.is := by cases t; simp only [levT, Tr.k, Tr.ns, Tr.is]; rfl
theorem levL_step {l : List Tr} {k : Nat} (h : k < l.length) : levL (l.drop k) = if levT (nth l k) ≠ 0 then levT (nth l k) else levL (l.drop (k + 1)) := by
  rw [drop_nth l k h, levL]
theorem lev_m : ∀ (d : Nat) (t : Tr) (hd : hT t ≤ d) (hs : sizT t ≤ 1000), FnM Tryz.prog 129 [] [aTr t] (vI (levT t)) [] := by
  intro d
  induction d with
  | zero => intro t hd; cases t; simp [hT] at hd
  | succ d ih =>
    intro t hd hs
    have hl := siz_len t
    have hn := hs
    have levR_m : ∀ (x : Tr) (hx : hT x ≤ d ∧ sizT x ≤ 1000), FnM Tryz.prog 129 [] [aTr x] (vI (levT x)) [] := fun x hx => ih x hx.1 hx.2
    show FnM _ _ _ [.agg [vI t.k, lI t.ns, .d (.rows 3 (t.is.map rTr))]] _ _
    rw [rTr_p, levT_eq]
    refine FnM.of htb Tryz.func129 rfl rfl rfl rfl rfl fun cx hN h0 => ?_
    by_cases hc1 : t.k < 1
    · have t1 : decide (t.k < 1) = true := by simp; omega
      rw [if_pos (.inl hc1)]
      (repeat' (first | (refine nx ?_) | ((with_reducible apply WD_id); first | (refine WD_clr htb ?_))))
      exact gE (.inr rfl) rfl rfl trivial
    have t1 : decide (t.k < 1) = false := by simp; omega
    by_cases hc2 : (t.ns.length : Int) + (t.is.length : Int) < t.k
    · have t2 : decide (t.k > (t.ns.length : Int) + (t.is.length : Int)) = true := by simp; omega
      rw [if_pos (.inr hc2)]
      (repeat' (first | (refine nx ?_) | ((with_reducible apply WD_id); first | (refine WD_clr htb ?_))))
      exact gE (.inr rfl) rfl rfl trivial
    have t2 : decide (t.k > (t.ns.length : Int) + (t.is.length : Int)) = false := by simp; omega
    rw [if_neg (by omega)]
    cases hc3 : decide (idxF (fun k => !nodeB k) 0 t.ns ≥ 0) with
    | true =>
      rw [if_pos rfl]
      (repeat' (first | (refine nx ?_) | (refine WD_call (by exact rfl) ?_; first | (refine WD_c0 (contN_m _ ?_) ?_; (exact hyp))) | ((with_reducible apply WD_id); first | (refine WD_clr htb ?_))))
      exact gE (.inr rfl) rfl rfl trivial
    | false =>
      rw [if_neg (by simp)]
      by_cases hc4 : (ofI t.ns 0).2 ≠ 0
      · rw [if_pos hc4]
        have t4 : ((ofI t.ns 0).2 != 0) = true := by simpa using hc4
        (repeat' (first | (refine nx ?_) | (refine WD_call (by exact rfl) ?_; first | (refine WD_c0 (contN_m _ ?_) ?_; (exact hyp)) | (refine WD_c0 (of_m _ ?_) ?_; (exact hyp))) | ((with_reducible apply WD_id); first | (refine WD_clr htb ?_))))
        exact gE (.inr rfl) rfl rfl trivial
      · rw [if_neg hc4]
        have t4 : ((ofI t.ns 0).2 != 0) = false := by simpa using hc4
        (repeat' (first | (refine nx ?_) | (refine WD_call (by exact rfl) ?_; first | (refine WD_c0 (contN_m _ ?_) ?_; (exact hyp)) | (refine WD_c0 (of_m _ ?_) ?_; (exact hyp))) | ((with_reducible apply WD_id); first | (refine WD_clr htb ?_))))
        (refine WA_forV (t.is.length) [38] [] (fun k => [(38, vI k)]) (fun k => []) (fun k => levL t.is = levL (t.is.drop k)) ?h0 ?_)
        case h0 => rfl
        intro k hk hI
        rcases Nat.lt_or_ge k t.is.length with hk' | hk'
        · have t5 : decide ((k : Int) < (t.is.length : Int)) = true := by simp; omega
          have hm := nth_mem t.is k hk'
          have hx : hT (nth t.is k) ≤ d ∧ sizT (nth t.is k) ≤ 1000 := by have := hT_mem hm; have := siz_mem hm; omega
          rw [levL_step hk'] at hI
          by_cases hy : levT (nth t.is k) ≠ 0
          · rw [if_pos hy] at hI
            have t6 : (levT (nth t.is k) != 0) = true := by simpa using hy
            (repeat' (first | (refine nx ?_) | (refine WD_call (by exact rfl) ?_; first | (refine WD_c0 (levR_m _ ?_) ?_; (exact hyp))) | ((with_reducible apply WD_id); first | (refine WD_clr htb ?_))))
            exact gE (.inr rfl) rfl (congrArg vI hI.symm) trivial
          · rw [if_neg hy] at hI
            have t6 : (levT (nth t.is k) != 0) = false := by simpa using hy
            (repeat' (first | (refine nx ?_) | (refine WD_call (by exact rfl) ?_; first | (refine WD_c0 (levR_m _ ?_) ?_; (exact hyp))) | ((with_reducible apply WD_id); first | (refine WD_clr htb ?_))))
            refine ⟨hk', hI, ?_⟩
            (exact LeV [])
        · have t5 : decide ((k : Int) < (t.is.length : Int)) = false := by simp; omega
          rw [List.drop_eq_nil_of_le hk'] at hI
          (repeat' (first | (refine nx ?_) | ((with_reducible apply WD_id); first | (refine WD_clr htb ?_))))
          exact gE (.inr rfl) rfl (congrArg vI hI.symm) trivial
theorem chk3_m (t : Tr) (hs : sizT t ≤ 1000) : FnM Tryz.prog 87 [] [aTr t] (vI (chkT t)) [] := by
  have hh : hT t ≤ hT t ∧ sizT t ≤ 1000 := ⟨Nat.le_refl _, hs⟩
  have depR_m : ∀ (x : Tr) (hx : hT x ≤ hT t ∧ sizT x ≤ 1000), FnM Tryz.prog 88 [] [aTr x] (vI (depT x)) [] := fun x hx => dep_m (hT t) x hx.1 hx.2
  have sizR_m : ∀ (x : Tr) (hx : hT x ≤ hT t ∧ sizT x ≤ 1000), FnM Tryz.prog 89 [] [aTr x] (vI (sizT x)) [] := fun x hx => siz_m (hT t) x hx.1 hx.2
  have levR_m : ∀ (x : Tr) (hx : hT x ≤ hT t ∧ sizT x ≤ 1000), FnM Tryz.prog 129 [] [aTr x] (vI (levT x)) [] := fun x hx => lev_m (hT t) x hx.1 hx.2
  refine FnM.of htb Tryz.func87 rfl rfl rfl rfl rfl fun cx hN h0 => ?_
  by_cases h1 : depT t > 4
  · have t1 : decide (depT t > 4) = true := by simpa using h1
    (repeat' (first | (refine nx ?_) | (refine WD_call (by exact rfl) ?_; first | (refine WD_c0 (depR_m _ ?_) ?_; (exact hyp))) | ((with_reducible apply WD_id); first | (refine WD_clr htb ?_))))
    exact gE (.inr rfl) rfl (congrArg vI (by unfold chkT; rw [if_pos (.inl h1)])) trivial
  have t1 : decide (depT t > 4) = false := by simpa using h1
  by_cases h2 : sizT t > 200
  · have t2 : decide (sizT t > 200) = true := by simpa using h2
    (repeat' (first | (refine nx ?_) | (refine WD_call (by exact rfl) ?_; first | (refine WD_c0 (depR_m _ ?_) ?_; (exact hyp)) | (refine WD_c0 (sizR_m _ ?_) ?_; (exact hyp))) | ((with_reducible apply WD_id); first | (refine WD_clr htb ?_))))
    exact gE (.inr rfl) rfl (congrArg vI (by unfold chkT; rw [if_pos (.inr h2)])) trivial
  have t2 : decide (sizT t > 200) = false := by simpa using h2
  (repeat' (first | (refine nx ?_) | (refine WD_call (by exact rfl) ?_; first | (refine WD_c0 (depR_m _ ?_) ?_; (exact hyp)) | (refine WD_c0 (sizR_m _ ?_) ?_; (exact hyp)) | (refine WD_c0 (levR_m _ ?_) ?_; (exact hyp))) | ((with_reducible apply WD_id); first | (refine WD_clr htb ?_))))
  exact gE (.inr rfl) rfl (congrArg vI (by unfold chkT; rw [if_neg (by omega)])) trivial
theorem useT_eq (t : Tr) : useT t = useL t.is (useI t.ns 0) := by cases t; simp only [useT, Tr.ns, Tr.is]
theorem use_m : ∀ (d : Nat) (t : Tr) (hd : hT t ≤ d) (hs : sizT t ≤ 1000), FnM Tryz.prog 30 [] [aTr t] (vI (useT t)) [] := by
  intro d
  induction d with
  | zero => intro t hd; cases t; simp [hT] at hd
  | succ d ih =>
    intro t hd hs
    have hl := siz_len t
    have useR_m : ∀ (x : Tr) (hx : hT x ≤ d ∧ sizT x ≤ 1000), FnM Tryz.prog 30 [] [aTr x] (vI (useT x)) [] := fun x hx => ih x hx.1 hx.2
    show FnM _ _ _ [.agg [vI t.k, lI t.ns, .d (.rows 3 (t.is.map rTr))]] _ _
    rw [rTr_p, useT_eq]
    refine FnM.of htb Tryz.func30 rfl rfl rfl rfl rfl fun cx hN h0 => ?_
    (repeat' (first | (refine nx ?_) | ((with_reducible apply WD_id); first | (refine WD_clr htb ?_))))
    (refine WA_forV (t.ns.length) [11, 3] [] (fun k => [(11, vI k), (3, vI (useI (t.ns.take k) 0))]) (fun k => []) (fun k => True) ?h0 ?_)
    case h0 => trivial
    intro k hk _
    rcases Nat.lt_or_ge k t.ns.length with hk' | hk'
    · have t1 : decide ((k : Int) < (t.ns.length : Int)) = true := by simp; omega
      have hw := useI_take (a := 0) hk'
      cases hx : nodeB (nth t.ns k) with
      | true =>
        have hx2 : 0 ≤ nth t.ns k ∧ nth t.ns k < 10 := by simpa [nodeB] using hx
        have hx3 := hx2.1
        (repeat' (first | ((with_reducible apply WD_id); first | (refine WD_eq (shl_step rfl rfl rfl) ?_) | (refine WD_eq (bor_step rfl rfl rfl) ?_)) | (refine nx ?_) | (refine WD_call (by exact rfl) ?_; first | (refine WD_c0 (tnode_m _) ?_)) | ((with_reducible apply WD_id); first | (refine WD_clr htb ?_))))
        refine ⟨hk', trivial, ?_⟩
        rw [hw, if_pos hx]
        (exact LeV [])
      | false =>
        (repeat' (first | (refine nx ?_) | (refine WD_call (by exact rfl) ?_; first | (refine WD_c0 (tnode_m _) ?_)) | ((with_reducible apply WD_id); first | (refine WD_clr htb ?_))))
        refine ⟨hk', trivial, ?_⟩
        rw [hw, if_neg (by simp [hx])]
        (exact LeV [])
    · have t1 : decide ((k : Int) < (t.ns.length : Int)) = false := by simp; omega
      have e1 : t.ns.take k = t.ns := take_all hk'
      rw [e1]
      (repeat' (first | (refine nx ?_) | ((with_reducible apply WD_id); first | (refine WD_clr htb ?_))))
      (refine WA_forV (t.is.length) [25, 3] [] (fun k => [(25, vI k), (3, vI (useL (t.is.take k) (useI t.ns 0)))]) (fun k => []) (fun k => True) ?h0 ?_)
      case h0 => trivial
      intro k2 hk2 _
      rcases Nat.lt_or_ge k2 t.is.length with hk2' | hk2'
      · have t2 : decide ((k2 : Int) < (t.is.length : Int)) = true := by simp; omega
        have hw := useL_take (a := useI t.ns 0) hk2'
        have hm := nth_mem t.is k2 hk2'
        have hx : hT (nth t.is k2) ≤ d ∧ sizT (nth t.is k2) ≤ 1000 := by have := hT_mem hm; have := siz_mem hm; omega
        (repeat' (first | ((with_reducible apply WD_id); first | (refine WD_eq (bor_step rfl rfl rfl) ?_)) | (refine nx ?_) | (refine WD_call (by exact rfl) ?_; first | (refine WD_c0 (useR_m _ ?_) ?_; (exact hyp))) | ((with_reducible apply WD_id); first | (refine WD_clr htb ?_))))
        refine ⟨hk2', trivial, ?_⟩
        rw [hw]
        (exact LeV [])
      · have t2 : decide ((k2 : Int) < (t.is.length : Int)) = false := by simp; omega
        have e2 : t.is.take k2 = t.is := take_all hk2'
        rw [e2]
        (repeat' (first | (refine nx ?_) | ((with_reducible apply WD_id); first | (refine WD_clr htb ?_))))
        exact gE (.inr rfl) rfl rfl trivial
end Go.Proofs.YtkjpnmodlmlhdaaGreatDoor
/- Plain definitions: sets of nodes, configurations, quorums. No program stands here. -/
namespace Go.Proofs.YtkjpnmodlmlhdaaGreatDoor
set_option linter.unusedSimpArgs false
set_option linter.unusedVariables false
set_option linter.unnecessarySimpa false
set_option linter.unusedSectionVars false
set_option maxRecDepth 100000
open Go.RowKit Go.Proofs.Grow Go.Sort
/-- A set without another one. -/
def andn (a b : Nat) : Nat := a ^^^ (a &&& b)
theorem andn_bit (a b k : Nat) : (andn a b).testBit k = (a.testBit k && !b.testBit k) := by
  unfold andn; rw [Nat.testBit_xor, Nat.testBit_and]; cases a.testBit k <;> cases b.testBit k <;> rfl
theorem andn_le (a b : Nat) : andn a b ≤ a := by
  apply Nat.le_of_testBit
  intro i; rw [andn_bit]; cases a.testBit i <;> simp
theorem ofNat_toNat {a : Nat} (h : a < 4611686018427387904) : (BitVec.ofInt 64 (a : Int)).toNat = a := by
  rw [BitVec.ofInt_natCast, BitVec.toNat_ofNat]; omega
theorem wrap_nat {a : Nat} (h : a < 4611686018427387904) : IntKind.i64.wrap (a : Int) = (a : Int) := IntWalk.i64_in _ (by omega)
theorem band_nat {a b : Nat} (ha : a < 4611686018427387904) (hb : b < 4611686018427387904) : bandI a b = ((a &&& b : Nat) : Int) := by
  unfold bandI
  rw [BitVec.toNat_and, ofNat_toNat ha, ofNat_toNat hb, wrap_nat (Nat.lt_of_le_of_lt Nat.and_le_left ha)]
theorem bor_nat {a b : Nat} (ha : a < 4611686018427387904) (hb : b < 4611686018427387904) : borI a b = ((a ||| b : Nat) : Int) := by
  unfold borI
  rw [BitVec.toNat_or, ofNat_toNat ha, ofNat_toNat hb, wrap_nat (Nat.or_lt_two_pow (n := 62) ha hb)]
theorem bnot_nat {a b : Nat} (ha : a < 4611686018427387904) (hb : b < 4611686018427387904) : bnotI a b = ((andn a b : Nat) : Int) := by
  unfold bnotI
  have e : (BitVec.ofInt 64 (a : Int) &&& ~~~ BitVec.ofInt 64 (b : Int)).toNat = andn a b := by
    apply Nat.eq_of_testBit_eq
    intro i
    rw [andn_bit, ← BitVec.getLsbD, BitVec.getLsbD_and, BitVec.getLsbD_not]
    have h1 : (BitVec.ofInt 64 (a : Int)).getLsbD i = a.testBit i := by unfold BitVec.getLsbD; rw [ofNat_toNat ha]
    have h2 : (BitVec.ofInt 64 (b : Int)).getLsbD i = b.testBit i := by unfold BitVec.getLsbD; rw [ofNat_toNat hb]
    rw [h1, h2]
    by_cases hi : i < 64
    · simp [hi]
    · have : a.testBit i = false := Nat.testBit_lt_two_pow (Nat.lt_of_lt_of_le ha (Nat.le_trans (by decide) (Nat.pow_le_pow_right (n := 2) (by decide) (show 62 ≤ i by omega))))
      simp [this]
  rw [e, wrap_nat (Nat.lt_of_le_of_lt (andn_le a b) ha)]
theorem shl_nat {k : Nat} (h : k ≤ 61) : shlI k = ((2 ^ k : Nat) : Int) := by
  unfold shlI
  have h1 : (2 : Nat) ^ k ≤ 2 ^ 61 := Nat.pow_le_pow_right (by decide) h
  have e : (1 : Int) * 2 ^ (min (k : Int).toNat 64) = ((2 ^ k : Nat) : Int) := by
    rw [Int.toNat_natCast, show min k 64 = k by omega, Int.one_mul, Int.natCast_pow]; rfl
  rw [e]
  exact wrap_nat (by omega)
theorem pow_lt {k : Nat} (h : k < 10) : 2 ^ k < 1024 := by
  have : (2 : Nat) ^ k ≤ 2 ^ 9 := Nat.pow_le_pow_right (by decide) (by omega)
  omega
theorem valid_nat {s : Nat} (h : s < 1024) : validS (s : Int) = true := by simp [validS]; omega
theorem and_two_pow_bit (s k : Nat) : (s &&& 2 ^ k) = 0 ↔ s.testBit k = false := by
  constructor
  · intro h
    have := congrArg (·.testBit k) h
    simpa [Nat.testBit_and, Nat.testBit_two_pow_self] using this
  · intro h
    apply Nat.eq_of_testBit_eq
    intro i
    rw [Nat.testBit_and, Nat.zero_testBit]
    by_cases e : k = i
    · subst e; simp [h]
    · rw [Nat.testBit_two_pow_of_ne e]; simp
theorem has_nat {s k : Nat} (hs : s < 1024) (hk : k < 10) : hasB (s : Int) (k : Int) = s.testBit k := by
  unfold hasB
  rw [valid_nat hs, shl_nat (by omega), band_nat (by omega) (by have := pow_lt hk; omega)]
  have h1 : nodeB (k : Int) = true := by simp [nodeB]; omega
  rw [h1]
  cases h : s.testBit k
  · have := (and_two_pow_bit s k).2 h
    simp [this]
  · have : ¬ (s &&& 2 ^ k) = 0 := fun e => by rw [(and_two_pow_bit s k).1 e] at h; cases h
    simp [this]
theorem bit_lt {s k : Nat} (hs : s < 1024) (h : s.testBit k = true) : k < 10 := by
  rcases Nat.lt_or_ge k 10 with h1 | h1
  · exact h1
  · have : s.testBit k = false := Nat.testBit_lt_two_pow (Nat.lt_of_lt_of_le hs (Nat.le_trans (by decide) (Nat.pow_le_pow_right (n := 2) (by decide) h1)))
    rw [this] at h; cases h
theorem or_lt10 {a b : Nat} (ha : a < 1024) (hb : b < 1024) : a ||| b < 1024 := Nat.or_lt_two_pow (n := 10) ha hb
/-- The nodes of a set below n. -/
def nodesTo (s n : Nat) : List Nat := (List.range n).filter fun k => s.testBit k
abbrev nodesN (s : Nat) : List Nat := nodesTo s 10
theorem nodesTo_succ (s n : Nat) : nodesTo s (n + 1) = if s.testBit n = true then nodesTo s n ++ [n] else nodesTo s n := by
  unfold nodesTo
  rw [List.range_succ, List.filter_append]
  cases h : s.testBit n <;> simp [h]
theorem nodesTo_len (s n : Nat) : (nodesTo s n).length ≤ n := by
  unfold nodesTo; exact Nat.le_trans (List.length_filter_le _ _) (by simp)
theorem mem_nodes {s k : Nat} (hs : s < 1024) : k ∈ nodesN s ↔ s.testBit k = true := by
  unfold nodesN nodesTo
  rw [List.mem_filter, List.mem_range]
  exact ⟨fun h => h.2, fun h => ⟨bit_lt hs h, h⟩⟩
structure Mb where
  decl : Bool
  t : Tr
instance : Inhabited Mb := ⟨false, default⟩
def declTo (c : List Mb) : Nat → Nat
  | 0 => 0
  | n + 1 => if (nth c n).decl = true then declTo c n ||| 2 ^ n else declTo c n
abbrev declN (c : List Mb) : Nat := declTo c c.length
theorem declTo_lt (c : List Mb) : ∀ n, n ≤ 10 → declTo c n < 1024
  | 0, _ => by simp [declTo]
  | n + 1, h => by
    have := declTo_lt c n (by omega)
    unfold declTo
    split
    · exact or_lt10 this (pow_lt (by omega))
    · exact this
theorem declTo_bit (c : List Mb) : ∀ n k, (declTo c n).testBit k = (decide (k < n) && (nth c k).decl)
  | 0, k => by simp [declTo]
  | n + 1, k => by
    have ih := declTo_bit c n k
    unfold declTo
    by_cases hk : k = n
    · subst hk
      split
      · rename_i h; rw [Nat.testBit_or, Nat.testBit_two_pow_self]; simp [h]
      · rename_i h; rw [ih]; simp [h]
    · have e : decide (k < n + 1) = decide (k < n) := by simp; omega
      rw [e]
      split
      · rw [Nat.testBit_or, Nat.testBit_two_pow_of_ne (fun h => hk h.symm), ih]; simp
      · exact ih
theorem declN_lt {c : List Mb} (h : c.length ≤ 10) : declN c < 1024 := declTo_lt c _ h
/-- The first node of a set that is not content. -/
def unhL (c : List Mb) (s : Nat) : List Nat → Option Nat
  | [] => none
  | k :: r => if satT s (nth c k).t = true then unhL c s r else some k
abbrev unhN (c : List Mb) (s : Nat) : Option Nat := unhL c s (nodesN s)
def uhR : Option Nat → Int × Bool
  | none => (0, false)
  | some k => (k, true)
def quoN (c : List Mb) (s : Nat) : Bool := !(s == 0) && (andn s (declN c) == 0 && (unhN c s).isNone)
theorem sub_bit {a b : Nat} (h : andn a b = 0) {k : Nat} (hk : a.testBit k = true) : b.testBit k = true := by
  have := andn_bit a b k
  rw [h, Nat.zero_testBit, hk] at this
  simpa using this.symm
end Go.Proofs.YtkjpnmodlmlhdaaGreatDoor
