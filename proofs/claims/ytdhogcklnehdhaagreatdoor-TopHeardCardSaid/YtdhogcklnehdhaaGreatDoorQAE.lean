/- Nothing is claimed here: an element of a part of a slice; operations on the bits of numbers. -/
import Derived.Test.YtdhogcklnehdhaaGreatDoorQAD
import Derived.Test.YtdhogcklnehdhaaGreatDoorQAA
namespace Go.Am
set_option linter.unusedSimpArgs false
set_option linter.unusedVariables false
set_option linter.unnecessarySimpa false
set_option linter.unusedSectionVars false
set_option maxRecDepth 100000
open Go Go.RowKit Go.Proofs.Grow
section
variable {P : Program} {tbl : List (Nat × TI)} {o : Oper} {T : Nat → Option AV} {M : Nat → Option AO}
theorem step_index_sl (htb : TOK P tbl) {ty e ety : TypeId} {x y : Operand} {i j : TI} {g sz lo m n : Nat} {c : Option Nat} {k : IntKind} {q : Int} {rs : List (List D)} (ho : o.op = .indexAddr ty x y) (ht : lk tbl ty = some i) (hs : i.isS = true) (he : i.el = some e) (hj : lk tbl e = some j) (hsz : j.size = sz)
    (hx : evA T x = some (.sl g sz lo m c)) (hg : M g = some (.arr ety sz rs)) (hy : evA T y = some (.d (.v (.int k q)))) (hq : q = (n : Int)) (hn : n < m) : StepOK P o T M ⟨.elt g sz (lo + n) 0, [g], []⟩ :=
  step_read [g] fun cx μ T' M' a w h hT hM => by
    subst hq
    subst hsz
    rw [← hM g (by simp)] at hg
    have h1 := h.ev (x := x) hT (by simp [ho, Op.operands]) hx
    have h2 := (h.ev (x := y) hT (by simp [ho, Op.operands]) hy).val
    have hg' : M' g = some (mkO ety j.size none rs) := hg
    obtain ⟨ad, m', cap, xs, q1, q2, q3, q4, q5, q6, _⟩ := h.cells hg'
    generalize hv : a.eval x = v at h1
    cases h1 with
    | @sl _ _ _ _ _ ad2 p m2 cap2 k2 hb hk hnk hc ha =>
      rw [q1] at hb
      obtain ⟨rfl, rfl, rfl⟩ : ad = ad2 ∧ m' = m2 ∧ cap = cap2 := by simpa using hb
      cases ad with
      | none => have := q5 rfl; omega
      | some z =>
        obtain ⟨b, cur, rfl, c1, c2, c3⟩ := q6 z rfl
        have hp : p = some ⟨b, lo * j.size, none⟩ := by
          rcases ha with rfl | ⟨e, _⟩
          · simp [addr_add]
          · omega
        subst hp
        have hrun := run_indexSlice htb ht hs he hj (b := b) (off := lo * j.size) (len := m) (cap := k2) (k := k) hn w
        have e : lo * j.size + n * j.size = (lo + n) * j.size + 0 := by rw [Nat.add_mul, Nat.add_zero]
        rw [e] at hrun
        exact ⟨.pointer (some ⟨b, (lo + n) * j.size + 0, none⟩), by simp only [execOp, ho, hv, h2, Sem.run_bind, hrun, Result.andThen_ok, Sem.run_pure], .elt q1⟩
theorem step_bits {op : BinOp} {t t' : TypeId} {x y : Operand} {a b : Int} {r : Value} (ho : o.op = .binOp op t x y t') (hx : evA T x = some (.d (.v (.int .i64 a)))) (hy : evA T y = some (.d (.v (.int .i64 b))))
    (hr : ∀ w, (binOp op t (.int .i64 a) (.int .i64 b)).run P w = .ok r w) : StepOK P o T M ⟨.d (.v r), [], []⟩ :=
  step_read [] fun cx μ T' M' ac w h hT _ => by
    have h1 := (h.ev (x := x) hT (by simp [ho, Op.operands]) hx).val
    have h2 := (h.ev (x := y) hT (by simp [ho, Op.operands]) hy).val
    refine ⟨r, ?_, .d (.v r)⟩
    simp only [execOp, ho, h1, h2, Sem.run_bind, run_guard_int, Result.andThen_ok, hr, Sem.run_pure]
end
section
variable {cx : Cx} {T : List (Nat × AV)} {M : List (Nat × AO)}
/-- A slice of the call's own gets another name. -/
theorem Le_own (t g' : Nat) {g ty sz : Nat} {rs : List (List D)} (ht : lk T t = some (.own g)) (hg : lk M g = some (.arr ty sz rs)) (hg' : lk M g' = none) : Le cx ⟨T, M⟩ ⟨(t, .own g') :: T, (g', .arr ty sz rs) :: (g, .dead) :: M⟩ := by
  rintro a w ⟨μ, h⟩
  obtain ⟨v, xs, h1, h2, h3, h4, h5⟩ := h.ob g _ hg
  have hv := h.tm t _ ht
  generalize hvv : a.tmps.getD t undef = u at hv
  cases hv with
  | @own _ p m2 c2 hb =>
    rw [h1] at hb
    obtain rfl : v = .slice p m2 c2 := by simpa using hb
    have h6 := h.append (w2 := w) (g' := g') (rs' := rs) (v' := .slice p m2 c2) (ys := xs) hg rfl h1 hg' (Chg.refl _ _) (fun b' hb' => .inl hb') h2 h3 h5 (fun H' hk => h4.mono hk)
    have e2 : upM (lk M) [(g', .arr ty sz rs), (g, .dead)] = lk ((g', .arr ty sz rs) :: (g, .dead) :: M) := by
      funext x
      simp only [upM, lk]
      cases Nat.beq g' x <;> cases Nat.beq g x <;> rfl
    rw [e2] at h6
    refine ⟨_, h6.slot ?_⟩
    rw [hvv]
    exact .own (upμ_self _ _)
end
section
variable {P : Program} {tbl : List (Nat × TI)} {ops r : List Oper} {o : Oper} {fin : List (List Nat × List Nat) → List (Nat × AV) → List (Nat × AO) → Prop} {acc : List (List Nat × List Nat)} {T : List (Nat × AV)} {M : List (Nat × AO)}
theorem WD_ixs (htb : TOK P tbl) {d : Tmp} {ty e ety : TypeId} {x y : Operand} {i j : TI} {g sz lo m n : Nat} {c : Option Nat} {kk : IntKind} {q : Int} {rs : List (List D)} (k : WD P ops fin r (([g], []) :: acc) ((d, .elt g sz (lo + n) 0) :: T) M) (ho : o.op = .indexAddr ty x y := by exact rfl)
    (hg : gd ops T o = some true := by exact rfl) (hd : o.dst = some d := by exact rfl) (ht : lk tbl ty = some i := by exact rfl) (hs : i.isS = true := by exact rfl) (he : i.el = some e := by exact rfl) (hj : lk tbl e = some j := by exact rfl) (hsz : j.size = sz := by exact rfl)
    (hx : evA (lk T) x = some (.sl g sz lo m c) := by exact rfl) (hM : lk M g = some (.arr ety sz rs) := by exact rfl) (hy : evA (lk T) y = some (.d (.v (.int kk q))) := by exact rfl) (hq : q = (n : Int) := by exact nat_q) (hn : n < m := by exact len) : WD P ops fin (o :: r) acc T M :=
  WD_dv hg hd (step_index_sl htb ho ht hs he hj hsz hx hM hy hq hn) k
end
end Go.Am
/- Plain facts for the walks: how a check of a list goes on from one place to the next. No program stands here. -/
namespace Go.Proofs.YtdhogcklnehdhaaGreatDoor
set_option linter.unusedSimpArgs false
set_option linter.unusedVariables false
set_option linter.unnecessarySimpa false
set_option linter.unusedSectionVars false
set_option maxRecDepth 100000
open Go.RowKit Go.Proofs.Grow Go.Sort
theorem idx_step {α : Type} [Inhabited α] {p : α → Bool} {l : List α} {k : Nat} (hk : k < l.length) : idxF p k (l.drop k) = if p (nth l k) = true then (k : Int) else idxF p (k + 1) (l.drop (k + 1)) := by
  rw [drop_nth l k hk]; rfl
theorem idx_hit {α : Type} [Inhabited α] {p : α → Bool} {l : List α} {k : Nat} {r : Int} (hz : r = idxF p k (l.drop k)) (hk : k < l.length) (h : p (nth l k) = true) : r = (k : Int) := by
  rw [hz, idx_step hk, if_pos h]
theorem idx_miss {α : Type} [Inhabited α] {p : α → Bool} {l : List α} {k : Nat} {r : Int} (hz : r = idxF p k (l.drop k)) (hk : k < l.length) (h : p (nth l k) = false) : r = idxF p (k + 1) (l.drop (k + 1)) := by
  rw [hz, idx_step hk, if_neg (by simp [h])]
theorem idx_end {α : Type} {p : α → Bool} {l : List α} {k : Nat} {r : Int} (hz : r = idxF p k (l.drop k)) (hk : l.length ≤ k) : r = -1 := by
  rw [hz, List.drop_eq_nil_of_le hk]; rfl
end Go.Proofs.YtdhogcklnehdhaaGreatDoor
/- Plain functions: a source of numbers, and what is drawn from it. No program stands here. -/
namespace Go.Proofs.YtdhogcklnehdhaaGreatDoor
set_option linter.unusedSimpArgs false
set_option linter.unusedVariables false
set_option linter.unnecessarySimpa false
set_option linter.unusedSectionVars false
set_option maxRecDepth 100000
open Go Go.RowKit Go.Am Go.Proofs.Grow
structure Sc where
  l : List Int
  i : Nat
/-- A source: at most 800 numbers, and how many of them have been given out. -/
def Sc.ok (s : Sc) : Prop := s.i ≤ s.l.length ∧ s.l.length ≤ 800
/-- The number that is drawn, and the source behind it. -/
def Sc.n (s : Sc) (k : Int) : Int := if s.i < s.l.length ∧ 1 ≤ k then nth s.l s.i % k else 0
def Sc.x (s : Sc) (k : Int) : Sc := if s.i < s.l.length ∧ 1 ≤ k then ⟨s.l, s.i + 1⟩ else s
theorem Sc.ok_x {s : Sc} (h : s.ok) (k : Int) : (s.x k).ok := by
  unfold Sc.x; split
  · obtain ⟨h1, h2⟩ := h; exact ⟨by dsimp only; omega, h2⟩
  · exact h
theorem Sc.n_bd (s : Sc) {k : Int} (h : 1 ≤ k) : 0 ≤ s.n k ∧ s.n k ≤ k - 1 := by
  unfold Sc.n; split
  · have h1 := Int.emod_nonneg (nth s.l s.i) (show k ≠ 0 by omega)
    have h2 := Int.emod_lt_of_pos (nth s.l s.i) (show 0 < k by omega)
    omega
  · omega
theorem tmod_bd (x : Int) {k : Int} (h : 1 ≤ k) : -k < x.tmod k ∧ x.tmod k < k := by
  have h1 := Int.emod_nonneg x (show k ≠ 0 by omega)
  have h2 := Int.emod_lt_of_pos x (show 0 < k by omega)
  rw [Int.tmod_eq_emod]
  split <;> rename_i h3
  · omega
  · have : (k.natAbs : Int) = k := by omega
    rw [this]
    have : ¬ x % k = 0 := fun e => h3 (.inr (Int.dvd_of_emod_eq_zero e))
    omega
theorem tmod_emod (x : Int) {k : Int} (h : 1 ≤ k) : (x.tmod k + k).tmod k = x % k := by
  have hb := tmod_bd x h
  rw [Int.tmod_eq_emod_of_nonneg (by omega), Int.add_emod_right, Int.tmod_eq_emod]
  split
  · rw [show ((0 : Nat) : Int) = 0 from rfl, Int.sub_zero]; exact Int.emod_emod_of_dvd x (Int.dvd_refl k)
  · have e : (k.natAbs : Int) = k := by omega
    rw [e, Int.sub_emod, Int.emod_self, Int.sub_zero, Int.emod_emod_of_dvd _ (Int.dvd_refl k), Int.emod_emod_of_dvd _ (Int.dvd_refl k)]
end Go.Proofs.YtdhogcklnehdhaaGreatDoor
/- Contracts of the functions on networks: sets, parts, delays, checking. -/
namespace Go.Proofs.YtdhogcklnehdhaaGreatDoor
set_option linter.unusedSimpArgs false
set_option linter.unusedVariables false
set_option linter.unnecessarySimpa false
set_option linter.unusedSectionVars false
set_option maxRecDepth 100000
open Go Go.RowKit Go.Am Go.Proofs.Grow
section
variable {o : Oper} {t t' : TypeId} {x y : Operand} {T : Nat → Option AV} {M : Nat → Option AO} {a b : Int}
theorem band_step (ho : o.op = .binOp .and t x y t') (hx : evA T x = some (vI a)) (hy : evA T y = some (vI b)) : StepOK Tryz.prog o T M ⟨vI (bandI a b), [], []⟩ :=
  step_bits ho hx hy fun w => by simp only [binOp, Op.intBits]; rfl
theorem bor_step (ho : o.op = .binOp .or t x y t') (hx : evA T x = some (vI a)) (hy : evA T y = some (vI b)) : StepOK Tryz.prog o T M ⟨vI (borI a b), [], []⟩ :=
  step_bits ho hx hy fun w => by simp only [binOp, Op.intBits]; rfl
theorem bnot_step (ho : o.op = .binOp .andNot t x y t') (hx : evA T x = some (vI a)) (hy : evA T y = some (vI b)) : StepOK Tryz.prog o T M ⟨vI (bnotI a b), [], []⟩ :=
  step_bits ho hx hy fun w => by simp only [binOp, Op.intBits]; rfl
theorem shl_step (ho : o.op = .binOp .shl t x y t') (hx : evA T x = some (vI 1)) (hy : evA T y = some (vI b)) (h0 : 0 ≤ b := by exact num) : StepOK Tryz.prog o T M ⟨vI (shlI b), [], []⟩ :=
  step_bits ho hx hy fun w => by
    have h1 : ¬ b < 0 := by omega
    simp [binOp, Op.shift, shlI, IntKind.bits, h1]
end
theorem shl10 : shlI 10 = 1024 := by decide +kernel
theorem below_m (s : Int) : FnM Tryz.prog 133 [] [vI s, vI 10] (vB (validS s)) [] := by
  refine FnM.of htb Tryz.func133 rfl rfl rfl rfl rfl fun cx hN h0 => ?_
  (repeat' (first | ((with_reducible apply WD_id); first | (refine WD_nxt htb (by exact rfl) ?_) | (refine WD_eq (shl_step rfl rfl rfl) ?_) | ((refine WD_tf (by exact rfl) (by exact rfl) ?_ ?_) <;> (intro hb; (fail_if_success (with_reducible injection hb)); rw [hb]; (try simp only [List.length_map] at hb)))) | (refine ct ?_) | (with_reducible apply WA_block)))
  all_goals refine gE (.inr rfl) rfl (congrArg vB ?_) trivial
  all_goals first | (simp_all [validS, shl10]; done) | (simp_all [validS, shl10]; intros; omega)
theorem valid_m (s : Int) : FnM Tryz.prog 71 [] [vI s] (vB (validS s)) [] := by
  refine FnM.of htb Tryz.func71 rfl rfl rfl rfl rfl fun cx hN h0 => ?_
  (repeat' (first | ((with_reducible apply WD_id); first | (refine WD_nxt htb (by exact rfl) ?_) | (refine WD_call (by exact rfl) ?_; first | (refine WD_c0 (below_m _) ?_))) | (refine ct ?_) | (with_reducible apply WA_block)))
  exact gE (.inr rfl) rfl rfl trivial
theorem has_m (s x : Int) : FnM Tryz.prog 57 [] [vI s, vI x] (vB (hasB s x)) [] := by
  refine FnM.of htb Tryz.func57 rfl rfl rfl rfl rfl fun cx hN h0 => ?_
  (repeat' (first | ((with_reducible apply WD_id); first | (refine WD_nxt htb (by exact rfl) ?_) | (refine WD_call (by exact rfl) ?_; first | (refine WD_c0 (valid_m _) ?_)) | (refine WD_eq (shl_step rfl rfl rfl) ?_) | (refine WD_eq (band_step rfl rfl rfl) ?_) | ((refine WD_tf (by exact rfl) (by exact rfl) ?_ ?_) <;> (intro hb; (fail_if_success (with_reducible injection hb)); rw [hb]; (try simp only [List.length_map] at hb)))) | (refine ct ?_) | (with_reducible apply WA_block)))
  all_goals refine gE (.inr rfl) rfl (congrArg vB ?_) trivial
  all_goals first | (simp_all [hasB, nodeB, bne]; done) | (simp_all [hasB, nodeB, bne]; intros; omega)
theorem orN_m (l : List Int) (hl : l.length ≤ 100) : FnM Tryz.prog 197 [] [lI l] (vI (orI l)) [] := by
  refine FnM.of htb Tryz.func197 rfl rfl rfl rfl rfl fun cx hN h0 => ?_
  (repeat' (first | ((with_reducible apply WD_id); first | (refine WD_sum ?_) | (refine WD_nxt htb (by exact rfl) ?_) | (refine WD_idx htb ?_)) | (refine ct ?_) | (((with_reducible apply gC2); exact rfl) <;> (intro hb; rw [hb]))))
  (refine WA_forV (l.length) [8, 5] [] (fun k => [(8, vI k)]) (fun k => []) (fun k => orI l = orI (l.drop k)) ?h0 ?_)
  case h0 => rfl
  intro k hk hI
  (repeat' (first | ((with_reducible apply WD_id); first | (refine WD_sum ?_) | (refine WD_nxt htb (by exact rfl) ?_) | (refine WD_idx htb ?_)) | (refine ct ?_) | (((with_reducible apply gC2); exact rfl) <;> (intro hb; rw [hb]))))
  · have hk' : k < l.length := by simp at *; omega
    rw [drop_nth l k hk', orI, if_neg (by simpa using hb)] at hI
    exact gE (.inr rfl) rfl (congrArg vI hI.symm) trivial
  · have hk' : k < l.length := by simp at *; omega
    rw [drop_nth l k hk', orI, if_pos (by simpa using hb)] at hI
    refine ⟨hk', hI, ?_⟩
    (exact LeV [])
  · have hk' : l.length ≤ k := by simp at *; omega
    rw [List.drop_eq_nil_of_le hk'] at hI
    exact gE (.inr rfl) rfl (congrArg vI hI.symm) trivial
end Go.Proofs.YtdhogcklnehdhaaGreatDoor
/- Contracts of the functions on trusts. -/
namespace Go.Proofs.YtdhogcklnehdhaaGreatDoor
set_option linter.unusedSimpArgs false
set_option linter.unusedVariables false
set_option linter.unnecessarySimpa false
set_option linter.unusedSectionVars false
set_option maxRecDepth 100000
open Go Go.RowKit Go.Am Go.Proofs.Grow
mutual
def rTr : Tr → List D
  | .mk k ns is => [dI k, .rows 1 (ns.map rI), .rows 3 (rTrs is)]
def rTrs : List Tr → List (List D)
  | [] => []
  | t :: r => rTr t :: rTrs r
end
def rTp (t : Tr) : List D := [dI t.k, .rows 1 (t.ns.map rI), .rows 3 (t.is.map rTr)]
theorem rTrs_map : ∀ l : List Tr, rTrs l = l.map rTr
  | [] => rfl
  | t :: r => by simp only [rTrs, List.map_cons, rTrs_map r]
theorem rTr_p : rTr = rTp := funext fun t => by cases t; simp only [rTr, rTp, rTrs_map, Tr.k, Tr.ns, Tr.is]
abbrev lTr (l : List Tr) : AV := .d (.rows 3 (l.map rTr))
abbrev aTr (t : Tr) : AV := .agg [vI t.k, lI t.ns, lTr t.is]
theorem satT_eq (s : Int) (t : Tr) : satT s t = (validS s && decide (satL s t.is (cntI s t.ns 0) ≥ t.k)) := by cases t; simp only [satT, Tr.k, Tr.ns, Tr.is]; rfl
theorem take_all {α : Type} {l : List α} {k : Nat} (h : l.length ≤ k) : l.take k = l := List.take_of_length_le h
theorem sat_m : ∀ (d : Nat) (s : Int) (t : Tr) (hd : hT t ≤ d) (hs : sizT t ≤ 1000), FnM Tryz.prog 179 [] [aTr t, vI s] (vB (satT s t)) [] := by
  intro d
  induction d with
  | zero => intro s t hd; cases t; simp [hT] at hd
  | succ d ih =>
    intro s t hd hs
    have hl := siz_len t
    have satR_m : ∀ (s : Int) (x : Tr) (hx : hT x ≤ d ∧ sizT x ≤ 1000), FnM Tryz.prog 179 [] [aTr x, vI s] (vB (satT s x)) [] := fun s x hx => ih s x hx.1 hx.2
    show FnM _ _ _ [.agg [vI t.k, lI t.ns, .d (.rows 3 (t.is.map rTr))], vI s] _ _
    rw [rTr_p]
    refine FnM.of htb Tryz.func179 rfl rfl rfl rfl rfl fun cx hN h0 => ?_
    cases hv : validS s with
    | false =>
      have hv2 : (!validS s) = true := by rw [hv]; rfl
      (repeat' (first | (refine nx ?_) | (refine WD_call (by exact rfl) ?_; first | (refine WD_c0 (valid_m _) ?_)) | ((with_reducible apply WD_id); first | (refine WD_clr htb ?_))))
      exact gE (.inr rfl) rfl (congrArg vB (by rw [satT_eq, hv]; rfl)) trivial
    | true =>
      have hv2 : (!validS s) = false := by rw [hv]; rfl
      (repeat' (first | (refine nx ?_) | (refine WD_call (by exact rfl) ?_; first | (refine WD_c0 (valid_m _) ?_)) | ((with_reducible apply WD_id); first | (refine WD_clr htb ?_))))
      (refine WA_forV (t.ns.length) [16, 5] [] (fun k => [(16, vI k), (5, vI (cntI s (t.ns.take k) 0))]) (fun k => []) (fun k => True) ?h0 ?_)
      case h0 => trivial
      intro k hk _
      have hb := cntI_bd s (t.ns.take k) 0
      have hlk : (t.ns.take k).length ≤ k := by rw [List.length_take]; omega
      rcases Nat.lt_or_ge k t.ns.length with hk' | hk'
      · have t1 : decide ((k : Int) < (t.ns.length : Int)) = true := by simp; omega
        have hw := cntI_take (s := s) (a := 0) hk'
        cases hx : hasB s (nth t.ns k) with
        | true =>
          (repeat' (first | (refine nx ?_) | (refine WD_call (by exact rfl) ?_; first | (refine WD_c0 (has_m _ _) ?_)) | ((with_reducible apply WD_id); first | (refine WD_clr htb ?_))))
          refine ⟨hk', trivial, ?_⟩
          rw [hw, if_pos hx]
          (exact LeV [])
        | false =>
          (repeat' (first | (refine nx ?_) | (refine WD_call (by exact rfl) ?_; first | (refine WD_c0 (has_m _ _) ?_)) | ((with_reducible apply WD_id); first | (refine WD_clr htb ?_))))
          refine ⟨hk', trivial, ?_⟩
          rw [hw, if_neg (by simp [hx])]
          (exact LeV [])
      · have t1 : decide ((k : Int) < (t.ns.length : Int)) = false := by simp; omega
        have e1 : t.ns.take k = t.ns := take_all hk'
        rw [e1]
        rw [e1] at hb
        (repeat' (first | (refine nx ?_) | ((with_reducible apply WD_id); first | (refine WD_clr htb ?_))))
        (refine WA_forV (t.is.length) [29, 5] [] (fun k => [(29, vI k), (5, vI (satL s (t.is.take k) (cntI s t.ns 0)))]) (fun k => []) (fun k => True) ?h0 ?_)
        case h0 => trivial
        intro k2 hk2 _
        have hb2 := satL_bd s (t.is.take k2) (cntI s t.ns 0)
        have hlk2 : (t.is.take k2).length ≤ k2 := by rw [List.length_take]; omega
        rcases Nat.lt_or_ge k2 t.is.length with hk2' | hk2'
        · have t2 : decide ((k2 : Int) < (t.is.length : Int)) = true := by simp; omega
          have hw := satL_take (s := s) (a := cntI s t.ns 0) hk2'
          have hm := nth_mem t.is k2 hk2'
          have hx : hT (nth t.is k2) ≤ d ∧ sizT (nth t.is k2) ≤ 1000 := by have := hT_mem hm; have := siz_mem hm; omega
          cases hy : satT s (nth t.is k2) with
          | true =>
            (repeat' (first | (refine nx ?_) | (refine WD_call (by exact rfl) ?_; first | (refine WD_c0 (satR_m _ _ ?_) ?_; (exact hyp))) | ((with_reducible apply WD_id); first | (refine WD_clr htb ?_))))
            refine ⟨hk2', trivial, ?_⟩
            rw [hw, if_pos hy]
            (exact LeV [])
          | false =>
            (repeat' (first | (refine nx ?_) | (refine WD_call (by exact rfl) ?_; first | (refine WD_c0 (satR_m _ _ ?_) ?_; (exact hyp))) | ((with_reducible apply WD_id); first | (refine WD_clr htb ?_))))
            refine ⟨hk2', trivial, ?_⟩
            rw [hw, if_neg (by simp [hy])]
            (exact LeV [])
        · have t2 : decide ((k2 : Int) < (t.is.length : Int)) = false := by simp; omega
          have e2 : t.is.take k2 = t.is := take_all hk2'
          rw [e2]
          (repeat' (first | (refine nx ?_) | ((with_reducible apply WD_id); first | (refine WD_clr htb ?_))))
          exact gE (.inr rfl) rfl (congrArg vB (by rw [satT_eq, hv]; rfl)) trivial
theorem dep_m : ∀ (d : Nat) (t : Tr) (hd : hT t ≤ d) (hs : sizT t ≤ 1000), FnM Tryz.prog 105 [] [aTr t] (vI (depT t)) [] := by
  intro d
  induction d with
  | zero => intro t hd; cases t; simp [hT] at hd
  | succ d ih =>
    intro t hd hs
    have hl := siz_len t
    have depR_m : ∀ (x : Tr) (hx : hT x ≤ d ∧ sizT x ≤ 1000), FnM Tryz.prog 105 [] [aTr x] (vI (depT x)) [] := fun x hx => ih x hx.1 hx.2
    have hh : hT t = hL t.is + 1 := by cases t; simp only [hT, Tr.is]
    have hh2 := h_siz t
    have ed : depT t = depL t.is 0 + 1 := by cases t; simp only [depT, Tr.is]
    show FnM _ _ _ [.agg [vI t.k, lI t.ns, .d (.rows 3 (t.is.map rTr))]] _ _
    rw [rTr_p, ed]
    refine FnM.of htb Tryz.func105 rfl rfl rfl rfl rfl fun cx hN h0 => ?_
    (repeat' (first | (refine nx ?_) | ((with_reducible apply WD_id); first | (refine WD_clr htb ?_))))
    (refine WA_forV (t.is.length) [9, 3] [] (fun k => [(9, vI k), (3, vI (depL (t.is.take k) 0))]) (fun k => []) (fun k => True) ?h0 ?_)
    case h0 => trivial
    intro k hk _
    rcases Nat.lt_or_ge k t.is.length with hk' | hk'
    · have t1 : decide ((k : Int) < (t.is.length : Int)) = true := by simp; omega
      have hw := depL_take (a := 0) hk'
      have hm := nth_mem t.is k hk'
      have hx : hT (nth t.is k) ≤ d ∧ sizT (nth t.is k) ≤ 1000 := by have := hT_mem hm; have := siz_mem hm; omega
      (repeat' (first | (refine nx ?_) | (refine WD_call (by exact rfl) ?_; first | (refine WD_c0 (depR_m _ ?_) ?_; (exact hyp))) | ((with_reducible apply WD_id); first | (refine WD_clr htb ?_))))
      refine ⟨hk', trivial, ?_⟩
      rw [hw]
      (exact LeV [])
    · have t1 : decide ((k : Int) < (t.is.length : Int)) = false := by simp; omega
      have e1 : t.is.take k = t.is := take_all hk'
      rw [e1]
      have hb : 0 ≤ depL t.is 0 ∧ depL t.is 0 ≤ 1001 := by
        have := depL_h t.is 0
        rw [show ((0 : Nat) : Int) = 0 from rfl] at this
        omega
      (repeat' (first | (refine nx ?_) | ((with_reducible apply WD_id); first | (refine WD_clr htb ?_))))
      exact gE (.inr rfl) rfl rfl trivial
theorem siz_m : ∀ (d : Nat) (t : Tr) (hd : hT t ≤ d) (hs : sizT t ≤ 1000), FnM Tryz.prog 106 [] [aTr t] (vI (sizT t)) [] := by
  intro d
  induction d with
  | zero => intro t hd; cases t; simp [hT] at hd
  | succ d ih =>
    intro t hd hs
    have hl := siz_len t
    have sizR_m : ∀ (x : Tr) (hx : hT x ≤ d ∧ sizT x ≤ 1000), FnM Tryz.prog 106 [] [aTr x] (vI (sizT x)) [] := fun x hx => ih x hx.1 hx.2
    have ed : sizT t = sizL t.is ((t.ns.length : Int) + (t.is.length : Int)) := by cases t; simp only [sizT, Tr.is, Tr.ns]
    show FnM _ _ _ [.agg [vI t.k, lI t.ns, .d (.rows 3 (t.is.map rTr))]] _ _
    rw [rTr_p]
    refine FnM.of htb Tryz.func106 rfl rfl rfl rfl rfl fun cx hN h0 => ?_
    (repeat' (first | (refine nx ?_) | ((with_reducible apply WD_id); first | (refine WD_clr htb ?_))))
    (refine WA_forV (t.is.length) [16, 3] [] (fun k => [(16, vI k), (3, vI (sizL (t.is.take k) ((t.ns.length : Int) + (t.is.length : Int))))]) (fun k => []) (fun k => True) ?h0 ?_)
    case h0 => trivial
    intro k hk _
    rcases Nat.lt_or_ge k t.is.length with hk' | hk'
    · have t1 : decide ((k : Int) < (t.is.length : Int)) = true := by simp; omega
      have hw := sizL_take1 (a := (t.ns.length : Int) + (t.is.length : Int)) hk'
      have hm := nth_mem t.is k hk'
      have hx : hT (nth t.is k) ≤ d ∧ sizT (nth t.is k) ≤ 1000 := by have := hT_mem hm; have := siz_mem hm; omega
      have hb1 := sizL_take (l := t.is) (k := k + 1) (a := (t.ns.length : Int) + (t.is.length : Int))
      have hb2 := sizL_nn (t.is.take k) ((t.ns.length : Int) + (t.is.length : Int))
      have hb3 := siz_nn (nth t.is k)
      rw [hw, ← ed] at hb1
      (repeat' (first | (refine nx ?_) | (refine WD_call (by exact rfl) ?_; first | (refine WD_c0 (sizR_m _ ?_) ?_; (exact hyp))) | ((with_reducible apply WD_id); first | (refine WD_clr htb ?_))))
      refine ⟨hk', trivial, ?_⟩
      rw [hw]
      (exact LeV [])
    · have t1 : decide ((k : Int) < (t.is.length : Int)) = false := by simp; omega
      have e1 : t.is.take k = t.is := take_all hk'
      rw [e1, ← ed]
      (repeat' (first | (refine nx ?_) | ((with_reducible apply WD_id); first | (refine WD_clr htb ?_))))
      exact gE (.inr rfl) rfl rfl trivial
theorem tnode_m (n : Int) : FnM Tryz.prog 162 [] [vI n] (vB (nodeB n)) [] := by
  refine FnM.of htb Tryz.func162 rfl rfl rfl rfl rfl fun cx hN h0 => ?_
  (repeat' (first | (refine nx ?_) | ((with_reducible apply WD_id); first | (refine WD_clr htb ?_)) | ((refine WD_tf (by exact rfl) (by exact rfl) ?_ ?_) <;> (intro hb; (fail_if_success (with_reducible injection hb)); rw [hb]; (try simp only [List.length_map] at hb)))))
  all_goals refine gE (.inr rfl) rfl (congrArg vB ?_) trivial
  all_goals first | (simp_all [nodeB]; done) | (simp_all [nodeB]; intros; omega)
theorem nlev_m (n : Int) : FnM Tryz.prog 161 [] [vI n] (vB (!nodeB n)) [] := by
  refine FnM.of htb Tryz.func161 rfl rfl rfl rfl rfl fun cx hN h0 => ?_
  (repeat' (first | (refine nx ?_) | (refine WD_call (by exact rfl) ?_; first | (refine WD_c0 (tnode_m _) ?_)) | ((with_reducible apply WD_id); first | (refine WD_clr htb ?_))))
  exact gE (.inr rfl) rfl rfl trivial
theorem idxN_m (l : List Int) (hl : l.length ≤ 1000) : FnM Tryz.prog 194 [] [lI l, .clo 161 []] (vI (idxF (fun k => !nodeB k) 0 l)) [] := by
  refine FnM.of htb Tryz.func194 rfl rfl rfl rfl rfl fun cx hN h0 => ?_
  (repeat' (first | (refine nx ?_) | ((with_reducible apply WD_id); first | (refine WD_clr htb ?_)) | (((with_reducible apply gC2); exact rfl) <;> (intro hb; rw [hb]))))
  (refine WA_forV (l.length) [8] [] (fun k => [(8, vI k)]) (fun k => []) (fun k => idxF (fun k => !nodeB k) 0 l = idxF (fun k => !nodeB k) k (l.drop k)) ?h0 ?_)
  case h0 => rfl
  intro k hk hI
  (repeat' (first | (refine nx ?_) | (refine WD_call (by exact rfl) ?_; first | (refine WD_c0 (nlev_m _) ?_)) | ((with_reducible apply WD_id); first | (refine WD_clr htb ?_)) | (((with_reducible apply gC2); exact rfl) <;> (intro hb; rw [hb]))))
  · exact gE (.inr rfl) rfl (congrArg vI (idx_hit hI (by simp at *; omega) (by assumption)).symm) trivial
  · refine ⟨by simp at *; omega, idx_miss hI (by simp at *; omega) (by assumption), ?_⟩
    (exact LeV [])
  · exact gE (.inr rfl) rfl (congrArg vI (idx_end hI (by simp at *; omega)).symm) trivial
theorem contN_m (l : List Int) (hl : l.length ≤ 1000) : FnM Tryz.prog 159 [] [lI l, .clo 161 []] (vB (decide (idxF (fun k => !nodeB k) 0 l ≥ 0))) [] := by
  refine FnM.of htb Tryz.func159 rfl rfl rfl rfl rfl fun cx hN h0 => ?_
  (repeat' (first | (refine nx ?_) | (refine WD_call (by exact rfl) ?_; first | (refine WD_c0 (idxN_m _ ?_) ?_; (exact hyp))) | ((with_reducible apply WD_id); first | (refine WD_clr htb ?_))))
  exact gE (.inr rfl) rfl rfl trivial
theorem ofI_step {l : List Int} {k : Nat} {a : Int} (h : k < l.length) : ofI (l.drop k) a = if nodeB (nth l k) = false then (0, 5) else if hasB a (nth l k) = true then (0, 6) else ofI (l.drop (k + 1)) (borI a (shlI (nth l k))) := by
  rw [drop_nth l k h]; rfl
theorem of_m (l : List Int) (hl : l.length ≤ 1000) : FnM Tryz.prog 163 [] [lI l] (.tup [vI (ofI l 0).1, vI (ofI l 0).2]) [] := by
  refine FnM.of htb Tryz.func163 rfl rfl rfl rfl rfl fun cx hN h0 => ?_
  (repeat' (first | (refine nx ?_) | ((with_reducible apply WD_id); first | (refine WD_clr htb ?_))))
  (refine WA_anyV (α := Nat × Int) (fun x => l.length - x.1) ((0, 0)) [9, 4] [] (fun x => [(9, vI x.1), (4, vI x.2)]) (fun x => []) (fun x => x.1 ≤ l.length ∧ ofI l 0 = ofI (l.drop x.1) x.2) ?h0 ?_)
  case h0 => exact ⟨Nat.zero_le _, rfl⟩
  rintro ⟨k, a⟩ ⟨hk, hI⟩
  dsimp only at hk hI ⊢
  rcases Nat.lt_or_ge k l.length with hk' | hk'
  · have t1 : decide ((k : Int) < (l.length : Int)) = true := by simp; omega
    rw [ofI_step hk'] at hI
    cases hn : nodeB (nth l k) with
    | false =>
      rw [if_pos hn] at hI
      rw [hI]
      have hn2 : ¬ (0 ≤ nth l k ∧ nth l k < 10) := by intro h; simp [nodeB, h] at hn
      by_cases h0 : nth l k < 0
      · have t2 : decide (nth l k < 0) = true := by simp; omega
        (repeat' (first | (refine nx ?_) | ((with_reducible apply WD_id); first | (refine WD_clr htb ?_))))
        exact gE (.inr rfl) rfl rfl trivial
      · have t2 : decide (nth l k < 0) = false := by simp; omega
        have t3 : decide (nth l k ≥ 10) = true := by simp; omega
        (repeat' (first | (refine nx ?_) | ((with_reducible apply WD_id); first | (refine WD_clr htb ?_))))
        exact gE (.inr rfl) rfl rfl trivial
    | true =>
      have hn2 : 0 ≤ nth l k ∧ nth l k < 10 := by simpa [nodeB] using hn
      have t2 : decide (nth l k < 0) = false := by simp; omega
      have t3 : decide (nth l k ≥ 10) = false := by simp; omega
      rw [if_neg (by simp [hn])] at hI
      cases hh : hasB a (nth l k) with
      | true =>
        rw [if_pos hh] at hI
        rw [hI]
        (repeat' (first | (refine nx ?_) | (refine WD_call (by exact rfl) ?_; first | (refine WD_c0 (has_m _ _) ?_)) | ((with_reducible apply WD_id); first | (refine WD_clr htb ?_))))
        exact gE (.inr rfl) rfl rfl trivial
      | false =>
        rw [if_neg (by simp [hh])] at hI
        (repeat' (first | ((with_reducible apply WD_id); first | (refine WD_eq (shl_step rfl rfl rfl) ?_) | (refine WD_eq (bor_step rfl rfl rfl) ?_)) | (refine nx ?_) | (refine WD_call (by exact rfl) ?_; first | (refine WD_c0 (has_m _ _) ?_)) | ((with_reducible apply WD_id); first | (refine WD_clr htb ?_))))
        refine ⟨(k + 1, borI a (shlI (nth l k))), (by dsimp only; omega), ⟨hk', hI⟩, ?_⟩
        (exact LeV [])
  · have t1 : decide ((k : Int) < (l.length : Int)) = false := by simp; omega
    rw [List.drop_eq_nil_of_le hk'] at hI
    rw [hI]
    (repeat' (first | (refine nx ?_) | ((with_reducible apply WD_id); first | (refine WD_clr htb ?_))))
    exact gE (.inr rfl) rfl rfl trivial
theorem levT_eq (t : Tr) : levT t = if t.k < 1 ∨ (t.ns.length : Int) + (t.is.length : Int) < t.k then 4 else if decide (idxF (fun k => !nodeB k) 0 t.ns ≥ 0) = true then 5 else if (ofI t.ns 0).2 ≠ 0 then (ofI t.ns 0).2 else levL t.is := by cases t; simp only [levT, Tr.k, Tr.ns, Tr.is]; rfl
theorem levL_step {l : List Tr} {k : Nat} (h : k < l.length) : levL (l.drop k) = if levT (nth l k) ≠ 0 then levT (nth l k) else levL (l.drop (k + 1)) := by
  rw [drop_nth l k h, levL]
theorem lev_m : ∀ (d : Nat) (t : Tr) (hd : hT t ≤ d) (hs : sizT t ≤ 1000), FnM Tryz.prog 107 [] [aTr t] (vI (levT t)) [] := by
  intro d
  induction d with
  | zero => intro t hd; cases t; simp [hT] at hd
  | succ d ih =>
    intro t hd hs
    have hl := siz_len t
    have hn := hs
    have levR_m : ∀ (x : Tr) (hx : hT x ≤ d ∧ sizT x ≤ 1000), FnM Tryz.prog 107 [] [aTr x] (vI (levT x)) [] := fun x hx => ih x hx.1 hx.2
    show FnM _ _ _ [.agg [vI t.k, lI t.ns, .d (.rows 3 (t.is.map rTr))]] _ _
    rw [rTr_p, levT_eq]
    refine FnM.of htb Tryz.func107 rfl rfl rfl rfl rfl fun cx hN h0 => ?_
    by_cases hc1 : t.k < 1
    · have t1 : decide (t.k < 1) = true := by simp; omega
      rw [if_pos (.inl hc1)]
      (repeat' (first | (refine nx ?_) | ((with_reducible apply WD_id); first | (refine WD_clr htb ?_))))
      exact gE (.inr rfl) rfl rfl trivial
    have t1 : decide (t.k < 1) = false := by simp; omega
    by_cases hc2 : (t.ns.length : Int) + (t.is.length : Int) < t.k
    · have t2 : decide (t.k > (t.ns.length : Int) + (t.is.length : Int)) = true := by simp; omega
      rw [if_pos (.inr hc2)]
      (repeat' (first | (refine nx ?_) | ((with_reducible apply WD_id); first | (refine WD_clr htb ?_))))
      exact gE (.inr rfl) rfl rfl trivial
    have t2 : decide (t.k > (t.ns.length : Int) + (t.is.length : Int)) = false := by simp; omega
    rw [if_neg (by omega)]
    cases hc3 : decide (idxF (fun k => !nodeB k) 0 t.ns ≥ 0) with
    | true =>
      rw [if_pos rfl]
      (repeat' (first | (refine nx ?_) | (refine WD_call (by exact rfl) ?_; first | (refine WD_c0 (contN_m _ ?_) ?_; (exact hyp))) | ((with_reducible apply WD_id); first | (refine WD_clr htb ?_))))
      exact gE (.inr rfl) rfl rfl trivial
    | false =>
      rw [if_neg (by simp)]
      by_cases hc4 : (ofI t.ns 0).2 ≠ 0
      · rw [if_pos hc4]
        have t4 : ((ofI t.ns 0).2 != 0) = true := by simpa using hc4
        (repeat' (first | (refine nx ?_) | (refine WD_call (by exact rfl) ?_; first | (refine WD_c0 (contN_m _ ?_) ?_; (exact hyp)) | (refine WD_c0 (of_m _ ?_) ?_; (exact hyp))) | ((with_reducible apply WD_id); first | (refine WD_clr htb ?_))))
        exact gE (.inr rfl) rfl rfl trivial
      · rw [if_neg hc4]
        have t4 : ((ofI t.ns 0).2 != 0) = false := by simpa using hc4
        (repeat' (first | (refine nx ?_) | (refine WD_call (by exact rfl) ?_; first | (refine WD_c0 (contN_m _ ?_) ?_; (exact hyp)) | (refine WD_c0 (of_m _ ?_) ?_; (exact hyp))) | ((with_reducible apply WD_id); first | (refine WD_clr htb ?_))))
        (refine WA_forV (t.is.length) [38] [] (fun k => [(38, vI k)]) (fun k => []) (fun k => levL t.is = levL (t.is.drop k)) ?h0 ?_)
        case h0 => rfl
        intro k hk hI
        rcases Nat.lt_or_ge k t.is.length with hk' | hk'
        · have t5 : decide ((k : Int) < (t.is.length : Int)) = true := by simp; omega
          have hm := nth_mem t.is k hk'
          have hx : hT (nth t.is k) ≤ d ∧ sizT (nth t.is k) ≤ 1000 := by have := hT_mem hm; have := siz_mem hm; omega
          rw [levL_step hk'] at hI
          by_cases hy : levT (nth t.is k) ≠ 0
          · rw [if_pos hy] at hI
            have t6 : (levT (nth t.is k) != 0) = true := by simpa using hy
            (repeat' (first | (refine nx ?_) | (refine WD_call (by exact rfl) ?_; first | (refine WD_c0 (levR_m _ ?_) ?_; (exact hyp))) | ((with_reducible apply WD_id); first | (refine WD_clr htb ?_))))
            exact gE (.inr rfl) rfl (congrArg vI hI.symm) trivial
          · rw [if_neg hy] at hI
            have t6 : (levT (nth t.is k) != 0) = false := by simpa using hy
            (repeat' (first | (refine nx ?_) | (refine WD_call (by exact rfl) ?_; first | (refine WD_c0 (levR_m _ ?_) ?_; (exact hyp))) | ((with_reducible apply WD_id); first | (refine WD_clr htb ?_))))
            refine ⟨hk', hI, ?_⟩
            (exact LeV [])
        · have t5 : decide ((k : Int) < (t.is.length : Int)) = false := by simp; omega
          rw [List.drop_eq_nil_of_le hk'] at hI
          (repeat' (first | (refine nx ?_) | ((with_reducible apply WD_id); first | (refine WD_clr htb ?_))))
          exact gE (.inr rfl) rfl (congrArg vI hI.symm) trivial
theorem chk3_m (t : Tr) (hs : sizT t ≤ 1000) : FnM Tryz.prog 44 [] [aTr t] (vI (chkT t)) [] := by
  have hh : hT t ≤ hT t ∧ sizT t ≤ 1000 := ⟨Nat.le_refl _, hs⟩
  have depR_m : ∀ (x : Tr) (hx : hT x ≤ hT t ∧ sizT x ≤ 1000), FnM Tryz.prog 105 [] [aTr x] (vI (depT x)) [] := fun x hx => dep_m (hT t) x hx.1 hx.2
  have sizR_m : ∀ (x : Tr) (hx : hT x ≤ hT t ∧ sizT x ≤ 1000), FnM Tryz.prog 106 [] [aTr x] (vI (sizT x)) [] := fun x hx => siz_m (hT t) x hx.1 hx.2
  have levR_m : ∀ (x : Tr) (hx : hT x ≤ hT t ∧ sizT x ≤ 1000), FnM Tryz.prog 107 [] [aTr x] (vI (levT x)) [] := fun x hx => lev_m (hT t) x hx.1 hx.2
  refine FnM.of htb Tryz.func44 rfl rfl rfl rfl rfl fun cx hN h0 => ?_
  by_cases h1 : depT t > 4
  · have t1 : decide (depT t > 4) = true := by simpa using h1
    (repeat' (first | (refine nx ?_) | (refine WD_call (by exact rfl) ?_; first | (refine WD_c0 (depR_m _ ?_) ?_; (exact hyp))) | ((with_reducible apply WD_id); first | (refine WD_clr htb ?_))))
    exact gE (.inr rfl) rfl (congrArg vI (by unfold chkT; rw [if_pos (.inl h1)])) trivial
  have t1 : decide (depT t > 4) = false := by simpa using h1
  by_cases h2 : sizT t > 200
  · have t2 : decide (sizT t > 200) = true := by simpa using h2
    (repeat' (first | (refine nx ?_) | (refine WD_call (by exact rfl) ?_; first | (refine WD_c0 (depR_m _ ?_) ?_; (exact hyp)) | (refine WD_c0 (sizR_m _ ?_) ?_; (exact hyp))) | ((with_reducible apply WD_id); first | (refine WD_clr htb ?_))))
    exact gE (.inr rfl) rfl (congrArg vI (by unfold chkT; rw [if_pos (.inr h2)])) trivial
  have t2 : decide (sizT t > 200) = false := by simpa using h2
  (repeat' (first | (refine nx ?_) | (refine WD_call (by exact rfl) ?_; first | (refine WD_c0 (depR_m _ ?_) ?_; (exact hyp)) | (refine WD_c0 (sizR_m _ ?_) ?_; (exact hyp)) | (refine WD_c0 (levR_m _ ?_) ?_; (exact hyp))) | ((with_reducible apply WD_id); first | (refine WD_clr htb ?_))))
  exact gE (.inr rfl) rfl (congrArg vI (by unfold chkT; rw [if_neg (by omega)])) trivial
theorem useT_eq (t : Tr) : useT t = useL t.is (useI t.ns 0) := by cases t; simp only [useT, Tr.ns, Tr.is]
theorem use_m : ∀ (d : Nat) (t : Tr) (hd : hT t ≤ d) (hs : sizT t ≤ 1000), FnM Tryz.prog 147 [] [aTr t] (vI (useT t)) [] := by
  intro d
  induction d with
  | zero => intro t hd; cases t; simp [hT] at hd
  | succ d ih =>
    intro t hd hs
    have hl := siz_len t
    have useR_m : ∀ (x : Tr) (hx : hT x ≤ d ∧ sizT x ≤ 1000), FnM Tryz.prog 147 [] [aTr x] (vI (useT x)) [] := fun x hx => ih x hx.1 hx.2
    show FnM _ _ _ [.agg [vI t.k, lI t.ns, .d (.rows 3 (t.is.map rTr))]] _ _
    rw [rTr_p, useT_eq]
    refine FnM.of htb Tryz.func147 rfl rfl rfl rfl rfl fun cx hN h0 => ?_
    (repeat' (first | (refine nx ?_) | ((with_reducible apply WD_id); first | (refine WD_clr htb ?_))))
    (refine WA_forV (t.ns.length) [11, 3] [] (fun k => [(11, vI k), (3, vI (useI (t.ns.take k) 0))]) (fun k => []) (fun k => True) ?h0 ?_)
    case h0 => trivial
    intro k hk _
    rcases Nat.lt_or_ge k t.ns.length with hk' | hk'
    · have t1 : decide ((k : Int) < (t.ns.length : Int)) = true := by simp; omega
      have hw := useI_take (a := 0) hk'
      cases hx : nodeB (nth t.ns k) with
      | true =>
        have hx2 : 0 ≤ nth t.ns k ∧ nth t.ns k < 10 := by simpa [nodeB] using hx
        have hx3 := hx2.1
        (repeat' (first | ((with_reducible apply WD_id); first | (refine WD_eq (shl_step rfl rfl rfl) ?_) | (refine WD_eq (bor_step rfl rfl rfl) ?_)) | (refine nx ?_) | (refine WD_call (by exact rfl) ?_; first | (refine WD_c0 (tnode_m _) ?_)) | ((with_reducible apply WD_id); first | (refine WD_clr htb ?_))))
        refine ⟨hk', trivial, ?_⟩
        rw [hw, if_pos hx]
        (exact LeV [])
      | false =>
        (repeat' (first | (refine nx ?_) | (refine WD_call (by exact rfl) ?_; first | (refine WD_c0 (tnode_m _) ?_)) | ((with_reducible apply WD_id); first | (refine WD_clr htb ?_))))
        refine ⟨hk', trivial, ?_⟩
        rw [hw, if_neg (by simp [hx])]
        (exact LeV [])
    · have t1 : decide ((k : Int) < (t.ns.length : Int)) = false := by simp; omega
      have e1 : t.ns.take k = t.ns := take_all hk'
      rw [e1]
      (repeat' (first | (refine nx ?_) | ((with_reducible apply WD_id); first | (refine WD_clr htb ?_))))
      (refine WA_forV (t.is.length) [25, 3] [] (fun k => [(25, vI k), (3, vI (useL (t.is.take k) (useI t.ns 0)))]) (fun k => []) (fun k => True) ?h0 ?_)
      case h0 => trivial
      intro k2 hk2 _
      rcases Nat.lt_or_ge k2 t.is.length with hk2' | hk2'
      · have t2 : decide ((k2 : Int) < (t.is.length : Int)) = true := by simp; omega
        have hw := useL_take (a := useI t.ns 0) hk2'
        have hm := nth_mem t.is k2 hk2'
        have hx : hT (nth t.is k2) ≤ d ∧ sizT (nth t.is k2) ≤ 1000 := by have := hT_mem hm; have := siz_mem hm; omega
        (repeat' (first | ((with_reducible apply WD_id); first | (refine WD_eq (bor_step rfl rfl rfl) ?_)) | (refine nx ?_) | (refine WD_call (by exact rfl) ?_; first | (refine WD_c0 (useR_m _ ?_) ?_; (exact hyp))) | ((with_reducible apply WD_id); first | (refine WD_clr htb ?_))))
        refine ⟨hk2', trivial, ?_⟩
        rw [hw]
        (exact LeV [])
      · have t2 : decide ((k2 : Int) < (t.is.length : Int)) = false := by simp; omega
        have e2 : t.is.take k2 = t.is := take_all hk2'
        rw [e2]
        (repeat' (first | (refine nx ?_) | ((with_reducible apply WD_id); first | (refine WD_clr htb ?_))))
        exact gE (.inr rfl) rfl rfl trivial
end Go.Proofs.YtdhogcklnehdhaaGreatDoor
/- Contracts of the functions on sets of nodes and quorums. -/
namespace Go.Proofs.YtdhogcklnehdhaaGreatDoor
set_option linter.unusedSimpArgs false
set_option linter.unusedVariables false
set_option linter.unnecessarySimpa false
set_option linter.unusedSectionVars false
set_option maxRecDepth 100000
open Go Go.RowKit Go.Am Go.Proofs.Grow
section
variable {o : Oper} {t t' : TypeId} {x y : Operand} {T : Nat → Option AV} {M : Nat → Option AO} {a b : Nat}
theorem bandN_step (ho : o.op = .binOp .and t x y t') (hx : evA T x = some (vI (a : Int))) (hy : evA T y = some (vI (b : Int))) (ha : a < 4611686018427387904 := by exact num) (hb : b < 4611686018427387904 := by exact num) : StepOK Tryz.prog o T M ⟨vI ((a &&& b : Nat) : Int), [], []⟩ := by
  rw [← band_nat ha hb]; exact band_step ho hx hy
theorem borN_step (ho : o.op = .binOp .or t x y t') (hx : evA T x = some (vI (a : Int))) (hy : evA T y = some (vI (b : Int))) (ha : a < 4611686018427387904 := by exact num) (hb : b < 4611686018427387904 := by exact num) : StepOK Tryz.prog o T M ⟨vI ((a ||| b : Nat) : Int), [], []⟩ := by
  rw [← bor_nat ha hb]; exact bor_step ho hx hy
theorem bnotN_step (ho : o.op = .binOp .andNot t x y t') (hx : evA T x = some (vI (a : Int))) (hy : evA T y = some (vI (b : Int))) (ha : a < 4611686018427387904 := by exact num) (hb : b < 4611686018427387904 := by exact num) : StepOK Tryz.prog o T M ⟨vI ((andn a b : Nat) : Int), [], []⟩ := by
  rw [← bnot_nat ha hb]; exact bnot_step ho hx hy
theorem shlN_step (ho : o.op = .binOp .shl t x y t') (hx : evA T x = some (vI 1)) (hy : evA T y = some (vI (b : Int))) (h0 : b ≤ 61 := by exact num) : StepOK Tryz.prog o T M ⟨vI ((2 ^ b : Nat) : Int), [], []⟩ := by
  rw [← shl_nat h0]; exact shl_step ho hx hy (by omega)
end
def rN (n : Nat) : List D := [dI (n : Int)]
abbrev lN (l : List Nat) : AV := .d (.rows 1 (l.map rN))
theorem nodes_m (s : Nat) (hs : s < 1024) : FnM Tryz.prog 68 [] [vI (s : Int)] (lN (nodesN s)) [] := by
  refine FnM.of htb Tryz.func68 rfl rfl rfl rfl rfl fun cx hN h0 => ?_
  (repeat' (first | (refine nx ?_) | ((with_reducible apply WD_id); first | (refine WD_clr htb ?_))))
  refine WA_le (Le_nilT 60 3 3 1 rfl rfl) ?_
  (refine WA_forV (10) [5, 3] [60] (fun k => [(5, vI k), (3, .own 60)]) (fun k => [(60, .arr 3 1 ((nodesTo s k).map rN))]) (fun k => True) ?h0 ?_)
  case h0 => trivial
  intro k hk _
  have hln := nodesTo_len s k
  rcases Nat.lt_or_ge k 10 with hk' | hk'
  · have t1 : decide ((k : Int) < 10) = true := by simp; omega
    have hst := nodesTo_succ s k
    have hh := has_nat hs hk'
    cases hx : s.testBit k with
    | true =>
      rw [hx] at hh
      rw [hx, if_pos rfl] at hst
      (repeat' (first | (refine nx ?_) | (refine WD_call (by exact rfl) ?_; first | (refine WD_c0 (has_m _ _) ?_)) | ((with_reducible apply WD_id); first | (refine WD_clr htb ?_))))
      refine ⟨hk', trivial, ?_⟩
      rw [hst, List.map_append]
      (exact LeV [(60, 14)])
    | false =>
      rw [hx] at hh
      rw [hx, if_neg (by simp)] at hst
      (repeat' (first | (refine nx ?_) | (refine WD_call (by exact rfl) ?_; first | (refine WD_c0 (has_m _ _) ?_)) | ((with_reducible apply WD_id); first | (refine WD_clr htb ?_))))
      refine ⟨hk', trivial, ?_⟩
      rw [hst]
      (exact LeV [])
  · have t1 : decide ((k : Int) < 10) = false := by simp; omega
    obtain rfl : k = 10 := by omega
    (repeat' (first | (refine nx ?_) | ((with_reducible apply WD_id); first | (refine WD_clr htb ?_))))
    (exact glV [(2, lN (nodesN s))] [] (LeV []))
def rMb (m : Mb) : List D := [.v (.bool m.decl), dI m.t.k, .rows 1 (m.t.ns.map rI), .rows 3 (m.t.is.map rTr)]
abbrev lMb (c : List Mb) : AV := .d (.rows 4 (c.map rMb))
abbrev aCf (c : List Mb) : AV := .agg [lMb c]
/-- Few members, with small trusts. -/
structure OkC (c : List Mb) : Prop where
  len : c.length ≤ 10
  siz : ∀ k, k < c.length → sizT (nth c k).t ≤ 1000
theorem decl_m (c : List Mb) (hc : OkC c) : FnM Tryz.prog 134 [] [aCf c] (vI (declN c : Nat)) [] := by
  have hl := hc.len
  refine FnM.of htb Tryz.func134 rfl rfl rfl rfl rfl fun cx hN h0 => ?_
  (repeat' (first | (refine nx ?_) | ((with_reducible apply WD_id); first | (refine WD_clr htb ?_))))
  (refine WA_forV (c.length) [9, 3] [] (fun k => [(9, vI k), (3, vI (declTo c k : Nat))]) (fun k => []) (fun k => True) ?h0 ?_)
  case h0 => trivial
  intro k hk _
  have hd := declTo_lt c k (by omega)
  rcases Nat.lt_or_ge k c.length with hk' | hk'
  · have t1 : decide ((k : Int) < (c.length : Int)) = true := by simp; omega
    have t2 : decide ((k : Int) < 10) = true := by simp; omega
    have hp := pow_lt (k := k) (by omega)
    cases hx : (nth c k).decl with
    | true =>
      have hst : declTo c (k + 1) = declTo c k ||| 2 ^ k := by rw [declTo, if_pos hx]
      (repeat' (first | ((with_reducible apply WD_id); first | (refine WD_eq (shlN_step rfl rfl rfl) ?_) | (refine WD_eq (borN_step rfl rfl rfl) ?_)) | (refine nx ?_) | ((with_reducible apply WD_id); first | (refine WD_clr htb ?_))))
      refine ⟨hk', trivial, ?_⟩
      rw [hst]
      (exact LeV [])
    | false =>
      have hst : declTo c (k + 1) = declTo c k := by rw [declTo, if_neg (by simp [hx])]
      (repeat' (first | (refine nx ?_) | ((with_reducible apply WD_id); first | (refine WD_clr htb ?_))))
      refine ⟨hk', trivial, ?_⟩
      rw [hst]
      (exact LeV [])
  · have t1 : decide ((k : Int) < (c.length : Int)) = false := by simp; omega
    obtain rfl : k = c.length := by omega
    (repeat' (first | (refine nx ?_) | ((with_reducible apply WD_id); first | (refine WD_clr htb ?_))))
    exact gE (.inr rfl) rfl rfl trivial
theorem content_m (c : List Mb) (k s : Nat) (hc : OkC c) (hk : k < c.length) : FnM Tryz.prog 135 [] [aCf c, vI (k : Int), vI (s : Int)] (vB (satT s (nth c k).t)) [] := by
  have hx : hT (nth c k).t ≤ hT (nth c k).t ∧ sizT (nth c k).t ≤ 1000 := ⟨Nat.le_refl _, hc.siz k hk⟩
  have satR_m : ∀ (s : Int) (x : Tr) (h : hT x ≤ hT (nth c k).t ∧ sizT x ≤ 1000), FnM Tryz.prog 179 [] [aTr x, vI s] (vB (satT s x)) [] := fun s x h => sat_m _ s x h.1 h.2
  refine FnM.of htb Tryz.func135 rfl rfl rfl rfl rfl fun cx hN h0 => ?_
  (repeat' (first | (refine nx ?_) | (refine WD_call (by exact rfl) ?_; first | (refine WD_c0 (satR_m _ _ ?_) ?_; (exact hyp))) | ((with_reducible apply WD_id); first | (refine WD_clr htb ?_))))
  exact gE (.inr rfl) rfl rfl trivial
theorem inside_m (c : List Mb) (s : Nat) (hc : OkC c) (hs : s < 1024) : FnM Tryz.prog 72 [] [aCf c, vI (s : Int)] (vB (andn s (declN c) == 0)) [] := by
  have hd := declN_lt hc.len
  refine FnM.of htb Tryz.func72 rfl rfl rfl rfl rfl fun cx hN h0 => ?_
  (repeat' (first | ((with_reducible apply WD_id); first | (refine WD_eq (bnotN_step rfl rfl rfl) ?_)) | (refine nx ?_) | (refine WD_call (by exact rfl) ?_; first | (refine WD_c0 (decl_m _ ?_) ?_; (exact hyp))) | ((with_reducible apply WD_id); first | (refine WD_clr htb ?_))))
  exact gE (.inr rfl) rfl (congrArg vB (by rw [Bool.eq_iff_iff]; first | (simp; done) | (simp; omega))) trivial
theorem unhL_step {c : List Mb} {s : Nat} {l : List Nat} {k : Nat} (h : k < l.length) : unhL c s (l.drop k) = if satT s (nth c (nth l k)).t = true then unhL c s (l.drop (k + 1)) else some (nth l k) := by
  rw [drop_nth l k h, unhL]
theorem unh_m (c : List Mb) (s : Nat) (hc : OkC c) (hs : s < 1024) (hin : ∀ k, s.testBit k = true → k < c.length) : FnM Tryz.prog 73 [] [aCf c, vI (s : Int)] (.tup [vI (uhR (unhN c s)).1, vB (uhR (unhN c s)).2]) [] := by
  refine FnM.of htb Tryz.func73 rfl rfl rfl rfl rfl fun cx hN h0 => ?_
  (repeat' (first | (refine nx ?_) | (refine WD_call (by exact rfl) ?_; first | (refine WD_c0 (nodes_m _ ?_) ?_; (exact hyp))) | ((with_reducible apply WD_id); first | (refine WD_clr htb ?_))))
  (refine WA_forV ((nodesN s).length) [11] [] (fun k => [(11, vI k)]) (fun k => []) (fun k => unhL c s (nodesN s) = unhL c s ((nodesN s).drop k)) ?h0 ?_)
  case h0 => rfl
  intro k hk hI
  have hln := nodesTo_len s 10
  rcases Nat.lt_or_ge k (nodesN s).length with hk' | hk'
  · have t1 : decide ((k : Int) < ((nodesN s).length : Int)) = true := by simp only [decide_eq_true_eq]; omega
    have hb := (mem_nodes hs).1 (nth_mem _ k hk')
    have hkc := hin _ hb
    have hk10 : k < 10 := Nat.lt_of_lt_of_le hk' hln
    rw [unhL_step hk'] at hI
    cases hx : satT s (nth c (nth (nodesN s) k)).t with
    | true =>
      rw [hx, if_pos rfl] at hI
      have t2 : (!satT s (nth c (nth (nodesN s) k)).t) = false := by rw [hx]; rfl
      (repeat' (first | (refine nx ?_) | (refine WD_call (by exact rfl) ?_; first | (refine WD_c0 (content_m _ _ _ ?_ ?_) ?_; (exact hyp); (exact hyp))) | ((with_reducible apply WD_id); first | (refine WD_clr htb ?_))))
      refine ⟨hk', hI, ?_⟩
      (exact LeV [])
    | false =>
      rw [hx, if_neg (by simp)] at hI
      have t2 : (!satT s (nth c (nth (nodesN s) k)).t) = true := by rw [hx]; rfl
      rw [show unhN c s = some (nth (nodesN s) k) from hI]
      (repeat' (first | (refine nx ?_) | (refine WD_call (by exact rfl) ?_; first | (refine WD_c0 (content_m _ _ _ ?_ ?_) ?_; (exact hyp); (exact hyp))) | ((with_reducible apply WD_id); first | (refine WD_clr htb ?_))))
      exact gE (.inr rfl) rfl rfl trivial
  · have t1 : decide ((k : Int) < ((nodesN s).length : Int)) = false := by simp only [decide_eq_false_iff_not]; omega
    rw [List.drop_eq_nil_of_le hk'] at hI
    rw [show unhN c s = none from hI]
    (repeat' (first | (refine nx ?_) | ((with_reducible apply WD_id); first | (refine WD_clr htb ?_))))
    exact gE (.inr rfl) rfl rfl trivial
theorem quo_m (c : List Mb) (s : Nat) (hc : OkC c) (hs : s < 1024) : FnM Tryz.prog 25 [] [aCf c, vI (s : Int)] (vB (quoN c s)) [] := by
  have hv := valid_nat hs
  have t0 : (!validS (s : Int)) = false := by rw [hv]; rfl
  refine FnM.of htb Tryz.func25 rfl rfl rfl rfl rfl fun cx hN h0 => ?_
  by_cases h1 : s = 0
  · have t1 : ((s : Int) == 0) = true := by simp [h1]
    (repeat' (first | (refine nx ?_) | (refine WD_call (by exact rfl) ?_; first | (refine WD_c0 (valid_m _) ?_)) | ((with_reducible apply WD_id); first | (refine WD_clr htb ?_))))
    exact gE (.inr rfl) rfl (congrArg vB (by simp [quoN, h1])) trivial
  have t1 : ((s : Int) == 0) = false := by simp [h1]
  cases h2 : (andn s (declN c) == 0) with
  | false =>
    have t2 : (!(andn s (declN c) == 0)) = true := by rw [h2]; rfl
    (repeat' (first | (refine nx ?_) | (refine WD_call (by exact rfl) ?_; first | (refine WD_c0 (valid_m _) ?_) | (refine WD_c0 (inside_m _ _ ?_ ?_) ?_; (exact hyp); (exact hyp))) | ((with_reducible apply WD_id); first | (refine WD_clr htb ?_))))
    exact gE (.inr rfl) rfl (congrArg vB (by simp [quoN, h2])) trivial
  | true =>
    have t2 : (!(andn s (declN c) == 0)) = false := by rw [h2]; rfl
    have hin : ∀ k, s.testBit k = true → k < c.length := fun k hk => by
      have := sub_bit (by simpa using h2) hk
      rw [declTo_bit] at this
      simp at this; exact this.1
    (repeat' (first | (refine nx ?_) | (refine WD_call (by exact rfl) ?_; first | (refine WD_c0 (valid_m _) ?_) | (refine WD_c0 (inside_m _ _ ?_ ?_) ?_; (exact hyp); (exact hyp)) | (refine WD_c0 (unh_m _ _ ?_ ?_ ?_) ?_; (exact hyp); (exact hyp); (exact hyp))) | ((with_reducible apply WD_id); first | (refine WD_clr htb ?_))))
    exact gE (.inr rfl) rfl (congrArg vB (by
      have h3 : (s == 0) = false := by simpa using h1
      unfold quoN; rw [h2, h3]
      cases unhN c s <;> rfl)) trivial
theorem elimG_fuel (c : List Mb) (hc : True) : ∀ (n s : Nat) (out : List Nat), s < 1024 → s ≤ n → elimG c (n + 1) s out = elimG c n s out
  | 0, s, out, hs, h => by
    obtain rfl : s = 0 := by omega
    have : unhN c 0 = none := unhL_none.2 fun k hk => by have := (mem_nodes (by omega)).1 hk; simp at this
    simp only [elimG, this]
  | n + 1, s, out, hs, h => by
    rw [elimG]
    conv => rhs; rw [elimG]
    cases hx : unhN c s with
    | none => rfl
    | some k =>
      simp only
      have hm := (mem_nodes hs).1 (unhL_some hx).1
      have := andn_lt hm
      exact elimG_fuel c hc n _ _ (by omega) (by omega)
theorem elimG_le (c : List Mb) : ∀ {n m s : Nat} {out : List Nat}, s < 1024 → s ≤ n → n ≤ m → elimG c m s out = elimG c n s out := by
  intro n m s out hs h hm
  induction m with
  | zero => obtain rfl : n = 0 := by omega
            rfl
  | succ m ih =>
    rcases Nat.lt_or_ge m n with h1 | h1
    · obtain rfl : n = m + 1 := by omega
      rfl
    · rw [elimG_fuel c trivial m s out hs (by omega), ih h1]
theorem elimG_step {c : List Mb} {s k : Nat} {out : List Nat} (hs : s < 1024) (h : unhN c s = some k) : elimG c s s out = elimG c (andn s (2 ^ k)) (andn s (2 ^ k)) (out ++ [k]) := by
  have hm := (mem_nodes hs).1 (unhL_some h).1
  have hl := andn_lt hm
  obtain ⟨n, rfl⟩ : ∃ n, s = n + 1 := ⟨s - 1, by omega⟩
  rw [elimG, h]
  exact elimG_le c (by omega) (Nat.le_refl _) (by omega)
theorem elim_m (c : List Mb) (s : Nat) (hc : OkC c) (hs : s < 1024) : FnM Tryz.prog 177 [] [aCf c, vI (s : Int)] (.tup [vI ((greatN c s).1 : Int), lN (greatN c s).2]) [] := by
  have hv := valid_nat hs
  have t0 : (!validS (s : Int)) = false := by rw [hv]; rfl
  have hd := declN_lt hc.len
  have ha := and_lt10 (b := declN c) hs
  have e0 : greatN c s = elimG c (s &&& declN c) (s &&& declN c) [] := elimG_le c ha (Nat.le_refl _) (by omega)
  rw [e0]
  refine FnM.of htb Tryz.func177 rfl rfl rfl rfl rfl fun cx hN h0 => ?_
  (repeat' (first | ((with_reducible apply WD_id); first | (refine WD_eq (bandN_step rfl rfl rfl) ?_)) | (refine nx ?_) | (refine WD_call (by exact rfl) ?_; first | (refine WD_c0 (valid_m _) ?_) | (refine WD_c0 (decl_m _ ?_) ?_; (exact hyp))) | ((with_reducible apply WD_id); first | (refine WD_clr htb ?_))))
  refine WA_le (Le_nilT 60 6 3 1 rfl rfl) ?_
  (refine WA_anyV (α := Nat × List Nat) (fun x => x.1) ((s &&& declN c, [])) [1, 6] [60] (fun x => [(1, vI (x.1 : Int)), (6, .own 60)]) (fun x => [(60, .arr 3 1 (x.2.map rN))]) (fun x => x.1 < 1024 ∧ x.1 + x.2.length ≤ 1024 ∧ andn x.1 (declN c) = 0 ∧ elimG c (s &&& declN c) (s &&& declN c) [] = elimG c x.1 x.1 x.2) ?h0 ?_)
  case h0 => exact ⟨ha, by simp; omega, sub_of fun k hk => by rw [Nat.testBit_and] at hk; simp at hk; exact hk.2, rfl⟩
  rintro ⟨x, out⟩ ⟨hx, hlo, hsub, hI⟩
  dsimp only at hx hlo hsub hI ⊢
  rw [hI]
  have hin : ∀ k, x.testBit k = true → k < c.length := fun k hk => by
    have := sub_bit hsub hk
    rw [declTo_bit] at this
    simp at this; exact this.1
  cases hu : unhN c x with
  | none =>
    have e1 : elimG c x x out = (x, out) := by
      cases x with
      | zero => rfl
      | succ n => rw [elimG, hu]
    have t2 : (!(uhR (unhN c x)).2) = true := by rw [hu]; rfl
    rw [e1]
    (repeat' (first | (refine nx ?_) | (refine WD_call (by exact rfl) ?_; first | (refine WD_c0 (unh_m _ _ ?_ ?_ ?_) ?_; (exact hyp); (exact hyp); (exact hyp))) | ((with_reducible apply WD_id); first | (refine WD_clr htb ?_))))
    (exact glV [(4, vI (x : Int)), (5, lN out)] [] (LeV []))
  | some k =>
    have hm := (mem_nodes hx).1 (unhL_some hu).1
    have hk10 := bit_lt hx hm
    have hp := pow_lt hk10
    have hl := andn_lt hm
    have e1 := elimG_step (out := out) hx hu
    have unhS_m : FnM Tryz.prog 73 [] [aCf c, vI (x : Int)] (.tup [vI (k : Int), vB true]) [] := by
      have := unh_m c x hc hx hin
      rw [hu] at this; exact this
    have hlen : out.length ≤ 1024 := by omega
    have hk61 : k ≤ 61 := by omega
    (repeat' (first | ((with_reducible apply WD_id); first | (refine WD_eq (shlN_step rfl rfl rfl) ?_) | (refine WD_eq (bnotN_step rfl rfl rfl) ?_)) | (refine nx ?_) | (refine WD_call (by exact rfl) ?_; first | (refine WD_c0 (unhS_m) ?_)) | ((with_reducible apply WD_id); first | (refine WD_clr htb ?_))))
    refine ⟨(andn x (2 ^ k), out ++ [k]), hl, ⟨by dsimp only; omega, by simp; omega, sub_of fun i hi => ?_, e1⟩, ?_⟩
    · rw [andn_bit] at hi
      simp at hi
      exact sub_bit hsub hi.1
    · rw [List.map_append]
      (exact LeV [(60, 29)])
theorem great_m (c : List Mb) (s : Nat) (hc : OkC c) (hs : s < 1024) : FnM Tryz.prog 125 [] [aCf c, vI (s : Int)] (vI ((greatN c s).1 : Int)) [] := by
  refine FnM.of htb Tryz.func125 rfl rfl rfl rfl rfl fun cx hN h0 => ?_
  (repeat' (first | (refine nx ?_) | (refine WD_call (by exact rfl) ?_; first | (refine WD_c0 (elim_m _ _ ?_ ?_) ?_; (exact hyp); (exact hyp))) | ((with_reducible apply WD_id); first | (refine WD_clr htb ?_))))
  exact gE (.inr rfl) rfl rfl trivial
end Go.Proofs.YtdhogcklnehdhaaGreatDoor
/- Contracts: configurations that are right; who is blocked; what may be accepted. -/
namespace Go.Proofs.YtdhogcklnehdhaaGreatDoor
set_option linter.unusedSimpArgs false
set_option linter.unusedVariables false
set_option linter.unnecessarySimpa false
set_option linter.unusedSectionVars false
set_option maxRecDepth 100000
open Go Go.RowKit Go.Am Go.Proofs.Grow
section
variable {o : Oper} {t t' : TypeId} {x y : Operand} {T : Nat → Option AV} {M : Nat → Option AO} {b : Nat}
theorem bnotE_step (ho : o.op = .binOp .andNot t x y t') (hx : evA T x = some (vI 1023)) (hy : evA T y = some (vI (b : Int))) (hb : b < 4611686018427387904 := by exact num) : StepOK Tryz.prog o T M ⟨vI ((andn 1023 b : Nat) : Int), [], []⟩ :=
  bnotN_step (a := 1023) ho hx hy (by decide) hb
end
abbrev aMb (m : Mb) : AV := .agg [vB m.decl, vI m.t.k, lI m.t.ns, lTr m.t.is]
def blankT (t : Tr) : Bool := (t.k == 0) && ((t.ns.length == 0) && (t.is.length == 0))
theorem blank_m (t : Tr) (hs : sizT t ≤ 1000) : FnM Tryz.prog 154 [] [aTr t] (vB (blankT t)) [] := by
  refine FnM.of htb Tryz.func154 rfl rfl rfl rfl rfl fun cx hN h0 => ?_
  cases h1 : (t.k == 0) with
  | false =>
    (repeat' (first | (refine nx ?_) | ((with_reducible apply WD_id); first | (refine WD_clr htb ?_))))
    exact gE (.inr rfl) rfl (congrArg vB (by simp [blankT, h1])) trivial
  | true =>
    cases h2 : (((t.ns.length : Int)) == 0) with
    | false =>
      (repeat' (first | (refine nx ?_) | ((with_reducible apply WD_id); first | (refine WD_clr htb ?_))))
      exact gE (.inr rfl) rfl (congrArg vB (by simp at h2; simp [blankT, h1, h2])) trivial
    | true =>
      (repeat' (first | (refine nx ?_) | ((with_reducible apply WD_id); first | (refine WD_clr htb ?_))))
      exact gE (.inr rfl) rfl (congrArg vB (by
        have e : (((t.is.length : Int)) == 0) = (t.is.length == 0) := by rw [Bool.eq_iff_iff]; simp
        have h3 : t.ns.length = 0 := by simpa using h2
        simp [blankT, h1, h3, e])) trivial
def membF (m : Mb) (n : Nat) : Int := if m.decl = false then (if blankT m.t = true then 0 else 1) else if chkT m.t ≠ 0 then chkT m.t else if useT m.t ≥ ((2 ^ n : Nat) : Int) then 5 else 0
theorem memb_m (m : Mb) (n : Nat) (hs : sizT m.t ≤ 1000) (hn : n ≤ 10) : FnM Tryz.prog 102 [] [aMb m, vI (n : Int)] (vI (membF m n)) [] := by
  have useS_m : FnM Tryz.prog 147 [] [aTr m.t] (vI (useT m.t)) [] := use_m _ m.t (Nat.le_refl _) hs
  refine FnM.of htb Tryz.func102 rfl rfl rfl rfl rfl fun cx hN h0 => ?_
  unfold membF
  cases hd : m.decl with
  | false =>
    have t0 : (!m.decl) = true := by rw [hd]; rfl
    rw [if_pos rfl]
    cases hb : blankT m.t with
    | false =>
      have t1 : (!blankT m.t) = true := by rw [hb]; rfl
      (repeat' (first | (refine nx ?_) | (refine WD_call (by exact rfl) ?_; first | (refine WD_c0 (blank_m _ ?_) ?_; (exact hyp))) | ((with_reducible apply WD_id); first | (refine WD_clr htb ?_))))
      exact gE (.inr rfl) rfl rfl trivial
    | true =>
      have t1 : (!blankT m.t) = false := by rw [hb]; rfl
      (repeat' (first | (refine nx ?_) | (refine WD_call (by exact rfl) ?_; first | (refine WD_c0 (blank_m _ ?_) ?_; (exact hyp))) | ((with_reducible apply WD_id); first | (refine WD_clr htb ?_))))
      exact gE (.inr rfl) rfl rfl trivial
  | true =>
    have t0 : (!m.decl) = false := by rw [hd]; rfl
    rw [if_neg (by simp)]
    by_cases hc : chkT m.t ≠ 0
    · rw [if_pos hc]
      have t1 : (chkT m.t != 0) = true := by simpa using hc
      (repeat' (first | (refine nx ?_) | (refine WD_call (by exact rfl) ?_; first | (refine WD_c0 (chk3_m _ ?_) ?_; (exact hyp))) | ((with_reducible apply WD_id); first | (refine WD_clr htb ?_))))
      exact gE (.inr rfl) rfl rfl trivial
    · rw [if_neg hc]
      have t1 : (chkT m.t != 0) = false := by simpa using hc
      have hn61 : n ≤ 61 := by omega
      by_cases hu : useT m.t ≥ ((2 ^ n : Nat) : Int)
      · rw [if_pos hu]
        have t2 : decide (useT m.t ≥ ((2 ^ n : Nat) : Int)) = true := by simpa using hu
        (repeat' (first | ((with_reducible apply WD_id); first | (refine WD_eq (shlN_step rfl rfl rfl) ?_)) | (refine nx ?_) | (refine WD_call (by exact rfl) ?_; first | (refine WD_c0 (chk3_m _ ?_) ?_; (exact hyp)) | (refine WD_c0 (useS_m) ?_)) | ((with_reducible apply WD_id); first | (refine WD_clr htb ?_))))
        exact gE (.inr rfl) rfl rfl trivial
      · rw [if_neg hu]
        have t2 : decide (useT m.t ≥ ((2 ^ n : Nat) : Int)) = false := by simpa using hu
        (repeat' (first | ((with_reducible apply WD_id); first | (refine WD_eq (shlN_step rfl rfl rfl) ?_)) | (refine nx ?_) | (refine WD_call (by exact rfl) ?_; first | (refine WD_c0 (chk3_m _ ?_) ?_; (exact hyp)) | (refine WD_c0 (useS_m) ?_)) | ((with_reducible apply WD_id); first | (refine WD_clr htb ?_))))
        exact gE (.inr rfl) rfl rfl trivial
def valL (n : Nat) : List Mb → Int
  | [] => 0
  | m :: r => if membF m n ≠ 0 then membF m n else valL n r
def valC (c : List Mb) : Int := valL c.length c
theorem valL_step {n : Nat} {l : List Mb} {k : Nat} (h : k < l.length) : valL n (l.drop k) = if membF (nth l k) n ≠ 0 then membF (nth l k) n else valL n (l.drop (k + 1)) := by
  rw [drop_nth l k h, valL]
theorem valC_m (c : List Mb) (hc : OkC c) : FnM Tryz.prog 62 [] [aCf c] (vI (valC c)) [] := by
  have hl := hc.len
  have t0 : decide ((c.length : Int) > 10) = false := by simp; omega
  refine FnM.of htb Tryz.func62 rfl rfl rfl rfl rfl fun cx hN h0 => ?_
  (repeat' (first | (refine nx ?_) | ((with_reducible apply WD_id); first | (refine WD_clr htb ?_))))
  (refine WA_forV (c.length) [13] [] (fun k => [(13, vI k)]) (fun k => []) (fun k => valL c.length c = valL c.length (c.drop k)) ?h0 ?_)
  case h0 => rfl
  intro k hk hI
  rcases Nat.lt_or_ge k c.length with hk' | hk'
  · have t1 : decide ((k : Int) < (c.length : Int)) = true := by simp; omega
    have hs := hc.siz k hk'
    have membS_m : FnM Tryz.prog 102 [] [aMb (nth c k), vI ((c.map rMb).length : Int)] (vI (membF (nth c k) c.length)) [] := by rw [List.length_map]; exact memb_m _ _ hs hl
    rw [valL_step hk'] at hI
    by_cases hy : membF (nth c k) c.length ≠ 0
    · rw [if_pos hy] at hI
      have t2 : (membF (nth c k) c.length != 0) = true := by simpa using hy
      (repeat' (first | (refine nx ?_) | (refine WD_call (by exact rfl) ?_; first | (refine WD_c0 (membS_m) ?_)) | ((with_reducible apply WD_id); first | (refine WD_clr htb ?_))))
      exact gE (.inr rfl) rfl (congrArg vI hI.symm) trivial
    · rw [if_neg hy] at hI
      have t2 : (membF (nth c k) c.length != 0) = false := by simpa using hy
      (repeat' (first | (refine nx ?_) | (refine WD_call (by exact rfl) ?_; first | (refine WD_c0 (membS_m) ?_)) | ((with_reducible apply WD_id); first | (refine WD_clr htb ?_))))
      refine ⟨hk', hI, ?_⟩
      (exact LeV [])
  · have t1 : decide ((k : Int) < (c.length : Int)) = false := by simp; omega
    rw [List.drop_eq_nil_of_le hk'] at hI
    (repeat' (first | (refine nx ?_) | ((with_reducible apply WD_id); first | (refine WD_clr htb ?_))))
    exact gE (.inr rfl) rfl (congrArg vI hI.symm) trivial
def blkN (c : List Mb) (v s : Nat) : Bool := (declN c).testBit v && !satT (((andn 1023 s ||| 2 ^ v : Nat)) : Int) (nth c v).t
theorem blk_m (c : List Mb) (v s : Nat) (hc : OkC c) (hv : v < 10) (hs : s < 1024) : FnM Tryz.prog 232 [] [aCf c, vI (v : Int), vI (s : Int)] (vB (blkN c v s)) [] := by
  have t0 : (!validS (s : Int)) = false := by rw [valid_nat hs]; rfl
  have hd := declN_lt hc.len
  have hh := has_nat hd hv
  have hp := pow_lt hv
  have ha := andn_lt10 (b := s) (show 1023 < 1024 by decide)
  have hv61 : v ≤ 61 := by omega
  refine FnM.of htb Tryz.func232 rfl rfl rfl rfl rfl fun cx hN h0 => ?_
  cases hb : (declN c).testBit v with
  | false =>
    rw [hb] at hh
    have t1 : (!hasB ((declN c : Nat) : Int) (v : Int)) = true := by rw [hh]; rfl
    (repeat' (first | (refine nx ?_) | (refine WD_call (by exact rfl) ?_; first | (refine WD_c0 (valid_m _) ?_) | (refine WD_c0 (decl_m _ ?_) ?_; (exact hyp)) | (refine WD_c0 (has_m _ _) ?_)) | ((with_reducible apply WD_id); first | (refine WD_clr htb ?_))))
    exact gE (.inr rfl) rfl (congrArg vB (by simp [blkN, hb])) trivial
  | true =>
    rw [hb] at hh
    have t1 : (!hasB ((declN c : Nat) : Int) (v : Int)) = false := by rw [hh]; rfl
    have hvc : v < c.length := by rw [declTo_bit] at hb; simp at hb; exact hb.1
    have satS_m : FnM Tryz.prog 179 [] [aTr (nth c v).t, vI ((andn 1023 s ||| 2 ^ v : Nat) : Int)] (vB (satT ((andn 1023 s ||| 2 ^ v : Nat) : Int) (nth c v).t)) [] := sat_m _ _ _ (Nat.le_refl _) (hc.siz v hvc)
    (repeat' (first | ((with_reducible apply WD_id); first | (refine WD_eq (bnotE_step rfl rfl rfl) ?_) | (refine WD_eq (shlN_step rfl rfl rfl) ?_) | (refine WD_eq (borN_step rfl rfl rfl) ?_)) | (refine nx ?_) | (refine WD_call (by exact rfl) ?_; first | (refine WD_c0 (valid_m _) ?_) | (refine WD_c0 (decl_m _ ?_) ?_; (exact hyp)) | (refine WD_c0 (has_m _ _) ?_) | (refine WD_c0 (satS_m) ?_)) | ((with_reducible apply WD_id); first | (refine WD_clr htb ?_))))
    exact gE (.inr rfl) rfl (congrArg vB (by simp [blkN, hb])) trivial
def accN (c : List Mb) (v votes accepts : Nat) : Bool := blkN c v accepts || (greatN c (votes ||| accepts)).1.testBit v
theorem elimG_lt (c : List Mb) : ∀ (n s : Nat) (out : List Nat), (elimG c n s out).1 ≤ s
  | 0, s, out => Nat.le_refl _
  | n + 1, s, out => by
    rw [elimG]
    split
    · exact Nat.le_refl _
    · exact Nat.le_trans (elimG_lt c n _ _) (andn_le _ _)
theorem great_lt (c : List Mb) {s : Nat} (hs : s < 1024) : (greatN c s).1 < 1024 := Nat.lt_of_le_of_lt (elimG_lt c _ _ _) (and_lt10 hs)
theorem acc_m (c : List Mb) (v a b : Nat) (hc : OkC c) (hv : v < 10) (ha : a < 1024) (hb : b < 1024) : FnM Tryz.prog 203 [] [aCf c, vI (v : Int), vI (a : Int), vI (b : Int)] (vB (accN c v a b)) [] := by
  have t0 : (!validS (a : Int)) = false := by rw [valid_nat ha]; rfl
  have t1 : (!validS (b : Int)) = false := by rw [valid_nat hb]; rfl
  have ho := or_lt10 ha hb
  have hg := great_lt c ho
  have hh := has_nat hg hv
  refine FnM.of htb Tryz.func203 rfl rfl rfl rfl rfl fun cx hN h0 => ?_
  cases hx : blkN c v b with
  | true =>
    (repeat' (first | (refine nx ?_) | (refine WD_call (by exact rfl) ?_; first | (refine WD_c0 (valid_m _) ?_) | (refine WD_c0 (blk_m _ _ _ ?_ ?_ ?_) ?_; (exact hyp); (exact hyp); (exact hyp))) | ((with_reducible apply WD_id); first | (refine WD_clr htb ?_))))
    exact gE (.inr rfl) rfl (congrArg vB (by simp [accN, hx])) trivial
  | false =>
    (repeat' (first | ((with_reducible apply WD_id); first | (refine WD_eq (borN_step rfl rfl rfl) ?_)) | (refine nx ?_) | (refine WD_call (by exact rfl) ?_; first | (refine WD_c0 (valid_m _) ?_) | (refine WD_c0 (blk_m _ _ _ ?_ ?_ ?_) ?_; (exact hyp); (exact hyp); (exact hyp)) | (refine WD_c0 (great_m _ _ ?_ ?_) ?_; (exact hyp); (exact hyp)) | (refine WD_c0 (has_m _ _) ?_)) | ((with_reducible apply WD_id); first | (refine WD_clr htb ?_))))
    exact gE (.inr rfl) rfl (congrArg vB (by simp [accN, hx, hh])) trivial
end Go.Proofs.YtdhogcklnehdhaaGreatDoor
/- Plain: deletion; the abstract view with nil slices inside of rows. -/
namespace Go.Am
set_option linter.unusedSimpArgs false
set_option linter.unusedVariables false
set_option linter.unnecessarySimpa false
set_option linter.unusedSectionVars false
set_option maxRecDepth 100000
open Go Go.RowKit Go.Proofs.Grow
/-- A nil slice inside of data read as an empty one. -/
inductive DN : D → D → Prop
  | refl (x : D) : DN x x
  | nil (sz : Nat) : DN (.v (.slice none 0 0)) (.rows sz [])
  | rows (sz : Nat) (rs rs' : List (List D)) (hl : rs.length = rs'.length) (hr : ∀ (i : Nat) (r r' : List D), rs[i]? = some r → rs'[i]? = some r' → r.length = r'.length)
      (h : ∀ (i : Nat) (r r' : List D) (j : Nat) (c c' : D), rs[i]? = some r → rs'[i]? = some r' → r[j]? = some c → r'[j]? = some c' → DN c c') : DN (.rows sz rs) (.rows sz rs')
theorem VD.norm {H : Nat → Prop} {w : World} {x y : D} (h : DN x y) : ∀ {v : Value}, VD H w x v → VD H w y v := by
  induction h with
  | refl x => exact fun h => h
  | nil sz => intro v h; cases h; exact .nil sz none 0 fun _ => rfl
  | rows sz rs rs' hl hr _ ih =>
    intro v h
    cases h with
    | nil _ a cap hc =>
      obtain rfl : rs' = [] := List.eq_nil_of_length_eq_zero (by simpa using hl.symm)
      exact .nil sz a cap hc
    | rows _ _ b off cap vs hne hcap hlen hb hlt hsz hcell hone hval =>
      have get : ∀ (i : Nat) (r' : List D), rs'[i]? = some r' → ∃ r, rs[i]? = some r ∧ r.length = r'.length := fun i r' h => by
        have hi : i < rs.length := by rw [hl]; exact (List.getElem?_eq_some_iff.1 h).1
        have e : rs[i]? = some rs[i] := List.getElem?_eq_getElem hi
        exact ⟨_, e, hr i _ r' e h⟩
      have gc : ∀ (i : Nat) (r' : List D) (j : Nat) (c' : D), rs'[i]? = some r' → r'[j]? = some c' → ∃ r c, rs[i]? = some r ∧ r[j]? = some c := fun i r' j c' h1 h2 => by
        obtain ⟨r, e1, e2⟩ := get i r' h1
        have hj : j < r.length := by rw [e2]; exact (List.getElem?_eq_some_iff.1 h2).1
        exact ⟨r, r[j], e1, List.getElem?_eq_getElem hj⟩
      rw [hl]
      refine .rows sz rs' b off cap vs (fun e => hne (List.eq_nil_of_length_eq_zero (by rw [hl, e]; rfl))) (by omega) (by omega) hb hlt (fun i r' h1 => ?_) (fun i r' j c' h1 h2 => ?_) (fun i r' j c' h1 h2 => ?_) (fun i r' j c' h1 h2 => ?_)
      · obtain ⟨r, e1, e2⟩ := get i r' h1; rw [← e2]; exact hsz i r e1
      · obtain ⟨r, c, e1, e2⟩ := gc i r' j c' h1 h2; exact hcell i r j c e1 e2
      · obtain ⟨r, c, e1, e2⟩ := gc i r' j c' h1 h2; exact hone i r j c e1 e2
      · obtain ⟨r, c, e1, e2⟩ := gc i r' j c' h1 h2; exact ih i r r' j c c' e1 h1 e2 h2 (hval i r j c e1 e2)
def DNs (r r' : List D) : Prop := r.length = r'.length ∧ ∀ (j : Nat) (c c' : D), r[j]? = some c → r'[j]? = some c' → DN c c'
theorem DNs.nil : DNs [] [] := ⟨rfl, fun j c c' h => by simp at h⟩
theorem DNs.cons {c c' : D} {r r' : List D} (h : DN c c') (k : DNs r r') : DNs (c :: r) (c' :: r') := ⟨by simp [k.1], fun j x y hx hy => by
  cases j with
  | zero => cases hx; cases hy; exact h
  | succ j => exact k.2 j x y hx hy⟩
theorem DNs.refl (r : List D) : DNs r r := ⟨rfl, fun j c c' h h' => by rw [h] at h'; cases h'; exact .refl _⟩
theorem DNs.append {a a' b b' : List D} (h : DNs a a') (k : DNs b b') : DNs (a ++ b) (a' ++ b') := by
  induction a generalizing a' with
  | nil => obtain rfl : a' = [] := List.eq_nil_of_length_eq_zero (by simpa using h.1.symm)
           exact k
  | cons x r ih =>
    cases a' with
    | nil => have := h.1; simp at this
    | cons y s => exact DNs.cons (h.2 0 x y rfl rfl) (ih ⟨by have := h.1; simpa using this, fun j c c' hc hc' => h.2 (j + 1) c c' hc hc'⟩)
theorem VDs.norm {H : Nat → Prop} {w : World} {r r' : List D} {vs : List Value} (h : DNs r r') (k : VDs H w r vs) : VDs H w r' vs := ⟨by rw [← h.1]; exact k.1, fun i c v hc hv => by
  have hi : i < r.length := by rw [h.1]; exact (List.getElem?_eq_some_iff.1 hc).1
  have e : r[i]? = some r[i] := List.getElem?_eq_getElem hi
  exact (k.2 i _ v e hv).norm (h.2 i _ c e hc)⟩
/-- The last row of a slice of the call's own, its nil slices read as empty ones. -/
theorem Le_norm {cx : Cx} {T : List (Nat × AV)} {M : List (Nat × AO)} (g : Nat) {ty sz : Nat} {rs : List (List D)} {r r' : List D} (hg : lk M g = some (.arr ty sz (rs ++ [r]))) (h : DNs r r') : Le cx ⟨T, M⟩ ⟨T, (g, .arr ty sz (rs ++ [r'])) :: M⟩ := by
  rintro a w ⟨μ, hI⟩
  refine ⟨μ, ?_⟩
  rw [← show upM (lk M) [(g, AO.arr ty sz (rs ++ [r']))] = lk ((g, .arr ty sz (rs ++ [r'])) :: M) from upM_cons]
  refine hI.swap hg rfl rfl fun H' hk => ?_
  obtain ⟨v, xs, g1, g2, g3, g4, g5⟩ := hI.ob g _ hg
  refine ⟨v, xs, g1, by rw [show (rs ++ [r']).length = (rs ++ [r]).length by simp]; exact g2, fun q hq => ?_, ?_, g5⟩
  · rcases List.mem_append.1 hq with hq | hq
    · exact g3 q (List.mem_append_left _ hq)
    · obtain rfl : q = r' := by simpa using hq
      rw [← h.1]; exact g3 r (by simp)
  · rw [List.flatten_append] at g4 ⊢
    refine (g4.mono hk).norm (DNs.append (DNs.refl _) ?_)
    simpa using h
end Go.Am
namespace Go.Proofs.YtdhogcklnehdhaaGreatDoor
open Go.RowKit Go.Proofs.Grow Go.Sort
def lowI (t b : Int) : Int := mxI t b - b
def delI (s : Int) : List Int → Int → List Int → Int × List Int
  | [], k, o => (k, o)
  | x :: r, k, o => if hasB s x = true then delI s r (lowI k 1) o else delI s r k (o ++ [x])
mutual
def delT (s : Int) : Tr → Tr
  | .mk k ns is => delL s is (delI s ns (mxI k 0) []).1 (delI s ns (mxI k 0) []).2 []
def delL (s : Int) : List Tr → Int → List Int → List Tr → Tr
  | [], k, ns, o => .mk k ns o
  | t :: r, k, ns, o => if (delT s t).k = 0 then delL s r (lowI k 1) ns o else delL s r k ns (o ++ [delT s t])
end
mutual
def kbT : Tr → Nat
  | .mk k _ is => max k.natAbs (kbL is)
def kbL : List Tr → Nat
  | [] => 0
  | t :: r => max (kbT t) (kbL r)
end
theorem kbL_mem : ∀ {l : List Tr} {x : Tr}, x ∈ l → kbT x ≤ kbL l
  | t :: r, x, h => by
    rcases List.mem_cons.1 h with rfl | h
    · simp only [kbL]; omega
    · have := kbL_mem h; simp only [kbL]; omega
theorem kb_mem {t x : Tr} (h : x ∈ t.is) : kbT x ≤ kbT t := by
  cases t with
  | mk k ns is => have := kbL_mem (l := is) h; simp only [kbT]; omega
theorem kb_k (t : Tr) : t.k.natAbs ≤ kbT t := by cases t; simp only [kbT, Tr.k]; omega
theorem delI_step {s : Int} {l : List Int} {k : Nat} {a : Int} {o : List Int} (h : k < l.length) : delI s (l.drop k) a o = if hasB s (nth l k) = true then delI s (l.drop (k + 1)) (lowI a 1) o else delI s (l.drop (k + 1)) a (o ++ [nth l k]) := by
  rw [drop_nth l k h, delI]
theorem delL_step {s : Int} {l : List Tr} {k : Nat} {a : Int} {ns : List Int} {o : List Tr} (h : k < l.length) : delL s (l.drop k) a ns o = if (delT s (nth l k)).k = 0 then delL s (l.drop (k + 1)) (lowI a 1) ns o else delL s (l.drop (k + 1)) a ns (o ++ [delT s (nth l k)]) := by
  rw [drop_nth l k h, delL]
theorem delI_bd (s : Int) : ∀ (l : List Int) (a : Int) (o : List Int), 0 ≤ a → (0 ≤ (delI s l a o).1 ∧ (delI s l a o).1 ≤ a) ∧ (delI s l a o).2.length ≤ o.length + l.length
  | [], a, o, h => by simp [delI]; omega
  | x :: r, a, o, h => by
    unfold delI
    split
    · have h1 : 0 ≤ lowI a 1 ∧ lowI a 1 ≤ a := by unfold lowI mxI; split <;> omega
      have := delI_bd s r (lowI a 1) o h1.1
      simp only [List.length_cons]; omega
    · have := delI_bd s r a (o ++ [x]) h
      simp only [List.length_cons, List.length_append, List.length_nil] at *; omega
theorem sizL_app : ∀ (l m : List Tr) (a : Int), sizL (l ++ m) a = sizL m (sizL l a)
  | [], m, a => rfl
  | t :: r, m, a => by simp only [List.cons_append, sizL]; exact sizL_app r m _
theorem sizL_add : ∀ (l : List Tr) (a b : Int), sizL l (a + b) = sizL l a + b
  | [], a, b => rfl
  | t :: r, a, b => by simp only [sizL]; rw [show a + b + sizT t = a + sizT t + b by omega]; exact sizL_add r _ b
mutual
theorem del_siz (s : Int) : ∀ t : Tr, sizT (delT s t) ≤ sizT t
  | .mk k ns is => by
    have h1 := delI_bd s ns (mxI k 0) [] (by unfold mxI; split <;> omega)
    have h2 := delL_siz s is (delI s ns (mxI k 0) []).1 (delI s ns (mxI k 0) []).2 []
    simp only [List.length_nil, sizL] at h1 h2
    simp only [delT, sizT]
    have h3 := sizL_add is 0 ((ns.length : Int) + (is.length : Int))
    rw [Int.zero_add] at h3
    omega
theorem delL_siz (s : Int) : ∀ (l : List Tr) (k : Int) (ns : List Int) (o : List Tr), sizT (delL s l k ns o) ≤ (ns.length : Int) + (o.length : Int) + sizL o 0 + (l.length : Int) + sizL l 0
  | [], k, ns, o => by
    simp only [delL, sizT, sizL, List.length_nil]
    have h3 := sizL_add o 0 ((ns.length : Int) + (o.length : Int))
    rw [Int.zero_add] at h3
    omega
  | t :: r, k, ns, o => by
    have e := sizL_add r 0 (sizT t)
    have h1 := del_siz s t
    have h0 := siz_nn t
    unfold delL
    split
    · have := delL_siz s r (lowI k 1) ns o
      simp only [sizL, List.length_cons]
      omega
    · have := delL_siz s r k ns (o ++ [delT s t])
      rw [sizL_app] at this
      simp only [sizL, List.length_cons, List.length_append, List.length_nil] at this ⊢
      omega
end
/-- Who goes, who is changed, who stays. -/
def dtrT (s : Int) (k : Nat) (t : Tr) : Tr := if (delT s t).k = 0 then .mk 1 [(k : Int)] [] else delT s t
def delM (s : Nat) (k : Nat) (m : Mb) : Mb := if s.testBit k = true then ⟨false, .mk 0 [] []⟩ else if m.decl = true then ⟨true, dtrT s k m.t⟩ else m
def delTo (c : List Mb) (s n : Nat) : List Mb := (List.range n).map fun k => delM s k (nth c k)
abbrev delC (c : List Mb) (s : Nat) : List Mb := delTo c s c.length
theorem delTo_succ (c : List Mb) (s n : Nat) : delTo c s (n + 1) = delTo c s n ++ [delM s n (nth c n)] := by
  unfold delTo; rw [List.range_succ, List.map_append]; rfl
theorem delTo_len (c : List Mb) (s n : Nat) : (delTo c s n).length = n := by simp [delTo]
theorem delTo_nth {c : List Mb} {s n k : Nat} (h : k < n) : nth (delTo c s n) k = delM s k (nth c k) := by
  rw [nth_getElem _ k (by rw [delTo_len]; exact h)]; simp [delTo]
theorem delC_ok {c : List Mb} (hc : OkC c) (s : Nat) : OkC (delC c s) := ⟨by rw [delTo_len]; exact hc.len, fun k hk => by
  rw [delTo_len] at hk
  have h1 := hc.siz k hk
  rw [delTo_nth hk]
  unfold delM
  split
  · simp [sizT, sizL]
  · split
    · show sizT (dtrT s k (nth c k).t) ≤ 1000
      unfold dtrT
      split
      · simp [sizT, sizL]
      · exact Int.le_trans (del_siz _ _) h1
    · exact h1⟩
end Go.Proofs.YtdhogcklnehdhaaGreatDoor
/- Contracts: deletion. -/
namespace Go.Proofs.YtdhogcklnehdhaaGreatDoor
set_option linter.unusedSimpArgs false
set_option linter.unusedVariables false
set_option linter.unnecessarySimpa false
set_option linter.unusedSectionVars false
set_option maxRecDepth 100000
open Go Go.RowKit Go.Am Go.Proofs.Grow
theorem low_m (a b : Int) (ha : 0 ≤ a ∧ a ≤ 1000000) (hb : 0 ≤ b ∧ b ≤ 1000) : FnM Tryz.prog 176 [] [vI a, vI b] (vI (lowI a b)) [] := by
  have h1 : 0 ≤ mxI a b ∧ mxI a b ≤ 1000000 := by unfold mxI; split <;> omega
  unfold mxI at h1
  refine FnM.of htb Tryz.func176 rfl rfl rfl rfl rfl fun cx hN h0 => ?_
  (repeat' (first | ((with_reducible apply WD_id); first | (refine WD_sum ?_) | (refine WD_nxt htb (by exact rfl) ?_)) | (refine ct ?_) | (with_reducible apply WA_block)))
  exact gE (.inr rfl) rfl rfl trivial
theorem delT_eq (s : Int) (t : Tr) : delT s t = delL s t.is (delI s t.ns (mxI t.k 0) []).1 (delI s t.ns (mxI t.k 0) []).2 [] := by cases t; simp only [delT, Tr.k, Tr.ns, Tr.is]
theorem low_bd {a : Int} (h : 0 ≤ a) : 0 ≤ lowI a 1 ∧ lowI a 1 ≤ a := by unfold lowI mxI; split <;> omega
theorem del_m : ∀ (d : Nat) (s : Int) (t : Tr) (hd : hT t ≤ d) (hs : sizT t ≤ 1000) (hb : kbT t ≤ 1000), FnM Tryz.prog 122 [] [aTr t, vI s] (aTr (delT s t)) [] := by
  intro d
  induction d with
  | zero => intro s t hd; cases t; simp [hT] at hd
  | succ d ih =>
    intro s t hd hs hb
    have hl := siz_len t
    have hk := kb_k t
    have delR_m : ∀ (s : Int) (x : Tr) (hx : hT x ≤ d ∧ sizT x ≤ 1000 ∧ kbT x ≤ 1000), FnM Tryz.prog 122 [] [aTr x, vI s] (aTr (delT s x)) [] := fun s x hx => ih s x hx.1 hx.2.1 hx.2.2
    have hmx : 0 ≤ mxI t.k 0 ∧ mxI t.k 0 ≤ 1000 := by unfold mxI; split <;> omega
    show FnM _ _ _ [.agg [vI t.k, lI t.ns, .d (.rows 3 (t.is.map rTr))], vI s] _ _
    rw [show t.is.map rTr = t.is.map rTp by rw [rTr_p], delT_eq]
    refine FnM.of htb Tryz.func122 rfl rfl rfl rfl rfl fun cx hN h0 => ?_
    (repeat' (first | ((with_reducible apply WD_id); first | (refine WD_sum ?_) | (refine WD_nxt htb (by exact rfl) ?_) | (refine WD_idx htb ?_) | (refine WD_ap htb ?_)) | (refine ct ?_) | (with_reducible apply WA_block)))
    refine WA_le (Le_nilM 60 5 1 3 1 rfl rfl rfl rfl) ?_
    refine WA_le (Le_nilM 61 5 2 45 3 rfl rfl rfl rfl) ?_
    (refine WA_anyV (α := Nat × Int × List Int) (fun x => t.ns.length - x.1) ((0, mxI t.k 0, [])) [17] [5, 60, 61] (fun x => [(17, vI x.1)]) (fun x => [(5, .box 45 [vI x.2.1, .own 60, .own 61]), (60, .arr 3 1 (x.2.2.map rI)), (61, .arr 45 3 [])]) (fun x => x.1 ≤ t.ns.length ∧ 0 ≤ x.2.1 ∧ x.2.1 ≤ 1000 ∧ x.2.2.length ≤ x.1 ∧ delI s t.ns (mxI t.k 0) [] = delI s (t.ns.drop x.1) x.2.1 x.2.2) ?h0 ?_)
    case h0 => exact ⟨Nat.zero_le _, hmx.1, hmx.2, Nat.le_refl _, rfl⟩
    rintro ⟨k, a, out⟩ ⟨hk1, ha0, ha1, hlo, hI⟩
    dsimp only at hk1 ha0 ha1 hlo hI ⊢
    rcases Nat.lt_or_ge k t.ns.length with hk' | hk'
    · have t1 : decide ((k : Int) < (t.ns.length : Int)) = true := by simp; omega
      rw [delI_step hk'] at hI
      have hlw := low_bd ha0
      have hlb : 0 ≤ a ∧ a ≤ 1000000 := by omega
      have hob : (0 : Int) ≤ 1 ∧ (1 : Int) ≤ 1000 := by omega
      cases hx : hasB s (nth t.ns k) with
      | true =>
        rw [hx, if_pos rfl] at hI
        (repeat' (first | ((with_reducible apply WD_id); first | (refine WD_sum ?_) | (refine WD_nxt htb (by exact rfl) ?_) | (refine WD_call (by exact rfl) ?_; first | (refine WD_c0 (has_m _ _) ?_) | (refine WD_c0 (low_m _ _ ?_ ?_) ?_; (exact hyp); (exact hyp))) | (refine WD_idx htb ?_) | (refine WD_ap htb ?_)) | (refine ct ?_) | (with_reducible apply WA_block)))
        refine ⟨(k + 1, lowI a 1, out), by dsimp only; omega, ⟨hk', hlw.1, by dsimp only; omega, by dsimp only; omega, hI⟩, ?_⟩
        (exact LeV [])
      | false =>
        rw [hx, if_neg (by simp)] at hI
        (repeat' (first | ((with_reducible apply WD_id); first | (refine WD_sum ?_) | (refine WD_nxt htb (by exact rfl) ?_) | (refine WD_call (by exact rfl) ?_; first | (refine WD_c0 (has_m _ _) ?_)) | (refine WD_idx htb ?_) | (refine WD_ap htb ?_)) | (refine ct ?_) | (with_reducible apply WA_block)))
        refine ⟨(k + 1, a, out ++ [nth t.ns k]), by dsimp only; omega, ⟨hk', ha0, ha1, by simp; omega, hI⟩, ?_⟩
        rw [List.map_append]
        (exact LeV [(60, 32)])
    · have t1 : decide ((k : Int) < (t.ns.length : Int)) = false := by simp; omega
      rw [List.drop_eq_nil_of_le hk', delI] at hI
      rw [hI]
      (repeat' (first | ((with_reducible apply WD_id); first | (refine WD_sum ?_) | (refine WD_nxt htb (by exact rfl) ?_) | (refine WD_idx htb ?_) | (refine WD_ap htb ?_)) | (refine ct ?_) | (with_reducible apply WA_block)))
      (refine WA_anyV (α := Nat × Int × List Tr) (fun x => t.is.length - x.1) ((0, a, [])) [38] [5, 61] (fun x => [(38, vI x.1)]) (fun x => [(5, .box 45 [vI x.2.1, .own 60, .own 61]), (61, .arr 45 3 (x.2.2.map rTr))]) (fun x => x.1 ≤ t.is.length ∧ 0 ≤ x.2.1 ∧ x.2.1 ≤ 1000 ∧ x.2.2.length ≤ x.1 ∧ delL s t.is a out [] = delL s (t.is.drop x.1) x.2.1 out x.2.2) ?h0 ?_)
      case h0 => exact ⟨Nat.zero_le _, ha0, ha1, Nat.le_refl _, rfl⟩
      rintro ⟨k2, b, ot⟩ ⟨hk2, hb0, hb1, hlo2, hI2⟩
      dsimp only at hk2 hb0 hb1 hlo2 hI2 ⊢
      rcases Nat.lt_or_ge k2 t.is.length with hk2' | hk2'
      · have t2 : decide ((k2 : Int) < (t.is.length : Int)) = true := by simp; omega
        rw [delL_step hk2'] at hI2
        have hlw := low_bd hb0
        have hlb : 0 ≤ b ∧ b ≤ 1000000 := by omega
        have hob : (0 : Int) ≤ 1 ∧ (1 : Int) ≤ 1000 := by omega
        have hm := nth_mem t.is k2 hk2'
        have hx : hT (nth t.is k2) ≤ d ∧ sizT (nth t.is k2) ≤ 1000 ∧ kbT (nth t.is k2) ≤ 1000 := by have := hT_mem hm; have := siz_mem hm; have := kb_mem hm; omega
        by_cases hz : (delT s (nth t.is k2)).k = 0
        · have t3 : ((delT s (nth t.is k2)).k == 0) = true := by simpa using hz
          rw [if_pos hz] at hI2
          (repeat' (first | ((with_reducible apply WD_id); first | (refine WD_sum ?_) | (refine WD_nxt htb (by exact rfl) ?_) | (refine WD_call (by exact rfl) ?_; first | (refine WD_c0 (delR_m _ _ ?_) ?_; (exact hyp)) | (refine WD_c0 (low_m _ _ ?_ ?_) ?_; (exact hyp); (exact hyp))) | (refine WD_idx htb ?_) | (refine WD_ap htb ?_)) | (refine ct ?_) | (with_reducible apply WA_block)))
          refine ⟨(k2 + 1, lowI b 1, ot), by dsimp only; omega, ⟨hk2', hlw.1, by dsimp only; omega, by dsimp only; omega, hI2⟩, ?_⟩
          (exact LeV [])
        · have t3 : ((delT s (nth t.is k2)).k == 0) = false := by simpa using hz
          rw [if_neg hz] at hI2
          (repeat' (first | ((with_reducible apply WD_id); first | (refine WD_sum ?_) | (refine WD_nxt htb (by exact rfl) ?_) | (refine WD_call (by exact rfl) ?_; first | (refine WD_c0 (delR_m _ _ ?_) ?_; (exact hyp))) | (refine WD_idx htb ?_) | (refine WD_ap htb ?_)) | (refine ct ?_) | (with_reducible apply WA_block)))
          refine ⟨(k2 + 1, b, ot ++ [delT s (nth t.is k2)]), by dsimp only; omega, ⟨hk2', hb0, hb1, by simp; omega, hI2⟩, ?_⟩
          rw [List.map_append, List.map_cons, List.map_nil, show rTr (delT s (nth t.is k2)) = rTp (delT s (nth t.is k2)) by rw [rTr_p]]
          (exact LeV [(61, 56)])
      · have t2 : decide ((k2 : Int) < (t.is.length : Int)) = false := by simp; omega
        rw [List.drop_eq_nil_of_le hk2', delL] at hI2
        rw [hI2]
        (repeat' (first | ((with_reducible apply WD_id); first | (refine WD_sum ?_) | (refine WD_nxt htb (by exact rfl) ?_) | (refine WD_idx htb ?_) | (refine WD_ap htb ?_)) | (refine ct ?_) | (with_reducible apply WA_block)))
        (exact glV [(4, .ptr 4 0)] [(4, .box 45 (cellsOf (aTr (.mk b out ot))))] (LeV []))
theorem cop_m : ∀ (d : Nat) (t : Tr) (hd : hT t ≤ d) (hs : sizT t ≤ 1000), FnM Tryz.prog 59 [] [aTr t] (aTr t) [] := by
  intro d
  induction d with
  | zero => intro t hd; cases t; simp [hT] at hd
  | succ d ih =>
    intro t hd hs
    have hl := siz_len t
    have copR_m : ∀ (x : Tr) (hx : hT x ≤ d ∧ sizT x ≤ 1000), FnM Tryz.prog 59 [] [aTr x] (aTr x) [] := fun x hx => ih x hx.1 hx.2
    show FnM _ _ _ [.agg [vI t.k, lI t.ns, .d (.rows 3 (t.is.map rTr))]] (.agg [vI t.k, lI t.ns, .d (.rows 3 (t.is.map rTr))]) _
    rw [rTr_p]
    refine FnM.of htb Tryz.func59 rfl rfl rfl rfl rfl fun cx hN h0 => ?_
    (repeat' (first | ((with_reducible apply WD_id); first | (refine WD_sum ?_) | (refine WD_nxt htb (by exact rfl) ?_) | (refine WD_idx htb ?_) | (refine WD_ap htb ?_) | (refine WD_ap0 htb ?_)) | (refine ct ?_) | (with_reducible apply WA_block)))
    refine WA_le (Le_nilM 61 3 2 45 3 rfl rfl rfl rfl) ?_
    (refine WA_forV (t.is.length) [15] [3, 10, 61] (fun k => [(15, vI k)]) (fun k => [(3, .box 45 [vI t.k, .own 10, .own 61]), (10, .arr 3 1 (t.ns.map rI)), (61, .arr 45 3 ((t.is.take k).map rTp))]) (fun k => True) ?h0 ?_)
    case h0 => trivial
    intro k hk _
    have hlk : (t.is.take k).length ≤ k := by rw [List.length_take]; omega
    rcases Nat.lt_or_ge k t.is.length with hk' | hk'
    · have t1 : decide ((k : Int) < (t.is.length : Int)) = true := by simp; omega
      have hm := nth_mem t.is k hk'
      have hx : hT (nth t.is k) ≤ d ∧ sizT (nth t.is k) ≤ 1000 := by have := hT_mem hm; have := siz_mem hm; omega
      have hw : (t.is.take (k + 1)) = t.is.take k ++ [nth t.is k] := by rw [List.take_succ_eq_append_getElem hk', nth_getElem _ _ hk']
      (repeat' (first | ((with_reducible apply WD_id); first | (refine WD_sum ?_) | (refine WD_nxt htb (by exact rfl) ?_) | (refine WD_call (by exact rfl) ?_; first | (refine WD_c0 (copR_m _ ?_) ?_; (exact hyp))) | (refine WD_idx htb ?_) | (refine WD_ap htb ?_) | (refine WD_ap0 htb ?_)) | (refine ct ?_) | (with_reducible apply WA_block)))
      refine ⟨hk', trivial, ?_⟩
      rw [hw, List.map_append, List.map_cons, List.map_nil]
      (exact LeV [(61, 24)])
    · have t1 : decide ((k : Int) < (t.is.length : Int)) = false := by simp; omega
      have e1 : t.is.take k = t.is := take_all hk'
      rw [e1]
      (repeat' (first | ((with_reducible apply WD_id); first | (refine WD_sum ?_) | (refine WD_nxt htb (by exact rfl) ?_) | (refine WD_idx htb ?_) | (refine WD_ap htb ?_) | (refine WD_ap0 htb ?_)) | (refine ct ?_) | (with_reducible apply WA_block)))
      (exact glV [(2, .ptr 2 0)] [(2, .box 45 [vI t.k, lI t.ns, .d (.rows 3 (t.is.map rTp))])] (LeV []))
theorem dtr_m (t : Tr) (k s : Nat) (hs : s < 1024) (hz : sizT t ≤ 1000) (hb : kbT t ≤ 1000) : FnM Tryz.prog 58 [] [aTr t, vI (k : Int), vI (s : Int)] (aTr (dtrT s k t)) [] := by
  have t0 : (!validS (s : Int)) = false := by rw [valid_nat hs]; rfl
  have delS_m : FnM Tryz.prog 122 [] [aTr t, vI (s : Int)] (aTr (delT s t)) [] := del_m _ s t (Nat.le_refl _) hz hb
  refine FnM.of htb Tryz.func58 rfl rfl rfl rfl rfl fun cx hN h0 => ?_
  unfold dtrT
  by_cases hk : (delT s t).k = 0
  · have t1 : ((delT s t).k == 0) = true := by simpa using hk
    rw [if_pos hk]
    (repeat' (first | ((with_reducible apply WD_id); first | (refine WD_nxt htb (by exact rfl) ?_) | (refine WD_call (by exact rfl) ?_; first | (refine WD_c0 (valid_m _) ?_) | (refine WD_c0 (delS_m) ?_))) | (refine ct ?_) | (with_reducible apply WA_block)))
    (exact glV [(6, .ptr 6 0)] [(6, .box 45 (cellsOf (aTr (.mk 1 [(k : Int)] []))))] (LeV []))
  · have t1 : ((delT s t).k == 0) = false := by simpa using hk
    rw [if_neg hk]
    (repeat' (first | ((with_reducible apply WD_id); first | (refine WD_nxt htb (by exact rfl) ?_) | (refine WD_call (by exact rfl) ?_; first | (refine WD_c0 (valid_m _) ?_) | (refine WD_c0 (delS_m) ?_))) | (refine ct ?_) | (with_reducible apply WA_block)))
    exact gE (.inr rfl) rfl rfl trivial
theorem rMb_blank : DNs [.v (.bool false), .v (.int .i64 0), .v (.slice none 0 0), .v (.slice none 0 0)] (rMb ⟨false, .mk 0 [] []⟩) :=
  DNs.cons (.refl _) (DNs.cons (.refl _) (DNs.cons (.nil 1) (DNs.cons (.nil 3) DNs.nil)))
theorem delC_m (c : List Mb) (s : Nat) (hc : OkC c) (hs : s < 1024) (hkb : ∀ k, k < c.length → kbT (nth c k).t ≤ 1000) : FnM Tryz.prog 18 [] [aCf c, vI (s : Int)] (aCf (delC c s)) [] := by
  have hl := hc.len
  refine FnM.of htb Tryz.func18 rfl rfl rfl rfl rfl fun cx hN h0 => ?_
  (repeat' (first | ((with_reducible apply WD_id); first | (refine WD_sum ?_) | (refine WD_nxt htb (by exact rfl) ?_) | (refine WD_idx htb ?_) | (refine WD_ap htb ?_)) | (refine ct ?_) | (with_reducible apply WA_block)))
  refine WA_le (Le_nilM 60 5 0 53 4 rfl rfl rfl rfl) ?_
  (refine WA_forV (c.length) [11] [5, 60] (fun k => [(11, vI k)]) (fun k => [(5, .box 27 [.own 60]), (60, .arr 53 4 ((delTo c s k).map rMb))]) (fun k => True) ?h0 ?_)
  case h0 => trivial
  intro k hk _
  have hlk := delTo_len c s k
  rcases Nat.lt_or_ge k c.length with hk' | hk'
  · have t1 : decide ((k : Int) < (c.length : Int)) = true := by simp; omega
    have hsz := hc.siz k hk'
    have hb := hkb k hk'
    have hk10 : k < 10 := by omega
    have hh := has_nat hs hk10
    have hst := delTo_succ c s k
    cases hx : s.testBit k with
    | true =>
      rw [hx] at hh
      have e : delM s k (nth c k) = ⟨false, .mk 0 [] []⟩ := by unfold delM; rw [if_pos hx]
      rw [e] at hst
      (repeat' (first | ((with_reducible apply WD_id); first | (refine WD_sum ?_) | (refine WD_nxt htb (by exact rfl) ?_) | (refine WD_call (by exact rfl) ?_; first | (refine WD_c0 (has_m _ _) ?_)) | (refine WD_idx htb ?_) | (refine WD_ap htb ?_)) | (refine ct ?_) | (with_reducible apply WA_block)))
      refine ⟨hk', trivial, Le.trans (Le_norm 38 rfl rMb_blank) ?_⟩
      rw [hst, List.map_append]
      (exact LeV [(60, 38)])
    | false =>
      rw [hx] at hh
      cases hd : (nth c k).decl with
      | true =>
        have e : delM s k (nth c k) = ⟨true, dtrT s k (nth c k).t⟩ := by unfold delM; rw [if_neg (by simp [hx]), if_pos hd]
        have dtrX_m : FnM Tryz.prog 58 [] [aTr (nth c k).t, vI (k : Int), vI (s : Int)] (aTr (dtrT s k (nth c k).t)) [] := dtr_m _ _ _ hs hsz hb
        rw [e] at hst
        (repeat' (first | ((with_reducible apply WD_id); first | (refine WD_sum ?_) | (refine WD_nxt htb (by exact rfl) ?_) | (refine WD_call (by exact rfl) ?_; first | (refine WD_c0 (has_m _ _) ?_) | (refine WD_c0 (dtrX_m) ?_)) | (refine WD_idx htb ?_) | (refine WD_ap htb ?_)) | (refine ct ?_) | (with_reducible apply WA_block)))
        refine ⟨hk', trivial, ?_⟩
        rw [hst, List.map_append]
        (exact LeV [(60, 38)])
      | false =>
        have e : delM s k (nth c k) = nth c k := by unfold delM; rw [if_neg (by simp [hx]), if_neg (by simp [hd])]
        have copX_m : FnM Tryz.prog 59 [] [aTr (nth c k).t] (aTr (nth c k).t) [] := cop_m _ _ (Nat.le_refl _) hsz
        rw [e] at hst
        have er : rMb (nth c k) = [.v (.bool false), dI (nth c k).t.k, .rows 1 ((nth c k).t.ns.map rI), .rows 3 ((nth c k).t.is.map rTr)] := by unfold rMb; rw [hd]
        (repeat' (first | ((with_reducible apply WD_id); first | (refine WD_sum ?_) | (refine WD_nxt htb (by exact rfl) ?_) | (refine WD_call (by exact rfl) ?_; first | (refine WD_c0 (has_m _ _) ?_) | (refine WD_c0 (copX_m) ?_)) | (refine WD_idx htb ?_) | (refine WD_ap htb ?_)) | (refine ct ?_) | (with_reducible apply WA_block)))
        refine ⟨hk', trivial, ?_⟩
        rw [hst, List.map_append, List.map_cons, List.map_nil, er]
        (exact LeV [(60, 38)])
  · have t1 : decide ((k : Int) < (c.length : Int)) = false := by simp; omega
    obtain rfl : k = c.length := by omega
    (repeat' (first | ((with_reducible apply WD_id); first | (refine WD_sum ?_) | (refine WD_nxt htb (by exact rfl) ?_) | (refine WD_idx htb ?_) | (refine WD_ap htb ?_)) | (refine ct ?_) | (with_reducible apply WA_block)))
    (exact glV [(4, .ptr 4 0)] [(4, .box 27 (cellsOf (aCf (delC c s))))] (LeV []))
end Go.Proofs.YtdhogcklnehdhaaGreatDoor
/- Plain definitions: sets in their order, intersection, dispensable sets, intact members. No program stands here. -/
namespace Go.Proofs.YtdhogcklnehdhaaGreatDoor
set_option linter.unusedSimpArgs false
set_option linter.unusedVariables false
set_option linter.unnecessarySimpa false
set_option linter.unusedSectionVars false
set_option maxRecDepth 100000
open Go.RowKit Go.Proofs.Grow Go.Sort
def popN (s : Nat) : Nat := s % 2 + s / 2 % 2 + s / 4 % 2 + s / 8 % 2 + s / 16 % 2 + s / 32 % 2 + s / 64 % 2 + s / 128 % 2 + s / 256 % 2 + s / 512 % 2
theorem pop_bd {s n : Nat} (hn : n ≤ 10) (h : s < 2 ^ n) : popN s ≤ n := by
  unfold popN
  obtain rfl | rfl | rfl | rfl | rfl | rfl | rfl | rfl | rfl | rfl | rfl : n = 0 ∨ n = 1 ∨ n = 2 ∨ n = 3 ∨ n = 4 ∨ n = 5 ∨ n = 6 ∨ n = 7 ∨ n = 8 ∨ n = 9 ∨ n = 10 := by omega
  all_goals (simp only [Nat.reducePow] at h; omega)
theorem pop_first {k : Nat} (h : k ≤ 9) : popN (2 ^ (k + 1) - 1) = k + 1 := by
  obtain rfl | rfl | rfl | rfl | rfl | rfl | rfl | rfl | rfl | rfl : k = 0 ∨ k = 1 ∨ k = 2 ∨ k = 3 ∨ k = 4 ∨ k = 5 ∨ k = 6 ∨ k = 7 ∨ k = 8 ∨ k = 9 := by omega
  all_goals decide
/-- The next set of the same size. -/
def nxS (size : Nat) : Nat → Nat → Option Nat
  | 0, _ => none
  | f + 1, t => if popN t = size then some t else nxS size f (t + 1)
def nextF (s n : Nat) : Option Nat := match nxS (popN s) (2 ^ n - (s + 1)) (s + 1) with
  | some t => some t
  | none => if popN s = n then none else some (2 ^ (popN s + 1) - 1)
theorem nxS_some {size : Nat} : ∀ {f t u : Nat}, nxS size f t = some u → t ≤ u ∧ u < t + f ∧ popN u = size
  | 0, t, u, h => by cases h
  | f + 1, t, u, h => by
    unfold nxS at h
    split at h
    · rename_i hp; obtain rfl := Option.some.inj h; exact ⟨Nat.le_refl _, by omega, hp⟩
    · have := nxS_some h; omega
def muN (s : Nat) : Nat := (10 - popN s) * 1024 + (1023 - s)
theorem two_le {n : Nat} (hn : n ≤ 10) : 2 ^ n ≤ 1024 := Nat.pow_le_pow_right (n := 2) (by decide) hn
theorem next_some {s n t : Nat} (hn : n ≤ 10) (hs : s < 2 ^ n) (h : nextF s n = some t) : t < 2 ^ n ∧ muN t < muN s := by
  have h2 := two_le hn
  have hp := pop_bd hn hs
  unfold nextF at h
  split at h
  · rename_i u hu
    obtain rfl := Option.some.inj h
    obtain ⟨h1, h3, h4⟩ := nxS_some hu
    refine ⟨by omega, ?_⟩
    unfold muN; rw [h4]; omega
  · split at h
    · cases h
    · rename_i hne
      obtain rfl := Option.some.inj h
      have h5 : popN s + 1 ≤ n := by omega
      have h6 := pop_first (k := popN s) (by omega)
      have h7 : 2 ^ (popN s + 1) ≤ 2 ^ n := Nat.pow_le_pow_right (n := 2) (by decide) h5
      have h8 : 0 < 2 ^ (popN s + 1) := Nat.pow_pos (by decide)
      refine ⟨by omega, ?_⟩
      unfold muN; rw [h6]; omega
abbrev memN (c : List Mb) : Nat := 2 ^ c.length - 1
theorem mem_lt {c : List Mb} (h : c.length ≤ 10) : memN c < 1024 := by
  show 2 ^ c.length - 1 < 1024
  have := two_le h; have : 0 < 2 ^ c.length := Nat.pow_pos (by decide); omega
theorem mem_bit (c : List Mb) (k : Nat) : (memN c).testBit k = decide (k < c.length) := Nat.testBit_two_pow_sub_one _ _
/-- The first quorum for which there is a disjoint one, and the greatest one of these. -/
def fndN (c : List Mb) (s : Nat) : Nat × Nat :=
  if quoN c s = true ∧ (greatN c (andn (memN c) s)).1 ≠ 0 then (s, (greatN c (andn (memN c) s)).1)
  else match nextF s c.length with
    | none => (0, 0)
    | some t => if _h : muN t < muN s then fndN c t else (0, 0)
termination_by muN s
end Go.Proofs.YtdhogcklnehdhaaGreatDoor
