/- Contracts of the functions on sets of nodes and quorums. -/
import Derived.Test.YtkjpnmodlmlhdaaGreatDoorQAE
namespace Go.Proofs.YtkjpnmodlmlhdaaGreatDoor
set_option linter.unusedSimpArgs false
set_option linter.unusedVariables false
set_option linter.unnecessarySimpa false
set_option linter.unusedSectionVars false
set_option maxRecDepth 100000
open Go Go.RowKit Go.Am Go.Proofs.Grow
section
variable {o : Oper} {t t' : TypeId} {x y : Operand} {T : Nat → Option AV} {M : Nat → Option AO} {a b : Nat}
theorem bandN_step (ho : o.op = .binOp .and t x y t') (hx : evA T x = some (vI (a : Int))) (hy : evA T y = some (vI (b : Int))) (ha : a < 4611686018427387904 := by exact num) (hb : b < 4611686018427387904 := by exact num) : StepOK Tryz.prog o T M ⟨vI ((a &&& b : Nat) : Int), [], []⟩ := by
  rw [← band_nat ha hb]; exact band_step ho hx hy
theorem borN_step (ho : o.op = .binOp .or t x y t') (hx : evA T x = some (vI (a : Int))) (hy : evA T y = some (vI (b : Int))) (ha : a < 4611686018427387904 := by exact num) (hb : b < 4611686018427387904 := by exact num) : StepOK Tryz.prog o T M ⟨vI ((a ||| b : Nat) : Int), [], []⟩ := by
  rw [← bor_nat ha hb]; exact bor_step ho hx hy
theorem bnotN_step (ho : o.op = .binOp .andNot t x y t') (hx : evA T x = some (vI (a : Int))) (hy : evA T y = some (vI (b : Int))) (ha : a < 4611686018427387904 := by exact num) (hb : b < 4611686018427387904 := by exact num) : StepOK Tryz.prog o T M ⟨vI ((andn a b : Nat) : Int), [], []⟩ := by
  rw [← bnot_nat ha hb]; exact bnot_step ho hx hy
theorem shlN_step (ho : o.op = .binOp .shl t x y t') (hx : evA T x = some (vI 1)) (hy : evA T y = some (vI (b : Int))) (h0 : b ≤ 61 := by exact num) : StepOK Tryz.prog o T M ⟨vI ((2 ^ b : Nat) : Int), [], []⟩ := by
  rw [← shl_nat h0]; exact shl_step ho hx hy (by omega)
end
def rN (n : Nat) : List D := [dI (n : Int)]
abbrev lN (l : List Nat) : AV := .d (.rows 1 (l.map rN))
theorem nodes_m (s : Nat) (hs : s < 1024) : FnM Tryz.prog 124 [] [vI (s : Int)] (lN (nodesN s)) [] := by
  refine FnM.of htb Tryz.func124 rfl rfl rfl rfl rfl fun cx hN h0 => ?_
  (repeat' (first | (refine nx ?_) | ((with_reducible apply WD_id); first | (refine WD_clr htb ?_))))
  refine WA_le (Le_nilT 60 3 3 1 rfl rfl) ?_
  (refine WA_forV (10) [5, 3] [60] (fun k => [(5, vI k), (3, .own 60)]) (fun k => [(60, .arr 3 1 ((nodesTo s k).map rN))]) (fun k => True) ?h0 ?_)
  case h0 => trivial
  intro k hk _
  have hln := nodesTo_len s k
  rcases Nat.lt_or_ge k 10 with hk' | hk'
  · have t1 : decide ((k : Int) < 10) = true := by simp; omega
    have hst := nodesTo_succ s k
    have hh := has_nat hs hk'
    cases hx : s.testBit k with
    | true =>
      rw [hx] at hh
      rw [hx, if_pos rfl] at hst
      (repeat' (first | (refine nx ?_) | (refine WD_call (by exact rfl) ?_; first | (refine WD_c0 (has_m _ _) ?_)) | ((with_reducible apply WD_id); first | (refine WD_clr htb ?_))))
      refine ⟨hk', trivial, ?_⟩
      rw [hst, List.map_append]
      (exact LeV [(60, 14)])
    | false =>
      rw [hx] at hh
      rw [hx, if_neg (by simp)] at hst
      (repeat' (first | (refine nx ?_) | (refine WD_call (by exact rfl) ?_; first | (refine WD_c0 (has_m _ _) ?_)) | ((with_reducible apply WD_id); first | (refine WD_clr htb ?_))))
      refine ⟨hk', trivial, ?_⟩
      rw [hst]
      (exact LeV [])
  · have t1 : decide ((k : Int) < 10) = false := by simp; omega
    obtain rfl : k = 10 := by omega
    (repeat' (first | (refine nx ?_) | ((with_reducible apply WD_id); first | (refine WD_clr htb ?_))))
    (exact glV [(2, lN (nodesN s))] [] (LeV []))
def rMb (m : Mb) : List D := [.v (.bool m.decl), dI m.t.k, .rows 1 (m.t.ns.map rI), .rows 3 (m.t.is.map rTr)]
abbrev lMb (c : List Mb) : AV := .d (.rows 4 (c.map rMb))
abbrev aCf (c : List Mb) : AV := .agg [lMb c]
/-- Few members, with small trusts. -/
structure OkC (c : List Mb) : Prop where
  len : c.length ≤ 10
  siz : ∀ k, k < c.length → sizT (nth c k).t ≤ 1000
theorem decl_m (c : List Mb) (hc : OkC c) : FnM Tryz.prog 147 [] [aCf c] (vI (declN c : Nat)) [] := by
  have hl := hc.len
  refine FnM.of htb Tryz.func147 rfl rfl rfl rfl rfl fun cx hN h0 => ?_
  (repeat' (first | (refine nx ?_) | ((with_reducible apply WD_id); first | (refine WD_clr htb ?_))))
  (refine WA_forV (c.length) [9, 3] [] (fun k => [(9, vI k), (3, vI (declTo c k : Nat))]) (fun k => []) (fun k => True) ?h0 ?_)
  case h0 => trivial
  intro k hk _
  have hd := declTo_lt c k (by omega)
  rcases Nat.lt_or_ge k c.length with hk' | hk'
  · have t1 : decide ((k : Int) < (c.length : Int)) = true := by simp; omega
    have t2 : decide ((k : Int) < 10) = true := by simp; omega
    have hp := pow_lt (k := k) (by omega)
    cases hx : (nth c k).decl with
    | true =>
      have hst : declTo c (k + 1) = declTo c k ||| 2 ^ k := by rw [declTo, if_pos hx]
      (repeat' (first | ((with_reducible apply WD_id); first | (refine WD_eq (shlN_step rfl rfl rfl) ?_) | (refine WD_eq (borN_step rfl rfl rfl) ?_)) | (refine nx ?_) | ((with_reducible apply WD_id); first | (refine WD_clr htb ?_))))
      refine ⟨hk', trivial, ?_⟩
      rw [hst]
      (exact LeV [])
    | false =>
      have hst : declTo c (k + 1) = declTo c k := by rw [declTo, if_neg (by simp [hx])]
      (repeat' (first | (refine nx ?_) | ((with_reducible apply WD_id); first | (refine WD_clr htb ?_))))
      refine ⟨hk', trivial, ?_⟩
      rw [hst]
      (exact LeV [])
  · have t1 : decide ((k : Int) < (c.length : Int)) = false := by simp; omega
    obtain rfl : k = c.length := by omega
    (repeat' (first | (refine nx ?_) | ((with_reducible apply WD_id); first | (refine WD_clr htb ?_))))
    exact gE (.inr rfl) rfl rfl trivial
theorem content_m (c : List Mb) (k s : Nat) (hc : OkC c) (hk : k < c.length) : FnM Tryz.prog 148 [] [aCf c, vI (k : Int), vI (s : Int)] (vB (satT s (nth c k).t)) [] := by
  have hx : hT (nth c k).t ≤ hT (nth c k).t ∧ sizT (nth c k).t ≤ 1000 := ⟨Nat.le_refl _, hc.siz k hk⟩
  have satR_m : ∀ (s : Int) (x : Tr) (h : hT x ≤ hT (nth c k).t ∧ sizT x ≤ 1000), FnM Tryz.prog 191 [] [aTr x, vI s] (vB (satT s x)) [] := fun s x h => sat_m _ s x h.1 h.2
  refine FnM.of htb Tryz.func148 rfl rfl rfl rfl rfl fun cx hN h0 => ?_
  (repeat' (first | (refine nx ?_) | (refine WD_call (by exact rfl) ?_; first | (refine WD_c0 (satR_m _ _ ?_) ?_; (exact hyp))) | ((with_reducible apply WD_id); first | (refine WD_clr htb ?_))))
  exact gE (.inr rfl) rfl rfl trivial
theorem inside_m (c : List Mb) (s : Nat) (hc : OkC c) (hs : s < 1024) : FnM Tryz.prog 105 [] [aCf c, vI (s : Int)] (vB (andn s (declN c) == 0)) [] := by
  have hd := declN_lt hc.len
  refine FnM.of htb Tryz.func105 rfl rfl rfl rfl rfl fun cx hN h0 => ?_
  (repeat' (first | ((with_reducible apply WD_id); first | (refine WD_eq (bnotN_step rfl rfl rfl) ?_)) | (refine nx ?_) | (refine WD_call (by exact rfl) ?_; first | (refine WD_c0 (decl_m _ ?_) ?_; (exact hyp))) | ((with_reducible apply WD_id); first | (refine WD_clr htb ?_))))
  exact gE (.inr rfl) rfl (congrArg vB (by rw [Bool.eq_iff_iff]; first | (simp; done) | (simp; omega))) trivial
theorem unhL_step {c : List Mb} {s : Nat} {l : List Nat} {k : Nat} (h : k < l.length) : unhL c s (l.drop k) = if satT s (nth c (nth l k)).t = true then unhL c s (l.drop (k + 1)) else some (nth l k) := by
  rw [drop_nth l k h, unhL]
theorem unh_m (c : List Mb) (s : Nat) (hc : OkC c) (hs : s < 1024) (hin : ∀ k, s.testBit k = true → k < c.length) : FnM Tryz.prog 106 [] [aCf c, vI (s : Int)] (.tup [vI (uhR (unhN c s)).1, vB (uhR (unhN c s)).2]) [] := by
  refine FnM.of htb Tryz.func106 rfl rfl rfl rfl rfl fun cx hN h0 => ?_
  (repeat' (first | (refine nx ?_) | (refine WD_call (by exact rfl) ?_; first | (refine WD_c0 (nodes_m _ ?_) ?_; (exact hyp))) | ((with_reducible apply WD_id); first | (refine WD_clr htb ?_))))
  (refine WA_forV ((nodesN s).length) [11] [] (fun k => [(11, vI k)]) (fun k => []) (fun k => unhL c s (nodesN s) = unhL c s ((nodesN s).drop k)) ?h0 ?_)
  case h0 => rfl
  intro k hk hI
  have hln := nodesTo_len s 10
  rcases Nat.lt_or_ge k (nodesN s).length with hk' | hk'
  · have t1 : decide ((k : Int) < ((nodesN s).length : Int)) = true := by simp only [decide_eq_true_eq]; omega
    have hb := (mem_nodes hs).1 (nth_mem _ k hk')
    have hkc := hin _ hb
    have hk10 : k < 10 := Nat.lt_of_lt_of_le hk' hln
    rw [unhL_step hk'] at hI
    cases hx : satT s (nth c (nth (nodesN s) k)).t with
    | true =>
      rw [hx, if_pos rfl] at hI
      have t2 : (!satT s (nth c (nth (nodesN s) k)).t) = false := by rw [hx]; rfl
      (repeat' (first | (refine nx ?_) | (refine WD_call (by exact rfl) ?_; first | (refine WD_c0 (content_m _ _ _ ?_ ?_) ?_; (exact hyp); (exact hyp))) | ((with_reducible apply WD_id); first | (refine WD_clr htb ?_))))
      refine ⟨hk', hI, ?_⟩
      (exact LeV [])
    | false =>
      rw [hx, if_neg (by simp)] at hI
      have t2 : (!satT s (nth c (nth (nodesN s) k)).t) = true := by rw [hx]; rfl
      rw [show unhN c s = some (nth (nodesN s) k) from hI]
      (repeat' (first | (refine nx ?_) | (refine WD_call (by exact rfl) ?_; first | (refine WD_c0 (content_m _ _ _ ?_ ?_) ?_; (exact hyp); (exact hyp))) | ((with_reducible apply WD_id); first | (refine WD_clr htb ?_))))
      exact gE (.inr rfl) rfl rfl trivial
  · have t1 : decide ((k : Int) < ((nodesN s).length : Int)) = false := by simp only [decide_eq_false_iff_not]; omega
    rw [List.drop_eq_nil_of_le hk'] at hI
    rw [show unhN c s = none from hI]
    (repeat' (first | (refine nx ?_) | ((with_reducible apply WD_id); first | (refine WD_clr htb ?_))))
    exact gE (.inr rfl) rfl rfl trivial
theorem quo_m (c : List Mb) (s : Nat) (hc : OkC c) (hs : s < 1024) : FnM Tryz.prog 70 [] [aCf c, vI (s : Int)] (vB (quoN c s)) [] := by
  have hv := valid_nat hs
  have t0 : (!validS (s : Int)) = false := by rw [hv]; rfl
  refine FnM.of htb Tryz.func70 rfl rfl rfl rfl rfl fun cx hN h0 => ?_
  by_cases h1 : s = 0
  · have t1 : ((s : Int) == 0) = true := by simp [h1]
    (repeat' (first | (refine nx ?_) | (refine WD_call (by exact rfl) ?_; first | (refine WD_c0 (valid_m _) ?_)) | ((with_reducible apply WD_id); first | (refine WD_clr htb ?_))))
    exact gE (.inr rfl) rfl (congrArg vB (by simp [quoN, h1])) trivial
  have t1 : ((s : Int) == 0) = false := by simp [h1]
  cases h2 : (andn s (declN c) == 0) with
  | false =>
    have t2 : (!(andn s (declN c) == 0)) = true := by rw [h2]; rfl
    (repeat' (first | (refine nx ?_) | (refine WD_call (by exact rfl) ?_; first | (refine WD_c0 (valid_m _) ?_) | (refine WD_c0 (inside_m _ _ ?_ ?_) ?_; (exact hyp); (exact hyp))) | ((with_reducible apply WD_id); first | (refine WD_clr htb ?_))))
    exact gE (.inr rfl) rfl (congrArg vB (by simp [quoN, h2])) trivial
  | true =>
    have t2 : (!(andn s (declN c) == 0)) = false := by rw [h2]; rfl
    have hin : ∀ k, s.testBit k = true → k < c.length := fun k hk => by
      have := sub_bit (by simpa using h2) hk
      rw [declTo_bit] at this
      simp at this; exact this.1
    (repeat' (first | (refine nx ?_) | (refine WD_call (by exact rfl) ?_; first | (refine WD_c0 (valid_m _) ?_) | (refine WD_c0 (inside_m _ _ ?_ ?_) ?_; (exact hyp); (exact hyp)) | (refine WD_c0 (unh_m _ _ ?_ ?_ ?_) ?_; (exact hyp); (exact hyp); (exact hyp))) | ((with_reducible apply WD_id); first | (refine WD_clr htb ?_))))
    exact gE (.inr rfl) rfl (congrArg vB (by
      have h3 : (s == 0) = false := by simpa using h1
      unfold quoN; rw [h2, h3]
      cases unhN c s <;> rfl)) trivial
end Go.Proofs.YtkjpnmodlmlhdaaGreatDoor
/- Contracts: configurations that are right; who is blocked; what may be accepted. -/
namespace Go.Proofs.YtkjpnmodlmlhdaaGreatDoor
set_option linter.unusedSimpArgs false
set_option linter.unusedVariables false
set_option linter.unnecessarySimpa false
set_option linter.unusedSectionVars false
set_option maxRecDepth 100000
open Go Go.RowKit Go.Am Go.Proofs.Grow
section
variable {o : Oper} {t t' : TypeId} {x y : Operand} {T : Nat → Option AV} {M : Nat → Option AO} {b : Nat}
end
abbrev aMb (m : Mb) : AV := .agg [vB m.decl, vI m.t.k, lI m.t.ns, lTr m.t.is]
def blankT (t : Tr) : Bool := (t.k == 0) && ((t.ns.length == 0) && (t.is.length == 0))
theorem blank_m (t : Tr) (hs : sizT t ≤ 1000) : FnM Tryz.prog 99 [] [aTr t] (vB (blankT t)) [] := by
  refine FnM.of htb Tryz.func99 rfl rfl rfl rfl rfl fun cx hN h0 => ?_
  cases h1 : (t.k == 0) with
  | false =>
    (repeat' (first | (refine nx ?_) | ((with_reducible apply WD_id); first | (refine WD_clr htb ?_))))
    exact gE (.inr rfl) rfl (congrArg vB (by simp [blankT, h1])) trivial
  | true =>
    cases h2 : (((t.ns.length : Int)) == 0) with
    | false =>
      (repeat' (first | (refine nx ?_) | ((with_reducible apply WD_id); first | (refine WD_clr htb ?_))))
      exact gE (.inr rfl) rfl (congrArg vB (by simp at h2; simp [blankT, h1, h2])) trivial
    | true =>
      (repeat' (first | (refine nx ?_) | ((with_reducible apply WD_id); first | (refine WD_clr htb ?_))))
      exact gE (.inr rfl) rfl (congrArg vB (by
        have e : (((t.is.length : Int)) == 0) = (t.is.length == 0) := by rw [Bool.eq_iff_iff]; simp
        have h3 : t.ns.length = 0 := by simpa using h2
        simp [blankT, h1, h3, e])) trivial
def membF (m : Mb) (n : Nat) : Int := if m.decl = false then (if blankT m.t = true then 0 else 1) else if chkT m.t ≠ 0 then chkT m.t else if useT m.t ≥ ((2 ^ n : Nat) : Int) then 5 else 0
theorem memb_m (m : Mb) (n : Nat) (hs : sizT m.t ≤ 1000) (hn : n ≤ 10) : FnM Tryz.prog 62 [] [aMb m, vI (n : Int)] (vI (membF m n)) [] := by
  have useS_m : FnM Tryz.prog 30 [] [aTr m.t] (vI (useT m.t)) [] := use_m _ m.t (Nat.le_refl _) hs
  refine FnM.of htb Tryz.func62 rfl rfl rfl rfl rfl fun cx hN h0 => ?_
  unfold membF
  cases hd : m.decl with
  | false =>
    have t0 : (!m.decl) = true := by rw [hd]; rfl
    rw [if_pos rfl]
    cases hb : blankT m.t with
    | false =>
      have t1 : (!blankT m.t) = true := by rw [hb]; rfl
      (repeat' (first | (refine nx ?_) | (refine WD_call (by exact rfl) ?_; first | (refine WD_c0 (blank_m _ ?_) ?_; (exact hyp))) | ((with_reducible apply WD_id); first | (refine WD_clr htb ?_))))
      exact gE (.inr rfl) rfl rfl trivial
    | true =>
      have t1 : (!blankT m.t) = false := by rw [hb]; rfl
      (repeat' (first | (refine nx ?_) | (refine WD_call (by exact rfl) ?_; first | (refine WD_c0 (blank_m _ ?_) ?_; (exact hyp))) | ((with_reducible apply WD_id); first | (refine WD_clr htb ?_))))
      exact gE (.inr rfl) rfl rfl trivial
  | true =>
    have t0 : (!m.decl) = false := by rw [hd]; rfl
    rw [if_neg (by simp)]
    by_cases hc : chkT m.t ≠ 0
    · rw [if_pos hc]
      have t1 : (chkT m.t != 0) = true := by simpa using hc
      (repeat' (first | (refine nx ?_) | (refine WD_call (by exact rfl) ?_; first | (refine WD_c0 (chk3_m _ ?_) ?_; (exact hyp))) | ((with_reducible apply WD_id); first | (refine WD_clr htb ?_))))
      exact gE (.inr rfl) rfl rfl trivial
    · rw [if_neg hc]
      have t1 : (chkT m.t != 0) = false := by simpa using hc
      have hn61 : n ≤ 61 := by omega
      by_cases hu : useT m.t ≥ ((2 ^ n : Nat) : Int)
      · rw [if_pos hu]
        have t2 : decide (useT m.t ≥ ((2 ^ n : Nat) : Int)) = true := by simpa using hu
        (repeat' (first | ((with_reducible apply WD_id); first | (refine WD_eq (shlN_step rfl rfl rfl) ?_)) | (refine nx ?_) | (refine WD_call (by exact rfl) ?_; first | (refine WD_c0 (chk3_m _ ?_) ?_; (exact hyp)) | (refine WD_c0 (useS_m) ?_)) | ((with_reducible apply WD_id); first | (refine WD_clr htb ?_))))
        exact gE (.inr rfl) rfl rfl trivial
      · rw [if_neg hu]
        have t2 : decide (useT m.t ≥ ((2 ^ n : Nat) : Int)) = false := by simpa using hu
        (repeat' (first | ((with_reducible apply WD_id); first | (refine WD_eq (shlN_step rfl rfl rfl) ?_)) | (refine nx ?_) | (refine WD_call (by exact rfl) ?_; first | (refine WD_c0 (chk3_m _ ?_) ?_; (exact hyp)) | (refine WD_c0 (useS_m) ?_)) | ((with_reducible apply WD_id); first | (refine WD_clr htb ?_))))
        exact gE (.inr rfl) rfl rfl trivial
def valL (n : Nat) : List Mb → Int
  | [] => 0
  | m :: r => if membF m n ≠ 0 then membF m n else valL n r
def valC (c : List Mb) : Int := valL c.length c
theorem valL_step {n : Nat} {l : List Mb} {k : Nat} (h : k < l.length) : valL n (l.drop k) = if membF (nth l k) n ≠ 0 then membF (nth l k) n else valL n (l.drop (k + 1)) := by
  rw [drop_nth l k h, valL]
theorem valC_m (c : List Mb) (hc : OkC c) : FnM Tryz.prog 35 [] [aCf c] (vI (valC c)) [] := by
  have hl := hc.len
  have t0 : decide ((c.length : Int) > 10) = false := by simp; omega
  refine FnM.of htb Tryz.func35 rfl rfl rfl rfl rfl fun cx hN h0 => ?_
  (repeat' (first | (refine nx ?_) | ((with_reducible apply WD_id); first | (refine WD_clr htb ?_))))
  (refine WA_forV (c.length) [13] [] (fun k => [(13, vI k)]) (fun k => []) (fun k => valL c.length c = valL c.length (c.drop k)) ?h0 ?_)
  case h0 => rfl
  intro k hk hI
  rcases Nat.lt_or_ge k c.length with hk' | hk'
  · have t1 : decide ((k : Int) < (c.length : Int)) = true := by simp; omega
    have hs := hc.siz k hk'
    have membS_m : FnM Tryz.prog 62 [] [aMb (nth c k), vI ((c.map rMb).length : Int)] (vI (membF (nth c k) c.length)) [] := by rw [List.length_map]; exact memb_m _ _ hs hl
    rw [valL_step hk'] at hI
    by_cases hy : membF (nth c k) c.length ≠ 0
    · rw [if_pos hy] at hI
      have t2 : (membF (nth c k) c.length != 0) = true := by simpa using hy
      (repeat' (first | (refine nx ?_) | (refine WD_call (by exact rfl) ?_; first | (refine WD_c0 (membS_m) ?_)) | ((with_reducible apply WD_id); first | (refine WD_clr htb ?_))))
      exact gE (.inr rfl) rfl (congrArg vI hI.symm) trivial
    · rw [if_neg hy] at hI
      have t2 : (membF (nth c k) c.length != 0) = false := by simpa using hy
      (repeat' (first | (refine nx ?_) | (refine WD_call (by exact rfl) ?_; first | (refine WD_c0 (membS_m) ?_)) | ((with_reducible apply WD_id); first | (refine WD_clr htb ?_))))
      refine ⟨hk', hI, ?_⟩
      (exact LeV [])
  · have t1 : decide ((k : Int) < (c.length : Int)) = false := by simp; omega
    rw [List.drop_eq_nil_of_le hk'] at hI
    (repeat' (first | (refine nx ?_) | ((with_reducible apply WD_id); first | (refine WD_clr htb ?_))))
    exact gE (.inr rfl) rfl (congrArg vI hI.symm) trivial
end Go.Proofs.YtkjpnmodlmlhdaaGreatDoor
/- Plain: deletion; the abstract view with nil slices inside of rows. -/
namespace Go.Am
set_option linter.unusedSimpArgs false
set_option linter.unusedVariables false
set_option linter.unnecessarySimpa false
set_option linter.unusedSectionVars false
set_option maxRecDepth 100000
open Go Go.RowKit Go.Proofs.Grow
/-- A nil slice inside of data read as an empty one. -/
inductive DN : D → D → Prop
  | refl (x : D) : DN x x
  | nil (sz : Nat) : DN (.v (.slice none 0 0)) (.rows sz [])
  | rows (sz : Nat) (rs rs' : List (List D)) (hl : rs.length = rs'.length) (hr : ∀ (i : Nat) (r r' : List D), rs[i]? = some r → rs'[i]? = some r' → r.length = r'.length)
      (h : ∀ (i : Nat) (r r' : List D) (j : Nat) (c c' : D), rs[i]? = some r → rs'[i]? = some r' → r[j]? = some c → r'[j]? = some c' → DN c c') : DN (.rows sz rs) (.rows sz rs')
theorem VD.norm {H : Nat → Prop} {w : World} {x y : D} (h : DN x y) : ∀ {v : Value}, VD H w x v → VD H w y v := by
  induction h with
  | refl x => exact fun h => h
  | nil sz => intro v h; cases h; exact .nil sz none 0 fun _ => rfl
  | rows sz rs rs' hl hr _ ih =>
    intro v h
    cases h with
    | nil _ a cap hc =>
      obtain rfl : rs' = [] := List.eq_nil_of_length_eq_zero (by simpa using hl.symm)
      exact .nil sz a cap hc
    | rows _ _ b off cap vs hne hcap hlen hb hlt hsz hcell hone hval =>
      have get : ∀ (i : Nat) (r' : List D), rs'[i]? = some r' → ∃ r, rs[i]? = some r ∧ r.length = r'.length := fun i r' h => by
        have hi : i < rs.length := by rw [hl]; exact (List.getElem?_eq_some_iff.1 h).1
        have e : rs[i]? = some rs[i] := List.getElem?_eq_getElem hi
        exact ⟨_, e, hr i _ r' e h⟩
      have gc : ∀ (i : Nat) (r' : List D) (j : Nat) (c' : D), rs'[i]? = some r' → r'[j]? = some c' → ∃ r c, rs[i]? = some r ∧ r[j]? = some c := fun i r' j c' h1 h2 => by
        obtain ⟨r, e1, e2⟩ := get i r' h1
        have hj : j < r.length := by rw [e2]; exact (List.getElem?_eq_some_iff.1 h2).1
        exact ⟨r, r[j], e1, List.getElem?_eq_getElem hj⟩
      rw [hl]
      refine .rows sz rs' b off cap vs (fun e => hne (List.eq_nil_of_length_eq_zero (by rw [hl, e]; rfl))) (by omega) (by omega) hb hlt (fun i r' h1 => ?_) (fun i r' j c' h1 h2 => ?_) (fun i r' j c' h1 h2 => ?_) (fun i r' j c' h1 h2 => ?_)
      · obtain ⟨r, e1, e2⟩ := get i r' h1; rw [← e2]; exact hsz i r e1
      · obtain ⟨r, c, e1, e2⟩ := gc i r' j c' h1 h2; exact hcell i r j c e1 e2
      · obtain ⟨r, c, e1, e2⟩ := gc i r' j c' h1 h2; exact hone i r j c e1 e2
      · obtain ⟨r, c, e1, e2⟩ := gc i r' j c' h1 h2; exact ih i r r' j c c' e1 h1 e2 h2 (hval i r j c e1 e2)
def DNs (r r' : List D) : Prop := r.length = r'.length ∧ ∀ (j : Nat) (c c' : D), r[j]? = some c → r'[j]? = some c' → DN c c'
theorem DNs.nil : DNs [] [] := ⟨rfl, fun j c c' h => by simp at h⟩
theorem DNs.cons {c c' : D} {r r' : List D} (h : DN c c') (k : DNs r r') : DNs (c :: r) (c' :: r') := ⟨by simp [k.1], fun j x y hx hy => by
  cases j with
  | zero => cases hx; cases hy; exact h
  | succ j => exact k.2 j x y hx hy⟩
theorem DNs.refl (r : List D) : DNs r r := ⟨rfl, fun j c c' h h' => by rw [h] at h'; cases h'; exact .refl _⟩
theorem DNs.append {a a' b b' : List D} (h : DNs a a') (k : DNs b b') : DNs (a ++ b) (a' ++ b') := by
  induction a generalizing a' with
  | nil => obtain rfl : a' = [] := List.eq_nil_of_length_eq_zero (by simpa using h.1.symm)
           exact k
  | cons x r ih =>
    cases a' with
    | nil => have := h.1; simp at this
    | cons y s => exact DNs.cons (h.2 0 x y rfl rfl) (ih ⟨by have := h.1; simpa using this, fun j c c' hc hc' => h.2 (j + 1) c c' hc hc'⟩)
theorem VDs.norm {H : Nat → Prop} {w : World} {r r' : List D} {vs : List Value} (h : DNs r r') (k : VDs H w r vs) : VDs H w r' vs := ⟨by rw [← h.1]; exact k.1, fun i c v hc hv => by
  have hi : i < r.length := by rw [h.1]; exact (List.getElem?_eq_some_iff.1 hc).1
  have e : r[i]? = some r[i] := List.getElem?_eq_getElem hi
  exact (k.2 i _ v e hv).norm (h.2 i _ c e hc)⟩
/-- The last row of a slice of the call's own, its nil slices read as empty ones. -/
theorem Le_norm {cx : Cx} {T : List (Nat × AV)} {M : List (Nat × AO)} (g : Nat) {ty sz : Nat} {rs : List (List D)} {r r' : List D} (hg : lk M g = some (.arr ty sz (rs ++ [r]))) (h : DNs r r') : Le cx ⟨T, M⟩ ⟨T, (g, .arr ty sz (rs ++ [r'])) :: M⟩ := by
  rintro a w ⟨μ, hI⟩
  refine ⟨μ, ?_⟩
  rw [← show upM (lk M) [(g, AO.arr ty sz (rs ++ [r']))] = lk ((g, .arr ty sz (rs ++ [r'])) :: M) from upM_cons]
  refine hI.swap hg rfl rfl fun H' hk => ?_
  obtain ⟨v, xs, g1, g2, g3, g4, g5⟩ := hI.ob g _ hg
  refine ⟨v, xs, g1, by rw [show (rs ++ [r']).length = (rs ++ [r]).length by simp]; exact g2, fun q hq => ?_, ?_, g5⟩
  · rcases List.mem_append.1 hq with hq | hq
    · exact g3 q (List.mem_append_left _ hq)
    · obtain rfl : q = r' := by simpa using hq
      rw [← h.1]; exact g3 r (by simp)
  · rw [List.flatten_append] at g4 ⊢
    refine (g4.mono hk).norm (DNs.append (DNs.refl _) ?_)
    simpa using h
end Go.Am
namespace Go.Proofs.YtkjpnmodlmlhdaaGreatDoor
open Go.RowKit Go.Proofs.Grow Go.Sort
mutual
def kbT : Tr → Nat
  | .mk k _ is => max k.natAbs (kbL is)
def kbL : List Tr → Nat
  | [] => 0
  | t :: r => max (kbT t) (kbL r)
end
end Go.Proofs.YtkjpnmodlmlhdaaGreatDoor
/- Contracts: deletion. -/
namespace Go.Proofs.YtkjpnmodlmlhdaaGreatDoor
set_option linter.unusedSimpArgs false
set_option linter.unusedVariables false
set_option linter.unnecessarySimpa false
set_option linter.unusedSectionVars false
set_option maxRecDepth 100000
open Go Go.RowKit Go.Am Go.Proofs.Grow
theorem rMb_blank : DNs [.v (.bool false), .v (.int .i64 0), .v (.slice none 0 0), .v (.slice none 0 0)] (rMb ⟨false, .mk 0 [] []⟩) :=
  DNs.cons (.refl _) (DNs.cons (.refl _) (DNs.cons (.nil 1) (DNs.cons (.nil 3) DNs.nil)))
end Go.Proofs.YtkjpnmodlmlhdaaGreatDoor
/- Plain definitions: sets in their order, intersection, dispensable sets, intact members. No program stands here. -/
namespace Go.Proofs.YtkjpnmodlmlhdaaGreatDoor
set_option linter.unusedSimpArgs false
set_option linter.unusedVariables false
set_option linter.unnecessarySimpa false
set_option linter.unusedSectionVars false
set_option maxRecDepth 100000
open Go.RowKit Go.Proofs.Grow Go.Sort
def popN (s : Nat) : Nat := s % 2 + s / 2 % 2 + s / 4 % 2 + s / 8 % 2 + s / 16 % 2 + s / 32 % 2 + s / 64 % 2 + s / 128 % 2 + s / 256 % 2 + s / 512 % 2
theorem two_le {n : Nat} (hn : n ≤ 10) : 2 ^ n ≤ 1024 := Nat.pow_le_pow_right (n := 2) (by decide) hn
abbrev memN (c : List Mb) : Nat := 2 ^ c.length - 1
theorem mem_lt {c : List Mb} (h : c.length ≤ 10) : memN c < 1024 := by
  show 2 ^ c.length - 1 < 1024
  have := two_le h; have : 0 < 2 ^ c.length := Nat.pow_pos (by decide); omega
end Go.Proofs.YtkjpnmodlmlhdaaGreatDoor
