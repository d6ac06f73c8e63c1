import Derived.Test.YtdhogcklnehdhaaGreatDoorRAM
import Derived.Test.YtdhogcklnehdhaaGreatDoorRAE
import Derived.Test.YtdhogcklnehdhaaGreatDoorRAK
import Derived.Test.YtdhogcklnehdhaaGreatDoorRAJ
namespace Go.Proofs.YtdhogcklnehdhaaGreatDoor
set_option linter.unusedSimpArgs false
set_option linter.unusedVariables false
set_option linter.unnecessarySimpa false
set_option linter.unusedSectionVars false
set_option maxRecDepth 100000
open Go Go.RowKit Go.Am Go.Proofs.Grow
section
variable {o : Oper} {t t' : TypeId} {x y : Operand} {T : Nat → Option AV} {M : Nat → Option AO}
theorem neBw_step {a b : Bool} (ho : o.op = .binOp .neq 4 x y t') (hx : evA T x = some (vB a)) (hy : evA T y = some (vB b)) : StepOK Tryz.prog o T M ⟨vB (a != b), [], []⟩ :=
  step_read [] fun cx μ T' M' ac w h hT _ => by
    have h1 := (h.ev (x := x) hT (by simp [ho, Op.operands]) hx).val
    have h2 := (h.ev (x := y) hT (by simp [ho, Op.operands]) hy).val
    refine ⟨.bool (a != b), ?_, .d (.v _)⟩
    simp only [execOp, ho, h1, h2]
    cases a <;> cases b <;> simp [eqGuard, go_sem]
end
theorem has_nm {s k : Nat} (hs : s < 1024) (hk : k < 10) : FnM Tryz.prog 57 [] [vI (s : Int), vI (k : Int)] (vB (s.testBit k)) [] := by
  have := has_m (s : Int) (k : Int)
  rw [has_nat hs hk] at this
  exact this
theorem ask_facts {n : Nat} {m : Mt} {a b : Nat} (h : MtOK n m) (ha : a < n) (hb : b < n) : m.il < 1024 ∧ m.st < 1024 ∧ m.il ||| m.st < 1024 ∧ a < 10 ∧ b < 10 ∧ decide ((a : Int) < 0) = false ∧ decide ((b : Int) < 0) = false ∧ decide ((a : Int) ≥ ((m.vs.length : Nat) : Int)) = false ∧ decide ((b : Int) ≥ ((m.vs.length : Nat) : Int)) = false := by
  have hn := h.n10
  have hl := h.len
  have h2 := two_le hn
  have := h.st
  have := h.il
  refine ⟨by omega, by omega, or_lt10 (by omega) (by omega), by omega, by omega, ?_, ?_, ?_, ?_⟩ <;> simp only [decide_eq_false_iff_not] <;> omega
theorem ask1_m (m : Mt) (n a b : Nat) (c : Cl) (t : Tr) (x : Ms) (h : MtOK n m) (ha : a < n) (hb : b < n) : FnM Tryz.prog 87 [] [aMt m, aPl ⟨1, (a : Int), (b : Int), c, t, x⟩] (vI (askF m ⟨1, (a : Int), (b : Int), c, t, x⟩)) [] := by
  obtain ⟨f1, f2, f3, f4, f5, f6, f7, f8, f9⟩ := ask_facts h ha hb
  have t0 : (!true) = false := rfl
  have t1 : decide ((1 : Int) < 1) = false := by decide
  have t2 : decide ((1 : Int) > 5) = false := by decide
  have t3 : isTo 1 = false := rfl
  have t4 : ((1 : Int) == 5) = false := rfl
  have hsA_m := has_nm f1 f4
  have hsB_m := has_nm f2 f4
  have e0 : askF m ⟨1, (a : Int), (b : Int), c, t, x⟩ = if (m.il.testBit a || m.st.testBit a) = true then 13 else 0 := by
    unfold askF gonB
    dsimp only
    rw [t3, if_neg (by simp), t4, if_neg (c := false = true) (by simp), Int.toNat_natCast]
    cases m.il.testBit a <;> rfl
  rw [e0]
  cases e1 : m.il.testBit a with
  | true =>
    rw [e1] at hsA_m
    have d1 : (true != ((1 : Int) == 5)) = true := by rw [t4]; rfl
    refine FnM.of htb Tryz.func87 rfl rfl rfl rfl rfl fun cx hN h0 => ?_
    (repeat' (first | ((with_reducible apply WD_id); first | (refine WD_nxt htb (by exact rfl) ?_) | (refine WD_call (by exact rfl) ?_; first | (refine WD_c0 (mval_m (n := n) _ ?_) ?_; (exact hyp)) | (refine WD_c0 (tgt_m _) ?_) | (refine WD_c0 (hsA_m) ?_) | (refine WD_c0 (hsB_m) ?_)) | (refine WD_eq (neBw_step rfl rfl rfl) ?_)) | (refine ct ?_) | (with_reducible apply WA_block)))
    exact gE (.inr rfl) rfl rfl trivial
  | false =>
    rw [e1] at hsA_m
    have d1 : (false != ((1 : Int) == 5)) = false := by rw [t4]; rfl
    cases e2 : m.st.testBit a with
    | true =>
      rw [e2] at hsB_m
      refine FnM.of htb Tryz.func87 rfl rfl rfl rfl rfl fun cx hN h0 => ?_
      (repeat' (first | ((with_reducible apply WD_id); first | (refine WD_nxt htb (by exact rfl) ?_) | (refine WD_call (by exact rfl) ?_; first | (refine WD_c0 (mval_m (n := n) _ ?_) ?_; (exact hyp)) | (refine WD_c0 (tgt_m _) ?_) | (refine WD_c0 (hsA_m) ?_) | (refine WD_c0 (hsB_m) ?_)) | (refine WD_eq (neBw_step rfl rfl rfl) ?_)) | (refine ct ?_) | (with_reducible apply WA_block)))
      exact gE (.inr rfl) rfl rfl trivial
    | false =>
      rw [e2] at hsB_m
      refine FnM.of htb Tryz.func87 rfl rfl rfl rfl rfl fun cx hN h0 => ?_
      (repeat' (first | ((with_reducible apply WD_id); first | (refine WD_nxt htb (by exact rfl) ?_) | (refine WD_call (by exact rfl) ?_; first | (refine WD_c0 (mval_m (n := n) _ ?_) ?_; (exact hyp)) | (refine WD_c0 (tgt_m _) ?_) | (refine WD_c0 (hsA_m) ?_) | (refine WD_c0 (hsB_m) ?_)) | (refine WD_eq (neBw_step rfl rfl rfl) ?_)) | (refine ct ?_) | (with_reducible apply WA_block)))
      exact gE (.inr rfl) rfl rfl trivial
theorem ask4_m (m : Mt) (n a b : Nat) (c : Cl) (t : Tr) (x : Ms) (h : MtOK n m) (ha : a < n) (hb : b < n) : FnM Tryz.prog 87 [] [aMt m, aPl ⟨4, (a : Int), (b : Int), c, t, x⟩] (vI (askF m ⟨4, (a : Int), (b : Int), c, t, x⟩)) [] := by
  obtain ⟨f1, f2, f3, f4, f5, f6, f7, f8, f9⟩ := ask_facts h ha hb
  have t0 : (!true) = false := rfl
  have t1 : decide ((4 : Int) < 1) = false := by decide
  have t2 : decide ((4 : Int) > 5) = false := by decide
  have t3 : isTo 4 = false := rfl
  have t4 : ((4 : Int) == 5) = false := rfl
  have hsA_m := has_nm f1 f4
  have hsB_m := has_nm f2 f4
  have e0 : askF m ⟨4, (a : Int), (b : Int), c, t, x⟩ = if (m.il.testBit a || m.st.testBit a) = true then 13 else 0 := by
    unfold askF gonB
    dsimp only
    rw [t3, if_neg (by simp), t4, if_neg (c := false = true) (by simp), Int.toNat_natCast]
    cases m.il.testBit a <;> rfl
  rw [e0]
  cases e1 : m.il.testBit a with
  | true =>
    rw [e1] at hsA_m
    have d1 : (true != ((4 : Int) == 5)) = true := by rw [t4]; rfl
    refine FnM.of htb Tryz.func87 rfl rfl rfl rfl rfl fun cx hN h0 => ?_
    (repeat' (first | ((with_reducible apply WD_id); first | (refine WD_nxt htb (by exact rfl) ?_) | (refine WD_call (by exact rfl) ?_; first | (refine WD_c0 (mval_m (n := n) _ ?_) ?_; (exact hyp)) | (refine WD_c0 (tgt_m _) ?_) | (refine WD_c0 (hsA_m) ?_) | (refine WD_c0 (hsB_m) ?_)) | (refine WD_eq (neBw_step rfl rfl rfl) ?_)) | (refine ct ?_) | (with_reducible apply WA_block)))
    exact gE (.inr rfl) rfl rfl trivial
  | false =>
    rw [e1] at hsA_m
    have d1 : (false != ((4 : Int) == 5)) = false := by rw [t4]; rfl
    cases e2 : m.st.testBit a with
    | true =>
      rw [e2] at hsB_m
      refine FnM.of htb Tryz.func87 rfl rfl rfl rfl rfl fun cx hN h0 => ?_
      (repeat' (first | ((with_reducible apply WD_id); first | (refine WD_nxt htb (by exact rfl) ?_) | (refine WD_call (by exact rfl) ?_; first | (refine WD_c0 (mval_m (n := n) _ ?_) ?_; (exact hyp)) | (refine WD_c0 (tgt_m _) ?_) | (refine WD_c0 (hsA_m) ?_) | (refine WD_c0 (hsB_m) ?_)) | (refine WD_eq (neBw_step rfl rfl rfl) ?_)) | (refine ct ?_) | (with_reducible apply WA_block)))
      exact gE (.inr rfl) rfl rfl trivial
    | false =>
      rw [e2] at hsB_m
      refine FnM.of htb Tryz.func87 rfl rfl rfl rfl rfl fun cx hN h0 => ?_
      (repeat' (first | ((with_reducible apply WD_id); first | (refine WD_nxt htb (by exact rfl) ?_) | (refine WD_call (by exact rfl) ?_; first | (refine WD_c0 (mval_m (n := n) _ ?_) ?_; (exact hyp)) | (refine WD_c0 (tgt_m _) ?_) | (refine WD_c0 (hsA_m) ?_) | (refine WD_c0 (hsB_m) ?_)) | (refine WD_eq (neBw_step rfl rfl rfl) ?_)) | (refine ct ?_) | (with_reducible apply WA_block)))
      exact gE (.inr rfl) rfl rfl trivial
theorem ask2_m (m : Mt) (n a b : Nat) (c : Cl) (t : Tr) (x : Ms) (h : MtOK n m) (ha : a < n) (hb : b < n) : FnM Tryz.prog 87 [] [aMt m, aPl ⟨2, (a : Int), (b : Int), c, t, x⟩] (vI (askF m ⟨2, (a : Int), (b : Int), c, t, x⟩)) [] := by
  obtain ⟨f1, f2, f3, f4, f5, f6, f7, f8, f9⟩ := ask_facts h ha hb
  have t0 : (!true) = false := rfl
  have t1 : decide ((2 : Int) < 1) = false := by decide
  have t2 : decide ((2 : Int) > 5) = false := by decide
  have t3 : isTo 2 = true := rfl
  have t4 : ((2 : Int) == 5) = false := rfl
  have hsA_m := has_nm f1 f4
  have hsB_m := has_nm f2 f4
  have hsC_m := has_nm f3 f5
  rcases Nat.decEq b a with hba | hba
  · have d0 : ((b : Int) == (a : Int)) = false := by simp; omega
    have e0 : askF m ⟨2, (a : Int), (b : Int), c, t, x⟩ = if ((m.il.testBit a != false) || (m.il ||| m.st).testBit b) = true then 13 else 0 := by
      unfold askF gonB
      dsimp only
      rw [t3, if_neg (by omega), t4, if_pos rfl, Int.toNat_natCast, Int.toNat_natCast]
    rw [e0]
    cases e1 : (m.il.testBit a != false) with
    | true =>
      have d1 : (m.il.testBit a != ((2 : Int) == 5)) = true := by rw [t4]; exact e1
      refine FnM.of htb Tryz.func87 rfl rfl rfl rfl rfl fun cx hN h0 => ?_
      (repeat' (first | ((with_reducible apply WD_id); first | (refine WD_nxt htb (by exact rfl) ?_) | (refine WD_call (by exact rfl) ?_; first | (refine WD_c0 (mval_m (n := n) _ ?_) ?_; (exact hyp)) | (refine WD_c0 (tgt_m _) ?_) | (refine WD_c0 (hsA_m) ?_) | (refine WD_c0 (hsB_m) ?_) | (refine WD_c0 (hsC_m) ?_)) | (refine WD_eq (neBw_step rfl rfl rfl) ?_) | (refine WD_eq (borN_step rfl rfl rfl) ?_) | (refine WD_t (by exact rfl) (by exact rfl) (by exact known) fun hb => ?_; rw [hb]; clear hb) | (refine WD_f (by exact rfl) (by exact rfl) (by exact known) fun hb => ?_; rw [hb]; clear hb)) | (refine ct ?_) | (with_reducible apply WA_block)))
      exact gE (.inr rfl) rfl rfl trivial
    | false =>
      have d1 : (m.il.testBit a != ((2 : Int) == 5)) = false := by rw [t4]; exact e1
      cases e2 : (m.il ||| m.st).testBit b with
      | true =>
        rw [e2] at hsC_m
        refine FnM.of htb Tryz.func87 rfl rfl rfl rfl rfl fun cx hN h0 => ?_
        (repeat' (first | ((with_reducible apply WD_id); first | (refine WD_nxt htb (by exact rfl) ?_) | (refine WD_call (by exact rfl) ?_; first | (refine WD_c0 (mval_m (n := n) _ ?_) ?_; (exact hyp)) | (refine WD_c0 (tgt_m _) ?_) | (refine WD_c0 (hsA_m) ?_) | (refine WD_c0 (hsB_m) ?_) | (refine WD_c0 (hsC_m) ?_)) | (refine WD_eq (neBw_step rfl rfl rfl) ?_) | (refine WD_eq (borN_step rfl rfl rfl) ?_) | (refine WD_t (by exact rfl) (by exact rfl) (by exact known) fun hb => ?_; rw [hb]; clear hb) | (refine WD_f (by exact rfl) (by exact rfl) (by exact known) fun hb => ?_; rw [hb]; clear hb)) | (refine ct ?_) | (with_reducible apply WA_block)))
        exact gE (.inr rfl) rfl rfl trivial
      | false =>
        rw [e2] at hsC_m
        refine FnM.of htb Tryz.func87 rfl rfl rfl rfl rfl fun cx hN h0 => ?_
        (repeat' (first | ((with_reducible apply WD_id); first | (refine WD_nxt htb (by exact rfl) ?_) | (refine WD_call (by exact rfl) ?_; first | (refine WD_c0 (mval_m (n := n) _ ?_) ?_; (exact hyp)) | (refine WD_c0 (tgt_m _) ?_) | (refine WD_c0 (hsA_m) ?_) | (refine WD_c0 (hsB_m) ?_) | (refine WD_c0 (hsC_m) ?_)) | (refine WD_eq (neBw_step rfl rfl rfl) ?_) | (refine WD_eq (borN_step rfl rfl rfl) ?_) | (refine WD_t (by exact rfl) (by exact rfl) (by exact known) fun hb => ?_; rw [hb]; clear hb) | (refine WD_f (by exact rfl) (by exact rfl) (by exact known) fun hb => ?_; rw [hb]; clear hb)) | (refine ct ?_) | (with_reducible apply WA_block)))
        exact gE (.inr rfl) rfl rfl trivial
  · subst hba
    have d0 : ((b : Int) == (b : Int)) = true := by simp
    have e0 : askF m ⟨2, (b : Int), (b : Int), c, t, x⟩ = 1 := by
      unfold askF
      dsimp only
      rw [t3, if_pos ⟨rfl, rfl⟩]
    rw [e0]
    refine FnM.of htb Tryz.func87 rfl rfl rfl rfl rfl fun cx hN h0 => ?_
    (repeat' (first | ((with_reducible apply WD_id); first | (refine WD_nxt htb (by exact rfl) ?_) | (refine WD_call (by exact rfl) ?_; first | (refine WD_c0 (mval_m (n := n) _ ?_) ?_; (exact hyp)) | (refine WD_c0 (tgt_m _) ?_) | (refine WD_c0 (hsA_m) ?_) | (refine WD_c0 (hsB_m) ?_) | (refine WD_c0 (hsC_m) ?_)) | (refine WD_eq (neBw_step rfl rfl rfl) ?_) | (refine WD_eq (borN_step rfl rfl rfl) ?_) | (refine WD_t (by exact rfl) (by exact rfl) (by exact known) fun hb => ?_; rw [hb]; clear hb) | (refine WD_f (by exact rfl) (by exact rfl) (by exact known) fun hb => ?_; rw [hb]; clear hb)) | (refine ct ?_) | (with_reducible apply WA_block)))
    exact gE (.inr rfl) rfl rfl trivial
theorem ask5_m (m : Mt) (n a b : Nat) (c : Cl) (t : Tr) (x : Ms) (h : MtOK n m) (ha : a < n) (hb : b < n) : FnM Tryz.prog 87 [] [aMt m, aPl ⟨5, (a : Int), (b : Int), c, t, x⟩] (vI (askF m ⟨5, (a : Int), (b : Int), c, t, x⟩)) [] := by
  obtain ⟨f1, f2, f3, f4, f5, f6, f7, f8, f9⟩ := ask_facts h ha hb
  have t0 : (!true) = false := rfl
  have t1 : decide ((5 : Int) < 1) = false := by decide
  have t2 : decide ((5 : Int) > 5) = false := by decide
  have t3 : isTo 5 = true := rfl
  have t4 : ((5 : Int) == 5) = true := rfl
  have hsA_m := has_nm f1 f4
  have hsB_m := has_nm f2 f4
  have hsC_m := has_nm f3 f5
  rcases Nat.decEq b a with hba | hba
  · have d0 : ((b : Int) == (a : Int)) = false := by simp; omega
    have e0 : askF m ⟨5, (a : Int), (b : Int), c, t, x⟩ = if ((m.il.testBit a != true) || (m.il ||| m.st).testBit b) = true then 13 else 0 := by
      unfold askF gonB
      dsimp only
      rw [t3, if_neg (by omega), t4, if_pos rfl, Int.toNat_natCast, Int.toNat_natCast]
    rw [e0]
    cases e1 : (m.il.testBit a != true) with
    | true =>
      have d1 : (m.il.testBit a != ((5 : Int) == 5)) = true := by rw [t4]; exact e1
      refine FnM.of htb Tryz.func87 rfl rfl rfl rfl rfl fun cx hN h0 => ?_
      (repeat' (first | ((with_reducible apply WD_id); first | (refine WD_nxt htb (by exact rfl) ?_) | (refine WD_call (by exact rfl) ?_; first | (refine WD_c0 (mval_m (n := n) _ ?_) ?_; (exact hyp)) | (refine WD_c0 (tgt_m _) ?_) | (refine WD_c0 (hsA_m) ?_) | (refine WD_c0 (hsB_m) ?_) | (refine WD_c0 (hsC_m) ?_)) | (refine WD_eq (neBw_step rfl rfl rfl) ?_) | (refine WD_eq (borN_step rfl rfl rfl) ?_) | (refine WD_t (by exact rfl) (by exact rfl) (by exact known) fun hb => ?_; rw [hb]; clear hb) | (refine WD_f (by exact rfl) (by exact rfl) (by exact known) fun hb => ?_; rw [hb]; clear hb)) | (refine ct ?_) | (with_reducible apply WA_block)))
      exact gE (.inr rfl) rfl rfl trivial
    | false =>
      have d1 : (m.il.testBit a != ((5 : Int) == 5)) = false := by rw [t4]; exact e1
      cases e2 : (m.il ||| m.st).testBit b with
      | true =>
        rw [e2] at hsC_m
        refine FnM.of htb Tryz.func87 rfl rfl rfl rfl rfl fun cx hN h0 => ?_
        (repeat' (first | ((with_reducible apply WD_id); first | (refine WD_nxt htb (by exact rfl) ?_) | (refine WD_call (by exact rfl) ?_; first | (refine WD_c0 (mval_m (n := n) _ ?_) ?_; (exact hyp)) | (refine WD_c0 (tgt_m _) ?_) | (refine WD_c0 (hsA_m) ?_) | (refine WD_c0 (hsB_m) ?_) | (refine WD_c0 (hsC_m) ?_)) | (refine WD_eq (neBw_step rfl rfl rfl) ?_) | (refine WD_eq (borN_step rfl rfl rfl) ?_) | (refine WD_t (by exact rfl) (by exact rfl) (by exact known) fun hb => ?_; rw [hb]; clear hb) | (refine WD_f (by exact rfl) (by exact rfl) (by exact known) fun hb => ?_; rw [hb]; clear hb)) | (refine ct ?_) | (with_reducible apply WA_block)))
        exact gE (.inr rfl) rfl rfl trivial
      | false =>
        rw [e2] at hsC_m
        refine FnM.of htb Tryz.func87 rfl rfl rfl rfl rfl fun cx hN h0 => ?_
        (repeat' (first | ((with_reducible apply WD_id); first | (refine WD_nxt htb (by exact rfl) ?_) | (refine WD_call (by exact rfl) ?_; first | (refine WD_c0 (mval_m (n := n) _ ?_) ?_; (exact hyp)) | (refine WD_c0 (tgt_m _) ?_) | (refine WD_c0 (hsA_m) ?_) | (refine WD_c0 (hsB_m) ?_) | (refine WD_c0 (hsC_m) ?_)) | (refine WD_eq (neBw_step rfl rfl rfl) ?_) | (refine WD_eq (borN_step rfl rfl rfl) ?_) | (refine WD_t (by exact rfl) (by exact rfl) (by exact known) fun hb => ?_; rw [hb]; clear hb) | (refine WD_f (by exact rfl) (by exact rfl) (by exact known) fun hb => ?_; rw [hb]; clear hb)) | (refine ct ?_) | (with_reducible apply WA_block)))
        exact gE (.inr rfl) rfl rfl trivial
  · subst hba
    have d0 : ((b : Int) == (b : Int)) = true := by simp
    have e0 : askF m ⟨5, (b : Int), (b : Int), c, t, x⟩ = 1 := by
      unfold askF
      dsimp only
      rw [t3, if_pos ⟨rfl, rfl⟩]
    rw [e0]
    refine FnM.of htb Tryz.func87 rfl rfl rfl rfl rfl fun cx hN h0 => ?_
    (repeat' (first | ((with_reducible apply WD_id); first | (refine WD_nxt htb (by exact rfl) ?_) | (refine WD_call (by exact rfl) ?_; first | (refine WD_c0 (mval_m (n := n) _ ?_) ?_; (exact hyp)) | (refine WD_c0 (tgt_m _) ?_) | (refine WD_c0 (hsA_m) ?_) | (refine WD_c0 (hsB_m) ?_) | (refine WD_c0 (hsC_m) ?_)) | (refine WD_eq (neBw_step rfl rfl rfl) ?_) | (refine WD_eq (borN_step rfl rfl rfl) ?_) | (refine WD_t (by exact rfl) (by exact rfl) (by exact known) fun hb => ?_; rw [hb]; clear hb) | (refine WD_f (by exact rfl) (by exact rfl) (by exact known) fun hb => ?_; rw [hb]; clear hb)) | (refine ct ?_) | (with_reducible apply WA_block)))
    exact gE (.inr rfl) rfl rfl trivial
theorem ask_m (m : Mt) (p : Pl) (n : Nat) (h : MtOK n m) (hp : PlOK n p) : FnM Tryz.prog 87 [] [aMt m, aPl p] (vI (askF m p)) [] := by
  obtain ⟨kd, fr, to, c, t, x⟩ := p
  obtain ⟨h1, h2, h3, _, _⟩ := hp
  dsimp only at h1 h2 h3
  obtain ⟨a, rfl⟩ : ∃ a : Nat, fr = (a : Int) := ⟨fr.toNat, by omega⟩
  obtain ⟨b, rfl⟩ : ∃ b : Nat, to = (b : Int) := ⟨to.toNat, by omega⟩
  rcases h1 with rfl | rfl | rfl | rfl
  · exact ask1_m m n a b c t x h (by omega) (by omega)
  · exact ask2_m m n a b c t x h (by omega) (by omega)
  · exact ask4_m m n a b c t x h (by omega) (by omega)
  · exact ask5_m m n a b c t x h (by omega) (by omega)
end Go.Proofs.YtdhogcklnehdhaaGreatDoor
namespace Go.Proofs.YtdhogcklnehdhaaGreatDoor
set_option linter.unusedSimpArgs false
set_option linter.unusedVariables false
set_option linter.unnecessarySimpa false
set_option linter.unusedSectionVars false
set_option maxRecDepth 100000
open Go Go.RowKit Go.Am Go.Proofs.Grow
def rTq (t : Tc) : List D := [dI t.k, dI t.n, .rows 3 (t.ks.map rTc)]
theorem rTc_q : rTc = rTq := funext rTc_eq
theorem prove_g (d : List Mb) (hd : OkC d) (hm : MeetC d) : ∀ (f r e : Nat) (h : (r < 1024 ∧ e < 1024) ∧ freN d.length r e < f), FnM Tryz.prog 61 [] [aCf d, vI (r : Int), vI (e : Int)] (aTc (proF d f r e)) [] := by
  intro f
  induction f with
  | zero => intro r e h; omega
  | succ f ih =>
    rintro r e ⟨⟨hr, he⟩, hf⟩
    cases h1 : nonN d r e with
    | true =>
      rw [proF, if_pos h1]
      show FnM _ _ _ _ (.agg [vI 1, vI 0, .d (.rows 3 (([] : List Tc).map rTc))]) _
      refine FnM.of htb Tryz.func61 rfl rfl rfl rfl rfl fun cx hN h0 => ?_
      (repeat' (first | ((with_reducible apply WD_id); first | (refine WD_nxt htb (by exact rfl) ?_) | (refine WD_call (by exact rfl) ?_; first | (refine WD_c0 (non_m _ _ _ ?_ ?_) ?_; (exact hyp); (exact hyp))) | (refine WD_idx htb ?_)) | (refine ct ?_) | (with_reducible apply WA_block)))
      (exact glV [(6, .ptr 6 0)] [(6, .box 65 [vI 1, vI 0, .d (.rows 3 (([] : List Tc).map rTc))])] (LeV []))
    | false =>
      cases h2 : aloN d r with
      | true =>
        rw [proF, if_neg (by simp [h1]), if_pos h2]
        show FnM _ _ _ _ (.agg [vI 2, vI 0, .d (.rows 3 (([] : List Tc).map rTc))]) _
        refine FnM.of htb Tryz.func61 rfl rfl rfl rfl rfl fun cx hN h0 => ?_
        (repeat' (first | ((with_reducible apply WD_id); first | (refine WD_nxt htb (by exact rfl) ?_) | (refine WD_call (by exact rfl) ?_; first | (refine WD_c0 (non_m _ _ _ ?_ ?_) ?_; (exact hyp); (exact hyp)) | (refine WD_c0 (alo_m _ _ ?_ ?_) ?_; (exact hyp); (exact hyp))) | (refine WD_idx htb ?_)) | (refine ct ?_) | (with_reducible apply WA_block)))
        (exact glV [(6, .ptr 6 0)] [(6, .box 65 [vI 2, vI 0, .d (.rows 3 (([] : List Tc).map rTc))])] (LeV []))
      | false =>
        rw [proF, if_neg (by simp [h1]), if_neg (by simp [h2])]
        obtain ⟨p1, p2, p3, p4⟩ := pic_spec hd.len hm hr h1 h2
        obtain ⟨q1, q2⟩ := fre_step p2 p3 p4
        have hmm := mem_lt hd.len
        have ha : andn (memN d) e < 1024 := andn_lt10 hmm
        have hg := ltN_lt hd.len e
        have hga : andn (ltN d e) r < 1024 := andn_lt10 hg
        have gr := great_m d (andn (memN d) e) hd ha
        have nod := nodes_m (andn (ltN d e) r) hga
        have hk10 : picN d r e < 10 := by have := hd.len; omega
        have hp10 := pow_lt hk10
        have hk61 : picN d r e ≤ 61 := by omega
        have b1 := or_lt10 he hp10
        have b2 := or_lt10 hr hp10
        have hpic : picN d r e = nth (nodesN (andn (ltN d e) r)) 0 := rfl
        unfold ltN at hg hga nod p1 hpic
        generalize hL : nodesN (andn (greatN d (andn (memN d) e)).1 r) = L at *
        have hL0 : 0 < L.length := by omega
        generalize (greatN d (andn (memN d) e)).1 = G at *
        have greZ_m := gr
        have nodP_m := nod
        have c1 : (r < 1024 ∧ (e ||| 2 ^ picN d r e) < 1024) ∧ freN d.length r (e ||| 2 ^ picN d r e) < f := ⟨⟨hr, b1⟩, by omega⟩
        have c2 : ((r ||| 2 ^ picN d r e) < 1024 ∧ e < 1024) ∧ freN d.length (r ||| 2 ^ picN d r e) e < f := ⟨⟨b2, he⟩, by omega⟩
        have prvR_m : ∀ (r e : Nat) (h : (r < 1024 ∧ e < 1024) ∧ freN d.length r e < f), FnM Tryz.prog 61 [] [aCf d, vI (r : Int), vI (e : Int)] (aTc (proF d f r e)) [] := ih
        show FnM _ _ _ _ (.agg [vI 3, vI (picN d r e : Int), .d (.rows 3 ([proF d f r (e ||| 2 ^ picN d r e), proF d f (r ||| 2 ^ picN d r e) e].map rTc))]) _
        rw [rTc_q]
        refine FnM.of htb Tryz.func61 rfl rfl rfl rfl rfl fun cx hN h0 => ?_
        (repeat' (first | ((with_reducible apply WD_id); first | (refine WD_nxt htb (by exact rfl) ?_) | (refine WD_call (by exact rfl) ?_; first | (refine WD_c0 (non_m _ _ _ ?_ ?_) ?_; (exact hyp); (exact hyp)) | (refine WD_c0 (alo_m _ _ ?_ ?_) ?_; (exact hyp); (exact hyp)) | (refine WD_c0 (mbsC_m _ ?_) ?_; (exact hyp)) | (refine WD_c0 (greZ_m) ?_) | (refine WD_c0 (nodP_m) ?_)) | (refine WD_eq (bnotN_step rfl rfl rfl) ?_) | (refine WD_idx htb ?_)) | (refine ct ?_) | (with_reducible apply WA_block)))
        rw [← hpic]
        generalize picN d r e = k at *
        (repeat' (first | ((with_reducible apply WD_id); first | (refine WD_nxt htb (by exact rfl) ?_) | (refine WD_call (by exact rfl) ?_; first | (refine WD_c0 (prvR_m _ _ ?_) ?_; (exact hyp))) | (refine WD_eq (shlN_step rfl rfl rfl) ?_) | (refine WD_eq (borN_step rfl rfl rfl) ?_) | (refine WD_idx htb ?_)) | (refine ct ?_) | (with_reducible apply WA_block)))
        generalize proF d f r (e ||| 2 ^ k) = p
        generalize proF d f (r ||| 2 ^ k) e = q
        (exact glV [(6, .ptr 6 0)] [(6, .box 65 [vI 3, vI (k : Int), .d (.rows 3 ([p, q].map rTq))])] (LeV []))
def ac3 (a b : Int) : Nat → Int
  | 0 => 1
  | 1 => 1 + a
  | _ => 1 + a + b
theorem siz_leaf_m (k : Int) : FnM Tryz.prog 74 [] [aTk k 0 []] (vI 1) [] := by
  refine FnM.of htb Tryz.func74 rfl rfl rfl rfl rfl fun cx hN h0 => ?_
  (repeat' (first | ((with_reducible apply WD_id); first | (refine WD_nxt htb (by exact rfl) ?_)) | (refine ct ?_) | (with_reducible apply WA_block)))
  (refine WA_forV (0) [9] [] (fun k => [(9, vI k)]) (fun k => []) (fun k => True) ?h0 ?_)
  case h0 => trivial
  intro j hj _
  obtain rfl : j = 0 := by omega
  have t1 : decide (((0 : Nat) : Int) < 0) = false := by decide
  (repeat' (first | ((with_reducible apply WD_id); first | (refine WD_nxt htb (by exact rfl) ?_)) | (refine ct ?_) | (with_reducible apply WA_block)))
  exact gE (.inr rfl) rfl rfl trivial
theorem size_g (d : List Mb) : ∀ (f r e : Nat), f ≤ 7 → FnM Tryz.prog 74 [] [aTc (proF d f r e)] (vI (sizF d f r e)) [] := by
  intro f
  induction f with
  | zero => intro r e _; exact siz_leaf_m 0
  | succ f ih =>
    intro r e hf
    cases h1 : nonN d r e with
    | true =>
      rw [proF, sizF, if_pos h1, if_pos h1]
      exact siz_leaf_m 1
    | false =>
      cases h2 : aloN d r with
      | true =>
        rw [proF, sizF, if_neg (by simp [h1]), if_pos h2, if_neg (by simp [h1]), if_pos h2]
        exact siz_leaf_m 2
      | false =>
        rw [proF, sizF, if_neg (by simp [h1]), if_neg (by simp [h2]), if_neg (by simp [h1]), if_neg (by simp [h2])]
        have sizK := ih r (e ||| 2 ^ picN d r e) (by omega)
        have sizL := ih (r ||| 2 ^ picN d r e) e (by omega)
        have z1 := sizF_bd d f r (e ||| 2 ^ picN d r e)
        have z2 := sizF_bd d f (r ||| 2 ^ picN d r e) e
        have hpw : (2 : Int) ^ (f + 1) ≤ 128 := by
          have : (2 : Nat) ^ (f + 1) ≤ 2 ^ 7 := Nat.pow_le_pow_right (by decide) (by omega)
          exact_mod_cast this
        generalize proF d f r (e ||| 2 ^ picN d r e) = p at *
        generalize proF d f (r ||| 2 ^ picN d r e) e = q at *
        generalize sizF d f r (e ||| 2 ^ picN d r e) = a at *
        generalize sizF d f (r ||| 2 ^ picN d r e) e = b at *
        show FnM _ _ _ [.agg [vI 3, vI (picN d r e : Int), .d (.rows 3 ([p, q].map rTc))]] _ _
        obtain ⟨ks, k0, k1, k2, k3⟩ : ∃ ks, ks = [p, q] ∧ ks.length = 2 ∧ nth ks 0 = p ∧ nth ks 1 = q := ⟨_, rfl, rfl, rfl, rfl⟩
        rw [← k2] at sizK
        rw [← k3] at sizL
        rw [← k0]
        have sizK_m := sizK
        have sizL_m := sizL
        rw [rTc_q]
        refine FnM.of htb Tryz.func74 rfl rfl rfl rfl rfl fun cx hN h0 => ?_
        (repeat' (first | ((with_reducible apply WD_id); first | (refine WD_sum ?_) | (refine WD_nxt htb (by exact rfl) ?_) | (refine WD_idx htb ?_)) | (refine ct ?_) | (with_reducible apply WA_block)))
        rw [k1]
        (refine WA_forV (2) [9, 3] [] (fun k => [(9, vI k), (3, vI (ac3 a b k))]) (fun k => []) (fun k => True) ?h0 ?_)
        case h0 => trivial
        intro j hj _
        obtain rfl | rfl | rfl : j = 0 ∨ j = 1 ∨ j = 2 := by omega
        · have t1 : decide (((0 : Nat) : Int) < 2) = true := by decide
          show WA _ _ _ _ ⟨(9, vI ((0 : Nat) : Int)) :: (3, vI 1) :: _, _⟩
          (repeat' (first | ((with_reducible apply WD_id); first | (refine WD_sum ?_) | (refine WD_nxt htb (by exact rfl) ?_) | (refine WD_call (by exact rfl) ?_; first | (refine WD_c0 (sizK_m) ?_)) | (refine WD_idx htb ?_)) | (refine ct ?_) | (with_reducible apply WA_block)))
          refine ⟨by omega, trivial, ?_⟩
          (exact LeV [])
        · have t1 : decide (((1 : Nat) : Int) < 2) = true := by decide
          show WA _ _ _ _ ⟨(9, vI ((1 : Nat) : Int)) :: (3, vI (1 + a)) :: _, _⟩
          (repeat' (first | ((with_reducible apply WD_id); first | (refine WD_sum ?_) | (refine WD_nxt htb (by exact rfl) ?_) | (refine WD_call (by exact rfl) ?_; first | (refine WD_c0 (sizL_m) ?_)) | (refine WD_idx htb ?_)) | (refine ct ?_) | (with_reducible apply WA_block)))
          refine ⟨by omega, trivial, ?_⟩
          (exact LeV [])
        · have t1 : decide (((2 : Nat) : Int) < 2) = false := by decide
          (repeat' (first | ((with_reducible apply WD_id); first | (refine WD_sum ?_) | (refine WD_nxt htb (by exact rfl) ?_) | (refine WD_idx htb ?_)) | (refine ct ?_) | (with_reducible apply WA_block)))
          exact gE (.inr rfl) rfl rfl trivial
end Go.Proofs.YtdhogcklnehdhaaGreatDoor
namespace Go.Proofs.YtdhogcklnehdhaaGreatDoor
set_option linter.unusedSimpArgs false
set_option linter.unusedVariables false
set_option linter.unnecessarySimpa false
set_option linter.unusedSectionVars false
set_option maxRecDepth 100000
open Go Go.RowKit Go.Am Go.Proofs.Grow
set_option maxHeartbeats 1000000 in
theorem right_g (d : List Mb) (hd : OkC d) (hm : MeetC d) : ∀ (f r e : Nat) (h : (r < 1024 ∧ e < 1024) ∧ freN d.length r e < f), FnM Tryz.prog 75 [] [aCf d, aTc (proF d f r e), vI (r : Int), vI (e : Int)] (vB true) [] := by
  intro f
  induction f with
  | zero => intro r e h; omega
  | succ f ih =>
    rintro r e ⟨⟨hr, he⟩, hf⟩
    have t00 : ((0 : Int) == 0) = true := rfl
    cases h1 : nonN d r e with
    | true =>
      rw [proF, if_pos h1]
      show FnM _ _ _ [_, .agg [vI 1, vI 0, .d (.rows 3 (([] : List Tc).map rTc))], _, _] _ _
      have non0 := non_m d r e hd ⟨hr, he⟩
      rw [h1] at non0
      have nonZ_m := non0
      have t1 : ((1 : Int) == 1) = true := rfl
      refine FnM.of htb Tryz.func75 rfl rfl rfl rfl rfl fun cx hN h0 => ?_
      (repeat' (first | ((with_reducible apply WD_id); first | (refine WD_nxt htb (by exact rfl) ?_) | (refine WD_call (by exact rfl) ?_; first | (refine WD_c0 (nonZ_m) ?_)) | (refine WD_idx htb ?_) | (refine WD_t (by exact rfl) (by exact rfl) (by exact known) fun hb => ?_; rw [hb]; clear hb) | (refine WD_f (by exact rfl) (by exact rfl) (by exact known) fun hb => ?_; rw [hb]; clear hb)) | (refine ct ?_) | (with_reducible apply WA_block)))
      exact gE (.inr rfl) rfl rfl trivial
    | false =>
      cases h2 : aloN d r with
      | true =>
        rw [proF, if_neg (by simp [h1]), if_pos h2]
        show FnM _ _ _ [_, .agg [vI 2, vI 0, .d (.rows 3 (([] : List Tc).map rTc))], _, _] _ _
        have alo0 := alo_m d r hd hr
        rw [h2] at alo0
        have aloZ_m := alo0
        have t1 : ((2 : Int) == 1) = false := rfl
        have t2 : ((2 : Int) == 2) = true := rfl
        refine FnM.of htb Tryz.func75 rfl rfl rfl rfl rfl fun cx hN h0 => ?_
        (repeat' (first | ((with_reducible apply WD_id); first | (refine WD_nxt htb (by exact rfl) ?_) | (refine WD_call (by exact rfl) ?_; first | (refine WD_c0 (aloZ_m) ?_)) | (refine WD_idx htb ?_) | (refine WD_t (by exact rfl) (by exact rfl) (by exact known) fun hb => ?_; rw [hb]; clear hb) | (refine WD_f (by exact rfl) (by exact rfl) (by exact known) fun hb => ?_; rw [hb]; clear hb)) | (refine ct ?_) | (with_reducible apply WA_block)))
        exact gE (.inr rfl) rfl rfl trivial
      | false =>
        rw [proF, if_neg (by simp [h1]), if_neg (by simp [h2])]
        obtain ⟨p1, p2, p3, p4⟩ := pic_spec hd.len hm hr h1 h2
        obtain ⟨q1, q2⟩ := fre_step p2 p3 p4
        have hmm := mem_lt hd.len
        have hm1 : andn (memN d) r < 1024 := andn_lt10 hmm
        have hm2 : andn (andn (memN d) r) e < 1024 := andn_lt10 hm1
        have hk10 : picN d r e < 10 := by have := hd.len; omega
        have hp10 := pow_lt hk10
        have hk61 : picN d r e ≤ 61 := by omega
        have b1 := or_lt10 he hp10
        have b2 := or_lt10 hr hp10
        have hh := has_nm hm2 hk10
        have hb : (andn (andn (memN d) r) e).testBit (picN d r e) = true := by
          rw [andn_bit, andn_bit, mem_bit, p3, p4]; simpa using p2
        rw [hb] at hh
        have hasT_m := hh
        have ritK := ih r (e ||| 2 ^ picN d r e) ⟨⟨hr, b1⟩, by omega⟩
        have ritL := ih (r ||| 2 ^ picN d r e) e ⟨⟨b2, he⟩, by omega⟩
        generalize proF d f r (e ||| 2 ^ picN d r e) = p at *
        generalize proF d f (r ||| 2 ^ picN d r e) e = q at *
        generalize picN d r e = k at *
        show FnM _ _ _ [_, .agg [vI 3, vI (k : Int), .d (.rows 3 ([p, q].map rTc))], _, _] _ _
        obtain ⟨ks, k0, k1, k2, k3⟩ : ∃ ks, ks = [p, q] ∧ ks.length = 2 ∧ nth ks 0 = p ∧ nth ks 1 = q := ⟨_, rfl, rfl, rfl, rfl⟩
        rw [← k2] at ritK
        rw [← k3] at ritL
        rw [← k0]
        have ritK_m := ritK
        have ritL_m := ritL
        rw [rTc_q]
        have t1 : ((3 : Int) == 1) = false := rfl
        have t2 : ((3 : Int) == 2) = false := rfl
        have t3 : ((3 : Int) == 3) = true := rfl
        have t4 : (((ks.length : Nat) : Int) == 0) = false := by rw [k1]; rfl
        have t5 : (((ks.length : Nat) : Int) != 2) = false := by rw [k1]; rfl
        have t6 : (!true) = false := rfl
        have x0 : 0 < ks.length := by omega
        have x1 : 1 < ks.length := by omega
        by_cases hk : k = 0
        · have t7 : ((k : Int) == 0) = true := by rw [hk]; rfl
          refine FnM.of htb Tryz.func75 rfl rfl rfl rfl rfl fun cx hN h0 => ?_
          (repeat' (first | ((with_reducible apply WD_id); first | (refine WD_nxt htb (by exact rfl) ?_) | (refine WD_call (by exact rfl) ?_; first | (refine WD_c0 (mbsC_m _ ?_) ?_; (exact hyp)) | (refine WD_c0 (hasT_m) ?_) | (refine WD_c0 (ritK_m) ?_) | (refine WD_c0 (ritL_m) ?_)) | (refine WD_eq (bnotN_step rfl rfl rfl) ?_) | (refine WD_eq (shlN_step rfl rfl rfl) ?_) | (refine WD_eq (borN_step rfl rfl rfl) ?_) | (refine WD_idx htb ?_) | (refine WD_t (by exact rfl) (by exact rfl) (by exact known) fun hb => ?_; rw [hb]; clear hb) | (refine WD_f (by exact rfl) (by exact rfl) (by exact known) fun hb => ?_; rw [hb]; clear hb)) | (refine ct ?_) | (with_reducible apply WA_block)))
          exact gE (.inr rfl) rfl rfl trivial
        · have t7 : ((k : Int) == 0) = false := by rw [beq_eq_false_iff_ne]; omega
          refine FnM.of htb Tryz.func75 rfl rfl rfl rfl rfl fun cx hN h0 => ?_
          (repeat' (first | ((with_reducible apply WD_id); first | (refine WD_nxt htb (by exact rfl) ?_) | (refine WD_call (by exact rfl) ?_; first | (refine WD_c0 (mbsC_m _ ?_) ?_; (exact hyp)) | (refine WD_c0 (hasT_m) ?_) | (refine WD_c0 (ritK_m) ?_) | (refine WD_c0 (ritL_m) ?_)) | (refine WD_eq (bnotN_step rfl rfl rfl) ?_) | (refine WD_eq (shlN_step rfl rfl rfl) ?_) | (refine WD_eq (borN_step rfl rfl rfl) ?_) | (refine WD_idx htb ?_) | (refine WD_t (by exact rfl) (by exact rfl) (by exact known) fun hb => ?_; rw [hb]; clear hb) | (refine WD_f (by exact rfl) (by exact rfl) (by exact known) fun hb => ?_; rw [hb]; clear hb)) | (refine ct ?_) | (with_reducible apply WA_block)))
          exact gE (.inr rfl) rfl rfl trivial
theorem fre0 {n : Nat} (h : n ≤ 5) : freN n 0 0 < 6 := by have := fre_len n 0 0; omega
/-- Where any two quorums meet, there is a right search tree. -/
theorem proveY_m (d : List Mb) (hd : OkC d) (h5 : d.length ≤ 5) (h : (holdF d).1 = true) (hv : valC d = 0) : FnM Tryz.prog 19 [] [aCf d] (.tup [aTc (proF d 6 0 0), vI 0]) [] := by
  have hol := hold_m d hd
  have he : (holdF d).2 = 0 := by unfold holdF; rw [hv]; rfl
  rw [h, he] at hol
  have holZ_m := hol
  have prv0_m := prove_g d hd (hold_meet h5 h) 6 0 0 ⟨⟨by decide, by decide⟩, fre0 h5⟩
  have t0 : ((0 : Int) != 0) = false := rfl
  have t1 : (!true) = false := rfl
  generalize proF d 6 0 0 = t at *
  refine FnM.of htb Tryz.func19 rfl rfl rfl rfl rfl fun cx hN h0 => ?_
  (repeat' (first | ((with_reducible apply WD_id); first | (refine WD_nxt htb (by exact rfl) ?_) | (refine WD_call (by exact rfl) ?_; first | (refine WD_c0 (holZ_m) ?_) | (refine WD_c0 (prv0_m) ?_))) | (refine ct ?_) | (with_reducible apply WA_block)))
  (exact glV [(2, .ptr 2 0), (3, vI 0)] [(2, .box 65 (cellsOf (aTc t)))] (LeV []))
theorem proveN_m (d : List Mb) (hd : OkC d) (h : (holdF d).1 = false) (hv : valC d = 0) : FnM Tryz.prog 19 [] [aCf d] (.tup [aTk 0 0 [], vI 11]) [] := by
  have hol := hold_m d hd
  have he : (holdF d).2 = 0 := by unfold holdF; rw [hv]; rfl
  rw [h, he] at hol
  have holZ_m := hol
  have t0 : ((0 : Int) != 0) = false := rfl
  have t1 : (!false) = true := rfl
  refine FnM.of htb Tryz.func19 rfl rfl rfl rfl rfl fun cx hN h0 => ?_
  (repeat' (first | ((with_reducible apply WD_id); first | (refine WD_nxt htb (by exact rfl) ?_) | (refine WD_call (by exact rfl) ?_; first | (refine WD_c0 (holZ_m) ?_))) | (refine ct ?_) | (with_reducible apply WA_block)))
  (exact glV [(2, .ptr 2 0), (3, vI 11)] [(2, .box 65 [vI 0, vI 0, .d (.rows 3 (([] : List Tc).map rTc))])] (LeV []))
theorem check_m (d : List Mb) (hd : OkC d) (h5 : d.length ≤ 5) (h : (holdF d).1 = true) (hv : valC d = 0) : FnM Tryz.prog 26 [] [aCf d, aTc (proF d 6 0 0)] (vB true) [] := by
  have vld := valC_m d hd
  rw [hv] at vld
  have vldZ_m := vld
  have rit0_m := right_g d hd (hold_meet h5 h) 6 0 0 ⟨⟨by decide, by decide⟩, fre0 h5⟩
  have siz0_m := size_g d 6 0 0 (by decide)
  have hb := (sizF_bd d 6 0 0).2
  have hb2 : (2 : Int) ^ (6 + 1) - 1 = 127 := by decide
  have t0 : ((0 : Int) == 0) = true := rfl
  have t1 : decide (sizF d 6 0 0 ≤ 20000) = true := by simp only [decide_eq_true_eq]; omega
  generalize sizF d 6 0 0 = z at *
  generalize proF d 6 0 0 = t at *
  refine FnM.of htb Tryz.func26 rfl rfl rfl rfl rfl fun cx hN h0 => ?_
  (repeat' (first | ((with_reducible apply WD_id); first | (refine WD_nxt htb (by exact rfl) ?_) | (refine WD_call (by exact rfl) ?_; first | (refine WD_c0 (vldZ_m) ?_) | (refine WD_c0 (rit0_m) ?_) | (refine WD_c0 (siz0_m) ?_)) | (refine WD_t (by exact rfl) (by exact rfl) (by exact known) fun hb => ?_; rw [hb]; clear hb)) | (refine ct ?_) | (with_reducible apply WA_block)))
  exact gE (.inr rfl) rfl rfl trivial
def disF (d : List Mb) : Int := if (fndN d 0).1 = 0 then 11 else 0
theorem disj_m (d : List Mb) (hd : OkC d) (hv : valC d = 0) (h2 : (fndN d 0).1 = 0 → (fndN d 0).2 = 0) : FnM Tryz.prog 20 [] [aCf d] (.tup [vI ((fndN d 0).1 : Int), vI ((fndN d 0).2 : Int), vI (disF d)]) [] := by
  have vld := valC_m d hd
  rw [hv] at vld
  have vldZ_m := vld
  have fndZ_m := find_m d hd size_m
  have t0 : ((0 : Int) != 0) = false := rfl
  unfold disF
  generalize (fndN d 0).1 = s at *
  generalize (fndN d 0).2 = t at *
  by_cases h : s = 0
  · have t1 : ((s : Int) == 0) = true := by simp [h]
    rw [if_pos h, h2 h, h]
    rw [h, h2 h] at fndZ_m
    have t2 : (((0 : Nat) : Int) == 0) = true := rfl
    refine FnM.of htb Tryz.func20 rfl rfl rfl rfl rfl fun cx hN h0 => ?_
    (repeat' (first | ((with_reducible apply WD_id); first | (refine WD_nxt htb (by exact rfl) ?_) | (refine WD_call (by exact rfl) ?_; first | (refine WD_c0 (vldZ_m) ?_) | (refine WD_c0 (fndZ_m) ?_))) | (refine ct ?_) | (with_reducible apply WA_block)))
    exact gE (.inr rfl) rfl rfl trivial
  · have t1 : ((s : Int) == 0) = false := by rw [beq_eq_false_iff_ne]; omega
    rw [if_neg h]
    refine FnM.of htb Tryz.func20 rfl rfl rfl rfl rfl fun cx hN h0 => ?_
    (repeat' (first | ((with_reducible apply WD_id); first | (refine WD_nxt htb (by exact rfl) ?_) | (refine WD_call (by exact rfl) ?_; first | (refine WD_c0 (vldZ_m) ?_) | (refine WD_c0 (fndZ_m) ?_))) | (refine ct ?_) | (with_reducible apply WA_block)))
    exact gE (.inr rfl) rfl rfl trivial
theorem pairD_m (c : List Mb) (s : Nat) (h : OkS c s) (hv : valC (delC c s) = 0) (h2 : (fndN (delC c s) 0).1 = 0 → (fndN (delC c s) 0).2 = 0) : FnM Tryz.prog 66 [] [aCf c, vI (s : Int)] (.tup [vI ((fndN (delC c s) 0).1 : Int), vI ((fndN (delC c s) 0).2 : Int), vI (disF (delC c s))]) [] := by
  have delP_m := delC_m c s h.cc h.lt h.kb
  have disP_m := disj_m (delC c s) (delC_ok h.cc s) hv h2
  have t0 : ((0 : Int) != 0) = false := rfl
  refine FnM.of htb Tryz.func66 rfl rfl rfl rfl rfl fun cx hN h0 => ?_
  (repeat' (first | ((with_reducible apply WD_id); first | (refine WD_nxt htb (by exact rfl) ?_) | (refine WD_call (by exact rfl) ?_; first | (refine WD_c0 (askB_m _ _ ?_) ?_; (exact hyp)) | (refine WD_c0 (delP_m) ?_) | (refine WD_c0 (disP_m) ?_))) | (refine ct ?_) | (with_reducible apply WA_block)))
  exact gE (.inr rfl) rfl rfl trivial
end Go.Proofs.YtdhogcklnehdhaaGreatDoor
namespace Go.Proofs.YtdhogcklnehdhaaGreatDoor
set_option linter.unusedSimpArgs false
set_option linter.unusedVariables false
set_option linter.unnecessarySimpa false
set_option linter.unusedSectionVars false
set_option maxRecDepth 100000
open Go Go.RowKit Go.Am Go.Proofs.Grow
theorem ask_ne {m : Mt} {p : Pl} (h : askF m p = 0) (hk : isTo p.kd = true) : p.to ≠ p.fr := fun q => by
  unfold askF at h
  rw [if_pos ⟨hk, q⟩] at h; cases h
theorem chg1_m (m : Mt) (n a : Nat) (b : Int) (c : Cl) (t : Tr) (x : Ms) (h : MtOK n m) (ha : a < n) (hc : okC c = true) : FnM Tryz.prog 88 [] [aMt m, aPl ⟨1, (a : Int), b, c, t, x⟩] (.tup [vI (a : Int), aVo (votV (nth m.vs a) c).1, vI (votV (nth m.vs a) c).2]) [] := by
  have hl := h.len
  have hav : a < m.vs.length := by omega
  have hv := (h.ok a ha).mono h.n10
  have q1 : ((1 : Int) == 1) = true := rfl
  refine FnM.of htb Tryz.func88 rfl rfl rfl rfl rfl fun cx hN h0 => ?_
  (repeat' (first | ((with_reducible apply WD_id); first | (refine WD_nxt htb (by exact rfl) ?_) | (refine WD_call (by exact rfl) ?_; first | (refine WD_c0 (vote_m (v := nth m.vs a) (x := c) ?_ ?_) ?_; (exact hyp); (exact hyp))) | (refine WD_idx htb ?_)) | (refine ct ?_) | (with_reducible apply WA_block)))
  (exact glV [(4, vI (a : Int)), (5, .ptr 5 0), (6, vI (votV (nth m.vs a) c).2)] [(5, .box 49 (cellsOf (aVo (votV (nth m.vs a) c).1)))] (LeV []))
theorem chg2_m (m : Mt) (n a b : Nat) (c : Cl) (t : Tr) (x : Ms) (h : MtOK n m) (ha : a < n) (hb : b < n) (hab : b ≠ a) : FnM Tryz.prog 88 [] [aMt m, aPl ⟨2, (a : Int), (b : Int), c, t, x⟩] (.tup [vI (b : Int), aVo (heaV (nth m.vs b) (sayV (nth m.vs a))).1, vI (heaV (nth m.vs b) (sayV (nth m.vs a))).2]) [] := by
  have hl := h.len
  have hav : a < m.vs.length := by omega
  have hbv : b < m.vs.length := by omega
  have hva := (h.ok a ha).mono h.n10
  have hvb := (h.ok b hb).mono h.n10
  have n1 := h.nd a ha
  have n2 := h.nd b hb
  have hn := h.n10
  have hms : MsOK 10 (sayV (nth m.vs a)) := say_ok hva hva.nd1
  have hne : (sayV (nth m.vs a)).nd ≠ (nth m.vs b).nd := by show (nth m.vs a).nd ≠ _; omega
  have q1 : ((2 : Int) == 1) = false := rfl
  have q2 : ((2 : Int) == 2) = true := rfl
  refine FnM.of htb Tryz.func88 rfl rfl rfl rfl rfl fun cx hN h0 => ?_
  (repeat' (first | ((with_reducible apply WD_id); first | (refine WD_nxt htb (by exact rfl) ?_) | (refine WD_call (by exact rfl) ?_; first | (refine WD_c0 (Say_m (v := nth m.vs a) ?_) ?_; (exact hyp)) | (refine WD_c0 (hear_m (v := nth m.vs b) (m := sayV (nth m.vs a)) ?_ ?_ ?_) ?_; (exact hyp); (exact hyp); (exact hyp))) | (refine WD_idx htb ?_)) | (refine ct ?_) | (with_reducible apply WA_block)))
  (exact glV [(4, vI (b : Int)), (5, .ptr 5 0), (6, vI (heaV (nth m.vs b) (sayV (nth m.vs a))).2)] [(5, .box 49 (cellsOf (aVo (heaV (nth m.vs b) (sayV (nth m.vs a))).1)))] (LeV []))
theorem chg4_m (m : Mt) (n a : Nat) (b : Int) (c : Cl) (t : Tr) (x : Ms) (h : MtOK n m) (ha : a < n) : FnM Tryz.prog 88 [] [aMt m, aPl ⟨4, (a : Int), b, c, t, x⟩] (.tup [vI (a : Int), aVo (nth m.vs a), vI 0]) [] := by
  have hl := h.len
  have hav : a < m.vs.length := by omega
  have q1 : ((4 : Int) == 1) = false := rfl
  have q2 : ((4 : Int) == 2) = false := rfl
  have q3 : ((4 : Int) == 3) = false := rfl
  have q5 : ((4 : Int) == 5) = false := rfl
  refine FnM.of htb Tryz.func88 rfl rfl rfl rfl rfl fun cx hN h0 => ?_
  (repeat' (first | ((with_reducible apply WD_id); first | (refine WD_nxt htb (by exact rfl) ?_) | (refine WD_idx htb ?_)) | (refine ct ?_) | (with_reducible apply WA_block)))
  (exact glV [(4, vI (a : Int)), (5, .ptr 5 0), (6, vI 0)] [(5, .box 49 (cellsOf (aVo (nth m.vs a))))] (LeV []))
theorem chg5_m (m : Mt) (n a b : Nat) (c : Cl) (t : Tr) (x : Ms) (h : MtOK n m) (ha : a < n) (hb : b < n) (hab : b ≠ a) (hx : MsOK n x) (hxn : x.nd = (a : Int)) : FnM Tryz.prog 88 [] [aMt m, aPl ⟨5, (a : Int), (b : Int), c, t, x⟩] (.tup [vI (b : Int), aVo (heaV (nth m.vs b) x).1, vI (heaV (nth m.vs b) x).2]) [] := by
  have hl := h.len
  have hav : a < m.vs.length := by omega
  have hbv : b < m.vs.length := by omega
  have hvb := (h.ok b hb).mono h.n10
  have n2 := h.nd b hb
  have hn := h.n10
  have hms : MsOK 10 x := hx.mono h.n10
  have hne : x.nd ≠ (nth m.vs b).nd := by omega
  have hvn : (m.vs.map rVo).length ≤ 10 := by rw [List.length_map]; omega
  have hfit : FitT (m.vs.map rVo).length x.t := by rw [List.length_map, hl]; exact hx.t
  have q1 : ((5 : Int) == 1) = false := rfl
  have q2 : ((5 : Int) == 2) = false := rfl
  have q3 : ((5 : Int) == 3) = false := rfl
  have q5 : ((5 : Int) == 5) = true := rfl
  have q6 : (x.nd != (a : Int)) = false := by rw [hxn]; simp
  have q7 : (!true) = false := rfl
  refine FnM.of htb Tryz.func88 rfl rfl rfl rfl rfl fun cx hN h0 => ?_
  (repeat' (first | ((with_reducible apply WD_id); first | (refine WD_nxt htb (by exact rfl) ?_) | (refine WD_call (by exact rfl) ?_; first | (refine WD_c0 (fpl_m (m := x) ?_) ?_; (exact hyp)) | (refine WD_c0 (ins_m (t := x.t) (n := (m.vs.map rVo).length) ?_ ?_) ?_; (exact hyp); (exact hyp)) | (refine WD_c0 (hear_m (v := nth m.vs b) (m := x) ?_ ?_ ?_) ?_; (exact hyp); (exact hyp); (exact hyp))) | (refine WD_idx htb ?_)) | (refine ct ?_) | (with_reducible apply WA_block)))
  (exact glV [(4, vI (b : Int)), (5, .ptr 5 0), (6, vI (heaV (nth m.vs b) x).2)] [(5, .box 49 (cellsOf (aVo (heaV (nth m.vs b) x).1)))] (LeV []))
theorem chg_m (m : Mt) (p : Pl) (n : Nat) (h : MtOK n m) (hp : PlOK n p) (hk : askF m p = 0) : FnM Tryz.prog 88 [] [aMt m, aPl p] (.tup [vI (chgF m p).1, aVo (chgF m p).2.1, vI (chgF m p).2.2]) [] := by
  have hq := @ask_ne m p hk
  obtain ⟨kd, fr, to, c, t, x⟩ := p
  obtain ⟨h1, h2, h3, h4, h5⟩ := hp
  dsimp only at h1 h2 h3 h4 h5 hq
  obtain ⟨a, rfl⟩ : ∃ a : Nat, fr = (a : Int) := ⟨fr.toNat, by omega⟩
  obtain ⟨b, rfl⟩ : ∃ b : Nat, to = (b : Int) := ⟨to.toNat, by omega⟩
  rcases h1 with rfl | rfl | rfl | rfl
  · exact chg1_m m n a b c t x h (by omega) (h4 rfl)
  · exact chg2_m m n a b c t x h (by omega) (by omega) (by have := hq rfl; omega)
  · exact chg4_m m n a b c t x h (by omega)
  · exact chg5_m m n a b c t x h (by omega) (by omega) (by have := hq rfl; omega) (h5 rfl).1 (h5 rfl).2
end Go.Proofs.YtdhogcklnehdhaaGreatDoor
namespace Go.Proofs.YtdhogcklnehdhaaGreatDoor
set_option linter.unusedSimpArgs false
set_option linter.unusedVariables false
set_option linter.unnecessarySimpa false
set_option linter.unusedSectionVars false
set_option maxRecDepth 100000
open Go Go.RowKit Go.Am Go.Proofs.Grow
theorem cloVo_m (l : List Vo) (hl : l.length ≤ 1000) : FnM Tryz.prog 89 [] [lVo l] (.own 30) [(30, .arr 49 9 (l.map rVo))] := by
  cases l with
  | nil =>
    refine FnM.nil_cases 0 rfl ?_ fun ad cap => ?_
    all_goals
      refine FnM.of htb Tryz.func89 rfl rfl rfl rfl rfl fun cx hN h0 => ?_
      (repeat' (first | ((with_reducible apply WD_id); first | (refine WD_nxt htb (by exact rfl) ?_) | (refine WD_ap htb ?_) | (refine WD_nil htb ?_) | (refine WD_nilr htb ?_)) | (refine ct ?_) | (with_reducible apply WA_block)))
    · exact gL (.inr rfl) (Le_nilT 30 2 49 9 rfl rfl) rfl rfl ⟨rfl, trivial⟩
    · refine gL (.inr rfl) (T' := [(2, .own 30)]) (M' := [(30, .arr 49 9 [])]) ?_ rfl rfl ⟨rfl, trivial⟩
      (exact LeV [(30, 7)])
  | cons x r =>
    refine FnM.of htb Tryz.func89 rfl rfl rfl rfl rfl fun cx hN h0 => ?_
    (repeat' (first | ((with_reducible apply WD_id); first | (refine WD_nxt htb (by exact rfl) ?_) | (refine WD_ap htb ?_) | (refine WD_nil htb ?_) | (refine WD_nilr htb ?_)) | (refine ct ?_) | (with_reducible apply WA_block)))
    refine gL (.inr rfl) (T' := [(2, .own 30)]) (M' := [(30, .arr 49 9 ((x :: r).map rVo))]) ?_ rfl rfl ⟨rfl, trivial⟩
    (exact LeV [(30, 7)])
set_option maxHeartbeats 2000000 in
theorem step_m (m : Mt) (p : Pl) (n : Nat) (h : MtOK n m) (hp : PlOK n p) : FnM Tryz.prog 31 [] [aMt m, aPl p] (.tup [aMt (stpF m p).1, vI (stpF m p).2]) [] := by
  have hl := h.len
  have hn := h.n10
  have askS_m := ask_m m p n h hp
  have h2 := two_le hn
  have hst := h.st
  have hfr := hp.fr
  unfold stpF
  by_cases h1 : askF m p = 0
  · have t1 : (askF m p != 0) = false := by simp [h1]
    rw [if_neg (by simp [h1])]
    have chgS := chg_m m p n h hp h1
    have hok := fun e => chg_ok h hp h1 e
    unfold goF
    generalize hq : chgF m p = q at *
    obtain ⟨k, v, e⟩ := q
    dsimp only at chgS hok ⊢
    have chgS_m := chgS
    by_cases he : e = 0
    · subst he
      have t2 : ((0 : Int) != 0) = false := rfl
      rw [if_neg (by simp)]
      obtain ⟨⟨k0, k1⟩, _, _⟩ := hok rfl
      obtain ⟨j, rfl⟩ : ∃ j : Nat, k = (j : Int) := ⟨k.toNat, by omega⟩
      rw [Int.toNat_natCast] at k1 ⊢
      obtain ⟨a, ha⟩ : ∃ a : Nat, p.fr = (a : Int) := ⟨p.fr.toNat, by omega⟩
      have hj : j < m.vs.length := by omega
      have hrow : (m.vs.map rVo).set j (rVo v) = (m.vs.set j v).map rVo := by rw [List.map_set]
      have hml : m.vs.length ≤ 1000 := by omega
      have hst2 : m.st < 4611686018427387904 := by omega
      have ha2 : 2 ^ a < 4611686018427387904 := by
        have := Nat.pow_le_pow_right (n := 2) (by decide) (show a ≤ 10 by omega)
        omega
      have ha3 : a ≤ 61 := by omega
      refine FnM.of htb Tryz.func31 rfl rfl rfl rfl rfl fun cx hN h0 => ?_
      (repeat' (first | ((with_reducible apply WD_id); first | (refine WD_nxt htb (by exact rfl) ?_) | (refine WD_call (by exact rfl) ?_; first | (refine WD_c0 (askS_m) ?_) | (refine WD_c0 (chgS_m) ?_)) | (refine WD_idxo htb ?_) | (refine WD_ste htb ?_)) | (refine ct ?_) | (with_reducible apply WA_block)))
      (repeat' (first | ((with_reducible apply WD_id); first | (refine WD_nxt htb (by exact rfl) ?_) | (refine WD_call (by exact rfl) ?_; first | (refine WD_cM (cloVo_m _ ?_) ?_; (exact hyp))) | (refine WD_idxo htb ?_) | (refine WD_ste htb ?_)) | ((with_reducible apply WD_end); (first | exact no_draw | (intro _; kernel_rfl)); try simp only [thn, inB, List.length_map, List.cons_append, List.nil_append])))
      (repeat' (first | (with_reducible apply WA_seq) | ((with_reducible apply gCt); exact rfl; exact rfl) | ((with_reducible apply gCf); exact rfl; exact rfl) | ((with_reducible apply gCk); exact rfl; exact known; intro hb; rw [hb]; clear hb) | ((with_reducible apply gCn); exact rfl; exact known; intro hb; rw [hb]; clear hb) | (with_reducible apply WA_block) | ((with_reducible first | apply WA_skip | apply WA_ret | apply WA_exit | apply WA_label); try simp only [thn, inB, List.length_map, List.cons_append, List.nil_append])))
      ((with_reducible apply gR hmix hN); exact (by kernel_rfl); (try dsimp only [List.append_eq, List.cons_append, List.nil_append]))
      (repeat' (first | ((with_reducible apply WD_id); first | (refine WD_nxt htb (by exact rfl) ?_) | (refine WD_idxo htb ?_) | (refine WD_ste htb ?_)) | ((with_reducible apply WD_end); (first | exact no_draw | (intro _; kernel_rfl)); try simp only [thn, inB, List.length_map, List.cons_append, List.nil_append])))
      (repeat' (first | (with_reducible apply WA_seq) | ((with_reducible apply gCt); exact rfl; exact rfl) | ((with_reducible apply gCf); exact rfl; exact rfl) | ((with_reducible apply gCk); exact rfl; exact known; intro hb; rw [hb]; clear hb) | ((with_reducible apply gCn); exact rfl; exact known; intro hb; rw [hb]; clear hb) | (with_reducible apply WA_block) | ((with_reducible first | apply WA_skip | apply WA_ret | apply WA_exit | apply WA_label); try simp only [thn, inB, List.length_map, List.cons_append, List.nil_append])))
      show WA _ _ _ _ ⟨_, (30, .arr _ 9 ((m.vs.map rVo).set j (rVo v))) :: _⟩
      rw [hrow]
      refine WA_le (s' := ⟨[(5, vI 0), (4, .ptr 4 0), (3, .ptr 3 0), (2, .ptr 2 0)], [(4, .box 34 (cellsOf (aMt mtZ))), (3, .box 88 (cellsOf (aPl p))), (2, .box 34 (cellsOf (aMt ⟨m.vs.set j v, m.st, m.il⟩)))]⟩) (LeV []) ?_
      by_cases h4 : p.kd = 4
      · have t3 : (p.kd == 4) = true := by simpa using h4
        rw [if_pos h4, ha, Int.toNat_natCast]
        (repeat' (first | ((with_reducible apply WD_id); first | (refine WD_nxt htb (by exact rfl) ?_) | (refine WD_idxo htb ?_) | (refine WD_ste htb ?_)) | (refine ct ?_) | (with_reducible apply WA_block)))
        rw [ha]
        (repeat' (first | ((with_reducible apply WD_id); first | (refine WD_nxt htb (by exact rfl) ?_) | (refine WD_eq (shlN_step rfl rfl rfl) ?_) | (refine WD_eq (borN_step rfl rfl rfl) ?_) | (refine WD_idxo htb ?_) | (refine WD_ste htb ?_)) | (refine ct ?_) | (with_reducible apply WA_block)))
        generalize m.st ||| 2 ^ a = z
        (exact glV [(4, .ptr 4 0), (5, vI 0)] [(4, .box 34 (cellsOf (aMt ⟨m.vs.set j v, z, m.il⟩)))] (LeV []))
      · have t3 : (p.kd == 4) = false := by simpa using h4
        rw [if_neg h4]
        (repeat' (first | ((with_reducible apply WD_id); first | (refine WD_nxt htb (by exact rfl) ?_) | (refine WD_idxo htb ?_) | (refine WD_ste htb ?_)) | (refine ct ?_) | (with_reducible apply WA_block)))
        (exact glV [(4, .ptr 4 0), (5, vI 0)] [(4, .box 34 (cellsOf (aMt ⟨m.vs.set j v, m.st, m.il⟩)))] (LeV []))
    · have t2 : (e != 0) = true := by simpa using he
      rw [if_pos he]
      refine FnM.of htb Tryz.func31 rfl rfl rfl rfl rfl fun cx hN h0 => ?_
      (repeat' (first | ((with_reducible apply WD_id); first | (refine WD_nxt htb (by exact rfl) ?_) | (refine WD_call (by exact rfl) ?_; first | (refine WD_c0 (askS_m) ?_) | (refine WD_c0 (chgS_m) ?_)) | (refine WD_idxo htb ?_) | (refine WD_ste htb ?_)) | (refine ct ?_) | (with_reducible apply WA_block)))
      (exact glV [(4, .ptr 4 0), (5, vI e)] [(4, .box 34 (cellsOf (aMt mtZ)))] (LeV []))
  · have t1 : (askF m p != 0) = true := by simpa using h1
    rw [if_pos h1]
    refine FnM.of htb Tryz.func31 rfl rfl rfl rfl rfl fun cx hN h0 => ?_
    (repeat' (first | ((with_reducible apply WD_id); first | (refine WD_nxt htb (by exact rfl) ?_) | (refine WD_call (by exact rfl) ?_; first | (refine WD_c0 (askS_m) ?_)) | (refine WD_idxo htb ?_) | (refine WD_ste htb ?_)) | (refine ct ?_) | (with_reducible apply WA_block)))
    (exact glV [(4, .ptr 4 0), (5, vI (askF m p))] [(4, .box 34 (cellsOf (aMt mtZ)))] (LeV []))
set_option maxHeartbeats 2000000 in
theorem freshM_m (m : Mt) (n : Nat) (h : MtOK n m) : FnM Tryz.prog 32 [] [aMt m] (aMt m) [] := by
  have hl := h.len
  have hn := h.n10
  refine FnM.of htb Tryz.func32 rfl rfl rfl rfl rfl fun cx hN h0 => ?_
  (repeat' (first | ((with_reducible apply WD_id); first | (refine WD_sum ?_) | (refine WD_nxt htb (by exact rfl) ?_) | (refine WD_idx htb ?_) | (refine WD_ap htb ?_)) | (refine ct ?_) | (with_reducible apply WA_block)))
  refine WA_le (Le_nilM 62 1 0 49 9 rfl rfl rfl rfl) ?_
  refine WA_le (s' := ⟨[(14, vI 0), (13, vI (m.vs.length : Int)), (12, lVo m.vs), (2, .ptr 2 0), (1, .ptr 1 0)], [(1, .box 34 [.own 62, vI (m.st : Int), vI (m.il : Int)]), (62, .arr 49 9 []), (2, .box 34 (cellsOf (aMt mtZ)))]⟩) (LeV []) ?_
  (refine WA_forV (m.vs.length) [14] [1, 62] (fun k => [(14, vI k)]) (fun k => [(1, .box 34 [.own 62, vI (m.st : Int), vI (m.il : Int)]), (62, .arr 49 9 ((m.vs.take k).map rVo))]) (fun k => True) ?h0 ?_)
  case h0 => trivial
  intro i hi _
  have hlk : (m.vs.take i).length ≤ i := by rw [List.length_take]; omega
  rcases Nat.lt_or_ge i m.vs.length with hi' | hi'
  · have t1 : decide ((i : Int) < (m.vs.length : Int)) = true := by simp; omega
    have hv := (h.ok i (by omega)).mono hn
    have hw := take_snoc hi'
    have hs : sizT (nth m.vs i).t ≤ 1000 := by have := hv.t.siz; omega
    have h1 : (nth m.vs i).vo.length ≤ 4000 := by have := hv.vo.len; omega
    have h2 : (nth m.vs i).ac.length ≤ 4000 := by have := hv.ac.len; omega
    have h3 : (nth m.vs i).co.length ≤ 4000 := by have := hv.co.len; omega
    have hhl := hv.hlen (Nat.le_refl _)
    (repeat' (first | ((with_reducible apply WD_id); first | (refine WD_sum ?_) | (refine WD_nxt htb (by exact rfl) ?_) | (refine WD_call (by exact rfl) ?_; first | (refine WD_c0 (atr_m _ ?_) ?_; (exact hyp)) | (refine WD_c0 (cloC_m _ ?_) ?_; (exact hyp))) | (refine WD_idx htb ?_) | (refine WD_ap htb ?_)) | (refine ct ?_) | (with_reducible apply WA_block)))
    refine WA_le (Le_nilM 61 5 8 56 7 rfl rfl rfl rfl) ?_
    (refine WA_forV ((nth m.vs i).he.length) [39] [5, 61] (fun k => [(39, vI k)]) (fun k => [(5, .box 49 [vI (nth m.vs i).nd, vI (nth m.vs i).sq, vI (nth m.vs i).t.k, lI (nth m.vs i).t.ns, lTr (nth m.vs i).t.is, lC (nth m.vs i).vo, lC (nth m.vs i).ac, lC (nth m.vs i).co, .own 61]), (61, .arr 56 7 (((nth m.vs i).he.take k).map rMs))]) (fun k => True) ?h0 ?_)
    case h0 => trivial
    intro j hj _
    have hlj : ((nth m.vs i).he.take j).length ≤ j := by rw [List.length_take]; omega
    rcases Nat.lt_or_ge j (nth m.vs i).he.length with hj' | hj'
    · have t2 : decide ((j : Int) < ((nth m.vs i).he.length : Int)) = true := by simp; omega
      have hm := (hv.he _ (nth_mem (nth m.vs i).he j hj')).1
      have hw2 := take_snoc hj'
      (repeat' (first | ((with_reducible apply WD_id); first | (refine WD_sum ?_) | (refine WD_nxt htb (by exact rfl) ?_) | (refine WD_call (by exact rfl) ?_; first | (refine WD_c0 (ams_m (m := nth (nth m.vs i).he j) ?_) ?_; (exact hyp))) | (refine WD_idx htb ?_) | (refine WD_ap htb ?_)) | (refine ct ?_) | (with_reducible apply WA_block)))
      refine ⟨hj', trivial, ?_⟩
      rw [hw2, List.map_append, List.map_cons, List.map_nil]
      (exact LeV [(61, 48)])
    · have t2 : decide ((j : Int) < ((nth m.vs i).he.length : Int)) = false := by simp; omega
      have e2 : (nth m.vs i).he.take j = (nth m.vs i).he := take_all hj'
      rw [e2]
      refine WA_le (s' := ⟨[(39, vI j), (38, vI ((nth m.vs i).he.length : Int)), (14, vI i), (13, vI (m.vs.length : Int)), (12, lVo m.vs), (5, .ptr 5 0), (2, .ptr 2 0), (1, .ptr 1 0)], [(5, .box 49 (cellsOf (aVo (nth m.vs i)))), (1, .box 34 [.own 62, vI (m.st : Int), vI (m.il : Int)]), (62, .arr 49 9 ((m.vs.take i).map rVo)), (2, .box 34 (cellsOf (aMt mtZ)))]⟩) (LeV []) ?_
      (repeat' (first | ((with_reducible apply WD_id); first | (refine WD_sum ?_) | (refine WD_nxt htb (by exact rfl) ?_) | (refine WD_idx htb ?_) | (refine WD_ap htb ?_)) | (refine ct ?_) | (with_reducible apply WA_block)))
      refine ⟨hi', trivial, ?_⟩
      rw [hw, List.map_append, List.map_cons, List.map_nil]
      (exact LeV [(62, 55)])
  · have t1 : decide ((i : Int) < (m.vs.length : Int)) = false := by simp; omega
    have e1 : m.vs.take i = m.vs := take_all hi'
    rw [e1]
    (repeat' (first | ((with_reducible apply WD_id); first | (refine WD_sum ?_) | (refine WD_nxt htb (by exact rfl) ?_) | (refine WD_idx htb ?_) | (refine WD_ap htb ?_)) | (refine ct ?_) | (with_reducible apply WA_block)))
    (exact glV [(2, .ptr 2 0)] [(2, .box 34 (cellsOf (aMt m)))] (LeV []))
end Go.Proofs.YtdhogcklnehdhaaGreatDoor
namespace Go.Proofs.YtdhogcklnehdhaaGreatDoor
set_option linter.unusedSimpArgs false
set_option linter.unusedVariables false
set_option linter.unnecessarySimpa false
set_option linter.unusedSectionVars false
set_option maxRecDepth 100000
open Go Go.RowKit Go.Am Go.Proofs.Grow
set_option maxHeartbeats 1000000 in
theorem begin_m (c : List Mb) (ill : Nat) (hc : FullC c) (hi : ill < 2 ^ c.length) : FnM Tryz.prog 30 [] [aCf c, vI (ill : Int)] (.tup [aMt ⟨begV c c.length, 0, ill⟩, vI 0]) [] := by
  have hS := hc.okS (s := 0) (Nat.zero_le _)
  have hl := hc.len
  have hp := hc.pos
  have valB := valC_m c hS.cc
  rw [hS.v] at valB
  have valB_m := valB
  have t0 : ((0 : Int) != 0) = false := rfl
  have t1 : (((c.length : Nat) : Int) == 0) = false := by rw [beq_eq_false_iff_ne]; omega
  have t2 : decide ((ill : Int) < 0) = false := by simp only [decide_eq_false_iff_not]; omega
  have t3 : decide ((ill : Int) ≥ ((2 ^ c.length : Nat) : Int)) = false := by simp only [decide_eq_false_iff_not]; omega
  have t4 : (!true) = false := rfl
  have hl61 : c.length ≤ 61 := by omega
  refine FnM.of htb Tryz.func30 rfl rfl rfl rfl rfl fun cx hN h0 => ?_
  (repeat' (first | ((with_reducible apply WD_id); first | (refine WD_sum ?_) | (refine WD_nxt htb (by exact rfl) ?_) | (refine WD_call (by exact rfl) ?_; first | (refine WD_c0 (valB_m) ?_)) | (refine WD_eq (shlN_step rfl rfl rfl) ?_) | (refine WD_idx htb ?_) | (refine WD_ap htb ?_) | (refine WD_f (by exact rfl) (by exact rfl) (by exact known) fun hb => ?_; rw [hb]; clear hb)) | (refine ct ?_) | (with_reducible apply WA_block)))
  refine WA_le (Le_nilM 62 7 0 49 9 rfl rfl rfl rfl) ?_
  (refine WA_forV (c.length) [41] [7, 62] (fun k => [(41, vI k)]) (fun k => [(7, .box 34 [.own 62, vI 0, vI (ill : Int)]), (62, .arr 49 9 ((begV c k).map rVo))]) (fun k => True) ?h0 ?_)
  case h0 => trivial
  intro k hk _
  have hbl := begV_len c k
  have hbl2 : (begV c k).length ≤ 10 := by omega
  rcases Nat.lt_or_ge k c.length with hk' | hk'
  · have d1 : decide ((k : Int) < (c.length : Int)) = true := by simp; omega
    have hst := begV_succ c k
    have hd := hc.decl k hk'
    have hf := (hc.fit k hk').chk
    have t5 : (!(nth c k).decl) = false := by rw [hd]; rfl
    have hk10 : k < 10 := by omega
    (repeat' (first | ((with_reducible apply WD_id); first | (refine WD_sum ?_) | (refine WD_nxt htb (by exact rfl) ?_) | (refine WD_call (by exact rfl) ?_; first | (refine WD_c0 (start_m (k := k) (t := (nth c k).t) ?_ ?_) ?_; (exact hyp); (exact hyp))) | (refine WD_idx htb ?_) | (refine WD_ap htb ?_) | (refine WD_f (by exact rfl) (by exact rfl) (by exact known) fun hb => ?_; rw [hb]; clear hb)) | (refine ct ?_) | (with_reducible apply WA_block)))
    refine ⟨hk', trivial, ?_⟩
    rw [hst, List.map_append, List.map_cons, List.map_nil]
    (exact LeV [(62, 68)])
  · have d1 : decide ((k : Int) < (c.length : Int)) = false := by simp; omega
    obtain rfl : k = c.length := by omega
    (repeat' (first | ((with_reducible apply WD_id); first | (refine WD_sum ?_) | (refine WD_nxt htb (by exact rfl) ?_) | (refine WD_idx htb ?_) | (refine WD_ap htb ?_) | (refine WD_f (by exact rfl) (by exact rfl) (by exact known) fun hb => ?_; rw [hb]; clear hb)) | (refine ct ?_) | (with_reducible apply WA_block)))
    (exact glV [(4, .ptr 4 0), (5, vI 0)] [(4, .box 34 (cellsOf (aMt ⟨begV c c.length, 0, ill⟩)))] (LeV []))
set_option maxHeartbeats 1000000 in
theorem run_m (c : List Mb) (ill : Nat) (l : List Pl) (hc : FullC c) (hi : ill < 2 ^ c.length) (hl : l.length ≤ 400 ∧ ∀ p ∈ l, PlOK c.length p) :
    FnM Tryz.prog 8 [] [aCf c, vI (ill : Int), lPl l] (.tup [aMt (runM l ⟨begV c c.length, 0, ill⟩), .d (.rows 1 ((runD l ⟨begV c c.length, 0, ill⟩ l.length).map rI)), vI 0]) [] := by
  obtain ⟨hll, hpl⟩ := hl
  have h0 := beg_I hc hi
  have hok := fun k => runM_ok hc (l.take k) ⟨begV c c.length, 0, ill⟩ (fun p hp => hpl p (List.mem_of_mem_take hp)) h0.ok h0.inv
  have hbeg_m := begin_m c ill hc hi
  generalize hm0 : (⟨begV c c.length, 0, ill⟩ : Mt) = m0 at *
  have t0 : ((0 : Int) != 0) = false := rfl
  have t1 : decide (((l.length : Nat) : Int) > 400) = false := by simp only [decide_eq_false_iff_not]; omega
  refine FnM.of htb Tryz.func8 rfl rfl rfl rfl rfl fun cx hN h0 => ?_
  (repeat' (first | ((with_reducible apply WD_id); first | (refine WD_sum ?_) | (refine WD_nxt htb (by exact rfl) ?_) | (refine WD_call (by exact rfl) ?_; first | (refine WD_c0 (hbeg_m) ?_)) | (refine WD_idx htb ?_) | (refine WD_ap htb ?_)) | (refine ct ?_) | (with_reducible apply WA_block)))
  refine WA_le (Le_nilT 61 11 29 1 rfl rfl) ?_
  (refine WA_forV (l.length) [32, 11] [9, 61] (fun k => [(32, vI k), (11, .own 61)]) (fun k => [(9, .box 34 (cellsOf (aMt (runM (l.take k) m0)))), (61, .arr 29 1 ((runD l m0 k).map rI))]) (fun k => True) ?h0 ?_)
  case h0 => trivial
  intro k hk _
  have hdl := runD_len l m0 k
  have hdl2 : (runD l m0 k).length ≤ 400 := by omega
  obtain ⟨ok, _, _⟩ := hok k
  rcases Nat.lt_or_ge k l.length with hk' | hk'
  · have d1 : decide ((k : Int) < (l.length : Int)) = true := by simp; omega
    have hst := runM_take (m := m0) hk'
    have hsd : runD l m0 (k + 1) = runD l m0 k ++ [(stpF (runM (l.take k) m0) (nth l k)).2] := rfl
    have hp := hpl _ (nth_mem l k hk')
    rw [hst, hsd]
    generalize runM (l.take k) m0 = m at *
    by_cases he : (stpF m (nth l k)).2 = 0
    · have t2 : ((stpF m (nth l k)).2 == 0) = true := by simpa using he
      rw [stpM_ok he]
      (repeat' (first | ((with_reducible apply WD_id); first | (refine WD_sum ?_) | (refine WD_nxt htb (by exact rfl) ?_) | (refine WD_call (by exact rfl) ?_; first | (refine WD_c0 (step_m (m := m) (p := nth l k) (n := c.length) ?_ ?_) ?_; (exact hyp); (exact hyp))) | (refine WD_idx htb ?_) | (refine WD_ap htb ?_)) | (refine ct ?_) | (with_reducible apply WA_block)))
      refine ⟨hk', trivial, ?_⟩
      rw [List.map_append, List.map_cons, List.map_nil]
      (exact LeV [(61, 48)])
    · have t2 : ((stpF m (nth l k)).2 == 0) = false := by simpa using he
      rw [stpM_no he]
      (repeat' (first | ((with_reducible apply WD_id); first | (refine WD_sum ?_) | (refine WD_nxt htb (by exact rfl) ?_) | (refine WD_call (by exact rfl) ?_; first | (refine WD_c0 (step_m (m := m) (p := nth l k) (n := c.length) ?_ ?_) ?_; (exact hyp); (exact hyp))) | (refine WD_idx htb ?_) | (refine WD_ap htb ?_)) | (refine ct ?_) | (with_reducible apply WA_block)))
      refine ⟨hk', trivial, ?_⟩
      rw [List.map_append, List.map_cons, List.map_nil]
      (exact LeV [(61, 48)])
  · have d1 : decide ((k : Int) < (l.length : Int)) = false := by simp; omega
    obtain rfl : k = l.length := by omega
    rw [List.take_length] at ok ⊢
    (repeat' (first | ((with_reducible apply WD_id); first | (refine WD_sum ?_) | (refine WD_nxt htb (by exact rfl) ?_) | (refine WD_call (by exact rfl) ?_; first | (refine WD_c0 (freshM_m (n := c.length) _ ?_) ?_; (exact hyp))) | (refine WD_idx htb ?_) | (refine WD_ap htb ?_)) | (refine ct ?_) | (with_reducible apply WA_block)))
    (exact glV [(6, .ptr 6 0), (7, .d (.rows 1 ((runD l m0 l.length).map rI))), (8, vI 0)] [(6, .box 34 (cellsOf (aMt (runM l m0))))] (LeV []))
set_option maxHeartbeats 2000000 in
theorem round_m (m : Mt) (n : Nat) (h : MtOK n m) : FnM Tryz.prog 39 [] [aMt m] (.tup [aMt (rndF m).1, vB (rndF m).2]) [] := by
  obtain ⟨hw1, hw2⟩ := well_lt h
  have hl := h.len
  have hn := h.n10
  have h2 := two_le hn
  have hil := h.il
  have nodW := nodes_m (2 ^ m.vs.length - 1 - m.il) hw1
  have e0 : ((2 ^ m.vs.length - 1 - m.il : Nat) : Int) = ((2 ^ m.vs.length : Nat) : Int) - 1 - (m.il : Int) := by rw [hl]; omega
  rw [e0] at nodW
  have nodW_m : FnM Tryz.prog 68 [] [vI (((2 ^ m.vs.length : Nat) : Int) - 1 - (m.il : Int))] (lN (wellN m)) [] := nodW
  have hml : m.vs.length ≤ 61 := by omega
  have hb1 : ((2 ^ m.vs.length : Nat) : Int) ≤ 1024 := by rw [hl]; omega
  have hb2 : (m.il : Int) ≤ 1024 := by omega
  have hwl : (wellN m).length ≤ 10 := nodesTo_len _ 10
  have hro := fun k => rndI_ro (wellN m) hw2 ((wellN m).take k) (m, false) (fun b hb => hw2 b (List.mem_of_mem_take hb)) h
  unfold rndF
  generalize wellN m = w at *
  refine FnM.of htb Tryz.func39 rfl rfl rfl rfl rfl fun cx hN h0 => ?_
  (repeat' (first | ((with_reducible apply WD_id); first | (refine WD_sum ?_) | (refine WD_nxt htb (by exact rfl) ?_) | (refine WD_call (by exact rfl) ?_; first | (refine WD_c0 (nodW_m) ?_)) | (refine WD_eq (shlN_step rfl rfl rfl) ?_) | (refine WD_idx htb ?_)) | (refine ct ?_) | (with_reducible apply WA_block)))
  rw [List.length_map]
  (repeat' (first | ((with_reducible apply WD_id); first | (refine WD_sum ?_) | (refine WD_nxt htb (by exact rfl) ?_) | (refine WD_call (by exact rfl) ?_; first | (refine WD_c0 (nodW_m) ?_)) | (refine WD_idx htb ?_)) | (refine ct ?_) | (with_reducible apply WA_block)))
  (refine WA_forV (w.length) [23, 5] [1] (fun k => [(23, vI k), (5, vB (rndI w (w.take k) (m, false)).2)]) (fun k => [(1, .box 34 (cellsOf (aMt (rndI w (w.take k) (m, false)).1)))]) (fun k => True) ?h0 ?_)
  case h0 => trivial
  intro i hi _
  obtain ⟨_, ok, _⟩ := hro i
  rcases Nat.lt_or_ge i w.length with hi' | hi'
  · have d1 : decide ((i : Int) < (w.length : Int)) = true := by simp; omega
    have hst : rndI w (w.take (i + 1)) (m, false) = rndJ (nth w i) w (rndI w (w.take i) (m, false)) := by
      rw [List.take_succ_eq_append_getElem hi', rndI_snoc, nth_getElem w i hi']
    have ha := hw2 _ (nth_mem w i hi')
    rw [hst]
    generalize rndI w (w.take i) (m, false) = x at *
    have hri := fun j => rndJ_ro ha (w.take j) x (fun b hb => hw2 b (List.mem_of_mem_take hb)) ok
    (repeat' (first | ((with_reducible apply WD_id); first | (refine WD_sum ?_) | (refine WD_nxt htb (by exact rfl) ?_) | (refine WD_idx htb ?_)) | (refine ct ?_) | (with_reducible apply WA_block)))
    (refine WA_forV (w.length) [29, 5] [1] (fun k => [(29, vI k), (5, vB (rndJ (nth w i) (w.take k) x).2)]) (fun k => [(1, .box 34 (cellsOf (aMt (rndJ (nth w i) (w.take k) x).1)))]) (fun k => True) ?h0 ?_)
    case h0 => trivial
    intro j hj _
    obtain ⟨_, ok2, _⟩ := hri j
    rcases Nat.lt_or_ge j w.length with hj' | hj'
    · have d2 : decide ((j : Int) < (w.length : Int)) = true := by simp; omega
      have hst2 : rndJ (nth w i) (w.take (j + 1)) x = sndS (nth w i) (nth w j) (rndJ (nth w i) (w.take j) x) := by
        rw [List.take_succ_eq_append_getElem hj', rndJ_snoc, nth_getElem w j hj']
      have hb := hw2 _ (nth_mem w j hj')
      rw [hst2]
      generalize rndJ (nth w i) (w.take j) x = y at *
      have hp := snd_ok ha hb
      have stpS_m := step_m y.1 (sndP (nth w i) (nth w j)) n ok2 hp
      unfold sndS
      by_cases he : (stpF y.1 (sndP (nth w i) (nth w j))).2 = 0
      · have t2 : ((stpF y.1 (sndP (nth w i) (nth w j))).2 == 0) = true := by simpa using he
        rw [if_pos he]
        (repeat' (first | ((with_reducible apply WD_id); first | (refine WD_sum ?_) | (refine WD_nxt htb (by exact rfl) ?_) | (refine WD_call (by exact rfl) ?_; first | (refine WD_c0 (stpS_m) ?_)) | (refine WD_idx htb ?_)) | (refine ct ?_) | (with_reducible apply WA_block)))
        refine ⟨hj', trivial, ?_⟩
        (exact LeV [])
      · have t2 : ((stpF y.1 (sndP (nth w i) (nth w j))).2 == 0) = false := by simpa using he
        rw [if_neg he]
        (repeat' (first | ((with_reducible apply WD_id); first | (refine WD_sum ?_) | (refine WD_nxt htb (by exact rfl) ?_) | (refine WD_call (by exact rfl) ?_; first | (refine WD_c0 (stpS_m) ?_)) | (refine WD_idx htb ?_)) | (refine ct ?_) | (with_reducible apply WA_block)))
        refine ⟨hj', trivial, ?_⟩
        (exact LeV [])
    · have d2 : decide ((j : Int) < (w.length : Int)) = false := by simp; omega
      have e1 : w.take j = w := take_all hj'
      rw [e1]
      (repeat' (first | ((with_reducible apply WD_id); first | (refine WD_sum ?_) | (refine WD_nxt htb (by exact rfl) ?_) | (refine WD_idx htb ?_)) | (refine ct ?_) | (with_reducible apply WA_block)))
      refine ⟨hi', trivial, ?_⟩
      (exact LeV [])
  · have d1 : decide ((i : Int) < (w.length : Int)) = false := by simp; omega
    have e1 : w.take i = w := take_all hi'
    rw [e1]
    (repeat' (first | ((with_reducible apply WD_id); first | (refine WD_sum ?_) | (refine WD_nxt htb (by exact rfl) ?_) | (refine WD_idx htb ?_)) | (refine ct ?_) | (with_reducible apply WA_block)))
    (exact glV [(2, .ptr 2 0), (3, vB (rndI w w (m, false)).2)] [(2, .box 34 (cellsOf (aMt (rndI w w (m, false)).1)))] (LeV []))
theorem calm_m (m : Mt) (n : Nat) (h : MtOK n m) : FnM Tryz.prog 10 [] [aMt m] (.tup [aMt (clmF 100001 m), vI 0]) [] := by
  have t0 : (!true) = false := rfl
  refine FnM.of htb Tryz.func10 rfl rfl rfl rfl rfl fun cx hN h0 => ?_
  (repeat' (first | ((with_reducible apply WD_id); first | (refine WD_nxt htb (by exact rfl) ?_) | (refine WD_call (by exact rfl) ?_; first | (refine WD_c0 (mval_m (n := n) _ ?_) ?_; (exact hyp)))) | (refine ct ?_) | (with_reducible apply WA_block)))
  (refine WA_anyV (α := Nat × Mt × Bool) (fun x => x.1) ((100001, m, true)) [4, 9, 10, 11, 12, 13, 14] [1] (fun x => [(4, vB x.2.2)]) (fun x => [(1, .box 34 (cellsOf (aMt x.2.1)))]) (fun x => MtOK n x.2.1 ∧ ((x.2.2 = true ∧ 100000 - sumV x.2.1.vs < x.1 ∧ clmF 100001 m = clmF x.1 x.2.1) ∨ (x.2.2 = false ∧ clmF 100001 m = x.2.1))) ?h0 ?_)
  case h0 => exact ⟨h, .inl ⟨rfl, by dsimp only; omega, rfl⟩⟩
  rintro ⟨f, z, b⟩ ⟨hz, hI⟩
  dsimp only at hz hI ⊢
  rcases hI with ⟨rfl, hf, hI⟩ | ⟨rfl, hI⟩
  · obtain ⟨g, rfl⟩ : ∃ g, f = g + 1 := ⟨f - 1, by omega⟩
    obtain ⟨r1, r2, r3⟩ := rnd_ok hz
    have hs := mt_sum r1
    (repeat' (first | ((with_reducible apply WD_id); first | (refine WD_nxt htb (by exact rfl) ?_) | (refine WD_call (by exact rfl) ?_; first | (refine WD_c0 (round_m (m := z) (n := n) ?_) ?_; (exact hyp)))) | (refine ct ?_) | (with_reducible apply WA_block)))
    refine ⟨(g, (rndF z).1, (rndF z).2), by dsimp only; omega, ⟨r1, ?_⟩, ?_⟩
    · dsimp only
      cases e : (rndF z).2 with
      | true =>
        have := r2 e
        exact .inl ⟨rfl, by omega, by rw [hI, clmF, if_pos e]⟩
      | false => exact .inr ⟨rfl, by rw [hI, clmF, if_neg (by simp [e])]⟩
    (exact LeV [])
  · rw [hI]
    (repeat' (first | ((with_reducible apply WD_id); first | (refine WD_nxt htb (by exact rfl) ?_) | (refine WD_call (by exact rfl) ?_; first | (refine WD_c0 (freshM_m (n := n) _ ?_) ?_; (exact hyp)))) | (refine ct ?_) | (with_reducible apply WA_block)))
    (exact glV [(2, .ptr 2 0), (3, vI 0)] [(2, .box 34 (cellsOf (aMt z)))] (LeV []))
end Go.Proofs.YtdhogcklnehdhaaGreatDoor
namespace Go.Proofs.YtdhogcklnehdhaaGreatDoor
set_option linter.unusedSimpArgs false
set_option linter.unusedVariables false
set_option linter.unnecessarySimpa false
set_option linter.unusedSectionVars false
set_option maxRecDepth 100000
open Go Go.RowKit Go.Am Go.Proofs.Grow
/-- A slice of one's own that lies in a variable gets another name. -/
theorem Le_ownM {cx : Cx} {T : List (Nat × AV)} {M : List (Nat × AO)} (g' b k : Nat) {g ty sz : Nat} {rs : List (List D)} {bty : TypeId} {cs cs' : List AV} (hb : lk M b = some (.box bty cs)) (hk : cs[k]? = some (.own g)) (hg : lk M g = some (.arr ty sz rs)) (hg' : lk M g' = none) (hs : spl cs k [.own g'] = some cs') :
    Le cx ⟨T, M⟩ ⟨T, (b, .box bty cs') :: (g', .arr ty sz rs) :: (g, .dead) :: M⟩ := by
  rintro a w ⟨μ, h⟩
  obtain ⟨v, xs, h1, h2, h3, h4, h5⟩ := h.ob g _ hg
  obtain ⟨bl, vs, b1, b2, b3⟩ := h.ob b _ hb
  have hki : k < cs.length := (List.getElem?_eq_some_iff.1 hk).1
  obtain ⟨u, hu⟩ : ∃ u, vs[k]? = some u := ⟨_, List.getElem?_eq_getElem (by have := b3.1; omega)⟩
  have hv := b3.2 k _ u hk hu
  cases hv with
  | @own _ p m2 c2 hb0 =>
    rw [h1] at hb0
    obtain rfl : v = .slice p m2 c2 := by simpa using hb0
    have h6 := h.append (w2 := w) (g' := g') (rs' := rs) (v' := .slice p m2 c2) (ys := xs) hg rfl h1 hg' (Chg.refl _ _) (fun b' hb' => .inl hb') h2 h3 h5 (fun H' hk => h4.mono hk)
    have e2 : upM (lk M) [(g', .arr ty sz rs), (g, .dead)] = lk ((g', .arr ty sz rs) :: (g, .dead) :: M) := by
      funext x
      simp only [upM, lk]
      cases Nat.beq g' x <;> cases Nat.beq g x <;> rfl
    rw [e2] at h6
    have n1 : g' ≠ b := fun e => by rw [e, hb] at hg'; cases hg'
    have n2 : g ≠ b := fun e => by rw [e, hb] at hg; cases hg
    have hb2 : lk ((g', .arr ty sz rs) :: (g, .dead) :: M) b = some (.box bty cs) := by rw [lk_cons]; simp [n1, lk_cons, n2, hb]
    obtain ⟨bl2, vs2, d1, d2, d3⟩ := h6.ob b _ hb2
    have h7 := h6.write (w2 := w) hb2 rfl (o' := .box bty cs') rfl d1 rfl (Chg.refl _ _) (fun H' hkp _ => ⟨bl2, vs2, d1, d2, by
      obtain ⟨s1, s2⟩ := spl_spec hs
      have hl : cs'.length = cs.length := by rw [s1]; simp at s2 ⊢; omega
      refine ⟨by rw [hl]; exact d3.1, fun i c v hc hv => ?_⟩
      have hi : i < cs.length := by rw [← hl]; exact (List.getElem?_eq_some_iff.1 hc).1
      by_cases e2 : i = k
      · subst e2
        have : c = .own g' := by
          rw [s1, List.getElem?_append_left (by simp; omega), List.getElem?_append_right (by rw [List.length_take]; omega)] at hc
          simp [Nat.min_eq_left (Nat.le_of_lt hi)] at hc
          exact hc.symm
        subst this
        have hv2 := d3.2 i _ v hk hv
        have n3 : g' ≠ g := fun e => by rw [e, hg] at hg'; cases hg'
        cases hv2 with
        | @own _ p3 m3 c3 hb3 =>
          rw [show upμ μ g' (.slice p m2 c2) g = μ g by unfold upμ; rw [if_neg (fun e => n3 e.symm)], h1] at hb3
          rw [← Option.some.inj hb3]
          exact .own (upμ_self _ _)
      · have : cs[i]? = some c := by
          rw [s1] at hc
          by_cases e3 : i < k
          · rw [List.getElem?_append_left (by simp; omega), List.getElem?_append_left (by simp; omega), List.getElem?_take_of_lt e3] at hc
            exact hc
          · rw [List.getElem?_append_right (by simp; omega)] at hc
            simp at s2
            simp [Nat.min_eq_left (show k ≤ cs.length by omega), show k + 1 + (i - (k + 1)) = i by omega] at hc
            exact hc
        exact (d3.2 i c v this hv).grow (fun _ _ hk => hk) hkp⟩)
    have e3 : upM (lk ((g', .arr ty sz rs) :: (g, .dead) :: M)) [(b, .box bty cs')] = lk ((b, .box bty cs') :: (g', .arr ty sz rs) :: (g, .dead) :: M) := upM_cons
    rw [e3] at h7
    exact ⟨_, h7⟩
abbrev bxN (g : Nat) (m : Mt) : AO := .box 127 [lVo m.vs, vI (m.st : Int), vI (m.il : Int), .own g]
abbrev plO (l : List Pl) : AO := .arr 88 15 (l.map rPl)
theorem try_m (s : ScS) (p : Pl) (n : Nat) (h : MtOK n s.1 ∧ s.2.length ≤ 1000) (hp : PlOK n p) : FnM Tryz.prog 129 [(32, bxN 63 s.1), (63, plO s.2)] [.ptr 32 0, aPl p] (.tup []) [(32, bxN 64 (tryS p s).1), (64, plO (tryS p s).2), (63, .dead)] := by
  obtain ⟨hm, hl⟩ := h
  unfold tryS
  by_cases he : (stpF s.1 p).2 = 0
  · have t1 : ((stpF s.1 p).2 == 0) = true := by simpa using he
    rw [if_pos he]
    refine FnM.of htb Tryz.func129 rfl rfl rfl rfl rfl fun cx hN h0 => ?_
    (repeat' (first | ((with_reducible apply WD_id); first | (refine WD_nxt htb (by exact rfl) ?_) | (refine WD_call (by exact rfl) ?_; first | (refine WD_c0 (step_m (m := s.1) (p := p) (n := n) ?_ ?_) ?_; (exact hyp); (exact hyp))) | (refine WD_ap htb ?_)) | (refine ct ?_) | (with_reducible apply WA_block)))
    refine gL (.inl rfl) (T' := []) (M' := [(32, bxN 64 (stpF s.1 p).1), (64, .arr 88 15 ((s.2 ++ [p]).map rPl)), (63, .dead)]) ?_ rfl rfl ⟨rfl, rfl, rfl, trivial⟩
    rw [List.map_append, List.map_cons, List.map_nil]
    (exact LeV [(64, 26)])
  · have t1 : ((stpF s.1 p).2 == 0) = false := by simpa using he
    rw [if_neg he]
    refine FnM.of htb Tryz.func129 rfl rfl rfl rfl rfl fun cx hN h0 => ?_
    (repeat' (first | ((with_reducible apply WD_id); first | (refine WD_nxt htb (by exact rfl) ?_) | (refine WD_call (by exact rfl) ?_; first | (refine WD_c0 (step_m (m := s.1) (p := p) (n := n) ?_ ?_) ?_; (exact hyp); (exact hyp))) | (refine WD_ap htb ?_)) | (refine ct ?_) | (with_reducible apply WA_block)))
    refine gL (.inl rfl) (T' := []) (M' := [(32, bxN 64 s.1), (64, plO s.2), (63, .dead)]) ?_ rfl rfl ⟨rfl, rfl, rfl, trivial⟩
    exact Le.trans (Le_ownM 64 32 3 rfl rfl rfl rfl rfl) (LeV [])
theorem alone_m (f : Nat) : FnM Tryz.prog 86 [] [vI (f : Int)] (aTr (aloT f)) [] := by
  refine FnM.of htb Tryz.func86 rfl rfl rfl rfl rfl fun cx hN h0 => ?_
  (repeat' (first | ((with_reducible apply WD_id); first | (refine WD_nxt htb (by exact rfl) ?_)) | (refine ct ?_) | (with_reducible apply WA_block)))
  (exact glV [(2, .ptr 2 0)] [(2, .box 45 [vI 1, lI [(f : Int)], .d (.rows 3 (([] : List Tr).map rTr))])] (LeV []))
/-- What a script that is being written keeps. -/
structure Ts (n il : Nat) (s : ScS) (N : Nat) : Prop where
  ok : MtOK n s.1
  il : s.1.il = il
  len : s.2.length ≤ N
theorem Ts.up {n il N M : Nat} {s : ScS} (h : Ts n il s N) (hm : N ≤ M) : Ts n il s M := ⟨h.ok, h.il, Nat.le_trans h.len hm⟩
theorem Ts.try {n il N : Nat} {s : ScS} {p : Pl} (h : Ts n il s N) (hp : PlOK n p) : Ts n il (tryS p s) (N + 1) := by
  refine ⟨by rw [try_1]; exact h.ok.step hp, by rw [try_1, stp_il]; exact h.il, ?_⟩
  have := h.len
  unfold tryS
  split
  · simp only [List.length_append, List.length_singleton]; omega
  · omega
theorem fold_ts {n il d : Nat} {f : ScS → Nat → ScS} : ∀ (l : List Nat) (s : ScS) (N : Nat), (∀ i ∈ l, ∀ s N, Ts n il s N → Ts n il (f s i) (N + d)) → Ts n il s N → Ts n il (l.foldl f s) (N + d * l.length)
  | [], s, N, _, h => by simpa using h
  | i :: r, s, N, h1, h => by
    have := fold_ts r (f s i) (N + d) (fun j hj => h1 j (by simp [hj])) (h1 i (by simp) s N h)
    rw [List.foldl_cons, List.length_cons, Nat.mul_add, Nat.mul_one, show N + (d * r.length + d) = N + d + d * r.length by omega]
    exact this
theorem fold_snoc {f : ScS → Nat → ScS} {l : List Nat} {s : ScS} {k : Nat} (h : k < l.length) : (l.take (k + 1)).foldl f s = f ((l.take k).foldl f s) (nth l k) := by
  rw [List.take_succ_eq_append_getElem h, List.foldl_append, nth_getElem l k h]; rfl
theorem vot_pl2 {n k : Nat} {x : Cl} (hk : k < n) (hx : okC x = true) : PlOK n (votP k x) := pl0_ok (.inl rfl) hk (by omega) fun _ => hx
theorem lie_pl2 {n k f : Nat} {x : Cl} (hn : n ≤ 10) (hk : k < n) (hf : f < n) (hx : okC x = true) : PlOK n (lieP f k x) :=
  ⟨.inr (.inr (.inr rfl)), ⟨by dsimp only; omega, by dsimp only; omega⟩, ⟨by dsimp only; omega, by dsimp only; omega⟩, fun e => by (cases e), fun _ => ⟨lie_ok hn hf hx, rfl⟩⟩
theorem cvL_ts {n il N k : Nat} {x : Cl} {s : ScS} {l : List Nat} (hn : n ≤ 10) (hk : k < n) (hx : okC x = true) (hl : ∀ f ∈ l, f < n) (h : Ts n il s N) : Ts n il (cvL x k l s) (N + l.length) := by
  have := fold_ts (n := n) (il := il) (d := 1) (f := fun s f => tryS (lieP f k x) s) l s N (fun f hf s N hs => hs.try (lie_pl2 hn hk (hl f hf) hx)) h
  rwa [Nat.one_mul] at this
theorem cvK_ts {n il N k : Nat} {x : Cl} {s : ScS} (hn : n ≤ 10) (hk : k < n) (hx : okC x = true) (hl : ∀ f ∈ nodesN il, f < n) (h : Ts n il s N) : Ts n il (cvK x il s k) (N + 11) :=
  (cvL_ts hn hk hx hl (h.try (vot_pl2 hk hx))).up (by have h10 : (nodesN il).length ≤ 10 := nodesTo_len il 10; omega)
theorem cvT_ts {n il N a : Nat} {s : ScS} {l : List Nat} (ha : a < n) (hl : ∀ b ∈ l, b < n) (h : Ts n il s N) : Ts n il (cvT l s a) (N + l.length) := by
  have := fold_ts (n := n) (il := il) (d := 1) (f := fun s b => tryS (sndP a b) s) l s N (fun b hb s N hs => hs.try (snd_ok ha (hl b hb))) h
  rwa [Nat.one_mul] at this
def rndR (l : List Nat) (s : ScS) : Nat → ScS
  | 0 => s
  | k + 1 => cvR l (rndR l s k)
theorem rndR_ts {n il N : Nat} {s : ScS} {l : List Nat} (hl10 : l.length ≤ 10) (hl : ∀ b ∈ l, b < n) (h : Ts n il s N) : ∀ k, Ts n il (rndR l s k) (N + 100 * k)
  | 0 => h
  | k + 1 => by
    have := fold_ts (n := n) (il := il) (d := 10) (f := cvT l) l (rndR l s k) (N + 100 * k) (fun a ha s N hs => (cvT_ts (hl a ha) hl hs).up (by omega)) (rndR_ts hl10 hl h k)
    exact this.up (by omega)
end Go.Proofs.YtdhogcklnehdhaaGreatDoor
namespace Go.Proofs.YtdhogcklnehdhaaGreatDoor
set_option linter.unusedSimpArgs false
set_option linter.unusedVariables false
set_option linter.unnecessarySimpa false
set_option linter.unusedSectionVars false
set_option maxRecDepth 100000
open Go Go.RowKit Go.Am Go.Proofs.Grow
/-- Who takes part. -/
structure Cvn (n q il : Nat) (x : Cl) : Prop where
  n10 : n ≤ 10
  hq : q < 1024
  hil : il < 1024
  qn : ∀ k ∈ nodesN q, k < n
  iln : ∀ f ∈ nodesN il, f < n
  ox : okC x = true
set_option maxHeartbeats 4000000 in
theorem cvn_m (s : ScS) (n q il : Nat) (x : Cl) (h : Ts n il s 400) (hc : Cvn n q il x) : FnM Tryz.prog 67 [(32, bxN 61 s.1), (61, plO s.2)] [.ptr 32 0, vI (q : Int), aC x] (.tup []) [(32, bxN 62 (cnvF q il x s).1), (62, plO (cnvF q il x s).2), (61, .dead)] := by
  obtain ⟨hn, hq, hil, hqn, hiln, hx⟩ := hc
  have nodC_m := nodes_m q hq
  have nodI := nodes_m il hil
  have hl10 : (nodesN q).length ≤ 10 := nodesTo_len q 10
  have hi10 : (nodesN il).length ≤ 10 := nodesTo_len il 10
  have hts1 : ∀ k, Ts n il (cvV x il ((nodesN q).take k) s) 510 := fun k => by
    have := fold_ts (n := n) (il := il) (d := 11) (f := cvK x il) ((nodesN q).take k) s 400 (fun k hk s N hs => cvK_ts hn (hqn k (List.mem_of_mem_take hk)) hx hiln hs) h
    refine this.up ?_
    rw [List.length_take]; omega
  have hts2 : ∀ k, k ≤ 2 → Ts n il (rndR (nodesN q) (cvV x il (nodesN q) s) k) 710 := fun k hk => by
    have h1 := hts1 (nodesN q).length
    rw [List.take_length] at h1
    exact (rndR_ts hl10 hqn h1 k).up (by omega)
  have hend : cnvF q il x s = rndR (nodesN q) (cvV x il (nodesN q) s) 2 := rfl
  have hcK : ∀ (s : ScS) (k : Nat), cvK x il s k = cvL x k (nodesN il) (tryS (votP k x) s) := fun _ _ => rfl
  rw [hend]
  clear hend
  generalize nodesN q = L at *
  generalize hL2 : nodesN il = L2 at *
  refine FnM.of htb Tryz.func67 rfl rfl rfl rfl rfl fun cx hN h0 => ?_
  (repeat' (first | ((with_reducible apply WD_id); first | (refine WD_sum ?_) | (refine WD_nxt htb (by exact rfl) ?_) | (refine WD_call (by exact rfl) ?_; first | (refine WD_c0 (nodC_m) ?_)) | (refine WD_idx htb ?_)) | (refine ct ?_) | (with_reducible apply WA_block)))
  refine WA_le (s' := ⟨[(20, vI 0), (19, vI (L.length : Int)), (18, lN L), (6, lN L), (5, .ptr 5 0), (0, .ptr 32 0)], [(32, bxN 63 s.1), (63, plO s.2), (61, .dead), (5, .box 86 [vI x.1, vI x.2])]⟩) (Le.trans (Le_ownM 63 32 3 rfl rfl rfl rfl rfl) (LeV [])) ?_
  (refine WA_forV (L.length) [20] [32, 63] (fun k => [(20, vI k)]) (fun k => [(32, bxN 63 (cvV x il (L.take k) s).1), (63, plO (cvV x il (L.take k) s).2)]) (fun k => True) ?h0 ?_)
  case h0 => trivial
  intro i hi _
  have ty := hts1 i
  rcases Nat.lt_or_ge i L.length with hi' | hi'
  · have d1 : decide ((i : Int) < (L.length : Int)) = true := by simp; omega
    have hst : cvV x il (L.take (i + 1)) s = cvK x il (cvV x il (L.take i) s) (nth L i) := fold_snoc hi'
    rw [hst, hcK]
    have hkn := hqn _ (nth_mem L i hi')
    clear hst hts2
    generalize cvV x il (L.take i) s = y at *
    have hv := vot_pl2 hkn hx
    have hy : MtOK n y.1 ∧ y.2.length ≤ 1000 := ⟨ty.ok, by have := ty.len; omega⟩
    have ty2 := ty.try hv
    (repeat' (first | ((with_reducible apply WD_id); first | (refine WD_sum ?_) | (refine WD_nxt htb (by exact rfl) ?_) | (refine WD_idx htb ?_)) | (refine ct ?_) | (with_reducible apply WA_block)))
    (repeat' (first | ((with_reducible apply WD_id); first | (refine WD_sum ?_) | (refine WD_nxt htb (by exact rfl) ?_) | (refine WD_call (by exact rfl) ?_; first | (refine WD_cM (try_m (s := y) (p := votP (nth L i) x) (n := n) ?_ ?_) ?_; (exact hyp); (exact hyp))) | (refine WD_idx htb ?_)) | ((with_reducible apply WD_end); (first | exact no_draw | (intro _; kernel_rfl)); try simp only [thn, inB, List.length_map, List.cons_append, List.nil_append])))
    (repeat' (first | (with_reducible apply WA_seq) | ((with_reducible apply gCt); exact rfl; exact rfl) | ((with_reducible apply gCf); exact rfl; exact rfl) | ((with_reducible apply gCk); exact rfl; exact known; intro hb; rw [hb]; clear hb) | ((with_reducible apply gCn); exact rfl; exact known; intro hb; rw [hb]; clear hb) | (with_reducible apply WA_block) | ((with_reducible first | apply WA_skip | apply WA_ret | apply WA_exit | apply WA_label); try simp only [thn, inB, List.length_map, List.cons_append, List.nil_append])))
    generalize tryS (votP (nth L i) x) y = y2 at *
    have nodI2 := nodI
    rw [← ty2.il] at nodI2
    have nodI_m := nodI2
    refine WA_le (s' := ⟨[(8, vI ((nth L i : Nat) : Int)), (20, vI i), (19, vI (L.length : Int)), (18, lN L), (6, lN L), (5, .ptr 5 0), (0, .ptr 32 0)], [(32, bxN 63 y2.1), (63, plO y2.2), (61, .dead), (5, .box 86 [vI x.1, vI x.2])]⟩) (LeV [(63, 64)]) ?_
    (repeat' (first | ((with_reducible apply WD_id); first | (refine WD_sum ?_) | (refine WD_nxt htb (by exact rfl) ?_) | (refine WD_call (by exact rfl) ?_; first | (refine WD_c0 (nodI_m) ?_)) | (refine WD_idx htb ?_)) | (refine ct ?_) | (with_reducible apply WA_block)))
    have htL : ∀ k, Ts n il (cvL x (nth L i) (L2.take k) y2) 521 := fun k => by
      have := cvL_ts (l := L2.take k) hn hkn hx (fun f hf => hiln f (List.mem_of_mem_take hf)) ty2
      refine this.up ?_
      rw [List.length_take]; omega
    (refine WA_forV (L2.length) [36] [32, 63] (fun k => [(36, vI k)]) (fun k => [(32, bxN 63 (cvL x (nth L i) (L2.take k) y2).1), (63, plO (cvL x (nth L i) (L2.take k) y2).2)]) (fun k => True) ?h0 ?_)
    case h0 => trivial
    intro j hj _
    have tz := htL j
    rcases Nat.lt_or_ge j L2.length with hj' | hj'
    · have d2 : decide ((j : Int) < (L2.length : Int)) = true := by simp; omega
      have hst : cvL x (nth L i) (L2.take (j + 1)) y2 = tryS (lieP (nth L2 j) (nth L i) x) (cvL x (nth L i) (L2.take j) y2) := fold_snoc (f := fun s f => tryS (lieP f (nth L i) x) s) hj'
      rw [hst]
      have hfn := hiln _ (nth_mem L2 j hj')
      clear hst htL
      generalize cvL x (nth L i) (L2.take j) y2 = z at *
      have hp := lie_pl2 hn hkn hfn hx
      have hz : MtOK n z.1 ∧ z.2.length ≤ 1000 := ⟨tz.ok, by have := tz.len; omega⟩
      (repeat' (first | ((with_reducible apply WD_id); first | (refine WD_sum ?_) | (refine WD_nxt htb (by exact rfl) ?_) | (refine WD_call (by exact rfl) ?_; first | (refine WD_c0 (alone_m (f := nth L2 j)) ?_) | (refine WD_cM (try_m (s := z) (p := lieP (nth L2 j) (nth L i) x) (n := n) ?_ ?_) ?_; (exact hyp); (exact hyp))) | (refine WD_idx htb ?_)) | (refine ct ?_) | (with_reducible apply WA_block)))
      refine ⟨hj', trivial, ?_⟩
      (exact LeV [(63, 64)])
    · have d2 : decide ((j : Int) < (L2.length : Int)) = false := by simp; omega
      have e2 : L2.take j = L2 := take_all hj'
      rw [e2]
      (repeat' (first | ((with_reducible apply WD_id); first | (refine WD_sum ?_) | (refine WD_nxt htb (by exact rfl) ?_) | (refine WD_idx htb ?_)) | (refine ct ?_) | (with_reducible apply WA_block)))
      refine ⟨hi', trivial, ?_⟩
      (exact LeV [])
  · have d1 : decide ((i : Int) < (L.length : Int)) = false := by simp; omega
    have e1 : L.take i = L := take_all hi'
    rw [e1]
    clear hts1 ty nodI hcK
    generalize cvV x il L s = s1 at *
    (repeat' (first | ((with_reducible apply WD_id); first | (refine WD_sum ?_) | (refine WD_nxt htb (by exact rfl) ?_) | (refine WD_idx htb ?_)) | (refine ct ?_) | (with_reducible apply WA_block)))
    refine WA_le (s' := ⟨[(56, vI 0), (6, lN L), (0, .ptr 32 0)], [(32, bxN 63 s1.1), (63, plO s1.2), (61, .dead)]⟩) (LeV []) ?_
    (refine WA_forV (2) [56] [32, 63] (fun k => [(56, vI k)]) (fun k => [(32, bxN 63 (rndR L s1 k).1), (63, plO (rndR L s1 k).2)]) (fun k => True) ?h0 ?_)
    case h0 => trivial
    intro r hr _
    rcases Nat.lt_or_ge r 2 with hr' | hr'
    · have d3 : decide ((r : Int) < 2) = true := by simp; omega
      have tr := hts2 r (by omega)
      have hst : rndR L s1 (r + 1) = L.foldl (cvT L) (rndR L s1 r) := rfl
      rw [hst]
      have htI : ∀ k, Ts n il ((L.take k).foldl (cvT L) (rndR L s1 r)) 810 := fun k => by
        have := fold_ts (n := n) (il := il) (d := 10) (f := cvT L) (L.take k) (rndR L s1 r) 710 (fun a ha s N hs => (cvT_ts (hqn a (List.mem_of_mem_take ha)) hqn hs).up (by omega)) tr
        refine this.up ?_
        rw [List.length_take]; omega
      clear hst hts2
      generalize rndR L s1 r = z at *
      (repeat' (first | ((with_reducible apply WD_id); first | (refine WD_sum ?_) | (refine WD_nxt htb (by exact rfl) ?_) | (refine WD_idx htb ?_)) | (refine ct ?_) | (with_reducible apply WA_block)))
      (refine WA_forV (L.length) [60] [32, 63] (fun k => [(60, vI k)]) (fun k => [(32, bxN 63 ((L.take k).foldl (cvT L) z).1), (63, plO ((L.take k).foldl (cvT L) z).2)]) (fun k => True) ?h0 ?_)
      case h0 => trivial
      intro a ha _
      have ta := htI a
      rcases Nat.lt_or_ge a L.length with ha' | ha'
      · have d4 : decide ((a : Int) < (L.length : Int)) = true := by simp; omega
        have hst : (L.take (a + 1)).foldl (cvT L) z = L.foldl (fun s b => tryS (sndP (nth L a) b) s) ((L.take a).foldl (cvT L) z) := fold_snoc ha'
        rw [hst]
        have han := hqn _ (nth_mem L a ha')
        have htJ : ∀ k, Ts n il ((L.take k).foldl (fun s b => tryS (sndP (nth L a) b) s) ((L.take a).foldl (cvT L) z)) 820 := fun k => by
          have := cvT_ts (l := L.take k) han (fun b hb => hqn b (List.mem_of_mem_take hb)) ta
          refine this.up ?_
          rw [List.length_take]; omega
        clear hst htI
        generalize (L.take a).foldl (cvT L) z = w at *
        (repeat' (first | ((with_reducible apply WD_id); first | (refine WD_sum ?_) | (refine WD_nxt htb (by exact rfl) ?_) | (refine WD_idx htb ?_)) | (refine ct ?_) | (with_reducible apply WA_block)))
        (refine WA_forV (L.length) [66] [32, 63] (fun k => [(66, vI k)]) (fun k => [(32, bxN 63 ((L.take k).foldl (fun s b => tryS (sndP (nth L a) b) s) w).1), (63, plO ((L.take k).foldl (fun s b => tryS (sndP (nth L a) b) s) w).2)]) (fun k => True) ?h0 ?_)
        case h0 => trivial
        intro b hb _
        have tb := htJ b
        rcases Nat.lt_or_ge b L.length with hb' | hb'
        · have d5 : decide ((b : Int) < (L.length : Int)) = true := by simp; omega
          have hst : (L.take (b + 1)).foldl (fun s b => tryS (sndP (nth L a) b) s) w = tryS (sndP (nth L a) (nth L b)) ((L.take b).foldl (fun s b => tryS (sndP (nth L a) b) s) w) := fold_snoc (f := fun s b => tryS (sndP (nth L a) b) s) hb'
          rw [hst]
          have hbn := hqn _ (nth_mem L b hb')
          clear hst htJ
          generalize (L.take b).foldl (fun s b => tryS (sndP (nth L a) b) s) w = u at *
          have hp := snd_ok han hbn
          have hu : MtOK n u.1 ∧ u.2.length ≤ 1000 := ⟨tb.ok, by have := tb.len; omega⟩
          (repeat' (first | ((with_reducible apply WD_id); first | (refine WD_sum ?_) | (refine WD_nxt htb (by exact rfl) ?_) | (refine WD_call (by exact rfl) ?_; first | (refine WD_cM (try_m (s := u) (p := sndP (nth L a) (nth L b)) (n := n) ?_ ?_) ?_; (exact hyp); (exact hyp))) | (refine WD_idx htb ?_)) | (refine ct ?_) | (with_reducible apply WA_block)))
          refine ⟨hb', trivial, ?_⟩
          (exact LeV [(63, 64)])
        · have d5 : decide ((b : Int) < (L.length : Int)) = false := by simp; omega
          have e5 : L.take b = L := take_all hb'
          rw [e5]
          (repeat' (first | ((with_reducible apply WD_id); first | (refine WD_sum ?_) | (refine WD_nxt htb (by exact rfl) ?_) | (refine WD_idx htb ?_)) | (refine ct ?_) | (with_reducible apply WA_block)))
          refine ⟨ha', trivial, ?_⟩
          (exact LeV [])
      · have d4 : decide ((a : Int) < (L.length : Int)) = false := by simp; omega
        have e4 : L.take a = L := take_all ha'
        rw [e4]
        (repeat' (first | ((with_reducible apply WD_id); first | (refine WD_sum ?_) | (refine WD_nxt htb (by exact rfl) ?_) | (refine WD_idx htb ?_)) | (refine ct ?_) | (with_reducible apply WA_block)))
        refine ⟨hr', trivial, ?_⟩
        (exact LeV [])
    · have d3 : decide ((r : Int) < 2) = false := by simp; omega
      obtain rfl : r = 2 := by omega
      (repeat' (first | ((with_reducible apply WD_id); first | (refine WD_sum ?_) | (refine WD_nxt htb (by exact rfl) ?_) | (refine WD_idx htb ?_)) | (refine ct ?_) | (with_reducible apply WA_block)))
      refine gL (.inl rfl) (T' := []) (M' := [(32, bxN 62 (rndR L s1 2).1), (62, plO (rndR L s1 2).2), (61, .dead)]) ?_ rfl rfl ⟨rfl, rfl, rfl, trivial⟩
      (exact LeV [(62, 63)])
end Go.Proofs.YtdhogcklnehdhaaGreatDoor
