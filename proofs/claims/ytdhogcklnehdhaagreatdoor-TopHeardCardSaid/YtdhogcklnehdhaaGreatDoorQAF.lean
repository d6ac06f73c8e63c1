/- Contracts: sets in their order, intersection, dangers. -/
import Derived.Test.YtdhogcklnehdhaaGreatDoorQAE
import Derived.Test.YtdhogcklnehdhaaGreatDoorQAD
namespace Go.Proofs.YtdhogcklnehdhaaGreatDoor
set_option linter.unusedSimpArgs false
set_option linter.unusedVariables false
set_option linter.unnecessarySimpa false
set_option linter.unusedSectionVars false
set_option maxRecDepth 100000
open Go Go.RowKit Go.Am Go.Proofs.Grow
section
variable {o : Oper} {t t' : TypeId} {x y : Operand} {T : Nat → Option AV} {M : Nat → Option AO} {b : Nat}
theorem shlP_step (ho : o.op = .binOp .shl t x y t') (hx : evA T x = some (vI 1)) (hy : evA T y = some (vI ((b : Int) + 1))) (h0 : b + 1 ≤ 61 := by exact num) : StepOK Tryz.prog o T M ⟨vI ((2 ^ (b + 1) : Nat) : Int), [], []⟩ :=
  shlN_step (b := b + 1) ho hx hy h0
end
theorem mbsA_m (c : List Mb) (hc : OkC c) : FnM Tryz.prog 141 [] [aCf c] (vI (memN c : Nat)) [] := by
  have hl := hc.len
  have h2 := two_le hl
  have h3 : 0 < 2 ^ c.length := Nat.pow_pos (by decide)
  refine FnM.of htb Tryz.func141 rfl rfl rfl rfl rfl fun cx hN h0 => ?_
  have hl61 : (c.map rMb).length ≤ 61 := by rw [List.length_map]; omega
  have h4 : 2 ^ (c.map rMb).length ≤ 1024 := by rw [List.length_map]; omega
  (repeat' (first | ((with_reducible apply WD_id); first | (refine WD_sum ?_) | (refine WD_nxt htb (by exact rfl) ?_) | (refine WD_eq (shlN_step rfl rfl rfl) ?_)) | (refine ct ?_) | (with_reducible apply WA_block)))
  refine gE (.inr rfl) rfl (congrArg vI ?_) trivial
  simp only [List.length_map] at *
  show _ = ((2 ^ c.length - 1 : Nat) : Int)
  omega
theorem mbsC_m (c : List Mb) (hc : OkC c) : FnM Tryz.prog 126 [] [aCf c] (vI (memN c : Nat)) [] := by
  have hl := hc.len
  have h2 := two_le hl
  have h3 : 0 < 2 ^ c.length := Nat.pow_pos (by decide)
  refine FnM.of htb Tryz.func126 rfl rfl rfl rfl rfl fun cx hN h0 => ?_
  have hl61 : (c.map rMb).length ≤ 61 := by rw [List.length_map]; omega
  have h4 : 2 ^ (c.map rMb).length ≤ 1024 := by rw [List.length_map]; omega
  (repeat' (first | ((with_reducible apply WD_id); first | (refine WD_sum ?_) | (refine WD_nxt htb (by exact rfl) ?_) | (refine WD_eq (shlN_step rfl rfl rfl) ?_)) | (refine ct ?_) | (with_reducible apply WA_block)))
  refine gE (.inr rfl) rfl (congrArg vI ?_) trivial
  simp only [List.length_map] at *
  show _ = ((2 ^ c.length - 1 : Nat) : Int)
  omega
theorem mbsD_m (c : List Mb) (hc : OkC c) : FnM Tryz.prog 85 [] [aCf c] (vI (memN c : Nat)) [] := by
  have hl := hc.len
  have h2 := two_le hl
  have h3 : 0 < 2 ^ c.length := Nat.pow_pos (by decide)
  refine FnM.of htb Tryz.func85 rfl rfl rfl rfl rfl fun cx hN h0 => ?_
  have hl61 : (c.map rMb).length ≤ 61 := by rw [List.length_map]; omega
  have h4 : 2 ^ (c.map rMb).length ≤ 1024 := by rw [List.length_map]; omega
  (repeat' (first | ((with_reducible apply WD_id); first | (refine WD_sum ?_) | (refine WD_nxt htb (by exact rfl) ?_) | (refine WD_eq (shlN_step rfl rfl rfl) ?_)) | (refine ct ?_) | (with_reducible apply WA_block)))
  refine gE (.inr rfl) rfl (congrArg vI ?_) trivial
  simp only [List.length_map] at *
  show _ = ((2 ^ c.length - 1 : Nat) : Int)
  omega
theorem belowN_m (s n : Nat) (hn : n ≤ 10) : FnM Tryz.prog 133 [] [vI (s : Int), vI (n : Int)] (vB (decide (s < 2 ^ n))) [] := by
  have h2 := two_le hn
  have h61 : n ≤ 61 := by omega
  have t1 : decide ((s : Int) ≥ 0) = true := by simp
  refine FnM.of htb Tryz.func133 rfl rfl rfl rfl rfl fun cx hN h0 => ?_
  (repeat' (first | ((with_reducible apply WD_id); first | (refine WD_nxt htb (by exact rfl) ?_) | (refine WD_eq (shlN_step rfl rfl rfl) ?_)) | (refine ct ?_) | (with_reducible apply WA_block)))
  exact gE (.inr rfl) rfl (congrArg vB (by rw [Bool.eq_iff_iff]; simp only [decide_eq_true_eq]; omega)) trivial
theorem nextSet_m (s n : Nat) (hn : n ≤ 10) (hs : s < 2 ^ n) (size_m : ∀ (s : Nat) (hs : s < 1024), FnM Tryz.prog 178 [] [vI (s : Int)] (vI (popN s : Int)) []) :
    FnM Tryz.prog 127 [] [vI (s : Int), vI (n : Int)] (.tup [vI (uhR (nextF s n)).1, vB (uhR (nextF s n)).2]) [] := by
  have h2 := two_le hn
  have hs10 : s < 1024 := by omega
  have hp := pop_bd hn hs
  have t1 : decide ((n : Int) < 0) = false := by simp
  have t2 : decide ((n : Int) > 10) = false := by simp; omega
  have t3 : (!decide (s < 2 ^ n)) = false := by simp; omega
  refine FnM.of htb Tryz.func127 rfl rfl rfl rfl rfl fun cx hN h0 => ?_
  (repeat' (first | ((with_reducible apply WD_id); first | (refine WD_sum ?_) | (refine WD_nxt htb (by exact rfl) ?_) | (refine WD_call (by exact rfl) ?_; first | (refine WD_c0 (belowN_m _ _ ?_) ?_; (exact hyp)) | (refine WD_c0 (size_m _ ?_) ?_; (exact hyp))) | (refine WD_f (by exact rfl) (by exact rfl) (by exact known) fun hb => ?_; rw [hb]; clear hb)) | (refine ct ?_) | (with_reducible apply WA_block)))
  rw [show (s : Int) + 1 = ((s + 1 : Nat) : Int) from rfl]
  (refine WA_anyV (α := Nat) (fun x => 2 ^ n - x) (s + 1) [7] [] (fun x => [(7, vI ((x : Nat) : Int))]) (fun x => []) (fun x => s < x ∧ x ≤ 2 ^ n ∧ nxS (popN s) (2 ^ n - (s + 1)) (s + 1) = nxS (popN s) (2 ^ n - x) x) ?h0 ?_)
  case h0 => exact ⟨by omega, by omega, rfl⟩
  rintro x ⟨hx1, hx2, hI⟩
  rcases Nat.lt_or_ge x (2 ^ n) with hx | hx
  · have t4 : decide (x < 2 ^ n) = true := by simp; omega
    have hx10 : x < 1024 := by omega
    obtain ⟨f, hf⟩ : ∃ f, 2 ^ n - x = f + 1 := ⟨2 ^ n - x - 1, by omega⟩
    rw [hf, nxS] at hI
    by_cases he : popN x = popN s
    · have t5 : (((popN x : Nat) : Int) == ((popN s : Nat) : Int)) = true := by simp [he]
      rw [if_pos he] at hI
      have e : nextF s n = some x := by unfold nextF; rw [hI]
      rw [e]
      (repeat' (first | ((with_reducible apply WD_id); first | (refine WD_sum ?_) | (refine WD_nxt htb (by exact rfl) ?_) | (refine WD_call (by exact rfl) ?_; first | (refine WD_c0 (belowN_m _ _ ?_) ?_; (exact hyp)) | (refine WD_c0 (size_m _ ?_) ?_; (exact hyp))) | (refine WD_f (by exact rfl) (by exact rfl) (by exact known) fun hb => ?_; rw [hb]; clear hb)) | (refine ct ?_) | (with_reducible apply WA_block)))
      exact gE (.inr rfl) rfl rfl trivial
    · have t5 : (((popN x : Nat) : Int) == ((popN s : Nat) : Int)) = false := by simp <;> omega
      rw [if_neg he, show f = 2 ^ n - (x + 1) by omega] at hI
      (repeat' (first | ((with_reducible apply WD_id); first | (refine WD_sum ?_) | (refine WD_nxt htb (by exact rfl) ?_) | (refine WD_call (by exact rfl) ?_; first | (refine WD_c0 (belowN_m _ _ ?_) ?_; (exact hyp)) | (refine WD_c0 (size_m _ ?_) ?_; (exact hyp))) | (refine WD_f (by exact rfl) (by exact rfl) (by exact known) fun hb => ?_; rw [hb]; clear hb)) | (refine ct ?_) | (with_reducible apply WA_block)))
      refine ⟨x + 1, by omega, ⟨by omega, by omega, hI⟩, ?_⟩
      rw [show ((x + 1 : Nat) : Int) = (x : Int) + 1 from rfl]
      (exact LeV [])
  · have t4 : decide (x < 2 ^ n) = false := by simp; omega
    obtain rfl : x = 2 ^ n := by omega
    rw [Nat.sub_self, nxS] at hI
    by_cases he : popN s = n
    · have t5 : (((popN s : Nat) : Int) == (n : Int)) = true := by simp [he]
      have e : nextF s n = none := by unfold nextF; rw [hI]; simp [he]
      rw [e]
      (repeat' (first | ((with_reducible apply WD_id); first | (refine WD_sum ?_) | (refine WD_nxt htb (by exact rfl) ?_) | (refine WD_call (by exact rfl) ?_; first | (refine WD_c0 (belowN_m _ _ ?_) ?_; (exact hyp))) | (refine WD_f (by exact rfl) (by exact rfl) (by exact known) fun hb => ?_; rw [hb]; clear hb)) | (refine ct ?_) | (with_reducible apply WA_block)))
      exact gE (.inr rfl) rfl rfl trivial
    · have t5 : (((popN s : Nat) : Int) == (n : Int)) = false := by simp <;> omega
      have e : nextF s n = some (2 ^ (popN s + 1) - 1) := by unfold nextF; rw [hI]; simp [he]
      have hp3 : 2 ^ (popN s + 1) ≤ 2 ^ 10 := Nat.pow_le_pow_right (by decide) (by omega)
      have hp4 : 0 < 2 ^ (popN s + 1) := Nat.pow_pos (by decide)
      have hp61 : popN s + 1 ≤ 61 := by omega
      rw [e]
      (repeat' (first | ((with_reducible apply WD_id); first | (refine WD_sum ?_) | (refine WD_nxt htb (by exact rfl) ?_) | (refine WD_call (by exact rfl) ?_; first | (refine WD_c0 (belowN_m _ _ ?_) ?_; (exact hyp))) | (refine WD_eq (shlP_step rfl rfl rfl) ?_) | (refine WD_f (by exact rfl) (by exact rfl) (by exact known) fun hb => ?_; rw [hb]; clear hb)) | (refine ct ?_) | (with_reducible apply WA_block)))
      refine gE (.inr rfl) rfl ?_ trivial
      show AV.tup [vI (((2 ^ (popN s + 1) : Nat) : Int) - 1), vB true] = AV.tup [vI ((2 ^ (popN s + 1) - 1 : Nat) : Int), vB true]
      rw [show ((2 ^ (popN s + 1) - 1 : Nat) : Int) = ((2 ^ (popN s + 1) : Nat) : Int) - 1 by omega]
theorem fndN_eq (c : List Mb) {s : Nat} (hl : c.length ≤ 10) (hs : s < 2 ^ c.length) : fndN c s = if quoN c s = true ∧ (greatN c (andn (memN c) s)).1 ≠ 0 then (s, (greatN c (andn (memN c) s)).1) else match nextF s c.length with
    | none => (0, 0)
    | some t => fndN c t := by
  rw [fndN]
  split
  · rfl
  · cases h : nextF s c.length with
    | none => rfl
    | some t => simp only; rw [dif_pos (next_some hl hs h).2]
def muO : Option Nat → Nat
  | none => 0
  | some y => muN y + 2
def FndI (c : List Mb) : Option Nat → Prop
  | none => fndN c 0 = (0, 0)
  | some x => x < 2 ^ c.length ∧ fndN c 0 = fndN c x
theorem find_m (c : List Mb) (hc : OkC c) (size_m : ∀ (s : Nat) (hs : s < 1024), FnM Tryz.prog 178 [] [vI (s : Int)] (vI (popN s : Int)) []) :
    FnM Tryz.prog 63 [] [aCf c] (.tup [vI ((fndN c 0).1 : Int), vI ((fndN c 0).2 : Int)]) [] := by
  have hl := hc.len
  have h2 := two_le hl
  have hm := mem_lt hl
  have h3 : 0 < 2 ^ c.length := Nat.pow_pos (by decide)
  refine FnM.of htb Tryz.func63 rfl rfl rfl rfl rfl fun cx hN h0 => ?_
  (repeat' (first | ((with_reducible apply WD_id); first | (refine WD_nxt htb (by exact rfl) ?_)) | (refine ct ?_) | (with_reducible apply WA_block)))
  (refine WA_anyV (α := Option Nat) (fun x => muO x) (some 0) [5, 6] [] (fun x => [(5, vI (uhR x).1), (6, vB (uhR x).2)]) (fun x => []) (fun x => FndI c x) ?h0 ?_)
  case h0 => exact ⟨h3, rfl⟩
  rintro (_ | x) hI
  · have t1 : (uhR (none : Option Nat)).2 = false := rfl
    have hI : fndN c 0 = (0, 0) := hI
    rw [hI]
    (repeat' (first | ((with_reducible apply WD_id); first | (refine WD_nxt htb (by exact rfl) ?_)) | (refine ct ?_) | (with_reducible apply WA_block)))
    exact gE (.inr rfl) rfl rfl trivial
  obtain ⟨hx, hI⟩ : x < 2 ^ c.length ∧ fndN c 0 = fndN c x := hI
  have hx10 : x < 1024 := by omega
  have ha := andn_lt10 (b := x) hm
  have hg := great_lt c ha
  have t1 : (uhR (some x)).2 = true := rfl
  have nextS_m := nextSet_m x c.length hl hx size_m
  rw [fndN_eq c hl hx] at hI
  have hstep : ¬ (quoN c x = true ∧ (greatN c (andn (memN c) x)).1 ≠ 0) → FndI c (nextF x c.length) ∧ muO (nextF x c.length) < muO (some x) := fun h => by
    rw [if_neg h] at hI
    cases hn : nextF x c.length with
    | none => rw [hn] at hI; exact ⟨hI, by simp [muO]⟩
    | some t =>
      rw [hn] at hI
      have := next_some hl hx hn
      exact ⟨⟨this.1, hI⟩, by simp only [muO]; omega⟩
  cases hq : quoN c x with
  | false =>
    have t2 : (!quoN c x) = true := by rw [hq]; rfl
    obtain ⟨k1, k2⟩ := hstep (by simp [hq])
    (repeat' (first | ((with_reducible apply WD_id); first | (refine WD_nxt htb (by exact rfl) ?_) | (refine WD_call (by exact rfl) ?_; first | (refine WD_c0 (quo_m _ _ ?_ ?_) ?_; (exact hyp); (exact hyp)) | (refine WD_c0 (nextS_m) ?_))) | (refine ct ?_) | (with_reducible apply WA_block)))
    refine ⟨nextF x c.length, k2, k1, ?_⟩
    (exact LeV [])
  | true =>
    have t2 : (!quoN c x) = false := by rw [hq]; rfl
    by_cases hz : (greatN c (andn (memN c) x)).1 = 0
    · have t3 : (((greatN c (andn (memN c) x)).1 : Int) != 0) = false := by simp [hz]
      obtain ⟨k1, k2⟩ := hstep (by simp [hz])
      (repeat' (first | ((with_reducible apply WD_id); first | (refine WD_nxt htb (by exact rfl) ?_) | (refine WD_call (by exact rfl) ?_; first | (refine WD_c0 (quo_m _ _ ?_ ?_) ?_; (exact hyp); (exact hyp)) | (refine WD_c0 (mbsC_m _ ?_) ?_; (exact hyp)) | (refine WD_c0 (great_m _ _ ?_ ?_) ?_; (exact hyp); (exact hyp)) | (refine WD_c0 (nextS_m) ?_)) | (refine WD_eq (bnotN_step rfl rfl rfl) ?_)) | (refine ct ?_) | (with_reducible apply WA_block)))
      refine ⟨nextF x c.length, k2, k1, ?_⟩
      (exact LeV [])
    · have t3 : (((greatN c (andn (memN c) x)).1 : Int) != 0) = true := by simp [hz]
      rw [if_pos ⟨hq, hz⟩] at hI
      rw [hI]
      (repeat' (first | ((with_reducible apply WD_id); first | (refine WD_nxt htb (by exact rfl) ?_) | (refine WD_call (by exact rfl) ?_; first | (refine WD_c0 (quo_m _ _ ?_ ?_) ?_; (exact hyp); (exact hyp)) | (refine WD_c0 (mbsC_m _ ?_) ?_; (exact hyp)) | (refine WD_c0 (great_m _ _ ?_ ?_) ?_; (exact hyp); (exact hyp))) | (refine WD_eq (bnotN_step rfl rfl rfl) ?_)) | (refine ct ?_) | (with_reducible apply WA_block)))
      exact gE (.inr rfl) rfl rfl trivial
end Go.Proofs.YtdhogcklnehdhaaGreatDoor
