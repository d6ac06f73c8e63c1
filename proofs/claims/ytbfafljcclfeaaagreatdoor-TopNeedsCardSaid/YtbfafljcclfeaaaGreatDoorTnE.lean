/- Contracts: configurations that are right; who is blocked; what may be accepted. -/
import Derived.Test.YtbfafljcclfeaaaGreatDoorTnD
namespace Go.Proofs.YtbfafljcclfeaaaGreatDoor
set_option linter.unusedSimpArgs false
set_option linter.unusedVariables false
set_option linter.unnecessarySimpa false
set_option linter.unusedSectionVars false
set_option maxRecDepth 100000
open Go Go.RowKit Go.Am Go.Proofs.Grow

section
variable {o : Oper} {t t' : TypeId} {x y : Operand} {T : Nat → Option AV} {M : Nat → Option AO} {b : Nat}
theorem bnotE_step (ho : o.op = .binOp .andNot t x y t') (hx : evA T x = some (vI 1023)) (hy : evA T y = some (vI (b : Int))) (hb : b < 4611686018427387904 := by exact num) : StepOK Tryz.prog o T M ⟨vI ((andn 1023 b : Nat) : Int), [], []⟩ :=
  bnotN_step (a := 1023) ho hx hy (by decide) hb
end
abbrev aMb (m : Mb) : AV := .agg [vB m.decl, vI m.t.k, lI m.t.ns, lTr m.t.is]
def blankT (t : Tr) : Bool := (t.k == 0) && ((t.ns.length == 0) && (t.is.length == 0))
theorem blank_m (t : Tr) (hs : sizT t ≤ 1000) : FnM Tryz.prog 92 [] [aTr t] (vB (blankT t)) [] := by
  refine FnM.of htb Tryz.func92 rfl rfl rfl rfl rfl fun cx hN h0 => ?_
  cases h1 : (t.k == 0) with
  | false =>
    (repeat' (first | (refine nx ?_) | (refine WD_unk (by exact rfl) ?_; ((refine WD_tf (by exact rfl) (by exact rfl) ?_ ?_) <;> (intro hb; (fail_if_success (with_reducible injection hb)); rw [hb]; (try simp only [List.length_map] at hb)))) | ((with_reducible apply WD_id); first | (refine WD_cut htb ?_) | (refine WD_cut3 htb ?_) | (refine WD_lens htb ?_) | (refine WD_caps htb ?_) | (refine WD_cps htb ?_) | (refine WD_cpp htb ?_) | (refine WD_api htb ?_) | (refine WD_apz htb ?_) | (refine WD_clr htb ?_)) | ((refine WD_tf (by exact rfl) (by exact rfl) ?_ ?_) <;> (intro hb; (fail_if_success (with_reducible injection hb)); rw [hb]; (try simp only [List.length_map] at hb))) | (((with_reducible apply gC2); exact rfl) <;> (intro hb; rw [hb]))))
    exact gE (.inr rfl) rfl (congrArg vB (by simp [blankT, h1])) trivial
  | true =>
    cases h2 : (((t.ns.length : Int)) == 0) with
    | false =>
      (repeat' (first | (refine nx ?_) | (refine WD_unk (by exact rfl) ?_; ((refine WD_tf (by exact rfl) (by exact rfl) ?_ ?_) <;> (intro hb; (fail_if_success (with_reducible injection hb)); rw [hb]; (try simp only [List.length_map] at hb)))) | ((with_reducible apply WD_id); first | (refine WD_cut htb ?_) | (refine WD_cut3 htb ?_) | (refine WD_lens htb ?_) | (refine WD_caps htb ?_) | (refine WD_cps htb ?_) | (refine WD_cpp htb ?_) | (refine WD_api htb ?_) | (refine WD_apz htb ?_) | (refine WD_clr htb ?_)) | ((refine WD_tf (by exact rfl) (by exact rfl) ?_ ?_) <;> (intro hb; (fail_if_success (with_reducible injection hb)); rw [hb]; (try simp only [List.length_map] at hb))) | (((with_reducible apply gC2); exact rfl) <;> (intro hb; rw [hb]))))
      exact gE (.inr rfl) rfl (congrArg vB (by simp at h2; simp [blankT, h1, h2])) trivial
    | true =>
      (repeat' (first | (refine nx ?_) | (refine WD_unk (by exact rfl) ?_; ((refine WD_tf (by exact rfl) (by exact rfl) ?_ ?_) <;> (intro hb; (fail_if_success (with_reducible injection hb)); rw [hb]; (try simp only [List.length_map] at hb)))) | ((with_reducible apply WD_id); first | (refine WD_cut htb ?_) | (refine WD_cut3 htb ?_) | (refine WD_lens htb ?_) | (refine WD_caps htb ?_) | (refine WD_cps htb ?_) | (refine WD_cpp htb ?_) | (refine WD_api htb ?_) | (refine WD_apz htb ?_) | (refine WD_clr htb ?_)) | ((refine WD_tf (by exact rfl) (by exact rfl) ?_ ?_) <;> (intro hb; (fail_if_success (with_reducible injection hb)); rw [hb]; (try simp only [List.length_map] at hb))) | (((with_reducible apply gC2); exact rfl) <;> (intro hb; rw [hb]))))
      exact gE (.inr rfl) rfl (congrArg vB (by
        have e : (((t.is.length : Int)) == 0) = (t.is.length == 0) := by rw [Bool.eq_iff_iff]; simp
        have h3 : t.ns.length = 0 := by simpa using h2
        simp [blankT, h1, h3, e])) trivial
def membF (m : Mb) (n : Nat) : Int := if m.decl = false then (if blankT m.t = true then 0 else 1) else if chkT m.t ≠ 0 then chkT m.t else if useT m.t ≥ ((2 ^ n : Nat) : Int) then 5 else 0
theorem memb_m (m : Mb) (n : Nat) (hs : sizT m.t ≤ 1000) (hn : n ≤ 10) : FnM Tryz.prog 64 [] [aMb m, vI (n : Int)] (vI (membF m n)) [] := by
  have useS_m : FnM Tryz.prog 94 [] [aTr m.t] (vI (useT m.t)) [] := use_m _ m.t (Nat.le_refl _) hs
  refine FnM.of htb Tryz.func64 rfl rfl rfl rfl rfl fun cx hN h0 => ?_
  unfold membF
  cases hd : m.decl with
  | false =>
    have t0 : (!m.decl) = true := by rw [hd]; rfl
    rw [if_pos rfl]
    cases hb : blankT m.t with
    | false =>
      have t1 : (!blankT m.t) = true := by rw [hb]; rfl
      (repeat' (first | (refine nx ?_) | (refine WD_unk (by exact rfl) ?_; ((refine WD_tf (by exact rfl) (by exact rfl) ?_ ?_) <;> (intro hb; (fail_if_success (with_reducible injection hb)); rw [hb]; (try simp only [List.length_map] at hb)))) | (refine WD_call (by exact rfl) ?_; first | (refine WD_c0 (blank_m _ ?_) ?_; (exact hyp))) | ((with_reducible apply WD_id); first | (refine WD_cut htb ?_) | (refine WD_cut3 htb ?_) | (refine WD_lens htb ?_) | (refine WD_caps htb ?_) | (refine WD_cps htb ?_) | (refine WD_cpp htb ?_) | (refine WD_api htb ?_) | (refine WD_apz htb ?_) | (refine WD_clr htb ?_)) | ((refine WD_tf (by exact rfl) (by exact rfl) ?_ ?_) <;> (intro hb; (fail_if_success (with_reducible injection hb)); rw [hb]; (try simp only [List.length_map] at hb))) | (((with_reducible apply gC2); exact rfl) <;> (intro hb; rw [hb]))))
      exact gE (.inr rfl) rfl rfl trivial
    | true =>
      have t1 : (!blankT m.t) = false := by rw [hb]; rfl
      (repeat' (first | (refine nx ?_) | (refine WD_unk (by exact rfl) ?_; ((refine WD_tf (by exact rfl) (by exact rfl) ?_ ?_) <;> (intro hb; (fail_if_success (with_reducible injection hb)); rw [hb]; (try simp only [List.length_map] at hb)))) | (refine WD_call (by exact rfl) ?_; first | (refine WD_c0 (blank_m _ ?_) ?_; (exact hyp))) | ((with_reducible apply WD_id); first | (refine WD_cut htb ?_) | (refine WD_cut3 htb ?_) | (refine WD_lens htb ?_) | (refine WD_caps htb ?_) | (refine WD_cps htb ?_) | (refine WD_cpp htb ?_) | (refine WD_api htb ?_) | (refine WD_apz htb ?_) | (refine WD_clr htb ?_)) | ((refine WD_tf (by exact rfl) (by exact rfl) ?_ ?_) <;> (intro hb; (fail_if_success (with_reducible injection hb)); rw [hb]; (try simp only [List.length_map] at hb))) | (((with_reducible apply gC2); exact rfl) <;> (intro hb; rw [hb]))))
      exact gE (.inr rfl) rfl rfl trivial
  | true =>
    have t0 : (!m.decl) = false := by rw [hd]; rfl
    rw [if_neg (by simp)]
    by_cases hc : chkT m.t ≠ 0
    · rw [if_pos hc]
      have t1 : (chkT m.t != 0) = true := by simpa using hc
      (repeat' (first | (refine nx ?_) | (refine WD_unk (by exact rfl) ?_; ((refine WD_tf (by exact rfl) (by exact rfl) ?_ ?_) <;> (intro hb; (fail_if_success (with_reducible injection hb)); rw [hb]; (try simp only [List.length_map] at hb)))) | (refine WD_call (by exact rfl) ?_; first | (refine WD_c0 (chk3_m _ ?_) ?_; (exact hyp))) | ((with_reducible apply WD_id); first | (refine WD_cut htb ?_) | (refine WD_cut3 htb ?_) | (refine WD_lens htb ?_) | (refine WD_caps htb ?_) | (refine WD_cps htb ?_) | (refine WD_cpp htb ?_) | (refine WD_api htb ?_) | (refine WD_apz htb ?_) | (refine WD_clr htb ?_)) | ((refine WD_tf (by exact rfl) (by exact rfl) ?_ ?_) <;> (intro hb; (fail_if_success (with_reducible injection hb)); rw [hb]; (try simp only [List.length_map] at hb))) | (((with_reducible apply gC2); exact rfl) <;> (intro hb; rw [hb]))))
      exact gE (.inr rfl) rfl rfl trivial
    · rw [if_neg hc]
      have t1 : (chkT m.t != 0) = false := by simpa using hc
      have hn61 : n ≤ 61 := by omega
      by_cases hu : useT m.t ≥ ((2 ^ n : Nat) : Int)
      · rw [if_pos hu]
        have t2 : decide (useT m.t ≥ ((2 ^ n : Nat) : Int)) = true := by simpa using hu
        (repeat' (first | ((with_reducible apply WD_id); first | (refine WD_eq (shlN_step rfl rfl rfl) ?_)) | (refine nx ?_) | (refine WD_unk (by exact rfl) ?_; ((refine WD_tf (by exact rfl) (by exact rfl) ?_ ?_) <;> (intro hb; (fail_if_success (with_reducible injection hb)); rw [hb]; (try simp only [List.length_map] at hb)))) | (refine WD_call (by exact rfl) ?_; first | (refine WD_c0 (chk3_m _ ?_) ?_; (exact hyp)) | (refine WD_c0 (useS_m) ?_)) | ((with_reducible apply WD_id); first | (refine WD_cut htb ?_) | (refine WD_cut3 htb ?_) | (refine WD_lens htb ?_) | (refine WD_caps htb ?_) | (refine WD_cps htb ?_) | (refine WD_cpp htb ?_) | (refine WD_api htb ?_) | (refine WD_apz htb ?_) | (refine WD_clr htb ?_)) | ((refine WD_tf (by exact rfl) (by exact rfl) ?_ ?_) <;> (intro hb; (fail_if_success (with_reducible injection hb)); rw [hb]; (try simp only [List.length_map] at hb))) | (((with_reducible apply gC2); exact rfl) <;> (intro hb; rw [hb]))))
        exact gE (.inr rfl) rfl rfl trivial
      · rw [if_neg hu]
        have t2 : decide (useT m.t ≥ ((2 ^ n : Nat) : Int)) = false := by simpa using hu
        (repeat' (first | ((with_reducible apply WD_id); first | (refine WD_eq (shlN_step rfl rfl rfl) ?_)) | (refine nx ?_) | (refine WD_unk (by exact rfl) ?_; ((refine WD_tf (by exact rfl) (by exact rfl) ?_ ?_) <;> (intro hb; (fail_if_success (with_reducible injection hb)); rw [hb]; (try simp only [List.length_map] at hb)))) | (refine WD_call (by exact rfl) ?_; first | (refine WD_c0 (chk3_m _ ?_) ?_; (exact hyp)) | (refine WD_c0 (useS_m) ?_)) | ((with_reducible apply WD_id); first | (refine WD_cut htb ?_) | (refine WD_cut3 htb ?_) | (refine WD_lens htb ?_) | (refine WD_caps htb ?_) | (refine WD_cps htb ?_) | (refine WD_cpp htb ?_) | (refine WD_api htb ?_) | (refine WD_apz htb ?_) | (refine WD_clr htb ?_)) | ((refine WD_tf (by exact rfl) (by exact rfl) ?_ ?_) <;> (intro hb; (fail_if_success (with_reducible injection hb)); rw [hb]; (try simp only [List.length_map] at hb))) | (((with_reducible apply gC2); exact rfl) <;> (intro hb; rw [hb]))))
        exact gE (.inr rfl) rfl rfl trivial
def valL (n : Nat) : List Mb → Int
  | [] => 0
  | m :: r => if membF m n ≠ 0 then membF m n else valL n r
def valC (c : List Mb) : Int := valL c.length c
theorem valL_step {n : Nat} {l : List Mb} {k : Nat} (h : k < l.length) : valL n (l.drop k) = if membF (nth l k) n ≠ 0 then membF (nth l k) n else valL n (l.drop (k + 1)) := by
  rw [drop_nth l k h, valL]
theorem valC_m (c : List Mb) (hc : OkC c) : FnM Tryz.prog 50 [] [aCf c] (vI (valC c)) [] := by
  have hl := hc.len
  have t0 : decide ((c.length : Int) > 10) = false := by simp; omega
  refine FnM.of htb Tryz.func50 rfl rfl rfl rfl rfl fun cx hN h0 => ?_
  (repeat' (first | (refine nx ?_) | (refine WD_unk (by exact rfl) ?_; ((refine WD_tf (by exact rfl) (by exact rfl) ?_ ?_) <;> (intro hb; (fail_if_success (with_reducible injection hb)); rw [hb]; (try simp only [List.length_map] at hb)))) | ((with_reducible apply WD_id); first | (refine WD_cut htb ?_) | (refine WD_cut3 htb ?_) | (refine WD_lens htb ?_) | (refine WD_caps htb ?_) | (refine WD_cps htb ?_) | (refine WD_cpp htb ?_) | (refine WD_api htb ?_) | (refine WD_apz htb ?_) | (refine WD_clr htb ?_)) | ((refine WD_tf (by exact rfl) (by exact rfl) ?_ ?_) <;> (intro hb; (fail_if_success (with_reducible injection hb)); rw [hb]; (try simp only [List.length_map] at hb))) | (((with_reducible apply gC2); exact rfl) <;> (intro hb; rw [hb]))))
  (refine WA_forV (c.length) [13] [] (fun k => [(13, vI k)]) (fun k => []) (fun k => valL c.length c = valL c.length (c.drop k)) ?h0 ?_)
  case h0 => rfl
  intro k hk hI
  rcases Nat.lt_or_ge k c.length with hk' | hk'
  · have t1 : decide ((k : Int) < (c.length : Int)) = true := by simp; omega
    have hs := hc.siz k hk'
    have membS_m : FnM Tryz.prog 64 [] [aMb (nth c k), vI ((c.map rMb).length : Int)] (vI (membF (nth c k) c.length)) [] := by rw [List.length_map]; exact memb_m _ _ hs hl
    rw [valL_step hk'] at hI
    by_cases hy : membF (nth c k) c.length ≠ 0
    · rw [if_pos hy] at hI
      have t2 : (membF (nth c k) c.length != 0) = true := by simpa using hy
      (repeat' (first | (refine nx ?_) | (refine WD_unk (by exact rfl) ?_; ((refine WD_tf (by exact rfl) (by exact rfl) ?_ ?_) <;> (intro hb; (fail_if_success (with_reducible injection hb)); rw [hb]; (try simp only [List.length_map] at hb)))) | (refine WD_call (by exact rfl) ?_; first | (refine WD_c0 (membS_m) ?_)) | ((with_reducible apply WD_id); first | (refine WD_cut htb ?_) | (refine WD_cut3 htb ?_) | (refine WD_lens htb ?_) | (refine WD_caps htb ?_) | (refine WD_cps htb ?_) | (refine WD_cpp htb ?_) | (refine WD_api htb ?_) | (refine WD_apz htb ?_) | (refine WD_clr htb ?_)) | ((refine WD_tf (by exact rfl) (by exact rfl) ?_ ?_) <;> (intro hb; (fail_if_success (with_reducible injection hb)); rw [hb]; (try simp only [List.length_map] at hb))) | (((with_reducible apply gC2); exact rfl) <;> (intro hb; rw [hb]))))
      exact gE (.inr rfl) rfl (congrArg vI hI.symm) trivial
    · rw [if_neg hy] at hI
      have t2 : (membF (nth c k) c.length != 0) = false := by simpa using hy
      (repeat' (first | (refine nx ?_) | (refine WD_unk (by exact rfl) ?_; ((refine WD_tf (by exact rfl) (by exact rfl) ?_ ?_) <;> (intro hb; (fail_if_success (with_reducible injection hb)); rw [hb]; (try simp only [List.length_map] at hb)))) | (refine WD_call (by exact rfl) ?_; first | (refine WD_c0 (membS_m) ?_)) | ((with_reducible apply WD_id); first | (refine WD_cut htb ?_) | (refine WD_cut3 htb ?_) | (refine WD_lens htb ?_) | (refine WD_caps htb ?_) | (refine WD_cps htb ?_) | (refine WD_cpp htb ?_) | (refine WD_api htb ?_) | (refine WD_apz htb ?_) | (refine WD_clr htb ?_)) | ((refine WD_tf (by exact rfl) (by exact rfl) ?_ ?_) <;> (intro hb; (fail_if_success (with_reducible injection hb)); rw [hb]; (try simp only [List.length_map] at hb))) | (((with_reducible apply gC2); exact rfl) <;> (intro hb; rw [hb]))))
      refine ⟨hk', hI, ?_⟩
      (exact LeV [])
  · have t1 : decide ((k : Int) < (c.length : Int)) = false := by simp; omega
    rw [List.drop_eq_nil_of_le hk'] at hI
    (repeat' (first | (refine nx ?_) | (refine WD_unk (by exact rfl) ?_; ((refine WD_tf (by exact rfl) (by exact rfl) ?_ ?_) <;> (intro hb; (fail_if_success (with_reducible injection hb)); rw [hb]; (try simp only [List.length_map] at hb)))) | ((with_reducible apply WD_id); first | (refine WD_cut htb ?_) | (refine WD_cut3 htb ?_) | (refine WD_lens htb ?_) | (refine WD_caps htb ?_) | (refine WD_cps htb ?_) | (refine WD_cpp htb ?_) | (refine WD_api htb ?_) | (refine WD_apz htb ?_) | (refine WD_clr htb ?_)) | ((refine WD_tf (by exact rfl) (by exact rfl) ?_ ?_) <;> (intro hb; (fail_if_success (with_reducible injection hb)); rw [hb]; (try simp only [List.length_map] at hb))) | (((with_reducible apply gC2); exact rfl) <;> (intro hb; rw [hb]))))
    exact gE (.inr rfl) rfl (congrArg vI hI.symm) trivial
def blkN (c : List Mb) (v s : Nat) : Bool := (declN c).testBit v && !satT (((andn 1023 s ||| 2 ^ v : Nat)) : Int) (nth c v).t
theorem blk_m (c : List Mb) (v s : Nat) (hc : OkC c) (hv : v < 10) (hs : s < 1024) : FnM Tryz.prog 33 [] [aCf c, vI (v : Int), vI (s : Int)] (vB (blkN c v s)) [] := by
  have t0 : (!validS (s : Int)) = false := by rw [valid_nat hs]; rfl
  have hd := declN_lt hc.len
  have hh := has_nat hd hv
  have hp := pow_lt hv
  have ha := andn_lt10 (b := s) (show 1023 < 1024 by decide)
  have hv61 : v ≤ 61 := by omega
  refine FnM.of htb Tryz.func33 rfl rfl rfl rfl rfl fun cx hN h0 => ?_
  cases hb : (declN c).testBit v with
  | false =>
    rw [hb] at hh
    have t1 : (!hasB ((declN c : Nat) : Int) (v : Int)) = true := by rw [hh]; rfl
    (repeat' (first | (refine nx ?_) | (refine WD_unk (by exact rfl) ?_; ((refine WD_tf (by exact rfl) (by exact rfl) ?_ ?_) <;> (intro hb; (fail_if_success (with_reducible injection hb)); rw [hb]; (try simp only [List.length_map] at hb)))) | (refine WD_call (by exact rfl) ?_; first | (refine WD_c0 (valid_m _) ?_) | (refine WD_c0 (decl_m _ ?_) ?_; (exact hyp)) | (refine WD_c0 (has_m _ _) ?_)) | ((with_reducible apply WD_id); first | (refine WD_cut htb ?_) | (refine WD_cut3 htb ?_) | (refine WD_lens htb ?_) | (refine WD_caps htb ?_) | (refine WD_cps htb ?_) | (refine WD_cpp htb ?_) | (refine WD_api htb ?_) | (refine WD_apz htb ?_) | (refine WD_clr htb ?_)) | ((refine WD_tf (by exact rfl) (by exact rfl) ?_ ?_) <;> (intro hb; (fail_if_success (with_reducible injection hb)); rw [hb]; (try simp only [List.length_map] at hb))) | (((with_reducible apply gC2); exact rfl) <;> (intro hb; rw [hb]))))
    exact gE (.inr rfl) rfl (congrArg vB (by simp [blkN, hb])) trivial
  | true =>
    rw [hb] at hh
    have t1 : (!hasB ((declN c : Nat) : Int) (v : Int)) = false := by rw [hh]; rfl
    have hvc : v < c.length := by rw [declTo_bit] at hb; simp at hb; exact hb.1
    have satS_m : FnM Tryz.prog 59 [] [aTr (nth c v).t, vI ((andn 1023 s ||| 2 ^ v : Nat) : Int)] (vB (satT ((andn 1023 s ||| 2 ^ v : Nat) : Int) (nth c v).t)) [] := sat_m _ _ _ (Nat.le_refl _) (hc.siz v hvc)
    (repeat' (first | ((with_reducible apply WD_id); first | (refine WD_eq (bnotE_step rfl rfl rfl) ?_) | (refine WD_eq (shlN_step rfl rfl rfl) ?_) | (refine WD_eq (borN_step rfl rfl rfl) ?_)) | (refine nx ?_) | (refine WD_unk (by exact rfl) ?_; ((refine WD_tf (by exact rfl) (by exact rfl) ?_ ?_) <;> (intro hb; (fail_if_success (with_reducible injection hb)); rw [hb]; (try simp only [List.length_map] at hb)))) | (refine WD_call (by exact rfl) ?_; first | (refine WD_c0 (valid_m _) ?_) | (refine WD_c0 (decl_m _ ?_) ?_; (exact hyp)) | (refine WD_c0 (has_m _ _) ?_) | (refine WD_c0 (satS_m) ?_)) | ((with_reducible apply WD_id); first | (refine WD_cut htb ?_) | (refine WD_cut3 htb ?_) | (refine WD_lens htb ?_) | (refine WD_caps htb ?_) | (refine WD_cps htb ?_) | (refine WD_cpp htb ?_) | (refine WD_api htb ?_) | (refine WD_apz htb ?_) | (refine WD_clr htb ?_)) | ((refine WD_tf (by exact rfl) (by exact rfl) ?_ ?_) <;> (intro hb; (fail_if_success (with_reducible injection hb)); rw [hb]; (try simp only [List.length_map] at hb))) | (((with_reducible apply gC2); exact rfl) <;> (intro hb; rw [hb]))))
    exact gE (.inr rfl) rfl (congrArg vB (by simp [blkN, hb])) trivial
def nxtL (c : List Mb) (s : Nat) : List Nat → Option Nat
  | [] => none
  | v :: r => if blkN c v s = true then some v else nxtL c s r
abbrev nxtN (c : List Mb) (s : Nat) : Option Nat := nxtL c s (nodesN (andn (declN c) s))
theorem nxtL_step {c : List Mb} {s : Nat} {l : List Nat} {k : Nat} (h : k < l.length) : nxtL c s (l.drop k) = if blkN c (nth l k) s = true then some (nth l k) else nxtL c s (l.drop (k + 1)) := by
  rw [drop_nth l k h, nxtL]
theorem nxtL_some {c : List Mb} {s k : Nat} : ∀ {l : List Nat}, nxtL c s l = some k → k ∈ l ∧ blkN c k s = true
  | [], h => by simp [nxtL] at h
  | x :: r, h => by
    unfold nxtL at h
    split at h
    · rename_i hx; obtain rfl := Option.some.inj h; exact ⟨List.mem_cons_self, hx⟩
    · have := nxtL_some h; exact ⟨List.mem_cons_of_mem _ this.1, this.2⟩
theorem next_m (c : List Mb) (s : Nat) (hc : OkC c) (hs : s < 1024) : FnM Tryz.prog 31 [] [aCf c, vI (s : Int)] (.tup [vI (uhR (nxtN c s)).1, vB (uhR (nxtN c s)).2]) [] := by
  have hd := declN_lt hc.len
  have ha := andn_lt10 (b := s) hd
  refine FnM.of htb Tryz.func31 rfl rfl rfl rfl rfl fun cx hN h0 => ?_
  (repeat' (first | ((with_reducible apply WD_id); first | (refine WD_eq (bnotN_step rfl rfl rfl) ?_)) | (refine nx ?_) | (refine WD_unk (by exact rfl) ?_; ((refine WD_tf (by exact rfl) (by exact rfl) ?_ ?_) <;> (intro hb; (fail_if_success (with_reducible injection hb)); rw [hb]; (try simp only [List.length_map] at hb)))) | (refine WD_call (by exact rfl) ?_; first | (refine WD_c0 (decl_m _ ?_) ?_; (exact hyp)) | (refine WD_c0 (nodes_m _ ?_) ?_; (exact hyp))) | ((with_reducible apply WD_id); first | (refine WD_cut htb ?_) | (refine WD_cut3 htb ?_) | (refine WD_lens htb ?_) | (refine WD_caps htb ?_) | (refine WD_cps htb ?_) | (refine WD_cpp htb ?_) | (refine WD_api htb ?_) | (refine WD_apz htb ?_) | (refine WD_clr htb ?_)) | ((refine WD_tf (by exact rfl) (by exact rfl) ?_ ?_) <;> (intro hb; (fail_if_success (with_reducible injection hb)); rw [hb]; (try simp only [List.length_map] at hb))) | (((with_reducible apply gC2); exact rfl) <;> (intro hb; rw [hb]))))
  (refine WA_forV ((nodesN (andn (declN c) s)).length) [14] [] (fun k => [(14, vI k)]) (fun k => []) (fun k => nxtN c s = nxtL c s ((nodesN (andn (declN c) s)).drop k)) ?h0 ?_)
  case h0 => rfl
  intro k hk hI
  have hln := nodesTo_len (andn (declN c) s) 10
  rcases Nat.lt_or_ge k (nodesN (andn (declN c) s)).length with hk' | hk'
  · have t1 : decide ((k : Int) < ((nodesN (andn (declN c) s)).length : Int)) = true := by simp only [decide_eq_true_eq]; omega
    have hb := (mem_nodes ha).1 (nth_mem _ k hk')
    have hv := bit_lt ha hb
    have hk10 : k < 10 := Nat.lt_of_lt_of_le hk' hln
    rw [nxtL_step hk'] at hI
    cases hx : blkN c (nth (nodesN (andn (declN c) s)) k) s with
    | true =>
      rw [hx, if_pos rfl] at hI
      rw [hI]
      (repeat' (first | (refine nx ?_) | (refine WD_unk (by exact rfl) ?_; ((refine WD_tf (by exact rfl) (by exact rfl) ?_ ?_) <;> (intro hb; (fail_if_success (with_reducible injection hb)); rw [hb]; (try simp only [List.length_map] at hb)))) | (refine WD_call (by exact rfl) ?_; first | (refine WD_c0 (blk_m _ _ _ ?_ ?_ ?_) ?_; (exact hyp); (exact hyp); (exact hyp))) | ((with_reducible apply WD_id); first | (refine WD_cut htb ?_) | (refine WD_cut3 htb ?_) | (refine WD_lens htb ?_) | (refine WD_caps htb ?_) | (refine WD_cps htb ?_) | (refine WD_cpp htb ?_) | (refine WD_api htb ?_) | (refine WD_apz htb ?_) | (refine WD_clr htb ?_)) | ((refine WD_tf (by exact rfl) (by exact rfl) ?_ ?_) <;> (intro hb; (fail_if_success (with_reducible injection hb)); rw [hb]; (try simp only [List.length_map] at hb))) | (((with_reducible apply gC2); exact rfl) <;> (intro hb; rw [hb]))))
      exact gE (.inr rfl) rfl rfl trivial
    | false =>
      rw [hx, if_neg (by simp)] at hI
      (repeat' (first | (refine nx ?_) | (refine WD_unk (by exact rfl) ?_; ((refine WD_tf (by exact rfl) (by exact rfl) ?_ ?_) <;> (intro hb; (fail_if_success (with_reducible injection hb)); rw [hb]; (try simp only [List.length_map] at hb)))) | (refine WD_call (by exact rfl) ?_; first | (refine WD_c0 (blk_m _ _ _ ?_ ?_ ?_) ?_; (exact hyp); (exact hyp); (exact hyp))) | ((with_reducible apply WD_id); first | (refine WD_cut htb ?_) | (refine WD_cut3 htb ?_) | (refine WD_lens htb ?_) | (refine WD_caps htb ?_) | (refine WD_cps htb ?_) | (refine WD_cpp htb ?_) | (refine WD_api htb ?_) | (refine WD_apz htb ?_) | (refine WD_clr htb ?_)) | ((refine WD_tf (by exact rfl) (by exact rfl) ?_ ?_) <;> (intro hb; (fail_if_success (with_reducible injection hb)); rw [hb]; (try simp only [List.length_map] at hb))) | (((with_reducible apply gC2); exact rfl) <;> (intro hb; rw [hb]))))
      refine ⟨hk', hI, ?_⟩
      (exact LeV [])
  · have t1 : decide ((k : Int) < ((nodesN (andn (declN c) s)).length : Int)) = false := by simp only [decide_eq_false_iff_not]; omega
    rw [List.drop_eq_nil_of_le hk'] at hI
    rw [hI]
    (repeat' (first | (refine nx ?_) | (refine WD_unk (by exact rfl) ?_; ((refine WD_tf (by exact rfl) (by exact rfl) ?_ ?_) <;> (intro hb; (fail_if_success (with_reducible injection hb)); rw [hb]; (try simp only [List.length_map] at hb)))) | ((with_reducible apply WD_id); first | (refine WD_cut htb ?_) | (refine WD_cut3 htb ?_) | (refine WD_lens htb ?_) | (refine WD_caps htb ?_) | (refine WD_cps htb ?_) | (refine WD_cpp htb ?_) | (refine WD_api htb ?_) | (refine WD_apz htb ?_) | (refine WD_clr htb ?_)) | ((refine WD_tf (by exact rfl) (by exact rfl) ?_ ?_) <;> (intro hb; (fail_if_success (with_reducible injection hb)); rw [hb]; (try simp only [List.length_map] at hb))) | (((with_reducible apply gC2); exact rfl) <;> (intro hb; rw [hb]))))
    exact gE (.inr rfl) rfl rfl trivial
/-- A set, and those who are drawn along. -/
def casG (c : List Mb) : Nat → Nat → List Nat → Nat × List Nat
  | 0, s, out => (s, out)
  | n + 1, s, out => match nxtN c s with
    | none => (s, out)
    | some k => casG c n (s ||| 2 ^ k) (out ++ [k])
def casN (c : List Mb) (s : Nat) : Nat × List Nat := casG c (1024 - s) s []
theorem or_gt {s k : Nat} (h : s.testBit k = false) : s < s ||| 2 ^ k := by
  rcases Nat.lt_or_ge s (s ||| 2 ^ k) with h1 | h1
  · exact h1
  · have h2 : s ||| 2 ^ k = s := Nat.le_antisymm h1 Nat.left_le_or
    have h3 := Nat.testBit_or s (2 ^ k) k
    rw [h2, h, Nat.testBit_two_pow_self] at h3
    simp at h3
theorem nxt_not {c : List Mb} {s k : Nat} (hc : c.length ≤ 10) (hs : s < 1024) (h : nxtN c s = some k) : k < 10 ∧ s.testBit k = false ∧ blkN c k s = true := by
  have ha := andn_lt10 (b := s) (declN_lt hc)
  obtain ⟨h1, h2⟩ := nxtL_some h
  have h3 := (mem_nodes ha).1 h1
  refine ⟨bit_lt ha h3, ?_, h2⟩
  rw [andn_bit] at h3; simp at h3; simp [h3.2]
theorem casG_fuel {c : List Mb} (hc : c.length ≤ 10) : ∀ (n s : Nat) (out : List Nat), s < 1024 → 1024 - s ≤ n → casG c (n + 1) s out = casG c n s out
  | 0, s, out, hs, h => by omega
  | n + 1, s, out, hs, h => by
    rw [casG]
    conv => rhs; rw [casG]
    cases hx : nxtN c s with
    | none => rfl
    | some k =>
      simp only
      obtain ⟨h1, h2, _⟩ := nxt_not hc hs hx
      have := or_gt h2
      have := or_lt10 hs (pow_lt h1)
      exact casG_fuel hc n _ _ this (by omega)
theorem casG_le {c : List Mb} (hc : c.length ≤ 10) {n m s : Nat} {out : List Nat} (hs : s < 1024) (h : 1024 - s ≤ n) (hm : n ≤ m) : casG c m s out = casG c n s out := by
  induction m with
  | zero => obtain rfl : n = 0 := by omega
            rfl
  | succ m ih =>
    rcases Nat.lt_or_ge m n with h1 | h1
    · obtain rfl : n = m + 1 := by omega
      rfl
    · rw [casG_fuel hc m s out hs (by omega), ih h1]
theorem casG_step {c : List Mb} (hc : c.length ≤ 10) {s k : Nat} {out : List Nat} (hs : s < 1024) (h : nxtN c s = some k) : casG c (1024 - s) s out = casG c (1024 - (s ||| 2 ^ k)) (s ||| 2 ^ k) (out ++ [k]) := by
  obtain ⟨h1, h2, _⟩ := nxt_not hc hs h
  have hg := or_gt h2
  have hl := or_lt10 hs (pow_lt h1)
  obtain ⟨n, hn⟩ : ∃ n, 1024 - s = n + 1 := ⟨1024 - s - 1, by omega⟩
  rw [hn, casG, h]
  exact casG_le hc hl (Nat.le_refl _) (by omega)
theorem cas_m (c : List Mb) (s : Nat) (hc : OkC c) (hs : s < 1024) : FnM Tryz.prog 11 [] [aCf c, vI (s : Int)] (.tup [lN (casN c s).2, vI ((casN c s).1 : Int)]) [] := by
  have hl := hc.len
  have t0 : (!validS (s : Int)) = false := by rw [valid_nat hs]; rfl
  refine FnM.of htb Tryz.func11 rfl rfl rfl rfl rfl fun cx hN h0 => ?_
  (repeat' (first | (refine nx ?_) | (refine WD_unk (by exact rfl) ?_; ((refine WD_tf (by exact rfl) (by exact rfl) ?_ ?_) <;> (intro hb; (fail_if_success (with_reducible injection hb)); rw [hb]; (try simp only [List.length_map] at hb)))) | (refine WD_call (by exact rfl) ?_; first | (refine WD_c0 (valid_m _) ?_) | (refine WD_c0 (next_m _ _ ?_ ?_) ?_; (exact hyp); (exact hyp))) | ((with_reducible apply WD_id); first | (refine WD_cut htb ?_) | (refine WD_cut3 htb ?_) | (refine WD_lens htb ?_) | (refine WD_caps htb ?_) | (refine WD_cps htb ?_) | (refine WD_cpp htb ?_) | (refine WD_api htb ?_) | (refine WD_apz htb ?_) | (refine WD_clr htb ?_)) | ((refine WD_tf (by exact rfl) (by exact rfl) ?_ ?_) <;> (intro hb; (fail_if_success (with_reducible injection hb)); rw [hb]; (try simp only [List.length_map] at hb))) | (((with_reducible apply gC2); exact rfl) <;> (intro hb; rw [hb]))))
  refine WA_le (Le_nilT 60 6 3 1 rfl rfl) ?_
  (refine WA_anyV (α := Nat × List Nat) (fun x => 1024 - x.1) ((s, [])) [1, 6, 7, 8] [60] (fun x => [(1, vI (x.1 : Int)), (6, .own 60), (7, vI (uhR (nxtN c x.1)).1), (8, vB (uhR (nxtN c x.1)).2)]) (fun x => [(60, .arr 3 1 (x.2.map rN))]) (fun x => x.1 < 1024 ∧ x.2.length ≤ x.1 ∧ casN c s = casG c (1024 - x.1) x.1 x.2) ?h0 ?_)
  case h0 => exact ⟨hs, by simp, rfl⟩
  rintro ⟨x, out⟩ ⟨hx, hlo, hI⟩
  dsimp only at hx hlo hI ⊢
  rw [hI]
  cases hu : nxtN c x with
  | none =>
    have e1 : casG c (1024 - x) x out = (x, out) := by
      obtain ⟨n, hn⟩ : ∃ n, 1024 - x = n + 1 := ⟨1024 - x - 1, by omega⟩
      rw [hn, casG, hu]
    have t2 : (uhR (none : Option Nat)).2 = false := rfl
    rw [e1]
    (repeat' (first | (refine nx ?_) | (refine WD_unk (by exact rfl) ?_; ((refine WD_tf (by exact rfl) (by exact rfl) ?_ ?_) <;> (intro hb; (fail_if_success (with_reducible injection hb)); rw [hb]; (try simp only [List.length_map] at hb)))) | ((with_reducible apply WD_id); first | (refine WD_cut htb ?_) | (refine WD_cut3 htb ?_) | (refine WD_lens htb ?_) | (refine WD_caps htb ?_) | (refine WD_cps htb ?_) | (refine WD_cpp htb ?_) | (refine WD_api htb ?_) | (refine WD_apz htb ?_) | (refine WD_clr htb ?_)) | ((refine WD_tf (by exact rfl) (by exact rfl) ?_ ?_) <;> (intro hb; (fail_if_success (with_reducible injection hb)); rw [hb]; (try simp only [List.length_map] at hb))) | (((with_reducible apply gC2); exact rfl) <;> (intro hb; rw [hb]))))
    (exact glV [(4, lN out), (5, vI (x : Int))] [] (LeV []))
  | some k =>
    obtain ⟨h1, h2, _⟩ := nxt_not hl hx hu
    have hp := pow_lt h1
    have hg := or_gt h2
    have hlt := or_lt10 hx hp
    have e1 := casG_step (out := out) hl hx hu
    have t2 : (uhR (some k)).2 = true := rfl
    have hlen : out.length ≤ 1024 := by omega
    have hk61 : k ≤ 61 := by omega
    show WA _ _ _ _ ⟨_, _⟩
    (repeat' (first | ((with_reducible apply WD_id); first | (refine WD_eq (shlN_step rfl rfl rfl) ?_) | (refine WD_eq (borN_step rfl rfl rfl) ?_)) | (refine nx ?_) | (refine WD_unk (by exact rfl) ?_; ((refine WD_tf (by exact rfl) (by exact rfl) ?_ ?_) <;> (intro hb; (fail_if_success (with_reducible injection hb)); rw [hb]; (try simp only [List.length_map] at hb)))) | (refine WD_call (by exact rfl) ?_; first | (refine WD_c0 (next_m (s := x ||| 2 ^ k) _ ?_ ?_) ?_; (exact hyp); (exact hyp))) | ((with_reducible apply WD_id); first | (refine WD_cut htb ?_) | (refine WD_cut3 htb ?_) | (refine WD_lens htb ?_) | (refine WD_caps htb ?_) | (refine WD_cps htb ?_) | (refine WD_cpp htb ?_) | (refine WD_api htb ?_) | (refine WD_apz htb ?_) | (refine WD_clr htb ?_)) | ((refine WD_tf (by exact rfl) (by exact rfl) ?_ ?_) <;> (intro hb; (fail_if_success (with_reducible injection hb)); rw [hb]; (try simp only [List.length_map] at hb))) | (((with_reducible apply gC2); exact rfl) <;> (intro hb; rw [hb]))))
    refine ⟨(x ||| 2 ^ k, out ++ [k]), by dsimp only; omega, ⟨hlt, by simp; omega, e1⟩, ?_⟩
    rw [List.map_append]
    (exact LeV [(60, 28)])
def accN (c : List Mb) (v votes accepts : Nat) : Bool := blkN c v accepts || (greatN c (votes ||| accepts)).1.testBit v
theorem elimG_lt (c : List Mb) : ∀ (n s : Nat) (out : List Nat), (elimG c n s out).1 ≤ s
  | 0, s, out => Nat.le_refl _
  | n + 1, s, out => by
    rw [elimG]
    split
    · exact Nat.le_refl _
    · exact Nat.le_trans (elimG_lt c n _ _) (andn_le _ _)
theorem great_lt (c : List Mb) {s : Nat} (hs : s < 1024) : (greatN c s).1 < 1024 := Nat.lt_of_le_of_lt (elimG_lt c _ _ _) (and_lt10 hs)
theorem acc_m (c : List Mb) (v a b : Nat) (hc : OkC c) (hv : v < 10) (ha : a < 1024) (hb : b < 1024) : FnM Tryz.prog 13 [] [aCf c, vI (v : Int), vI (a : Int), vI (b : Int)] (vB (accN c v a b)) [] := by
  have t0 : (!validS (a : Int)) = false := by rw [valid_nat ha]; rfl
  have t1 : (!validS (b : Int)) = false := by rw [valid_nat hb]; rfl
  have ho := or_lt10 ha hb
  have hg := great_lt c ho
  have hh := has_nat hg hv
  refine FnM.of htb Tryz.func13 rfl rfl rfl rfl rfl fun cx hN h0 => ?_
  cases hx : blkN c v b with
  | true =>
    (repeat' (first | (refine nx ?_) | (refine WD_unk (by exact rfl) ?_; ((refine WD_tf (by exact rfl) (by exact rfl) ?_ ?_) <;> (intro hb; (fail_if_success (with_reducible injection hb)); rw [hb]; (try simp only [List.length_map] at hb)))) | (refine WD_call (by exact rfl) ?_; first | (refine WD_c0 (valid_m _) ?_) | (refine WD_c0 (blk_m _ _ _ ?_ ?_ ?_) ?_; (exact hyp); (exact hyp); (exact hyp))) | ((with_reducible apply WD_id); first | (refine WD_cut htb ?_) | (refine WD_cut3 htb ?_) | (refine WD_lens htb ?_) | (refine WD_caps htb ?_) | (refine WD_cps htb ?_) | (refine WD_cpp htb ?_) | (refine WD_api htb ?_) | (refine WD_apz htb ?_) | (refine WD_clr htb ?_)) | ((refine WD_tf (by exact rfl) (by exact rfl) ?_ ?_) <;> (intro hb; (fail_if_success (with_reducible injection hb)); rw [hb]; (try simp only [List.length_map] at hb))) | (((with_reducible apply gC2); exact rfl) <;> (intro hb; rw [hb]))))
    exact gE (.inr rfl) rfl (congrArg vB (by simp [accN, hx])) trivial
  | false =>
    (repeat' (first | ((with_reducible apply WD_id); first | (refine WD_eq (borN_step rfl rfl rfl) ?_)) | (refine nx ?_) | (refine WD_unk (by exact rfl) ?_; ((refine WD_tf (by exact rfl) (by exact rfl) ?_ ?_) <;> (intro hb; (fail_if_success (with_reducible injection hb)); rw [hb]; (try simp only [List.length_map] at hb)))) | (refine WD_call (by exact rfl) ?_; first | (refine WD_c0 (valid_m _) ?_) | (refine WD_c0 (blk_m _ _ _ ?_ ?_ ?_) ?_; (exact hyp); (exact hyp); (exact hyp)) | (refine WD_c0 (great_m _ _ ?_ ?_) ?_; (exact hyp); (exact hyp)) | (refine WD_c0 (has_m _ _) ?_)) | ((with_reducible apply WD_id); first | (refine WD_cut htb ?_) | (refine WD_cut3 htb ?_) | (refine WD_lens htb ?_) | (refine WD_caps htb ?_) | (refine WD_cps htb ?_) | (refine WD_cpp htb ?_) | (refine WD_api htb ?_) | (refine WD_apz htb ?_) | (refine WD_clr htb ?_)) | ((refine WD_tf (by exact rfl) (by exact rfl) ?_ ?_) <;> (intro hb; (fail_if_success (with_reducible injection hb)); rw [hb]; (try simp only [List.length_map] at hb))) | (((with_reducible apply gC2); exact rfl) <;> (intro hb; rw [hb]))))
    exact gE (.inr rfl) rfl (congrArg vB (by simp [accN, hx, hh])) trivial
end Go.Proofs.YtbfafljcclfeaaaGreatDoor
