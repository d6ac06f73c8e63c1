/- Contracts: dangers, dispensable sets, intact members. -/
import Derived.Test.YtbfafljcclfeaaaGreatDoorTnJ
import Derived.Test.YtbfafljcclfeaaaGreatDoorTnH
namespace Go.Proofs.YtbfafljcclfeaaaGreatDoor
set_option linter.unusedSimpArgs false
set_option linter.unusedVariables false
set_option linter.unnecessarySimpa false
set_option linter.unusedSectionVars false
set_option maxRecDepth 100000
open Go Go.RowKit Go.Am Go.Proofs.Grow

def holdF (d : List Mb) : Bool × Int := if valC d ≠ 0 then (false, valC d) else ((fndN d 0).1 == 0, 0)
theorem hold_m (d : List Mb) (hd : OkC d) : FnM Tryz.prog 52 [] [aCf d] (.tup [vB (holdF d).1, vI (holdF d).2]) [] := by
  have findS_m := find_m d hd size_m
  refine FnM.of htb Tryz.func52 rfl rfl rfl rfl rfl fun cx hN h0 => ?_
  unfold holdF
  by_cases hv : valC d ≠ 0
  · have t1 : (valC d != 0) = true := by simpa using hv
    rw [if_pos hv]
    (repeat' (first | (refine nx ?_) | (refine WD_unk (by exact rfl) ?_; ((refine WD_tf (by exact rfl) (by exact rfl) ?_ ?_) <;> (intro hb; (fail_if_success (with_reducible injection hb)); rw [hb]; (try simp only [List.length_map] at hb)))) | (refine WD_call (by exact rfl) ?_; first | (refine WD_c0 (valC_m _ ?_) ?_; (exact hyp))) | ((with_reducible apply WD_id); first | (refine WD_cut htb ?_) | (refine WD_cut3 htb ?_) | (refine WD_lens htb ?_) | (refine WD_caps htb ?_) | (refine WD_cps htb ?_) | (refine WD_cpp htb ?_) | (refine WD_api htb ?_) | (refine WD_apz htb ?_) | (refine WD_clr htb ?_)) | ((refine WD_tf (by exact rfl) (by exact rfl) ?_ ?_) <;> (intro hb; (fail_if_success (with_reducible injection hb)); rw [hb]; (try simp only [List.length_map] at hb))) | (((with_reducible apply gC2); exact rfl) <;> (intro hb; rw [hb]))))
    exact gE (.inr rfl) rfl rfl trivial
  · have t1 : (valC d != 0) = false := by simpa using hv
    rw [if_neg hv]
    (repeat' (first | (refine nx ?_) | (refine WD_unk (by exact rfl) ?_; ((refine WD_tf (by exact rfl) (by exact rfl) ?_ ?_) <;> (intro hb; (fail_if_success (with_reducible injection hb)); rw [hb]; (try simp only [List.length_map] at hb)))) | (refine WD_call (by exact rfl) ?_; first | (refine WD_c0 (valC_m _ ?_) ?_; (exact hyp)) | (refine WD_c0 (findS_m) ?_)) | ((with_reducible apply WD_id); first | (refine WD_cut htb ?_) | (refine WD_cut3 htb ?_) | (refine WD_lens htb ?_) | (refine WD_caps htb ?_) | (refine WD_cps htb ?_) | (refine WD_cpp htb ?_) | (refine WD_api htb ?_) | (refine WD_apz htb ?_) | (refine WD_clr htb ?_)) | ((refine WD_tf (by exact rfl) (by exact rfl) ?_ ?_) <;> (intro hb; (fail_if_success (with_reducible injection hb)); rw [hb]; (try simp only [List.length_map] at hb))) | (((with_reducible apply gC2); exact rfl) <;> (intro hb; rw [hb]))))
    refine gE (.inr rfl) rfl ?_ trivial
    have e : (((fndN d 0).1 : Int) == 0) = ((fndN d 0).1 == 0) := by rw [Bool.eq_iff_iff]; simp
    show AV.tup [vB (((fndN d 0).1 : Int) == 0), vI 0] = _
    rw [e]
/-- A right configuration with small trusts, and a set of its members. -/
structure OkS (c : List Mb) (s : Nat) : Prop where
  cc : OkC c
  v : valC c = 0
  s : s ≤ memN c
  kb : ∀ k, k < c.length → kbT (nth c k).t ≤ 1000
theorem OkS.lt {c : List Mb} {s : Nat} (h : OkS c s) : s < 1024 := Nat.lt_of_le_of_lt h.s (mem_lt h.cc.len)
theorem askA_m (c : List Mb) (s : Nat) (h : OkS c s) : FnM Tryz.prog 45 [] [aCf c, vI (s : Int)] (vI 0) [] := by
  have hc := h.cc
  have hv := h.v
  have t1 : (valC c != 0) = false := by rw [hv]; rfl
  have t2 : decide ((s : Int) < 0) = false := by simp
  have t3 : decide ((s : Int) > ((memN c : Nat) : Int)) = false := by have := h.s; simp only [decide_eq_false_iff_not]; omega
  refine FnM.of htb Tryz.func45 rfl rfl rfl rfl rfl fun cx hN h0 => ?_
  (repeat' (first | (refine nx ?_) | (refine WD_unk (by exact rfl) ?_; ((refine WD_tf (by exact rfl) (by exact rfl) ?_ ?_) <;> (intro hb; (fail_if_success (with_reducible injection hb)); rw [hb]; (try simp only [List.length_map] at hb)))) | (refine WD_call (by exact rfl) ?_; first | (refine WD_c0 (valC_m _ ?_) ?_; (exact hyp)) | (refine WD_c0 (mbsA_m _ ?_) ?_; (exact hyp))) | ((with_reducible apply WD_id); first | (refine WD_cut htb ?_) | (refine WD_cut3 htb ?_) | (refine WD_lens htb ?_) | (refine WD_caps htb ?_) | (refine WD_cps htb ?_) | (refine WD_cpp htb ?_) | (refine WD_api htb ?_) | (refine WD_apz htb ?_) | (refine WD_clr htb ?_)) | ((refine WD_tf (by exact rfl) (by exact rfl) ?_ ?_) <;> (intro hb; (fail_if_success (with_reducible injection hb)); rw [hb]; (try simp only [List.length_map] at hb))) | (((with_reducible apply gC2); exact rfl) <;> (intro hb; rw [hb]))))
  exact gE (.inr rfl) rfl rfl trivial
theorem askB_m (c : List Mb) (s : Nat) (h : OkS c s) : FnM Tryz.prog 26 [] [aCf c, vI (s : Int)] (vI 0) [] := by
  have hc := h.cc
  have hv := h.v
  have t1 : (valC c != 0) = false := by rw [hv]; rfl
  have t2 : decide ((s : Int) < 0) = false := by simp
  have t3 : decide ((s : Int) > ((memN c : Nat) : Int)) = false := by have := h.s; simp only [decide_eq_false_iff_not]; omega
  refine FnM.of htb Tryz.func26 rfl rfl rfl rfl rfl fun cx hN h0 => ?_
  (repeat' (first | (refine nx ?_) | (refine WD_unk (by exact rfl) ?_; ((refine WD_tf (by exact rfl) (by exact rfl) ?_ ?_) <;> (intro hb; (fail_if_success (with_reducible injection hb)); rw [hb]; (try simp only [List.length_map] at hb)))) | (refine WD_call (by exact rfl) ?_; first | (refine WD_c0 (valC_m _ ?_) ?_; (exact hyp)) | (refine WD_c0 (mbsB_m _ ?_) ?_; (exact hyp))) | ((with_reducible apply WD_id); first | (refine WD_cut htb ?_) | (refine WD_cut3 htb ?_) | (refine WD_lens htb ?_) | (refine WD_caps htb ?_) | (refine WD_cps htb ?_) | (refine WD_cpp htb ?_) | (refine WD_api htb ?_) | (refine WD_apz htb ?_) | (refine WD_clr htb ?_)) | ((refine WD_tf (by exact rfl) (by exact rfl) ?_ ?_) <;> (intro hb; (fail_if_success (with_reducible injection hb)); rw [hb]; (try simp only [List.length_map] at hb))) | (((with_reducible apply gC2); exact rfl) <;> (intro hb; rw [hb]))))
  exact gE (.inr rfl) rfl rfl trivial
def splN (c : List Mb) (s : Nat) : Bool := !(holdF (delC c s)).1
def halN (c : List Mb) (s : Nat) : Bool := (greatN c (andn (memN c) s)).1 == 0
theorem spl_m (c : List Mb) (s : Nat) (h : OkS c s) : FnM Tryz.prog 27 [] [aCf c, vI (s : Int)] (vB (splN c s)) [] := by
  have delX_m := delC_m c s h.cc h.lt h.kb
  have holX_m := hold_m (delC c s) (delC_ok h.cc s)
  refine FnM.of htb Tryz.func27 rfl rfl rfl rfl rfl fun cx hN h0 => ?_
  (repeat' (first | (refine nx ?_) | (refine WD_unk (by exact rfl) ?_; ((refine WD_tf (by exact rfl) (by exact rfl) ?_ ?_) <;> (intro hb; (fail_if_success (with_reducible injection hb)); rw [hb]; (try simp only [List.length_map] at hb)))) | (refine WD_call (by exact rfl) ?_; first | (refine WD_c0 (delX_m) ?_) | (refine WD_c0 (holX_m) ?_)) | ((with_reducible apply WD_id); first | (refine WD_cut htb ?_) | (refine WD_cut3 htb ?_) | (refine WD_lens htb ?_) | (refine WD_caps htb ?_) | (refine WD_cps htb ?_) | (refine WD_cpp htb ?_) | (refine WD_api htb ?_) | (refine WD_apz htb ?_) | (refine WD_clr htb ?_)) | ((refine WD_tf (by exact rfl) (by exact rfl) ?_ ?_) <;> (intro hb; (fail_if_success (with_reducible injection hb)); rw [hb]; (try simp only [List.length_map] at hb))) | (((with_reducible apply gC2); exact rfl) <;> (intro hb; rw [hb]))))
  exact gE (.inr rfl) rfl rfl trivial
theorem hal_m (c : List Mb) (s : Nat) (h : OkS c s) : FnM Tryz.prog 28 [] [aCf c, vI (s : Int)] (vB (halN c s)) [] := by
  have hc := h.cc
  have hm := mem_lt hc.len
  have ha := andn_lt10 (b := s) hm
  have hs := h.lt
  refine FnM.of htb Tryz.func28 rfl rfl rfl rfl rfl fun cx hN h0 => ?_
  (repeat' (first | ((with_reducible apply WD_id); first | (refine WD_eq (bnotN_step rfl rfl rfl) ?_)) | (refine nx ?_) | (refine WD_unk (by exact rfl) ?_; ((refine WD_tf (by exact rfl) (by exact rfl) ?_ ?_) <;> (intro hb; (fail_if_success (with_reducible injection hb)); rw [hb]; (try simp only [List.length_map] at hb)))) | (refine WD_call (by exact rfl) ?_; first | (refine WD_c0 (mbsB_m _ ?_) ?_; (exact hyp)) | (refine WD_c0 (great_m _ _ ?_ ?_) ?_; (exact hyp); (exact hyp))) | ((with_reducible apply WD_id); first | (refine WD_cut htb ?_) | (refine WD_cut3 htb ?_) | (refine WD_lens htb ?_) | (refine WD_caps htb ?_) | (refine WD_cps htb ?_) | (refine WD_cpp htb ?_) | (refine WD_api htb ?_) | (refine WD_apz htb ?_) | (refine WD_clr htb ?_)) | ((refine WD_tf (by exact rfl) (by exact rfl) ?_ ?_) <;> (intro hb; (fail_if_success (with_reducible injection hb)); rw [hb]; (try simp only [List.length_map] at hb))) | (((with_reducible apply gC2); exact rfl) <;> (intro hb; rw [hb]))))
  exact gE (.inr rfl) rfl (congrArg vB (by unfold halN; rw [Bool.eq_iff_iff]; simp)) trivial
theorem Spl_m (c : List Mb) (s : Nat) (h : OkS c s) : FnM Tryz.prog 8 [] [aCf c, vI (s : Int)] (.tup [vB (splN c s), vI 0]) [] := by
  refine FnM.of htb Tryz.func8 rfl rfl rfl rfl rfl fun cx hN h0 => ?_
  (repeat' (first | (refine nx ?_) | (refine WD_unk (by exact rfl) ?_; ((refine WD_tf (by exact rfl) (by exact rfl) ?_ ?_) <;> (intro hb; (fail_if_success (with_reducible injection hb)); rw [hb]; (try simp only [List.length_map] at hb)))) | (refine WD_call (by exact rfl) ?_; first | (refine WD_c0 (askB_m _ _ ?_) ?_; (exact hyp)) | (refine WD_c0 (spl_m _ _ ?_) ?_; (exact hyp))) | ((with_reducible apply WD_id); first | (refine WD_cut htb ?_) | (refine WD_cut3 htb ?_) | (refine WD_lens htb ?_) | (refine WD_caps htb ?_) | (refine WD_cps htb ?_) | (refine WD_cpp htb ?_) | (refine WD_api htb ?_) | (refine WD_apz htb ?_) | (refine WD_clr htb ?_)) | ((refine WD_tf (by exact rfl) (by exact rfl) ?_ ?_) <;> (intro hb; (fail_if_success (with_reducible injection hb)); rw [hb]; (try simp only [List.length_map] at hb))) | (((with_reducible apply gC2); exact rfl) <;> (intro hb; rw [hb]))))
  exact gE (.inr rfl) rfl rfl trivial
theorem Hal_m (c : List Mb) (s : Nat) (h : OkS c s) : FnM Tryz.prog 9 [] [aCf c, vI (s : Int)] (.tup [vB (halN c s), vI 0]) [] := by
  refine FnM.of htb Tryz.func9 rfl rfl rfl rfl rfl fun cx hN h0 => ?_
  (repeat' (first | (refine nx ?_) | (refine WD_unk (by exact rfl) ?_; ((refine WD_tf (by exact rfl) (by exact rfl) ?_ ?_) <;> (intro hb; (fail_if_success (with_reducible injection hb)); rw [hb]; (try simp only [List.length_map] at hb)))) | (refine WD_call (by exact rfl) ?_; first | (refine WD_c0 (askB_m _ _ ?_) ?_; (exact hyp)) | (refine WD_c0 (hal_m _ _ ?_) ?_; (exact hyp))) | ((with_reducible apply WD_id); first | (refine WD_cut htb ?_) | (refine WD_cut3 htb ?_) | (refine WD_lens htb ?_) | (refine WD_caps htb ?_) | (refine WD_cps htb ?_) | (refine WD_cpp htb ?_) | (refine WD_api htb ?_) | (refine WD_apz htb ?_) | (refine WD_clr htb ?_)) | ((refine WD_tf (by exact rfl) (by exact rfl) ?_ ?_) <;> (intro hb; (fail_if_success (with_reducible injection hb)); rw [hb]; (try simp only [List.length_map] at hb))) | (((with_reducible apply gC2); exact rfl) <;> (intro hb; rw [hb]))))
  exact gE (.inr rfl) rfl rfl trivial
def avlN (c : List Mb) (s : Nat) : Bool := (andn (memN c) s == 0) || quoN c (andn (memN c) s)
theorem avl_m (c : List Mb) (s : Nat) (h : OkS c s) : FnM Tryz.prog 48 [] [aCf c, vI (s : Int)] (.tup [vB (avlN c s), vI 0]) [] := by
  have hc := h.cc
  have hm := mem_lt hc.len
  have ha := andn_lt10 (b := s) hm
  have hs := h.lt
  refine FnM.of htb Tryz.func48 rfl rfl rfl rfl rfl fun cx hN h0 => ?_
  by_cases hz : andn (memN c) s = 0
  · have t1 : (((andn (memN c) s : Nat) : Int) == 0) = true := by simp [hz]
    (repeat' (first | ((with_reducible apply WD_id); first | (refine WD_eq (bnotN_step rfl rfl rfl) ?_)) | (refine nx ?_) | (refine WD_unk (by exact rfl) ?_; ((refine WD_tf (by exact rfl) (by exact rfl) ?_ ?_) <;> (intro hb; (fail_if_success (with_reducible injection hb)); rw [hb]; (try simp only [List.length_map] at hb)))) | (refine WD_call (by exact rfl) ?_; first | (refine WD_c0 (askA_m _ _ ?_) ?_; (exact hyp)) | (refine WD_c0 (mbsA_m _ ?_) ?_; (exact hyp))) | ((with_reducible apply WD_id); first | (refine WD_cut htb ?_) | (refine WD_cut3 htb ?_) | (refine WD_lens htb ?_) | (refine WD_caps htb ?_) | (refine WD_cps htb ?_) | (refine WD_cpp htb ?_) | (refine WD_api htb ?_) | (refine WD_apz htb ?_) | (refine WD_clr htb ?_)) | ((refine WD_tf (by exact rfl) (by exact rfl) ?_ ?_) <;> (intro hb; (fail_if_success (with_reducible injection hb)); rw [hb]; (try simp only [List.length_map] at hb))) | (((with_reducible apply gC2); exact rfl) <;> (intro hb; rw [hb]))))
    exact gE (.inr rfl) rfl (by simp [avlN, hz, tupOf]) trivial
  · have t1 : (((andn (memN c) s : Nat) : Int) == 0) = false := by simp [hz]
    (repeat' (first | ((with_reducible apply WD_id); first | (refine WD_eq (bnotN_step rfl rfl rfl) ?_)) | (refine nx ?_) | (refine WD_unk (by exact rfl) ?_; ((refine WD_tf (by exact rfl) (by exact rfl) ?_ ?_) <;> (intro hb; (fail_if_success (with_reducible injection hb)); rw [hb]; (try simp only [List.length_map] at hb)))) | (refine WD_call (by exact rfl) ?_; first | (refine WD_c0 (askA_m _ _ ?_) ?_; (exact hyp)) | (refine WD_c0 (mbsA_m _ ?_) ?_; (exact hyp)) | (refine WD_c0 (quo_m _ _ ?_ ?_) ?_; (exact hyp); (exact hyp))) | ((with_reducible apply WD_id); first | (refine WD_cut htb ?_) | (refine WD_cut3 htb ?_) | (refine WD_lens htb ?_) | (refine WD_caps htb ?_) | (refine WD_cps htb ?_) | (refine WD_cpp htb ?_) | (refine WD_api htb ?_) | (refine WD_apz htb ?_) | (refine WD_clr htb ?_)) | ((refine WD_tf (by exact rfl) (by exact rfl) ?_ ?_) <;> (intro hb; (fail_if_success (with_reducible injection hb)); rw [hb]; (try simp only [List.length_map] at hb))) | (((with_reducible apply gC2); exact rfl) <;> (intro hb; rw [hb]))))
    exact gE (.inr rfl) rfl (by simp [avlN, hz, tupOf]) trivial
theorem isc_m (c : List Mb) (s : Nat) (h : OkS c s) : FnM Tryz.prog 49 [] [aCf c, vI (s : Int)] (.tup [vB (holdF (delC c s)).1, vI (holdF (delC c s)).2]) [] := by
  have delX_m := delC_m c s h.cc h.lt h.kb
  have holX_m := hold_m (delC c s) (delC_ok h.cc s)
  refine FnM.of htb Tryz.func49 rfl rfl rfl rfl rfl fun cx hN h0 => ?_
  (repeat' (first | (refine nx ?_) | (refine WD_unk (by exact rfl) ?_; ((refine WD_tf (by exact rfl) (by exact rfl) ?_ ?_) <;> (intro hb; (fail_if_success (with_reducible injection hb)); rw [hb]; (try simp only [List.length_map] at hb)))) | (refine WD_call (by exact rfl) ?_; first | (refine WD_c0 (askA_m _ _ ?_) ?_; (exact hyp)) | (refine WD_c0 (delX_m) ?_) | (refine WD_c0 (holX_m) ?_)) | ((with_reducible apply WD_id); first | (refine WD_cut htb ?_) | (refine WD_cut3 htb ?_) | (refine WD_lens htb ?_) | (refine WD_caps htb ?_) | (refine WD_cps htb ?_) | (refine WD_cpp htb ?_) | (refine WD_api htb ?_) | (refine WD_apz htb ?_) | (refine WD_clr htb ?_)) | ((refine WD_tf (by exact rfl) (by exact rfl) ?_ ?_) <;> (intro hb; (fail_if_success (with_reducible injection hb)); rw [hb]; (try simp only [List.length_map] at hb))) | (((with_reducible apply gC2); exact rfl) <;> (intro hb; rw [hb]))))
  exact gE (.inr rfl) rfl rfl trivial
def isN (c : List Mb) (s : Nat) : Bool := avlN c s && (holdF (delC c s)).1
theorem is_m (c : List Mb) (s : Nat) (h : OkS c s) : FnM Tryz.prog 25 [] [aCf c, aCf c, vI (s : Int)] (vB (isN c s)) [] := by
  refine FnM.of htb Tryz.func25 rfl rfl rfl rfl rfl fun cx hN h0 => ?_
  cases ha : avlN c s with
  | false =>
    have t1 : (!avlN c s) = true := by rw [ha]; rfl
    (repeat' (first | (refine nx ?_) | (refine WD_unk (by exact rfl) ?_; ((refine WD_tf (by exact rfl) (by exact rfl) ?_ ?_) <;> (intro hb; (fail_if_success (with_reducible injection hb)); rw [hb]; (try simp only [List.length_map] at hb)))) | (refine WD_call (by exact rfl) ?_; first | (refine WD_c0 (avl_m _ _ ?_) ?_; (exact hyp))) | ((with_reducible apply WD_id); first | (refine WD_cut htb ?_) | (refine WD_cut3 htb ?_) | (refine WD_lens htb ?_) | (refine WD_caps htb ?_) | (refine WD_cps htb ?_) | (refine WD_cpp htb ?_) | (refine WD_api htb ?_) | (refine WD_apz htb ?_) | (refine WD_clr htb ?_)) | ((refine WD_tf (by exact rfl) (by exact rfl) ?_ ?_) <;> (intro hb; (fail_if_success (with_reducible injection hb)); rw [hb]; (try simp only [List.length_map] at hb))) | (((with_reducible apply gC2); exact rfl) <;> (intro hb; rw [hb]))))
    exact gE (.inr rfl) rfl (congrArg vB (by simp [isN, ha])) trivial
  | true =>
    have t1 : (!avlN c s) = false := by rw [ha]; rfl
    (repeat' (first | (refine nx ?_) | (refine WD_unk (by exact rfl) ?_; ((refine WD_tf (by exact rfl) (by exact rfl) ?_ ?_) <;> (intro hb; (fail_if_success (with_reducible injection hb)); rw [hb]; (try simp only [List.length_map] at hb)))) | (refine WD_call (by exact rfl) ?_; first | (refine WD_c0 (avl_m _ _ ?_) ?_; (exact hyp)) | (refine WD_c0 (isc_m _ _ ?_) ?_; (exact hyp))) | ((with_reducible apply WD_id); first | (refine WD_cut htb ?_) | (refine WD_cut3 htb ?_) | (refine WD_lens htb ?_) | (refine WD_caps htb ?_) | (refine WD_cps htb ?_) | (refine WD_cpp htb ?_) | (refine WD_api htb ?_) | (refine WD_apz htb ?_) | (refine WD_clr htb ?_)) | ((refine WD_tf (by exact rfl) (by exact rfl) ?_ ?_) <;> (intro hb; (fail_if_success (with_reducible injection hb)); rw [hb]; (try simp only [List.length_map] at hb))) | (((with_reducible apply gC2); exact rfl) <;> (intro hb; rw [hb]))))
    exact gE (.inr rfl) rfl (congrArg vB (by simp [isN, ha])) trivial
/-- What is asked of two functions that are shown elsewhere. -/
def ImpM : Prop := ∀ (t : Tr), sizT t ≤ 1000 → chkT t = 0 → FnM Tryz.prog 76 [] [aTr t, aTr t] (.tup [vB true, vI 0, vI 0]) []
theorem memb_chk {m : Mb} {n : Nat} (h : membF m n = 0) (hd : m.decl = true) : chkT m.t = 0 := by
  unfold membF at h
  rw [if_neg (by simp [hd])] at h
  split at h
  · rename_i h1; exact absurd h h1
  · rename_i h1; simpa using h1
theorem valL_mem {n : Nat} : ∀ {l : List Mb}, valL n l = 0 → ∀ m ∈ l, membF m n = 0
  | [], _, m, h => by cases h
  | x :: r, h, m, hm => by
    unfold valL at h
    split at h
    · rename_i h1; exact absurd h h1
    · rename_i h1
      rcases List.mem_cons.1 hm with rfl | hm
      · simpa using h1
      · exact valL_mem h m hm
theorem dval_m (c : List Mb) (himp : ImpM) (h : OkS c 0) (h7 : c.length ≤ 7) : FnM Tryz.prog 44 [] [aCf c, aCf c] (vI 0) [] := by
  have hc := h.cc
  have hv := h.v
  have t1 : (valC c != 0) = false := by rw [hv]; rfl
  have t2 : ((c.length : Int) != (c.length : Int)) = false := by simp
  have t2' : ((((c.map rMb).length : Nat) : Int) != (((c.map rMb).length : Nat) : Int)) = false := by simp
  have t3 : (((declN c : Nat) : Int) != ((declN c : Nat) : Int)) = false := by simp
  have t4 : decide ((c.length : Int) > 7) = false := by simp; omega
  refine FnM.of htb Tryz.func44 rfl rfl rfl rfl rfl fun cx hN h0 => ?_
  (repeat' (first | (refine nx ?_) | (refine WD_unk (by exact rfl) ?_; ((refine WD_tf (by exact rfl) (by exact rfl) ?_ ?_) <;> (intro hb; (fail_if_success (with_reducible injection hb)); rw [hb]; (try simp only [List.length_map] at hb)))) | (refine WD_call (by exact rfl) ?_; first | (refine WD_c0 (valC_m _ ?_) ?_; (exact hyp)) | (refine WD_c0 (decl_m _ ?_) ?_; (exact hyp))) | ((with_reducible apply WD_id); first | (refine WD_cut htb ?_) | (refine WD_cut3 htb ?_) | (refine WD_lens htb ?_) | (refine WD_caps htb ?_) | (refine WD_cps htb ?_) | (refine WD_cpp htb ?_) | (refine WD_api htb ?_) | (refine WD_apz htb ?_) | (refine WD_clr htb ?_)) | ((refine WD_tf (by exact rfl) (by exact rfl) ?_ ?_) <;> (intro hb; (fail_if_success (with_reducible injection hb)); rw [hb]; (try simp only [List.length_map] at hb))) | (((with_reducible apply gC2); exact rfl) <;> (intro hb; rw [hb]))))
  (refine WA_forV (c.length) [43] [] (fun k => [(43, vI k)]) (fun k => []) (fun k => True) ?h0 ?_)
  case h0 => trivial
  intro k hk _
  rcases Nat.lt_or_ge k c.length with hk' | hk'
  · have t5 : decide ((k : Int) < (c.length : Int)) = true := by simp; omega
    have hsz := hc.siz k hk'
    cases hd : (nth c k).decl with
    | false =>
      have t6 : (!(nth c k).decl) = true := by rw [hd]; rfl
      (repeat' (first | (refine nx ?_) | (refine WD_unk (by exact rfl) ?_; ((refine WD_tf (by exact rfl) (by exact rfl) ?_ ?_) <;> (intro hb; (fail_if_success (with_reducible injection hb)); rw [hb]; (try simp only [List.length_map] at hb)))) | ((with_reducible apply WD_id); first | (refine WD_cut htb ?_) | (refine WD_cut3 htb ?_) | (refine WD_lens htb ?_) | (refine WD_caps htb ?_) | (refine WD_cps htb ?_) | (refine WD_cpp htb ?_) | (refine WD_api htb ?_) | (refine WD_apz htb ?_) | (refine WD_clr htb ?_)) | ((refine WD_tf (by exact rfl) (by exact rfl) ?_ ?_) <;> (intro hb; (fail_if_success (with_reducible injection hb)); rw [hb]; (try simp only [List.length_map] at hb))) | (((with_reducible apply gC2); exact rfl) <;> (intro hb; rw [hb]))))
      refine ⟨hk', trivial, ?_⟩
      (exact LeV [])
    | true =>
      have t6 : (!(nth c k).decl) = false := by rw [hd]; rfl
      have impX_m := himp (nth c k).t hsz (memb_chk (valL_mem hv _ (nth_mem c k hk')) hd)
      (repeat' (first | (refine nx ?_) | (refine WD_unk (by exact rfl) ?_; ((refine WD_tf (by exact rfl) (by exact rfl) ?_ ?_) <;> (intro hb; (fail_if_success (with_reducible injection hb)); rw [hb]; (try simp only [List.length_map] at hb)))) | (refine WD_call (by exact rfl) ?_; first | (refine WD_c0 (impX_m) ?_)) | ((with_reducible apply WD_id); first | (refine WD_cut htb ?_) | (refine WD_cut3 htb ?_) | (refine WD_lens htb ?_) | (refine WD_caps htb ?_) | (refine WD_cps htb ?_) | (refine WD_cpp htb ?_) | (refine WD_api htb ?_) | (refine WD_apz htb ?_) | (refine WD_clr htb ?_)) | ((refine WD_tf (by exact rfl) (by exact rfl) ?_ ?_) <;> (intro hb; (fail_if_success (with_reducible injection hb)); rw [hb]; (try simp only [List.length_map] at hb))) | (((with_reducible apply gC2); exact rfl) <;> (intro hb; rw [hb]))))
      refine ⟨hk', trivial, ?_⟩
      (exact LeV [])
  · have t5 : decide ((k : Int) < (c.length : Int)) = false := by simp; omega
    (repeat' (first | (refine nx ?_) | (refine WD_unk (by exact rfl) ?_; ((refine WD_tf (by exact rfl) (by exact rfl) ?_ ?_) <;> (intro hb; (fail_if_success (with_reducible injection hb)); rw [hb]; (try simp only [List.length_map] at hb)))) | ((with_reducible apply WD_id); first | (refine WD_cut htb ?_) | (refine WD_cut3 htb ?_) | (refine WD_lens htb ?_) | (refine WD_caps htb ?_) | (refine WD_cps htb ?_) | (refine WD_cpp htb ?_) | (refine WD_api htb ?_) | (refine WD_apz htb ?_) | (refine WD_clr htb ?_)) | ((refine WD_tf (by exact rfl) (by exact rfl) ?_ ?_) <;> (intro hb; (fail_if_success (with_reducible injection hb)); rw [hb]; (try simp only [List.length_map] at hb))) | (((with_reducible apply gC2); exact rfl) <;> (intro hb; rw [hb]))))
    exact gE (.inr rfl) rfl rfl trivial
theorem pair_m (c : List Mb) (s : Nat) (himp : ImpM) (h : OkS c s) (h7 : c.length ≤ 7) : FnM Tryz.prog 22 [] [aCf c, aCf c, vI (s : Int)] (vI 0) [] := by
  have dvalX_m := dval_m c himp ⟨h.cc, h.v, Nat.zero_le _, h.kb⟩ h7
  refine FnM.of htb Tryz.func22 rfl rfl rfl rfl rfl fun cx hN h0 => ?_
  (repeat' (first | (refine nx ?_) | (refine WD_unk (by exact rfl) ?_; ((refine WD_tf (by exact rfl) (by exact rfl) ?_ ?_) <;> (intro hb; (fail_if_success (with_reducible injection hb)); rw [hb]; (try simp only [List.length_map] at hb)))) | (refine WD_call (by exact rfl) ?_; first | (refine WD_c0 (dvalX_m) ?_) | (refine WD_c0 (askA_m _ _ ?_) ?_; (exact hyp))) | ((with_reducible apply WD_id); first | (refine WD_cut htb ?_) | (refine WD_cut3 htb ?_) | (refine WD_lens htb ?_) | (refine WD_caps htb ?_) | (refine WD_cps htb ?_) | (refine WD_cpp htb ?_) | (refine WD_api htb ?_) | (refine WD_apz htb ?_) | (refine WD_clr htb ?_)) | ((refine WD_tf (by exact rfl) (by exact rfl) ?_ ?_) <;> (intro hb; (fail_if_success (with_reducible injection hb)); rw [hb]; (try simp only [List.length_map] at hb))) | (((with_reducible apply gC2); exact rfl) <;> (intro hb; rw [hb]))))
  exact gE (.inr rfl) rfl rfl trivial
/-- The subsets of the first n nodes, in their order. -/
def SubM' (n : Nat) (l : List Nat) : Prop := (∀ b ∈ l, b < 2 ^ n) ∧ l.length ≤ 128 ∧ FnM Tryz.prog 23 [] [vI ((2 ^ n - 1 : Nat) : Int)] (lN l) []
def dspN (c : List Mb) (ill : Nat) (l : List Nat) : List Nat := l.filter fun b => (andn ill b == 0) && isN c b
theorem dsp_take {c : List Mb} {ill : Nat} {l : List Nat} {k : Nat} (h : k < l.length) : dspN c ill (l.take (k + 1)) = if (andn ill (nth l k) == 0) && isN c (nth l k) then dspN c ill (l.take k) ++ [nth l k] else dspN c ill (l.take k) := by
  unfold dspN
  rw [List.take_succ_eq_append_getElem h, List.filter_append, nth_getElem l k h]
  split
  · rename_i hp; simp [hp]
  · rename_i hp; simp [hp]
theorem all_m (c : List Mb) (ill : Nat) (l : List Nat) (himp : ImpM) (hsub : SubM' c.length l) (h : OkS c ill) (h7 : c.length ≤ 7) : FnM Tryz.prog 7 [] [aCf c, aCf c, vI (ill : Int)] (.tup [lN (dspN c ill l), vI 0]) [] := by
  have hc := h.cc
  obtain ⟨hb, hlen, subX_m⟩ := hsub
  have pairX_m := pair_m c ill himp h h7
  have hill := h.lt
  refine FnM.of htb Tryz.func7 rfl rfl rfl rfl rfl fun cx hN h0 => ?_
  (repeat' (first | (refine nx ?_) | (refine WD_unk (by exact rfl) ?_; ((refine WD_tf (by exact rfl) (by exact rfl) ?_ ?_) <;> (intro hb; (fail_if_success (with_reducible injection hb)); rw [hb]; (try simp only [List.length_map] at hb)))) | (refine WD_call (by exact rfl) ?_; first | (refine WD_c0 (pairX_m) ?_) | (refine WD_c0 (mbsA_m _ ?_) ?_; (exact hyp)) | (refine WD_c0 (subX_m) ?_)) | ((with_reducible apply WD_id); first | (refine WD_cut htb ?_) | (refine WD_cut3 htb ?_) | (refine WD_lens htb ?_) | (refine WD_caps htb ?_) | (refine WD_cps htb ?_) | (refine WD_cpp htb ?_) | (refine WD_api htb ?_) | (refine WD_apz htb ?_) | (refine WD_clr htb ?_)) | ((refine WD_tf (by exact rfl) (by exact rfl) ?_ ?_) <;> (intro hb; (fail_if_success (with_reducible injection hb)); rw [hb]; (try simp only [List.length_map] at hb))) | (((with_reducible apply gC2); exact rfl) <;> (intro hb; rw [hb]))))
  refine WA_le (Le_nilT 60 9 3 1 rfl rfl) ?_
  (refine WA_forV (l.length) [23, 9] [60] (fun k => [(23, vI k), (9, .own 60)]) (fun k => [(60, .arr 3 1 ((dspN c ill (l.take k)).map rN))]) (fun k => True) ?h0 ?_)
  case h0 => trivial
  intro k hk _
  have hlo : (dspN c ill (l.take k)).length ≤ 128 := Nat.le_trans (List.length_filter_le _ _) (by rw [List.length_take]; omega)
  rcases Nat.lt_or_ge k l.length with hk' | hk'
  · have t1 : decide ((k : Int) < (l.length : Int)) = true := by simp; omega
    have hbk := hb _ (nth_mem l k hk')
    have hS : OkS c (nth l k) := ⟨h.cc, h.v, by show nth l k ≤ 2 ^ c.length - 1; omega, h.kb⟩
    have hbl := hS.lt
    have hst := dsp_take (c := c) (ill := ill) hk'
    cases h1 : (andn ill (nth l k) == 0) with
    | false =>
      have t2 : (((andn ill (nth l k) : Nat) : Int) == 0) = false := by simpa using h1
      rw [h1, Bool.false_and, if_neg (by simp)] at hst
      (repeat' (first | ((with_reducible apply WD_id); first | (refine WD_eq (bnotN_step rfl rfl rfl) ?_)) | (refine nx ?_) | (refine WD_unk (by exact rfl) ?_; ((refine WD_tf (by exact rfl) (by exact rfl) ?_ ?_) <;> (intro hb; (fail_if_success (with_reducible injection hb)); rw [hb]; (try simp only [List.length_map] at hb)))) | ((with_reducible apply WD_id); first | (refine WD_cut htb ?_) | (refine WD_cut3 htb ?_) | (refine WD_lens htb ?_) | (refine WD_caps htb ?_) | (refine WD_cps htb ?_) | (refine WD_cpp htb ?_) | (refine WD_api htb ?_) | (refine WD_apz htb ?_) | (refine WD_clr htb ?_)) | ((refine WD_tf (by exact rfl) (by exact rfl) ?_ ?_) <;> (intro hb; (fail_if_success (with_reducible injection hb)); rw [hb]; (try simp only [List.length_map] at hb))) | (((with_reducible apply gC2); exact rfl) <;> (intro hb; rw [hb]))))
      refine ⟨hk', trivial, ?_⟩
      rw [hst]
      (exact LeV [])
    | true =>
      have t2 : (((andn ill (nth l k) : Nat) : Int) == 0) = true := by simpa using h1
      rw [h1, Bool.true_and] at hst
      cases h2 : isN c (nth l k) with
      | false =>
        rw [h2, if_neg (by simp)] at hst
        (repeat' (first | ((with_reducible apply WD_id); first | (refine WD_eq (bnotN_step rfl rfl rfl) ?_)) | (refine nx ?_) | (refine WD_unk (by exact rfl) ?_; ((refine WD_tf (by exact rfl) (by exact rfl) ?_ ?_) <;> (intro hb; (fail_if_success (with_reducible injection hb)); rw [hb]; (try simp only [List.length_map] at hb)))) | (refine WD_call (by exact rfl) ?_; first | (refine WD_c0 (is_m _ _ ?_) ?_; (exact hyp))) | ((with_reducible apply WD_id); first | (refine WD_cut htb ?_) | (refine WD_cut3 htb ?_) | (refine WD_lens htb ?_) | (refine WD_caps htb ?_) | (refine WD_cps htb ?_) | (refine WD_cpp htb ?_) | (refine WD_api htb ?_) | (refine WD_apz htb ?_) | (refine WD_clr htb ?_)) | ((refine WD_tf (by exact rfl) (by exact rfl) ?_ ?_) <;> (intro hb; (fail_if_success (with_reducible injection hb)); rw [hb]; (try simp only [List.length_map] at hb))) | (((with_reducible apply gC2); exact rfl) <;> (intro hb; rw [hb]))))
        refine ⟨hk', trivial, ?_⟩
        rw [hst]
        (exact LeV [])
      | true =>
        rw [h2, if_pos rfl] at hst
        (repeat' (first | ((with_reducible apply WD_id); first | (refine WD_eq (bnotN_step rfl rfl rfl) ?_)) | (refine nx ?_) | (refine WD_unk (by exact rfl) ?_; ((refine WD_tf (by exact rfl) (by exact rfl) ?_ ?_) <;> (intro hb; (fail_if_success (with_reducible injection hb)); rw [hb]; (try simp only [List.length_map] at hb)))) | (refine WD_call (by exact rfl) ?_; first | (refine WD_c0 (is_m _ _ ?_) ?_; (exact hyp))) | ((with_reducible apply WD_id); first | (refine WD_cut htb ?_) | (refine WD_cut3 htb ?_) | (refine WD_lens htb ?_) | (refine WD_caps htb ?_) | (refine WD_cps htb ?_) | (refine WD_cpp htb ?_) | (refine WD_api htb ?_) | (refine WD_apz htb ?_) | (refine WD_clr htb ?_)) | ((refine WD_tf (by exact rfl) (by exact rfl) ?_ ?_) <;> (intro hb; (fail_if_success (with_reducible injection hb)); rw [hb]; (try simp only [List.length_map] at hb))) | (((with_reducible apply gC2); exact rfl) <;> (intro hb; rw [hb]))))
        refine ⟨hk', trivial, ?_⟩
        rw [hst, List.map_append]
        (exact LeV [(60, 40)])
  · have t1 : decide ((k : Int) < (l.length : Int)) = false := by simp; omega
    have e1 : l.take k = l := take_all hk'
    rw [e1]
    (repeat' (first | (refine nx ?_) | (refine WD_unk (by exact rfl) ?_; ((refine WD_tf (by exact rfl) (by exact rfl) ?_ ?_) <;> (intro hb; (fail_if_success (with_reducible injection hb)); rw [hb]; (try simp only [List.length_map] at hb)))) | ((with_reducible apply WD_id); first | (refine WD_cut htb ?_) | (refine WD_cut3 htb ?_) | (refine WD_lens htb ?_) | (refine WD_caps htb ?_) | (refine WD_cps htb ?_) | (refine WD_cpp htb ?_) | (refine WD_api htb ?_) | (refine WD_apz htb ?_) | (refine WD_clr htb ?_)) | ((refine WD_tf (by exact rfl) (by exact rfl) ?_ ?_) <;> (intro hb; (fail_if_success (with_reducible injection hb)); rw [hb]; (try simp only [List.length_map] at hb))) | (((with_reducible apply gC2); exact rfl) <;> (intro hb; rw [hb]))))
    (exact glV [(6, lN (dspN c ill l)), (7, vI 0)] [] (LeV []))
def andL : List Nat → Nat → Nat
  | [], a => a
  | b :: r, a => andL r (a &&& b)
theorem andL_take {l : List Nat} {a : Nat} {k : Nat} (h : k < l.length) : andL (l.take (k + 1)) a = andL (l.take k) a &&& nth l k :=
  take_fold andL (fun a b => a &&& b) (fun _ => rfl) (fun _ _ _ => rfl) l a h
theorem andL_le : ∀ (l : List Nat) (a : Nat), andL l a ≤ a
  | [], a => Nat.le_refl _
  | b :: r, a => Nat.le_trans (andL_le r _) Nat.and_le_left
def intN (c : List Mb) (ill : Nat) (l : List Nat) : Nat × Bool := if (holdF (delC c ill)).1 = true then (andn (memN c) (andL (dspN c ill l) (memN c)), true) else (0, false)
theorem iof_m (c : List Mb) (ill : Nat) (l : List Nat) (himp : ImpM) (hsub : SubM' c.length l) (h : OkS c ill) (h7 : c.length ≤ 7) : FnM Tryz.prog 29 [] [aCf c, aCf c, vI (ill : Int)] (.tup [vI ((intN c ill l).1 : Int), vB (intN c ill l).2, vI 0]) [] := by
  have hc := h.cc
  have allX_m := all_m c ill l himp hsub h h7
  have hm := mem_lt hc.len
  have hlen : (dspN c ill l).length ≤ 128 := Nat.le_trans (List.length_filter_le _ _) hsub.2.1
  refine FnM.of htb Tryz.func29 rfl rfl rfl rfl rfl fun cx hN h0 => ?_
  unfold intN
  cases hh : (holdF (delC c ill)).1 with
  | false =>
    have t1 : (!(holdF (delC c ill)).1) = true := by rw [hh]; rfl
    rw [if_neg (by simp)]
    (repeat' (first | (refine nx ?_) | (refine WD_unk (by exact rfl) ?_; ((refine WD_tf (by exact rfl) (by exact rfl) ?_ ?_) <;> (intro hb; (fail_if_success (with_reducible injection hb)); rw [hb]; (try simp only [List.length_map] at hb)))) | (refine WD_call (by exact rfl) ?_; first | (refine WD_c0 (allX_m) ?_) | (refine WD_c0 (isc_m _ _ ?_) ?_; (exact hyp))) | ((with_reducible apply WD_id); first | (refine WD_cut htb ?_) | (refine WD_cut3 htb ?_) | (refine WD_lens htb ?_) | (refine WD_caps htb ?_) | (refine WD_cps htb ?_) | (refine WD_cpp htb ?_) | (refine WD_api htb ?_) | (refine WD_apz htb ?_) | (refine WD_clr htb ?_)) | ((refine WD_tf (by exact rfl) (by exact rfl) ?_ ?_) <;> (intro hb; (fail_if_success (with_reducible injection hb)); rw [hb]; (try simp only [List.length_map] at hb))) | (((with_reducible apply gC2); exact rfl) <;> (intro hb; rw [hb]))))
    exact gE (.inr rfl) rfl rfl trivial
  | true =>
    have t1 : (!(holdF (delC c ill)).1) = false := by rw [hh]; rfl
    rw [if_pos rfl]
    (repeat' (first | (refine nx ?_) | (refine WD_unk (by exact rfl) ?_; ((refine WD_tf (by exact rfl) (by exact rfl) ?_ ?_) <;> (intro hb; (fail_if_success (with_reducible injection hb)); rw [hb]; (try simp only [List.length_map] at hb)))) | (refine WD_call (by exact rfl) ?_; first | (refine WD_c0 (allX_m) ?_) | (refine WD_c0 (isc_m _ _ ?_) ?_; (exact hyp)) | (refine WD_c0 (mbsD_m _ ?_) ?_; (exact hyp))) | ((with_reducible apply WD_id); first | (refine WD_cut htb ?_) | (refine WD_cut3 htb ?_) | (refine WD_lens htb ?_) | (refine WD_caps htb ?_) | (refine WD_cps htb ?_) | (refine WD_cpp htb ?_) | (refine WD_api htb ?_) | (refine WD_apz htb ?_) | (refine WD_clr htb ?_)) | ((refine WD_tf (by exact rfl) (by exact rfl) ?_ ?_) <;> (intro hb; (fail_if_success (with_reducible injection hb)); rw [hb]; (try simp only [List.length_map] at hb))) | (((with_reducible apply gC2); exact rfl) <;> (intro hb; rw [hb]))))
    generalize hD : dspN c ill l = dl at *
    (refine WA_forV (dl.length) [38, 13] [] (fun k => [(38, vI k), (13, vI ((andL (dl.take k) (memN c) : Nat) : Int))]) (fun k => []) (fun k => True) ?h0 ?_)
    case h0 => trivial
    intro k hk _
    have hle := andL_le (dl.take k) (memN c)
    rcases Nat.lt_or_ge k dl.length with hk' | hk'
    · have t2 : decide ((k : Int) < (dl.length : Int)) = true := by simp; omega
      have hst := andL_take (a := memN c) hk'
      have hbk : nth dl k < 1024 := by
        have hmem := nth_mem dl k hk'
        rw [← hD] at hmem
        have h1 := hsub.1 _ ((List.mem_filter.1 hmem).1)
        have h2 := two_le hc.len
        rw [hD] at h1
        omega
      (repeat' (first | ((with_reducible apply WD_id); first | (refine WD_eq (bandN_step rfl rfl rfl) ?_)) | (refine nx ?_) | (refine WD_unk (by exact rfl) ?_; ((refine WD_tf (by exact rfl) (by exact rfl) ?_ ?_) <;> (intro hb; (fail_if_success (with_reducible injection hb)); rw [hb]; (try simp only [List.length_map] at hb)))) | ((with_reducible apply WD_id); first | (refine WD_cut htb ?_) | (refine WD_cut3 htb ?_) | (refine WD_lens htb ?_) | (refine WD_caps htb ?_) | (refine WD_cps htb ?_) | (refine WD_cpp htb ?_) | (refine WD_api htb ?_) | (refine WD_apz htb ?_) | (refine WD_clr htb ?_)) | ((refine WD_tf (by exact rfl) (by exact rfl) ?_ ?_) <;> (intro hb; (fail_if_success (with_reducible injection hb)); rw [hb]; (try simp only [List.length_map] at hb))) | (((with_reducible apply gC2); exact rfl) <;> (intro hb; rw [hb]))))
      refine ⟨hk', trivial, ?_⟩
      rw [hst]
      (exact LeV [])
    · have t2 : decide ((k : Int) < (dl.length : Int)) = false := by simp; omega
      have e1 : dl.take k = dl := take_all hk'
      rw [e1] at hle ⊢
      (repeat' (first | ((with_reducible apply WD_id); first | (refine WD_eq (bnotN_step rfl rfl rfl) ?_)) | (refine nx ?_) | (refine WD_unk (by exact rfl) ?_; ((refine WD_tf (by exact rfl) (by exact rfl) ?_ ?_) <;> (intro hb; (fail_if_success (with_reducible injection hb)); rw [hb]; (try simp only [List.length_map] at hb)))) | (refine WD_call (by exact rfl) ?_; first | (refine WD_c0 (mbsD_m _ ?_) ?_; (exact hyp))) | ((with_reducible apply WD_id); first | (refine WD_cut htb ?_) | (refine WD_cut3 htb ?_) | (refine WD_lens htb ?_) | (refine WD_caps htb ?_) | (refine WD_cps htb ?_) | (refine WD_cpp htb ?_) | (refine WD_api htb ?_) | (refine WD_apz htb ?_) | (refine WD_clr htb ?_)) | ((refine WD_tf (by exact rfl) (by exact rfl) ?_ ?_) <;> (intro hb; (fail_if_success (with_reducible injection hb)); rw [hb]; (try simp only [List.length_map] at hb))) | (((with_reducible apply gC2); exact rfl) <;> (intro hb; rw [hb]))))
      exact gE (.inr rfl) rfl rfl trivial
theorem iOf_m (c : List Mb) (ill : Nat) (l : List Nat) (himp : ImpM) (hsub : SubM' c.length l) (h : OkS c ill) (h7 : c.length ≤ 7) : FnM Tryz.prog 10 [] [aCf c, aCf c, vI (ill : Int)] (.tup [vI ((intN c ill l).1 : Int), vI 0]) [] := by
  have of2X_m := iof_m c ill l himp hsub h h7
  refine FnM.of htb Tryz.func10 rfl rfl rfl rfl rfl fun cx hN h0 => ?_
  (repeat' (first | (refine nx ?_) | (refine WD_unk (by exact rfl) ?_; ((refine WD_tf (by exact rfl) (by exact rfl) ?_ ?_) <;> (intro hb; (fail_if_success (with_reducible injection hb)); rw [hb]; (try simp only [List.length_map] at hb)))) | (refine WD_call (by exact rfl) ?_; first | (refine WD_c0 (of2X_m) ?_)) | ((with_reducible apply WD_id); first | (refine WD_cut htb ?_) | (refine WD_cut3 htb ?_) | (refine WD_lens htb ?_) | (refine WD_caps htb ?_) | (refine WD_cps htb ?_) | (refine WD_cpp htb ?_) | (refine WD_api htb ?_) | (refine WD_apz htb ?_) | (refine WD_clr htb ?_)) | ((refine WD_tf (by exact rfl) (by exact rfl) ?_ ?_) <;> (intro hb; (fail_if_success (with_reducible injection hb)); rw [hb]; (try simp only [List.length_map] at hb))) | (((with_reducible apply gC2); exact rfl) <;> (intro hb; rw [hb]))))
  exact gE (.inr rfl) rfl rfl trivial
end Go.Proofs.YtbfafljcclfeaaaGreatDoor
