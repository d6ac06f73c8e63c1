/- Contracts of the functions on sets of nodes and quorums. -/
import Derived.Test.YtbfafljcclfeaaaGreatDoorTnB
import Derived.Test.YtbfafljcclfeaaaGreatDoorTnC
namespace Go.Proofs.YtbfafljcclfeaaaGreatDoor
set_option linter.unusedSimpArgs false
set_option linter.unusedVariables false
set_option linter.unnecessarySimpa false
set_option linter.unusedSectionVars false
set_option maxRecDepth 100000
open Go Go.RowKit Go.Am Go.Proofs.Grow

section
variable {o : Oper} {t t' : TypeId} {x y : Operand} {T : Nat → Option AV} {M : Nat → Option AO} {a b : Nat}
theorem bandN_step (ho : o.op = .binOp .and t x y t') (hx : evA T x = some (vI (a : Int))) (hy : evA T y = some (vI (b : Int))) (ha : a < 4611686018427387904 := by exact num) (hb : b < 4611686018427387904 := by exact num) : StepOK Tryz.prog o T M ⟨vI ((a &&& b : Nat) : Int), [], []⟩ := by
  rw [← band_nat ha hb]; exact band_step ho hx hy
theorem borN_step (ho : o.op = .binOp .or t x y t') (hx : evA T x = some (vI (a : Int))) (hy : evA T y = some (vI (b : Int))) (ha : a < 4611686018427387904 := by exact num) (hb : b < 4611686018427387904 := by exact num) : StepOK Tryz.prog o T M ⟨vI ((a ||| b : Nat) : Int), [], []⟩ := by
  rw [← bor_nat ha hb]; exact bor_step ho hx hy
theorem bnotN_step (ho : o.op = .binOp .andNot t x y t') (hx : evA T x = some (vI (a : Int))) (hy : evA T y = some (vI (b : Int))) (ha : a < 4611686018427387904 := by exact num) (hb : b < 4611686018427387904 := by exact num) : StepOK Tryz.prog o T M ⟨vI ((andn a b : Nat) : Int), [], []⟩ := by
  rw [← bnot_nat ha hb]; exact bnot_step ho hx hy
theorem shlN_step (ho : o.op = .binOp .shl t x y t') (hx : evA T x = some (vI 1)) (hy : evA T y = some (vI (b : Int))) (h0 : b ≤ 61 := by exact num) : StepOK Tryz.prog o T M ⟨vI ((2 ^ b : Nat) : Int), [], []⟩ := by
  rw [← shl_nat h0]; exact shl_step ho hx hy (by omega)
end
def rN (n : Nat) : List D := [dI (n : Int)]
abbrev lN (l : List Nat) : AV := .d (.rows 1 (l.map rN))
theorem nodes_m (s : Nat) (hs : s < 1024) : FnM Tryz.prog 56 [] [vI (s : Int)] (lN (nodesN s)) [] := by
  refine FnM.of htb Tryz.func56 rfl rfl rfl rfl rfl fun cx hN h0 => ?_
  (repeat' (first | (refine nx ?_) | (refine WD_unk (by exact rfl) ?_; ((refine WD_tf (by exact rfl) (by exact rfl) ?_ ?_) <;> (intro hb; (fail_if_success (with_reducible injection hb)); rw [hb]; (try simp only [List.length_map] at hb)))) | ((with_reducible apply WD_id); first | (refine WD_cut htb ?_) | (refine WD_cut3 htb ?_) | (refine WD_lens htb ?_) | (refine WD_caps htb ?_) | (refine WD_cps htb ?_) | (refine WD_cpp htb ?_) | (refine WD_api htb ?_) | (refine WD_apz htb ?_) | (refine WD_clr htb ?_)) | ((refine WD_tf (by exact rfl) (by exact rfl) ?_ ?_) <;> (intro hb; (fail_if_success (with_reducible injection hb)); rw [hb]; (try simp only [List.length_map] at hb))) | (((with_reducible apply gC2); exact rfl) <;> (intro hb; rw [hb]))))
  refine WA_le (Le_nilT 60 3 3 1 rfl rfl) ?_
  (refine WA_forV (10) [5, 3] [60] (fun k => [(5, vI k), (3, .own 60)]) (fun k => [(60, .arr 3 1 ((nodesTo s k).map rN))]) (fun k => True) ?h0 ?_)
  case h0 => trivial
  intro k hk _
  have hln := nodesTo_len s k
  rcases Nat.lt_or_ge k 10 with hk' | hk'
  · have t1 : decide ((k : Int) < 10) = true := by simp; omega
    have hst := nodesTo_succ s k
    have hh := has_nat hs hk'
    cases hx : s.testBit k with
    | true =>
      rw [hx] at hh
      rw [hx, if_pos rfl] at hst
      (repeat' (first | (refine nx ?_) | (refine WD_unk (by exact rfl) ?_; ((refine WD_tf (by exact rfl) (by exact rfl) ?_ ?_) <;> (intro hb; (fail_if_success (with_reducible injection hb)); rw [hb]; (try simp only [List.length_map] at hb)))) | (refine WD_call (by exact rfl) ?_; first | (refine WD_c0 (has_m _ _) ?_)) | ((with_reducible apply WD_id); first | (refine WD_cut htb ?_) | (refine WD_cut3 htb ?_) | (refine WD_lens htb ?_) | (refine WD_caps htb ?_) | (refine WD_cps htb ?_) | (refine WD_cpp htb ?_) | (refine WD_api htb ?_) | (refine WD_apz htb ?_) | (refine WD_clr htb ?_)) | ((refine WD_tf (by exact rfl) (by exact rfl) ?_ ?_) <;> (intro hb; (fail_if_success (with_reducible injection hb)); rw [hb]; (try simp only [List.length_map] at hb))) | (((with_reducible apply gC2); exact rfl) <;> (intro hb; rw [hb]))))
      refine ⟨hk', trivial, ?_⟩
      rw [hst, List.map_append]
      (exact LeV [(60, 14)])
    | false =>
      rw [hx] at hh
      rw [hx, if_neg (by simp)] at hst
      (repeat' (first | (refine nx ?_) | (refine WD_unk (by exact rfl) ?_; ((refine WD_tf (by exact rfl) (by exact rfl) ?_ ?_) <;> (intro hb; (fail_if_success (with_reducible injection hb)); rw [hb]; (try simp only [List.length_map] at hb)))) | (refine WD_call (by exact rfl) ?_; first | (refine WD_c0 (has_m _ _) ?_)) | ((with_reducible apply WD_id); first | (refine WD_cut htb ?_) | (refine WD_cut3 htb ?_) | (refine WD_lens htb ?_) | (refine WD_caps htb ?_) | (refine WD_cps htb ?_) | (refine WD_cpp htb ?_) | (refine WD_api htb ?_) | (refine WD_apz htb ?_) | (refine WD_clr htb ?_)) | ((refine WD_tf (by exact rfl) (by exact rfl) ?_ ?_) <;> (intro hb; (fail_if_success (with_reducible injection hb)); rw [hb]; (try simp only [List.length_map] at hb))) | (((with_reducible apply gC2); exact rfl) <;> (intro hb; rw [hb]))))
      refine ⟨hk', trivial, ?_⟩
      rw [hst]
      (exact LeV [])
  · have t1 : decide ((k : Int) < 10) = false := by simp; omega
    obtain rfl : k = 10 := by omega
    (repeat' (first | (refine nx ?_) | (refine WD_unk (by exact rfl) ?_; ((refine WD_tf (by exact rfl) (by exact rfl) ?_ ?_) <;> (intro hb; (fail_if_success (with_reducible injection hb)); rw [hb]; (try simp only [List.length_map] at hb)))) | ((with_reducible apply WD_id); first | (refine WD_cut htb ?_) | (refine WD_cut3 htb ?_) | (refine WD_lens htb ?_) | (refine WD_caps htb ?_) | (refine WD_cps htb ?_) | (refine WD_cpp htb ?_) | (refine WD_api htb ?_) | (refine WD_apz htb ?_) | (refine WD_clr htb ?_)) | ((refine WD_tf (by exact rfl) (by exact rfl) ?_ ?_) <;> (intro hb; (fail_if_success (with_reducible injection hb)); rw [hb]; (try simp only [List.length_map] at hb))) | (((with_reducible apply gC2); exact rfl) <;> (intro hb; rw [hb]))))
    (exact glV [(2, lN (nodesN s))] [] (LeV []))
def rMb (m : Mb) : List D := [.v (.bool m.decl), dI m.t.k, .rows 1 (m.t.ns.map rI), .rows 3 (m.t.is.map rTr)]
abbrev lMb (c : List Mb) : AV := .d (.rows 4 (c.map rMb))
abbrev aCf (c : List Mb) : AV := .agg [lMb c]
/-- Few members, with small trusts. -/
structure OkC (c : List Mb) : Prop where
  len : c.length ≤ 10
  siz : ∀ k, k < c.length → sizT (nth c k).t ≤ 1000
theorem decl_m (c : List Mb) (hc : OkC c) : FnM Tryz.prog 57 [] [aCf c] (vI (declN c : Nat)) [] := by
  have hl := hc.len
  refine FnM.of htb Tryz.func57 rfl rfl rfl rfl rfl fun cx hN h0 => ?_
  (repeat' (first | (refine nx ?_) | (refine WD_unk (by exact rfl) ?_; ((refine WD_tf (by exact rfl) (by exact rfl) ?_ ?_) <;> (intro hb; (fail_if_success (with_reducible injection hb)); rw [hb]; (try simp only [List.length_map] at hb)))) | ((with_reducible apply WD_id); first | (refine WD_cut htb ?_) | (refine WD_cut3 htb ?_) | (refine WD_lens htb ?_) | (refine WD_caps htb ?_) | (refine WD_cps htb ?_) | (refine WD_cpp htb ?_) | (refine WD_api htb ?_) | (refine WD_apz htb ?_) | (refine WD_clr htb ?_)) | ((refine WD_tf (by exact rfl) (by exact rfl) ?_ ?_) <;> (intro hb; (fail_if_success (with_reducible injection hb)); rw [hb]; (try simp only [List.length_map] at hb))) | (((with_reducible apply gC2); exact rfl) <;> (intro hb; rw [hb]))))
  (refine WA_forV (c.length) [9, 3] [] (fun k => [(9, vI k), (3, vI (declTo c k : Nat))]) (fun k => []) (fun k => True) ?h0 ?_)
  case h0 => trivial
  intro k hk _
  have hd := declTo_lt c k (by omega)
  rcases Nat.lt_or_ge k c.length with hk' | hk'
  · have t1 : decide ((k : Int) < (c.length : Int)) = true := by simp; omega
    have t2 : decide ((k : Int) < 10) = true := by simp; omega
    have hp := pow_lt (k := k) (by omega)
    cases hx : (nth c k).decl with
    | true =>
      have hst : declTo c (k + 1) = declTo c k ||| 2 ^ k := by rw [declTo, if_pos hx]
      (repeat' (first | ((with_reducible apply WD_id); first | (refine WD_eq (shlN_step rfl rfl rfl) ?_) | (refine WD_eq (borN_step rfl rfl rfl) ?_)) | (refine nx ?_) | (refine WD_unk (by exact rfl) ?_; ((refine WD_tf (by exact rfl) (by exact rfl) ?_ ?_) <;> (intro hb; (fail_if_success (with_reducible injection hb)); rw [hb]; (try simp only [List.length_map] at hb)))) | ((with_reducible apply WD_id); first | (refine WD_cut htb ?_) | (refine WD_cut3 htb ?_) | (refine WD_lens htb ?_) | (refine WD_caps htb ?_) | (refine WD_cps htb ?_) | (refine WD_cpp htb ?_) | (refine WD_api htb ?_) | (refine WD_apz htb ?_) | (refine WD_clr htb ?_)) | ((refine WD_tf (by exact rfl) (by exact rfl) ?_ ?_) <;> (intro hb; (fail_if_success (with_reducible injection hb)); rw [hb]; (try simp only [List.length_map] at hb))) | (((with_reducible apply gC2); exact rfl) <;> (intro hb; rw [hb]))))
      refine ⟨hk', trivial, ?_⟩
      rw [hst]
      (exact LeV [])
    | false =>
      have hst : declTo c (k + 1) = declTo c k := by rw [declTo, if_neg (by simp [hx])]
      (repeat' (first | (refine nx ?_) | (refine WD_unk (by exact rfl) ?_; ((refine WD_tf (by exact rfl) (by exact rfl) ?_ ?_) <;> (intro hb; (fail_if_success (with_reducible injection hb)); rw [hb]; (try simp only [List.length_map] at hb)))) | ((with_reducible apply WD_id); first | (refine WD_cut htb ?_) | (refine WD_cut3 htb ?_) | (refine WD_lens htb ?_) | (refine WD_caps htb ?_) | (refine WD_cps htb ?_) | (refine WD_cpp htb ?_) | (refine WD_api htb ?_) | (refine WD_apz htb ?_) | (refine WD_clr htb ?_)) | ((refine WD_tf (by exact rfl) (by exact rfl) ?_ ?_) <;> (intro hb; (fail_if_success (with_reducible injection hb)); rw [hb]; (try simp only [List.length_map] at hb))) | (((with_reducible apply gC2); exact rfl) <;> (intro hb; rw [hb]))))
      refine ⟨hk', trivial, ?_⟩
      rw [hst]
      (exact LeV [])
  · have t1 : decide ((k : Int) < (c.length : Int)) = false := by simp; omega
    obtain rfl : k = c.length := by omega
    (repeat' (first | (refine nx ?_) | (refine WD_unk (by exact rfl) ?_; ((refine WD_tf (by exact rfl) (by exact rfl) ?_ ?_) <;> (intro hb; (fail_if_success (with_reducible injection hb)); rw [hb]; (try simp only [List.length_map] at hb)))) | ((with_reducible apply WD_id); first | (refine WD_cut htb ?_) | (refine WD_cut3 htb ?_) | (refine WD_lens htb ?_) | (refine WD_caps htb ?_) | (refine WD_cps htb ?_) | (refine WD_cpp htb ?_) | (refine WD_api htb ?_) | (refine WD_apz htb ?_) | (refine WD_clr htb ?_)) | ((refine WD_tf (by exact rfl) (by exact rfl) ?_ ?_) <;> (intro hb; (fail_if_success (with_reducible injection hb)); rw [hb]; (try simp only [List.length_map] at hb))) | (((with_reducible apply gC2); exact rfl) <;> (intro hb; rw [hb]))))
    exact gE (.inr rfl) rfl rfl trivial
theorem content_m (c : List Mb) (k s : Nat) (hc : OkC c) (hk : k < c.length) : FnM Tryz.prog 132 [] [aCf c, vI (k : Int), vI (s : Int)] (vB (satT s (nth c k).t)) [] := by
  have hx : hT (nth c k).t ≤ hT (nth c k).t ∧ sizT (nth c k).t ≤ 1000 := ⟨Nat.le_refl _, hc.siz k hk⟩
  have satR_m : ∀ (s : Int) (x : Tr) (h : hT x ≤ hT (nth c k).t ∧ sizT x ≤ 1000), FnM Tryz.prog 59 [] [aTr x, vI s] (vB (satT s x)) [] := fun s x h => sat_m _ s x h.1 h.2
  refine FnM.of htb Tryz.func132 rfl rfl rfl rfl rfl fun cx hN h0 => ?_
  (repeat' (first | (refine nx ?_) | (refine WD_unk (by exact rfl) ?_; ((refine WD_tf (by exact rfl) (by exact rfl) ?_ ?_) <;> (intro hb; (fail_if_success (with_reducible injection hb)); rw [hb]; (try simp only [List.length_map] at hb)))) | (refine WD_call (by exact rfl) ?_; first | (refine WD_c0 (satR_m _ _ ?_) ?_; (exact hyp))) | ((with_reducible apply WD_id); first | (refine WD_cut htb ?_) | (refine WD_cut3 htb ?_) | (refine WD_lens htb ?_) | (refine WD_caps htb ?_) | (refine WD_cps htb ?_) | (refine WD_cpp htb ?_) | (refine WD_api htb ?_) | (refine WD_apz htb ?_) | (refine WD_clr htb ?_)) | ((refine WD_tf (by exact rfl) (by exact rfl) ?_ ?_) <;> (intro hb; (fail_if_success (with_reducible injection hb)); rw [hb]; (try simp only [List.length_map] at hb))) | (((with_reducible apply gC2); exact rfl) <;> (intro hb; rw [hb]))))
  exact gE (.inr rfl) rfl rfl trivial
theorem inside_m (c : List Mb) (s : Nat) (hc : OkC c) (hs : s < 1024) : FnM Tryz.prog 128 [] [aCf c, vI (s : Int)] (vB (andn s (declN c) == 0)) [] := by
  have hd := declN_lt hc.len
  refine FnM.of htb Tryz.func128 rfl rfl rfl rfl rfl fun cx hN h0 => ?_
  (repeat' (first | ((with_reducible apply WD_id); first | (refine WD_eq (bnotN_step rfl rfl rfl) ?_)) | (refine nx ?_) | (refine WD_unk (by exact rfl) ?_; ((refine WD_tf (by exact rfl) (by exact rfl) ?_ ?_) <;> (intro hb; (fail_if_success (with_reducible injection hb)); rw [hb]; (try simp only [List.length_map] at hb)))) | (refine WD_call (by exact rfl) ?_; first | (refine WD_c0 (decl_m _ ?_) ?_; (exact hyp))) | ((with_reducible apply WD_id); first | (refine WD_cut htb ?_) | (refine WD_cut3 htb ?_) | (refine WD_lens htb ?_) | (refine WD_caps htb ?_) | (refine WD_cps htb ?_) | (refine WD_cpp htb ?_) | (refine WD_api htb ?_) | (refine WD_apz htb ?_) | (refine WD_clr htb ?_)) | ((refine WD_tf (by exact rfl) (by exact rfl) ?_ ?_) <;> (intro hb; (fail_if_success (with_reducible injection hb)); rw [hb]; (try simp only [List.length_map] at hb))) | (((with_reducible apply gC2); exact rfl) <;> (intro hb; rw [hb]))))
  exact gE (.inr rfl) rfl (congrArg vB (by rw [Bool.eq_iff_iff]; first | (simp; done) | (simp; omega))) trivial
theorem unhL_step {c : List Mb} {s : Nat} {l : List Nat} {k : Nat} (h : k < l.length) : unhL c s (l.drop k) = if satT s (nth c (nth l k)).t = true then unhL c s (l.drop (k + 1)) else some (nth l k) := by
  rw [drop_nth l k h, unhL]
theorem unh_m (c : List Mb) (s : Nat) (hc : OkC c) (hs : s < 1024) (hin : ∀ k, s.testBit k = true → k < c.length) : FnM Tryz.prog 86 [] [aCf c, vI (s : Int)] (.tup [vI (uhR (unhN c s)).1, vB (uhR (unhN c s)).2]) [] := by
  refine FnM.of htb Tryz.func86 rfl rfl rfl rfl rfl fun cx hN h0 => ?_
  (repeat' (first | (refine nx ?_) | (refine WD_unk (by exact rfl) ?_; ((refine WD_tf (by exact rfl) (by exact rfl) ?_ ?_) <;> (intro hb; (fail_if_success (with_reducible injection hb)); rw [hb]; (try simp only [List.length_map] at hb)))) | (refine WD_call (by exact rfl) ?_; first | (refine WD_c0 (nodes_m _ ?_) ?_; (exact hyp))) | ((with_reducible apply WD_id); first | (refine WD_cut htb ?_) | (refine WD_cut3 htb ?_) | (refine WD_lens htb ?_) | (refine WD_caps htb ?_) | (refine WD_cps htb ?_) | (refine WD_cpp htb ?_) | (refine WD_api htb ?_) | (refine WD_apz htb ?_) | (refine WD_clr htb ?_)) | ((refine WD_tf (by exact rfl) (by exact rfl) ?_ ?_) <;> (intro hb; (fail_if_success (with_reducible injection hb)); rw [hb]; (try simp only [List.length_map] at hb))) | (((with_reducible apply gC2); exact rfl) <;> (intro hb; rw [hb]))))
  (refine WA_forV ((nodesN s).length) [11] [] (fun k => [(11, vI k)]) (fun k => []) (fun k => unhL c s (nodesN s) = unhL c s ((nodesN s).drop k)) ?h0 ?_)
  case h0 => rfl
  intro k hk hI
  have hln := nodesTo_len s 10
  rcases Nat.lt_or_ge k (nodesN s).length with hk' | hk'
  · have t1 : decide ((k : Int) < ((nodesN s).length : Int)) = true := by simp only [decide_eq_true_eq]; omega
    have hb := (mem_nodes hs).1 (nth_mem _ k hk')
    have hkc := hin _ hb
    have hk10 : k < 10 := Nat.lt_of_lt_of_le hk' hln
    rw [unhL_step hk'] at hI
    cases hx : satT s (nth c (nth (nodesN s) k)).t with
    | true =>
      rw [hx, if_pos rfl] at hI
      have t2 : (!satT s (nth c (nth (nodesN s) k)).t) = false := by rw [hx]; rfl
      (repeat' (first | (refine nx ?_) | (refine WD_unk (by exact rfl) ?_; ((refine WD_tf (by exact rfl) (by exact rfl) ?_ ?_) <;> (intro hb; (fail_if_success (with_reducible injection hb)); rw [hb]; (try simp only [List.length_map] at hb)))) | (refine WD_call (by exact rfl) ?_; first | (refine WD_c0 (content_m _ _ _ ?_ ?_) ?_; (exact hyp); (exact hyp))) | ((with_reducible apply WD_id); first | (refine WD_cut htb ?_) | (refine WD_cut3 htb ?_) | (refine WD_lens htb ?_) | (refine WD_caps htb ?_) | (refine WD_cps htb ?_) | (refine WD_cpp htb ?_) | (refine WD_api htb ?_) | (refine WD_apz htb ?_) | (refine WD_clr htb ?_)) | ((refine WD_tf (by exact rfl) (by exact rfl) ?_ ?_) <;> (intro hb; (fail_if_success (with_reducible injection hb)); rw [hb]; (try simp only [List.length_map] at hb))) | (((with_reducible apply gC2); exact rfl) <;> (intro hb; rw [hb]))))
      refine ⟨hk', hI, ?_⟩
      (exact LeV [])
    | false =>
      rw [hx, if_neg (by simp)] at hI
      have t2 : (!satT s (nth c (nth (nodesN s) k)).t) = true := by rw [hx]; rfl
      rw [show unhN c s = some (nth (nodesN s) k) from hI]
      (repeat' (first | (refine nx ?_) | (refine WD_unk (by exact rfl) ?_; ((refine WD_tf (by exact rfl) (by exact rfl) ?_ ?_) <;> (intro hb; (fail_if_success (with_reducible injection hb)); rw [hb]; (try simp only [List.length_map] at hb)))) | (refine WD_call (by exact rfl) ?_; first | (refine WD_c0 (content_m _ _ _ ?_ ?_) ?_; (exact hyp); (exact hyp))) | ((with_reducible apply WD_id); first | (refine WD_cut htb ?_) | (refine WD_cut3 htb ?_) | (refine WD_lens htb ?_) | (refine WD_caps htb ?_) | (refine WD_cps htb ?_) | (refine WD_cpp htb ?_) | (refine WD_api htb ?_) | (refine WD_apz htb ?_) | (refine WD_clr htb ?_)) | ((refine WD_tf (by exact rfl) (by exact rfl) ?_ ?_) <;> (intro hb; (fail_if_success (with_reducible injection hb)); rw [hb]; (try simp only [List.length_map] at hb))) | (((with_reducible apply gC2); exact rfl) <;> (intro hb; rw [hb]))))
      exact gE (.inr rfl) rfl rfl trivial
  · have t1 : decide ((k : Int) < ((nodesN s).length : Int)) = false := by simp only [decide_eq_false_iff_not]; omega
    rw [List.drop_eq_nil_of_le hk'] at hI
    rw [show unhN c s = none from hI]
    (repeat' (first | (refine nx ?_) | (refine WD_unk (by exact rfl) ?_; ((refine WD_tf (by exact rfl) (by exact rfl) ?_ ?_) <;> (intro hb; (fail_if_success (with_reducible injection hb)); rw [hb]; (try simp only [List.length_map] at hb)))) | ((with_reducible apply WD_id); first | (refine WD_cut htb ?_) | (refine WD_cut3 htb ?_) | (refine WD_lens htb ?_) | (refine WD_caps htb ?_) | (refine WD_cps htb ?_) | (refine WD_cpp htb ?_) | (refine WD_api htb ?_) | (refine WD_apz htb ?_) | (refine WD_clr htb ?_)) | ((refine WD_tf (by exact rfl) (by exact rfl) ?_ ?_) <;> (intro hb; (fail_if_success (with_reducible injection hb)); rw [hb]; (try simp only [List.length_map] at hb))) | (((with_reducible apply gC2); exact rfl) <;> (intro hb; rw [hb]))))
    exact gE (.inr rfl) rfl rfl trivial
theorem quo_m (c : List Mb) (s : Nat) (hc : OkC c) (hs : s < 1024) : FnM Tryz.prog 82 [] [aCf c, vI (s : Int)] (vB (quoN c s)) [] := by
  have hv := valid_nat hs
  have t0 : (!validS (s : Int)) = false := by rw [hv]; rfl
  refine FnM.of htb Tryz.func82 rfl rfl rfl rfl rfl fun cx hN h0 => ?_
  by_cases h1 : s = 0
  · have t1 : ((s : Int) == 0) = true := by simp [h1]
    (repeat' (first | (refine nx ?_) | (refine WD_unk (by exact rfl) ?_; ((refine WD_tf (by exact rfl) (by exact rfl) ?_ ?_) <;> (intro hb; (fail_if_success (with_reducible injection hb)); rw [hb]; (try simp only [List.length_map] at hb)))) | (refine WD_call (by exact rfl) ?_; first | (refine WD_c0 (valid_m _) ?_)) | ((with_reducible apply WD_id); first | (refine WD_cut htb ?_) | (refine WD_cut3 htb ?_) | (refine WD_lens htb ?_) | (refine WD_caps htb ?_) | (refine WD_cps htb ?_) | (refine WD_cpp htb ?_) | (refine WD_api htb ?_) | (refine WD_apz htb ?_) | (refine WD_clr htb ?_)) | ((refine WD_tf (by exact rfl) (by exact rfl) ?_ ?_) <;> (intro hb; (fail_if_success (with_reducible injection hb)); rw [hb]; (try simp only [List.length_map] at hb))) | (((with_reducible apply gC2); exact rfl) <;> (intro hb; rw [hb]))))
    exact gE (.inr rfl) rfl (congrArg vB (by simp [quoN, h1])) trivial
  have t1 : ((s : Int) == 0) = false := by simp [h1]
  cases h2 : (andn s (declN c) == 0) with
  | false =>
    have t2 : (!(andn s (declN c) == 0)) = true := by rw [h2]; rfl
    (repeat' (first | (refine nx ?_) | (refine WD_unk (by exact rfl) ?_; ((refine WD_tf (by exact rfl) (by exact rfl) ?_ ?_) <;> (intro hb; (fail_if_success (with_reducible injection hb)); rw [hb]; (try simp only [List.length_map] at hb)))) | (refine WD_call (by exact rfl) ?_; first | (refine WD_c0 (valid_m _) ?_) | (refine WD_c0 (inside_m _ _ ?_ ?_) ?_; (exact hyp); (exact hyp))) | ((with_reducible apply WD_id); first | (refine WD_cut htb ?_) | (refine WD_cut3 htb ?_) | (refine WD_lens htb ?_) | (refine WD_caps htb ?_) | (refine WD_cps htb ?_) | (refine WD_cpp htb ?_) | (refine WD_api htb ?_) | (refine WD_apz htb ?_) | (refine WD_clr htb ?_)) | ((refine WD_tf (by exact rfl) (by exact rfl) ?_ ?_) <;> (intro hb; (fail_if_success (with_reducible injection hb)); rw [hb]; (try simp only [List.length_map] at hb))) | (((with_reducible apply gC2); exact rfl) <;> (intro hb; rw [hb]))))
    exact gE (.inr rfl) rfl (congrArg vB (by simp [quoN, h2])) trivial
  | true =>
    have t2 : (!(andn s (declN c) == 0)) = false := by rw [h2]; rfl
    have hin : ∀ k, s.testBit k = true → k < c.length := fun k hk => by
      have := sub_bit (by simpa using h2) hk
      rw [declTo_bit] at this
      simp at this; exact this.1
    (repeat' (first | (refine nx ?_) | (refine WD_unk (by exact rfl) ?_; ((refine WD_tf (by exact rfl) (by exact rfl) ?_ ?_) <;> (intro hb; (fail_if_success (with_reducible injection hb)); rw [hb]; (try simp only [List.length_map] at hb)))) | (refine WD_call (by exact rfl) ?_; first | (refine WD_c0 (valid_m _) ?_) | (refine WD_c0 (inside_m _ _ ?_ ?_) ?_; (exact hyp); (exact hyp)) | (refine WD_c0 (unh_m _ _ ?_ ?_ ?_) ?_; (exact hyp); (exact hyp); (exact hyp))) | ((with_reducible apply WD_id); first | (refine WD_cut htb ?_) | (refine WD_cut3 htb ?_) | (refine WD_lens htb ?_) | (refine WD_caps htb ?_) | (refine WD_cps htb ?_) | (refine WD_cpp htb ?_) | (refine WD_api htb ?_) | (refine WD_apz htb ?_) | (refine WD_clr htb ?_)) | ((refine WD_tf (by exact rfl) (by exact rfl) ?_ ?_) <;> (intro hb; (fail_if_success (with_reducible injection hb)); rw [hb]; (try simp only [List.length_map] at hb))) | (((with_reducible apply gC2); exact rfl) <;> (intro hb; rw [hb]))))
    exact gE (.inr rfl) rfl (congrArg vB (by
      have h3 : (s == 0) = false := by simpa using h1
      unfold quoN; rw [h2, h3]
      cases unhN c s <;> rfl)) trivial
theorem elimG_fuel (c : List Mb) (hc : True) : ∀ (n s : Nat) (out : List Nat), s < 1024 → s ≤ n → elimG c (n + 1) s out = elimG c n s out
  | 0, s, out, hs, h => by
    obtain rfl : s = 0 := by omega
    have : unhN c 0 = none := unhL_none.2 fun k hk => by have := (mem_nodes (by omega)).1 hk; simp at this
    simp only [elimG, this]
  | n + 1, s, out, hs, h => by
    rw [elimG]
    conv => rhs; rw [elimG]
    cases hx : unhN c s with
    | none => rfl
    | some k =>
      simp only
      have hm := (mem_nodes hs).1 (unhL_some hx).1
      have := andn_lt hm
      exact elimG_fuel c hc n _ _ (by omega) (by omega)
theorem elimG_le (c : List Mb) : ∀ {n m s : Nat} {out : List Nat}, s < 1024 → s ≤ n → n ≤ m → elimG c m s out = elimG c n s out := by
  intro n m s out hs h hm
  induction m with
  | zero => obtain rfl : n = 0 := by omega
            rfl
  | succ m ih =>
    rcases Nat.lt_or_ge m n with h1 | h1
    · obtain rfl : n = m + 1 := by omega
      rfl
    · rw [elimG_fuel c trivial m s out hs (by omega), ih h1]
theorem elimG_step {c : List Mb} {s k : Nat} {out : List Nat} (hs : s < 1024) (h : unhN c s = some k) : elimG c s s out = elimG c (andn s (2 ^ k)) (andn s (2 ^ k)) (out ++ [k]) := by
  have hm := (mem_nodes hs).1 (unhL_some h).1
  have hl := andn_lt hm
  obtain ⟨n, rfl⟩ : ∃ n, s = n + 1 := ⟨s - 1, by omega⟩
  rw [elimG, h]
  exact elimG_le c (by omega) (Nat.le_refl _) (by omega)
theorem elim_m (c : List Mb) (s : Nat) (hc : OkC c) (hs : s < 1024) : FnM Tryz.prog 60 [] [aCf c, vI (s : Int)] (.tup [vI ((greatN c s).1 : Int), lN (greatN c s).2]) [] := by
  have hv := valid_nat hs
  have t0 : (!validS (s : Int)) = false := by rw [hv]; rfl
  have hd := declN_lt hc.len
  have ha := and_lt10 (b := declN c) hs
  have e0 : greatN c s = elimG c (s &&& declN c) (s &&& declN c) [] := elimG_le c ha (Nat.le_refl _) (by omega)
  rw [e0]
  refine FnM.of htb Tryz.func60 rfl rfl rfl rfl rfl fun cx hN h0 => ?_
  (repeat' (first | ((with_reducible apply WD_id); first | (refine WD_eq (bandN_step rfl rfl rfl) ?_)) | (refine nx ?_) | (refine WD_unk (by exact rfl) ?_; ((refine WD_tf (by exact rfl) (by exact rfl) ?_ ?_) <;> (intro hb; (fail_if_success (with_reducible injection hb)); rw [hb]; (try simp only [List.length_map] at hb)))) | (refine WD_call (by exact rfl) ?_; first | (refine WD_c0 (valid_m _) ?_) | (refine WD_c0 (decl_m _ ?_) ?_; (exact hyp))) | ((with_reducible apply WD_id); first | (refine WD_cut htb ?_) | (refine WD_cut3 htb ?_) | (refine WD_lens htb ?_) | (refine WD_caps htb ?_) | (refine WD_cps htb ?_) | (refine WD_cpp htb ?_) | (refine WD_api htb ?_) | (refine WD_apz htb ?_) | (refine WD_clr htb ?_)) | ((refine WD_tf (by exact rfl) (by exact rfl) ?_ ?_) <;> (intro hb; (fail_if_success (with_reducible injection hb)); rw [hb]; (try simp only [List.length_map] at hb))) | (((with_reducible apply gC2); exact rfl) <;> (intro hb; rw [hb]))))
  refine WA_le (Le_nilT 60 6 3 1 rfl rfl) ?_
  (refine WA_anyV (α := Nat × List Nat) (fun x => x.1) ((s &&& declN c, [])) [1, 6] [60] (fun x => [(1, vI (x.1 : Int)), (6, .own 60)]) (fun x => [(60, .arr 3 1 (x.2.map rN))]) (fun x => x.1 < 1024 ∧ x.1 + x.2.length ≤ 1024 ∧ andn x.1 (declN c) = 0 ∧ elimG c (s &&& declN c) (s &&& declN c) [] = elimG c x.1 x.1 x.2) ?h0 ?_)
  case h0 => exact ⟨ha, by simp; omega, sub_of fun k hk => by rw [Nat.testBit_and] at hk; simp at hk; exact hk.2, rfl⟩
  rintro ⟨x, out⟩ ⟨hx, hlo, hsub, hI⟩
  dsimp only at hx hlo hsub hI ⊢
  rw [hI]
  have hin : ∀ k, x.testBit k = true → k < c.length := fun k hk => by
    have := sub_bit hsub hk
    rw [declTo_bit] at this
    simp at this; exact this.1
  cases hu : unhN c x with
  | none =>
    have e1 : elimG c x x out = (x, out) := by
      cases x with
      | zero => rfl
      | succ n => rw [elimG, hu]
    have t2 : (!(uhR (unhN c x)).2) = true := by rw [hu]; rfl
    rw [e1]
    (repeat' (first | (refine nx ?_) | (refine WD_unk (by exact rfl) ?_; ((refine WD_tf (by exact rfl) (by exact rfl) ?_ ?_) <;> (intro hb; (fail_if_success (with_reducible injection hb)); rw [hb]; (try simp only [List.length_map] at hb)))) | (refine WD_call (by exact rfl) ?_; first | (refine WD_c0 (unh_m _ _ ?_ ?_ ?_) ?_; (exact hyp); (exact hyp); (exact hyp))) | ((with_reducible apply WD_id); first | (refine WD_cut htb ?_) | (refine WD_cut3 htb ?_) | (refine WD_lens htb ?_) | (refine WD_caps htb ?_) | (refine WD_cps htb ?_) | (refine WD_cpp htb ?_) | (refine WD_api htb ?_) | (refine WD_apz htb ?_) | (refine WD_clr htb ?_)) | ((refine WD_tf (by exact rfl) (by exact rfl) ?_ ?_) <;> (intro hb; (fail_if_success (with_reducible injection hb)); rw [hb]; (try simp only [List.length_map] at hb))) | (((with_reducible apply gC2); exact rfl) <;> (intro hb; rw [hb]))))
    (exact glV [(4, vI (x : Int)), (5, lN out)] [] (LeV []))
  | some k =>
    have hm := (mem_nodes hx).1 (unhL_some hu).1
    have hk10 := bit_lt hx hm
    have hp := pow_lt hk10
    have hl := andn_lt hm
    have e1 := elimG_step (out := out) hx hu
    have unhS_m : FnM Tryz.prog 86 [] [aCf c, vI (x : Int)] (.tup [vI (k : Int), vB true]) [] := by
      have := unh_m c x hc hx hin
      rw [hu] at this; exact this
    have hlen : out.length ≤ 1024 := by omega
    have hk61 : k ≤ 61 := by omega
    (repeat' (first | ((with_reducible apply WD_id); first | (refine WD_eq (shlN_step rfl rfl rfl) ?_) | (refine WD_eq (bnotN_step rfl rfl rfl) ?_)) | (refine nx ?_) | (refine WD_unk (by exact rfl) ?_; ((refine WD_tf (by exact rfl) (by exact rfl) ?_ ?_) <;> (intro hb; (fail_if_success (with_reducible injection hb)); rw [hb]; (try simp only [List.length_map] at hb)))) | (refine WD_call (by exact rfl) ?_; first | (refine WD_c0 (unhS_m) ?_)) | ((with_reducible apply WD_id); first | (refine WD_cut htb ?_) | (refine WD_cut3 htb ?_) | (refine WD_lens htb ?_) | (refine WD_caps htb ?_) | (refine WD_cps htb ?_) | (refine WD_cpp htb ?_) | (refine WD_api htb ?_) | (refine WD_apz htb ?_) | (refine WD_clr htb ?_)) | ((refine WD_tf (by exact rfl) (by exact rfl) ?_ ?_) <;> (intro hb; (fail_if_success (with_reducible injection hb)); rw [hb]; (try simp only [List.length_map] at hb))) | (((with_reducible apply gC2); exact rfl) <;> (intro hb; rw [hb]))))
    refine ⟨(andn x (2 ^ k), out ++ [k]), hl, ⟨by dsimp only; omega, by simp; omega, sub_of fun i hi => ?_, e1⟩, ?_⟩
    · rw [andn_bit] at hi
      simp at hi
      exact sub_bit hsub hi.1
    · rw [List.map_append]
      (exact LeV [(60, 29)])
theorem great_m (c : List Mb) (s : Nat) (hc : OkC c) (hs : s < 1024) : FnM Tryz.prog 35 [] [aCf c, vI (s : Int)] (vI ((greatN c s).1 : Int)) [] := by
  refine FnM.of htb Tryz.func35 rfl rfl rfl rfl rfl fun cx hN h0 => ?_
  (repeat' (first | (refine nx ?_) | (refine WD_unk (by exact rfl) ?_; ((refine WD_tf (by exact rfl) (by exact rfl) ?_ ?_) <;> (intro hb; (fail_if_success (with_reducible injection hb)); rw [hb]; (try simp only [List.length_map] at hb)))) | (refine WD_call (by exact rfl) ?_; first | (refine WD_c0 (elim_m _ _ ?_ ?_) ?_; (exact hyp); (exact hyp))) | ((with_reducible apply WD_id); first | (refine WD_cut htb ?_) | (refine WD_cut3 htb ?_) | (refine WD_lens htb ?_) | (refine WD_caps htb ?_) | (refine WD_cps htb ?_) | (refine WD_cpp htb ?_) | (refine WD_api htb ?_) | (refine WD_apz htb ?_) | (refine WD_clr htb ?_)) | ((refine WD_tf (by exact rfl) (by exact rfl) ?_ ?_) <;> (intro hb; (fail_if_success (with_reducible injection hb)); rw [hb]; (try simp only [List.length_map] at hb))) | (((with_reducible apply gC2); exact rfl) <;> (intro hb; rw [hb]))))
  exact gE (.inr rfl) rfl rfl trivial
end Go.Proofs.YtbfafljcclfeaaaGreatDoor
