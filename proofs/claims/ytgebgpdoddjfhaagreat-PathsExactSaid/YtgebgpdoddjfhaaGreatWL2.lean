/- Contracts of the program's functions on lines: crediting and debiting. -/
import Derived.Test.YtgebgpdoddjfhaaGreatAmZ
import Derived.Test.YtgebgpdoddjfhaaGreatWL1
namespace Go.Proofs.YtgebgpdoddjfhaaGreat
set_option linter.unusedSimpArgs false
set_option linter.unusedVariables false
set_option linter.unnecessarySimpa false
set_option linter.unusedSectionVars false
set_option maxRecDepth 100000
open Go Go.RowKit Go.Am Go.Proofs.Grow

/-- A number can be added to what an account holds. -/
def AddOk (g : Led) (a : Int) (u : ByteArray) (i n : Int) : Prop := rightL g = true ∧ (findA g.accs a).2 = true ∧ assetB u i = true ∧ (lookF g a u i).2.2 = true ∧ 0 ≤ (lookF g a u i).1 + n ∧ n ≤ (lookF g a u i).2.1
theorem first_iff {g : Led} {a : Int} {u : ByteArray} {i n : Int} : firstF g a u i n = 0 ↔ rightL g = true ∧ assetB u i = true ∧ (findA g.accs a).2 = true ∧ okA n = true := by
  unfold firstF
  cases rightL g <;> cases assetB u i <;> cases (findA g.accs a).2 <;> cases okA n <;> simp
theorem isA2_pm (x : Acc) (i : Int) : FnM Tryz.prog 118 [(5, .box 3 [vI i])] [aA x, .ptr 5 0] (vB (hasId i x)) [(5, .box 3 [vI i])] := by
  refine FnM.of htb Tryz.func118 rfl rfl rfl rfl rfl fun cx hN h0 => ?_
  (repeat' (first | (refine nx ?_) | (refine WD_unk (by exact rfl) ?_; ((refine WD_tf (by exact rfl) (by exact rfl) ?_ ?_) <;> (intro hb; (fail_if_success (with_reducible injection hb)); rw [hb]; (try simp only [List.length_map] at hb)))) | ((refine WD_tf (by exact rfl) (by exact rfl) ?_ ?_) <;> (intro hb; (fail_if_success (with_reducible injection hb)); rw [hb]; (try simp only [List.length_map] at hb))) | (((with_reducible apply gC2); exact rfl) <;> (intro hb; rw [hb]))))
  exact gE (.inr rfl) rfl (by simp [tupOf, hasId]) ⟨rfl, trivial⟩
theorem idxfA2_pm (l : List Acc) (i : Int) (hl : l.length ≤ 1000) : FnM Tryz.prog 117 [(5, .box 3 [vI i])] [lA l, .clo 118 [.ptr 5 0]] (vI (idxA l i)) [(5, .box 3 [vI i])] := by
  refine FnM.of htb Tryz.func117 rfl rfl rfl rfl rfl fun cx hN h0 => ?_
  (repeat' (first | (refine nx ?_) | (refine WD_unk (by exact rfl) ?_; ((refine WD_tf (by exact rfl) (by exact rfl) ?_ ?_) <;> (intro hb; (fail_if_success (with_reducible injection hb)); rw [hb]; (try simp only [List.length_map] at hb)))) | ((refine WD_tf (by exact rfl) (by exact rfl) ?_ ?_) <;> (intro hb; (fail_if_success (with_reducible injection hb)); rw [hb]; (try simp only [List.length_map] at hb))) | (((with_reducible apply gC2); exact rfl) <;> (intro hb; rw [hb]))))
  (refine WA_forV (l.length) [8] [] (fun k => [(8, vI k)]) (fun k => []) (fun k => idxA l i = idxF (hasId i) k (l.drop k)) ?h0 ?_)
  case h0 => rfl
  intro k hk hI
  (repeat' (first | (refine nx ?_) | (refine WD_unk (by exact rfl) ?_; ((refine WD_tf (by exact rfl) (by exact rfl) ?_ ?_) <;> (intro hb; (fail_if_success (with_reducible injection hb)); rw [hb]; (try simp only [List.length_map] at hb)))) | (refine WD_call (by exact rfl) ?_; first | (refine WD_cM (isA2_pm _ _) ?_)) | ((refine WD_tf (by exact rfl) (by exact rfl) ?_ ?_) <;> (intro hb; (fail_if_success (with_reducible injection hb)); rw [hb]; (try simp only [List.length_map] at hb))) | (((with_reducible apply gC2); exact rfl) <;> (intro hb; rw [hb]))))
  · exact gE (.inr rfl) rfl (congrArg vI (idx_hit hI (by simp at *; omega) (by assumption)).symm) ⟨rfl, trivial⟩
  · refine ⟨by simp at *; omega, idx_miss hI (by simp at *; omega) (by assumption), ?_⟩
    (exact LeV [])
  · exact gE (.inr rfl) rfl (congrArg vI (idx_end hI (by simp at *; omega)).symm) ⟨rfl, trivial⟩
theorem addL_pm (g : Led) (a : Int) (u : ByteArray) (i n : Int) (hl : g.lins.length ≤ 1000) (ha : g.accs.length ≤ 1000) (ho : g.offs.length ≤ 1000) (hok : AddOk g a u i n) : FnM Tryz.prog 91 [] [aG g, vI a, aT u i, vI n] (aG (addL g a u i n)) [] := by
  obtain ⟨hr, hf, hu, hp, h1, h2⟩ := hok
  have hg := rightL_iff.1 hr
  refine FnM.of htb Tryz.func91 rfl rfl rfl rfl rfl fun cx hN h0 => ?_
  rcases look_cases hg hf hu with ⟨hn, hia, ho, j, hj, k1, k2, e⟩ | ⟨hn, hia, ho, e⟩ | ⟨hn, hia, ho, j, hj, k1, k2, k3, k4, e⟩ | ⟨_, _, _, e⟩
  · rw [e] at h1 h2
    dsimp only at h1 h2
    have hb := (hg.accs.2.1 _ (nth_mem _ j hj)).2.1
    have ej : (idxA g.accs a).toNat = j := by omega
    rw [← ej] at h1 h2 hb
    have e2 : addL g a u i n = { g with accs := g.accs.set (idxA g.accs a).toNat { nth g.accs (idxA g.accs a).toNat with bal := (nth g.accs (idxA g.accs a).toNat).bal + n } } := by unfold addL; rw [if_pos hn]
    rw [e2]
    (repeat' (first | (refine nx ?_) | (refine WD_unk (by exact rfl) ?_; ((refine WD_tf (by exact rfl) (by exact rfl) ?_ ?_) <;> (intro hb; (fail_if_success (with_reducible injection hb)); rw [hb]; (try simp only [List.length_map] at hb)))) | (refine WD_call (by exact rfl) ?_; first | (refine WD_cM (copied_pm _ ?y0 ?y1 ?y2) ?_; (case y0 => exact hyp); (case y1 => exact hyp); (case y2 => exact hyp)) | (refine WD_c0 (native_pm _ _) ?_) | (refine WD_cM (idxfA2_pm _ _ ?y0) ?_; (case y0 => exact hyp))) | ((refine WD_tf (by exact rfl) (by exact rfl) ?_ ?_) <;> (intro hb; (fail_if_success (with_reducible injection hb)); rw [hb]; (try simp only [List.length_map] at hb))) | (((with_reducible apply gC2); exact rfl) <;> (intro hb; rw [hb]))))
    (exact glV [(8, .ptr 8 0)] [(8, .box 28 (cellsOf (aG { g with accs := g.accs.set (idxA g.accs a).toNat { nth g.accs (idxA g.accs a).toNat with bal := (nth g.accs (idxA g.accs a).toNat).bal + n } })))] (LeV []))
  · rw [addL_own n hn hia]
    have hd : (i != a) = false := by simp [hia]
    (repeat' (first | (refine nx ?_) | (refine WD_unk (by exact rfl) ?_; ((refine WD_tf (by exact rfl) (by exact rfl) ?_ ?_) <;> (intro hb; (fail_if_success (with_reducible injection hb)); rw [hb]; (try simp only [List.length_map] at hb)))) | (refine WD_call (by exact rfl) ?_; first | (refine WD_cM (copied_pm _ ?y0 ?y1 ?y2) ?_; (case y0 => exact hyp); (case y1 => exact hyp); (case y2 => exact hyp)) | (refine WD_c0 (native_pm _ _) ?_)) | ((refine WD_tf (by exact rfl) (by exact rfl) ?_ ?_) <;> (intro hb; (fail_if_success (with_reducible injection hb)); rw [hb]; (try simp only [List.length_map] at hb))) | (((with_reducible apply gC2); exact rfl) <;> (intro hb; rw [hb]))))
    (exact glV [(8, .ptr 8 0)] [(8, .box 28 (cellsOf (aG g)))] (LeV []))
  · rw [e] at h1 h2
    dsimp only at h1 h2
    have hb := (hg.good _ (nth_mem _ j hj)).2.2.2.2
    have ej : (idxL g.lins a u i).toNat = j := by omega
    rw [← ej] at h1 h2 hb
    have e2 : addL g a u i n = { g with lins := g.lins.set (idxL g.lins a u i).toNat { nth g.lins (idxL g.lins a u i).toNat with bal := (nth g.lins (idxL g.lins a u i).toNat).bal + n } } := by unfold addL; rw [if_neg (by simp [hn]), if_neg hia]
    have hd : (i != a) = true := by simp [hia]
    rw [e2]
    (repeat' (first | (refine nx ?_) | (refine WD_unk (by exact rfl) ?_; ((refine WD_tf (by exact rfl) (by exact rfl) ?_ ?_) <;> (intro hb; (fail_if_success (with_reducible injection hb)); rw [hb]; (try simp only [List.length_map] at hb)))) | (refine WD_call (by exact rfl) ?_; first | (refine WD_cM (copied_pm _ ?y0 ?y1 ?y2) ?_; (case y0 => exact hyp); (case y1 => exact hyp); (case y2 => exact hyp)) | (refine WD_c0 (native_pm _ _) ?_) | (refine WD_c0 (idxL_pm _ _ _ _ ?y0) ?_; (case y0 => exact hyp))) | ((refine WD_tf (by exact rfl) (by exact rfl) ?_ ?_) <;> (intro hb; (fail_if_success (with_reducible injection hb)); rw [hb]; (try simp only [List.length_map] at hb))) | (((with_reducible apply gC2); exact rfl) <;> (intro hb; rw [hb]))))
    (exact glV [(8, .ptr 8 0)] [(8, .box 28 (cellsOf (aG { g with lins := g.lins.set (idxL g.lins a u i).toNat { nth g.lins (idxL g.lins a u i).toNat with bal := (nth g.lins (idxL g.lins a u i).toNat).bal + n } })))] (LeV []))
  · rw [e] at hp; cases hp
theorem credit_pm (g : Led) (a : Int) (u : ByteArray) (i n : Int) (hl : g.lins.length ≤ 1000) (ha : g.accs.length ≤ 1000) (ho : g.offs.length ≤ 1000) : FnM Tryz.prog 67 [] [aG g, vI a, aT u i, vI n] (.tup [aG (creditF g a u i n).1, vI (creditF g a u i n).2]) [] := by
  refine FnM.of htb Tryz.func67 rfl rfl rfl rfl rfl fun cx hN h0 => ?_
  by_cases hc : firstF g a u i n = 0
  case neg =>
    have e : creditF g a u i n = (led0, firstF g a u i n) := by unfold creditF; rw [if_pos hc]
    have hd : (firstF g a u i n != 0) = true := by simp [hc]
    rw [e]
    (repeat' (first | (refine nx ?_) | (refine WD_unk (by exact rfl) ?_; ((refine WD_tf (by exact rfl) (by exact rfl) ?_ ?_) <;> (intro hb; (fail_if_success (with_reducible injection hb)); rw [hb]; (try simp only [List.length_map] at hb)))) | (refine WD_call (by exact rfl) ?_; first | (refine WD_c0 (first_pm _ _ _ _ _ ?y0 ?y1) ?_; (case y0 => exact hyp); (case y1 => exact hyp))) | ((refine WD_tf (by exact rfl) (by exact rfl) ?_ ?_) <;> (intro hb; (fail_if_success (with_reducible injection hb)); rw [hb]; (try simp only [List.length_map] at hb))) | (((with_reducible apply gC2); exact rfl) <;> (intro hb; rw [hb]))))
    (exact glV [(8, .ptr 8 0), (9, vI (firstF g a u i n))] [(8, .box 28 (cellsOf (aG led0)))] (LeV []))
  obtain ⟨hr, hu, hf, hn⟩ := first_iff.1 hc
  have hg := rightL_iff.1 hr
  have hd : (firstF g a u i n != 0) = false := by simp [hc]
  have hbd := look_bd hg hf hu
  have hnn := okA_iff.1 hn
  have e := credit_eq hg hf hu hn
  cases hp : (lookF g a u i).2.2 with
  | false =>
    have t1 : (!(lookF g a u i).2.2) = true := by simp [hp]
    have hna : nativeB u i = false := by
      rcases look_cases hg hf hu with ⟨_, _, _, j, _, _, _, e⟩ | ⟨q, _⟩ | ⟨q, _⟩ | ⟨q, _⟩
      · rw [e] at hp; cases hp
      · exact q
      · exact q
      · exact q
    rw [if_neg (by simp [hp]), hna] at e
    rw [e]
    (repeat' (first | (refine nx ?_) | (refine WD_unk (by exact rfl) ?_; ((refine WD_tf (by exact rfl) (by exact rfl) ?_ ?_) <;> (intro hb; (fail_if_success (with_reducible injection hb)); rw [hb]; (try simp only [List.length_map] at hb)))) | (refine WD_call (by exact rfl) ?_; first | (refine WD_c0 (first_pm _ _ _ _ _ ?y0 ?y1) ?_; (case y0 => exact hyp); (case y1 => exact hyp)) | (refine WD_c0 (look_pm _ _ _ _ ?y0 ?y1 ?y2) ?_; (case y0 => exact hyp); (case y1 => exact hyp); (case y2 => exact hyp))) | ((refine WD_tf (by exact rfl) (by exact rfl) ?_ ?_) <;> (intro hb; (fail_if_success (with_reducible injection hb)); rw [hb]; (try simp only [List.length_map] at hb))) | (((with_reducible apply gC2); exact rfl) <;> (intro hb; rw [hb]))))
    (exact glV [(8, .ptr 8 0), (9, vI 70)] [(8, .box 28 (cellsOf (aG led0)))] (LeV []))
  | true =>
    have t1 : (!(lookF g a u i).2.2) = false := by simp [hp]
    by_cases c : n ≤ (lookF g a u i).2.1
    · rw [if_pos ⟨hp, c⟩] at e
      rw [e]
      have t2 : decide (n > (lookF g a u i).2.1) = false := by simp; omega
      have hk : AddOk g a u i n := ⟨hr, hf, hu, hp, by omega, c⟩
      (repeat' (first | (refine nx ?_) | (refine WD_unk (by exact rfl) ?_; ((refine WD_tf (by exact rfl) (by exact rfl) ?_ ?_) <;> (intro hb; (fail_if_success (with_reducible injection hb)); rw [hb]; (try simp only [List.length_map] at hb)))) | (refine WD_call (by exact rfl) ?_; first | (refine WD_c0 (first_pm _ _ _ _ _ ?y0 ?y1) ?_; (case y0 => exact hyp); (case y1 => exact hyp)) | (refine WD_c0 (look_pm _ _ _ _ ?y0 ?y1 ?y2) ?_; (case y0 => exact hyp); (case y1 => exact hyp); (case y2 => exact hyp)) | (refine WD_c0 (addL_pm _ _ _ _ _ ?y0 ?y1 ?y2 ?y3) ?_; (case y0 => exact hyp); (case y1 => exact hyp); (case y2 => exact hyp); (case y3 => exact hyp))) | ((refine WD_tf (by exact rfl) (by exact rfl) ?_ ?_) <;> (intro hb; (fail_if_success (with_reducible injection hb)); rw [hb]; (try simp only [List.length_map] at hb))) | (((with_reducible apply gC2); exact rfl) <;> (intro hb; rw [hb]))))
      exact gE (.inr rfl) rfl rfl trivial
    · rw [if_neg (by simp; omega)] at e
      have t2 : decide (n > (lookF g a u i).2.1) = true := by simp; omega
      cases hna : nativeB u i with
      | true =>
        have t3 : (!nativeB u i) = false := by simp [hna]
        rw [hna] at e
        rw [e]
        (repeat' (first | (refine nx ?_) | (refine WD_unk (by exact rfl) ?_; ((refine WD_tf (by exact rfl) (by exact rfl) ?_ ?_) <;> (intro hb; (fail_if_success (with_reducible injection hb)); rw [hb]; (try simp only [List.length_map] at hb)))) | (refine WD_call (by exact rfl) ?_; first | (refine WD_c0 (first_pm _ _ _ _ _ ?y0 ?y1) ?_; (case y0 => exact hyp); (case y1 => exact hyp)) | (refine WD_c0 (look_pm _ _ _ _ ?y0 ?y1 ?y2) ?_; (case y0 => exact hyp); (case y1 => exact hyp); (case y2 => exact hyp)) | (refine WD_c0 (native_pm _ _) ?_)) | ((refine WD_tf (by exact rfl) (by exact rfl) ?_ ?_) <;> (intro hb; (fail_if_success (with_reducible injection hb)); rw [hb]; (try simp only [List.length_map] at hb))) | (((with_reducible apply gC2); exact rfl) <;> (intro hb; rw [hb]))))
        (exact glV [(8, .ptr 8 0), (9, vI 65)] [(8, .box 28 (cellsOf (aG led0)))] (LeV []))
      | false =>
        have t3 : (!nativeB u i) = true := by simp [hna]
        rw [hna] at e
        rw [e]
        (repeat' (first | (refine nx ?_) | (refine WD_unk (by exact rfl) ?_; ((refine WD_tf (by exact rfl) (by exact rfl) ?_ ?_) <;> (intro hb; (fail_if_success (with_reducible injection hb)); rw [hb]; (try simp only [List.length_map] at hb)))) | (refine WD_call (by exact rfl) ?_; first | (refine WD_c0 (first_pm _ _ _ _ _ ?y0 ?y1) ?_; (case y0 => exact hyp); (case y1 => exact hyp)) | (refine WD_c0 (look_pm _ _ _ _ ?y0 ?y1 ?y2) ?_; (case y0 => exact hyp); (case y1 => exact hyp); (case y2 => exact hyp)) | (refine WD_c0 (native_pm _ _) ?_)) | ((refine WD_tf (by exact rfl) (by exact rfl) ?_ ?_) <;> (intro hb; (fail_if_success (with_reducible injection hb)); rw [hb]; (try simp only [List.length_map] at hb))) | (((with_reducible apply gC2); exact rfl) <;> (intro hb; rw [hb]))))
        (exact glV [(8, .ptr 8 0), (9, vI 70)] [(8, .box 28 (cellsOf (aG led0)))] (LeV []))
theorem debit_pm (g : Led) (a : Int) (u : ByteArray) (i n : Int) (hl : g.lins.length ≤ 1000) (ha : g.accs.length ≤ 1000) (ho : g.offs.length ≤ 1000) : FnM Tryz.prog 66 [] [aG g, vI a, aT u i, vI n] (.tup [aG (debitF g a u i n).1, vI (debitF g a u i n).2]) [] := by
  refine FnM.of htb Tryz.func66 rfl rfl rfl rfl rfl fun cx hN h0 => ?_
  by_cases hc : firstF g a u i n = 0
  case neg =>
    have e : debitF g a u i n = (led0, firstF g a u i n) := by unfold debitF; rw [if_pos hc]
    have hd : (firstF g a u i n != 0) = true := by simp [hc]
    rw [e]
    (repeat' (first | (refine nx ?_) | (refine WD_unk (by exact rfl) ?_; ((refine WD_tf (by exact rfl) (by exact rfl) ?_ ?_) <;> (intro hb; (fail_if_success (with_reducible injection hb)); rw [hb]; (try simp only [List.length_map] at hb)))) | (refine WD_call (by exact rfl) ?_; first | (refine WD_c0 (first_pm _ _ _ _ _ ?y0 ?y1) ?_; (case y0 => exact hyp); (case y1 => exact hyp))) | ((refine WD_tf (by exact rfl) (by exact rfl) ?_ ?_) <;> (intro hb; (fail_if_success (with_reducible injection hb)); rw [hb]; (try simp only [List.length_map] at hb))) | (((with_reducible apply gC2); exact rfl) <;> (intro hb; rw [hb]))))
    (exact glV [(8, .ptr 8 0), (9, vI (firstF g a u i n))] [(8, .box 28 (cellsOf (aG led0)))] (LeV []))
  obtain ⟨hr, hu, hf, hn⟩ := first_iff.1 hc
  have hg := rightL_iff.1 hr
  have hd : (firstF g a u i n != 0) = false := by simp [hc]
  have hbd := look_bd hg hf hu
  have hnn := okA_iff.1 hn
  have e := debit_eq hg hf hu hn
  cases hp : (lookF g a u i).2.2 with
  | false =>
    have t1 : (!(lookF g a u i).2.2) = true := by simp [hp]
    rw [if_neg (by simp [hp]), if_pos hp] at e
    rw [e]
    (repeat' (first | (refine nx ?_) | (refine WD_unk (by exact rfl) ?_; ((refine WD_tf (by exact rfl) (by exact rfl) ?_ ?_) <;> (intro hb; (fail_if_success (with_reducible injection hb)); rw [hb]; (try simp only [List.length_map] at hb)))) | (refine WD_call (by exact rfl) ?_; first | (refine WD_c0 (first_pm _ _ _ _ _ ?y0 ?y1) ?_; (case y0 => exact hyp); (case y1 => exact hyp)) | (refine WD_c0 (look_pm _ _ _ _ ?y0 ?y1 ?y2) ?_; (case y0 => exact hyp); (case y1 => exact hyp); (case y2 => exact hyp))) | ((refine WD_tf (by exact rfl) (by exact rfl) ?_ ?_) <;> (intro hb; (fail_if_success (with_reducible injection hb)); rw [hb]; (try simp only [List.length_map] at hb))) | (((with_reducible apply gC2); exact rfl) <;> (intro hb; rw [hb]))))
    (exact glV [(8, .ptr 8 0), (9, vI 70)] [(8, .box 28 (cellsOf (aG led0)))] (LeV []))
  | true =>
    have t1 : (!(lookF g a u i).2.2) = false := by simp [hp]
    by_cases c : n ≤ (lookF g a u i).1
    · rw [if_pos ⟨hp, c⟩] at e
      rw [e]
      have t2 : decide (n > (lookF g a u i).1) = false := by simp; omega
      have hk : AddOk g a u i (0 - n) := ⟨hr, hf, hu, hp, by omega, by omega⟩
      have hw : IntKind.i64.wrap (0 - n) = 0 - n := IntWalk.i64_in _ (by omega)
      have hz : IntKind.i64.wrap (0 - n) = -n := by omega
      rw [← hz]
      rw [hw] at hz
      have hk : AddOk g a u i (IntKind.i64.wrap (0 - n)) := by rw [hw]; exact hk
      (repeat' (first | (refine nx ?_) | (refine WD_unk (by exact rfl) ?_; ((refine WD_tf (by exact rfl) (by exact rfl) ?_ ?_) <;> (intro hb; (fail_if_success (with_reducible injection hb)); rw [hb]; (try simp only [List.length_map] at hb)))) | (refine WD_call (by exact rfl) ?_; first | (refine WD_c0 (first_pm _ _ _ _ _ ?y0 ?y1) ?_; (case y0 => exact hyp); (case y1 => exact hyp)) | (refine WD_c0 (look_pm _ _ _ _ ?y0 ?y1 ?y2) ?_; (case y0 => exact hyp); (case y1 => exact hyp); (case y2 => exact hyp)) | (refine WD_c0 (addL_pm _ _ _ _ _ ?y0 ?y1 ?y2 ?y3) ?_; (case y0 => exact hyp); (case y1 => exact hyp); (case y2 => exact hyp); (case y3 => exact hyp))) | ((refine WD_tf (by exact rfl) (by exact rfl) ?_ ?_) <;> (intro hb; (fail_if_success (with_reducible injection hb)); rw [hb]; (try simp only [List.length_map] at hb))) | (((with_reducible apply gC2); exact rfl) <;> (intro hb; rw [hb]))))
      exact gE (.inr rfl) rfl rfl trivial
    · rw [if_neg (by simp; omega), if_neg (by simp [hp])] at e
      rw [e]
      have t2 : decide (n > (lookF g a u i).1) = true := by simp; omega
      (repeat' (first | (refine nx ?_) | (refine WD_unk (by exact rfl) ?_; ((refine WD_tf (by exact rfl) (by exact rfl) ?_ ?_) <;> (intro hb; (fail_if_success (with_reducible injection hb)); rw [hb]; (try simp only [List.length_map] at hb)))) | (refine WD_call (by exact rfl) ?_; first | (refine WD_c0 (first_pm _ _ _ _ _ ?y0 ?y1) ?_; (case y0 => exact hyp); (case y1 => exact hyp)) | (refine WD_c0 (look_pm _ _ _ _ ?y0 ?y1 ?y2) ?_; (case y0 => exact hyp); (case y1 => exact hyp); (case y2 => exact hyp))) | ((refine WD_tf (by exact rfl) (by exact rfl) ?_ ?_) <;> (intro hb; (fail_if_success (with_reducible injection hb)); rw [hb]; (try simp only [List.length_map] at hb))) | (((with_reducible apply gC2); exact rfl) <;> (intro hb; rw [hb]))))
      (exact glV [(8, .ptr 8 0), (9, vI 66)] [(8, .box 28 (cellsOf (aG led0)))] (LeV []))
end Go.Proofs.YtgebgpdoddjfhaaGreat
