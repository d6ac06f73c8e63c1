/- Contracts of the program's functions on offers: the book. -/
import Derived.Test.YtgebgpdoddjfhaaGreatWO0
import Derived.Test.YtgebgpdoddjfhaaGreatAmZ
namespace Go.Proofs.YtgebgpdoddjfhaaGreat
set_option linter.unusedSimpArgs false
set_option linter.unusedVariables false
set_option linter.unnecessarySimpa false
set_option linter.unusedSectionVars false
set_option maxRecDepth 100000
open Go Go.RowKit Go.Am Go.Proofs.Grow

def noP (u : ByteArray) (i : Int) (v : ByteArray) (j : Int) (x : Off) : Bool := !pairO u i v j x
theorem isP_pm (x : Off) (u : ByteArray) (i : Int) (v : ByteArray) (j : Int) : FnM Tryz.prog 125 [(4, .box 30 [vS u, vI i]), (5, .box 30 [vS v, vI j])] [aO x, .ptr 4 0, .ptr 5 0] (vB (noP u i v j x)) [(4, .box 30 [vS u, vI i]), (5, .box 30 [vS v, vI j])] := by
  refine FnM.of htb Tryz.func125 rfl rfl rfl rfl rfl fun cx hN h0 => ?_
  (repeat' (first | ((with_reducible apply WD_id); first | (refine WD_eq (neT_step rfl rfl rfl) ?_)) | (refine nx ?_) | (refine WD_unk (by exact rfl) ?_; ((refine WD_tf (by exact rfl) (by exact rfl) ?_ ?_) <;> (intro hb; (fail_if_success (with_reducible injection hb)); rw [hb]; (try simp only [List.length_map] at hb)))) | ((with_reducible apply WD_id); first | (refine WD_cut htb ?_) | (refine WD_cut3 htb ?_) | (refine WD_lens htb ?_) | (refine WD_caps htb ?_) | (refine WD_cps htb ?_) | (refine WD_cpp htb ?_) | (refine WD_api htb ?_) | (refine WD_apz htb ?_) | (refine WD_clr htb ?_)) | ((refine WD_tf (by exact rfl) (by exact rfl) ?_ ?_) <;> (intro hb; (fail_if_success (with_reducible injection hb)); rw [hb]; (try simp only [List.length_map] at hb))) | (((with_reducible apply gC2); exact rfl) <;> (intro hb; rw [hb]))))
  all_goals refine gE (.inr rfl) rfl (congrArg vB ?_) ⟨rfl, rfl, trivial⟩
  all_goals simp only [noP, pairO]
  all_goals simp_all
theorem idxfP_pm (l : List Off) (u : ByteArray) (i : Int) (v : ByteArray) (j : Int) (hl : l.length ≤ 1000) : FnM Tryz.prog 143 [(4, .box 30 [vS u, vI i]), (5, .box 30 [vS v, vI j])] [lO l, .clo 125 [.ptr 4 0, .ptr 5 0]] (vI (idxF (noP u i v j) 0 l)) [(4, .box 30 [vS u, vI i]), (5, .box 30 [vS v, vI j])] := by
  refine FnM.of htb Tryz.func143 rfl rfl rfl rfl rfl fun cx hN h0 => ?_
  (repeat' (first | (refine nx ?_) | (refine WD_unk (by exact rfl) ?_; ((refine WD_tf (by exact rfl) (by exact rfl) ?_ ?_) <;> (intro hb; (fail_if_success (with_reducible injection hb)); rw [hb]; (try simp only [List.length_map] at hb)))) | ((with_reducible apply WD_id); first | (refine WD_cut htb ?_) | (refine WD_cut3 htb ?_) | (refine WD_lens htb ?_) | (refine WD_caps htb ?_) | (refine WD_cps htb ?_) | (refine WD_cpp htb ?_) | (refine WD_api htb ?_) | (refine WD_apz htb ?_) | (refine WD_clr htb ?_)) | ((refine WD_tf (by exact rfl) (by exact rfl) ?_ ?_) <;> (intro hb; (fail_if_success (with_reducible injection hb)); rw [hb]; (try simp only [List.length_map] at hb))) | (((with_reducible apply gC2); exact rfl) <;> (intro hb; rw [hb]))))
  (refine WA_forV (l.length) [8] [] (fun k => [(8, vI k)]) (fun k => []) (fun k => idxF (noP u i v j) 0 l = idxF (noP u i v j) k (l.drop k)) ?h0 ?_)
  case h0 => rfl
  intro k hk hI
  (repeat' (first | (refine nx ?_) | (refine WD_unk (by exact rfl) ?_; ((refine WD_tf (by exact rfl) (by exact rfl) ?_ ?_) <;> (intro hb; (fail_if_success (with_reducible injection hb)); rw [hb]; (try simp only [List.length_map] at hb)))) | (refine WD_call (by exact rfl) ?_; first | (refine WD_cM (isP_pm _ _ _ _ _) ?_)) | ((with_reducible apply WD_id); first | (refine WD_cut htb ?_) | (refine WD_cut3 htb ?_) | (refine WD_lens htb ?_) | (refine WD_caps htb ?_) | (refine WD_cps htb ?_) | (refine WD_cpp htb ?_) | (refine WD_api htb ?_) | (refine WD_apz htb ?_) | (refine WD_clr htb ?_)) | ((refine WD_tf (by exact rfl) (by exact rfl) ?_ ?_) <;> (intro hb; (fail_if_success (with_reducible injection hb)); rw [hb]; (try simp only [List.length_map] at hb))) | (((with_reducible apply gC2); exact rfl) <;> (intro hb; rw [hb]))))
  · exact gE (.inr rfl) rfl (congrArg vI (idx_hit hI (by simp at *; omega) (by assumption)).symm) ⟨rfl, rfl, trivial⟩
  · refine ⟨by simp at *; omega, idx_miss hI (by simp at *; omega) (by assumption), ?_⟩
    (exact LeV [])
  · exact gE (.inr rfl) rfl (congrArg vI (idx_end hI (by simp at *; omega)).symm) ⟨rfl, rfl, trivial⟩
theorem keep_all {α : Type} [Inhabited α] {p : α → Bool} {l : List α} (h : idxF (fun x => !p x) 0 l = -1) : l.filter p = l := by
  rcases idxF_spec (fun x => !p x) l 0 with ⟨_, h2⟩ | ⟨j, _, j2, _⟩
  · exact List.filter_eq_self.2 fun x hx => by simpa using h2 x hx
  · omega
theorem delf52_pm (l : List Off) (u : ByteArray) (i : Int) (v : ByteArray) (j : Int) (hl : l.length ≤ 1000) (hk : idxF (noP u i v j) 0 l = -1) : FnM Tryz.prog 124 [(52, .arr 76 9 (l.map rO)), (4, .box 30 [vS u, vI i]), (5, .box 30 [vS v, vI j])] [.own 52, .clo 125 [.ptr 4 0, .ptr 5 0]] (.own 52) [(52, .arr 76 9 (l.map rO)), (4, .box 30 [vS u, vI i]), (5, .box 30 [vS v, vI j])] := by
  refine FnM.of htb Tryz.func124 rfl rfl rfl rfl rfl fun cx hN h0 => ?_
  have d1 : (idxF (noP u i v j) 0 l == -1) = true := by rw [hk]; rfl
  (repeat' (first | (refine nx ?_) | (refine WD_unk (by exact rfl) ?_; ((refine WD_tf (by exact rfl) (by exact rfl) ?_ ?_) <;> (intro hb; (fail_if_success (with_reducible injection hb)); rw [hb]; (try simp only [List.length_map] at hb)))) | (refine WD_call (by exact rfl) ?_; first | (refine WD_cM (idxfP_pm _ _ _ _ _ ?_) ?_; (exact hyp))) | ((with_reducible apply WD_id); first | (refine WD_cut htb ?_) | (refine WD_cut3 htb ?_) | (refine WD_lens htb ?_) | (refine WD_caps htb ?_) | (refine WD_cps htb ?_) | (refine WD_cpp htb ?_) | (refine WD_api htb ?_) | (refine WD_apz htb ?_) | (refine WD_clr htb ?_)) | ((refine WD_tf (by exact rfl) (by exact rfl) ?_ ?_) <;> (intro hb; (fail_if_success (with_reducible injection hb)); rw [hb]; (try simp only [List.length_map] at hb))) | (((with_reducible apply gC2); exact rfl) <;> (intro hb; rw [hb]))))
  exact gE (.inr rfl) rfl rfl ⟨rfl, rfl, rfl, trivial⟩
structure DelI (l m : List Off) (p : Off → Bool) (a b : Nat) : Prop where
  ab : a < b
  bn : b ≤ l.length
  len : m.length = l.length
  pre : m.take a = (l.take b).filter p
  suf : m.drop b = l.drop b
theorem DelI.at {l m : List Off} {p : Off → Bool} {a b : Nat} (h : DelI l m p a b) (hb : b < l.length) : nth m b = nth l b := by
  have h1 := drop_nth m b (by rw [h.len]; exact hb)
  have h2 := drop_nth l b hb
  rw [h.suf, h2] at h1
  exact (List.cons.inj h1).1.symm
theorem DelI.keep {l m : List Off} {p : Off → Bool} {a b : Nat} (h : DelI l m p a b) (hb : b < l.length) (hp : p (nth l b) = true) : DelI l (m.set a (nth m b)) p (a + 1) (b + 1) := by
  have hab := h.ab
  have hlen := h.len
  refine ⟨by omega, by omega, by simp [hlen], ?_, ?_⟩
  · rw [List.take_succ_eq_append_getElem (by simp; omega), List.getElem_set_self, List.take_set_of_le (Nat.le_refl a), h.pre, h.at hb, List.take_succ_eq_append_getElem hb, List.filter_append, ← nth_getElem l b hb]
    simp [hp]
  · rw [List.drop_set_of_lt (by omega)]
    have h1 := drop_nth m b (by omega)
    have h2 := drop_nth l b hb
    rw [h.suf, h2] at h1
    exact (List.cons.inj h1).2.symm
theorem DelI.skip {l m : List Off} {p : Off → Bool} {a b : Nat} (h : DelI l m p a b) (hb : b < l.length) (hp : p (nth l b) = false) : DelI l m p a (b + 1) := by
  have hab := h.ab
  have hlen := h.len
  refine ⟨by omega, by omega, hlen, ?_, ?_⟩
  · rw [h.pre, List.take_succ_eq_append_getElem hb, List.filter_append, ← nth_getElem l b hb]
    simp [hp]
  · have h1 := drop_nth m b (by omega)
    have h2 := drop_nth l b hb
    rw [h.suf, h2] at h1
    exact (List.cons.inj h1).2.symm
theorem DelI.start {l : List Off} {p : Off → Bool} {a : Nat} (ha : a < l.length) (h1 : p (nth l a) = false) (h2 : ∀ k, k < a → p (nth l k) = true) : DelI l l p a (a + 1) := by
  refine ⟨by omega, by omega, rfl, ?_, rfl⟩
  rw [List.take_succ_eq_append_getElem ha, List.filter_append, ← nth_getElem l a ha]
  simp only [List.filter_cons, h1, List.filter_nil, List.append_nil]
  simp only [Bool.false_eq_true, if_false, List.append_nil]
  symm
  refine List.filter_eq_self.2 fun x hx => ?_
  obtain ⟨k, hk, rfl⟩ := List.mem_iff_getElem.1 hx
  simp only [List.length_take] at hk
  have := h2 k (by omega)
  rw [nth_getElem l k (by omega)] at this
  simpa using this
set_option maxHeartbeats 1000000 in
theorem delf61_pm (l : List Off) (u : ByteArray) (i : Int) (v : ByteArray) (j : Int) (hl : l.length ≤ 1000) (hk : 0 ≤ idxF (noP u i v j) 0 l) : FnM Tryz.prog 124 [(52, .arr 76 9 (l.map rO)), (4, .box 30 [vS u, vI i]), (5, .box 30 [vS v, vI j])] [.own 52, .clo 125 [.ptr 4 0, .ptr 5 0]] (.own 61) [(61, .arr 76 9 ((l.filter (pairO u i v j)).map rO)), (52, .dead), (4, .box 30 [vS u, vI i]), (5, .box 30 [vS v, vI j])] := by
  refine FnM.of htb Tryz.func124 rfl rfl rfl rfl rfl fun cx hN h0 => ?_
  have d1 : (idxF (noP u i v j) 0 l == -1) = false := by simp only [beq_eq_false_iff_ne]; omega
  rcases idxF_spec (noP u i v j) l 0 with ⟨h1, _⟩ | ⟨p, p1, p2, p3, p4⟩
  · omega
  have hp : idxF (noP u i v j) 0 l = (p : Int) := by rw [p2]; simp
  have hst := DelI.start (p := pairO u i v j) p1 (by simpa [noP] using p3) (fun k hk => by simpa [noP] using p4 k hk)
  (repeat' (first | (refine nx ?_) | (refine WD_unk (by exact rfl) ?_; ((refine WD_tf (by exact rfl) (by exact rfl) ?_ ?_) <;> (intro hb; (fail_if_success (with_reducible injection hb)); rw [hb]; (try simp only [List.length_map] at hb)))) | (refine WD_call (by exact rfl) ?_; first | (refine WD_cM (idxfP_pm _ _ _ _ _ ?_) ?_; (exact hyp))) | ((with_reducible apply WD_id); first | (refine WD_cut htb ?_) | (refine WD_cut3 htb ?_) | (refine WD_lens htb ?_) | (refine WD_caps htb ?_) | (refine WD_cps htb ?_) | (refine WD_cpp htb ?_) | (refine WD_api htb ?_) | (refine WD_apz htb ?_) | (refine WD_clr htb ?_)) | ((refine WD_tf (by exact rfl) (by exact rfl) ?_ ?_) <;> (intro hb; (fail_if_success (with_reducible injection hb)); rw [hb]; (try simp only [List.length_map] at hb))) | (((with_reducible apply gC2); exact rfl) <;> (intro hb; rw [hb]))))
  rw [hp]
  (repeat' (first | (refine nx ?_) | (refine WD_unk (by exact rfl) ?_; ((refine WD_tf (by exact rfl) (by exact rfl) ?_ ?_) <;> (intro hb; (fail_if_success (with_reducible injection hb)); rw [hb]; (try simp only [List.length_map] at hb)))) | ((with_reducible apply WD_id); first | (refine WD_cut htb ?_) | (refine WD_cut3 htb ?_) | (refine WD_lens htb ?_) | (refine WD_caps htb ?_) | (refine WD_cps htb ?_) | (refine WD_cpp htb ?_) | (refine WD_api htb ?_) | (refine WD_apz htb ?_) | (refine WD_clr htb ?_)) | ((refine WD_tf (by exact rfl) (by exact rfl) ?_ ?_) <;> (intro hb; (fail_if_success (with_reducible injection hb)); rw [hb]; (try simp only [List.length_map] at hb))) | (((with_reducible apply gC2); exact rfl) <;> (intro hb; rw [hb]))))
  (refine WA_anyV (α := Nat × Nat × List Off) (fun x => l.length - x.2.1) ((p, p + 1, l)) [5, 6] [52, 4, 5] (fun x => [(5, vI x.1), (6, vI x.2.1)]) (fun x => [(52, .arr 76 9 (x.2.2.map rO)), (4, .box 30 [vS u, vI i]), (5, .box 30 [vS v, vI j])]) (fun x => DelI l x.2.2 (pairO u i v j) x.1 x.2.1) ?h0 ?_)
  case h0 => exact hst
  rintro ⟨a, b, m⟩ hI
  dsimp only at hI
  have hab := hI.ab
  have hbn := hI.bn
  have hlen := hI.len
  by_cases hb : b < l.length
  · have d2 : decide ((b : Int) < (m.length : Int)) = true := by simp only [decide_eq_true_eq]; omega
    have e := hI.at hb
    have ham : a < m.length := by omega
    cases hpx : pairO u i v j (nth l b) with
    | true =>
      have t1 : (!noP u i v j (nth m b)) = true := by rw [e]; simp [noP, hpx]
      have hs : (m.map rO).set a (rO (nth m b)) = (m.set a (nth m b)).map rO := by rw [List.map_set]
      (repeat' (first | (refine nx ?_) | (refine WD_unk (by exact rfl) ?_; ((refine WD_tf (by exact rfl) (by exact rfl) ?_ ?_) <;> (intro hb; (fail_if_success (with_reducible injection hb)); rw [hb]; (try simp only [List.length_map] at hb)))) | (refine WD_call (by exact rfl) ?_; first | (refine WD_cM (isP_pm _ _ _ _ _) ?_)) | ((with_reducible apply WD_id); first | (refine WD_cut htb ?_) | (refine WD_cut3 htb ?_) | (refine WD_lens htb ?_) | (refine WD_caps htb ?_) | (refine WD_cps htb ?_) | (refine WD_cpp htb ?_) | (refine WD_api htb ?_) | (refine WD_apz htb ?_) | (refine WD_clr htb ?_)) | ((refine WD_tf (by exact rfl) (by exact rfl) ?_ ?_) <;> (intro hb; (fail_if_success (with_reducible injection hb)); rw [hb]; (try simp only [List.length_map] at hb))) | (((with_reducible apply gC2); exact rfl) <;> (intro hb; rw [hb]))))
      refine ⟨(a + 1, b + 1, m.set a (nth m b)), by dsimp only; omega, hI.keep hb hpx, ?_⟩
      (exact LeV [])
    | false =>
      have t1 : (!noP u i v j (nth m b)) = false := by rw [e]; simp [noP, hpx]
      (repeat' (first | (refine nx ?_) | (refine WD_unk (by exact rfl) ?_; ((refine WD_tf (by exact rfl) (by exact rfl) ?_ ?_) <;> (intro hb; (fail_if_success (with_reducible injection hb)); rw [hb]; (try simp only [List.length_map] at hb)))) | (refine WD_call (by exact rfl) ?_; first | (refine WD_cM (isP_pm _ _ _ _ _) ?_)) | ((with_reducible apply WD_id); first | (refine WD_cut htb ?_) | (refine WD_cut3 htb ?_) | (refine WD_lens htb ?_) | (refine WD_caps htb ?_) | (refine WD_cps htb ?_) | (refine WD_cpp htb ?_) | (refine WD_api htb ?_) | (refine WD_apz htb ?_) | (refine WD_clr htb ?_)) | ((refine WD_tf (by exact rfl) (by exact rfl) ?_ ?_) <;> (intro hb; (fail_if_success (with_reducible injection hb)); rw [hb]; (try simp only [List.length_map] at hb))) | (((with_reducible apply gC2); exact rfl) <;> (intro hb; rw [hb]))))
      refine ⟨(a, b + 1, m), by dsimp only; omega, hI.skip hb hpx, ?_⟩
      (exact LeV [])
  · have d2 : decide ((b : Int) < (m.length : Int)) = false := by simp only [decide_eq_false_iff_not]; omega
    refine WA_room 0 rfl rfl fun q hq hq2 => ?_
    simp only [List.length_map] at hq hq2
    (repeat' (first | (refine nx ?_) | (refine WD_unk (by exact rfl) ?_; ((refine WD_tf (by exact rfl) (by exact rfl) ?_ ?_) <;> (intro hb; (fail_if_success (with_reducible injection hb)); rw [hb]; (try simp only [List.length_map] at hb)))) | ((with_reducible apply WD_id); first | (refine WD_cut htb ?_) | (refine WD_cut3 htb ?_) | (refine WD_lens htb ?_) | (refine WD_caps htb ?_) | (refine WD_cps htb ?_) | (refine WD_cpp htb ?_) | (refine WD_api htb ?_) | (refine WD_apz htb ?_) | (refine WD_clr htb ?_)) | ((refine WD_tf (by exact rfl) (by exact rfl) ?_ ?_) <;> (intro hb; (fail_if_success (with_reducible injection hb)); rw [hb]; (try simp only [List.length_map] at hb))) | (((with_reducible apply gC2); exact rfl) <;> (intro hb; rw [hb]))))
    simp only [Nat.zero_add, Nat.sub_zero, Option.map_some]
    have hf : ∀ B C : List (List D), ((m.map rO).take a ++ B ++ C).take a = (l.filter (pairO u i v j)).map rO := fun B C => by
      rw [List.append_assoc, List.take_left' (by simp; omega), ← List.map_take, hI.pre, List.take_of_length_le (by omega)]
    exact glV [(4, .own 61)] [(61, .arr 76 9 ((l.filter (pairO u i v j)).map rO)), (52, .dead), (4, .box 30 [vS u, vI i]), (5, .box 30 [vS v, vI j])] (Le.trans (Le_hide 4 61 rfl rfl (by simp only [List.length_append, List.length_take, List.length_drop, List.length_replicate, List.length_map]; omega) (show 0 < q by omega) rfl)
      (LeV [] (hM := ⟨⟨_, rfl, rfl, rfl, hf _ _⟩, ⟨_, rfl, trivial⟩, ⟨_, rfl, rfl, cvl, rfl⟩, ⟨_, rfl, rfl, cvl, rfl⟩, trivial⟩)))
set_option maxHeartbeats 1000000 in
theorem book_pm (g : Led) (u : ByteArray) (i : Int) (v : ByteArray) (j : Int) (hl : g.lins.length ≤ 1000) (ha : g.accs.length ≤ 1000) (ho : g.offs.length ≤ 12) (hr : chkO g = 0) : FnM Tryz.prog 98 [] [aG g, aT u i, aT v j] (lO (bookO g u i v j)) [] := by
  refine FnM.of htb Tryz.func98 rfl rfl rfl rfl rfl fun cx hN h0 => ?_
  obtain ⟨e, _, _, hlen⟩ := book_srt (chkO_zero.1 hr) u i v j
  have hfl := List.length_filter_le (pairO u i v j) g.offs
  rcases idxF_spec (noP u i v j) g.offs 0 with ⟨hk, _⟩ | ⟨p, _, hk, _⟩
  · have hf := keep_all (p := pairO u i v j) hk
    rw [hf] at e
    (repeat' (first | (refine nx ?_) | (refine WD_unk (by exact rfl) ?_; ((refine WD_tf (by exact rfl) (by exact rfl) ?_ ?_) <;> (intro hb; (fail_if_success (with_reducible injection hb)); rw [hb]; (try simp only [List.length_map] at hb)))) | (refine WD_call (by exact rfl) ?_; first | (refine WD_cM (cloneO_pm _ ?_) ?_; (exact hyp)) | (refine WD_cM (delf52_pm _ _ _ _ _ ?_ ?_) ?_; (exact hyp); (exact hyp)) | (refine WD_cM (sort52_pm _ ?_) ?_; (exact hyp))) | ((with_reducible apply WD_id); first | (refine WD_cut htb ?_) | (refine WD_cut3 htb ?_) | (refine WD_lens htb ?_) | (refine WD_caps htb ?_) | (refine WD_cps htb ?_) | (refine WD_cpp htb ?_) | (refine WD_api htb ?_) | (refine WD_apz htb ?_) | (refine WD_clr htb ?_)) | ((refine WD_tf (by exact rfl) (by exact rfl) ?_ ?_) <;> (intro hb; (fail_if_success (with_reducible injection hb)); rw [hb]; (try simp only [List.length_map] at hb))) | (((with_reducible apply gC2); exact rfl) <;> (intro hb; rw [hb]))))
    rw [e]
    (exact glV [(6, lO (bookO g u i v j))] [] (LeV []))
  · have hk : 0 ≤ idxF (noP u i v j) 0 g.offs := by rw [hk]; omega
    (repeat' (first | (refine nx ?_) | (refine WD_unk (by exact rfl) ?_; ((refine WD_tf (by exact rfl) (by exact rfl) ?_ ?_) <;> (intro hb; (fail_if_success (with_reducible injection hb)); rw [hb]; (try simp only [List.length_map] at hb)))) | (refine WD_call (by exact rfl) ?_; first | (refine WD_cM (cloneO_pm _ ?_) ?_; (exact hyp)) | (refine WD_cM (delf61_pm _ _ _ _ _ ?_ ?_) ?_; (exact hyp); (exact hyp)) | (refine WD_cM (sort61_pm _ ?_) ?_; (exact hyp))) | ((with_reducible apply WD_id); first | (refine WD_cut htb ?_) | (refine WD_cut3 htb ?_) | (refine WD_lens htb ?_) | (refine WD_caps htb ?_) | (refine WD_cps htb ?_) | (refine WD_cpp htb ?_) | (refine WD_api htb ?_) | (refine WD_apz htb ?_) | (refine WD_clr htb ?_)) | ((refine WD_tf (by exact rfl) (by exact rfl) ?_ ?_) <;> (intro hb; (fail_if_success (with_reducible injection hb)); rw [hb]; (try simp only [List.length_map] at hb))) | (((with_reducible apply gC2); exact rfl) <;> (intro hb; rw [hb]))))
    rw [e]
    (exact glV [(6, lO (bookO g u i v j))] [] (LeV []))
def rgtF (g : Led) (k : Nat) : Bool := headOk g && offsOk g none (g.offs.take k)
theorem last_take {g : Led} {k : Nat} (hk : k ≤ g.offs.length) : lastO none (g.offs.take k) = prevL g.offs k := by
  cases k with
  | zero => rfl
  | succ k =>
    rw [List.take_succ_eq_append_getElem (by omega), lastO_snoc]
    unfold prevL
    rw [if_neg (by omega), ← nth_getElem g.offs k (by omega)]; rfl
theorem offOk_split (g : Led) (p : Option Off) (x : Off) : offOk g p x = (offOk g none x && !leP p x.id) := by
  rw [Bool.eq_iff_iff, Bool.and_eq_true, off_iff, off_iff]
  cases leP p x.id <;> simp [leP]
theorem rgt_step {g : Led} {k : Nat} (hk : k < g.offs.length) : rgtF g (k + 1) = (rgtF g k && (offOk g none (nth g.offs k) && !leP (prevL g.offs k) (nth g.offs k).id)) := by
  unfold rgtF
  rw [List.take_succ_eq_append_getElem hk, offsOk_snoc, last_take (by omega), ← nth_getElem g.offs k hk, offOk_split g (prevL g.offs k), Bool.and_assoc]
theorem rgt_end {g : Led} (hL : chkL g.lins g.accs = 0) (h40 : ¬ 40 < g.offs.length) : chkO g = if rgtF g g.offs.length = true then 0 else 74 := by
  unfold chkO rgtF
  rw [if_neg (by simp [hL]), if_neg h40, List.take_length]
  cases headOk g <;> cases offsOk g none g.offs <;> simp
set_option maxHeartbeats 8000000 in
theorem chkO_pm (g : Led) (hl : g.lins.length ≤ 1000) (ha : g.accs.length ≤ 1000) (ho : g.offs.length ≤ 1000) : FnM Tryz.prog 38 [] [aG g] (vI (chkO g)) [] := by
  refine FnM.of htb Tryz.func38 rfl rfl rfl rfl rfl fun cx hN h0 => ?_
  by_cases hL : chkL g.lins g.accs = 0
  case neg =>
    have e : chkO g = chkL g.lins g.accs := if_pos hL
    have d1 : (chkL g.lins g.accs != 0) = true := by simp [hL]
    rw [e]
    (repeat' (first | (refine nx ?_) | (refine WD_unk (by exact rfl) ?_; ((refine WD_tf (by exact rfl) (by exact rfl) ?_ ?_) <;> (intro hb; (fail_if_success (with_reducible injection hb)); rw [hb]; (try simp only [List.length_map] at hb)))) | (refine WD_call (by exact rfl) ?_; first | (refine WD_c0 (chkL_pm _ _ ?_ ?_) ?_; (exact hyp); (exact hyp))) | ((with_reducible apply WD_id); first | (refine WD_cut htb ?_) | (refine WD_cut3 htb ?_) | (refine WD_lens htb ?_) | (refine WD_caps htb ?_) | (refine WD_cps htb ?_) | (refine WD_cpp htb ?_) | (refine WD_api htb ?_) | (refine WD_apz htb ?_) | (refine WD_clr htb ?_)) | ((refine WD_tf (by exact rfl) (by exact rfl) ?_ ?_) <;> (intro hb; (fail_if_success (with_reducible injection hb)); rw [hb]; (try simp only [List.length_map] at hb))) | (((with_reducible apply gC2); exact rfl) <;> (intro hb; rw [hb]))))
    exact gE (.inr rfl) rfl rfl trivial
  have d1 : (chkL g.lins g.accs != 0) = false := by simp [hL]
  by_cases h40 : 40 < g.offs.length
  · have e : chkO g = 3 := by unfold chkO; rw [if_neg (by simp [hL]), if_pos h40]
    have d2 : decide ((g.offs.length : Int) > 40) = true := by simp only [decide_eq_true_eq]; omega
    rw [e]
    (repeat' (first | (refine nx ?_) | (refine WD_unk (by exact rfl) ?_; ((refine WD_tf (by exact rfl) (by exact rfl) ?_ ?_) <;> (intro hb; (fail_if_success (with_reducible injection hb)); rw [hb]; (try simp only [List.length_map] at hb)))) | (refine WD_call (by exact rfl) ?_; first | (refine WD_c0 (chkL_pm _ _ ?_ ?_) ?_; (exact hyp); (exact hyp))) | ((with_reducible apply WD_id); first | (refine WD_cut htb ?_) | (refine WD_cut3 htb ?_) | (refine WD_lens htb ?_) | (refine WD_caps htb ?_) | (refine WD_cps htb ?_) | (refine WD_cpp htb ?_) | (refine WD_api htb ?_) | (refine WD_apz htb ?_) | (refine WD_clr htb ?_)) | ((refine WD_tf (by exact rfl) (by exact rfl) ?_ ?_) <;> (intro hb; (fail_if_success (with_reducible injection hb)); rw [hb]; (try simp only [List.length_map] at hb))) | (((with_reducible apply gC2); exact rfl) <;> (intro hb; rw [hb]))))
    exact gE (.inr rfl) rfl rfl trivial
  have d2 : decide ((g.offs.length : Int) > 40) = false := by simp only [decide_eq_false_iff_not]; omega
  rw [rgt_end hL h40]
  (repeat' (first | (refine nx ?_) | (refine WD_unk (by exact rfl) ?_; ((refine WD_tf (by exact rfl) (by exact rfl) ?_ ?_) <;> (intro hb; (fail_if_success (with_reducible injection hb)); rw [hb]; (try simp only [List.length_map] at hb)))) | (refine WD_call (by exact rfl) ?_; first | (refine WD_c0 (chkL_pm _ _ ?_ ?_) ?_; (exact hyp); (exact hyp)) | (refine WD_c0 (okA_pm _) ?_)) | ((with_reducible apply WD_id); first | (refine WD_cut htb ?_) | (refine WD_cut3 htb ?_) | (refine WD_lens htb ?_) | (refine WD_caps htb ?_) | (refine WD_cps htb ?_) | (refine WD_cpp htb ?_) | (refine WD_api htb ?_) | (refine WD_apz htb ?_) | (refine WD_clr htb ?_)) | ((refine WD_tf (by exact rfl) (by exact rfl) ?_ ?_) <;> (intro hb; (fail_if_success (with_reducible injection hb)); rw [hb]; (try simp only [List.length_map] at hb))) | (((with_reducible apply gC2); exact rfl) <;> (intro hb; rw [hb]))))
  · have e0 : decide (g.num ≤ 1000000) = rgtF g 0 := by
      unfold rgtF
      simp only [List.take_zero, offsOk, Bool.and_true]
      try simp only [Bool.not_eq_true', Bool.not_eq_false', decide_eq_true_eq, decide_eq_false_iff_not, bne_iff_ne, bne_eq_false_iff_eq, beq_iff_eq, beq_eq_false_iff_ne] at *
      rw [Bool.eq_iff_iff, head_iff, decide_eq_true_eq]
      constructor
      · intro h; refine ⟨by omega, by omega, by assumption, by omega, h⟩
      · intro h; exact h.2.2.2.2
    rw [e0]
    (
    (refine WA_forV (g.offs.length) [45, 4] [] (fun k => [(45, vI k), (4, vB (rgtF g k))]) (fun k => []) (fun k => True) ?h0 ?_)
    case h0 => trivial
    intro k hk _
    by_cases hk' : k < g.offs.length
    · have d3 : decide ((k : Int) < (g.offs.length : Int)) = true := by simp only [decide_eq_true_eq]; omega
      have hst := rgt_step hk'
      cases hr : rgtF g k with
      | false =>
        have e : rgtF g (k + 1) = false := by rw [hst, hr]; rfl
        (repeat' (first | (refine nx ?_) | (refine WD_unk (by exact rfl) ?_; ((refine WD_tf (by exact rfl) (by exact rfl) ?_ ?_) <;> (intro hb; (fail_if_success (with_reducible injection hb)); rw [hb]; (try simp only [List.length_map] at hb)))) | ((with_reducible apply WD_id); first | (refine WD_cut htb ?_) | (refine WD_cut3 htb ?_) | (refine WD_lens htb ?_) | (refine WD_caps htb ?_) | (refine WD_cps htb ?_) | (refine WD_cpp htb ?_) | (refine WD_api htb ?_) | (refine WD_apz htb ?_) | (refine WD_clr htb ?_)) | ((refine WD_tf (by exact rfl) (by exact rfl) ?_ ?_) <;> (intro hb; (fail_if_success (with_reducible injection hb)); rw [hb]; (try simp only [List.length_map] at hb))) | (((with_reducible apply gC2); exact rfl) <;> (intro hb; rw [hb]))))
        refine ⟨hk', trivial, ?_⟩
        rw [e]
        (exact LeV [])
      | true =>
        cases ho1 : offOk g none (nth g.offs k) with
        | false =>
          have e : rgtF g (k + 1) = false := by rw [hst, ho1]; cases rgtF g k <;> rfl
          (repeat' (first | (refine nx ?_) | (refine WD_unk (by exact rfl) ?_; ((refine WD_tf (by exact rfl) (by exact rfl) ?_ ?_) <;> (intro hb; (fail_if_success (with_reducible injection hb)); rw [hb]; (try simp only [List.length_map] at hb)))) | (refine WD_call (by exact rfl) ?_; first | (refine WD_c0 (offer_pm _ _ ?_ ?_ ?_) ?_; (exact hyp); (exact hyp); (exact hyp))) | ((with_reducible apply WD_id); first | (refine WD_cut htb ?_) | (refine WD_cut3 htb ?_) | (refine WD_lens htb ?_) | (refine WD_caps htb ?_) | (refine WD_cps htb ?_) | (refine WD_cpp htb ?_) | (refine WD_api htb ?_) | (refine WD_apz htb ?_) | (refine WD_clr htb ?_)) | ((refine WD_tf (by exact rfl) (by exact rfl) ?_ ?_) <;> (intro hb; (fail_if_success (with_reducible injection hb)); rw [hb]; (try simp only [List.length_map] at hb))) | (((with_reducible apply gC2); exact rfl) <;> (intro hb; rw [hb]))))
          refine ⟨hk', trivial, ?_⟩
          rw [e]
          (exact LeV [])
        | true =>
          by_cases hk0 : k = 0
          · have e : rgtF g (k + 1) = true := by rw [hst, hr, ho1, hk0]; rfl
            have d4 : ((k : Int) == 0) = true := by simp [hk0]
            (repeat' (first | (refine nx ?_) | (refine WD_unk (by exact rfl) ?_; ((refine WD_tf (by exact rfl) (by exact rfl) ?_ ?_) <;> (intro hb; (fail_if_success (with_reducible injection hb)); rw [hb]; (try simp only [List.length_map] at hb)))) | (refine WD_call (by exact rfl) ?_; first | (refine WD_c0 (offer_pm _ _ ?_ ?_ ?_) ?_; (exact hyp); (exact hyp); (exact hyp))) | ((with_reducible apply WD_id); first | (refine WD_cut htb ?_) | (refine WD_cut3 htb ?_) | (refine WD_lens htb ?_) | (refine WD_caps htb ?_) | (refine WD_cps htb ?_) | (refine WD_cpp htb ?_) | (refine WD_api htb ?_) | (refine WD_apz htb ?_) | (refine WD_clr htb ?_)) | ((refine WD_tf (by exact rfl) (by exact rfl) ?_ ?_) <;> (intro hb; (fail_if_success (with_reducible injection hb)); rw [hb]; (try simp only [List.length_map] at hb))) | (((with_reducible apply gC2); exact rfl) <;> (intro hb; rw [hb]))))
            refine ⟨hk', trivial, ?_⟩
            rw [e]
            (exact LeV [])
          · have e : rgtF g (k + 1) = decide ((nth g.offs ((k : Int) - 1).toNat).id < (nth g.offs k).id) := by
              rw [hst, hr, ho1, prevL_pos (by omega)]
              simp only [leP, Bool.true_and]
              rw [← decide_not]
              exact decide_eq_decide.2 (by omega)
            have d4 : ((k : Int) == 0) = false := by simp [hk0]
            (repeat' (first | (refine nx ?_) | (refine WD_unk (by exact rfl) ?_; ((refine WD_tf (by exact rfl) (by exact rfl) ?_ ?_) <;> (intro hb; (fail_if_success (with_reducible injection hb)); rw [hb]; (try simp only [List.length_map] at hb)))) | (refine WD_call (by exact rfl) ?_; first | (refine WD_c0 (offer_pm _ _ ?_ ?_ ?_) ?_; (exact hyp); (exact hyp); (exact hyp))) | ((with_reducible apply WD_id); first | (refine WD_cut htb ?_) | (refine WD_cut3 htb ?_) | (refine WD_lens htb ?_) | (refine WD_caps htb ?_) | (refine WD_cps htb ?_) | (refine WD_cpp htb ?_) | (refine WD_api htb ?_) | (refine WD_apz htb ?_) | (refine WD_clr htb ?_)) | ((refine WD_tf (by exact rfl) (by exact rfl) ?_ ?_) <;> (intro hb; (fail_if_success (with_reducible injection hb)); rw [hb]; (try simp only [List.length_map] at hb))) | (((with_reducible apply gC2); exact rfl) <;> (intro hb; rw [hb]))))
            refine ⟨hk', trivial, ?_⟩
            rw [e]
            (exact LeV [])
    · have d3 : decide ((k : Int) < (g.offs.length : Int)) = false := by simp only [decide_eq_false_iff_not]; omega
      obtain rfl : k = g.offs.length := by omega
      cases hr : rgtF g g.offs.length with
      | false =>
        have d5 : (!rgtF g g.offs.length) = true := by rw [hr]; rfl
        (repeat' (first | (refine nx ?_) | (refine WD_unk (by exact rfl) ?_; ((refine WD_tf (by exact rfl) (by exact rfl) ?_ ?_) <;> (intro hb; (fail_if_success (with_reducible injection hb)); rw [hb]; (try simp only [List.length_map] at hb)))) | ((with_reducible apply WD_id); first | (refine WD_cut htb ?_) | (refine WD_cut3 htb ?_) | (refine WD_lens htb ?_) | (refine WD_caps htb ?_) | (refine WD_cps htb ?_) | (refine WD_cpp htb ?_) | (refine WD_api htb ?_) | (refine WD_apz htb ?_) | (refine WD_clr htb ?_)) | ((refine WD_tf (by exact rfl) (by exact rfl) ?_ ?_) <;> (intro hb; (fail_if_success (with_reducible injection hb)); rw [hb]; (try simp only [List.length_map] at hb))) | (((with_reducible apply gC2); exact rfl) <;> (intro hb; rw [hb]))))
        exact gE (.inr rfl) rfl rfl trivial
      | true =>
        have d5 : (!rgtF g g.offs.length) = false := by rw [hr]; rfl
        (repeat' (first | (refine nx ?_) | (refine WD_unk (by exact rfl) ?_; ((refine WD_tf (by exact rfl) (by exact rfl) ?_ ?_) <;> (intro hb; (fail_if_success (with_reducible injection hb)); rw [hb]; (try simp only [List.length_map] at hb)))) | ((with_reducible apply WD_id); first | (refine WD_cut htb ?_) | (refine WD_cut3 htb ?_) | (refine WD_lens htb ?_) | (refine WD_caps htb ?_) | (refine WD_cps htb ?_) | (refine WD_cpp htb ?_) | (refine WD_api htb ?_) | (refine WD_apz htb ?_) | (refine WD_clr htb ?_)) | ((refine WD_tf (by exact rfl) (by exact rfl) ?_ ?_) <;> (intro hb; (fail_if_success (with_reducible injection hb)); rw [hb]; (try simp only [List.length_map] at hb))) | (((with_reducible apply gC2); exact rfl) <;> (intro hb; rw [hb]))))
        exact gE (.inr rfl) rfl rfl trivial)
  all_goals (
    have hH : headOk g = false := by
      rw [Bool.eq_false_iff, Ne, head_iff]
      try simp only [Bool.not_eq_true', Bool.not_eq_false', decide_eq_true_eq, decide_eq_false_iff_not, bne_iff_ne, bne_eq_false_iff_eq, beq_iff_eq, beq_eq_false_iff_ne] at *
      first | omega | simp_all
    have e : rgtF g g.offs.length = false := by unfold rgtF; rw [hH]; rfl
    rw [e]
    (refine WA_forV (g.offs.length) [45, 4] [] (fun k => [(45, vI k), (4, vB false)]) (fun k => []) (fun k => True) ?h0 ?_)
    case h0 => trivial
    intro k hk _
    by_cases hk' : k < g.offs.length
    · have d3 : decide ((k : Int) < (g.offs.length : Int)) = true := by simp only [decide_eq_true_eq]; omega
      (repeat' (first | (refine nx ?_) | (refine WD_unk (by exact rfl) ?_; ((refine WD_tf (by exact rfl) (by exact rfl) ?_ ?_) <;> (intro hb; (fail_if_success (with_reducible injection hb)); rw [hb]; (try simp only [List.length_map] at hb)))) | ((with_reducible apply WD_id); first | (refine WD_cut htb ?_) | (refine WD_cut3 htb ?_) | (refine WD_lens htb ?_) | (refine WD_caps htb ?_) | (refine WD_cps htb ?_) | (refine WD_cpp htb ?_) | (refine WD_api htb ?_) | (refine WD_apz htb ?_) | (refine WD_clr htb ?_)) | ((refine WD_tf (by exact rfl) (by exact rfl) ?_ ?_) <;> (intro hb; (fail_if_success (with_reducible injection hb)); rw [hb]; (try simp only [List.length_map] at hb))) | (((with_reducible apply gC2); exact rfl) <;> (intro hb; rw [hb]))))
      refine ⟨hk', trivial, ?_⟩
      (exact LeV [])
    · have d3 : decide ((k : Int) < (g.offs.length : Int)) = false := by simp only [decide_eq_false_iff_not]; omega
      (repeat' (first | (refine nx ?_) | (refine WD_unk (by exact rfl) ?_; ((refine WD_tf (by exact rfl) (by exact rfl) ?_ ?_) <;> (intro hb; (fail_if_success (with_reducible injection hb)); rw [hb]; (try simp only [List.length_map] at hb)))) | ((with_reducible apply WD_id); first | (refine WD_cut htb ?_) | (refine WD_cut3 htb ?_) | (refine WD_lens htb ?_) | (refine WD_caps htb ?_) | (refine WD_cps htb ?_) | (refine WD_cpp htb ?_) | (refine WD_api htb ?_) | (refine WD_apz htb ?_) | (refine WD_clr htb ?_)) | ((refine WD_tf (by exact rfl) (by exact rfl) ?_ ?_) <;> (intro hb; (fail_if_success (with_reducible injection hb)); rw [hb]; (try simp only [List.length_map] at hb))) | (((with_reducible apply gC2); exact rfl) <;> (intro hb; rw [hb]))))
      exact gE (.inr rfl) rfl rfl trivial)
end Go.Proofs.YtgebgpdoddjfhaaGreat
