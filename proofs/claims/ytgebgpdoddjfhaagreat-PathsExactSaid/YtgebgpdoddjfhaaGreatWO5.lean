/- Contracts of the program's functions on offers: crossing the book, taking. -/
import Derived.Test.YtgebgpdoddjfhaaGreatWO4
import Derived.Test.YtgebgpdoddjfhaaGreatPlainV
namespace Go.Proofs.YtgebgpdoddjfhaaGreat
set_option linter.unusedSimpArgs false
set_option linter.unusedVariables false
set_option linter.unnecessarySimpa false
set_option linter.unusedSectionVars false
set_option maxRecDepth 100000
open Go Go.RowKit Go.Am Go.Proofs.Grow

/-- What holds on the way along the book. -/
structure CrI (t : Int) (g : Led) (n most : Int) (b : List Off) (k : Nat) (d : Deal) : Prop where
  kl : k ≤ b.length
  eq : crossL t (b.drop k) d = crossL t b ⟨g, n, most⟩
  right : RightO d.g
  w0 : 0 ≤ d.want
  w1 : d.want ≤ n
  l0 : 0 ≤ d.left
  l1 : d.left ≤ most
  sub : ∀ x ∈ b.drop k, x ∈ d.g.offs
  nd : ((b.drop k).map Off.id).Nodup
theorem cross_one (t : Int) (x : Off) (r : List Off) (d : Deal) : crossL t (x :: r) d = if x.seller = t then crossL t r d else if (useF d (idxO d.g.offs x.id).toNat).2 = true then crossL t r (useF d (idxO d.g.offs x.id).toNat).1 else (useF d (idxO d.g.offs x.id).toNat).1 := rfl
theorem CrI.skip {t : Int} {g : Led} {n most : Int} {b : List Off} {k : Nat} {d : Deal} (h : CrI t g n most b k d) (hk : k < b.length) (ht : (nth b k).seller = t) : CrI t g n most b (k + 1) d := by
  obtain ⟨_, e, r, w0, w1, l0, l1, s, nd⟩ := h
  rw [drop_nth b k hk] at e s nd
  rw [cross_one, if_pos ht] at e
  rw [List.map_cons, List.nodup_cons] at nd
  exact ⟨by omega, e, r, w0, w1, l0, l1, fun x hx => s x (by simp [hx]), nd.2⟩
theorem CrI.at {t : Int} {g : Led} {n most : Int} {b : List Off} {k : Nat} {d : Deal} (h : CrI t g n most b k d) (hk : k < b.length) (hn : n ≤ 1000000000000) (hm : most ≤ 1000000000000) : ∃ j, AtO d (nth b k).id j ∧ nth d.g.offs j = nth b k := by
  obtain ⟨_, e, r, w0, w1, l0, l1, s, nd⟩ := h
  rw [drop_nth b k hk] at s
  obtain ⟨j, hj, hx⟩ := mem_nth (s (nth b k) (by simp))
  refine ⟨j, ⟨r, ?_, hj, w0, by omega, l0, by omega⟩, hx⟩
  rw [← hx]; exact idxO_at r.asc hj
theorem CrI.next {t : Int} {g : Led} {n most : Int} {b : List Off} {k : Nat} {d : Deal} (h : CrI t g n most b k d) (hk : k < b.length) (ht : ¬ (nth b k).seller = t) {j : Nat} (ha : AtO d (nth b k).id j) (hx : nth d.g.offs j = nth b k) {d' : Deal} (hu : useF d j = (d', true)) : CrI t g n most b (k + 1) d' := by
  obtain ⟨_, e, r, w0, w1, l0, l1, s, nd⟩ := h
  have hj := ha.lt
  obtain ⟨g', hus⟩ := use_spec r hj w0 l0
  rw [hx, hu] at hus
  rw [drop_nth b k hk] at e s nd
  rw [cross_one, if_neg ht, ha.idx, Int.toNat_natCast, hu] at e
  rw [List.map_cons, List.nodup_cons] at nd
  have b1 := hus.n0
  have b2 := hus.nw
  have b3 := hus.c0
  have b4 := hus.cl
  have b5 := hus.want
  have b6 := hus.left
  dsimp only at b5 b6
  refine ⟨by omega, e, hus.right, by omega, by omega, by omega, by omega, fun y hy => ?_, nd.2⟩
  rw [(hus.gone rfl).1, List.mem_eraseIdx_iff_getElem]
  obtain ⟨q, hq, e2⟩ := List.mem_iff_getElem.1 (s y (by simp [hy]))
  refine ⟨q, hq, fun e3 => ?_, e2⟩
  subst e3
  rw [nth_getElem _ q hj] at hx
  have : y = nth b k := e2.symm.trans hx
  subst this
  exact nd.1 (List.mem_map.2 ⟨_, hy, rfl⟩)
theorem CrI.stop {t : Int} {g : Led} {n most : Int} {b : List Off} {k : Nat} {d : Deal} (h : CrI t g n most b k d) (hk : k < b.length) (ht : ¬ (nth b k).seller = t) {j : Nat} (ha : AtO d (nth b k).id j) {d' : Deal} (hu : useF d j = (d', false)) :
    crossL t b ⟨g, n, most⟩ = d' ∧ 0 ≤ d'.want ∧ d'.want ≤ n ∧ 0 ≤ d'.left ∧ d'.left ≤ most := by
  obtain ⟨_, e, r, w0, w1, l0, l1, s, nd⟩ := h
  obtain ⟨g', hus⟩ := use_spec r ha.lt w0 l0
  rw [hu] at hus
  have b1 := hus.n0
  have b2 := hus.nw
  have b3 := hus.c0
  have b4 := hus.cl
  have b5 := hus.want
  have b6 := hus.left
  dsimp only at b5 b6
  rw [drop_nth b k hk, cross_one, if_neg ht, ha.idx, Int.toNat_natCast, hu] at e
  exact ⟨e.symm, by omega, by omega, by omega, by omega⟩
theorem CrI.fin {t : Int} {g : Led} {n most : Int} {b : List Off} {d : Deal} (h : CrI t g n most b b.length d) : crossL t b ⟨g, n, most⟩ = d := by
  have := h.eq
  rw [List.drop_length] at this
  exact this.symm
theorem CrI.start {t : Int} {g : Led} {n most : Int} (hr : RightO g) (u : ByteArray) (i : Int) (v : ByteArray) (j : Int) (n0 : 0 ≤ n) (m0 : 0 ≤ most) : CrI t g n most (bookO g u i v j) 0 ⟨g, n, most⟩ := by
  obtain ⟨_, _, hm, _⟩ := book_srt hr u i v j
  exact ⟨Nat.zero_le _, rfl, hr, n0, Int.le_refl _, m0, Int.le_refl _, fun x hx => ((hm x).1 hx).1, book_nodup hr u i v j⟩
set_option maxHeartbeats 8000000 in
theorem cross_pm (g : Led) (t : Int) (u : ByteArray) (i : Int) (v : ByteArray) (j n most : Int) (hl : g.lins.length ≤ 1000) (ha : g.accs.length ≤ 1000) (ho : g.offs.length ≤ 12) :
    FnM Tryz.prog 79 [] [aG g, vI t, aT u i, aT v j, vI n, vI most] (.tup [aG (crossF g t u i v j n most).1, vI (crossF g t u i v j n most).2.1, vI (crossF g t u i v j n most).2.2.1, vI (crossF g t u i v j n most).2.2.2]) [] := by
  refine FnM.of htb Tryz.func79 rfl rfl rfl rfl rfl fun cx hN h0 => ?_
  by_cases hc : chkO g = 0
  case neg =>
    have hd : (chkO g != 0) = true := by simp [hc]
    have e : crossF g t u i v j n most = (led0, 0, 0, chkO g) := if_pos hc
    rw [e]
    (repeat' (first | (refine nx ?_) | (refine WD_unk (by exact rfl) ?_; ((refine WD_tf (by exact rfl) (by exact rfl) ?_ ?_) <;> (intro hb; (fail_if_success (with_reducible injection hb)); rw [hb]; (try simp only [List.length_map] at hb)))) | (refine WD_call (by exact rfl) ?_; first | (refine WD_c0 (chkO_pm _ ?_ ?_ ?_) ?_; (exact hyp); (exact hyp); (exact hyp))) | ((with_reducible apply WD_id); first | (refine WD_cut htb ?_) | (refine WD_cut3 htb ?_) | (refine WD_lens htb ?_) | (refine WD_caps htb ?_) | (refine WD_cps htb ?_) | (refine WD_cpp htb ?_) | (refine WD_api htb ?_) | (refine WD_apz htb ?_) | (refine WD_clr htb ?_)) | ((refine WD_tf (by exact rfl) (by exact rfl) ?_ ?_) <;> (intro hb; (fail_if_success (with_reducible injection hb)); rw [hb]; (try simp only [List.length_map] at hb))) | (((with_reducible apply gC2); exact rfl) <;> (intro hb; rw [hb]))))
    (exact glV [(12, .ptr 12 0), (13, vI 0), (14, vI 0), (15, vI (chkO g))] [(12, .box 28 (cellsOf (aG led0)))] (LeV []))
  have hd : (chkO g != 0) = false := by simp [hc]
  have hr := chkO_zero.1 hc
  (repeat' (first | ((with_reducible apply WD_id); first | (refine WD_eq (eqT_step rfl rfl rfl) ?_)) | (refine nx ?_) | (refine WD_unk (by exact rfl) ?_; ((refine WD_tf (by exact rfl) (by exact rfl) ?_ ?_) <;> (intro hb; (fail_if_success (with_reducible injection hb)); rw [hb]; (try simp only [List.length_map] at hb)))) | (refine WD_call (by exact rfl) ?_; first | (refine WD_c0 (chkO_pm _ ?_ ?_ ?_) ?_; (exact hyp); (exact hyp); (exact hyp)) | (refine WD_c0 (asset_pm _ _) ?_) | (refine WD_c0 (okA_pm _) ?_) | (refine WD_cM (copiedO_pm _ ?_ ?_ ?_) ?_; (exact hyp); (exact hyp); (exact hyp)) | (refine WD_c0 (book_pm _ _ _ _ _ ?_ ?_ ?_ ?_) ?_; (exact hyp); (exact hyp); (exact hyp); (exact hyp))) | ((with_reducible apply WD_id); first | (refine WD_cut htb ?_) | (refine WD_cut3 htb ?_) | (refine WD_lens htb ?_) | (refine WD_caps htb ?_) | (refine WD_cps htb ?_) | (refine WD_cpp htb ?_) | (refine WD_api htb ?_) | (refine WD_apz htb ?_) | (refine WD_clr htb ?_)) | ((refine WD_tf (by exact rfl) (by exact rfl) ?_ ?_) <;> (intro hb; (fail_if_success (with_reducible injection hb)); rw [hb]; (try simp only [List.length_map] at hb))) | (((with_reducible apply gC2); exact rfl) <;> (intro hb; rw [hb]))))
  all_goals try simp only [Bool.not_eq_true', Bool.not_eq_false', decide_eq_true_eq, decide_eq_false_iff_not, bne_iff_ne, bne_eq_false_iff_eq, beq_iff_eq, beq_eq_false_iff_ne] at *
  all_goals try (first
    | (have e : crossF g t u i v j n most = (led0, 0, 0, 71) := by (simp [crossF, *]; done)
       rw [e]
       (exact glV [(12, .ptr 12 0), (13, vI 0), (14, vI 0), (15, vI 71)] [(12, .box 28 (cellsOf (aG led0)))] (LeV [])))
    | (have e : crossF g t u i v j n most = (led0, 0, 0, 65) := by (simp [crossF, *]; done)
       rw [e]
       (exact glV [(12, .ptr 12 0), (13, vI 0), (14, vI 0), (15, vI 65)] [(12, .box 28 (cellsOf (aG led0)))] (LeV []))))
  have q1 : okA n = true := by assumption
  have q2 : okA most = true := by assumption
  have e : crossF g t u i v j n most = ((crossL t (bookO g u i v j) ⟨g, n, most⟩).g, n - (crossL t (bookO g u i v j) ⟨g, n, most⟩).want, most - (crossL t (bookO g u i v j) ⟨g, n, most⟩).left, 0) := by
    simp [crossF, crossD, *]
  rw [e]
  clear e
  have n2 := okA_iff.1 q1
  have m2 := okA_iff.1 q2
  have hst := CrI.start (t := t) hr u i v j n2.1 m2.1
  have hbl : (bookO g u i v j).length ≤ 12 := by
    have h1 := (book_srt hr u i v j).2.2.2
    have h2 := List.length_filter_le (pairO u i v j) g.offs
    omega
  generalize bookO g u i v j = b at *
  (refine WA_anyV (α := Nat × Deal) (fun x => b.length - x.1) ((0, ⟨g, n, most⟩)) [63, 56, 53] [57, 52, 50, 51] (fun x => [(63, vI x.1)]) (fun x => [(57, .box 132 (dealC x.2 52)), (52, .arr 76 9 (x.2.g.offs.map rO))]) (fun x => CrI t g n most b x.1 x.2) ?h0 ?_)
  case h0 => exact hst
  rintro ⟨k, d⟩ hI
  dsimp only at hI
  by_cases hk : k < b.length
  · have d1 : decide ((k : Int) < (b.length : Int)) = true := by simp only [decide_eq_true_eq]; omega
    by_cases ht : (nth b k).seller = t
    · have t1 : ((nth b k).seller != t) = false := by simp [ht]
      (repeat' (first | (refine nx ?_) | (refine WD_unk (by exact rfl) ?_; ((refine WD_tf (by exact rfl) (by exact rfl) ?_ ?_) <;> (intro hb; (fail_if_success (with_reducible injection hb)); rw [hb]; (try simp only [List.length_map] at hb)))) | ((with_reducible apply WD_id); first | (refine WD_cut htb ?_) | (refine WD_cut3 htb ?_) | (refine WD_lens htb ?_) | (refine WD_caps htb ?_) | (refine WD_cps htb ?_) | (refine WD_cpp htb ?_) | (refine WD_api htb ?_) | (refine WD_apz htb ?_) | (refine WD_clr htb ?_)) | ((refine WD_tf (by exact rfl) (by exact rfl) ?_ ?_) <;> (intro hb; (fail_if_success (with_reducible injection hb)); rw [hb]; (try simp only [List.length_map] at hb))) | (((with_reducible apply gC2); exact rfl) <;> (intro hb; rw [hb]))))
      refine ⟨(k + 1, d), by dsimp only; omega, hI.skip hk ht, ?_⟩
      (exact LeV [])
    · have t1 : ((nth b k).seller != t) = true := by simp [ht]
      obtain ⟨j', ha', hx'⟩ := hI.at hk n2.2 m2.2
      rcases use_cases ha' with ⟨e1, e2, e3⟩ | ⟨e1, e2, e3⟩ | ⟨n', c', y', z', hp, ⟨e2, e3⟩ | ⟨e2, e3⟩⟩
      · obtain ⟨s1, s2, s3, s4, s5⟩ := hI.stop hk ht ha' e3
        rw [s1]
        (repeat' (first | (refine nx ?_) | (refine WD_unk (by exact rfl) ?_; ((refine WD_tf (by exact rfl) (by exact rfl) ?_ ?_) <;> (intro hb; (fail_if_success (with_reducible injection hb)); rw [hb]; (try simp only [List.length_map] at hb)))) | (refine WD_call (by exact rfl) ?_; first | (refine WD_cM (useA_pm (j := j') _ _ ?_ ?_ ?_) ?_; (exact hyp); (exact hyp); (exact hyp))) | ((with_reducible apply WD_id); first | (refine WD_cut htb ?_) | (refine WD_cut3 htb ?_) | (refine WD_lens htb ?_) | (refine WD_caps htb ?_) | (refine WD_cps htb ?_) | (refine WD_cpp htb ?_) | (refine WD_api htb ?_) | (refine WD_apz htb ?_) | (refine WD_clr htb ?_)) | ((refine WD_tf (by exact rfl) (by exact rfl) ?_ ?_) <;> (intro hb; (fail_if_success (with_reducible injection hb)); rw [hb]; (try simp only [List.length_map] at hb))) | (((with_reducible apply gC2); exact rfl) <;> (intro hb; rw [hb]))))
        (exact glV [(12, .ptr 12 0), (13, vI (n - d.want)), (14, vI (most - d.left)), (15, vI 0)] [(12, .box 28 (cellsOf (aG d.g)))] (LeV []))
      · (repeat' (first | (refine nx ?_) | (refine WD_unk (by exact rfl) ?_; ((refine WD_tf (by exact rfl) (by exact rfl) ?_ ?_) <;> (intro hb; (fail_if_success (with_reducible injection hb)); rw [hb]; (try simp only [List.length_map] at hb)))) | (refine WD_call (by exact rfl) ?_; first | (refine WD_cM (useC_pm (j := j') _ _ ?_ ?_ ?_) ?_; (exact hyp); (exact hyp); (exact hyp))) | ((with_reducible apply WD_id); first | (refine WD_cut htb ?_) | (refine WD_cut3 htb ?_) | (refine WD_lens htb ?_) | (refine WD_caps htb ?_) | (refine WD_cps htb ?_) | (refine WD_cpp htb ?_) | (refine WD_api htb ?_) | (refine WD_apz htb ?_) | (refine WD_clr htb ?_)) | ((refine WD_tf (by exact rfl) (by exact rfl) ?_ ?_) <;> (intro hb; (fail_if_success (with_reducible injection hb)); rw [hb]; (try simp only [List.length_map] at hb))) | (((with_reducible apply gC2); exact rfl) <;> (intro hb; rw [hb]))))
        refine ⟨(k + 1, _), by dsimp only; omega, hI.next hk ht ha' hx' e3, ?_⟩
        (exact LeV [(52, 61)])
      · obtain ⟨s1, s2, s3, s4, s5⟩ := hI.stop hk ht ha' e3
        rw [s1]
        (repeat' (first | (refine nx ?_) | (refine WD_unk (by exact rfl) ?_; ((refine WD_tf (by exact rfl) (by exact rfl) ?_ ?_) <;> (intro hb; (fail_if_success (with_reducible injection hb)); rw [hb]; (try simp only [List.length_map] at hb)))) | (refine WD_call (by exact rfl) ?_; first | (refine WD_cM (useB_pm (d := d) (j := j') (n := n') (c := c') (y := y') (z := z') _ ?_ ?_) ?_; (exact hyp); (exact hyp))) | ((with_reducible apply WD_id); first | (refine WD_cut htb ?_) | (refine WD_cut3 htb ?_) | (refine WD_lens htb ?_) | (refine WD_caps htb ?_) | (refine WD_cps htb ?_) | (refine WD_cpp htb ?_) | (refine WD_api htb ?_) | (refine WD_apz htb ?_) | (refine WD_clr htb ?_)) | ((refine WD_tf (by exact rfl) (by exact rfl) ?_ ?_) <;> (intro hb; (fail_if_success (with_reducible injection hb)); rw [hb]; (try simp only [List.length_map] at hb))) | (((with_reducible apply gC2); exact rfl) <;> (intro hb; rw [hb]))))
        (exact glV [(12, .ptr 12 0), (13, vI (n - (paidD d z' j' n' c').want)), (14, vI (most - (paidD d z' j' n' c').left)), (15, vI 0)] [(12, .box 28 (cellsOf (aG (paidD d z' j' n' c').g)))] (LeV []))
      · (repeat' (first | (refine nx ?_) | (refine WD_unk (by exact rfl) ?_; ((refine WD_tf (by exact rfl) (by exact rfl) ?_ ?_) <;> (intro hb; (fail_if_success (with_reducible injection hb)); rw [hb]; (try simp only [List.length_map] at hb)))) | (refine WD_call (by exact rfl) ?_; first | (refine WD_cM (useD_pm (d := d) (j := j') (n := n') (c := c') (y := y') (z := z') _ ?_ ?_) ?_; (exact hyp); (exact hyp))) | ((with_reducible apply WD_id); first | (refine WD_cut htb ?_) | (refine WD_cut3 htb ?_) | (refine WD_lens htb ?_) | (refine WD_caps htb ?_) | (refine WD_cps htb ?_) | (refine WD_cpp htb ?_) | (refine WD_api htb ?_) | (refine WD_apz htb ?_) | (refine WD_clr htb ?_)) | ((refine WD_tf (by exact rfl) (by exact rfl) ?_ ?_) <;> (intro hb; (fail_if_success (with_reducible injection hb)); rw [hb]; (try simp only [List.length_map] at hb))) | (((with_reducible apply gC2); exact rfl) <;> (intro hb; rw [hb]))))
        refine ⟨(k + 1, _), by dsimp only; omega, hI.next hk ht ha' hx' e3, ?_⟩
        (exact LeV [(52, 61)])
  · have d1 : decide ((k : Int) < (b.length : Int)) = false := by simp only [decide_eq_false_iff_not]; omega
    have hkl := hI.kl
    obtain rfl : k = b.length := by omega
    have s1 := hI.fin
    have s2 := hI.w0
    have s3 := hI.w1
    have s4 := hI.l0
    have s5 := hI.l1
    rw [s1]
    (repeat' (first | (refine nx ?_) | (refine WD_unk (by exact rfl) ?_; ((refine WD_tf (by exact rfl) (by exact rfl) ?_ ?_) <;> (intro hb; (fail_if_success (with_reducible injection hb)); rw [hb]; (try simp only [List.length_map] at hb)))) | ((with_reducible apply WD_id); first | (refine WD_cut htb ?_) | (refine WD_cut3 htb ?_) | (refine WD_lens htb ?_) | (refine WD_caps htb ?_) | (refine WD_cps htb ?_) | (refine WD_cpp htb ?_) | (refine WD_api htb ?_) | (refine WD_apz htb ?_) | (refine WD_clr htb ?_)) | ((refine WD_tf (by exact rfl) (by exact rfl) ?_ ?_) <;> (intro hb; (fail_if_success (with_reducible injection hb)); rw [hb]; (try simp only [List.length_map] at hb))) | (((with_reducible apply gC2); exact rfl) <;> (intro hb; rw [hb]))))
    (exact glV [(12, .ptr 12 0), (13, vI (n - d.want)), (14, vI (most - d.left)), (15, vI 0)] [(12, .box 28 (cellsOf (aG d.g)))] (LeV []))
end Go.Proofs.YtgebgpdoddjfhaaGreat
