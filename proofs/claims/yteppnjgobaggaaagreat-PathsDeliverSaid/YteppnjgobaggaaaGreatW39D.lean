/- Plain law of PathsDeliver, as the walk uses it. No program stands here. -/
import Derived.Test.YteppnjgobaggaaaGreatWPx
import Derived.Test.YteppnjgobaggaaaGreatWG
import Derived.Test.YteppnjgobaggaaaGreatPM
import Derived.Test.YteppnjgobaggaaaGreatPlainP
import Derived.Test.YteppnjgobaggaaaGreatAmY
namespace Go.Proofs.YteppnjgobaggaaaGreat
set_option linter.unusedSimpArgs false
set_option linter.unusedVariables false
set_option linter.unnecessarySimpa false
set_option linter.unusedSectionVars false
set_option maxRecDepth 100000
open Go Go.RowKit Go.Am Go.Proofs.Grow

/-- What a purchase leaves as it is, for who sells nothing. -/
structure Kept (g g' : Led) : Prop where
  look : ∀ b, (∀ y ∈ g.offs, ¬ y.seller = b) → ∀ w z, lookF g' b w z = lookF g b w z
  sel : ∀ y ∈ g'.offs, ∃ y' ∈ g.offs, y'.seller = y.seller
theorem Kept.refl (g : Led) : Kept g g := ⟨fun _ _ _ _ => rfl, fun y hy => ⟨y, hy, rfl⟩⟩
theorem Kept.trans {g h k : Led} (a : Kept g h) (b : Kept h k) : Kept g k := by
  refine ⟨fun c hc w z => ?_, fun y hy => ?_⟩
  · rw [b.look c (fun y hy e => ?_) w z, a.look c hc w z]
    obtain ⟨y', h1, h2⟩ := a.sel y hy
    exact hc y' h1 (h2.trans e)
  · obtain ⟨y', h1, h2⟩ := b.sel y hy
    obtain ⟨y2, h3, h4⟩ := a.sel y' h1
    exact ⟨y2, h3, h4.trans h2⟩
theorem kept_all {g : Led} (h : RightO g) {u : ByteArray} {i : Int} {v : ByteArray} {j : Int} {n most t : Int} (n0 : 0 ≤ n) (m0 : 0 ≤ most) : Kept g (crossD g t u i v j n most).g := by
  obtain ⟨_, _, hm, _⟩ := book_srt h u i v j
  refine (cross_ind (t := t) (fun x => x ∈ g.offs) (fun d => Kept g d.g) ?_ _ ⟨g, n, most⟩ h n0 m0 (fun x hx => ((hm x).1 hx).1) (fun x hx => ((hm x).1 hx).1) (book_nodup h u i v j) (Kept.refl g)).1
  intro d x p k c g' d' more hr hp hx hq ht w0 l0 hP hu
  have hs := hu.sold
  have hxm : x ∈ d.g.offs := hx ▸ nth_mem _ p hp
  refine ⟨fun b hb w z => ?_, fun y hy => ?_⟩
  · have e : lookF d'.g b w z = lookF g' b w z := by rw [hu.led]; rfl
    have hne : ¬ b = x.seller := fun e => hb x hq e.symm
    rw [e, hs.other b w z (fun q => hne q.1) (fun q => hne q.1), hP.look b hb w z]
  · cases more with
    | true =>
      rw [(hu.gone rfl).1] at hy
      exact hP.sel y (List.mem_of_mem_eraseIdx hy)
    | false =>
      rw [(hu.stop rfl).1] at hy
      rcases List.mem_or_eq_of_mem_set hy with q | q
      · exact hP.sel y q
      · obtain ⟨y', h1, h2⟩ := hP.sel x hxm
        exact ⟨y', h1, by rw [q]; exact h2⟩
/-- What a chain of purchases does. -/
structure Conv (g x : Led) (u : ByteArray) (i n : Int) (v : ByteArray) (j p : Int) : Prop where
  right : RightO x
  p0 : 0 ≤ p
  p1 : p ≤ 1000000000000
  find : ∀ b, (findA x.accs b).2 = (findA g.accs b).2
  la : x.accs.length = g.accs.length
  ll : x.lins.length = g.lins.length
  lo : x.offs.length ≤ g.offs.length
  tot : tot x.accs = tot g.accs - (if nativeB u i = true then n else 0) + (if nativeB v j = true then p else 0)
  kept : Kept g x
theorem conv_spec {t : Int} {c : List TA} (hc : ∀ a ∈ c, assetB a.1 a.2 = true) : ∀ (k : Nat) {g : Led} {n : Int}, k < c.length → RightO g → 0 ≤ n → n ≤ 1000000000000 →
    (convN t c k g n).2.2 = 73 ∨ ((convN t c k g n).2.2 = 0 ∧ Conv g (convN t c k g n).1 (nth c k).1 (nth c k).2 n (nth c 0).1 (nth c 0).2 (convN t c k g n).2.1) := by
  intro k
  induction k with
  | zero =>
    intro g n hk hr n0 n1
    have e : convN t c 0 g n = (g, n, 0) := rfl
    rw [e]
    refine .inr ⟨rfl, hr, n0, n1, fun _ => rfl, rfl, rfl, Nat.le_refl _, ?_, Kept.refl _⟩
    dsimp only
    split <;> omega
  | succ k ih =>
    intro g n hk hr n0 n1
    have hu := hc _ (nth_mem c (k + 1) hk)
    have hv := hc _ (nth_mem c k (by omega))
    unfold convN
    cases he : eqT (nth c (k + 1)).1 (nth c (k + 1)).2 (nth c k).1 (nth c k).2 with
    | true =>
      rw [if_pos rfl]
      obtain ⟨e1, e2⟩ := eqT_iff.1 he
      rw [e1, e2]
      exact ih (by omega) hr n0 n1
    | false =>
      rw [if_neg (by simp)]
      obtain ⟨hM, hR, w0, w1, q0, q1⟩ := moved_all hr (u := (nth c (k + 1)).1) (i := (nth c (k + 1)).2) (v := (nth c k).1) (j := (nth c k).2) (n := n) (most := 1000000000000) (t := t) n0 (by decide)
      have hK := kept_all hr (u := (nth c (k + 1)).1) (i := (nth c (k + 1)).2) (v := (nth c k).1) (j := (nth c k).2) (n := n) (most := 1000000000000) (t := t) n0 (by decide)
      have e : crossF g t (nth c (k + 1)).1 (nth c (k + 1)).2 (nth c k).1 (nth c k).2 n 1000000000000 = ((crossD g t (nth c (k + 1)).1 (nth c (k + 1)).2 (nth c k).1 (nth c k).2 n 1000000000000).g, n - (crossD g t (nth c (k + 1)).1 (nth c (k + 1)).2 (nth c k).1 (nth c k).2 n 1000000000000).want, 1000000000000 - (crossD g t (nth c (k + 1)).1 (nth c (k + 1)).2 (nth c k).1 (nth c k).2 n 1000000000000).left, 0) := by
        unfold crossF
        rw [if_neg (by simp [chkO_zero.2 hr]), if_neg (by simp [hu, hv, he]), if_neg (by simp [okA_iff.2 (⟨n0, n1⟩ : 0 ≤ n ∧ n ≤ 1000000000000), okA_iff.2 (⟨by decide, by decide⟩ : (0 : Int) ≤ 1000000000000 ∧ (1000000000000 : Int) ≤ 1000000000000)])]
      rw [e]
      generalize crossD g t (nth c (k + 1)).1 (nth c (k + 1)).2 (nth c k).1 (nth c k).2 n 1000000000000 = d at *
      dsimp only
      rw [if_neg (by simp)]
      by_cases hb : n - d.want < n
      · rw [if_pos hb]; exact .inl rfl
      · rw [if_neg hb]
        have hw : d.want = 0 := by omega
        rcases ih (g := d.g) (n := 1000000000000 - d.left) (by omega) hR (by omega) (by omega) with h | ⟨h, hC⟩
        · exact .inl h
        · refine .inr ⟨h, hC.right, hC.p0, hC.p1, fun b => (hC.find b).trans (hM.find b), hC.la.trans hM.la, hC.ll.trans hM.ll, Nat.le_trans hC.lo hM.lo, ?_, hK.trans hC.kept⟩
          rw [hC.tot, hM.tot, hw]
          split <;> split <;> split <;> omega
/-- What the walk of PathsDeliver asks. -/
theorem deliver_law {g : Led} (h : chkO g = 0) {a b : Int} {v : ByteArray} {j : Int} {u : ByteArray} {i : Int} {l : List TA} {n most : Int} (hf : (findA g.accs a).2 = true) (hf2 : (findA g.accs b).2 = true) (hv : assetB v j = true) (hu : assetB u i = true) (hl : ∀ x ∈ l, assetB x.1 x.2 = true) (hll : l.length ≤ 4)
    (n0 : 1 ≤ n) (n1 : n ≤ 100) (m0 : 0 ≤ most) (m1 : most ≤ 5000) :
    ∃ (x : Led) (p e c f : Int), sendF g a b v j u i l n most = (x, p, e) ∧ quoteF g a v j u i l n = (c, f) ∧
      ((¬ e = 0 ∧ x = led0 ∧ p = 0 ∧ (¬ f = 0 ∨ a = b ∨ most < c ∨ e = 70 ∨ e = 66 ∨ e = 65)) ∨
       (e = 0 ∧ f = 0 ∧ c = p ∧ p ≤ most ∧ chkO x = 0 ∧ totA x.accs = totA g.accs ∧ x.accs.length = g.accs.length ∧ x.lins.length = g.lins.length ∧ x.offs.length ≤ g.offs.length ∧ (0 ≤ heldF g b u i ∧ heldF g b u i ≤ 1000000000000) ∧
        ((∀ y ∈ g.offs, ¬ y.seller = b) → ¬ i = b → heldF x b u i = heldF g b u i + n))) := by
  have hr := chkO_zero.1 h
  have hk : okA n = true := okA_iff.2 (by omega)
  have hkm : okA most = true := okA_iff.2 (by omega)
  have hvp : validP l = true := by
    unfold validP
    rcases idxF_spec (fun a : TA => !assetB a.1 a.2) l 0 with ⟨h1, _⟩ | ⟨q, q1, q2, q3, _⟩
    · rw [h1]; simp [hll]
    · have := hl _ (nth_mem l q q1)
      simp [this] at q3
  have hi1 : idxF (fun n => !okA n) 0 [n] = -1 := by simp [idxF, hk]
  have hi2 : idxF (fun n => !okA n) 0 [n, most] = -1 := by simp [idxF, hk, hkm]
  have hn1 : nth [n] 0 = n := rfl
  have hn2 : nth [n, most] 0 = n := rfl
  have p1 : plnE g v j u i l [n] = 0 := by
    unfold plnE
    rw [if_neg (by simp [h]), hi1, hn1, if_neg (by omega), if_neg (by simp [hv, hu, hvp])]
  have p2 : plnE g v j u i l [n, most] = 0 := by
    unfold plnE
    rw [if_neg (by simp [h]), hi2, hn2, if_neg (by omega), if_neg (by simp [hv, hu, hvp])]
  have hq : quoteF g a v j u i l n = (convF g a (chainF v j u i l) n).2 := by
    unfold quoteF
    rw [if_neg (by simp [p1]), if_neg (by simp [hf])]
  refine ⟨(sendF g a b v j u i l n most).1, (sendF g a b v j u i l n most).2.1, (sendF g a b v j u i l n most).2.2, (quoteF g a v j u i l n).1, (quoteF g a v j u i l n).2, rfl, rfl, ?_⟩
  rw [hq]
  unfold sendF
  rw [if_neg (by simp [p2])]
  by_cases hab : a = b
  · rw [if_pos (.inr (.inr hab))]
    exact .inl ⟨by decide, rfl, rfl, .inr (.inl hab)⟩
  rw [if_neg (by simp [hf, hf2, hab])]
  have hchain : ∀ x ∈ chainF v j u i l, assetB x.1 x.2 = true := by
    intro x hx
    unfold chainF at hx
    simp only [List.mem_cons, List.mem_append, List.not_mem_nil, or_false] at hx
    rcases hx with rfl | hx | rfl
    · exact hv
    · exact hl x hx
    · exact hu
  have hlen : (chainF v j u i l).length = l.length + 2 := by simp [chainF]
  have hs := conv_spec (t := a) hchain ((chainF v j u i l).length - 1) (g := g) (n := n) (by omega) hr (by omega) (by omega)
  have e0 : nth (chainF v j u i l) 0 = (v, j) := rfl
  have e1 : nth (chainF v j u i l) ((chainF v j u i l).length - 1) = (u, i) := by
    rw [hlen]
    unfold chainF
    rw [show l.length + 2 - 1 = l.length + 1 by omega]
    show nth (l ++ [(u, i)]) l.length = (u, i)
    rw [nth_snoc _ _ _ (by omega), if_neg (by omega)]
  rw [e0, e1] at hs
  have ec : convN a (chainF v j u i l) ((chainF v j u i l).length - 1) g n = convF g a (chainF v j u i l) n := rfl
  rw [ec] at hs
  rcases hC : convF g a (chainF v j u i l) n with ⟨x, p, e⟩
  rw [hC] at hs
  dsimp only at hs ⊢
  rcases hs with rfl | ⟨rfl, hc⟩
  · rw [if_pos (by decide)]
    exact .inl ⟨by decide, rfl, rfl, .inl (by decide)⟩
  rw [if_neg (by simp)]
  by_cases hm : most < p
  · rw [if_pos hm]
    exact .inl ⟨by decide, rfl, rfl, .inr (.inr (.inl hm))⟩
  rw [if_neg hm]
  have hfx : (findA x.accs a).2 = true := by rw [hc.find]; exact hf
  have hfx2 : (findA x.accs b).2 = true := by rw [hc.find]; exact hf2
  have hp0 := hc.p0
  have hkp : okA p = true := okA_iff.2 (by omega)
  have hbd := look_bd hc.right.right hfx hv
  have hbd0 := look_bd hr.right hf2 hu
  unfold moveF
  rw [debit_eq hc.right.right hfx hv hkp]
  by_cases c1 : (lookF x a v j).2.2 = true ∧ p ≤ (lookF x a v j).1
  · rw [if_pos c1]
    dsimp only
    rw [if_neg (show ¬ ¬ (0 : Int) = 0 by simp)]
    have hR := right_add hc.right hfx hv (m := -p) c1.1 (by omega) (by omega)
    obtain ⟨s1, s2, s3, s4, s5, s6, s7, s8, s9, s10, s11, s12, s13, s14, s15, s16, s17, s18⟩ := addL_spec hc.right.right hfx hv (m := -p) c1.1 (by omega) (by omega)
    have hfb : (findA (addL x a v j (-p)).accs b).2 = true := by rw [s10]; exact hfx2
    have hbd2 := look_bd s1 hfb hu
    have lb := s6 b u i (fun q => hab q.1.symm)
    rw [credit_eq s1 hfb hu hk]
    by_cases c2 : (lookF (addL x a v j (-p)) b u i).2.2 = true ∧ n ≤ (lookF (addL x a v j (-p)) b u i).2.1
    · rw [if_pos c2]
      dsimp only
      rw [if_neg (show ¬ ¬ (0 : Int) = 0 by simp), if_neg (show ¬ ¬ (0 : Int) = 0 by simp)]
      have hR3 := right_add hR hfb hu (m := n) c2.1 (by omega) c2.2
      obtain ⟨t1, t2, t3, t4, t5, t6, t7, t8, t9, t10, t11, t12, t13, t14, t15, t16, t17, t18⟩ := addL_spec s1 hfb hu (m := n) c2.1 (by omega) c2.2
      refine .inr ⟨rfl, rfl, rfl, by dsimp only; omega, chkO_zero.2 hR3, ?_, by dsimp only; rw [t13, s13, hc.la], by dsimp only; rw [t14, s14, hc.ll], by dsimp only; rw [t12, s12]; exact hc.lo, ?_, fun hsell hib => ?_⟩
      · dsimp only
        rw [totA_right t1.accs, totA_right hr.right.accs]
        have hT := hc.tot
        cases q1 : nativeB v j with
        | true =>
          cases q2 : nativeB u i with
          | true => rw [(t8 q2).2, (s8 q1).2, hT, q1, q2, if_pos rfl, if_pos rfl]; omega
          | false => rw [(t7 q2).1, (s8 q1).2, hT, q1, q2, if_pos rfl, if_neg Bool.false_ne_true]; omega
        | false =>
          cases q2 : nativeB u i with
          | true => rw [(t8 q2).2, (s7 q1).1, hT, q1, q2, if_pos rfl, if_neg Bool.false_ne_true]; omega
          | false => rw [(t7 q2).1, (s7 q1).1, hT, q1, q2, if_neg Bool.false_ne_true, if_neg Bool.false_ne_true]; omega
      · rw [(held_look hr.right b u i).1]; omega
      · dsimp only
        rw [(held_look t1 b u i).1, (held_look hr.right b u i).1, t4 hib, lb, hc.kept.look b hsell]
    · rw [if_neg c2]
      dsimp only
      rw [if_pos (by cases nativeB u i <;> simp)]
      dsimp only
      rw [if_pos (by cases nativeB u i <;> simp)]
      refine .inl ⟨by cases nativeB u i <;> simp, rfl, rfl, ?_⟩
      cases nativeB u i <;> simp
  · rw [if_neg c1]
    dsimp only
    rw [if_pos (by cases (lookF x a v j).2.2 <;> simp)]
    dsimp only
    rw [if_pos (by cases (lookF x a v j).2.2 <;> simp)]
    refine .inl ⟨by cases (lookF x a v j).2.2 <;> simp, rfl, rfl, ?_⟩
    cases (lookF x a v j).2.2 <;> simp
end Go.Proofs.YteppnjgobaggaaaGreat

/- Contract of the source's path. -/
namespace Go.Proofs.YteppnjgobaggaaaGreat
set_option linter.unusedSimpArgs false
set_option linter.unusedVariables false
set_option linter.unnecessarySimpa false
set_option linter.unusedSectionVars false
set_option maxRecDepth 100000
open Go Go.RowKit Go.Am Go.Proofs.Grow

def pathS (s : Sc) : Nat → List TA × Sc
  | 0 => ([], s)
  | k + 1 => ((pathS s k).1 ++ [((nth assets3 ((pathS s k).2.n 3).toNat).1, (nth assets3 ((pathS s k).2.n 3).toNat).2)], (pathS s k).2.x 3)
def pathF (s : Sc) : List TA × Sc := pathS (s.x 4) (s.n 4).toNat
theorem pathS_ok {s : Sc} (h : s.ok) (k : Nat) : (pathS s k).2.ok := by
  induction k with
  | zero => exact h
  | succ k ih => exact Sc.ok_x ih 3
theorem pathS_len (s : Sc) (k : Nat) : (pathS s k).1.length = k := by
  induction k with
  | zero => rfl
  | succ k ih => simp [pathS, ih]
theorem pathS_all (s : Sc) (k : Nat) : ∀ x ∈ (pathS s k).1, assetB x.1 x.2 = true := by
  induction k with
  | zero => intro x hx; cases hx
  | succ k ih =>
    intro x hx
    simp only [pathS, List.mem_append, List.mem_singleton] at hx
    rcases hx with hx | rfl
    · exact ih x hx
    · have h := (pathS s k).2.n_bd (k := 3) (by decide)
      exact asset3_ok h.1 (by omega)
set_option maxHeartbeats 4000000 in
theorem path_m (s : Sc) (hs : s.ok) : FnM Tryz.prog 49 [s.box] [.ptr 9000 0] (lT (pathF s).1) [(pathF s).2.box] := by
  refine FnM.of htb Tryz.func49 rfl rfl rfl rfl rfl fun cx hN h0 => ?_
  have o1 := Sc.ok_x hs 4
  have b1 := s.n_bd (k := 4) (by decide)
  (repeat' (first | ((with_reducible apply WD_id); first | (refine WD_sum ?_) | (refine WD_nxt htb (by exact rfl) ?_) | (refine WD_unk (by exact rfl) ?_; first | (refine WD_t (by exact rfl) (by exact rfl) (by exact known) fun hb => ?_; rw [hb]; clear hb) | (refine WD_f (by exact rfl) (by exact rfl) (by exact known) fun hb => ?_; rw [hb]; clear hb) | ((refine WD_tf (by exact rfl) (by exact rfl) ?_ ?_) <;> (intro hb; (fail_if_success (with_reducible injection hb)); rw [hb]; (try simp only [List.length_map] at hb)))) | (refine WD_call (by exact rfl) ?_; first | (refine WD_cM (N_m _ _ ?_ ?_) ?_; (exact hypS); (exact hypS))) | (refine WD_idx htb ?_) | (refine WD_idxo htb ?_) | (refine WD_lde1 htb ?_) | (refine WD_lde htb ?_) | (refine WD_ste htb ?_) | (refine WD_ap htb ?_) | (refine WD_ap0 htb ?_) | (refine WD_nil htb ?_) | (refine WD_nilr htb ?_) | (refine WD_rem ?_) | (refine WD_quo ?_) | (refine WD_slc htb ?_) | (refine WD_ixa htb ?_) | (refine WD_ix1 htb ?_) | (refine WD_t (by exact rfl) (by exact rfl) (by exact known) fun hb => ?_; rw [hb]; clear hb) | (refine WD_f (by exact rfl) (by exact rfl) (by exact known) fun hb => ?_; rw [hb]; clear hb) | ((refine WD_tf (by exact rfl) (by exact rfl) ?_ ?_) <;> (intro hb; (fail_if_success (with_reducible injection hb)); rw [hb]; (try simp only [List.length_map] at hb)))) | (with_reducible apply WA_seq) | ((with_reducible apply gR hmix hN); exact (by kernel_rfl); (try dsimp only [List.append_eq, List.cons_append, List.nil_append])) | ((with_reducible apply WD_end); (first | exact no_draw | (intro _; kernel_rfl)); try simp only [thn, inB, List.length_map, List.cons_append, List.nil_append]) | ((with_reducible apply gCt); exact rfl; exact rfl) | ((with_reducible apply gCf); exact rfl; exact rfl) | ((with_reducible apply gCk); exact rfl; exact known; intro hb; rw [hb]; clear hb) | ((with_reducible apply gCn); exact rfl; exact known; intro hb; rw [hb]; clear hb) | (((with_reducible apply gC2); exact rfl) <;> (intro hb; rw [hb])) | (with_reducible apply WA_block) | ((with_reducible first | apply WA_skip | apply WA_ret | apply WA_exit | apply WA_label); try simp only [thn, inB, List.length_map, List.cons_append, List.nil_append])))
  refine WA_le (Le_nilT 60 3 37 2 rfl rfl) ?_
  (refine WA_forV ((s.n 4).toNat) [3, 4] [9000, 60] (fun k => [(4, vI (s.n 4 - (k : Int))), (3, .own 60)]) (fun k => [Sc.box (pathS (s.x 4) k).2, (60, .arr 37 2 ((pathS (s.x 4) k).1.map rT))]) (fun k => True) ?h0 ?_)
  case h0 => trivial
  intro k hk _
  have ok := pathS_ok o1 k
  have okl := pathS_len (s.x 4) k
  by_cases hk2 : k < (s.n 4).toNat
  · have d1 : decide (s.n 4 - (k : Int) > 0) = true := by simp only [decide_eq_true_eq]; omega
    (repeat' (first | ((with_reducible apply WD_id); first | (refine WD_sum ?_) | (refine WD_nxt htb (by exact rfl) ?_) | (refine WD_unk (by exact rfl) ?_; first | (refine WD_t (by exact rfl) (by exact rfl) (by exact known) fun hb => ?_; rw [hb]; clear hb) | (refine WD_f (by exact rfl) (by exact rfl) (by exact known) fun hb => ?_; rw [hb]; clear hb) | ((refine WD_tf (by exact rfl) (by exact rfl) ?_ ?_) <;> (intro hb; (fail_if_success (with_reducible injection hb)); rw [hb]; (try simp only [List.length_map] at hb)))) | (refine WD_call (by exact rfl) ?_; first | (refine WD_cM (asset_m _ ?_) ?_; (exact hypS))) | (refine WD_idx htb ?_) | (refine WD_idxo htb ?_) | (refine WD_lde1 htb ?_) | (refine WD_lde htb ?_) | (refine WD_ste htb ?_) | (refine WD_ap htb ?_) | (refine WD_ap0 htb ?_) | (refine WD_nil htb ?_) | (refine WD_nilr htb ?_) | (refine WD_rem ?_) | (refine WD_quo ?_) | (refine WD_slc htb ?_) | (refine WD_ixa htb ?_) | (refine WD_ix1 htb ?_) | (refine WD_t (by exact rfl) (by exact rfl) (by exact known) fun hb => ?_; rw [hb]; clear hb) | (refine WD_f (by exact rfl) (by exact rfl) (by exact known) fun hb => ?_; rw [hb]; clear hb) | ((refine WD_tf (by exact rfl) (by exact rfl) ?_ ?_) <;> (intro hb; (fail_if_success (with_reducible injection hb)); rw [hb]; (try simp only [List.length_map] at hb)))) | (with_reducible apply WA_seq) | ((with_reducible apply gR hmix hN); exact (by kernel_rfl); (try dsimp only [List.append_eq, List.cons_append, List.nil_append])) | ((with_reducible apply WD_end); (first | exact no_draw | (intro _; kernel_rfl)); try simp only [thn, inB, List.length_map, List.cons_append, List.nil_append]) | ((with_reducible apply gCt); exact rfl; exact rfl) | ((with_reducible apply gCf); exact rfl; exact rfl) | ((with_reducible apply gCk); exact rfl; exact known; intro hb; rw [hb]; clear hb) | ((with_reducible apply gCn); exact rfl; exact known; intro hb; rw [hb]; clear hb) | (((with_reducible apply gC2); exact rfl) <;> (intro hb; rw [hb])) | (with_reducible apply WA_block) | ((with_reducible first | apply WA_skip | apply WA_ret | apply WA_exit | apply WA_label); try simp only [thn, inB, List.length_map, List.cons_append, List.nil_append])))
    refine ⟨hk2, trivial, ?_⟩
    have e : s.n 4 - (k : Int) - 1 = s.n 4 - ((k + 1 : Nat) : Int) := by omega
    have hrow : (pathS (s.x 4) k).1.map rT ++ [rT ((nth assets3 ((pathS (s.x 4) k).2.n 3).toNat).1, (nth assets3 ((pathS (s.x 4) k).2.n 3).toNat).2)] = (pathS (s.x 4) (k + 1)).1.map rT := by simp [pathS]
    rw [e]
    (exact LeV [(60, 15)])
  · have d1 : decide (s.n 4 - (k : Int) > 0) = false := by simp only [decide_eq_false_iff_not]; omega
    obtain rfl : k = (s.n 4).toNat := by omega
    (repeat' (first | ((with_reducible apply WD_id); first | (refine WD_sum ?_) | (refine WD_nxt htb (by exact rfl) ?_) | (refine WD_unk (by exact rfl) ?_; first | (refine WD_t (by exact rfl) (by exact rfl) (by exact known) fun hb => ?_; rw [hb]; clear hb) | (refine WD_f (by exact rfl) (by exact rfl) (by exact known) fun hb => ?_; rw [hb]; clear hb) | ((refine WD_tf (by exact rfl) (by exact rfl) ?_ ?_) <;> (intro hb; (fail_if_success (with_reducible injection hb)); rw [hb]; (try simp only [List.length_map] at hb)))) | (refine WD_idx htb ?_) | (refine WD_idxo htb ?_) | (refine WD_lde1 htb ?_) | (refine WD_lde htb ?_) | (refine WD_ste htb ?_) | (refine WD_ap htb ?_) | (refine WD_ap0 htb ?_) | (refine WD_nil htb ?_) | (refine WD_nilr htb ?_) | (refine WD_rem ?_) | (refine WD_quo ?_) | (refine WD_slc htb ?_) | (refine WD_ixa htb ?_) | (refine WD_ix1 htb ?_) | (refine WD_t (by exact rfl) (by exact rfl) (by exact known) fun hb => ?_; rw [hb]; clear hb) | (refine WD_f (by exact rfl) (by exact rfl) (by exact known) fun hb => ?_; rw [hb]; clear hb) | ((refine WD_tf (by exact rfl) (by exact rfl) ?_ ?_) <;> (intro hb; (fail_if_success (with_reducible injection hb)); rw [hb]; (try simp only [List.length_map] at hb)))) | (with_reducible apply WA_seq) | ((with_reducible apply gR hmix hN); exact (by kernel_rfl); (try dsimp only [List.append_eq, List.cons_append, List.nil_append])) | ((with_reducible apply WD_end); (first | exact no_draw | (intro _; kernel_rfl)); try simp only [thn, inB, List.length_map, List.cons_append, List.nil_append]) | ((with_reducible apply gCt); exact rfl; exact rfl) | ((with_reducible apply gCf); exact rfl; exact rfl) | ((with_reducible apply gCk); exact rfl; exact known; intro hb; rw [hb]; clear hb) | ((with_reducible apply gCn); exact rfl; exact known; intro hb; rw [hb]; clear hb) | (((with_reducible apply gC2); exact rfl) <;> (intro hb; rw [hb])) | (with_reducible apply WA_block) | ((with_reducible first | apply WA_skip | apply WA_ret | apply WA_exit | apply WA_label); try simp only [thn, inB, List.length_map, List.cons_append, List.nil_append])))
    (exact glV [(2, lT (pathF s).1)] [Sc.box (pathF s).2] (LeV []))
end Go.Proofs.YteppnjgobaggaaaGreat

/- PathsDeliver: the walk. -/
namespace Go.Proofs.YteppnjgobaggaaaGreat
set_option linter.unusedSimpArgs false
set_option linter.unusedVariables false
set_option linter.unnecessarySimpa false
set_option linter.unusedSectionVars false
set_option maxRecDepth 100000
open Go Go.RowKit Go.Am Go.Proofs.Grow

theorem ledq_e (s : Sc) (t : Led × Sc) (hs : s.ok) (he : ledF s = t) : FnM Tryz.prog 16 [s.box] [.ptr 9000 0] (aG t.1) [t.2.box] := he ▸ led_m s hs
theorem pathq_e (s : Sc) (t : List TA × Sc) (hs : s.ok) (he : pathF s = t) : FnM Tryz.prog 49 [s.box] [.ptr 9000 0] (lT t.1) [t.2.box] := he ▸ path_m s hs
theorem asset3_bz (s : Sc) : assetB (nth assets3 (s.n 3).toNat).1 (nth assets3 (s.n 3).toNat).2 = true := by
  have h := s.n_bd (k := 3) (by decide)
  exact asset3_ok h.1 (by omega)
def mostD : List Int := [3, 60, 5000]
theorem mostD_bd (s : Sc) : 0 ≤ nth mostD (s.n (mostD.length : Int)).toNat ∧ nth mostD (s.n (mostD.length : Int)).toNat ≤ 5000 := by
  show 0 ≤ nth mostD (s.n 3).toNat ∧ nth mostD (s.n 3).toNat ≤ 5000
  have := s.n_bd (k := 3) (by decide)
  rcases (by omega : s.n 3 = 0 ∨ s.n 3 = 1 ∨ s.n 3 = 2) with e | e | e <;> rw [e] <;> decide
def selB (b : Int) (l : List Off) : Bool := l.foldl (fun s o => s || o.seller == b) false
theorem selB_take {b : Int} {l : List Off} {q : Nat} (hq : q < l.length) : selB b (l.take (q + 1)) = (selB b (l.take q) || (nth l q).seller == b) := by
  unfold selB
  rw [List.take_succ_eq_append_getElem hq, List.foldl_append, ← nth_getElem l q hq]; rfl
theorem selB_false {b : Int} {l : List Off} (h : selB b l = false) : ∀ y ∈ l, ¬ y.seller = b := by
  have key : ∀ (l : List Off) (s : Bool), l.foldl (fun s o => s || o.seller == b) s = false → s = false ∧ ∀ y ∈ l, ¬ y.seller = b := by
    intro l
    induction l with
    | nil => intro s h; exact ⟨h, fun y hy => by cases hy⟩
    | cons x r ih =>
      intro s h
      rw [List.foldl_cons] at h
      obtain ⟨h1, h2⟩ := ih _ h
      rw [Bool.or_eq_false_iff] at h1
      refine ⟨h1.1, fun y hy => ?_⟩
      rcases List.mem_cons.1 hy with rfl | hy
      · simpa using h1.2
      · exact h2 y hy
  exact (key l false h).2
set_option maxHeartbeats 8000000 in
theorem deliver39_m (l : List Int) (f : Int) (f0 : 0 ≤ f) (f1 : f ≤ 255) : FnM Tryz.prog 10 [] [lI l, .d (.v (.int .u8 f))] (vB true) [] := by
  refine FnM.of htb Tryz.func10 rfl rfl rfl rfl rfl fun cx hN h0 => ?_
  have hs : Sc.ok ⟨l.take 800, 0⟩ := ⟨Nat.zero_le _, by simp; omega⟩
  have hm := ledF_made ⟨l.take 800, 0⟩
  have hall := ledF_all ⟨l.take 800, 0⟩
  have hlen := ledF_lens ⟨l.take 800, 0⟩
  have ho := ledF_ok hs
  generalize ht : ledF ⟨l.take 800, 0⟩ = t at *
  obtain ⟨l1, l2, l3⟩ := hlen
  have m1 := hm.one
  have b1 := t.2.n_bd (k := (t.1.accs.length : Int) - 1 + 1) (by omega)
  have b2 := (t.2.x ((t.1.accs.length : Int) - 1 + 1)).n_bd (k := (t.1.accs.length : Int) - 1 + 1) (by omega)
  have hf := hm.found (i := 1 + t.2.n ((t.1.accs.length : Int) - 1 + 1)) (by omega) (by omega)
  have hf2 := hm.found (i := 1 + (t.2.x ((t.1.accs.length : Int) - 1 + 1)).n ((t.1.accs.length : Int) - 1 + 1)) (by omega) (by omega)
  generalize hsa : 1 + t.2.n ((t.1.accs.length : Int) - 1 + 1) = a at *
  generalize hsb : 1 + (t.2.x ((t.1.accs.length : Int) - 1 + 1)).n ((t.1.accs.length : Int) - 1 + 1) = b at *
  generalize hs2 : (t.2.x ((t.1.accs.length : Int) - 1 + 1)).x ((t.1.accs.length : Int) - 1 + 1) = s2 at *
  have o2 : s2.ok := by rw [← hs2]; exact Sc.ok_x (Sc.ok_x ho _) _
  have o4 : ((s2.x 3).x 3).ok := Sc.ok_x (Sc.ok_x o2 _) _
  have hv := asset3_bz s2
  have hu := asset3_bz (s2.x 3)
  have ok5 : (pathF ((s2.x 3).x 3)).2.ok := pathS_ok (Sc.ok_x o4 4) _
  have hlp := pathS_len (((s2.x 3).x 3).x 4) (((s2.x 3).x 3).n 4).toNat
  have hal := pathS_all (((s2.x 3).x 3).x 4) (((s2.x 3).x 3).n 4).toNat
  have b4 := ((s2.x 3).x 3).n_bd (k := 4) (by decide)
  have hlq : (pathF ((s2.x 3).x 3)).1.length ≤ 4 := by
    show (pathS (((s2.x 3).x 3).x 4) (((s2.x 3).x 3).n 4).toNat).1.length ≤ 4
    omega
  replace hal : ∀ x ∈ (pathF ((s2.x 3).x 3)).1, assetB x.1 x.2 = true := hal
  clear hlp b4 b1 b2
  generalize hq : pathF ((s2.x 3).x 3) = q at *
  have hmo := mostD_bd q.2
  have hn : 0 ≤ (IntKind.i64.wrap f).tmod 100 ∧ (IntKind.i64.wrap f).tmod 100 ≤ 99 := by
    rw [IntWalk.i64_in f (by omega), Int.tmod_eq_emod_of_nonneg f0]; omega
  have p2 : t.1.accs.length ≤ 1000 := by omega
  have p1 : t.1.lins.length ≤ 1000 := by omega
  have p3 : t.1.offs.length ≤ 1000 := by omega
  have p7 : t.1.offs.length ≤ 12 := by omega
  have p8 : q.1.length ≤ 900 := by omega
  obtain ⟨x, p, e, c, g, hX, hQ, hlaw⟩ := deliver_law hall (n := 1 + (IntKind.i64.wrap f).tmod 100) hf hf2 hv hu hal hlq (by omega) (by omega) hmo.1 hmo.2
  (repeat' (first | ((with_reducible apply WD_id); first | (refine WD_sum ?_) | (refine WD_nxt htb (by exact rfl) ?_) | (refine WD_unk (by exact rfl) ?_; first | (refine WD_t (by exact rfl) (by exact rfl) (by exact known) fun hb => ?_; rw [hb]; clear hb) | (refine WD_f (by exact rfl) (by exact rfl) (by exact known) fun hb => ?_; rw [hb]; clear hb)) | (refine WD_call (by exact rfl) ?_; first | (refine WD_cM (new_m _) ?_) | (refine WD_eM (fun h => ledq_e _ _ ?_ h) ?_; (exact hypS)) | (refine WD_cM (Range_m _ _ _ ?_ ?_ ?_ ?_) ?_; (exact hypS); (exact hypS); (exact hypS); (exact hypS))) | (refine WD_idx htb ?_) | (refine WD_idxo htb ?_) | (refine WD_lde1 htb ?_) | (refine WD_lde htb ?_) | (refine WD_ste htb ?_) | (refine WD_ap htb ?_) | (refine WD_ap0 htb ?_) | (refine WD_nil htb ?_) | (refine WD_nilr htb ?_) | (refine WD_rem ?_) | (refine WD_quo ?_) | (refine WD_slc htb ?_) | (refine WD_ixa htb ?_) | (refine WD_ix1 htb ?_) | (refine WD_t (by exact rfl) (by exact rfl) (by exact known) fun hb => ?_; rw [hb]; clear hb) | (refine WD_f (by exact rfl) (by exact rfl) (by exact known) fun hb => ?_; rw [hb]; clear hb)) | (with_reducible apply WA_seq) | ((with_reducible apply gR hmix hN); exact (by kernel_rfl); (try dsimp only [List.append_eq, List.cons_append, List.nil_append])) | ((with_reducible apply WD_end); (first | exact no_draw | (intro _; kernel_rfl)); try simp only [thn, inB, List.length_map, List.cons_append, List.nil_append]) | ((with_reducible apply gCt); exact rfl; exact rfl) | ((with_reducible apply gCf); exact rfl; exact rfl) | ((with_reducible apply gCk); exact rfl; exact known; intro hb; rw [hb]; clear hb) | ((with_reducible apply gCn); exact rfl; exact known; intro hb; rw [hb]; clear hb) | (with_reducible apply WA_block) | ((with_reducible first | apply WA_skip | apply WA_ret | apply WA_exit | apply WA_label); try simp only [thn, inB, List.length_map, List.cons_append, List.nil_append])))
  rw [show (List.map rA t.1.accs).length = t.1.accs.length from List.length_map ..]
  rw [hsa, hsb, hs2]
  (repeat' (first | ((with_reducible apply WD_id); first | (refine WD_sum ?_) | (refine WD_nxt htb (by exact rfl) ?_) | (refine WD_unk (by exact rfl) ?_; first | (refine WD_t (by exact rfl) (by exact rfl) (by exact known) fun hb => ?_; rw [hb]; clear hb) | (refine WD_f (by exact rfl) (by exact rfl) (by exact known) fun hb => ?_; rw [hb]; clear hb)) | (refine WD_call (by exact rfl) ?_; first | (refine WD_cM (asset_m _ ?_) ?_; (exact hypS)) | (refine WD_eM (fun h => pathq_e _ _ ?_ h) ?_; (exact hypS)) | (refine WD_cM (Pick_m (l := mostD) _ ?_ ?_ ?_) ?_; (exact hypS); (exact hypS); (exact hypS)) | (refine WD_e0 (fun h => send_pe _ _ _ _ _ _ _ _ _ _ _ _ _ ?_ ?_ ?_ ?_ h) ?_; (exact hypS); (exact hypS); (exact hypS); (exact hypS)) | (refine WD_e0 (fun h => quote_pe _ _ _ _ _ _ _ _ _ ?_ ?_ ?_ ?_ h) ?_; (exact hypS); (exact hypS); (exact hypS); (exact hypS))) | (refine WD_idx htb ?_) | (refine WD_idxo htb ?_) | (refine WD_lde1 htb ?_) | (refine WD_lde htb ?_) | (refine WD_ste htb ?_) | (refine WD_ap htb ?_) | (refine WD_ap0 htb ?_) | (refine WD_nil htb ?_) | (refine WD_nilr htb ?_) | (refine WD_rem ?_) | (refine WD_quo ?_) | (refine WD_slc htb ?_) | (refine WD_ixa htb ?_) | (refine WD_ix1 htb ?_) | (refine WD_t (by exact rfl) (by exact rfl) (by exact known) fun hb => ?_; rw [hb]; clear hb) | (refine WD_f (by exact rfl) (by exact rfl) (by exact known) fun hb => ?_; rw [hb]; clear hb)) | (with_reducible apply WA_seq) | ((with_reducible apply gR hmix hN); exact (by kernel_rfl); (try dsimp only [List.append_eq, List.cons_append, List.nil_append])) | ((with_reducible apply WD_end); (first | exact no_draw | (intro _; kernel_rfl)); try simp only [thn, inB, List.length_map, List.cons_append, List.nil_append]) | ((with_reducible apply gCt); exact rfl; exact rfl) | ((with_reducible apply gCf); exact rfl; exact rfl) | ((with_reducible apply gCk); exact rfl; exact known; intro hb; rw [hb]; clear hb) | ((with_reducible apply gCn); exact rfl; exact known; intro hb; rw [hb]; clear hb) | (with_reducible apply WA_block) | ((with_reducible first | apply WA_skip | apply WA_ret | apply WA_exit | apply WA_label); try simp only [thn, inB, List.length_map, List.cons_append, List.nil_append])))
  generalize (nth assets3 (s2.n 3).toNat).1 = v at *
  generalize (nth assets3 (s2.n 3).toNat).2 = j at *
  generalize (nth assets3 ((s2.x 3).n 3).toNat).1 = u at *
  generalize (nth assets3 ((s2.x 3).n 3).toNat).2 = i at *
  generalize nth mostD (q.2.n (mostD.length : Int)).toNat = most at *
  generalize q.2.x (mostD.length : Int) = sr at *
  have hn1 : 1 ≤ 1 + (IntKind.i64.wrap f).tmod 100 ∧ 1 + (IntKind.i64.wrap f).tmod 100 ≤ 100 := by omega
  generalize 1 + (IntKind.i64.wrap f).tmod 100 = n at *
  have e0 : eqLed led0 led0 = true := eqLed_refl _
  rcases hlaw with ⟨h1, rfl, rfl, hD⟩ | ⟨rfl, rfl, rfl, k1, k2, k3, k4, k5, k6, k7, k8⟩
  · have t0 : (e != 0) = true := by simp [h1]
    by_cases d1 : g = 0
    case neg =>
      have t1 : (g != 0) = true := by simp [d1]
      (repeat' (first | ((with_reducible apply WD_id); first | (refine WD_sum ?_) | (refine WD_nxt htb (by exact rfl) ?_) | (refine WD_unk (by exact rfl) ?_; first | (refine WD_t (by exact rfl) (by exact rfl) (by exact known) fun hb => ?_; rw [hb]; clear hb) | (refine WD_f (by exact rfl) (by exact rfl) (by exact known) fun hb => ?_; rw [hb]; clear hb) | ((refine WD_tf (by exact rfl) (by exact rfl) ?_ ?_) <;> (intro hb; (fail_if_success (with_reducible injection hb)); rw [hb]; (try simp only [List.length_map] at hb)))) | (refine WD_call (by exact rfl) ?_; first | (refine WD_c0 (sameO_rm (g := led0) (h := led0) ?_ ?_ ?_) ?_; (exact hypS); (exact hypS); (exact hypS)) | (refine WD_c0 (sane39_m) ?_)) | (refine WD_idx htb ?_) | (refine WD_idxo htb ?_) | (refine WD_lde1 htb ?_) | (refine WD_lde htb ?_) | (refine WD_ste htb ?_) | (refine WD_ap htb ?_) | (refine WD_ap0 htb ?_) | (refine WD_nil htb ?_) | (refine WD_nilr htb ?_) | (refine WD_rem ?_) | (refine WD_quo ?_) | (refine WD_slc htb ?_) | (refine WD_ixa htb ?_) | (refine WD_ix1 htb ?_) | (refine WD_t (by exact rfl) (by exact rfl) (by exact known) fun hb => ?_; rw [hb]; clear hb) | (refine WD_f (by exact rfl) (by exact rfl) (by exact known) fun hb => ?_; rw [hb]; clear hb) | ((refine WD_tf (by exact rfl) (by exact rfl) ?_ ?_) <;> (intro hb; (fail_if_success (with_reducible injection hb)); rw [hb]; (try simp only [List.length_map] at hb)))) | (with_reducible apply WA_seq) | ((with_reducible apply gR hmix hN); exact (by kernel_rfl); (try dsimp only [List.append_eq, List.cons_append, List.nil_append])) | ((with_reducible apply WD_end); (first | exact no_draw | (intro _; kernel_rfl)); try simp only [thn, inB, List.length_map, List.cons_append, List.nil_append]) | ((with_reducible apply gCt); exact rfl; exact rfl) | ((with_reducible apply gCf); exact rfl; exact rfl) | ((with_reducible apply gCk); exact rfl; exact known; intro hb; rw [hb]; clear hb) | ((with_reducible apply gCn); exact rfl; exact known; intro hb; rw [hb]; clear hb) | (((with_reducible apply gC2); exact rfl) <;> (intro hb; rw [hb])) | (with_reducible apply WA_block) | ((with_reducible first | apply WA_skip | apply WA_ret | apply WA_exit | apply WA_label); try simp only [thn, inB, List.length_map, List.cons_append, List.nil_append])))
      exact gE (.inr rfl) rfl rfl trivial
    have t1 : (g != 0) = false := by simp [d1]
    by_cases d2 : a = b
    · have t2 : (a == b) = true := by simp [d2]
      (repeat' (first | ((with_reducible apply WD_id); first | (refine WD_sum ?_) | (refine WD_nxt htb (by exact rfl) ?_) | (refine WD_unk (by exact rfl) ?_; first | (refine WD_t (by exact rfl) (by exact rfl) (by exact known) fun hb => ?_; rw [hb]; clear hb) | (refine WD_f (by exact rfl) (by exact rfl) (by exact known) fun hb => ?_; rw [hb]; clear hb) | ((refine WD_tf (by exact rfl) (by exact rfl) ?_ ?_) <;> (intro hb; (fail_if_success (with_reducible injection hb)); rw [hb]; (try simp only [List.length_map] at hb)))) | (refine WD_call (by exact rfl) ?_; first | (refine WD_c0 (sameO_rm (g := led0) (h := led0) ?_ ?_ ?_) ?_; (exact hypS); (exact hypS); (exact hypS)) | (refine WD_c0 (sane39_m) ?_)) | (refine WD_idx htb ?_) | (refine WD_idxo htb ?_) | (refine WD_lde1 htb ?_) | (refine WD_lde htb ?_) | (refine WD_ste htb ?_) | (refine WD_ap htb ?_) | (refine WD_ap0 htb ?_) | (refine WD_nil htb ?_) | (refine WD_nilr htb ?_) | (refine WD_rem ?_) | (refine WD_quo ?_) | (refine WD_slc htb ?_) | (refine WD_ixa htb ?_) | (refine WD_ix1 htb ?_) | (refine WD_t (by exact rfl) (by exact rfl) (by exact known) fun hb => ?_; rw [hb]; clear hb) | (refine WD_f (by exact rfl) (by exact rfl) (by exact known) fun hb => ?_; rw [hb]; clear hb) | ((refine WD_tf (by exact rfl) (by exact rfl) ?_ ?_) <;> (intro hb; (fail_if_success (with_reducible injection hb)); rw [hb]; (try simp only [List.length_map] at hb)))) | (with_reducible apply WA_seq) | ((with_reducible apply gR hmix hN); exact (by kernel_rfl); (try dsimp only [List.append_eq, List.cons_append, List.nil_append])) | ((with_reducible apply WD_end); (first | exact no_draw | (intro _; kernel_rfl)); try simp only [thn, inB, List.length_map, List.cons_append, List.nil_append]) | ((with_reducible apply gCt); exact rfl; exact rfl) | ((with_reducible apply gCf); exact rfl; exact rfl) | ((with_reducible apply gCk); exact rfl; exact known; intro hb; rw [hb]; clear hb) | ((with_reducible apply gCn); exact rfl; exact known; intro hb; rw [hb]; clear hb) | (((with_reducible apply gC2); exact rfl) <;> (intro hb; rw [hb])) | (with_reducible apply WA_block) | ((with_reducible first | apply WA_skip | apply WA_ret | apply WA_exit | apply WA_label); try simp only [thn, inB, List.length_map, List.cons_append, List.nil_append])))
      exact gE (.inr rfl) rfl rfl trivial
    have t2 : (a == b) = false := by simp [d2]
    by_cases d3 : most < c
    · have t3 : decide (c > most) = true := by simp [d3]
      (repeat' (first | ((with_reducible apply WD_id); first | (refine WD_sum ?_) | (refine WD_nxt htb (by exact rfl) ?_) | (refine WD_unk (by exact rfl) ?_; first | (refine WD_t (by exact rfl) (by exact rfl) (by exact known) fun hb => ?_; rw [hb]; clear hb) | (refine WD_f (by exact rfl) (by exact rfl) (by exact known) fun hb => ?_; rw [hb]; clear hb) | ((refine WD_tf (by exact rfl) (by exact rfl) ?_ ?_) <;> (intro hb; (fail_if_success (with_reducible injection hb)); rw [hb]; (try simp only [List.length_map] at hb)))) | (refine WD_call (by exact rfl) ?_; first | (refine WD_c0 (sameO_rm (g := led0) (h := led0) ?_ ?_ ?_) ?_; (exact hypS); (exact hypS); (exact hypS)) | (refine WD_c0 (sane39_m) ?_)) | (refine WD_idx htb ?_) | (refine WD_idxo htb ?_) | (refine WD_lde1 htb ?_) | (refine WD_lde htb ?_) | (refine WD_ste htb ?_) | (refine WD_ap htb ?_) | (refine WD_ap0 htb ?_) | (refine WD_nil htb ?_) | (refine WD_nilr htb ?_) | (refine WD_rem ?_) | (refine WD_quo ?_) | (refine WD_slc htb ?_) | (refine WD_ixa htb ?_) | (refine WD_ix1 htb ?_) | (refine WD_t (by exact rfl) (by exact rfl) (by exact known) fun hb => ?_; rw [hb]; clear hb) | (refine WD_f (by exact rfl) (by exact rfl) (by exact known) fun hb => ?_; rw [hb]; clear hb) | ((refine WD_tf (by exact rfl) (by exact rfl) ?_ ?_) <;> (intro hb; (fail_if_success (with_reducible injection hb)); rw [hb]; (try simp only [List.length_map] at hb)))) | (with_reducible apply WA_seq) | ((with_reducible apply gR hmix hN); exact (by kernel_rfl); (try dsimp only [List.append_eq, List.cons_append, List.nil_append])) | ((with_reducible apply WD_end); (first | exact no_draw | (intro _; kernel_rfl)); try simp only [thn, inB, List.length_map, List.cons_append, List.nil_append]) | ((with_reducible apply gCt); exact rfl; exact rfl) | ((with_reducible apply gCf); exact rfl; exact rfl) | ((with_reducible apply gCk); exact rfl; exact known; intro hb; rw [hb]; clear hb) | ((with_reducible apply gCn); exact rfl; exact known; intro hb; rw [hb]; clear hb) | (((with_reducible apply gC2); exact rfl) <;> (intro hb; rw [hb])) | (with_reducible apply WA_block) | ((with_reducible first | apply WA_skip | apply WA_ret | apply WA_exit | apply WA_label); try simp only [thn, inB, List.length_map, List.cons_append, List.nil_append])))
      exact gE (.inr rfl) rfl rfl trivial
    have t3 : decide (c > most) = false := by simp; omega
    have hD' : e = 70 ∨ e = 66 ∨ e = 65 := by
      rcases hD with h | h | h | h
      · exact absurd d1 h
      · exact absurd h d2
      · exact absurd h d3
      · exact h
    rcases hD' with rfl | rfl | rfl
    all_goals
      (repeat' (first | ((with_reducible apply WD_id); first | (refine WD_sum ?_) | (refine WD_nxt htb (by exact rfl) ?_) | (refine WD_unk (by exact rfl) ?_; first | (refine WD_t (by exact rfl) (by exact rfl) (by exact known) fun hb => ?_; rw [hb]; clear hb) | (refine WD_f (by exact rfl) (by exact rfl) (by exact known) fun hb => ?_; rw [hb]; clear hb) | ((refine WD_tf (by exact rfl) (by exact rfl) ?_ ?_) <;> (intro hb; (fail_if_success (with_reducible injection hb)); rw [hb]; (try simp only [List.length_map] at hb)))) | (refine WD_call (by exact rfl) ?_; first | (refine WD_c0 (sameO_rm (g := led0) (h := led0) ?_ ?_ ?_) ?_; (exact hypS); (exact hypS); (exact hypS)) | (refine WD_c0 (sane39_m) ?_)) | (refine WD_idx htb ?_) | (refine WD_idxo htb ?_) | (refine WD_lde1 htb ?_) | (refine WD_lde htb ?_) | (refine WD_ste htb ?_) | (refine WD_ap htb ?_) | (refine WD_ap0 htb ?_) | (refine WD_nil htb ?_) | (refine WD_nilr htb ?_) | (refine WD_rem ?_) | (refine WD_quo ?_) | (refine WD_slc htb ?_) | (refine WD_ixa htb ?_) | (refine WD_ix1 htb ?_) | (refine WD_t (by exact rfl) (by exact rfl) (by exact known) fun hb => ?_; rw [hb]; clear hb) | (refine WD_f (by exact rfl) (by exact rfl) (by exact known) fun hb => ?_; rw [hb]; clear hb) | ((refine WD_tf (by exact rfl) (by exact rfl) ?_ ?_) <;> (intro hb; (fail_if_success (with_reducible injection hb)); rw [hb]; (try simp only [List.length_map] at hb)))) | (with_reducible apply WA_seq) | ((with_reducible apply gR hmix hN); exact (by kernel_rfl); (try dsimp only [List.append_eq, List.cons_append, List.nil_append])) | ((with_reducible apply WD_end); (first | exact no_draw | (intro _; kernel_rfl)); try simp only [thn, inB, List.length_map, List.cons_append, List.nil_append]) | ((with_reducible apply gCt); exact rfl; exact rfl) | ((with_reducible apply gCf); exact rfl; exact rfl) | ((with_reducible apply gCk); exact rfl; exact known; intro hb; rw [hb]; clear hb) | ((with_reducible apply gCn); exact rfl; exact known; intro hb; rw [hb]; clear hb) | (((with_reducible apply gC2); exact rfl) <;> (intro hb; rw [hb])) | (with_reducible apply WA_block) | ((with_reducible first | apply WA_skip | apply WA_ret | apply WA_exit | apply WA_label); try simp only [thn, inB, List.length_map, List.cons_append, List.nil_append])))
      exact gE (.inr rfl) rfl rfl trivial
  have t1 : (c != c) = false := by simp
  have t2 : decide (c > most) = false := by simp; omega
  have t3 : (chkO x != 0) = false := by simp [k2]
  have t4 : (totA x.accs != totA t.1.accs) = false := by simp [k3]
  have x1 : x.lins.length ≤ 1000 := by omega
  have x2 : x.accs.length ≤ 1000 := by omega
  have x3 : x.offs.length ≤ 1000 := by omega
  (repeat' (first | ((with_reducible apply WD_id); first | (refine WD_sum ?_) | (refine WD_nxt htb (by exact rfl) ?_) | (refine WD_unk (by exact rfl) ?_; first | (refine WD_t (by exact rfl) (by exact rfl) (by exact known) fun hb => ?_; rw [hb]; clear hb) | (refine WD_f (by exact rfl) (by exact rfl) (by exact known) fun hb => ?_; rw [hb]; clear hb) | ((refine WD_tf (by exact rfl) (by exact rfl) ?_ ?_) <;> (intro hb; (fail_if_success (with_reducible injection hb)); rw [hb]; (try simp only [List.length_map] at hb)))) | (refine WD_call (by exact rfl) ?_; first | (refine WD_c0 (chkO_rm _ ?_ ?_ ?_) ?_; (exact hypS); (exact hypS); (exact hypS)) | (refine WD_c0 (tot_rm _ ?_) ?_; (exact hypS))) | (refine WD_idx htb ?_) | (refine WD_idxo htb ?_) | (refine WD_lde1 htb ?_) | (refine WD_lde htb ?_) | (refine WD_ste htb ?_) | (refine WD_ap htb ?_) | (refine WD_ap0 htb ?_) | (refine WD_nil htb ?_) | (refine WD_nilr htb ?_) | (refine WD_rem ?_) | (refine WD_quo ?_) | (refine WD_slc htb ?_) | (refine WD_ixa htb ?_) | (refine WD_ix1 htb ?_) | (refine WD_t (by exact rfl) (by exact rfl) (by exact known) fun hb => ?_; rw [hb]; clear hb) | (refine WD_f (by exact rfl) (by exact rfl) (by exact known) fun hb => ?_; rw [hb]; clear hb) | ((refine WD_tf (by exact rfl) (by exact rfl) ?_ ?_) <;> (intro hb; (fail_if_success (with_reducible injection hb)); rw [hb]; (try simp only [List.length_map] at hb)))) | (with_reducible apply WA_seq) | ((with_reducible apply gR hmix hN); exact (by kernel_rfl); (try dsimp only [List.append_eq, List.cons_append, List.nil_append])) | ((with_reducible apply WD_end); (first | exact no_draw | (intro _; kernel_rfl)); try simp only [thn, inB, List.length_map, List.cons_append, List.nil_append]) | ((with_reducible apply gCt); exact rfl; exact rfl) | ((with_reducible apply gCf); exact rfl; exact rfl) | ((with_reducible apply gCk); exact rfl; exact known; intro hb; rw [hb]; clear hb) | ((with_reducible apply gCn); exact rfl; exact known; intro hb; rw [hb]; clear hb) | (((with_reducible apply gC2); exact rfl) <;> (intro hb; rw [hb])) | (with_reducible apply WA_block) | ((with_reducible first | apply WA_skip | apply WA_ret | apply WA_exit | apply WA_label); try simp only [thn, inB, List.length_map, List.cons_append, List.nil_append])))
  clear hX hQ
  (refine WA_forV (t.1.offs.length) [139, 19] [9000, 6, 14, 9, 10] (fun k => [(139, vI k), (19, vB (selB b (t.1.offs.take k)))]) (fun k => [(9, .box 37 [vS v, vI j]), (10, .box 37 [vS u, vI i]), (6, .box 30 (cellsOf (aG t.1))), (14, .box 30 (cellsOf (aG x))), Sc.box sr]) (fun k => True) ?h0 ?_)
  case h0 => trivial
  intro k hk _
  by_cases hk2 : k < t.1.offs.length
  · have d1 : decide ((k : Int) < (t.1.offs.length : Int)) = true := by simp only [decide_eq_true_eq]; omega
    have hst := @selB_take b t.1.offs k hk2
    cases h1 : selB b (t.1.offs.take k) with
    | true =>
      have e : selB b (t.1.offs.take (k + 1)) = true := by rw [hst, h1]; rfl
      (repeat' (first | ((with_reducible apply WD_id); first | (refine WD_sum ?_) | (refine WD_nxt htb (by exact rfl) ?_) | (refine WD_unk (by exact rfl) ?_; first | (refine WD_t (by exact rfl) (by exact rfl) (by exact known) fun hb => ?_; rw [hb]; clear hb) | (refine WD_f (by exact rfl) (by exact rfl) (by exact known) fun hb => ?_; rw [hb]; clear hb) | ((refine WD_tf (by exact rfl) (by exact rfl) ?_ ?_) <;> (intro hb; (fail_if_success (with_reducible injection hb)); rw [hb]; (try simp only [List.length_map] at hb)))) | (refine WD_idx htb ?_) | (refine WD_idxo htb ?_) | (refine WD_lde1 htb ?_) | (refine WD_lde htb ?_) | (refine WD_ste htb ?_) | (refine WD_ap htb ?_) | (refine WD_ap0 htb ?_) | (refine WD_nil htb ?_) | (refine WD_nilr htb ?_) | (refine WD_rem ?_) | (refine WD_quo ?_) | (refine WD_slc htb ?_) | (refine WD_ixa htb ?_) | (refine WD_ix1 htb ?_) | (refine WD_t (by exact rfl) (by exact rfl) (by exact known) fun hb => ?_; rw [hb]; clear hb) | (refine WD_f (by exact rfl) (by exact rfl) (by exact known) fun hb => ?_; rw [hb]; clear hb) | ((refine WD_tf (by exact rfl) (by exact rfl) ?_ ?_) <;> (intro hb; (fail_if_success (with_reducible injection hb)); rw [hb]; (try simp only [List.length_map] at hb)))) | (with_reducible apply WA_seq) | ((with_reducible apply gR hmix hN); exact (by kernel_rfl); (try dsimp only [List.append_eq, List.cons_append, List.nil_append])) | ((with_reducible apply WD_end); (first | exact no_draw | (intro _; kernel_rfl)); try simp only [thn, inB, List.length_map, List.cons_append, List.nil_append]) | ((with_reducible apply gCt); exact rfl; exact rfl) | ((with_reducible apply gCf); exact rfl; exact rfl) | ((with_reducible apply gCk); exact rfl; exact known; intro hb; rw [hb]; clear hb) | ((with_reducible apply gCn); exact rfl; exact known; intro hb; rw [hb]; clear hb) | (((with_reducible apply gC2); exact rfl) <;> (intro hb; rw [hb])) | (with_reducible apply WA_block) | ((with_reducible first | apply WA_skip | apply WA_ret | apply WA_exit | apply WA_label); try simp only [thn, inB, List.length_map, List.cons_append, List.nil_append])))
      refine ⟨hk2, trivial, ?_⟩
      rw [e]
      (exact LeV [])
    | false =>
      have e : selB b (t.1.offs.take (k + 1)) = ((nth t.1.offs k).seller == b) := by rw [hst, h1]; rfl
      (repeat' (first | ((with_reducible apply WD_id); first | (refine WD_sum ?_) | (refine WD_nxt htb (by exact rfl) ?_) | (refine WD_unk (by exact rfl) ?_; first | (refine WD_t (by exact rfl) (by exact rfl) (by exact known) fun hb => ?_; rw [hb]; clear hb) | (refine WD_f (by exact rfl) (by exact rfl) (by exact known) fun hb => ?_; rw [hb]; clear hb)) | (refine WD_idx htb ?_) | (refine WD_idxo htb ?_) | (refine WD_lde1 htb ?_) | (refine WD_lde htb ?_) | (refine WD_ste htb ?_) | (refine WD_ap htb ?_) | (refine WD_ap0 htb ?_) | (refine WD_nil htb ?_) | (refine WD_nilr htb ?_) | (refine WD_rem ?_) | (refine WD_quo ?_) | (refine WD_slc htb ?_) | (refine WD_ixa htb ?_) | (refine WD_ix1 htb ?_) | (refine WD_t (by exact rfl) (by exact rfl) (by exact known) fun hb => ?_; rw [hb]; clear hb) | (refine WD_f (by exact rfl) (by exact rfl) (by exact known) fun hb => ?_; rw [hb]; clear hb)) | (with_reducible apply WA_seq) | ((with_reducible apply gR hmix hN); exact (by kernel_rfl); (try dsimp only [List.append_eq, List.cons_append, List.nil_append])) | ((with_reducible apply WD_end); (first | exact no_draw | (intro _; kernel_rfl)); try simp only [thn, inB, List.length_map, List.cons_append, List.nil_append]) | ((with_reducible apply gCt); exact rfl; exact rfl) | ((with_reducible apply gCf); exact rfl; exact rfl) | ((with_reducible apply gCk); exact rfl; exact known; intro hb; rw [hb]; clear hb) | ((with_reducible apply gCn); exact rfl; exact known; intro hb; rw [hb]; clear hb) | (with_reducible apply WA_block) | ((with_reducible first | apply WA_skip | apply WA_ret | apply WA_exit | apply WA_label); try simp only [thn, inB, List.length_map, List.cons_append, List.nil_append])))
      refine ⟨hk2, trivial, ?_⟩
      rw [e]
      (exact LeV [])
  have d1 : decide ((k : Int) < (t.1.offs.length : Int)) = false := by simp only [decide_eq_false_iff_not]; omega
  obtain rfl : k = t.1.offs.length := by omega
  rw [List.take_length]
  cases h1 : selB b t.1.offs with
  | true =>
    (repeat' (first | ((with_reducible apply WD_id); first | (refine WD_sum ?_) | (refine WD_nxt htb (by exact rfl) ?_) | (refine WD_unk (by exact rfl) ?_; first | (refine WD_t (by exact rfl) (by exact rfl) (by exact known) fun hb => ?_; rw [hb]; clear hb) | (refine WD_f (by exact rfl) (by exact rfl) (by exact known) fun hb => ?_; rw [hb]; clear hb) | ((refine WD_tf (by exact rfl) (by exact rfl) ?_ ?_) <;> (intro hb; (fail_if_success (with_reducible injection hb)); rw [hb]; (try simp only [List.length_map] at hb)))) | (refine WD_call (by exact rfl) ?_; first | (refine WD_c0 (sane39_m) ?_)) | (refine WD_idx htb ?_) | (refine WD_idxo htb ?_) | (refine WD_lde1 htb ?_) | (refine WD_lde htb ?_) | (refine WD_ste htb ?_) | (refine WD_ap htb ?_) | (refine WD_ap0 htb ?_) | (refine WD_nil htb ?_) | (refine WD_nilr htb ?_) | (refine WD_rem ?_) | (refine WD_quo ?_) | (refine WD_slc htb ?_) | (refine WD_ixa htb ?_) | (refine WD_ix1 htb ?_) | (refine WD_t (by exact rfl) (by exact rfl) (by exact known) fun hb => ?_; rw [hb]; clear hb) | (refine WD_f (by exact rfl) (by exact rfl) (by exact known) fun hb => ?_; rw [hb]; clear hb) | ((refine WD_tf (by exact rfl) (by exact rfl) ?_ ?_) <;> (intro hb; (fail_if_success (with_reducible injection hb)); rw [hb]; (try simp only [List.length_map] at hb)))) | (with_reducible apply WA_seq) | ((with_reducible apply gR hmix hN); exact (by kernel_rfl); (try dsimp only [List.append_eq, List.cons_append, List.nil_append])) | ((with_reducible apply WD_end); (first | exact no_draw | (intro _; kernel_rfl)); try simp only [thn, inB, List.length_map, List.cons_append, List.nil_append]) | ((with_reducible apply gCt); exact rfl; exact rfl) | ((with_reducible apply gCf); exact rfl; exact rfl) | ((with_reducible apply gCk); exact rfl; exact known; intro hb; rw [hb]; clear hb) | ((with_reducible apply gCn); exact rfl; exact known; intro hb; rw [hb]; clear hb) | (((with_reducible apply gC2); exact rfl) <;> (intro hb; rw [hb])) | (with_reducible apply WA_block) | ((with_reducible first | apply WA_skip | apply WA_ret | apply WA_exit | apply WA_label); try simp only [thn, inB, List.length_map, List.cons_append, List.nil_append])))
    exact gE (.inr rfl) rfl rfl trivial
  | false =>
    have hns := selB_false h1
    by_cases h2 : i = b
    · have t5 : (i == b) = true := by simp [h2]
      (repeat' (first | ((with_reducible apply WD_id); first | (refine WD_sum ?_) | (refine WD_nxt htb (by exact rfl) ?_) | (refine WD_unk (by exact rfl) ?_; first | (refine WD_t (by exact rfl) (by exact rfl) (by exact known) fun hb => ?_; rw [hb]; clear hb) | (refine WD_f (by exact rfl) (by exact rfl) (by exact known) fun hb => ?_; rw [hb]; clear hb) | ((refine WD_tf (by exact rfl) (by exact rfl) ?_ ?_) <;> (intro hb; (fail_if_success (with_reducible injection hb)); rw [hb]; (try simp only [List.length_map] at hb)))) | (refine WD_call (by exact rfl) ?_; first | (refine WD_c0 (sane39_m) ?_)) | (refine WD_idx htb ?_) | (refine WD_idxo htb ?_) | (refine WD_lde1 htb ?_) | (refine WD_lde htb ?_) | (refine WD_ste htb ?_) | (refine WD_ap htb ?_) | (refine WD_ap0 htb ?_) | (refine WD_nil htb ?_) | (refine WD_nilr htb ?_) | (refine WD_rem ?_) | (refine WD_quo ?_) | (refine WD_slc htb ?_) | (refine WD_ixa htb ?_) | (refine WD_ix1 htb ?_) | (refine WD_t (by exact rfl) (by exact rfl) (by exact known) fun hb => ?_; rw [hb]; clear hb) | (refine WD_f (by exact rfl) (by exact rfl) (by exact known) fun hb => ?_; rw [hb]; clear hb) | ((refine WD_tf (by exact rfl) (by exact rfl) ?_ ?_) <;> (intro hb; (fail_if_success (with_reducible injection hb)); rw [hb]; (try simp only [List.length_map] at hb)))) | (with_reducible apply WA_seq) | ((with_reducible apply gR hmix hN); exact (by kernel_rfl); (try dsimp only [List.append_eq, List.cons_append, List.nil_append])) | ((with_reducible apply WD_end); (first | exact no_draw | (intro _; kernel_rfl)); try simp only [thn, inB, List.length_map, List.cons_append, List.nil_append]) | ((with_reducible apply gCt); exact rfl; exact rfl) | ((with_reducible apply gCf); exact rfl; exact rfl) | ((with_reducible apply gCk); exact rfl; exact known; intro hb; rw [hb]; clear hb) | ((with_reducible apply gCn); exact rfl; exact known; intro hb; rw [hb]; clear hb) | (((with_reducible apply gC2); exact rfl) <;> (intro hb; rw [hb])) | (with_reducible apply WA_block) | ((with_reducible first | apply WA_skip | apply WA_ret | apply WA_exit | apply WA_label); try simp only [thn, inB, List.length_map, List.cons_append, List.nil_append])))
      exact gE (.inr rfl) rfl rfl trivial
    have t5 : (i == b) = false := by simp [h2]
    have t6 : (heldF x b u i == heldF t.1 b u i + n) = true := by rw [k8 hns h2]; simp
    (repeat' (first | ((with_reducible apply WD_id); first | (refine WD_sum ?_) | (refine WD_nxt htb (by exact rfl) ?_) | (refine WD_unk (by exact rfl) ?_; first | (refine WD_t (by exact rfl) (by exact rfl) (by exact known) fun hb => ?_; rw [hb]; clear hb) | (refine WD_f (by exact rfl) (by exact rfl) (by exact known) fun hb => ?_; rw [hb]; clear hb) | ((refine WD_tf (by exact rfl) (by exact rfl) ?_ ?_) <;> (intro hb; (fail_if_success (with_reducible injection hb)); rw [hb]; (try simp only [List.length_map] at hb)))) | (refine WD_call (by exact rfl) ?_; first | (refine WD_c0 (held_rm _ _ _ _ ?_ ?_) ?_; (exact hypS); (exact hypS)) | (refine WD_c0 (sane39_m) ?_)) | (refine WD_idx htb ?_) | (refine WD_idxo htb ?_) | (refine WD_lde1 htb ?_) | (refine WD_lde htb ?_) | (refine WD_ste htb ?_) | (refine WD_ap htb ?_) | (refine WD_ap0 htb ?_) | (refine WD_nil htb ?_) | (refine WD_nilr htb ?_) | (refine WD_rem ?_) | (refine WD_quo ?_) | (refine WD_slc htb ?_) | (refine WD_ixa htb ?_) | (refine WD_ix1 htb ?_) | (refine WD_t (by exact rfl) (by exact rfl) (by exact known) fun hb => ?_; rw [hb]; clear hb) | (refine WD_f (by exact rfl) (by exact rfl) (by exact known) fun hb => ?_; rw [hb]; clear hb) | ((refine WD_tf (by exact rfl) (by exact rfl) ?_ ?_) <;> (intro hb; (fail_if_success (with_reducible injection hb)); rw [hb]; (try simp only [List.length_map] at hb)))) | (with_reducible apply WA_seq) | ((with_reducible apply gR hmix hN); exact (by kernel_rfl); (try dsimp only [List.append_eq, List.cons_append, List.nil_append])) | ((with_reducible apply WD_end); (first | exact no_draw | (intro _; kernel_rfl)); try simp only [thn, inB, List.length_map, List.cons_append, List.nil_append]) | ((with_reducible apply gCt); exact rfl; exact rfl) | ((with_reducible apply gCf); exact rfl; exact rfl) | ((with_reducible apply gCk); exact rfl; exact known; intro hb; rw [hb]; clear hb) | ((with_reducible apply gCn); exact rfl; exact known; intro hb; rw [hb]; clear hb) | (((with_reducible apply gC2); exact rfl) <;> (intro hb; rw [hb])) | (with_reducible apply WA_block) | ((with_reducible first | apply WA_skip | apply WA_ret | apply WA_exit | apply WA_label); try simp only [thn, inB, List.length_map, List.cons_append, List.nil_append])))
    exact gE (.inr rfl) rfl rfl trivial
theorem law_PathsDeliver (a0 : Option Addr) (len0 cap0 : Nat) (z0 : List Int) (a1 : Int) (w : World) (w0 : IsRowA .i64 w a0 len0 cap0 z0) (w1 : (Lit.int .u8 a1).wf = true) :
    Calls Tryz.prog 10 #[.slice a0 len0 cap0, .int .u8 a1] w fun e w' => e = .returned (.bool true) ∧ Ex w w' := by
  have hu : 0 ≤ a1 ∧ a1 ≤ 255 := by simpa [Lit.wf, IntKind.min, IntKind.max, IntKind.bits, IntKind.signed] using w1
  exact FnM.law (deliver39_m (z0.take len0) a1 hu.1 hu.2) (VRs.cons (row_VR w0) (VRs.cons (.d (.v _)) VRs.nil))
end Go.Proofs.YteppnjgobaggaaaGreat
