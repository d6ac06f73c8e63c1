/- Plain law of PathsDeliver, as the walk uses it. No program stands here. -/
import Derived.Test.YteppnjgobaggaaaGreatWPx
import Derived.Test.YteppnjgobaggaaaGreatAmZ
import Derived.Test.YteppnjgobaggaaaGreatW0
import Derived.Test.YteppnjgobaggaaaGreatWG
import Derived.Test.YteppnjgobaggaaaGreatPM
import Derived.Test.YteppnjgobaggaaaGreatPlainP
import Derived.Test.YteppnjgobaggaaaGreatAmY
namespace Go.Proofs.YteppnjgobaggaaaGreat
set_option linter.unusedSimpArgs false
set_option linter.unusedVariables false
set_option linter.unnecessarySimpa false
set_option linter.unusedSectionVars false
set_option maxRecDepth 100000
open Go Go.RowKit Go.Am Go.Proofs.Grow

/-- What a purchase leaves as it is, for who sells nothing. -/
structure Kept (g g' : Led) : Prop where
  look : ∀ b, (∀ y ∈ g.offs, ¬ y.seller = b) → ∀ w z, lookF g' b w z = lookF g b w z
  sel : ∀ y ∈ g'.offs, ∃ y' ∈ g.offs, y'.seller = y.seller
theorem Kept.refl (g : Led) : Kept g g := ⟨fun _ _ _ _ => rfl, fun y hy => ⟨y, hy, rfl⟩⟩
theorem Kept.trans {g h k : Led} (a : Kept g h) (b : Kept h k) : Kept g k := by
  refine ⟨fun c hc w z => ?_, fun y hy => ?_⟩
  · rw [b.look c (fun y hy e => ?_) w z, a.look c hc w z]
    obtain ⟨y', h1, h2⟩ := a.sel y hy
    exact hc y' h1 (h2.trans e)
  · obtain ⟨y', h1, h2⟩ := b.sel y hy
    obtain ⟨y2, h3, h4⟩ := a.sel y' h1
    exact ⟨y2, h3, h4.trans h2⟩
theorem kept_all {g : Led} (h : RightO g) {u : ByteArray} {i : Int} {v : ByteArray} {j : Int} {n most t : Int} (n0 : 0 ≤ n) (m0 : 0 ≤ most) : Kept g (crossD g t u i v j n most).g := by
  obtain ⟨_, _, hm, _⟩ := book_srt h u i v j
  refine (cross_ind (t := t) (fun x => x ∈ g.offs) (fun d => Kept g d.g) ?_ _ ⟨g, n, most⟩ h n0 m0 (fun x hx => ((hm x).1 hx).1) (fun x hx => ((hm x).1 hx).1) (book_nodup h u i v j) (Kept.refl g)).1
  intro d x p k c g' d' more hr hp hx hq ht w0 l0 hP hu
  have hs := hu.sold
  have hxm : x ∈ d.g.offs := hx ▸ nth_mem _ p hp
  refine ⟨fun b hb w z => ?_, fun y hy => ?_⟩
  · have e : lookF d'.g b w z = lookF g' b w z := by rw [hu.led]; rfl
    have hne : ¬ b = x.seller := fun e => hb x hq e.symm
    rw [e, hs.other b w z (fun q => hne q.1) (fun q => hne q.1), hP.look b hb w z]
  · cases more with
    | true =>
      rw [(hu.gone rfl).1] at hy
      exact hP.sel y (List.mem_of_mem_eraseIdx hy)
    | false =>
      rw [(hu.stop rfl).1] at hy
      rcases List.mem_or_eq_of_mem_set hy with q | q
      · exact hP.sel y q
      · obtain ⟨y', h1, h2⟩ := hP.sel x hxm
        exact ⟨y', h1, by rw [q]; exact h2⟩
/-- What a chain of purchases does. -/
structure Conv (g x : Led) (u : ByteArray) (i n : Int) (v : ByteArray) (j p : Int) : Prop where
  right : RightO x
  p0 : 0 ≤ p
  p1 : p ≤ 1000000000000
  find : ∀ b, (findA x.accs b).2 = (findA g.accs b).2
  la : x.accs.length = g.accs.length
  ll : x.lins.length = g.lins.length
  lo : x.offs.length ≤ g.offs.length
  tot : tot x.accs = tot g.accs - (if nativeB u i = true then n else 0) + (if nativeB v j = true then p else 0)
  kept : Kept g x
theorem conv_spec {t : Int} {c : List TA} (hc : ∀ a ∈ c, assetB a.1 a.2 = true) : ∀ (k : Nat) {g : Led} {n : Int}, k < c.length → RightO g → 0 ≤ n → n ≤ 1000000000000 →
    (convN t c k g n).2.2 = 73 ∨ ((convN t c k g n).2.2 = 0 ∧ Conv g (convN t c k g n).1 (nth c k).1 (nth c k).2 n (nth c 0).1 (nth c 0).2 (convN t c k g n).2.1) := by
  intro k
  induction k with
  | zero =>
    intro g n hk hr n0 n1
    have e : convN t c 0 g n = (g, n, 0) := rfl
    rw [e]
    refine .inr ⟨rfl, hr, n0, n1, fun _ => rfl, rfl, rfl, Nat.le_refl _, ?_, Kept.refl _⟩
    dsimp only
    split <;> omega
  | succ k ih =>
    intro g n hk hr n0 n1
    have hu := hc _ (nth_mem c (k + 1) hk)
    have hv := hc _ (nth_mem c k (by omega))
    unfold convN
    cases he : eqT (nth c (k + 1)).1 (nth c (k + 1)).2 (nth c k).1 (nth c k).2 with
    | true =>
      rw [if_pos rfl]
      obtain ⟨e1, e2⟩ := eqT_iff.1 he
      rw [e1, e2]
      exact ih (by omega) hr n0 n1
    | false =>
      rw [if_neg (by simp)]
      obtain ⟨hM, hR, w0, w1, q0, q1⟩ := moved_all hr (u := (nth c (k + 1)).1) (i := (nth c (k + 1)).2) (v := (nth c k).1) (j := (nth c k).2) (n := n) (most := 1000000000000) (t := t) n0 (by decide)
      have hK := kept_all hr (u := (nth c (k + 1)).1) (i := (nth c (k + 1)).2) (v := (nth c k).1) (j := (nth c k).2) (n := n) (most := 1000000000000) (t := t) n0 (by decide)
      have e : crossF g t (nth c (k + 1)).1 (nth c (k + 1)).2 (nth c k).1 (nth c k).2 n 1000000000000 = ((crossD g t (nth c (k + 1)).1 (nth c (k + 1)).2 (nth c k).1 (nth c k).2 n 1000000000000).g, n - (crossD g t (nth c (k + 1)).1 (nth c (k + 1)).2 (nth c k).1 (nth c k).2 n 1000000000000).want, 1000000000000 - (crossD g t (nth c (k + 1)).1 (nth c (k + 1)).2 (nth c k).1 (nth c k).2 n 1000000000000).left, 0) := by
        unfold crossF
        rw [if_neg (by simp [chkO_zero.2 hr]), if_neg (by simp [hu, hv, he]), if_neg (by simp [okA_iff.2 (⟨n0, n1⟩ : 0 ≤ n ∧ n ≤ 1000000000000), okA_iff.2 (⟨by decide, by decide⟩ : (0 : Int) ≤ 1000000000000 ∧ (1000000000000 : Int) ≤ 1000000000000)])]
      rw [e]
      generalize crossD g t (nth c (k + 1)).1 (nth c (k + 1)).2 (nth c k).1 (nth c k).2 n 1000000000000 = d at *
      dsimp only
      rw [if_neg (by simp)]
      by_cases hb : n - d.want < n
      · rw [if_pos hb]; exact .inl rfl
      · rw [if_neg hb]
        have hw : d.want = 0 := by omega
        rcases ih (g := d.g) (n := 1000000000000 - d.left) (by omega) hR (by omega) (by omega) with h | ⟨h, hC⟩
        · exact .inl h
        · refine .inr ⟨h, hC.right, hC.p0, hC.p1, fun b => (hC.find b).trans (hM.find b), hC.la.trans hM.la, hC.ll.trans hM.ll, Nat.le_trans hC.lo hM.lo, ?_, hK.trans hC.kept⟩
          rw [hC.tot, hM.tot, hw]
          split <;> split <;> split <;> omega
/-- What the walk of PathsDeliver asks. -/
theorem deliver_law {g : Led} (h : chkO g = 0) {a b : Int} {v : ByteArray} {j : Int} {u : ByteArray} {i : Int} {l : List TA} {n most : Int} (hf : (findA g.accs a).2 = true) (hf2 : (findA g.accs b).2 = true) (hv : assetB v j = true) (hu : assetB u i = true) (hl : ∀ x ∈ l, assetB x.1 x.2 = true) (hll : l.length ≤ 4)
    (n0 : 1 ≤ n) (n1 : n ≤ 100) (m0 : 0 ≤ most) (m1 : most ≤ 5000) :
    ∃ (x : Led) (p e c f : Int), sendF g a b v j u i l n most = (x, p, e) ∧ quoteF g a v j u i l n = (c, f) ∧
      ((¬ e = 0 ∧ x = led0 ∧ p = 0 ∧ (¬ f = 0 ∨ a = b ∨ most < c ∨ e = 70 ∨ e = 66 ∨ e = 65)) ∨
       (e = 0 ∧ f = 0 ∧ c = p ∧ p ≤ most ∧ chkO x = 0 ∧ totA x.accs = totA g.accs ∧ x.accs.length = g.accs.length ∧ x.lins.length = g.lins.length ∧ x.offs.length ≤ g.offs.length ∧ (0 ≤ heldF g b u i ∧ heldF g b u i ≤ 1000000000000) ∧
        ((∀ y ∈ g.offs, ¬ y.seller = b) → ¬ i = b → heldF x b u i = heldF g b u i + n))) := by
  have hr := chkO_zero.1 h
  have hk : okA n = true := okA_iff.2 (by omega)
  have hkm : okA most = true := okA_iff.2 (by omega)
  have hvp : validP l = true := by
    unfold validP
    rcases idxF_spec (fun a : TA => !assetB a.1 a.2) l 0 with ⟨h1, _⟩ | ⟨q, q1, q2, q3, _⟩
    · rw [h1]; simp [hll]
    · have := hl _ (nth_mem l q q1)
      simp [this] at q3
  have hi1 : idxF (fun n => !okA n) 0 [n] = -1 := by simp [idxF, hk]
  have hi2 : idxF (fun n => !okA n) 0 [n, most] = -1 := by simp [idxF, hk, hkm]
  have hn1 : nth [n] 0 = n := rfl
  have hn2 : nth [n, most] 0 = n := rfl
  have p1 : plnE g v j u i l [n] = 0 := by
    unfold plnE
    rw [if_neg (by simp [h]), hi1, hn1, if_neg (by omega), if_neg (by simp [hv, hu, hvp])]
  have p2 : plnE g v j u i l [n, most] = 0 := by
    unfold plnE
    rw [if_neg (by simp [h]), hi2, hn2, if_neg (by omega), if_neg (by simp [hv, hu, hvp])]
  have hq : quoteF g a v j u i l n = (convF g a (chainF v j u i l) n).2 := by
    unfold quoteF
    rw [if_neg (by simp [p1]), if_neg (by simp [hf])]
  refine ⟨(sendF g a b v j u i l n most).1, (sendF g a b v j u i l n most).2.1, (sendF g a b v j u i l n most).2.2, (quoteF g a v j u i l n).1, (quoteF g a v j u i l n).2, rfl, rfl, ?_⟩
  rw [hq]
  unfold sendF
  rw [if_neg (by simp [p2])]
  by_cases hab : a = b
  · rw [if_pos (.inr (.inr hab))]
    exact .inl ⟨by decide, rfl, rfl, .inr (.inl hab)⟩
  rw [if_neg (by simp [hf, hf2, hab])]
  have hchain : ∀ x ∈ chainF v j u i l, assetB x.1 x.2 = true := by
    intro x hx
    unfold chainF at hx
    simp only [List.mem_cons, List.mem_append, List.not_mem_nil, or_false] at hx
    rcases hx with rfl | hx | rfl
    · exact hv
    · exact hl x hx
    · exact hu
  have hlen : (chainF v j u i l).length = l.length + 2 := by simp [chainF]
  have hs := conv_spec (t := a) hchain ((chainF v j u i l).length - 1) (g := g) (n := n) (by omega) hr (by omega) (by omega)
  have e0 : nth (chainF v j u i l) 0 = (v, j) := rfl
  have e1 : nth (chainF v j u i l) ((chainF v j u i l).length - 1) = (u, i) := by
    rw [hlen]
    unfold chainF
    rw [show l.length + 2 - 1 = l.length + 1 by omega]
    show nth (l ++ [(u, i)]) l.length = (u, i)
    rw [nth_snoc _ _ _ (by omega), if_neg (by omega)]
  rw [e0, e1] at hs
  have ec : convN a (chainF v j u i l) ((chainF v j u i l).length - 1) g n = convF g a (chainF v j u i l) n := rfl
  rw [ec] at hs
  rcases hC : convF g a (chainF v j u i l) n with ⟨x, p, e⟩
  rw [hC] at hs
  dsimp only at hs ⊢
  rcases hs with rfl | ⟨rfl, hc⟩
  · rw [if_pos (by decide)]
    exact .inl ⟨by decide, rfl, rfl, .inl (by decide)⟩
  rw [if_neg (by simp)]
  by_cases hm : most < p
  · rw [if_pos hm]
    exact .inl ⟨by decide, rfl, rfl, .inr (.inr (.inl hm))⟩
  rw [if_neg hm]
  have hfx : (findA x.accs a).2 = true := by rw [hc.find]; exact hf
  have hfx2 : (findA x.accs b).2 = true := by rw [hc.find]; exact hf2
  have hp0 := hc.p0
  have hkp : okA p = true := okA_iff.2 (by omega)
  have hbd := look_bd hc.right.right hfx hv
  have hbd0 := look_bd hr.right hf2 hu
  unfold moveF
  rw [debit_eq hc.right.right hfx hv hkp]
  by_cases c1 : (lookF x a v j).2.2 = true ∧ p ≤ (lookF x a v j).1
  · rw [if_pos c1]
    dsimp only
    rw [if_neg (show ¬ ¬ (0 : Int) = 0 by simp)]
    have hR := right_add hc.right hfx hv (m := -p) c1.1 (by omega) (by omega)
    obtain ⟨s1, s2, s3, s4, s5, s6, s7, s8, s9, s10, s11, s12, s13, s14, s15, s16, s17, s18⟩ := addL_spec hc.right.right hfx hv (m := -p) c1.1 (by omega) (by omega)
    have hfb : (findA (addL x a v j (-p)).accs b).2 = true := by rw [s10]; exact hfx2
    have hbd2 := look_bd s1 hfb hu
    have lb := s6 b u i (fun q => hab q.1.symm)
    rw [credit_eq s1 hfb hu hk]
    by_cases c2 : (lookF (addL x a v j (-p)) b u i).2.2 = true ∧ n ≤ (lookF (addL x a v j (-p)) b u i).2.1
    · rw [if_pos c2]
      dsimp only
      rw [if_neg (show ¬ ¬ (0 : Int) = 0 by simp), if_neg (show ¬ ¬ (0 : Int) = 0 by simp)]
      have hR3 := right_add hR hfb hu (m := n) c2.1 (by omega) c2.2
      obtain ⟨t1, t2, t3, t4, t5, t6, t7, t8, t9, t10, t11, t12, t13, t14, t15, t16, t17, t18⟩ := addL_spec s1 hfb hu (m := n) c2.1 (by omega) c2.2
      refine .inr ⟨rfl, rfl, rfl, by dsimp only; omega, chkO_zero.2 hR3, ?_, by dsimp only; rw [t13, s13, hc.la], by dsimp only; rw [t14, s14, hc.ll], by dsimp only; rw [t12, s12]; exact hc.lo, ?_, fun hsell hib => ?_⟩
      · dsimp only
        rw [totA_right t1.accs, totA_right hr.right.accs]
        have hT := hc.tot
        cases q1 : nativeB v j with
        | true =>
          cases q2 : nativeB u i with
          | true => rw [(t8 q2).2, (s8 q1).2, hT, q1, q2, if_pos rfl, if_pos rfl]; omega
          | false => rw [(t7 q2).1, (s8 q1).2, hT, q1, q2, if_pos rfl, if_neg Bool.false_ne_true]; omega
        | false =>
          cases q2 : nativeB u i with
          | true => rw [(t8 q2).2, (s7 q1).1, hT, q1, q2, if_pos rfl, if_neg Bool.false_ne_true]; omega
          | false => rw [(t7 q2).1, (s7 q1).1, hT, q1, q2, if_neg Bool.false_ne_true, if_neg Bool.false_ne_true]; omega
      · rw [(held_look hr.right b u i).1]; omega
      · dsimp only
        rw [(held_look t1 b u i).1, (held_look hr.right b u i).1, t4 hib, lb, hc.kept.look b hsell]
    · rw [if_neg c2]
      dsimp only
      rw [if_pos (by cases nativeB u i <;> simp)]
      dsimp only
      rw [if_pos (by cases nativeB u i <;> simp)]
      refine .inl ⟨by cases nativeB u i <;> simp, rfl, rfl, ?_⟩
      cases nativeB u i <;> simp
  · rw [if_neg c1]
    dsimp only
    rw [if_pos (by cases (lookF x a v j).2.2 <;> simp)]
    dsimp only
    rw [if_pos (by cases (lookF x a v j).2.2 <;> simp)]
    refine .inl ⟨by cases (lookF x a v j).2.2 <;> simp, rfl, rfl, ?_⟩
    cases (lookF x a v j).2.2 <;> simp
end Go.Proofs.YteppnjgobaggaaaGreat

/- Nothing is claimed here: an element of a part of a slice; operations on the bits of numbers. -/
namespace Go.Am
set_option linter.unusedSimpArgs false
set_option linter.unusedVariables false
set_option linter.unnecessarySimpa false
set_option linter.unusedSectionVars false
set_option maxRecDepth 100000
open Go Go.RowKit Go.Proofs.Grow

section
variable {P : Program} {tbl : List (Nat × TI)} {o : Oper} {T : Nat → Option AV} {M : Nat → Option AO}
theorem step_index_sl (htb : TOK P tbl) {ty e ety : TypeId} {x y : Operand} {i j : TI} {g sz lo m n : Nat} {c : Option Nat} {k : IntKind} {q : Int} {rs : List (List D)} (ho : o.op = .indexAddr ty x y) (ht : lk tbl ty = some i) (hs : i.isS = true) (he : i.el = some e) (hj : lk tbl e = some j) (hsz : j.size = sz)
    (hx : evA T x = some (.sl g sz lo m c)) (hg : M g = some (.arr ety sz rs)) (hy : evA T y = some (.d (.v (.int k q)))) (hq : q = (n : Int)) (hn : n < m) : StepOK P o T M ⟨.elt g sz (lo + n) 0, [g], []⟩ :=
  step_read [g] fun cx μ T' M' a w h hT hM => by
    subst hq
    subst hsz
    rw [← hM g (by simp)] at hg
    have h1 := h.ev (x := x) hT (by simp [ho, Op.operands]) hx
    have h2 := (h.ev (x := y) hT (by simp [ho, Op.operands]) hy).val
    have hg' : M' g = some (mkO ety j.size none rs) := hg
    obtain ⟨ad, m', cap, xs, q1, q2, q3, q4, q5, q6, _⟩ := h.cells hg'
    generalize hv : a.eval x = v at h1
    cases h1 with
    | @sl _ _ _ _ _ ad2 p m2 cap2 k2 hb hk hnk hc ha =>
      rw [q1] at hb
      obtain ⟨rfl, rfl, rfl⟩ : ad = ad2 ∧ m' = m2 ∧ cap = cap2 := by simpa using hb
      cases ad with
      | none => have := q5 rfl; omega
      | some z =>
        obtain ⟨b, cur, rfl, c1, c2, c3⟩ := q6 z rfl
        have hp : p = some ⟨b, lo * j.size, none⟩ := by
          rcases ha with rfl | ⟨e, _⟩
          · simp [addr_add]
          · omega
        subst hp
        have hrun := run_indexSlice htb ht hs he hj (b := b) (off := lo * j.size) (len := m) (cap := k2) (k := k) hn w
        have e : lo * j.size + n * j.size = (lo + n) * j.size + 0 := by rw [Nat.add_mul, Nat.add_zero]
        rw [e] at hrun
        exact ⟨.pointer (some ⟨b, (lo + n) * j.size + 0, none⟩), by simp only [execOp, ho, hv, h2, Sem.run_bind, hrun, Result.andThen_ok, Sem.run_pure], .elt q1⟩
theorem step_bits {op : BinOp} {t t' : TypeId} {x y : Operand} {a b : Int} {r : Value} (ho : o.op = .binOp op t x y t') (hx : evA T x = some (.d (.v (.int .i64 a)))) (hy : evA T y = some (.d (.v (.int .i64 b))))
    (hr : ∀ w, (binOp op t (.int .i64 a) (.int .i64 b)).run P w = .ok r w) : StepOK P o T M ⟨.d (.v r), [], []⟩ :=
  step_read [] fun cx μ T' M' ac w h hT _ => by
    have h1 := (h.ev (x := x) hT (by simp [ho, Op.operands]) hx).val
    have h2 := (h.ev (x := y) hT (by simp [ho, Op.operands]) hy).val
    refine ⟨r, ?_, .d (.v r)⟩
    simp only [execOp, ho, h1, h2, Sem.run_bind, run_guard_int, Result.andThen_ok, hr, Sem.run_pure]
end
section
variable {cx : Cx} {T : List (Nat × AV)} {M : List (Nat × AO)}
/-- A slice of the call's own gets another name. -/
theorem Le_own (t g' : Nat) {g ty sz : Nat} {rs : List (List D)} (ht : lk T t = some (.own g)) (hg : lk M g = some (.arr ty sz rs)) (hg' : lk M g' = none) : Le cx ⟨T, M⟩ ⟨(t, .own g') :: T, (g', .arr ty sz rs) :: (g, .dead) :: M⟩ := by
  rintro a w ⟨μ, h⟩
  obtain ⟨v, xs, h1, h2, h3, h4, h5⟩ := h.ob g _ hg
  have hv := h.tm t _ ht
  generalize hvv : a.tmps.getD t undef = u at hv
  cases hv with
  | @own _ p m2 c2 hb =>
    rw [h1] at hb
    obtain rfl : v = .slice p m2 c2 := by simpa using hb
    have h6 := h.append (w2 := w) (g' := g') (rs' := rs) (v' := .slice p m2 c2) (ys := xs) hg rfl h1 hg' (Chg.refl _ _) (fun b' hb' => .inl hb') h2 h3 h5 (fun H' hk => h4.mono hk)
    have e2 : upM (lk M) [(g', .arr ty sz rs), (g, .dead)] = lk ((g', .arr ty sz rs) :: (g, .dead) :: M) := by
      funext x
      simp only [upM, lk]
      cases Nat.beq g' x <;> cases Nat.beq g x <;> rfl
    rw [e2] at h6
    refine ⟨_, h6.slot ?_⟩
    rw [hvv]
    exact .own (upμ_self _ _)
/-- A row that is a nil slice. -/
theorem Le_nilrow (g sz : Nat) {ty : Nat} (hg : lk M g = some (.arr ty 1 [[.v (.slice none 0 0)]])) : Le cx ⟨T, M⟩ ⟨T, (g, .arr ty 1 [[.rows sz []]]) :: M⟩ := by
  rintro a w ⟨μ, h⟩
  obtain ⟨v, xs, h1, h2, h3, h4, h5⟩ := h.ob g _ hg
  have h6 := h.swap (o' := .arr ty 1 [[.rows sz []]]) hg rfl rfl fun H' hk => by
    refine ⟨v, xs, h1, h2, by simp, ⟨h4.1, fun i c u hc hu => ?_⟩, h5⟩
    have hi : i = 0 := by
      have := (List.getElem?_eq_some_iff.1 hc).1
      simp at this; exact this
    subst hi
    obtain rfl : D.rows sz [] = c := by simpa using hc
    have hu2 := h4.2 0 (.v (.slice none 0 0)) u rfl hu
    cases hu2
    exact .nil sz none 0 (fun _ => rfl)
  rw [upM_cons] at h6
  exact ⟨μ, h6⟩
end
section
variable {P : Program} {tbl : List (Nat × TI)} {ops r : List Oper} {o : Oper} {fin : List (List Nat × List Nat) → List (Nat × AV) → List (Nat × AO) → Prop} {acc : List (List Nat × List Nat)} {T : List (Nat × AV)} {M : List (Nat × AO)}
theorem WD_ixs (htb : TOK P tbl) {d : Tmp} {ty e ety : TypeId} {x y : Operand} {i j : TI} {g sz lo m n : Nat} {c : Option Nat} {kk : IntKind} {q : Int} {rs : List (List D)} (k : WD P ops fin r (([g], []) :: acc) ((d, .elt g sz (lo + n) 0) :: T) M) (ho : o.op = .indexAddr ty x y := by exact rfl)
    (hg : gd ops T o = some true := by exact rfl) (hd : o.dst = some d := by exact rfl) (ht : lk tbl ty = some i := by exact rfl) (hs : i.isS = true := by exact rfl) (he : i.el = some e := by exact rfl) (hj : lk tbl e = some j := by exact rfl) (hsz : j.size = sz := by exact rfl)
    (hx : evA (lk T) x = some (.sl g sz lo m c) := by exact rfl) (hM : lk M g = some (.arr ety sz rs) := by exact rfl) (hy : evA (lk T) y = some (.d (.v (.int kk q))) := by exact rfl) (hq : q = (n : Int) := by exact nat_q) (hn : n < m := by exact len) : WD P ops fin (o :: r) acc T M :=
  WD_dv hg hd (step_index_sl htb ho ht hs he hj hsz hx hM hy hq hn) k
end
end Go.Am

/- Plain functions and the plain law of PathsBest. No program stands here. -/
namespace Go.Proofs.YteppnjgobaggaaaGreat
set_option linter.unusedSimpArgs false
set_option linter.unusedVariables false
set_option linter.unnecessarySimpa false
set_option linter.unusedSectionVars false
set_option maxRecDepth 100000
open Go Go.RowKit Go.Am Go.Proofs.Grow

def ordT (x y : TA) : Int := ordA x.1 x.2 y.1 y.2
def swpT (l : List TA) (j : Nat) : List TA := (l.set (j + 1) (nth l j)).set j (nth l (j + 1))
/-- What an insertion does, from the place j down. -/
def bubT : Nat → List TA → List TA
  | 0, l => l
  | j + 1, l => if ordT (nth l (j + 1)) (nth l j) < 0 then bubT j (swpT l j) else l
def sorT (l : List TA) : Nat → List TA
  | 0 => l
  | i + 1 => bubT (i + 1) (sorT l i)
def sorF (l : List TA) : List TA := sorT l (l.length - 1)
theorem swpT_len (l : List TA) (j : Nat) : (swpT l j).length = l.length := by simp [swpT]
theorem swpT_mem {l : List TA} {j : Nat} (h : j + 1 < l.length) (x : TA) : x ∈ swpT l j ↔ x ∈ l := by
  constructor
  · intro hx
    unfold swpT at hx
    rcases List.mem_or_eq_of_mem_set hx with q | q
    · rcases List.mem_or_eq_of_mem_set q with q | q
      · exact q
      · rw [q]; exact nth_mem l j (by omega)
    · rw [q]; exact nth_mem l (j + 1) h
  · intro hx
    obtain ⟨p, hp, rfl⟩ := mem_nth hx
    have e : ∀ q, q < l.length → nth (swpT l j) q = if j = q then nth l (j + 1) else if j + 1 = q then nth l j else nth l q := by
      intro q hq
      unfold swpT
      rw [nth_set _ _ _ q (by simpa using hq), nth_set _ _ _ q hq]
    by_cases h1 : p = j
    · have := e (j + 1) h
      rw [if_neg (by omega), if_pos rfl] at this
      rw [h1, ← this]; exact nth_mem _ _ (by rw [swpT_len]; omega)
    · by_cases h2 : p = j + 1
      · have := e j (by omega)
        rw [if_pos rfl] at this
        rw [h2, ← this]; exact nth_mem _ _ (by rw [swpT_len]; omega)
      · have := e p hp
        rw [if_neg (by omega), if_neg (by omega)] at this
        rw [← this]; exact nth_mem _ _ (by rw [swpT_len]; omega)
theorem bubT_len : ∀ (j : Nat) (l : List TA), (bubT j l).length = l.length
  | 0, l => rfl
  | j + 1, l => by
    unfold bubT
    split
    · rw [bubT_len j, swpT_len]
    · rfl
theorem bubT_mem (x : TA) : ∀ (j : Nat) (l : List TA), j < l.length → (x ∈ bubT j l ↔ x ∈ l)
  | 0, l, _ => Iff.rfl
  | j + 1, l, h => by
    unfold bubT
    split
    · rw [bubT_mem x j _ (by rw [swpT_len]; omega), swpT_mem h]
    · exact Iff.rfl
theorem sorT_len (l : List TA) : ∀ i, (sorT l i).length = l.length
  | 0 => rfl
  | i + 1 => by rw [sorT, bubT_len, sorT_len l i]
theorem sorT_mem (x : TA) (l : List TA) : ∀ i, i ≤ l.length - 1 → (x ∈ sorT l i ↔ x ∈ l)
  | 0, _ => Iff.rfl
  | i + 1, h => by rw [sorT, bubT_mem x _ _ (by rw [sorT_len]; omega), sorT_mem x l i (by omega)]
theorem sorF_len (l : List TA) : (sorF l).length = l.length := sorT_len l _
theorem sorF_mem (x : TA) (l : List TA) : x ∈ sorF l ↔ x ∈ l := sorT_mem x l _ (Nat.le_refl _)

/-- What is left of the first m, neighbours that are equal told once. -/
def ddN (l : List TA) : Nat → List TA
  | 0 => []
  | 1 => [nth l 0]
  | m + 2 => if eqT (nth l (m + 1)).1 (nth l (m + 1)).2 (nth l m).1 (nth l m).2 = true then ddN l (m + 1) else ddN l (m + 1) ++ [nth l (m + 1)]
def ddF (l : List TA) : List TA := ddN l l.length
theorem ddN_len (l : List TA) : ∀ m, (ddN l m).length ≤ m
  | 0 => Nat.le_refl _
  | 1 => Nat.le_refl _
  | m + 2 => by
    unfold ddN
    have := ddN_len l (m + 1)
    split
    · omega
    · simp; omega
theorem ddN_pos (l : List TA) : ∀ m, 0 < m → 0 < (ddN l m).length
  | 0, h => h
  | 1, _ => by simp [ddN]
  | m + 2, _ => by
    unfold ddN
    have := ddN_pos l (m + 1) (by omega)
    split
    · omega
    · simp
theorem ddN_in (l : List TA) : ∀ m p, p < m → nth l p ∈ ddN l m
  | 0, p, h => by omega
  | 1, p, h => by obtain rfl : p = 0 := by omega
                  simp [ddN]
  | m + 2, p, h => by
    unfold ddN
    have ih := ddN_in l (m + 1)
    split
    · rename_i he
      obtain ⟨e1, e2⟩ := eqT_iff.1 he
      by_cases hp : p = m + 1
      · have : nth l (m + 1) = nth l m := Prod.ext e1 e2
        rw [hp, this]; exact ih m (by omega)
      · exact ih p (by omega)
    · by_cases hp : p = m + 1
      · subst hp; simp
      · exact List.mem_append_left _ (ih p (by omega))
theorem ddF_in {l : List TA} {x : TA} (h : x ∈ l) : x ∈ ddF l := by
  obtain ⟨p, hp, rfl⟩ := mem_nth h
  exact ddN_in l _ p hp
theorem ddF_len (l : List TA) : (ddF l).length ≤ l.length := ddN_len l _

def prsF (l : List Off) : List TA := l.flatMap fun o => [(o.sc, o.si), (o.bc, o.bi)]
def knownF (g : Led) : List TA := ddF (sorF (prsF g.offs))
theorem prsF_len (l : List Off) : (prsF l).length = 2 * l.length := by
  induction l with
  | nil => rfl
  | cons o r ih =>
    have : prsF (o :: r) = (o.sc, o.si) :: (o.bc, o.bi) :: prsF r := by simp [prsF]
    rw [this]; simp only [List.length_cons, ih]; omega
theorem knownF_len (g : Led) : (knownF g).length ≤ 2 * g.offs.length := by
  have := ddF_len (sorF (prsF g.offs))
  rw [sorF_len, prsF_len] at this
  exact this
theorem knownF_in {g : Led} {o : Off} (h : o ∈ g.offs) {x : TA} (hx : x = (o.sc, o.si) ∨ x = (o.bc, o.bi)) : x ∈ knownF g := by
  refine ddF_in ((sorF_mem _ _).2 ?_)
  unfold prsF
  rw [List.mem_flatMap]
  exact ⟨o, h, by rcases hx with rfl | rfl <;> simp⟩
def cand1 (all : List TA) (k : Nat) : List (List TA) := [] :: (all.take k).map fun a => [a]
def cand2 (all : List TA) (k m : Nat) : List (List TA) := cand1 all all.length ++ ((all.take k).flatMap fun a => all.map fun b => [a, b]) ++ (all.take m).map fun b => [nth all k, b]
def candF (all : List TA) : List (List TA) := cand2 all all.length 0
theorem cand1_len (all : List TA) (k : Nat) : (cand1 all k).length ≤ all.length + 1 := by
  simp only [cand1, List.length_cons, List.length_map, List.length_take]; omega
theorem flat_len (all : List TA) : ∀ l : List TA, (l.flatMap fun a => all.map fun b => [a, b]).length = l.length * all.length
  | [] => by simp
  | a :: r => by
    rw [List.flatMap_cons, List.length_append, flat_len all r, List.length_map, List.length_cons, Nat.succ_mul]; omega
theorem cand2_len (all : List TA) (k m : Nat) (h : all.length ≤ 10) : (cand2 all k m).length ≤ 121 := by
  have h1 := cand1_len all all.length
  have h2 : (all.take k).length ≤ 10 := by rw [List.length_take]; omega
  have h3 : ((all.take k).flatMap fun a => all.map fun b => [a, b]).length ≤ 100 := by
    rw [flat_len]; exact Nat.le_trans (Nat.mul_le_mul h2 h) (by decide)
  simp only [cand2, List.length_append, List.length_map, List.length_take]
  omega
theorem cand1_next {all : List TA} {k : Nat} (h : k < all.length) : cand1 all (k + 1) = cand1 all k ++ [[nth all k]] := by
  unfold cand1
  rw [List.take_add_one, List.getElem?_eq_getElem h, nth_getElem _ _ h]
  simp only [List.map_append, Option.toList_some, List.map_cons, List.map_nil, List.cons_append]
theorem cand2_next {all : List TA} {k m : Nat} (h : m < all.length) : cand2 all k (m + 1) = cand2 all k m ++ [[nth all k, nth all m]] := by
  unfold cand2
  rw [List.take_add_one, List.getElem?_eq_getElem h, nth_getElem _ m h]
  simp only [List.map_append, Option.toList_some, List.map_cons, List.map_nil, List.append_assoc]
theorem cand2_row {all : List TA} {k : Nat} (h : k < all.length) : cand2 all (k + 1) 0 = cand2 all k all.length := by
  unfold cand2
  rw [List.take_add_one, List.getElem?_eq_getElem h, nth_getElem _ k h, List.take_length]
  simp only [List.flatMap_append, Option.toList_some, List.flatMap_cons, List.flatMap_nil, List.take_zero, List.map_nil, List.append_nil, List.append_assoc]
theorem candF_one {all : List TA} {x : TA} (h : x ∈ all) : [x] ∈ candF all := by
  unfold candF cand2 cand1
  simp [h]
theorem candF_two {all : List TA} {p : List TA} (h : p ∈ candF all) : p.length ≤ 2 := by
  unfold candF cand2 cand1 at h
  simp only [List.take_length, List.take_zero, List.map_nil, List.append_nil, List.mem_append, List.mem_cons, List.mem_map, List.mem_flatMap] at h
  rcases h with (rfl | ⟨a, _, rfl⟩) | ⟨a, _, b, _, rfl⟩ <;> simp
theorem candF_nil (all : List TA) : nth (candF all) 0 = [] ∧ 0 < (candF all).length := by
  unfold candF cand2 cand1
  exact ⟨rfl, by simp⟩

def bstS (q : List TA → Int × Int) (s : List TA × Int × Bool) (p : List TA) : List TA × Int × Bool := if (q p).2 = 0 ∧ (s.2.2 = false ∨ (q p).1 < s.2.1) then (p, (q p).1, true) else s
def bstN (q : List TA → Int × Int) (ps : List (List TA)) : Nat → List TA × Int × Bool
  | 0 => ([], 0, false)
  | k + 1 => bstS q (bstN q ps k) (nth ps k)
theorem bst_no {q : List TA → Int × Int} {ps : List (List TA)} : ∀ k, (bstN q ps k).2.2 = false → ∀ i, i < k → ¬ (q (nth ps i)).2 = 0
  | 0, _, i, h => by omega
  | k + 1, hf, i, h => by
    unfold bstN bstS at hf
    split at hf
    · cases hf
    · rename_i hc
      by_cases hi : i = k
      · subst hi
        intro h0
        exact hc ⟨h0, .inl hf⟩
      · exact bst_no k hf i (by omega)
theorem bst_yes {q : List TA → Int × Int} {ps : List (List TA)} : ∀ k, k ≤ ps.length → (bstN q ps k).2.2 = true → (bstN q ps k).1 ∈ ps ∧ q (bstN q ps k).1 = ((bstN q ps k).2.1, 0) ∧ ∀ i, i < k → (q (nth ps i)).2 = 0 → (bstN q ps k).2.1 ≤ (q (nth ps i)).1
  | 0, _, h => by cases h
  | k + 1, hk, h => by
    by_cases hc : (q (nth ps k)).2 = 0 ∧ ((bstN q ps k).2.2 = false ∨ (q (nth ps k)).1 < (bstN q ps k).2.1)
    · have e : bstN q ps (k + 1) = (nth ps k, (q (nth ps k)).1, true) := by rw [bstN, bstS, if_pos hc]
      rw [e]
      refine ⟨nth_mem ps k (by omega), Prod.ext rfl hc.1, fun i hi h0 => ?_⟩
      dsimp only
      by_cases hik : i = k
      · subst hik; exact Int.le_refl _
      · rcases hc.2 with h1 | h1
        · exact absurd h0 (bst_no k h1 i (by omega))
        · cases h2 : (bstN q ps k).2.2 with
          | false => exact absurd h0 (bst_no k h2 i (by omega))
          | true => have := (bst_yes k (by omega) h2).2.2 i (by omega) h0; omega
    · have e : bstN q ps (k + 1) = bstN q ps k := by rw [bstN, bstS, if_neg hc]
      rw [e] at h ⊢
      obtain ⟨h1, h2, h3⟩ := bst_yes k (by omega) h
      refine ⟨h1, h2, fun i hi h0 => ?_⟩
      by_cases hik : i = k
      · subst hik
        refine Classical.byContradiction fun hn => hc ⟨h0, .inr (by omega)⟩
      · exact h3 i (by omega) h0
theorem bst_tie {q : List TA → Int × Int} {ps : List (List TA)} (h0 : nth ps 0 = []) (hq : (q []).2 = 0) : ∀ k, (bstN q ps (k + 1)).2.2 = true ∧ ((bstN q ps (k + 1)).1 = [] ∧ (bstN q ps (k + 1)).2.1 = (q []).1 ∨ (bstN q ps (k + 1)).2.1 < (q []).1)
  | 0 => by
    have e : bstN q ps (0 + 1) = ([], (q []).1, true) := by rw [bstN, bstS, h0, if_pos ⟨hq, .inl rfl⟩]
    rw [e]; exact ⟨rfl, .inl ⟨rfl, rfl⟩⟩
  | k + 1 => by
    obtain ⟨h1, h2⟩ := bst_tie h0 hq k
    by_cases hc : (q (nth ps (k + 1))).2 = 0 ∧ ((bstN q ps (k + 1)).2.2 = false ∨ (q (nth ps (k + 1))).1 < (bstN q ps (k + 1)).2.1)
    · have e : bstN q ps (k + 1 + 1) = (nth ps (k + 1), (q (nth ps (k + 1))).1, true) := by rw [bstN, bstS, if_pos hc]
      rw [e]
      refine ⟨rfl, .inr ?_⟩
      dsimp only
      rcases hc.2 with h3 | h3
      · rw [h1] at h3; cases h3
      · rcases h2 with ⟨_, h2⟩ | h2 <;> omega
    · have e : bstN q ps (k + 1 + 1) = bstN q ps (k + 1) := by rw [bstN, bstS, if_neg hc]
      rw [e]; exact ⟨h1, h2⟩
def bestF (g : Led) (b : Int) (v : ByteArray) (j : Int) (u : ByteArray) (i n : Int) : List TA × Int × Int :=
  if (bstN (fun p => quoteF g b v j u i p n) (candF (knownF g)) (candF (knownF g)).length).2.2 = false then ([], 0, (quoteF g b v j u i [] n).2)
  else ((bstN (fun p => quoteF g b v j u i p n) (candF (knownF g)) (candF (knownF g)).length).1, (bstN (fun p => quoteF g b v j u i p n) (candF (knownF g)) (candF (knownF g)).length).2.1, 0)
def tradedB (l : List Off) (w : ByteArray) (m : Int) : Bool := l.any fun o => eqT o.sc o.si w m || eqT o.bc o.bi w m
/-- What the walk of PathsBest asks. -/
theorem best_law {g : Led} (h : chkO g = 0) {a : Int} {v : ByteArray} {j : Int} {u : ByteArray} {i n : Int} (hf : (findA g.accs a).2 = true) (hv : assetB v j = true) (hu : assetB u i = true) (n0 : 1 ≤ n) (n1 : n ≤ 60) :
    ∃ (l : List TA) (cost e d f : Int), bestF g a v j u i n = (l, cost, e) ∧ quoteF g a v j u i [] n = (d, f) ∧ l.length ≤ 2 ∧
      ((e = 73 ∧ f = 73) ∨ (e = 0 ∧ quoteF g a v j u i l n = (cost, 0) ∧ (f = 0 → ¬ d < cost ∧ (d = cost → l.length = 0)) ∧
        ∀ (w : ByteArray) (m c k : Int), quoteF g a v j u i [(w, m)] n = (c, k) → k = 0 → tradedB g.offs w m = true → ¬ c < cost)) := by
  have hr := chkO_zero.1 h
  have hk : okA n = true := okA_iff.2 (by omega)
  have hi1 : idxF (fun n => !okA n) 0 [n] = -1 := by simp [idxF, hk]
  have hn1 : nth [n] 0 = n := rfl
  have hp : validP [] = true := by simp [validP, idxF]
  have p1 : plnE g v j u i [] [n] = 0 := by
    unfold plnE
    rw [if_neg (by simp [h]), hi1, hn1, if_neg (by omega), if_neg (by simp [hv, hu, hp])]
  have hq0 : quoteF g a v j u i [] n = (convF g a (chainF v j u i []) n).2 := by
    unfold quoteF
    rw [if_neg (by simp [p1]), if_neg (by simp [hf])]
  have hchain : ∀ x ∈ chainF v j u i [], assetB x.1 x.2 = true := by simp [chainF, hv, hu]
  have hs := conv_spec (t := a) hchain ((chainF v j u i []).length - 1) (g := g) (n := n) (by simp [chainF]) hr (by omega) (by omega)
  have ec : convN a (chainF v j u i []) ((chainF v j u i []).length - 1) g n = convF g a (chainF v j u i []) n := rfl
  rw [ec] at hs
  have hE : (quoteF g a v j u i [] n).2 = 73 ∨ (quoteF g a v j u i [] n).2 = 0 := by
    rw [hq0]
    rcases hs with h1 | ⟨h1, _⟩
    · exact .inl h1
    · exact .inr h1
  obtain ⟨c0, c1⟩ := candF_nil (knownF g)
  obtain ⟨N, hN⟩ : ∃ N, (candF (knownF g)).length = N + 1 := ⟨_, (Nat.succ_pred_eq_of_pos c1).symm⟩
  have hB : bestF g a v j u i n = if (bstN (fun p => quoteF g a v j u i p n) (candF (knownF g)) (N + 1)).2.2 = false then ([], 0, (quoteF g a v j u i [] n).2)
      else ((bstN (fun p => quoteF g a v j u i p n) (candF (knownF g)) (N + 1)).1, (bstN (fun p => quoteF g a v j u i p n) (candF (knownF g)) (N + 1)).2.1, 0) := by
    unfold bestF; rw [hN]
  have hno := @bst_no (fun p => quoteF g a v j u i p n) (candF (knownF g)) (N + 1)
  have hyes := @bst_yes (fun p => quoteF g a v j u i p n) (candF (knownF g)) (N + 1) (by omega)
  have htie := fun hq => @bst_tie (fun p => quoteF g a v j u i p n) (candF (knownF g)) c0 hq N
  generalize bstN (fun p => quoteF g a v j u i p n) (candF (knownF g)) (N + 1) = s at *
  obtain ⟨l, cost, b⟩ := s
  dsimp only at *
  cases b with
  | false =>
    rw [if_pos rfl] at hB
    have h0 := hno rfl 0 (by omega)
    rw [c0] at h0
    have h73 : (quoteF g a v j u i [] n).2 = 73 := by
      rcases hE with h1 | h1
      · exact h1
      · exact absurd h1 h0
    exact ⟨[], 0, 73, (quoteF g a v j u i [] n).1, 73, by rw [hB, h73], Prod.ext rfl h73, by simp, .inl ⟨rfl, rfl⟩⟩
  | true =>
    rw [if_neg (by simp)] at hB
    obtain ⟨h1, h2, h3⟩ := hyes rfl
    refine ⟨l, cost, 0, (quoteF g a v j u i [] n).1, (quoteF g a v j u i [] n).2, hB, rfl, candF_two h1, .inr ⟨rfl, h2, fun hf0 => ?_, fun w m c k hq hk0 ht => ?_⟩⟩
    · obtain ⟨_, h4⟩ := htie hf0
      rcases h4 with ⟨h4, h5⟩ | h4
      · exact ⟨by omega, fun _ => by rw [h4]; rfl⟩
      · exact ⟨by omega, fun h5 => by omega⟩
    · unfold tradedB at ht
      rw [List.any_eq_true] at ht
      obtain ⟨o, ho, hw⟩ := ht
      have hmem : [(w, m)] ∈ candF (knownF g) := by
        refine candF_one (knownF_in ho ?_)
        simp only [Bool.or_eq_true] at hw
        rcases hw with hw | hw
        · obtain ⟨rfl, rfl⟩ := eqT_iff.1 hw; exact .inl rfl
        · obtain ⟨rfl, rfl⟩ := eqT_iff.1 hw; exact .inr rfl
      obtain ⟨p, hp1, hp2⟩ := mem_nth hmem
      have := h3 p (by omega) (by rw [hp2, hq]; exact hk0)
      rw [hp2, hq] at this
      dsimp only at this
      omega
end Go.Proofs.YteppnjgobaggaaaGreat

/- Contracts of slices.SortFunc and slices.Compact at assets. -/
namespace Go.Proofs.YteppnjgobaggaaaGreat
set_option linter.unusedSimpArgs false
set_option linter.unusedVariables false
set_option linter.unnecessarySimpa false
set_option linter.unusedSectionVars false
set_option maxRecDepth 100000
open Go Go.RowKit Go.Am Go.Proofs.Grow

theorem swpT_rows (m : List TA) (j : Nat) : ((m.map rT).set (j + 1) (rT (nth m j))).set j (rT (nth m (j + 1))) = (swpT m j).map rT := by
  unfold swpT; rw [List.map_set, List.map_set]
set_option maxHeartbeats 1000000 in
theorem insT_pm (l : List TA) (n : Nat) (hl : l.length ≤ 1000) (hn : n = l.length) : FnM Tryz.prog 193 [(60, .arr 37 2 (l.map rT))] [.own 60, vI 0, vI n, .clo 162 []] (.tup []) [(60, .arr 37 2 ((sorF l).map rT))] := by
  subst hn
  refine FnM.of htb Tryz.func193 rfl rfl rfl rfl rfl fun cx hN h0 => ?_
  (repeat' (first | ((with_reducible apply WD_id); first | (refine WD_sum ?_) | (refine WD_nxt htb (by exact rfl) ?_) | (refine WD_unk (by exact rfl) ?_; first | (refine WD_t (by exact rfl) (by exact rfl) (by exact known) fun hb => ?_; rw [hb]; clear hb) | (refine WD_f (by exact rfl) (by exact rfl) (by exact known) fun hb => ?_; rw [hb]; clear hb) | ((refine WD_tf (by exact rfl) (by exact rfl) ?_ ?_) <;> (intro hb; (fail_if_success (with_reducible injection hb)); rw [hb]; (try simp only [List.length_map] at hb)))) | (refine WD_idx htb ?_) | (refine WD_idxo htb ?_) | (refine WD_lde1 htb ?_) | (refine WD_lde htb ?_) | (refine WD_ste htb ?_) | (refine WD_ap htb ?_) | (refine WD_ap0 htb ?_) | (refine WD_nil htb ?_) | (refine WD_nilr htb ?_) | (refine WD_rem ?_) | (refine WD_quo ?_) | (refine WD_slc htb ?_) | (refine WD_ixa htb ?_) | (refine WD_ix1 htb ?_) | (refine WD_cut htb ?_) | (refine WD_cut3 htb ?_) | (refine WD_lens htb ?_) | (refine WD_caps htb ?_) | (refine WD_cps htb ?_) | (refine WD_cpp htb ?_) | (refine WD_api htb ?_) | (refine WD_apz htb ?_) | (refine WD_clr htb ?_) | (refine WD_ixs htb ?_) | (refine WD_t (by exact rfl) (by exact rfl) (by exact known) fun hb => ?_; rw [hb]; clear hb) | (refine WD_f (by exact rfl) (by exact rfl) (by exact known) fun hb => ?_; rw [hb]; clear hb) | ((refine WD_tf (by exact rfl) (by exact rfl) ?_ ?_) <;> (intro hb; (fail_if_success (with_reducible injection hb)); rw [hb]; (try simp only [List.length_map] at hb)))) | (with_reducible apply WA_seq) | ((with_reducible apply gR hmix hN); exact (by kernel_rfl); (try dsimp only [List.append_eq, List.cons_append, List.nil_append])) | ((with_reducible apply WD_end); (first | exact no_draw | (intro _; kernel_rfl)); try simp only [thn, inB, List.length_map, List.cons_append, List.nil_append]) | ((with_reducible apply gCt); exact rfl; exact rfl) | ((with_reducible apply gCf); exact rfl; exact rfl) | ((with_reducible apply gCk); exact rfl; exact known; intro hb; rw [hb]; clear hb) | ((with_reducible apply gCn); exact rfl; exact known; intro hb; rw [hb]; clear hb) | (((with_reducible apply gC2); exact rfl) <;> (intro hb; rw [hb])) | (with_reducible apply WA_block) | ((with_reducible first | apply WA_skip | apply WA_ret | apply WA_exit | apply WA_label); try simp only [thn, inB, List.length_map, List.cons_append, List.nil_append])))
  (refine WA_forV (l.length) [8] [60] (fun k => [(8, vI ((k : Int) + 1))]) (fun k => [(60, .arr 37 2 ((sorT l k).map rT))]) (fun k => k ≤ l.length - 1) ?h0 ?_)
  case h0 => exact Nat.zero_le _
  intro k hk hI
  have hlen := sorT_len l k
  by_cases hk1 : k + 1 < l.length
  · have d1 : decide ((k : Int) + 1 < (l.length : Int)) = true := by simp only [decide_eq_true_eq]; omega
    (repeat' (first | ((with_reducible apply WD_id); first | (refine WD_sum ?_) | (refine WD_nxt htb (by exact rfl) ?_) | (refine WD_unk (by exact rfl) ?_; first | (refine WD_t (by exact rfl) (by exact rfl) (by exact known) fun hb => ?_; rw [hb]; clear hb) | (refine WD_f (by exact rfl) (by exact rfl) (by exact known) fun hb => ?_; rw [hb]; clear hb) | ((refine WD_tf (by exact rfl) (by exact rfl) ?_ ?_) <;> (intro hb; (fail_if_success (with_reducible injection hb)); rw [hb]; (try simp only [List.length_map] at hb)))) | (refine WD_idx htb ?_) | (refine WD_idxo htb ?_) | (refine WD_lde1 htb ?_) | (refine WD_lde htb ?_) | (refine WD_ste htb ?_) | (refine WD_ap htb ?_) | (refine WD_ap0 htb ?_) | (refine WD_nil htb ?_) | (refine WD_nilr htb ?_) | (refine WD_rem ?_) | (refine WD_quo ?_) | (refine WD_slc htb ?_) | (refine WD_ixa htb ?_) | (refine WD_ix1 htb ?_) | (refine WD_cut htb ?_) | (refine WD_cut3 htb ?_) | (refine WD_lens htb ?_) | (refine WD_caps htb ?_) | (refine WD_cps htb ?_) | (refine WD_cpp htb ?_) | (refine WD_api htb ?_) | (refine WD_apz htb ?_) | (refine WD_clr htb ?_) | (refine WD_ixs htb ?_) | (refine WD_t (by exact rfl) (by exact rfl) (by exact known) fun hb => ?_; rw [hb]; clear hb) | (refine WD_f (by exact rfl) (by exact rfl) (by exact known) fun hb => ?_; rw [hb]; clear hb) | ((refine WD_tf (by exact rfl) (by exact rfl) ?_ ?_) <;> (intro hb; (fail_if_success (with_reducible injection hb)); rw [hb]; (try simp only [List.length_map] at hb)))) | (with_reducible apply WA_seq) | ((with_reducible apply gR hmix hN); exact (by kernel_rfl); (try dsimp only [List.append_eq, List.cons_append, List.nil_append])) | ((with_reducible apply WD_end); (first | exact no_draw | (intro _; kernel_rfl)); try simp only [thn, inB, List.length_map, List.cons_append, List.nil_append]) | ((with_reducible apply gCt); exact rfl; exact rfl) | ((with_reducible apply gCf); exact rfl; exact rfl) | ((with_reducible apply gCk); exact rfl; exact known; intro hb; rw [hb]; clear hb) | ((with_reducible apply gCn); exact rfl; exact known; intro hb; rw [hb]; clear hb) | (((with_reducible apply gC2); exact rfl) <;> (intro hb; rw [hb])) | (with_reducible apply WA_block) | ((with_reducible first | apply WA_skip | apply WA_ret | apply WA_exit | apply WA_label); try simp only [thn, inB, List.length_map, List.cons_append, List.nil_append])))
    (refine WA_anyV (α := Nat × List TA) (fun x => x.1) ((k + 1, sorT l k)) [9] [60] (fun x => [(9, vI x.1)]) (fun x => [(60, .arr 37 2 (x.2.map rT))]) (fun x => bubT x.1 x.2 = sorT l (k + 1) ∧ x.2.length = l.length ∧ x.1 ≤ k + 1) ?h0 ?_)
    case h0 => exact ⟨rfl, hlen, Nat.le_refl _⟩
    rintro ⟨j, m⟩ ⟨h1, h2, h3⟩
    dsimp only at h1 h2 h3
    cases j with
    | zero =>
      have d2 : decide (((0 : Nat) : Int) > 0) = false := by decide
      (repeat' (first | ((with_reducible apply WD_id); first | (refine WD_sum ?_) | (refine WD_nxt htb (by exact rfl) ?_) | (refine WD_unk (by exact rfl) ?_; first | (refine WD_t (by exact rfl) (by exact rfl) (by exact known) fun hb => ?_; rw [hb]; clear hb) | (refine WD_f (by exact rfl) (by exact rfl) (by exact known) fun hb => ?_; rw [hb]; clear hb) | ((refine WD_tf (by exact rfl) (by exact rfl) ?_ ?_) <;> (intro hb; (fail_if_success (with_reducible injection hb)); rw [hb]; (try simp only [List.length_map] at hb)))) | (refine WD_idx htb ?_) | (refine WD_idxo htb ?_) | (refine WD_lde1 htb ?_) | (refine WD_lde htb ?_) | (refine WD_ste htb ?_) | (refine WD_ap htb ?_) | (refine WD_ap0 htb ?_) | (refine WD_nil htb ?_) | (refine WD_nilr htb ?_) | (refine WD_rem ?_) | (refine WD_quo ?_) | (refine WD_slc htb ?_) | (refine WD_ixa htb ?_) | (refine WD_ix1 htb ?_) | (refine WD_cut htb ?_) | (refine WD_cut3 htb ?_) | (refine WD_lens htb ?_) | (refine WD_caps htb ?_) | (refine WD_cps htb ?_) | (refine WD_cpp htb ?_) | (refine WD_api htb ?_) | (refine WD_apz htb ?_) | (refine WD_clr htb ?_) | (refine WD_ixs htb ?_) | (refine WD_t (by exact rfl) (by exact rfl) (by exact known) fun hb => ?_; rw [hb]; clear hb) | (refine WD_f (by exact rfl) (by exact rfl) (by exact known) fun hb => ?_; rw [hb]; clear hb) | ((refine WD_tf (by exact rfl) (by exact rfl) ?_ ?_) <;> (intro hb; (fail_if_success (with_reducible injection hb)); rw [hb]; (try simp only [List.length_map] at hb)))) | (with_reducible apply WA_seq) | ((with_reducible apply gR hmix hN); exact (by kernel_rfl); (try dsimp only [List.append_eq, List.cons_append, List.nil_append])) | ((with_reducible apply WD_end); (first | exact no_draw | (intro _; kernel_rfl)); try simp only [thn, inB, List.length_map, List.cons_append, List.nil_append]) | ((with_reducible apply gCt); exact rfl; exact rfl) | ((with_reducible apply gCf); exact rfl; exact rfl) | ((with_reducible apply gCk); exact rfl; exact known; intro hb; rw [hb]; clear hb) | ((with_reducible apply gCn); exact rfl; exact known; intro hb; rw [hb]; clear hb) | (((with_reducible apply gC2); exact rfl) <;> (intro hb; rw [hb])) | (with_reducible apply WA_block) | ((with_reducible first | apply WA_skip | apply WA_ret | apply WA_exit | apply WA_label); try simp only [thn, inB, List.length_map, List.cons_append, List.nil_append])))
      refine ⟨by omega, by omega, ?_⟩
      have e : m = sorT l (k + 1) := h1
      rw [e]
      (exact LeV [])
    | succ j =>
      have d2 : decide (((j + 1 : Nat) : Int) > 0) = true := by simp only [decide_eq_true_eq]; omega
      have e : (((j + 1 : Nat) : Int) - 1).toNat = j := by omega
      have hsw := swpT_rows m j
      by_cases hb : ordT (nth m (j + 1)) (nth m j) < 0
      · have hbn : decide (ordA (nth m (j + 1)).1 (nth m (j + 1)).2 (nth m (((j + 1 : Nat) : Int) - 1).toNat).1 (nth m (((j + 1 : Nat) : Int) - 1).toNat).2 < 0) = true := by rw [e]; simpa [ordT] using hb
        (repeat' (first | ((with_reducible apply WD_id); first | (refine WD_sum ?_) | (refine WD_nxt htb (by exact rfl) ?_) | (refine WD_unk (by exact rfl) ?_; first | (refine WD_t (by exact rfl) (by exact rfl) (by exact known) fun hb => ?_; rw [hb]; clear hb) | (refine WD_f (by exact rfl) (by exact rfl) (by exact known) fun hb => ?_; rw [hb]; clear hb) | ((refine WD_tf (by exact rfl) (by exact rfl) ?_ ?_) <;> (intro hb; (fail_if_success (with_reducible injection hb)); rw [hb]; (try simp only [List.length_map] at hb)))) | (refine WD_call (by exact rfl) ?_; first | (refine WD_c0 (ordA_pm _ _ _ _) ?_)) | (refine WD_idx htb ?_) | (refine WD_idxo htb ?_) | (refine WD_lde1 htb ?_) | (refine WD_lde htb ?_) | (refine WD_ste htb ?_) | (refine WD_ap htb ?_) | (refine WD_ap0 htb ?_) | (refine WD_nil htb ?_) | (refine WD_nilr htb ?_) | (refine WD_rem ?_) | (refine WD_quo ?_) | (refine WD_slc htb ?_) | (refine WD_ixa htb ?_) | (refine WD_ix1 htb ?_) | (refine WD_cut htb ?_) | (refine WD_cut3 htb ?_) | (refine WD_lens htb ?_) | (refine WD_caps htb ?_) | (refine WD_cps htb ?_) | (refine WD_cpp htb ?_) | (refine WD_api htb ?_) | (refine WD_apz htb ?_) | (refine WD_clr htb ?_) | (refine WD_ixs htb ?_) | (refine WD_t (by exact rfl) (by exact rfl) (by exact known) fun hb => ?_; rw [hb]; clear hb) | (refine WD_f (by exact rfl) (by exact rfl) (by exact known) fun hb => ?_; rw [hb]; clear hb) | ((refine WD_tf (by exact rfl) (by exact rfl) ?_ ?_) <;> (intro hb; (fail_if_success (with_reducible injection hb)); rw [hb]; (try simp only [List.length_map] at hb)))) | (with_reducible apply WA_seq) | ((with_reducible apply gR hmix hN); exact (by kernel_rfl); (try dsimp only [List.append_eq, List.cons_append, List.nil_append])) | ((with_reducible apply WD_end); (first | exact no_draw | (intro _; kernel_rfl)); try simp only [thn, inB, List.length_map, List.cons_append, List.nil_append]) | ((with_reducible apply gCt); exact rfl; exact rfl) | ((with_reducible apply gCf); exact rfl; exact rfl) | ((with_reducible apply gCk); exact rfl; exact known; intro hb; rw [hb]; clear hb) | ((with_reducible apply gCn); exact rfl; exact known; intro hb; rw [hb]; clear hb) | (((with_reducible apply gC2); exact rfl) <;> (intro hb; rw [hb])) | (with_reducible apply WA_block) | ((with_reducible first | apply WA_skip | apply WA_ret | apply WA_exit | apply WA_label); try simp only [thn, inB, List.length_map, List.cons_append, List.nil_append])))
        refine WD_ste htb ?_ (hr := by rw [List.getElem?_set_ne (by omega)]; exact rowGet rT m (by omega))
        (repeat' (first | ((with_reducible apply WD_id); first | (refine WD_sum ?_) | (refine WD_nxt htb (by exact rfl) ?_) | (refine WD_unk (by exact rfl) ?_; first | (refine WD_t (by exact rfl) (by exact rfl) (by exact known) fun hb => ?_; rw [hb]; clear hb) | (refine WD_f (by exact rfl) (by exact rfl) (by exact known) fun hb => ?_; rw [hb]; clear hb) | ((refine WD_tf (by exact rfl) (by exact rfl) ?_ ?_) <;> (intro hb; (fail_if_success (with_reducible injection hb)); rw [hb]; (try simp only [List.length_map] at hb)))) | (refine WD_idx htb ?_) | (refine WD_idxo htb ?_) | (refine WD_lde1 htb ?_) | (refine WD_lde htb ?_) | (refine WD_ste htb ?_) | (refine WD_ap htb ?_) | (refine WD_ap0 htb ?_) | (refine WD_nil htb ?_) | (refine WD_nilr htb ?_) | (refine WD_rem ?_) | (refine WD_quo ?_) | (refine WD_slc htb ?_) | (refine WD_ixa htb ?_) | (refine WD_ix1 htb ?_) | (refine WD_cut htb ?_) | (refine WD_cut3 htb ?_) | (refine WD_lens htb ?_) | (refine WD_caps htb ?_) | (refine WD_cps htb ?_) | (refine WD_cpp htb ?_) | (refine WD_api htb ?_) | (refine WD_apz htb ?_) | (refine WD_clr htb ?_) | (refine WD_ixs htb ?_) | (refine WD_t (by exact rfl) (by exact rfl) (by exact known) fun hb => ?_; rw [hb]; clear hb) | (refine WD_f (by exact rfl) (by exact rfl) (by exact known) fun hb => ?_; rw [hb]; clear hb) | ((refine WD_tf (by exact rfl) (by exact rfl) ?_ ?_) <;> (intro hb; (fail_if_success (with_reducible injection hb)); rw [hb]; (try simp only [List.length_map] at hb)))) | (with_reducible apply WA_seq) | ((with_reducible apply gR hmix hN); exact (by kernel_rfl); (try dsimp only [List.append_eq, List.cons_append, List.nil_append])) | ((with_reducible apply WD_end); (first | exact no_draw | (intro _; kernel_rfl)); try simp only [thn, inB, List.length_map, List.cons_append, List.nil_append]) | ((with_reducible apply gCt); exact rfl; exact rfl) | ((with_reducible apply gCf); exact rfl; exact rfl) | ((with_reducible apply gCk); exact rfl; exact known; intro hb; rw [hb]; clear hb) | ((with_reducible apply gCn); exact rfl; exact known; intro hb; rw [hb]; clear hb) | (((with_reducible apply gC2); exact rfl) <;> (intro hb; rw [hb])) | (with_reducible apply WA_block) | ((with_reducible first | apply WA_skip | apply WA_ret | apply WA_exit | apply WA_label); try simp only [thn, inB, List.length_map, List.cons_append, List.nil_append])))
        refine ⟨(j, swpT m j), by dsimp only; omega, ⟨?_, by dsimp only; rw [swpT_len]; exact h2, by dsimp only; omega⟩, ?_⟩
        · rw [← h1]; exact (show bubT (j + 1) m = _ from if_pos hb).symm
        rw [e]
        (exact LeV [])
      · have hbn : decide (ordA (nth m (j + 1)).1 (nth m (j + 1)).2 (nth m (((j + 1 : Nat) : Int) - 1).toNat).1 (nth m (((j + 1 : Nat) : Int) - 1).toNat).2 < 0) = false := by rw [e]; simpa [ordT] using hb
        have hm : m = sorT l (k + 1) := by rw [← h1]; exact (show bubT (j + 1) m = m from if_neg hb).symm
        (repeat' (first | ((with_reducible apply WD_id); first | (refine WD_sum ?_) | (refine WD_nxt htb (by exact rfl) ?_) | (refine WD_unk (by exact rfl) ?_; first | (refine WD_t (by exact rfl) (by exact rfl) (by exact known) fun hb => ?_; rw [hb]; clear hb) | (refine WD_f (by exact rfl) (by exact rfl) (by exact known) fun hb => ?_; rw [hb]; clear hb) | ((refine WD_tf (by exact rfl) (by exact rfl) ?_ ?_) <;> (intro hb; (fail_if_success (with_reducible injection hb)); rw [hb]; (try simp only [List.length_map] at hb)))) | (refine WD_call (by exact rfl) ?_; first | (refine WD_c0 (ordA_pm _ _ _ _) ?_)) | (refine WD_idx htb ?_) | (refine WD_idxo htb ?_) | (refine WD_lde1 htb ?_) | (refine WD_lde htb ?_) | (refine WD_ste htb ?_) | (refine WD_ap htb ?_) | (refine WD_ap0 htb ?_) | (refine WD_nil htb ?_) | (refine WD_nilr htb ?_) | (refine WD_rem ?_) | (refine WD_quo ?_) | (refine WD_slc htb ?_) | (refine WD_ixa htb ?_) | (refine WD_ix1 htb ?_) | (refine WD_cut htb ?_) | (refine WD_cut3 htb ?_) | (refine WD_lens htb ?_) | (refine WD_caps htb ?_) | (refine WD_cps htb ?_) | (refine WD_cpp htb ?_) | (refine WD_api htb ?_) | (refine WD_apz htb ?_) | (refine WD_clr htb ?_) | (refine WD_ixs htb ?_) | (refine WD_t (by exact rfl) (by exact rfl) (by exact known) fun hb => ?_; rw [hb]; clear hb) | (refine WD_f (by exact rfl) (by exact rfl) (by exact known) fun hb => ?_; rw [hb]; clear hb) | ((refine WD_tf (by exact rfl) (by exact rfl) ?_ ?_) <;> (intro hb; (fail_if_success (with_reducible injection hb)); rw [hb]; (try simp only [List.length_map] at hb)))) | (with_reducible apply WA_seq) | ((with_reducible apply gR hmix hN); exact (by kernel_rfl); (try dsimp only [List.append_eq, List.cons_append, List.nil_append])) | ((with_reducible apply WD_end); (first | exact no_draw | (intro _; kernel_rfl)); try simp only [thn, inB, List.length_map, List.cons_append, List.nil_append]) | ((with_reducible apply gCt); exact rfl; exact rfl) | ((with_reducible apply gCf); exact rfl; exact rfl) | ((with_reducible apply gCk); exact rfl; exact known; intro hb; rw [hb]; clear hb) | ((with_reducible apply gCn); exact rfl; exact known; intro hb; rw [hb]; clear hb) | (((with_reducible apply gC2); exact rfl) <;> (intro hb; rw [hb])) | (with_reducible apply WA_block) | ((with_reducible first | apply WA_skip | apply WA_ret | apply WA_exit | apply WA_label); try simp only [thn, inB, List.length_map, List.cons_append, List.nil_append])))
        refine ⟨by omega, by omega, ?_⟩
        rw [← hm]
        (exact LeV [])
  · have d1 : decide ((k : Int) + 1 < (l.length : Int)) = false := by simp only [decide_eq_false_iff_not]; omega
    (repeat' (first | ((with_reducible apply WD_id); first | (refine WD_sum ?_) | (refine WD_nxt htb (by exact rfl) ?_) | (refine WD_unk (by exact rfl) ?_; first | (refine WD_t (by exact rfl) (by exact rfl) (by exact known) fun hb => ?_; rw [hb]; clear hb) | (refine WD_f (by exact rfl) (by exact rfl) (by exact known) fun hb => ?_; rw [hb]; clear hb) | ((refine WD_tf (by exact rfl) (by exact rfl) ?_ ?_) <;> (intro hb; (fail_if_success (with_reducible injection hb)); rw [hb]; (try simp only [List.length_map] at hb)))) | (refine WD_idx htb ?_) | (refine WD_idxo htb ?_) | (refine WD_lde1 htb ?_) | (refine WD_lde htb ?_) | (refine WD_ste htb ?_) | (refine WD_ap htb ?_) | (refine WD_ap0 htb ?_) | (refine WD_nil htb ?_) | (refine WD_nilr htb ?_) | (refine WD_rem ?_) | (refine WD_quo ?_) | (refine WD_slc htb ?_) | (refine WD_ixa htb ?_) | (refine WD_ix1 htb ?_) | (refine WD_cut htb ?_) | (refine WD_cut3 htb ?_) | (refine WD_lens htb ?_) | (refine WD_caps htb ?_) | (refine WD_cps htb ?_) | (refine WD_cpp htb ?_) | (refine WD_api htb ?_) | (refine WD_apz htb ?_) | (refine WD_clr htb ?_) | (refine WD_ixs htb ?_) | (refine WD_t (by exact rfl) (by exact rfl) (by exact known) fun hb => ?_; rw [hb]; clear hb) | (refine WD_f (by exact rfl) (by exact rfl) (by exact known) fun hb => ?_; rw [hb]; clear hb) | ((refine WD_tf (by exact rfl) (by exact rfl) ?_ ?_) <;> (intro hb; (fail_if_success (with_reducible injection hb)); rw [hb]; (try simp only [List.length_map] at hb)))) | (with_reducible apply WA_seq) | ((with_reducible apply gR hmix hN); exact (by kernel_rfl); (try dsimp only [List.append_eq, List.cons_append, List.nil_append])) | ((with_reducible apply WD_end); (first | exact no_draw | (intro _; kernel_rfl)); try simp only [thn, inB, List.length_map, List.cons_append, List.nil_append]) | ((with_reducible apply gCt); exact rfl; exact rfl) | ((with_reducible apply gCf); exact rfl; exact rfl) | ((with_reducible apply gCk); exact rfl; exact known; intro hb; rw [hb]; clear hb) | ((with_reducible apply gCn); exact rfl; exact known; intro hb; rw [hb]; clear hb) | (((with_reducible apply gC2); exact rfl) <;> (intro hb; rw [hb])) | (with_reducible apply WA_block) | ((with_reducible first | apply WA_skip | apply WA_ret | apply WA_exit | apply WA_label); try simp only [thn, inB, List.length_map, List.cons_append, List.nil_append])))
    have e : k = l.length - 1 := by omega
    subst e
    exact gE (.inl rfl) rfl rfl ⟨rfl, trivial⟩
theorem pdqT_pm (l : List TA) (n : Nat) (b : Int) (hl : l.length ≤ 12) (hn : n = l.length) (h0 : 0 ≤ b) : FnM Tryz.prog 186 [(60, .arr 37 2 (l.map rT))] [.own 60, vI 0, vI n, vI b, .clo 162 []] (.tup []) [(60, .arr 37 2 ((sorF l).map rT))] := by
  subst hn
  refine FnM.of htb Tryz.func186 rfl rfl rfl rfl rfl fun cx hN h0 => ?_
  have d1 : decide ((l.length : Int) - 0 ≤ 12) = true := by simp only [decide_eq_true_eq]; omega
  (repeat' (first | ((with_reducible apply WD_id); first | (refine WD_sum ?_) | (refine WD_nxt htb (by exact rfl) ?_) | (refine WD_unk (by exact rfl) ?_; first | (refine WD_t (by exact rfl) (by exact rfl) (by exact known) fun hb => ?_; rw [hb]; clear hb) | (refine WD_f (by exact rfl) (by exact rfl) (by exact known) fun hb => ?_; rw [hb]; clear hb) | ((refine WD_tf (by exact rfl) (by exact rfl) ?_ ?_) <;> (intro hb; (fail_if_success (with_reducible injection hb)); rw [hb]; (try simp only [List.length_map] at hb)))) | (refine WD_idx htb ?_) | (refine WD_idxo htb ?_) | (refine WD_lde1 htb ?_) | (refine WD_lde htb ?_) | (refine WD_ste htb ?_) | (refine WD_ap htb ?_) | (refine WD_ap0 htb ?_) | (refine WD_nil htb ?_) | (refine WD_nilr htb ?_) | (refine WD_rem ?_) | (refine WD_quo ?_) | (refine WD_slc htb ?_) | (refine WD_ixa htb ?_) | (refine WD_ix1 htb ?_) | (refine WD_cut htb ?_) | (refine WD_cut3 htb ?_) | (refine WD_lens htb ?_) | (refine WD_caps htb ?_) | (refine WD_cps htb ?_) | (refine WD_cpp htb ?_) | (refine WD_api htb ?_) | (refine WD_apz htb ?_) | (refine WD_clr htb ?_) | (refine WD_ixs htb ?_) | (refine WD_t (by exact rfl) (by exact rfl) (by exact known) fun hb => ?_; rw [hb]; clear hb) | (refine WD_f (by exact rfl) (by exact rfl) (by exact known) fun hb => ?_; rw [hb]; clear hb) | ((refine WD_tf (by exact rfl) (by exact rfl) ?_ ?_) <;> (intro hb; (fail_if_success (with_reducible injection hb)); rw [hb]; (try simp only [List.length_map] at hb)))) | (with_reducible apply WA_seq) | ((with_reducible apply gR hmix hN); exact (by kernel_rfl); (try dsimp only [List.append_eq, List.cons_append, List.nil_append])) | ((with_reducible apply WD_end); (first | exact no_draw | (intro _; kernel_rfl)); try simp only [thn, inB, List.length_map, List.cons_append, List.nil_append]) | ((with_reducible apply gCt); exact rfl; exact rfl) | ((with_reducible apply gCf); exact rfl; exact rfl) | ((with_reducible apply gCk); exact rfl; exact known; intro hb; rw [hb]; clear hb) | ((with_reducible apply gCn); exact rfl; exact known; intro hb; rw [hb]; clear hb) | (((with_reducible apply gC2); exact rfl) <;> (intro hb; rw [hb])) | (with_reducible apply WA_block) | ((with_reducible first | apply WA_skip | apply WA_ret | apply WA_exit | apply WA_label); try simp only [thn, inB, List.length_map, List.cons_append, List.nil_append])))
  (refine WA_forV (0) [] [] (fun k => []) (fun k => []) (fun k => True) ?h0 ?_)
  case h0 => trivial
  intro k hk _
  (repeat' (first | ((with_reducible apply WD_id); first | (refine WD_sum ?_) | (refine WD_nxt htb (by exact rfl) ?_) | (refine WD_unk (by exact rfl) ?_; first | (refine WD_t (by exact rfl) (by exact rfl) (by exact known) fun hb => ?_; rw [hb]; clear hb) | (refine WD_f (by exact rfl) (by exact rfl) (by exact known) fun hb => ?_; rw [hb]; clear hb) | ((refine WD_tf (by exact rfl) (by exact rfl) ?_ ?_) <;> (intro hb; (fail_if_success (with_reducible injection hb)); rw [hb]; (try simp only [List.length_map] at hb)))) | (refine WD_call (by exact rfl) ?_; first | (refine WD_cM (insT_pm _ _ ?_ ?_) ?_; (exact hyp); (exact hyp))) | (refine WD_idx htb ?_) | (refine WD_idxo htb ?_) | (refine WD_lde1 htb ?_) | (refine WD_lde htb ?_) | (refine WD_ste htb ?_) | (refine WD_ap htb ?_) | (refine WD_ap0 htb ?_) | (refine WD_nil htb ?_) | (refine WD_nilr htb ?_) | (refine WD_rem ?_) | (refine WD_quo ?_) | (refine WD_slc htb ?_) | (refine WD_ixa htb ?_) | (refine WD_ix1 htb ?_) | (refine WD_cut htb ?_) | (refine WD_cut3 htb ?_) | (refine WD_lens htb ?_) | (refine WD_caps htb ?_) | (refine WD_cps htb ?_) | (refine WD_cpp htb ?_) | (refine WD_api htb ?_) | (refine WD_apz htb ?_) | (refine WD_clr htb ?_) | (refine WD_ixs htb ?_) | (refine WD_t (by exact rfl) (by exact rfl) (by exact known) fun hb => ?_; rw [hb]; clear hb) | (refine WD_f (by exact rfl) (by exact rfl) (by exact known) fun hb => ?_; rw [hb]; clear hb) | ((refine WD_tf (by exact rfl) (by exact rfl) ?_ ?_) <;> (intro hb; (fail_if_success (with_reducible injection hb)); rw [hb]; (try simp only [List.length_map] at hb)))) | (with_reducible apply WA_seq) | ((with_reducible apply gR hmix hN); exact (by kernel_rfl); (try dsimp only [List.append_eq, List.cons_append, List.nil_append])) | ((with_reducible apply WD_end); (first | exact no_draw | (intro _; kernel_rfl)); try simp only [thn, inB, List.length_map, List.cons_append, List.nil_append]) | ((with_reducible apply gCt); exact rfl; exact rfl) | ((with_reducible apply gCf); exact rfl; exact rfl) | ((with_reducible apply gCk); exact rfl; exact known; intro hb; rw [hb]; clear hb) | ((with_reducible apply gCn); exact rfl; exact known; intro hb; rw [hb]; clear hb) | (((with_reducible apply gC2); exact rfl) <;> (intro hb; rw [hb])) | (with_reducible apply WA_block) | ((with_reducible first | apply WA_skip | apply WA_ret | apply WA_exit | apply WA_label); try simp only [thn, inB, List.length_map, List.cons_append, List.nil_append])))
  exact gE (.inr rfl) rfl rfl ⟨rfl, trivial⟩
theorem sortT_pm (l : List TA) (hl : l.length ≤ 12) : FnM Tryz.prog 170 [(60, .arr 37 2 (l.map rT))] [.own 60, .clo 162 []] (.tup []) [(60, .arr 37 2 ((sorF l).map rT))] := by
  refine FnM.of htb Tryz.func170 rfl rfl rfl rfl rfl fun cx hN h0 => ?_
  have hw : IntKind.u64.wrap (l.length : Int) = l.length := by simp [IntKind.wrap, IntKind.bits, IntKind.signed]; omega
  (repeat' (first | ((with_reducible apply WD_id); first | (refine WD_sum ?_) | (refine WD_nxt htb (by exact rfl) ?_) | (refine WD_unk (by exact rfl) ?_; first | (refine WD_t (by exact rfl) (by exact rfl) (by exact known) fun hb => ?_; rw [hb]; clear hb) | (refine WD_f (by exact rfl) (by exact rfl) (by exact known) fun hb => ?_; rw [hb]; clear hb) | ((refine WD_tf (by exact rfl) (by exact rfl) ?_ ?_) <;> (intro hb; (fail_if_success (with_reducible injection hb)); rw [hb]; (try simp only [List.length_map] at hb)))) | (refine WD_idx htb ?_) | (refine WD_idxo htb ?_) | (refine WD_lde1 htb ?_) | (refine WD_lde htb ?_) | (refine WD_ste htb ?_) | (refine WD_ap htb ?_) | (refine WD_ap0 htb ?_) | (refine WD_nil htb ?_) | (refine WD_nilr htb ?_) | (refine WD_rem ?_) | (refine WD_quo ?_) | (refine WD_slc htb ?_) | (refine WD_ixa htb ?_) | (refine WD_ix1 htb ?_) | (refine WD_cut htb ?_) | (refine WD_cut3 htb ?_) | (refine WD_lens htb ?_) | (refine WD_caps htb ?_) | (refine WD_cps htb ?_) | (refine WD_cpp htb ?_) | (refine WD_api htb ?_) | (refine WD_apz htb ?_) | (refine WD_clr htb ?_) | (refine WD_ixs htb ?_) | (refine WD_t (by exact rfl) (by exact rfl) (by exact known) fun hb => ?_; rw [hb]; clear hb) | (refine WD_f (by exact rfl) (by exact rfl) (by exact known) fun hb => ?_; rw [hb]; clear hb) | ((refine WD_tf (by exact rfl) (by exact rfl) ?_ ?_) <;> (intro hb; (fail_if_success (with_reducible injection hb)); rw [hb]; (try simp only [List.length_map] at hb)))) | (with_reducible apply WA_seq) | ((with_reducible apply gR hmix hN); exact (by kernel_rfl); (try dsimp only [List.append_eq, List.cons_append, List.nil_append])) | ((with_reducible apply WD_end); (first | exact no_draw | (intro _; kernel_rfl)); try simp only [thn, inB, List.length_map, List.cons_append, List.nil_append]) | ((with_reducible apply gCt); exact rfl; exact rfl) | ((with_reducible apply gCf); exact rfl; exact rfl) | ((with_reducible apply gCk); exact rfl; exact known; intro hb; rw [hb]; clear hb) | ((with_reducible apply gCn); exact rfl; exact known; intro hb; rw [hb]; clear hb) | (((with_reducible apply gC2); exact rfl) <;> (intro hb; rw [hb])) | (with_reducible apply WA_block) | ((with_reducible first | apply WA_skip | apply WA_ret | apply WA_exit | apply WA_label); try simp only [thn, inB, List.length_map, List.cons_append, List.nil_append])))
  rw [hw]
  (repeat' (first | ((with_reducible apply WD_id); first | (refine WD_sum ?_) | (refine WD_nxt htb (by exact rfl) ?_) | (refine WD_unk (by exact rfl) ?_; first | (refine WD_t (by exact rfl) (by exact rfl) (by exact known) fun hb => ?_; rw [hb]; clear hb) | (refine WD_f (by exact rfl) (by exact rfl) (by exact known) fun hb => ?_; rw [hb]; clear hb) | ((refine WD_tf (by exact rfl) (by exact rfl) ?_ ?_) <;> (intro hb; (fail_if_success (with_reducible injection hb)); rw [hb]; (try simp only [List.length_map] at hb)))) | (refine WD_call (by exact rfl) ?_; first | (refine WD_c0 (bits_m _ ?_ ?_) ?_; (exact hyp); (exact hyp)) | (refine WD_cM (pdqT_pm _ _ _ ?_ ?_ ?_) ?_; (exact hyp); (exact hyp); (exact hyp))) | (refine WD_idx htb ?_) | (refine WD_idxo htb ?_) | (refine WD_lde1 htb ?_) | (refine WD_lde htb ?_) | (refine WD_ste htb ?_) | (refine WD_ap htb ?_) | (refine WD_ap0 htb ?_) | (refine WD_nil htb ?_) | (refine WD_nilr htb ?_) | (refine WD_rem ?_) | (refine WD_quo ?_) | (refine WD_slc htb ?_) | (refine WD_ixa htb ?_) | (refine WD_ix1 htb ?_) | (refine WD_cut htb ?_) | (refine WD_cut3 htb ?_) | (refine WD_lens htb ?_) | (refine WD_caps htb ?_) | (refine WD_cps htb ?_) | (refine WD_cpp htb ?_) | (refine WD_api htb ?_) | (refine WD_apz htb ?_) | (refine WD_clr htb ?_) | (refine WD_ixs htb ?_) | (refine WD_t (by exact rfl) (by exact rfl) (by exact known) fun hb => ?_; rw [hb]; clear hb) | (refine WD_f (by exact rfl) (by exact rfl) (by exact known) fun hb => ?_; rw [hb]; clear hb) | ((refine WD_tf (by exact rfl) (by exact rfl) ?_ ?_) <;> (intro hb; (fail_if_success (with_reducible injection hb)); rw [hb]; (try simp only [List.length_map] at hb)))) | (with_reducible apply WA_seq) | ((with_reducible apply gR hmix hN); exact (by kernel_rfl); (try dsimp only [List.append_eq, List.cons_append, List.nil_append])) | ((with_reducible apply WD_end); (first | exact no_draw | (intro _; kernel_rfl)); try simp only [thn, inB, List.length_map, List.cons_append, List.nil_append]) | ((with_reducible apply gCt); exact rfl; exact rfl) | ((with_reducible apply gCf); exact rfl; exact rfl) | ((with_reducible apply gCk); exact rfl; exact known; intro hb; rw [hb]; clear hb) | ((with_reducible apply gCn); exact rfl; exact known; intro hb; rw [hb]; clear hb) | (((with_reducible apply gC2); exact rfl) <;> (intro hb; rw [hb])) | (with_reducible apply WA_block) | ((with_reducible first | apply WA_skip | apply WA_ret | apply WA_exit | apply WA_label); try simp only [thn, inB, List.length_map, List.cons_append, List.nil_append])))
  exact gE (.inl rfl) rfl rfl ⟨rfl, trivial⟩
theorem ddF_short {l : List TA} (h : l.length < 2) : ddF l = l := by
  rcases l with _ | ⟨x, _ | ⟨y, r⟩⟩
  · rfl
  · rfl
  · simp at h; omega
theorem ddN_one {l : List TA} (h : 1 ≤ l.length) : ddN l 1 = l.take 1 := by
  rcases l with _ | ⟨x, r⟩
  · simp at h
  · rfl
theorem take_next {l : List TA} {k : Nat} (h : k < l.length) : l.take (k + 1) = l.take k ++ [nth l k] := by
  rw [List.take_add_one, List.getElem?_eq_getElem h, nth_getElem _ _ h]; rfl
theorem ddN_next (l : List TA) {k : Nat} (h : 1 ≤ k) : ddN l (k + 1) = if eqT (nth l k).1 (nth l k).2 (nth l (k - 1)).1 (nth l (k - 1)).2 = true then ddN l k else ddN l k ++ [nth l k] := by
  obtain ⟨m, rfl⟩ : ∃ m, k = m + 1 := ⟨k - 1, by omega⟩
  rfl
theorem cutT {A : List TA} {R S : List (List D)} {j : Nat} (h : j ≤ A.length) : ((A.map rT).take j ++ R ++ S).take j = (A.take j).map rT := by
  rw [List.append_assoc, List.take_left' (by simp; omega), List.map_take]
set_option maxHeartbeats 4000000 in
theorem comp_pm (l : List TA) (hl : l.length ≤ 1000) : FnM Tryz.prog 171 [(60, .arr 37 2 (l.map rT))] [.own 60] (.own 61) [(61, .arr 37 2 ((ddF l).map rT)), (60, .dead)] := by
  refine FnM.of htb Tryz.func171 rfl rfl rfl rfl rfl fun cx hN h0 => ?_
  by_cases h2 : l.length < 2
  · have d1 : decide ((l.length : Int) < 2) = true := by simp only [decide_eq_true_eq]; omega
    rw [ddF_short h2]
    (repeat' (first | ((with_reducible apply WD_id); first | (refine WD_sum ?_) | (refine WD_nxt htb (by exact rfl) ?_) | (refine WD_unk (by exact rfl) ?_; first | (refine WD_t (by exact rfl) (by exact rfl) (by exact known) fun hb => ?_; rw [hb]; clear hb) | (refine WD_f (by exact rfl) (by exact rfl) (by exact known) fun hb => ?_; rw [hb]; clear hb) | ((refine WD_tf (by exact rfl) (by exact rfl) ?_ ?_) <;> (intro hb; (fail_if_success (with_reducible injection hb)); rw [hb]; (try simp only [List.length_map] at hb)))) | (refine WD_idx htb ?_) | (refine WD_idxo htb ?_) | (refine WD_lde1 htb ?_) | (refine WD_lde htb ?_) | (refine WD_ste htb ?_) | (refine WD_ap htb ?_) | (refine WD_ap0 htb ?_) | (refine WD_nil htb ?_) | (refine WD_nilr htb ?_) | (refine WD_rem ?_) | (refine WD_quo ?_) | (refine WD_slc htb ?_) | (refine WD_ixa htb ?_) | (refine WD_ix1 htb ?_) | (refine WD_cut htb ?_) | (refine WD_cut3 htb ?_) | (refine WD_lens htb ?_) | (refine WD_caps htb ?_) | (refine WD_cps htb ?_) | (refine WD_cpp htb ?_) | (refine WD_api htb ?_) | (refine WD_apz htb ?_) | (refine WD_clr htb ?_) | (refine WD_ixs htb ?_) | (refine WD_t (by exact rfl) (by exact rfl) (by exact known) fun hb => ?_; rw [hb]; clear hb) | (refine WD_f (by exact rfl) (by exact rfl) (by exact known) fun hb => ?_; rw [hb]; clear hb) | ((refine WD_tf (by exact rfl) (by exact rfl) ?_ ?_) <;> (intro hb; (fail_if_success (with_reducible injection hb)); rw [hb]; (try simp only [List.length_map] at hb)))) | (with_reducible apply WA_seq) | ((with_reducible apply gR hmix hN); exact (by kernel_rfl); (try dsimp only [List.append_eq, List.cons_append, List.nil_append])) | ((with_reducible apply WD_end); (first | exact no_draw | (intro _; kernel_rfl)); try simp only [thn, inB, List.length_map, List.cons_append, List.nil_append]) | ((with_reducible apply gCt); exact rfl; exact rfl) | ((with_reducible apply gCf); exact rfl; exact rfl) | ((with_reducible apply gCk); exact rfl; exact known; intro hb; rw [hb]; clear hb) | ((with_reducible apply gCn); exact rfl; exact known; intro hb; rw [hb]; clear hb) | (((with_reducible apply gC2); exact rfl) <;> (intro hb; rw [hb])) | (with_reducible apply WA_block) | ((with_reducible first | apply WA_skip | apply WA_ret | apply WA_exit | apply WA_label); try simp only [thn, inB, List.length_map, List.cons_append, List.nil_append])))
    exact glV [(2, .own 61)] [(61, .arr 37 2 (l.map rT)), (60, .dead)] (Le.trans (Le_own 2 61 rfl rfl rfl) (LeV []))
  have d1 : decide ((l.length : Int) < 2) = false := by simp only [decide_eq_false_iff_not]; omega
  (repeat' (first | ((with_reducible apply WD_id); first | (refine WD_sum ?_) | (refine WD_nxt htb (by exact rfl) ?_) | (refine WD_unk (by exact rfl) ?_; first | (refine WD_t (by exact rfl) (by exact rfl) (by exact known) fun hb => ?_; rw [hb]; clear hb) | (refine WD_f (by exact rfl) (by exact rfl) (by exact known) fun hb => ?_; rw [hb]; clear hb) | ((refine WD_tf (by exact rfl) (by exact rfl) ?_ ?_) <;> (intro hb; (fail_if_success (with_reducible injection hb)); rw [hb]; (try simp only [List.length_map] at hb)))) | (refine WD_idx htb ?_) | (refine WD_idxo htb ?_) | (refine WD_lde1 htb ?_) | (refine WD_lde htb ?_) | (refine WD_ste htb ?_) | (refine WD_ap htb ?_) | (refine WD_ap0 htb ?_) | (refine WD_nil htb ?_) | (refine WD_nilr htb ?_) | (refine WD_rem ?_) | (refine WD_quo ?_) | (refine WD_slc htb ?_) | (refine WD_ixa htb ?_) | (refine WD_ix1 htb ?_) | (refine WD_cut htb ?_) | (refine WD_cut3 htb ?_) | (refine WD_lens htb ?_) | (refine WD_caps htb ?_) | (refine WD_cps htb ?_) | (refine WD_cpp htb ?_) | (refine WD_api htb ?_) | (refine WD_apz htb ?_) | (refine WD_clr htb ?_) | (refine WD_ixs htb ?_) | (refine WD_t (by exact rfl) (by exact rfl) (by exact known) fun hb => ?_; rw [hb]; clear hb) | (refine WD_f (by exact rfl) (by exact rfl) (by exact known) fun hb => ?_; rw [hb]; clear hb) | ((refine WD_tf (by exact rfl) (by exact rfl) ?_ ?_) <;> (intro hb; (fail_if_success (with_reducible injection hb)); rw [hb]; (try simp only [List.length_map] at hb)))) | (with_reducible apply WA_seq) | ((with_reducible apply gR hmix hN); exact (by kernel_rfl); (try dsimp only [List.append_eq, List.cons_append, List.nil_append])) | ((with_reducible apply WD_end); (first | exact no_draw | (intro _; kernel_rfl)); try simp only [thn, inB, List.length_map, List.cons_append, List.nil_append]) | ((with_reducible apply gCt); exact rfl; exact rfl) | ((with_reducible apply gCf); exact rfl; exact rfl) | ((with_reducible apply gCk); exact rfl; exact known; intro hb; rw [hb]; clear hb) | ((with_reducible apply gCn); exact rfl; exact known; intro hb; rw [hb]; clear hb) | (((with_reducible apply gC2); exact rfl) <;> (intro hb; rw [hb])) | (with_reducible apply WA_block) | ((with_reducible first | apply WA_skip | apply WA_ret | apply WA_exit | apply WA_label); try simp only [thn, inB, List.length_map, List.cons_append, List.nil_append])))
  (refine WA_anyV (α := Nat) (fun x => l.length - x) (1) [3] [] (fun x => [(3, vI x)]) (fun x => []) (fun x => 1 ≤ x ∧ x ≤ l.length ∧ ddN l x = l.take x) ?h0 ?_)
  case h0 => exact ⟨by omega, by omega, ddN_one (by omega)⟩
  rintro k ⟨k1, k2, k3⟩
  by_cases hk : k < l.length
  case neg =>
    have d2 : decide ((k : Int) < (l.length : Int)) = false := by simp only [decide_eq_false_iff_not]; omega
    have e : ddF l = l := by
      obtain rfl : k = l.length := by omega
      unfold ddF; rw [k3, List.take_length]
    rw [e]
    (repeat' (first | ((with_reducible apply WD_id); first | (refine WD_sum ?_) | (refine WD_nxt htb (by exact rfl) ?_) | (refine WD_unk (by exact rfl) ?_; first | (refine WD_t (by exact rfl) (by exact rfl) (by exact known) fun hb => ?_; rw [hb]; clear hb) | (refine WD_f (by exact rfl) (by exact rfl) (by exact known) fun hb => ?_; rw [hb]; clear hb) | ((refine WD_tf (by exact rfl) (by exact rfl) ?_ ?_) <;> (intro hb; (fail_if_success (with_reducible injection hb)); rw [hb]; (try simp only [List.length_map] at hb)))) | (refine WD_idx htb ?_) | (refine WD_idxo htb ?_) | (refine WD_lde1 htb ?_) | (refine WD_lde htb ?_) | (refine WD_ste htb ?_) | (refine WD_ap htb ?_) | (refine WD_ap0 htb ?_) | (refine WD_nil htb ?_) | (refine WD_nilr htb ?_) | (refine WD_rem ?_) | (refine WD_quo ?_) | (refine WD_slc htb ?_) | (refine WD_ixa htb ?_) | (refine WD_ix1 htb ?_) | (refine WD_cut htb ?_) | (refine WD_cut3 htb ?_) | (refine WD_lens htb ?_) | (refine WD_caps htb ?_) | (refine WD_cps htb ?_) | (refine WD_cpp htb ?_) | (refine WD_api htb ?_) | (refine WD_apz htb ?_) | (refine WD_clr htb ?_) | (refine WD_ixs htb ?_) | (refine WD_t (by exact rfl) (by exact rfl) (by exact known) fun hb => ?_; rw [hb]; clear hb) | (refine WD_f (by exact rfl) (by exact rfl) (by exact known) fun hb => ?_; rw [hb]; clear hb) | ((refine WD_tf (by exact rfl) (by exact rfl) ?_ ?_) <;> (intro hb; (fail_if_success (with_reducible injection hb)); rw [hb]; (try simp only [List.length_map] at hb)))) | (with_reducible apply WA_seq) | ((with_reducible apply gR hmix hN); exact (by kernel_rfl); (try dsimp only [List.append_eq, List.cons_append, List.nil_append])) | ((with_reducible apply WD_end); (first | exact no_draw | (intro _; kernel_rfl)); try simp only [thn, inB, List.length_map, List.cons_append, List.nil_append]) | ((with_reducible apply gCt); exact rfl; exact rfl) | ((with_reducible apply gCf); exact rfl; exact rfl) | ((with_reducible apply gCk); exact rfl; exact known; intro hb; rw [hb]; clear hb) | ((with_reducible apply gCn); exact rfl; exact known; intro hb; rw [hb]; clear hb) | (((with_reducible apply gC2); exact rfl) <;> (intro hb; rw [hb])) | (with_reducible apply WA_block) | ((with_reducible first | apply WA_skip | apply WA_ret | apply WA_exit | apply WA_label); try simp only [thn, inB, List.length_map, List.cons_append, List.nil_append])))
    exact glV [(2, .own 61)] [(61, .arr 37 2 (l.map rT)), (60, .dead)] (Le.trans (Le_own 2 61 rfl rfl rfl) (LeV []))
  have d2 : decide ((k : Int) < (l.length : Int)) = true := by simp only [decide_eq_true_eq]; omega
  have e : ((k : Int) - 1).toNat = k - 1 := by omega
  cases he : eqT (nth l k).1 (nth l k).2 (nth l (k - 1)).1 (nth l (k - 1)).2 with
  | false =>
    have he' : eqT (nth l k).1 (nth l k).2 (nth l ((k : Int) - 1).toNat).1 (nth l ((k : Int) - 1).toNat).2 = false := by rw [e]; exact he
    (repeat' (first | ((with_reducible apply WD_id); first | (refine WD_sum ?_) | (refine WD_nxt htb (by exact rfl) ?_) | (refine WD_unk (by exact rfl) ?_; first | (refine WD_t (by exact rfl) (by exact rfl) (by exact known) fun hb => ?_; rw [hb]; clear hb) | (refine WD_f (by exact rfl) (by exact rfl) (by exact known) fun hb => ?_; rw [hb]; clear hb) | ((refine WD_tf (by exact rfl) (by exact rfl) ?_ ?_) <;> (intro hb; (fail_if_success (with_reducible injection hb)); rw [hb]; (try simp only [List.length_map] at hb)))) | (refine WD_eq (eqT_step rfl rfl rfl) ?_) | (refine WD_idx htb ?_) | (refine WD_idxo htb ?_) | (refine WD_lde1 htb ?_) | (refine WD_lde htb ?_) | (refine WD_ste htb ?_) | (refine WD_ap htb ?_) | (refine WD_ap0 htb ?_) | (refine WD_nil htb ?_) | (refine WD_nilr htb ?_) | (refine WD_rem ?_) | (refine WD_quo ?_) | (refine WD_slc htb ?_) | (refine WD_ixa htb ?_) | (refine WD_ix1 htb ?_) | (refine WD_cut htb ?_) | (refine WD_cut3 htb ?_) | (refine WD_lens htb ?_) | (refine WD_caps htb ?_) | (refine WD_cps htb ?_) | (refine WD_cpp htb ?_) | (refine WD_api htb ?_) | (refine WD_apz htb ?_) | (refine WD_clr htb ?_) | (refine WD_ixs htb ?_) | (refine WD_t (by exact rfl) (by exact rfl) (by exact known) fun hb => ?_; rw [hb]; clear hb) | (refine WD_f (by exact rfl) (by exact rfl) (by exact known) fun hb => ?_; rw [hb]; clear hb) | ((refine WD_tf (by exact rfl) (by exact rfl) ?_ ?_) <;> (intro hb; (fail_if_success (with_reducible injection hb)); rw [hb]; (try simp only [List.length_map] at hb)))) | (with_reducible apply WA_seq) | ((with_reducible apply gR hmix hN); exact (by kernel_rfl); (try dsimp only [List.append_eq, List.cons_append, List.nil_append])) | ((with_reducible apply WD_end); (first | exact no_draw | (intro _; kernel_rfl)); try simp only [thn, inB, List.length_map, List.cons_append, List.nil_append]) | ((with_reducible apply gCt); exact rfl; exact rfl) | ((with_reducible apply gCf); exact rfl; exact rfl) | ((with_reducible apply gCk); exact rfl; exact known; intro hb; rw [hb]; clear hb) | ((with_reducible apply gCn); exact rfl; exact known; intro hb; rw [hb]; clear hb) | (((with_reducible apply gC2); exact rfl) <;> (intro hb; rw [hb])) | (with_reducible apply WA_block) | ((with_reducible first | apply WA_skip | apply WA_ret | apply WA_exit | apply WA_label); try simp only [thn, inB, List.length_map, List.cons_append, List.nil_append])))
    refine ⟨k + 1, by omega, ⟨by omega, by omega, by rw [ddN_next l k1, if_neg (by simp [he]), k3, take_next hk]⟩, ?_⟩
    (exact LeV [])
  | true =>
    have he' : eqT (nth l k).1 (nth l k).2 (nth l ((k : Int) - 1).toNat).1 (nth l ((k : Int) - 1).toNat).2 = true := by rw [e]; exact he
    (repeat' (first | ((with_reducible apply WD_id); first | (refine WD_sum ?_) | (refine WD_nxt htb (by exact rfl) ?_) | (refine WD_unk (by exact rfl) ?_; first | (refine WD_t (by exact rfl) (by exact rfl) (by exact known) fun hb => ?_; rw [hb]; clear hb) | (refine WD_f (by exact rfl) (by exact rfl) (by exact known) fun hb => ?_; rw [hb]; clear hb) | ((refine WD_tf (by exact rfl) (by exact rfl) ?_ ?_) <;> (intro hb; (fail_if_success (with_reducible injection hb)); rw [hb]; (try simp only [List.length_map] at hb)))) | (refine WD_eq (eqT_step rfl rfl rfl) ?_) | (refine WD_idx htb ?_) | (refine WD_idxo htb ?_) | (refine WD_lde1 htb ?_) | (refine WD_lde htb ?_) | (refine WD_ste htb ?_) | (refine WD_ap htb ?_) | (refine WD_ap0 htb ?_) | (refine WD_nil htb ?_) | (refine WD_nilr htb ?_) | (refine WD_rem ?_) | (refine WD_quo ?_) | (refine WD_slc htb ?_) | (refine WD_ixa htb ?_) | (refine WD_ix1 htb ?_) | (refine WD_cut htb ?_) | (refine WD_cut3 htb ?_) | (refine WD_lens htb ?_) | (refine WD_caps htb ?_) | (refine WD_cps htb ?_) | (refine WD_cpp htb ?_) | (refine WD_api htb ?_) | (refine WD_apz htb ?_) | (refine WD_clr htb ?_) | (refine WD_ixs htb ?_) | (refine WD_t (by exact rfl) (by exact rfl) (by exact known) fun hb => ?_; rw [hb]; clear hb) | (refine WD_f (by exact rfl) (by exact rfl) (by exact known) fun hb => ?_; rw [hb]; clear hb) | ((refine WD_tf (by exact rfl) (by exact rfl) ?_ ?_) <;> (intro hb; (fail_if_success (with_reducible injection hb)); rw [hb]; (try simp only [List.length_map] at hb)))) | (with_reducible apply WA_seq) | ((with_reducible apply gR hmix hN); exact (by kernel_rfl); (try dsimp only [List.append_eq, List.cons_append, List.nil_append])) | ((with_reducible apply WD_end); (first | exact no_draw | (intro _; kernel_rfl)); try simp only [thn, inB, List.length_map, List.cons_append, List.nil_append]) | ((with_reducible apply gCt); exact rfl; exact rfl) | ((with_reducible apply gCf); exact rfl; exact rfl) | ((with_reducible apply gCk); exact rfl; exact known; intro hb; rw [hb]; clear hb) | ((with_reducible apply gCn); exact rfl; exact known; intro hb; rw [hb]; clear hb) | (((with_reducible apply gC2); exact rfl) <;> (intro hb; rw [hb])) | (with_reducible apply WA_block) | ((with_reducible first | apply WA_skip | apply WA_ret | apply WA_exit | apply WA_label); try simp only [thn, inB, List.length_map, List.cons_append, List.nil_append])))
    (refine WA_anyV (α := Nat × Nat × List TA) (fun x => l.length - k - x.1) ((1, k, l)) [5, 3] [60] (fun x => [(5, vI x.1), (3, vI x.2.1)]) (fun x => [(60, .arr 37 2 (x.2.2.map rT))]) (fun x => (1 ≤ x.1 ∧ k + x.1 ≤ l.length ∧ x.2.2.length = l.length ∧ x.2.1 < k + x.1) ∧ x.2.2.take x.2.1 = ddN l (k + x.1) ∧ ∀ p, k + x.1 ≤ p + 1 → p < l.length → nth x.2.2 p = nth l p) ?h0 ?_)
    case h0 => exact ⟨⟨by simp, by show k + 1 ≤ l.length; omega, rfl, by simp⟩, by dsimp only; rw [ddN_next l k1, if_pos he, k3], fun p _ _ => rfl⟩
    rintro ⟨q, j, A⟩ ⟨⟨q1, q2, q3, q4⟩, q5, q6⟩
    dsimp only at q1 q2 q3 q4 q5 q6
    by_cases hq : k + q < l.length
    case neg =>
      have d3 : decide ((q : Int) < ((l.length - k : Nat) : Int)) = false := by simp only [decide_eq_false_iff_not]; omega
      have eq : k + q = l.length := by omega
      have hA : ddF l = A.take j := by unfold ddF; rw [q5, eq]
      rw [hA]
      refine WA_room 0 rfl rfl fun qq hq1 hq2 => ?_
      rw [List.length_map] at hq1
      dsimp only at hq1
      (repeat' (first | ((with_reducible apply WD_id); first | (refine WD_sum ?_) | (refine WD_nxt htb (by exact rfl) ?_) | (refine WD_unk (by exact rfl) ?_; first | (refine WD_t (by exact rfl) (by exact rfl) (by exact known) fun hb => ?_; rw [hb]; clear hb) | (refine WD_f (by exact rfl) (by exact rfl) (by exact known) fun hb => ?_; rw [hb]; clear hb) | ((refine WD_tf (by exact rfl) (by exact rfl) ?_ ?_) <;> (intro hb; (fail_if_success (with_reducible injection hb)); rw [hb]; (try simp only [List.length_map] at hb)))) | (refine WD_idx htb ?_) | (refine WD_idxo htb ?_) | (refine WD_lde1 htb ?_) | (refine WD_lde htb ?_) | (refine WD_ste htb ?_) | (refine WD_ap htb ?_) | (refine WD_ap0 htb ?_) | (refine WD_nil htb ?_) | (refine WD_nilr htb ?_) | (refine WD_rem ?_) | (refine WD_quo ?_) | (refine WD_slc htb ?_) | (refine WD_ixa htb ?_) | (refine WD_ix1 htb ?_) | (refine WD_cut htb ?_) | (refine WD_cut3 htb ?_) | (refine WD_lens htb ?_) | (refine WD_caps htb ?_) | (refine WD_cps htb ?_) | (refine WD_cpp htb ?_) | (refine WD_api htb ?_) | (refine WD_apz htb ?_) | (refine WD_clr htb ?_) | (refine WD_ixs htb ?_) | (refine WD_t (by exact rfl) (by exact rfl) (by exact known) fun hb => ?_; rw [hb]; clear hb) | (refine WD_f (by exact rfl) (by exact rfl) (by exact known) fun hb => ?_; rw [hb]; clear hb) | ((refine WD_tf (by exact rfl) (by exact rfl) ?_ ?_) <;> (intro hb; (fail_if_success (with_reducible injection hb)); rw [hb]; (try simp only [List.length_map] at hb)))) | (with_reducible apply WA_seq) | ((with_reducible apply gR hmix hN); exact (by kernel_rfl); (try dsimp only [List.append_eq, List.cons_append, List.nil_append])) | ((with_reducible apply WD_end); (first | exact no_draw | (intro _; kernel_rfl)); try simp only [thn, inB, List.length_map, List.cons_append, List.nil_append]) | ((with_reducible apply gCt); exact rfl; exact rfl) | ((with_reducible apply gCf); exact rfl; exact rfl) | ((with_reducible apply gCk); exact rfl; exact known; intro hb; rw [hb]; clear hb) | ((with_reducible apply gCn); exact rfl; exact known; intro hb; rw [hb]; clear hb) | (((with_reducible apply gC2); exact rfl) <;> (intro hb; rw [hb])) | (with_reducible apply WA_block) | ((with_reducible first | apply WA_skip | apply WA_ret | apply WA_exit | apply WA_label); try simp only [thn, inB, List.length_map, List.cons_append, List.nil_append])))
      simp only [Nat.zero_add, Nat.sub_zero, List.drop_zero, Option.map_some]
      exact glV [(2, .own 61)] [(61, .arr 37 2 ((A.take j).map rT)), (60, .dead)] (Le.trans (Le_hide 2 61 rfl rfl (by simp only [List.length_append, List.length_take, List.length_drop, List.length_replicate, List.length_map]; omega) (show 0 < qq by omega) rfl)
        (LeV [] (hM := ⟨⟨_, rfl, rfl, rfl, cutT (by omega)⟩, ⟨_, rfl, trivial⟩, trivial⟩)))
    have d3 : decide ((q : Int) < ((l.length - k : Nat) : Int)) = true := by simp only [decide_eq_true_eq]; omega
    have e1 : nth A (0 + k + q) = nth l (k + q) := by rw [Nat.zero_add]; exact q6 _ (by omega) hq
    have e2 : nth A (0 + k + ((q : Int) - 1).toNat) = nth l (k + q - 1) := by
      rw [show 0 + k + ((q : Int) - 1).toNat = k + q - 1 by omega]; exact q6 _ (by omega) (by omega)
    have hn := ddN_next l (k := k + q) (by omega)
    cases hb : eqT (nth l (k + q)).1 (nth l (k + q)).2 (nth l (k + q - 1)).1 (nth l (k + q - 1)).2 with
    | true =>
      have hb' : (!eqT (nth A (0 + k + q)).1 (nth A (0 + k + q)).2 (nth A (0 + k + ((q : Int) - 1).toNat)).1 (nth A (0 + k + ((q : Int) - 1).toNat)).2) = false := by rw [e1, e2, hb]; rfl
      rw [if_pos hb] at hn
      (repeat' (first | ((with_reducible apply WD_id); first | (refine WD_sum ?_) | (refine WD_nxt htb (by exact rfl) ?_) | (refine WD_unk (by exact rfl) ?_; first | (refine WD_t (by exact rfl) (by exact rfl) (by exact known) fun hb => ?_; rw [hb]; clear hb) | (refine WD_f (by exact rfl) (by exact rfl) (by exact known) fun hb => ?_; rw [hb]; clear hb) | ((refine WD_tf (by exact rfl) (by exact rfl) ?_ ?_) <;> (intro hb; (fail_if_success (with_reducible injection hb)); rw [hb]; (try simp only [List.length_map] at hb)))) | (refine WD_eq (neT_step rfl rfl rfl) ?_) | (refine WD_idx htb ?_) | (refine WD_idxo htb ?_) | (refine WD_lde1 htb ?_) | (refine WD_lde htb ?_) | (refine WD_ste htb ?_) | (refine WD_ap htb ?_) | (refine WD_ap0 htb ?_) | (refine WD_nil htb ?_) | (refine WD_nilr htb ?_) | (refine WD_rem ?_) | (refine WD_quo ?_) | (refine WD_slc htb ?_) | (refine WD_ixa htb ?_) | (refine WD_ix1 htb ?_) | (refine WD_cut htb ?_) | (refine WD_cut3 htb ?_) | (refine WD_lens htb ?_) | (refine WD_caps htb ?_) | (refine WD_cps htb ?_) | (refine WD_cpp htb ?_) | (refine WD_api htb ?_) | (refine WD_apz htb ?_) | (refine WD_clr htb ?_) | (refine WD_ixs htb ?_) | (refine WD_t (by exact rfl) (by exact rfl) (by exact known) fun hb => ?_; rw [hb]; clear hb) | (refine WD_f (by exact rfl) (by exact rfl) (by exact known) fun hb => ?_; rw [hb]; clear hb) | ((refine WD_tf (by exact rfl) (by exact rfl) ?_ ?_) <;> (intro hb; (fail_if_success (with_reducible injection hb)); rw [hb]; (try simp only [List.length_map] at hb)))) | (with_reducible apply WA_seq) | ((with_reducible apply gR hmix hN); exact (by kernel_rfl); (try dsimp only [List.append_eq, List.cons_append, List.nil_append])) | ((with_reducible apply WD_end); (first | exact no_draw | (intro _; kernel_rfl)); try simp only [thn, inB, List.length_map, List.cons_append, List.nil_append]) | ((with_reducible apply gCt); exact rfl; exact rfl) | ((with_reducible apply gCf); exact rfl; exact rfl) | ((with_reducible apply gCk); exact rfl; exact known; intro hb; rw [hb]; clear hb) | ((with_reducible apply gCn); exact rfl; exact known; intro hb; rw [hb]; clear hb) | (((with_reducible apply gC2); exact rfl) <;> (intro hb; rw [hb])) | (with_reducible apply WA_block) | ((with_reducible first | apply WA_skip | apply WA_ret | apply WA_exit | apply WA_label); try simp only [thn, inB, List.length_map, List.cons_append, List.nil_append])))
      refine ⟨(q + 1, j, A), by dsimp only; omega, ⟨⟨by dsimp only; omega, by dsimp only; omega, q3, by dsimp only; omega⟩, by dsimp only; rw [q5]; exact hn.symm, fun p hp1 hp2 => q6 p (by dsimp only at hp1; omega) hp2⟩, ?_⟩
      (exact LeV [])
    | false =>
      have hb' : (!eqT (nth A (0 + k + q)).1 (nth A (0 + k + q)).2 (nth A (0 + k + ((q : Int) - 1).toNat)).1 (nth A (0 + k + ((q : Int) - 1).toNat)).2) = true := by rw [e1, e2, hb]; rfl
      rw [if_neg (by simp [hb])] at hn
      have hrow : (A.map rT).set j [dS (nth A (0 + k + q)).1, dI (nth A (0 + k + q)).2] = (A.set j (nth A (0 + k + q))).map rT := by rw [List.map_set]; rfl
      (repeat' (first | ((with_reducible apply WD_id); first | (refine WD_sum ?_) | (refine WD_nxt htb (by exact rfl) ?_) | (refine WD_unk (by exact rfl) ?_; first | (refine WD_t (by exact rfl) (by exact rfl) (by exact known) fun hb => ?_; rw [hb]; clear hb) | (refine WD_f (by exact rfl) (by exact rfl) (by exact known) fun hb => ?_; rw [hb]; clear hb) | ((refine WD_tf (by exact rfl) (by exact rfl) ?_ ?_) <;> (intro hb; (fail_if_success (with_reducible injection hb)); rw [hb]; (try simp only [List.length_map] at hb)))) | (refine WD_eq (neT_step rfl rfl rfl) ?_) | (refine WD_idx htb ?_) | (refine WD_idxo htb ?_) | (refine WD_lde1 htb ?_) | (refine WD_lde htb ?_) | (refine WD_ste htb ?_) | (refine WD_ap htb ?_) | (refine WD_ap0 htb ?_) | (refine WD_nil htb ?_) | (refine WD_nilr htb ?_) | (refine WD_rem ?_) | (refine WD_quo ?_) | (refine WD_slc htb ?_) | (refine WD_ixa htb ?_) | (refine WD_ix1 htb ?_) | (refine WD_cut htb ?_) | (refine WD_cut3 htb ?_) | (refine WD_lens htb ?_) | (refine WD_caps htb ?_) | (refine WD_cps htb ?_) | (refine WD_cpp htb ?_) | (refine WD_api htb ?_) | (refine WD_apz htb ?_) | (refine WD_clr htb ?_) | (refine WD_ixs htb ?_) | (refine WD_t (by exact rfl) (by exact rfl) (by exact known) fun hb => ?_; rw [hb]; clear hb) | (refine WD_f (by exact rfl) (by exact rfl) (by exact known) fun hb => ?_; rw [hb]; clear hb) | ((refine WD_tf (by exact rfl) (by exact rfl) ?_ ?_) <;> (intro hb; (fail_if_success (with_reducible injection hb)); rw [hb]; (try simp only [List.length_map] at hb)))) | (with_reducible apply WA_seq) | ((with_reducible apply gR hmix hN); exact (by kernel_rfl); (try dsimp only [List.append_eq, List.cons_append, List.nil_append])) | ((with_reducible apply WD_end); (first | exact no_draw | (intro _; kernel_rfl)); try simp only [thn, inB, List.length_map, List.cons_append, List.nil_append]) | ((with_reducible apply gCt); exact rfl; exact rfl) | ((with_reducible apply gCf); exact rfl; exact rfl) | ((with_reducible apply gCk); exact rfl; exact known; intro hb; rw [hb]; clear hb) | ((with_reducible apply gCn); exact rfl; exact known; intro hb; rw [hb]; clear hb) | (((with_reducible apply gC2); exact rfl) <;> (intro hb; rw [hb])) | (with_reducible apply WA_block) | ((with_reducible first | apply WA_skip | apply WA_ret | apply WA_exit | apply WA_label); try simp only [thn, inB, List.length_map, List.cons_append, List.nil_append])))
      refine ⟨(q + 1, j + 1, A.set j (nth A (0 + k + q))), by dsimp only; omega, ⟨⟨by dsimp only; omega, by dsimp only; omega, by simpa using q3, by dsimp only; omega⟩, ?_, fun p hp1 hp2 => ?_⟩, ?_⟩
      · dsimp only
        rw [← Nat.add_assoc, hn, ← q5, e1, take_next (by rw [List.length_set]; omega), List.take_set_of_le (by omega), nth_set _ _ _ _ (by omega), if_pos rfl]
      · dsimp only at hp1 ⊢
        rw [nth_set _ _ _ _ (by omega), if_neg (by omega)]
        exact q6 p (by omega) hp2
      (exact LeV [])
end Go.Proofs.YteppnjgobaggaaaGreat

/- Contracts of paths.known, candidates and Best. -/
namespace Go.Proofs.YteppnjgobaggaaaGreat
set_option linter.unusedSimpArgs false
set_option linter.unusedVariables false
set_option linter.unnecessarySimpa false
set_option linter.unusedSectionVars false
set_option maxRecDepth 100000
open Go Go.RowKit Go.Am Go.Proofs.Grow

theorem prs_next {l : List Off} {k : Nat} (h : k < l.length) : prsF (l.take (k + 1)) = prsF (l.take k) ++ [((nth l k).sc, (nth l k).si), ((nth l k).bc, (nth l k).bi)] := by
  unfold prsF
  rw [List.take_add_one, List.getElem?_eq_getElem h, nth_getElem _ _ h]
  simp only [List.flatMap_append, Option.toList_some, List.flatMap_cons, List.flatMap_nil, List.append_nil]
set_option maxHeartbeats 2000000 in
theorem known_pm (g : Led) (ho : g.offs.length ≤ 6) : FnM Tryz.prog 152 [] [aG g] (lT (knownF g)) [] := by
  refine FnM.of htb Tryz.func152 rfl rfl rfl rfl rfl fun cx hN h0 => ?_
  (repeat' (first | ((with_reducible apply WD_id); first | (refine WD_sum ?_) | (refine WD_nxt htb (by exact rfl) ?_) | (refine WD_unk (by exact rfl) ?_; first | (refine WD_t (by exact rfl) (by exact rfl) (by exact known) fun hb => ?_; rw [hb]; clear hb) | (refine WD_f (by exact rfl) (by exact rfl) (by exact known) fun hb => ?_; rw [hb]; clear hb) | ((refine WD_tf (by exact rfl) (by exact rfl) ?_ ?_) <;> (intro hb; (fail_if_success (with_reducible injection hb)); rw [hb]; (try simp only [List.length_map] at hb)))) | (refine WD_idx htb ?_) | (refine WD_idxo htb ?_) | (refine WD_lde1 htb ?_) | (refine WD_lde htb ?_) | (refine WD_ste htb ?_) | (refine WD_ap htb ?_) | (refine WD_ap0 htb ?_) | (refine WD_nil htb ?_) | (refine WD_nilr htb ?_) | (refine WD_rem ?_) | (refine WD_quo ?_) | (refine WD_slc htb ?_) | (refine WD_ixa htb ?_) | (refine WD_ix1 htb ?_) | (refine WD_t (by exact rfl) (by exact rfl) (by exact known) fun hb => ?_; rw [hb]; clear hb) | (refine WD_f (by exact rfl) (by exact rfl) (by exact known) fun hb => ?_; rw [hb]; clear hb) | ((refine WD_tf (by exact rfl) (by exact rfl) ?_ ?_) <;> (intro hb; (fail_if_success (with_reducible injection hb)); rw [hb]; (try simp only [List.length_map] at hb)))) | (with_reducible apply WA_seq) | ((with_reducible apply gR hmix hN); exact (by kernel_rfl); (try dsimp only [List.append_eq, List.cons_append, List.nil_append])) | ((with_reducible apply WD_end); (first | exact no_draw | (intro _; kernel_rfl)); try simp only [thn, inB, List.length_map, List.cons_append, List.nil_append]) | ((with_reducible apply gCt); exact rfl; exact rfl) | ((with_reducible apply gCf); exact rfl; exact rfl) | ((with_reducible apply gCk); exact rfl; exact known; intro hb; rw [hb]; clear hb) | ((with_reducible apply gCn); exact rfl; exact known; intro hb; rw [hb]; clear hb) | (((with_reducible apply gC2); exact rfl) <;> (intro hb; rw [hb])) | (with_reducible apply WA_block) | ((with_reducible first | apply WA_skip | apply WA_ret | apply WA_exit | apply WA_label); try simp only [thn, inB, List.length_map, List.cons_append, List.nil_append])))
  refine WA_le (Le_nilT 60 3 37 2 rfl rfl) ?_
  (refine WA_forV (g.offs.length) [9, 3] [60] (fun k => [(9, vI k), (3, .own 60)]) (fun k => [(60, .arr 37 2 ((prsF (g.offs.take k)).map rT))]) (fun k => True) ?h0 ?_)
  case h0 => trivial
  intro k hk _
  have hln := prsF_len (g.offs.take k)
  have htl : (g.offs.take k).length ≤ 6 := by rw [List.length_take]; omega
  by_cases hk2 : k < g.offs.length
  · have d1 : decide ((k : Int) < (g.offs.length : Int)) = true := by simp only [decide_eq_true_eq]; omega
    have hrow : (prsF (g.offs.take k)).map rT ++ [[dS (nth g.offs k).sc, dI (nth g.offs k).si], [dS (nth g.offs k).bc, dI (nth g.offs k).bi]] = (prsF (g.offs.take (k + 1))).map rT := by rw [prs_next hk2]; simp [rT]
    (repeat' (first | ((with_reducible apply WD_id); first | (refine WD_sum ?_) | (refine WD_nxt htb (by exact rfl) ?_) | (refine WD_unk (by exact rfl) ?_; first | (refine WD_t (by exact rfl) (by exact rfl) (by exact known) fun hb => ?_; rw [hb]; clear hb) | (refine WD_f (by exact rfl) (by exact rfl) (by exact known) fun hb => ?_; rw [hb]; clear hb) | ((refine WD_tf (by exact rfl) (by exact rfl) ?_ ?_) <;> (intro hb; (fail_if_success (with_reducible injection hb)); rw [hb]; (try simp only [List.length_map] at hb)))) | (refine WD_idx htb ?_) | (refine WD_idxo htb ?_) | (refine WD_lde1 htb ?_) | (refine WD_lde htb ?_) | (refine WD_ste htb ?_) | (refine WD_ap htb ?_) | (refine WD_ap0 htb ?_) | (refine WD_nil htb ?_) | (refine WD_nilr htb ?_) | (refine WD_rem ?_) | (refine WD_quo ?_) | (refine WD_slc htb ?_) | (refine WD_ixa htb ?_) | (refine WD_ix1 htb ?_) | (refine WD_t (by exact rfl) (by exact rfl) (by exact known) fun hb => ?_; rw [hb]; clear hb) | (refine WD_f (by exact rfl) (by exact rfl) (by exact known) fun hb => ?_; rw [hb]; clear hb) | ((refine WD_tf (by exact rfl) (by exact rfl) ?_ ?_) <;> (intro hb; (fail_if_success (with_reducible injection hb)); rw [hb]; (try simp only [List.length_map] at hb)))) | (with_reducible apply WA_seq) | ((with_reducible apply gR hmix hN); exact (by kernel_rfl); (try dsimp only [List.append_eq, List.cons_append, List.nil_append])) | ((with_reducible apply WD_end); (first | exact no_draw | (intro _; kernel_rfl)); try simp only [thn, inB, List.length_map, List.cons_append, List.nil_append]) | ((with_reducible apply gCt); exact rfl; exact rfl) | ((with_reducible apply gCf); exact rfl; exact rfl) | ((with_reducible apply gCk); exact rfl; exact known; intro hb; rw [hb]; clear hb) | ((with_reducible apply gCn); exact rfl; exact known; intro hb; rw [hb]; clear hb) | (((with_reducible apply gC2); exact rfl) <;> (intro hb; rw [hb])) | (with_reducible apply WA_block) | ((with_reducible first | apply WA_skip | apply WA_ret | apply WA_exit | apply WA_label); try simp only [thn, inB, List.length_map, List.cons_append, List.nil_append])))
    refine ⟨hk2, trivial, ?_⟩
    (exact LeV [(60, 19)])
  · have d1 : decide ((k : Int) < (g.offs.length : Int)) = false := by simp only [decide_eq_false_iff_not]; omega
    obtain rfl : k = g.offs.length := by omega
    rw [List.take_length] at *
    have hs3 : (sorF (prsF g.offs)).length ≤ 1000 := by rw [sorF_len]; omega
    (repeat' (first | ((with_reducible apply WD_id); first | (refine WD_sum ?_) | (refine WD_nxt htb (by exact rfl) ?_) | (refine WD_unk (by exact rfl) ?_; first | (refine WD_t (by exact rfl) (by exact rfl) (by exact known) fun hb => ?_; rw [hb]; clear hb) | (refine WD_f (by exact rfl) (by exact rfl) (by exact known) fun hb => ?_; rw [hb]; clear hb) | ((refine WD_tf (by exact rfl) (by exact rfl) ?_ ?_) <;> (intro hb; (fail_if_success (with_reducible injection hb)); rw [hb]; (try simp only [List.length_map] at hb)))) | (refine WD_call (by exact rfl) ?_; first | (refine WD_cM (sortT_pm (l := prsF g.offs) ?_) ?_; (exact hyp)) | (refine WD_cM (comp_pm (l := sorF (prsF g.offs)) ?_) ?_; (exact hyp))) | (refine WD_idx htb ?_) | (refine WD_idxo htb ?_) | (refine WD_lde1 htb ?_) | (refine WD_lde htb ?_) | (refine WD_ste htb ?_) | (refine WD_ap htb ?_) | (refine WD_ap0 htb ?_) | (refine WD_nil htb ?_) | (refine WD_nilr htb ?_) | (refine WD_rem ?_) | (refine WD_quo ?_) | (refine WD_slc htb ?_) | (refine WD_ixa htb ?_) | (refine WD_ix1 htb ?_) | (refine WD_t (by exact rfl) (by exact rfl) (by exact known) fun hb => ?_; rw [hb]; clear hb) | (refine WD_f (by exact rfl) (by exact rfl) (by exact known) fun hb => ?_; rw [hb]; clear hb) | ((refine WD_tf (by exact rfl) (by exact rfl) ?_ ?_) <;> (intro hb; (fail_if_success (with_reducible injection hb)); rw [hb]; (try simp only [List.length_map] at hb)))) | (with_reducible apply WA_seq) | ((with_reducible apply gR hmix hN); exact (by kernel_rfl); (try dsimp only [List.append_eq, List.cons_append, List.nil_append])) | ((with_reducible apply WD_end); (first | exact no_draw | (intro _; kernel_rfl)); try simp only [thn, inB, List.length_map, List.cons_append, List.nil_append]) | ((with_reducible apply gCt); exact rfl; exact rfl) | ((with_reducible apply gCf); exact rfl; exact rfl) | ((with_reducible apply gCk); exact rfl; exact known; intro hb; rw [hb]; clear hb) | ((with_reducible apply gCn); exact rfl; exact known; intro hb; rw [hb]; clear hb) | (((with_reducible apply gC2); exact rfl) <;> (intro hb; rw [hb])) | (with_reducible apply WA_block) | ((with_reducible first | apply WA_skip | apply WA_ret | apply WA_exit | apply WA_label); try simp only [thn, inB, List.length_map, List.cons_append, List.nil_append])))
    (exact glV [(2, lT (knownF g))] [] (LeV []))
abbrev rP (p : List TA) : List D := [.rows 2 (p.map rT)]
abbrev lP (l : List (List TA)) : AV := .d (.rows 1 (l.map rP))
set_option maxHeartbeats 4000000 in
theorem cand_pm (g : Led) (ho : g.offs.length ≤ 5) : FnM Tryz.prog 110 [] [aG g] (lP (candF (knownF g))) [] := by
  refine FnM.of htb Tryz.func110 rfl rfl rfl rfl rfl fun cx hN h0 => ?_
  (repeat' (first | ((with_reducible apply WD_id); first | (refine WD_sum ?_) | (refine WD_bso htb ?_) | (refine WD_nxt htb (by exact rfl) ?_) | (refine WD_unk (by exact rfl) ?_; first | (refine WD_t (by exact rfl) (by exact rfl) (by exact known) fun hb => ?_; rw [hb]; clear hb) | (refine WD_f (by exact rfl) (by exact rfl) (by exact known) fun hb => ?_; rw [hb]; clear hb) | ((refine WD_tf (by exact rfl) (by exact rfl) ?_ ?_) <;> (intro hb; (fail_if_success (with_reducible injection hb)); rw [hb]; (try simp only [List.length_map] at hb)))) | (refine WD_call (by exact rfl) ?_; first | (refine WD_c0 (known_pm _ ?_) ?_; (exact hyp))) | (refine WD_idx htb ?_) | (refine WD_idxo htb ?_) | (refine WD_lde1 htb ?_) | (refine WD_lde htb ?_) | (refine WD_ste htb ?_) | (refine WD_ap htb ?_) | (refine WD_ap0 htb ?_) | (refine WD_nil htb ?_) | (refine WD_nilr htb ?_) | (refine WD_rem ?_) | (refine WD_quo ?_) | (refine WD_slc htb ?_) | (refine WD_ixa htb ?_) | (refine WD_ix1 htb ?_) | (refine WD_t (by exact rfl) (by exact rfl) (by exact known) fun hb => ?_; rw [hb]; clear hb) | (refine WD_f (by exact rfl) (by exact rfl) (by exact known) fun hb => ?_; rw [hb]; clear hb) | ((refine WD_tf (by exact rfl) (by exact rfl) ?_ ?_) <;> (intro hb; (fail_if_success (with_reducible injection hb)); rw [hb]; (try simp only [List.length_map] at hb)))) | (with_reducible apply WA_seq) | ((with_reducible apply gR hmix hN); exact (by kernel_rfl); (try dsimp only [List.append_eq, List.cons_append, List.nil_append])) | ((with_reducible apply WD_end); (first | exact no_draw | (intro _; kernel_rfl)); try simp only [thn, inB, List.length_map, List.cons_append, List.nil_append]) | ((with_reducible apply gCt); exact rfl; exact rfl) | ((with_reducible apply gCf); exact rfl; exact rfl) | ((with_reducible apply gCk); exact rfl; exact known; intro hb; rw [hb]; clear hb) | ((with_reducible apply gCn); exact rfl; exact known; intro hb; rw [hb]; clear hb) | (((with_reducible apply gC2); exact rfl) <;> (intro hb; rw [hb])) | (with_reducible apply WA_block) | ((with_reducible first | apply WA_skip | apply WA_ret | apply WA_exit | apply WA_label); try simp only [thn, inB, List.length_map, List.cons_append, List.nil_append])))
  have hkl := knownF_len g
  have hkl2 : (knownF g).length ≤ 10 := by omega
  clear hkl
  generalize knownF g = all at *
  refine WA_le (Le_nilrow 11 2 rfl) ?_
  (refine WA_forV (all.length) [16, 3, 11] [11] (fun k => [(16, vI k), (3, .own 11)]) (fun k => [(11, .arr 70 1 ((cand1 all k).map rP))]) (fun k => True) ?h0 ?_)
  case h0 => trivial
  intro k hk _
  have hln := cand1_len all k
  by_cases hk2 : k < all.length
  · have d1 : decide ((k : Int) < (all.length : Int)) = true := by simp only [decide_eq_true_eq]; omega
    have hrow : (cand1 all k).map rP ++ [[.rows 2 [[dS (nth all k).1, dI (nth all k).2]]]] = (cand1 all (k + 1)).map rP := by rw [cand1_next hk2]; simp [rP, rT]
    (repeat' (first | ((with_reducible apply WD_id); first | (refine WD_sum ?_) | (refine WD_nxt htb (by exact rfl) ?_) | (refine WD_unk (by exact rfl) ?_; first | (refine WD_t (by exact rfl) (by exact rfl) (by exact known) fun hb => ?_; rw [hb]; clear hb) | (refine WD_f (by exact rfl) (by exact rfl) (by exact known) fun hb => ?_; rw [hb]; clear hb) | ((refine WD_tf (by exact rfl) (by exact rfl) ?_ ?_) <;> (intro hb; (fail_if_success (with_reducible injection hb)); rw [hb]; (try simp only [List.length_map] at hb)))) | (refine WD_idx htb ?_) | (refine WD_idxo htb ?_) | (refine WD_lde1 htb ?_) | (refine WD_lde htb ?_) | (refine WD_ste htb ?_) | (refine WD_ap htb ?_) | (refine WD_ap0 htb ?_) | (refine WD_nil htb ?_) | (refine WD_nilr htb ?_) | (refine WD_rem ?_) | (refine WD_quo ?_) | (refine WD_slc htb ?_) | (refine WD_ixa htb ?_) | (refine WD_ix1 htb ?_) | (refine WD_t (by exact rfl) (by exact rfl) (by exact known) fun hb => ?_; rw [hb]; clear hb) | (refine WD_f (by exact rfl) (by exact rfl) (by exact known) fun hb => ?_; rw [hb]; clear hb) | ((refine WD_tf (by exact rfl) (by exact rfl) ?_ ?_) <;> (intro hb; (fail_if_success (with_reducible injection hb)); rw [hb]; (try simp only [List.length_map] at hb)))) | (with_reducible apply WA_seq) | ((with_reducible apply gR hmix hN); exact (by kernel_rfl); (try dsimp only [List.append_eq, List.cons_append, List.nil_append])) | ((with_reducible apply WD_end); (first | exact no_draw | (intro _; kernel_rfl)); try simp only [thn, inB, List.length_map, List.cons_append, List.nil_append]) | ((with_reducible apply gCt); exact rfl; exact rfl) | ((with_reducible apply gCf); exact rfl; exact rfl) | ((with_reducible apply gCk); exact rfl; exact known; intro hb; rw [hb]; clear hb) | ((with_reducible apply gCn); exact rfl; exact known; intro hb; rw [hb]; clear hb) | (((with_reducible apply gC2); exact rfl) <;> (intro hb; rw [hb])) | (with_reducible apply WA_block) | ((with_reducible first | apply WA_skip | apply WA_ret | apply WA_exit | apply WA_label); try simp only [thn, inB, List.length_map, List.cons_append, List.nil_append])))
    refine ⟨hk2, trivial, ?_⟩
    (exact LeV [(11, 24)])
  have d1 : decide ((k : Int) < (all.length : Int)) = false := by simp only [decide_eq_false_iff_not]; omega
  obtain rfl : k = all.length := by omega
  rw [show cand1 all all.length = cand2 all 0 0 by simp [cand2]]
  clear hln
  (repeat' (first | ((with_reducible apply WD_id); first | (refine WD_sum ?_) | (refine WD_nxt htb (by exact rfl) ?_) | (refine WD_unk (by exact rfl) ?_; first | (refine WD_t (by exact rfl) (by exact rfl) (by exact known) fun hb => ?_; rw [hb]; clear hb) | (refine WD_f (by exact rfl) (by exact rfl) (by exact known) fun hb => ?_; rw [hb]; clear hb) | ((refine WD_tf (by exact rfl) (by exact rfl) ?_ ?_) <;> (intro hb; (fail_if_success (with_reducible injection hb)); rw [hb]; (try simp only [List.length_map] at hb)))) | (refine WD_idx htb ?_) | (refine WD_idxo htb ?_) | (refine WD_lde1 htb ?_) | (refine WD_lde htb ?_) | (refine WD_ste htb ?_) | (refine WD_ap htb ?_) | (refine WD_ap0 htb ?_) | (refine WD_nil htb ?_) | (refine WD_nilr htb ?_) | (refine WD_rem ?_) | (refine WD_quo ?_) | (refine WD_slc htb ?_) | (refine WD_ixa htb ?_) | (refine WD_ix1 htb ?_) | (refine WD_t (by exact rfl) (by exact rfl) (by exact known) fun hb => ?_; rw [hb]; clear hb) | (refine WD_f (by exact rfl) (by exact rfl) (by exact known) fun hb => ?_; rw [hb]; clear hb) | ((refine WD_tf (by exact rfl) (by exact rfl) ?_ ?_) <;> (intro hb; (fail_if_success (with_reducible injection hb)); rw [hb]; (try simp only [List.length_map] at hb)))) | (with_reducible apply WA_seq) | ((with_reducible apply gR hmix hN); exact (by kernel_rfl); (try dsimp only [List.append_eq, List.cons_append, List.nil_append])) | ((with_reducible apply WD_end); (first | exact no_draw | (intro _; kernel_rfl)); try simp only [thn, inB, List.length_map, List.cons_append, List.nil_append]) | ((with_reducible apply gCt); exact rfl; exact rfl) | ((with_reducible apply gCf); exact rfl; exact rfl) | ((with_reducible apply gCk); exact rfl; exact known; intro hb; rw [hb]; clear hb) | ((with_reducible apply gCn); exact rfl; exact known; intro hb; rw [hb]; clear hb) | (((with_reducible apply gC2); exact rfl) <;> (intro hb; rw [hb])) | (with_reducible apply WA_block) | ((with_reducible first | apply WA_skip | apply WA_ret | apply WA_exit | apply WA_label); try simp only [thn, inB, List.length_map, List.cons_append, List.nil_append])))
  (refine WA_forV (all.length) [28, 3] [11] (fun k => [(28, vI k), (3, .own 11)]) (fun k => [(11, .arr 70 1 ((cand2 all k 0).map rP))]) (fun k => True) ?h0 ?_)
  case h0 => trivial
  intro i hi _
  by_cases hi2 : i < all.length
  · have d2 : decide ((i : Int) < (all.length : Int)) = true := by simp only [decide_eq_true_eq]; omega
    (repeat' (first | ((with_reducible apply WD_id); first | (refine WD_sum ?_) | (refine WD_nxt htb (by exact rfl) ?_) | (refine WD_unk (by exact rfl) ?_; first | (refine WD_t (by exact rfl) (by exact rfl) (by exact known) fun hb => ?_; rw [hb]; clear hb) | (refine WD_f (by exact rfl) (by exact rfl) (by exact known) fun hb => ?_; rw [hb]; clear hb) | ((refine WD_tf (by exact rfl) (by exact rfl) ?_ ?_) <;> (intro hb; (fail_if_success (with_reducible injection hb)); rw [hb]; (try simp only [List.length_map] at hb)))) | (refine WD_idx htb ?_) | (refine WD_idxo htb ?_) | (refine WD_lde1 htb ?_) | (refine WD_lde htb ?_) | (refine WD_ste htb ?_) | (refine WD_ap htb ?_) | (refine WD_ap0 htb ?_) | (refine WD_nil htb ?_) | (refine WD_nilr htb ?_) | (refine WD_rem ?_) | (refine WD_quo ?_) | (refine WD_slc htb ?_) | (refine WD_ixa htb ?_) | (refine WD_ix1 htb ?_) | (refine WD_t (by exact rfl) (by exact rfl) (by exact known) fun hb => ?_; rw [hb]; clear hb) | (refine WD_f (by exact rfl) (by exact rfl) (by exact known) fun hb => ?_; rw [hb]; clear hb) | ((refine WD_tf (by exact rfl) (by exact rfl) ?_ ?_) <;> (intro hb; (fail_if_success (with_reducible injection hb)); rw [hb]; (try simp only [List.length_map] at hb)))) | (with_reducible apply WA_seq) | ((with_reducible apply gR hmix hN); exact (by kernel_rfl); (try dsimp only [List.append_eq, List.cons_append, List.nil_append])) | ((with_reducible apply WD_end); (first | exact no_draw | (intro _; kernel_rfl)); try simp only [thn, inB, List.length_map, List.cons_append, List.nil_append]) | ((with_reducible apply gCt); exact rfl; exact rfl) | ((with_reducible apply gCf); exact rfl; exact rfl) | ((with_reducible apply gCk); exact rfl; exact known; intro hb; rw [hb]; clear hb) | ((with_reducible apply gCn); exact rfl; exact known; intro hb; rw [hb]; clear hb) | (((with_reducible apply gC2); exact rfl) <;> (intro hb; rw [hb])) | (with_reducible apply WA_block) | ((with_reducible first | apply WA_skip | apply WA_ret | apply WA_exit | apply WA_label); try simp only [thn, inB, List.length_map, List.cons_append, List.nil_append])))
    (refine WA_forV (all.length) [34, 3] [11, 8] (fun k => [(34, vI k), (3, .own 11)]) (fun k => [(11, .arr 70 1 ((cand2 all i k).map rP)), (8, .box 37 [vS (nth all i).1, vI (nth all i).2])]) (fun k => True) ?h0 ?_)
    case h0 => trivial
    intro m hm _
    have hln := cand2_len all i m hkl2
    by_cases hm2 : m < all.length
    · have d3 : decide ((m : Int) < (all.length : Int)) = true := by simp only [decide_eq_true_eq]; omega
      have hrow : (cand2 all i m).map rP ++ [[.rows 2 [[dS (nth all i).1, dI (nth all i).2], [dS (nth all m).1, dI (nth all m).2]]]] = (cand2 all i (m + 1)).map rP := by rw [cand2_next hm2]; simp [rP, rT]
      (repeat' (first | ((with_reducible apply WD_id); first | (refine WD_sum ?_) | (refine WD_nxt htb (by exact rfl) ?_) | (refine WD_unk (by exact rfl) ?_; first | (refine WD_t (by exact rfl) (by exact rfl) (by exact known) fun hb => ?_; rw [hb]; clear hb) | (refine WD_f (by exact rfl) (by exact rfl) (by exact known) fun hb => ?_; rw [hb]; clear hb) | ((refine WD_tf (by exact rfl) (by exact rfl) ?_ ?_) <;> (intro hb; (fail_if_success (with_reducible injection hb)); rw [hb]; (try simp only [List.length_map] at hb)))) | (refine WD_idx htb ?_) | (refine WD_idxo htb ?_) | (refine WD_lde1 htb ?_) | (refine WD_lde htb ?_) | (refine WD_ste htb ?_) | (refine WD_ap htb ?_) | (refine WD_ap0 htb ?_) | (refine WD_nil htb ?_) | (refine WD_nilr htb ?_) | (refine WD_rem ?_) | (refine WD_quo ?_) | (refine WD_slc htb ?_) | (refine WD_ixa htb ?_) | (refine WD_ix1 htb ?_) | (refine WD_t (by exact rfl) (by exact rfl) (by exact known) fun hb => ?_; rw [hb]; clear hb) | (refine WD_f (by exact rfl) (by exact rfl) (by exact known) fun hb => ?_; rw [hb]; clear hb) | ((refine WD_tf (by exact rfl) (by exact rfl) ?_ ?_) <;> (intro hb; (fail_if_success (with_reducible injection hb)); rw [hb]; (try simp only [List.length_map] at hb)))) | (with_reducible apply WA_seq) | ((with_reducible apply gR hmix hN); exact (by kernel_rfl); (try dsimp only [List.append_eq, List.cons_append, List.nil_append])) | ((with_reducible apply WD_end); (first | exact no_draw | (intro _; kernel_rfl)); try simp only [thn, inB, List.length_map, List.cons_append, List.nil_append]) | ((with_reducible apply gCt); exact rfl; exact rfl) | ((with_reducible apply gCf); exact rfl; exact rfl) | ((with_reducible apply gCk); exact rfl; exact known; intro hb; rw [hb]; clear hb) | ((with_reducible apply gCn); exact rfl; exact known; intro hb; rw [hb]; clear hb) | (((with_reducible apply gC2); exact rfl) <;> (intro hb; rw [hb])) | (with_reducible apply WA_block) | ((with_reducible first | apply WA_skip | apply WA_ret | apply WA_exit | apply WA_label); try simp only [thn, inB, List.length_map, List.cons_append, List.nil_append])))
      refine ⟨hm2, trivial, ?_⟩
      (exact LeV [(11, 43)])
    · have d3 : decide ((m : Int) < (all.length : Int)) = false := by simp only [decide_eq_false_iff_not]; omega
      obtain rfl : m = all.length := by omega
      rw [← cand2_row hi2]
      (repeat' (first | ((with_reducible apply WD_id); first | (refine WD_sum ?_) | (refine WD_nxt htb (by exact rfl) ?_) | (refine WD_unk (by exact rfl) ?_; first | (refine WD_t (by exact rfl) (by exact rfl) (by exact known) fun hb => ?_; rw [hb]; clear hb) | (refine WD_f (by exact rfl) (by exact rfl) (by exact known) fun hb => ?_; rw [hb]; clear hb) | ((refine WD_tf (by exact rfl) (by exact rfl) ?_ ?_) <;> (intro hb; (fail_if_success (with_reducible injection hb)); rw [hb]; (try simp only [List.length_map] at hb)))) | (refine WD_idx htb ?_) | (refine WD_idxo htb ?_) | (refine WD_lde1 htb ?_) | (refine WD_lde htb ?_) | (refine WD_ste htb ?_) | (refine WD_ap htb ?_) | (refine WD_ap0 htb ?_) | (refine WD_nil htb ?_) | (refine WD_nilr htb ?_) | (refine WD_rem ?_) | (refine WD_quo ?_) | (refine WD_slc htb ?_) | (refine WD_ixa htb ?_) | (refine WD_ix1 htb ?_) | (refine WD_t (by exact rfl) (by exact rfl) (by exact known) fun hb => ?_; rw [hb]; clear hb) | (refine WD_f (by exact rfl) (by exact rfl) (by exact known) fun hb => ?_; rw [hb]; clear hb) | ((refine WD_tf (by exact rfl) (by exact rfl) ?_ ?_) <;> (intro hb; (fail_if_success (with_reducible injection hb)); rw [hb]; (try simp only [List.length_map] at hb)))) | (with_reducible apply WA_seq) | ((with_reducible apply gR hmix hN); exact (by kernel_rfl); (try dsimp only [List.append_eq, List.cons_append, List.nil_append])) | ((with_reducible apply WD_end); (first | exact no_draw | (intro _; kernel_rfl)); try simp only [thn, inB, List.length_map, List.cons_append, List.nil_append]) | ((with_reducible apply gCt); exact rfl; exact rfl) | ((with_reducible apply gCf); exact rfl; exact rfl) | ((with_reducible apply gCk); exact rfl; exact known; intro hb; rw [hb]; clear hb) | ((with_reducible apply gCn); exact rfl; exact known; intro hb; rw [hb]; clear hb) | (((with_reducible apply gC2); exact rfl) <;> (intro hb; rw [hb])) | (with_reducible apply WA_block) | ((with_reducible first | apply WA_skip | apply WA_ret | apply WA_exit | apply WA_label); try simp only [thn, inB, List.length_map, List.cons_append, List.nil_append])))
      refine ⟨hi2, trivial, ?_⟩
      (exact LeV [])
  · have d2 : decide ((i : Int) < (all.length : Int)) = false := by simp only [decide_eq_false_iff_not]; omega
    obtain rfl : i = all.length := by omega
    (repeat' (first | ((with_reducible apply WD_id); first | (refine WD_sum ?_) | (refine WD_nxt htb (by exact rfl) ?_) | (refine WD_unk (by exact rfl) ?_; first | (refine WD_t (by exact rfl) (by exact rfl) (by exact known) fun hb => ?_; rw [hb]; clear hb) | (refine WD_f (by exact rfl) (by exact rfl) (by exact known) fun hb => ?_; rw [hb]; clear hb) | ((refine WD_tf (by exact rfl) (by exact rfl) ?_ ?_) <;> (intro hb; (fail_if_success (with_reducible injection hb)); rw [hb]; (try simp only [List.length_map] at hb)))) | (refine WD_idx htb ?_) | (refine WD_idxo htb ?_) | (refine WD_lde1 htb ?_) | (refine WD_lde htb ?_) | (refine WD_ste htb ?_) | (refine WD_ap htb ?_) | (refine WD_ap0 htb ?_) | (refine WD_nil htb ?_) | (refine WD_nilr htb ?_) | (refine WD_rem ?_) | (refine WD_quo ?_) | (refine WD_slc htb ?_) | (refine WD_ixa htb ?_) | (refine WD_ix1 htb ?_) | (refine WD_t (by exact rfl) (by exact rfl) (by exact known) fun hb => ?_; rw [hb]; clear hb) | (refine WD_f (by exact rfl) (by exact rfl) (by exact known) fun hb => ?_; rw [hb]; clear hb) | ((refine WD_tf (by exact rfl) (by exact rfl) ?_ ?_) <;> (intro hb; (fail_if_success (with_reducible injection hb)); rw [hb]; (try simp only [List.length_map] at hb)))) | (with_reducible apply WA_seq) | ((with_reducible apply gR hmix hN); exact (by kernel_rfl); (try dsimp only [List.append_eq, List.cons_append, List.nil_append])) | ((with_reducible apply WD_end); (first | exact no_draw | (intro _; kernel_rfl)); try simp only [thn, inB, List.length_map, List.cons_append, List.nil_append]) | ((with_reducible apply gCt); exact rfl; exact rfl) | ((with_reducible apply gCf); exact rfl; exact rfl) | ((with_reducible apply gCk); exact rfl; exact known; intro hb; rw [hb]; clear hb) | ((with_reducible apply gCn); exact rfl; exact known; intro hb; rw [hb]; clear hb) | (((with_reducible apply gC2); exact rfl) <;> (intro hb; rw [hb])) | (with_reducible apply WA_block) | ((with_reducible first | apply WA_skip | apply WA_ret | apply WA_exit | apply WA_label); try simp only [thn, inB, List.length_map, List.cons_append, List.nil_append])))
    (exact glV [(2, lP (candF all))] [] (LeV []))
set_option maxHeartbeats 4000000 in
theorem best_pm (g : Led) (b : Int) (v : ByteArray) (j : Int) (u : ByteArray) (i : Int) (n : Int) (hl : g.lins.length ≤ 1000) (ha : g.accs.length ≤ 1000) (ho : g.offs.length ≤ 5) :
    FnM Tryz.prog 54 [] [aG g, vI b, aT v j, aT u i, vI n] (.tup [lT (bestF g b v j u i n).1, vI (bestF g b v j u i n).2.1, vI (bestF g b v j u i n).2.2]) [] := by
  refine FnM.of htb Tryz.func54 rfl rfl rfl rfl rfl fun cx hN h0 => ?_
  obtain ⟨Q, hQ⟩ : ∃ Q : List TA → Int × Int, Q = fun p => quoteF g b v j u i p n := ⟨_, rfl⟩
  have hq : ∀ p, quoteF g b v j u i p n = Q p := fun p => by rw [hQ]
  have hB : bestF g b v j u i n = if (bstN Q (candF (knownF g)) (candF (knownF g)).length).2.2 = false then ([], 0, (Q []).2) else ((bstN Q (candF (knownF g)) (candF (knownF g)).length).1, (bstN Q (candF (knownF g)) (candF (knownF g)).length).2.1, 0) := by
    rw [hQ]; rfl
  have h2 : ∀ p ∈ candF (knownF g), p.length ≤ 2 := fun p hp => candF_two hp
  have ho2 : g.offs.length ≤ 12 := by omega
  have hCl : (candF (knownF g)).length ≤ 121 := cand2_len _ _ _ (by have := knownF_len g; omega)
  rw [hB]
  clear hB hQ
  (repeat' (first | ((with_reducible apply WD_id); first | (refine WD_sum ?_) | (refine WD_nxt htb (by exact rfl) ?_) | (refine WD_unk (by exact rfl) ?_; first | (refine WD_t (by exact rfl) (by exact rfl) (by exact known) fun hb => ?_; rw [hb]; clear hb) | (refine WD_f (by exact rfl) (by exact rfl) (by exact known) fun hb => ?_; rw [hb]; clear hb) | ((refine WD_tf (by exact rfl) (by exact rfl) ?_ ?_) <;> (intro hb; (fail_if_success (with_reducible injection hb)); rw [hb]; (try simp only [List.length_map] at hb)))) | (refine WD_call (by exact rfl) ?_; first | (refine WD_c0 (cand_pm _ ?_) ?_; (exact hyp))) | (refine WD_idx htb ?_) | (refine WD_idxo htb ?_) | (refine WD_lde1 htb ?_) | (refine WD_lde htb ?_) | (refine WD_ste htb ?_) | (refine WD_ap htb ?_) | (refine WD_ap0 htb ?_) | (refine WD_nil htb ?_) | (refine WD_nilr htb ?_) | (refine WD_rem ?_) | (refine WD_quo ?_) | (refine WD_slc htb ?_) | (refine WD_ixa htb ?_) | (refine WD_ix1 htb ?_) | (refine WD_t (by exact rfl) (by exact rfl) (by exact known) fun hb => ?_; rw [hb]; clear hb) | (refine WD_f (by exact rfl) (by exact rfl) (by exact known) fun hb => ?_; rw [hb]; clear hb) | ((refine WD_tf (by exact rfl) (by exact rfl) ?_ ?_) <;> (intro hb; (fail_if_success (with_reducible injection hb)); rw [hb]; (try simp only [List.length_map] at hb)))) | (with_reducible apply WA_seq) | ((with_reducible apply gR hmix hN); exact (by kernel_rfl); (try dsimp only [List.append_eq, List.cons_append, List.nil_append])) | ((with_reducible apply WD_end); (first | exact no_draw | (intro _; kernel_rfl)); try simp only [thn, inB, List.length_map, List.cons_append, List.nil_append]) | ((with_reducible apply gCt); exact rfl; exact rfl) | ((with_reducible apply gCf); exact rfl; exact rfl) | ((with_reducible apply gCk); exact rfl; exact known; intro hb; rw [hb]; clear hb) | ((with_reducible apply gCn); exact rfl; exact known; intro hb; rw [hb]; clear hb) | (((with_reducible apply gC2); exact rfl) <;> (intro hb; rw [hb])) | (with_reducible apply WA_block) | ((with_reducible first | apply WA_skip | apply WA_ret | apply WA_exit | apply WA_label); try simp only [thn, inB, List.length_map, List.cons_append, List.nil_append])))
  generalize candF (knownF g) = C at *
  (refine WA_forV (C.length) [25, 13, 14, 15] [] (fun k => [(25, vI k), (13, lT (bstN Q C k).1), (14, vI (bstN Q C k).2.1), (15, vB (bstN Q C k).2.2)]) (fun k => []) (fun k => True) ?h0 ?_)
  case h0 => trivial
  intro k hk _
  by_cases hk2 : k < C.length
  · have d1 : decide ((k : Int) < (C.length : Int)) = true := by simp only [decide_eq_true_eq]; omega
    have hp9 : (nth C k).length ≤ 900 := by have := h2 _ (nth_mem C k hk2); omega
    have hqk := hq (nth C k)
    rcases hqv : Q (nth C k) with ⟨c, e⟩
    rw [hqv] at hqk
    have hs : bstN Q C (k + 1) = bstS Q (bstN Q C k) (nth C k) := rfl
    unfold bstS at hs
    rw [hqv] at hs
    generalize bstN Q C k = s at *
    obtain ⟨sp, sl, sf⟩ := s
    dsimp only at hs
    by_cases he : e = 0
    · subst he
      have t1 : ((0 : Int) == 0) = true := rfl
      cases sf with
      | false =>
        have hs' : bstN Q C (k + 1) = (nth C k, c, true) := by rw [hs, if_pos ⟨rfl, .inl rfl⟩]
        (repeat' (first | ((with_reducible apply WD_id); first | (refine WD_sum ?_) | (refine WD_nxt htb (by exact rfl) ?_) | (refine WD_unk (by exact rfl) ?_; first | (refine WD_t (by exact rfl) (by exact rfl) (by exact known) fun hb => ?_; rw [hb]; clear hb) | (refine WD_f (by exact rfl) (by exact rfl) (by exact known) fun hb => ?_; rw [hb]; clear hb) | ((refine WD_tf (by exact rfl) (by exact rfl) ?_ ?_) <;> (intro hb; (fail_if_success (with_reducible injection hb)); rw [hb]; (try simp only [List.length_map] at hb)))) | (refine WD_call (by exact rfl) ?_; first | (refine WD_e0 (fun h => quote_pe (l := nth C k) (p := (c, 0)) _ _ _ _ _ _ _ ?_ ?_ ?_ ?_ h) ?_; (exact hyp); (exact hyp); (exact hyp); (exact hyp))) | (refine WD_idx htb ?_) | (refine WD_idxo htb ?_) | (refine WD_lde1 htb ?_) | (refine WD_lde htb ?_) | (refine WD_ste htb ?_) | (refine WD_ap htb ?_) | (refine WD_ap0 htb ?_) | (refine WD_nil htb ?_) | (refine WD_nilr htb ?_) | (refine WD_rem ?_) | (refine WD_quo ?_) | (refine WD_slc htb ?_) | (refine WD_ixa htb ?_) | (refine WD_ix1 htb ?_) | (refine WD_t (by exact rfl) (by exact rfl) (by exact known) fun hb => ?_; rw [hb]; clear hb) | (refine WD_f (by exact rfl) (by exact rfl) (by exact known) fun hb => ?_; rw [hb]; clear hb) | ((refine WD_tf (by exact rfl) (by exact rfl) ?_ ?_) <;> (intro hb; (fail_if_success (with_reducible injection hb)); rw [hb]; (try simp only [List.length_map] at hb)))) | (with_reducible apply WA_seq) | ((with_reducible apply gR hmix hN); exact (by kernel_rfl); (try dsimp only [List.append_eq, List.cons_append, List.nil_append])) | ((with_reducible apply WD_end); (first | exact no_draw | (intro _; kernel_rfl)); try simp only [thn, inB, List.length_map, List.cons_append, List.nil_append]) | ((with_reducible apply gCt); exact rfl; exact rfl) | ((with_reducible apply gCf); exact rfl; exact rfl) | ((with_reducible apply gCk); exact rfl; exact known; intro hb; rw [hb]; clear hb) | ((with_reducible apply gCn); exact rfl; exact known; intro hb; rw [hb]; clear hb) | (((with_reducible apply gC2); exact rfl) <;> (intro hb; rw [hb])) | (with_reducible apply WA_block) | ((with_reducible first | apply WA_skip | apply WA_ret | apply WA_exit | apply WA_label); try simp only [thn, inB, List.length_map, List.cons_append, List.nil_append])))
        refine ⟨hk2, trivial, ?_⟩
        rw [hs']
        (exact LeV [])
      | true =>
        by_cases hc : c < sl
        · have t2 : decide (c < sl) = true := by simp [hc]
          have hs' : bstN Q C (k + 1) = (nth C k, c, true) := by rw [hs, if_pos ⟨rfl, .inr hc⟩]
          (repeat' (first | ((with_reducible apply WD_id); first | (refine WD_sum ?_) | (refine WD_nxt htb (by exact rfl) ?_) | (refine WD_unk (by exact rfl) ?_; first | (refine WD_t (by exact rfl) (by exact rfl) (by exact known) fun hb => ?_; rw [hb]; clear hb) | (refine WD_f (by exact rfl) (by exact rfl) (by exact known) fun hb => ?_; rw [hb]; clear hb) | ((refine WD_tf (by exact rfl) (by exact rfl) ?_ ?_) <;> (intro hb; (fail_if_success (with_reducible injection hb)); rw [hb]; (try simp only [List.length_map] at hb)))) | (refine WD_call (by exact rfl) ?_; first | (refine WD_e0 (fun h => quote_pe (l := nth C k) (p := (c, 0)) _ _ _ _ _ _ _ ?_ ?_ ?_ ?_ h) ?_; (exact hyp); (exact hyp); (exact hyp); (exact hyp))) | (refine WD_idx htb ?_) | (refine WD_idxo htb ?_) | (refine WD_lde1 htb ?_) | (refine WD_lde htb ?_) | (refine WD_ste htb ?_) | (refine WD_ap htb ?_) | (refine WD_ap0 htb ?_) | (refine WD_nil htb ?_) | (refine WD_nilr htb ?_) | (refine WD_rem ?_) | (refine WD_quo ?_) | (refine WD_slc htb ?_) | (refine WD_ixa htb ?_) | (refine WD_ix1 htb ?_) | (refine WD_t (by exact rfl) (by exact rfl) (by exact known) fun hb => ?_; rw [hb]; clear hb) | (refine WD_f (by exact rfl) (by exact rfl) (by exact known) fun hb => ?_; rw [hb]; clear hb) | ((refine WD_tf (by exact rfl) (by exact rfl) ?_ ?_) <;> (intro hb; (fail_if_success (with_reducible injection hb)); rw [hb]; (try simp only [List.length_map] at hb)))) | (with_reducible apply WA_seq) | ((with_reducible apply gR hmix hN); exact (by kernel_rfl); (try dsimp only [List.append_eq, List.cons_append, List.nil_append])) | ((with_reducible apply WD_end); (first | exact no_draw | (intro _; kernel_rfl)); try simp only [thn, inB, List.length_map, List.cons_append, List.nil_append]) | ((with_reducible apply gCt); exact rfl; exact rfl) | ((with_reducible apply gCf); exact rfl; exact rfl) | ((with_reducible apply gCk); exact rfl; exact known; intro hb; rw [hb]; clear hb) | ((with_reducible apply gCn); exact rfl; exact known; intro hb; rw [hb]; clear hb) | (((with_reducible apply gC2); exact rfl) <;> (intro hb; rw [hb])) | (with_reducible apply WA_block) | ((with_reducible first | apply WA_skip | apply WA_ret | apply WA_exit | apply WA_label); try simp only [thn, inB, List.length_map, List.cons_append, List.nil_append])))
          refine ⟨hk2, trivial, ?_⟩
          rw [hs']
          (exact LeV [])
        · have t2 : decide (c < sl) = false := by simp [hc]
          have hs' : bstN Q C (k + 1) = (sp, sl, true) := by rw [hs, if_neg (by simp [hc])]
          (repeat' (first | ((with_reducible apply WD_id); first | (refine WD_sum ?_) | (refine WD_nxt htb (by exact rfl) ?_) | (refine WD_unk (by exact rfl) ?_; first | (refine WD_t (by exact rfl) (by exact rfl) (by exact known) fun hb => ?_; rw [hb]; clear hb) | (refine WD_f (by exact rfl) (by exact rfl) (by exact known) fun hb => ?_; rw [hb]; clear hb) | ((refine WD_tf (by exact rfl) (by exact rfl) ?_ ?_) <;> (intro hb; (fail_if_success (with_reducible injection hb)); rw [hb]; (try simp only [List.length_map] at hb)))) | (refine WD_call (by exact rfl) ?_; first | (refine WD_e0 (fun h => quote_pe (l := nth C k) (p := (c, 0)) _ _ _ _ _ _ _ ?_ ?_ ?_ ?_ h) ?_; (exact hyp); (exact hyp); (exact hyp); (exact hyp))) | (refine WD_idx htb ?_) | (refine WD_idxo htb ?_) | (refine WD_lde1 htb ?_) | (refine WD_lde htb ?_) | (refine WD_ste htb ?_) | (refine WD_ap htb ?_) | (refine WD_ap0 htb ?_) | (refine WD_nil htb ?_) | (refine WD_nilr htb ?_) | (refine WD_rem ?_) | (refine WD_quo ?_) | (refine WD_slc htb ?_) | (refine WD_ixa htb ?_) | (refine WD_ix1 htb ?_) | (refine WD_t (by exact rfl) (by exact rfl) (by exact known) fun hb => ?_; rw [hb]; clear hb) | (refine WD_f (by exact rfl) (by exact rfl) (by exact known) fun hb => ?_; rw [hb]; clear hb) | ((refine WD_tf (by exact rfl) (by exact rfl) ?_ ?_) <;> (intro hb; (fail_if_success (with_reducible injection hb)); rw [hb]; (try simp only [List.length_map] at hb)))) | (with_reducible apply WA_seq) | ((with_reducible apply gR hmix hN); exact (by kernel_rfl); (try dsimp only [List.append_eq, List.cons_append, List.nil_append])) | ((with_reducible apply WD_end); (first | exact no_draw | (intro _; kernel_rfl)); try simp only [thn, inB, List.length_map, List.cons_append, List.nil_append]) | ((with_reducible apply gCt); exact rfl; exact rfl) | ((with_reducible apply gCf); exact rfl; exact rfl) | ((with_reducible apply gCk); exact rfl; exact known; intro hb; rw [hb]; clear hb) | ((with_reducible apply gCn); exact rfl; exact known; intro hb; rw [hb]; clear hb) | (((with_reducible apply gC2); exact rfl) <;> (intro hb; rw [hb])) | (with_reducible apply WA_block) | ((with_reducible first | apply WA_skip | apply WA_ret | apply WA_exit | apply WA_label); try simp only [thn, inB, List.length_map, List.cons_append, List.nil_append])))
          refine ⟨hk2, trivial, ?_⟩
          rw [hs']
          (exact LeV [])
    · have t1 : (e == 0) = false := by simp [he]
      have hs' : bstN Q C (k + 1) = (sp, sl, sf) := by rw [hs, if_neg (by simp [he])]
      (repeat' (first | ((with_reducible apply WD_id); first | (refine WD_sum ?_) | (refine WD_nxt htb (by exact rfl) ?_) | (refine WD_unk (by exact rfl) ?_; first | (refine WD_t (by exact rfl) (by exact rfl) (by exact known) fun hb => ?_; rw [hb]; clear hb) | (refine WD_f (by exact rfl) (by exact rfl) (by exact known) fun hb => ?_; rw [hb]; clear hb) | ((refine WD_tf (by exact rfl) (by exact rfl) ?_ ?_) <;> (intro hb; (fail_if_success (with_reducible injection hb)); rw [hb]; (try simp only [List.length_map] at hb)))) | (refine WD_call (by exact rfl) ?_; first | (refine WD_e0 (fun h => quote_pe (l := nth C k) (p := (c, e)) _ _ _ _ _ _ _ ?_ ?_ ?_ ?_ h) ?_; (exact hyp); (exact hyp); (exact hyp); (exact hyp))) | (refine WD_idx htb ?_) | (refine WD_idxo htb ?_) | (refine WD_lde1 htb ?_) | (refine WD_lde htb ?_) | (refine WD_ste htb ?_) | (refine WD_ap htb ?_) | (refine WD_ap0 htb ?_) | (refine WD_nil htb ?_) | (refine WD_nilr htb ?_) | (refine WD_rem ?_) | (refine WD_quo ?_) | (refine WD_slc htb ?_) | (refine WD_ixa htb ?_) | (refine WD_ix1 htb ?_) | (refine WD_t (by exact rfl) (by exact rfl) (by exact known) fun hb => ?_; rw [hb]; clear hb) | (refine WD_f (by exact rfl) (by exact rfl) (by exact known) fun hb => ?_; rw [hb]; clear hb) | ((refine WD_tf (by exact rfl) (by exact rfl) ?_ ?_) <;> (intro hb; (fail_if_success (with_reducible injection hb)); rw [hb]; (try simp only [List.length_map] at hb)))) | (with_reducible apply WA_seq) | ((with_reducible apply gR hmix hN); exact (by kernel_rfl); (try dsimp only [List.append_eq, List.cons_append, List.nil_append])) | ((with_reducible apply WD_end); (first | exact no_draw | (intro _; kernel_rfl)); try simp only [thn, inB, List.length_map, List.cons_append, List.nil_append]) | ((with_reducible apply gCt); exact rfl; exact rfl) | ((with_reducible apply gCf); exact rfl; exact rfl) | ((with_reducible apply gCk); exact rfl; exact known; intro hb; rw [hb]; clear hb) | ((with_reducible apply gCn); exact rfl; exact known; intro hb; rw [hb]; clear hb) | (((with_reducible apply gC2); exact rfl) <;> (intro hb; rw [hb])) | (with_reducible apply WA_block) | ((with_reducible first | apply WA_skip | apply WA_ret | apply WA_exit | apply WA_label); try simp only [thn, inB, List.length_map, List.cons_append, List.nil_append])))
      refine ⟨hk2, trivial, ?_⟩
      rw [hs']
      (exact LeV [])
  · have d1 : decide ((k : Int) < (C.length : Int)) = false := by simp only [decide_eq_false_iff_not]; omega
    obtain rfl : k = C.length := by omega
    have hq0 := hq []
    rcases hqv : Q [] with ⟨c, e⟩
    rw [hqv] at hq0
    generalize bstN Q C C.length = s at *
    obtain ⟨sp, sl, sf⟩ := s
    dsimp only
    have hp9 : ([] : List TA).length ≤ 900 := by simp
    cases sf with
    | false =>
      rw [if_pos rfl]
      (repeat' (first | ((with_reducible apply WD_id); first | (refine WD_sum ?_) | (refine WD_nxt htb (by exact rfl) ?_) | (refine WD_unk (by exact rfl) ?_; first | (refine WD_t (by exact rfl) (by exact rfl) (by exact known) fun hb => ?_; rw [hb]; clear hb) | (refine WD_f (by exact rfl) (by exact rfl) (by exact known) fun hb => ?_; rw [hb]; clear hb) | ((refine WD_tf (by exact rfl) (by exact rfl) ?_ ?_) <;> (intro hb; (fail_if_success (with_reducible injection hb)); rw [hb]; (try simp only [List.length_map] at hb)))) | (refine WD_call (by exact rfl) ?_; first | (refine WD_e0 (fun h => quote_pe (l := []) (p := (c, e)) _ _ _ _ _ _ _ ?_ ?_ ?_ ?_ h) ?_; (exact hyp); (exact hyp); (exact hyp); (exact hyp))) | (refine WD_idx htb ?_) | (refine WD_idxo htb ?_) | (refine WD_lde1 htb ?_) | (refine WD_lde htb ?_) | (refine WD_ste htb ?_) | (refine WD_ap htb ?_) | (refine WD_ap0 htb ?_) | (refine WD_nil htb ?_) | (refine WD_nilr htb ?_) | (refine WD_rem ?_) | (refine WD_quo ?_) | (refine WD_slc htb ?_) | (refine WD_ixa htb ?_) | (refine WD_ix1 htb ?_) | (refine WD_t (by exact rfl) (by exact rfl) (by exact known) fun hb => ?_; rw [hb]; clear hb) | (refine WD_f (by exact rfl) (by exact rfl) (by exact known) fun hb => ?_; rw [hb]; clear hb) | ((refine WD_tf (by exact rfl) (by exact rfl) ?_ ?_) <;> (intro hb; (fail_if_success (with_reducible injection hb)); rw [hb]; (try simp only [List.length_map] at hb)))) | (with_reducible apply WA_seq) | ((with_reducible apply gR hmix hN); exact (by kernel_rfl); (try dsimp only [List.append_eq, List.cons_append, List.nil_append])) | ((with_reducible apply WD_end); (first | exact no_draw | (intro _; kernel_rfl)); try simp only [thn, inB, List.length_map, List.cons_append, List.nil_append]) | ((with_reducible apply gCt); exact rfl; exact rfl) | ((with_reducible apply gCf); exact rfl; exact rfl) | ((with_reducible apply gCk); exact rfl; exact known; intro hb; rw [hb]; clear hb) | ((with_reducible apply gCn); exact rfl; exact known; intro hb; rw [hb]; clear hb) | (((with_reducible apply gC2); exact rfl) <;> (intro hb; rw [hb])) | (with_reducible apply WA_block) | ((with_reducible first | apply WA_skip | apply WA_ret | apply WA_exit | apply WA_label); try simp only [thn, inB, List.length_map, List.cons_append, List.nil_append])))
      (exact glV [(10, lT []), (11, vI 0), (12, vI e)] [] (LeV []))
    | true =>
      rw [if_neg (by simp)]
      (repeat' (first | ((with_reducible apply WD_id); first | (refine WD_sum ?_) | (refine WD_nxt htb (by exact rfl) ?_) | (refine WD_unk (by exact rfl) ?_; first | (refine WD_t (by exact rfl) (by exact rfl) (by exact known) fun hb => ?_; rw [hb]; clear hb) | (refine WD_f (by exact rfl) (by exact rfl) (by exact known) fun hb => ?_; rw [hb]; clear hb) | ((refine WD_tf (by exact rfl) (by exact rfl) ?_ ?_) <;> (intro hb; (fail_if_success (with_reducible injection hb)); rw [hb]; (try simp only [List.length_map] at hb)))) | (refine WD_idx htb ?_) | (refine WD_idxo htb ?_) | (refine WD_lde1 htb ?_) | (refine WD_lde htb ?_) | (refine WD_ste htb ?_) | (refine WD_ap htb ?_) | (refine WD_ap0 htb ?_) | (refine WD_nil htb ?_) | (refine WD_nilr htb ?_) | (refine WD_rem ?_) | (refine WD_quo ?_) | (refine WD_slc htb ?_) | (refine WD_ixa htb ?_) | (refine WD_ix1 htb ?_) | (refine WD_t (by exact rfl) (by exact rfl) (by exact known) fun hb => ?_; rw [hb]; clear hb) | (refine WD_f (by exact rfl) (by exact rfl) (by exact known) fun hb => ?_; rw [hb]; clear hb) | ((refine WD_tf (by exact rfl) (by exact rfl) ?_ ?_) <;> (intro hb; (fail_if_success (with_reducible injection hb)); rw [hb]; (try simp only [List.length_map] at hb)))) | (with_reducible apply WA_seq) | ((with_reducible apply gR hmix hN); exact (by kernel_rfl); (try dsimp only [List.append_eq, List.cons_append, List.nil_append])) | ((with_reducible apply WD_end); (first | exact no_draw | (intro _; kernel_rfl)); try simp only [thn, inB, List.length_map, List.cons_append, List.nil_append]) | ((with_reducible apply gCt); exact rfl; exact rfl) | ((with_reducible apply gCf); exact rfl; exact rfl) | ((with_reducible apply gCk); exact rfl; exact known; intro hb; rw [hb]; clear hb) | ((with_reducible apply gCn); exact rfl; exact known; intro hb; rw [hb]; clear hb) | (((with_reducible apply gC2); exact rfl) <;> (intro hb; rw [hb])) | (with_reducible apply WA_block) | ((with_reducible first | apply WA_skip | apply WA_ret | apply WA_exit | apply WA_label); try simp only [thn, inB, List.length_map, List.cons_append, List.nil_append])))
      exact gE (.inr rfl) rfl rfl trivial
theorem best_pe (g : Led) (b : Int) (v : ByteArray) (j : Int) (u : ByteArray) (i : Int) (n : Int) (l : List TA) (c e : Int) (hl : g.lins.length ≤ 1000) (ha : g.accs.length ≤ 1000) (ho : g.offs.length ≤ 5) (he : bestF g b v j u i n = (l, c, e)) :
    FnM Tryz.prog 54 [] [aG g, vI b, aT v j, aT u i, vI n] (.tup [lT l, vI c, vI e]) [] := by
  have := best_pm g b v j u i n hl ha ho
  rwa [he] at this
end Go.Proofs.YteppnjgobaggaaaGreat

/- PathsBest: the walk. -/
namespace Go.Proofs.YteppnjgobaggaaaGreat
set_option linter.unusedSimpArgs false
set_option linter.unusedVariables false
set_option linter.unnecessarySimpa false
set_option linter.unusedSectionVars false
set_option maxRecDepth 100000
open Go Go.RowKit Go.Am Go.Proofs.Grow

theorem ledb_e (s : Sc) (t : Led × Sc) (hs : s.ok) (he : ledF s = t) : FnM Tryz.prog 16 [s.box] [.ptr 9000 0] (aG t.1) [t.2.box] := he ▸ led_m s hs
theorem asset3_bb (s : Sc) : assetB (nth assets3 (s.n 3).toNat).1 (nth assets3 (s.n 3).toNat).2 = true := by
  have h := s.n_bd (k := 3) (by decide)
  exact asset3_ok h.1 (by omega)
theorem share {K G : Prop} (pf : K) (use : Kx K → G) : G := use ⟨pf⟩
theorem traded_next {l : List Off} {k : Nat} (h : k < l.length) (w : ByteArray) (m : Int) : tradedB (l.take (k + 1)) w m = (tradedB (l.take k) w m || (eqT (nth l k).sc (nth l k).si w m || eqT (nth l k).bc (nth l k).bi w m)) := by
  unfold tradedB
  rw [List.take_add_one, List.getElem?_eq_getElem h, nth_getElem _ _ h]
  simp only [List.any_append, Option.toList_some, List.any_cons, List.any_nil, Bool.or_false]
set_option maxHeartbeats 8000000 in
theorem best39_m (l : List Int) (f : Int) (f0 : 0 ≤ f) (f1 : f ≤ 255) : FnM Tryz.prog 13 [] [lI l, .d (.v (.int .u8 f))] (vB true) [] := by
  refine FnM.of htb Tryz.func13 rfl rfl rfl rfl rfl fun cx hN h0 => ?_
  have hs : Sc.ok ⟨l.take 800, 0⟩ := ⟨Nat.zero_le _, by simp; omega⟩
  have hm := ledF_made ⟨l.take 800, 0⟩
  have hall := ledF_all ⟨l.take 800, 0⟩
  have hlen := ledF_lens ⟨l.take 800, 0⟩
  have ho := ledF_ok hs
  generalize ht : ledF ⟨l.take 800, 0⟩ = t at *
  obtain ⟨l1, l2, l3⟩ := hlen
  have m1 := hm.one
  have b1 := t.2.n_bd (k := (t.1.accs.length : Int) - 1 + 1) (by omega)
  have hf := hm.found (i := 1 + t.2.n ((t.1.accs.length : Int) - 1 + 1)) (by omega) (by omega)
  generalize hsa : 1 + t.2.n ((t.1.accs.length : Int) - 1 + 1) = a at *
  generalize hs2 : t.2.x ((t.1.accs.length : Int) - 1 + 1) = s2 at *
  have o2 : s2.ok := by rw [← hs2]; exact Sc.ok_x ho _
  have hv := asset3_bb s2
  have hu := asset3_bb (s2.x 3)
  have hn : 0 ≤ (IntKind.i64.wrap f).tmod 60 ∧ (IntKind.i64.wrap f).tmod 60 ≤ 59 := by
    rw [IntWalk.i64_in f (by omega), Int.tmod_eq_emod_of_nonneg f0]; omega
  have p2 : t.1.accs.length ≤ 1000 := by omega
  have p1 : t.1.lins.length ≤ 1000 := by omega
  have p3 : t.1.offs.length ≤ 5 := by omega
  have p7 : t.1.offs.length ≤ 12 := by omega
  obtain ⟨r, cost, e, d, q, hB, hD, hr2, hlaw⟩ := best_law hall (n := 1 + (IntKind.i64.wrap f).tmod 60) hf hv hu (by omega) (by omega)
  clear b1
  (repeat' (first | ((with_reducible apply WD_id); first | (refine WD_sum ?_) | (refine WD_nxt htb (by exact rfl) ?_) | (refine WD_unk (by exact rfl) ?_; first | (refine WD_t (by exact rfl) (by exact rfl) (by exact known) fun hb => ?_; rw [hb]; clear hb) | (refine WD_f (by exact rfl) (by exact rfl) (by exact known) fun hb => ?_; rw [hb]; clear hb)) | (refine WD_call (by exact rfl) ?_; first | (refine WD_cM (new_m _) ?_) | (refine WD_eM (fun h => ledb_e _ _ ?_ h) ?_; (exact hypS)) | (refine WD_cM (Range_m _ _ _ ?_ ?_ ?_ ?_) ?_; (exact hypS); (exact hypS); (exact hypS); (exact hypS))) | (refine WD_idx htb ?_) | (refine WD_idxo htb ?_) | (refine WD_lde1 htb ?_) | (refine WD_lde htb ?_) | (refine WD_ste htb ?_) | (refine WD_ap htb ?_) | (refine WD_ap0 htb ?_) | (refine WD_nil htb ?_) | (refine WD_nilr htb ?_) | (refine WD_rem ?_) | (refine WD_quo ?_) | (refine WD_slc htb ?_) | (refine WD_ixa htb ?_) | (refine WD_ix1 htb ?_) | (refine WD_t (by exact rfl) (by exact rfl) (by exact known) fun hb => ?_; rw [hb]; clear hb) | (refine WD_f (by exact rfl) (by exact rfl) (by exact known) fun hb => ?_; rw [hb]; clear hb)) | (with_reducible apply WA_seq) | ((with_reducible apply gR hmix hN); exact (by kernel_rfl); (try dsimp only [List.append_eq, List.cons_append, List.nil_append])) | ((with_reducible apply WD_end); (first | exact no_draw | (intro _; kernel_rfl)); try simp only [thn, inB, List.length_map, List.cons_append, List.nil_append]) | ((with_reducible apply gCt); exact rfl; exact rfl) | ((with_reducible apply gCf); exact rfl; exact rfl) | ((with_reducible apply gCk); exact rfl; exact known; intro hb; rw [hb]; clear hb) | ((with_reducible apply gCn); exact rfl; exact known; intro hb; rw [hb]; clear hb) | (with_reducible apply WA_block) | ((with_reducible first | apply WA_skip | apply WA_ret | apply WA_exit | apply WA_label); try simp only [thn, inB, List.length_map, List.cons_append, List.nil_append])))
  rw [show (List.map rA t.1.accs).length = t.1.accs.length from List.length_map ..]
  rw [hsa, hs2]
  (repeat' (first | ((with_reducible apply WD_id); first | (refine WD_sum ?_) | (refine WD_nxt htb (by exact rfl) ?_) | (refine WD_unk (by exact rfl) ?_; first | (refine WD_t (by exact rfl) (by exact rfl) (by exact known) fun hb => ?_; rw [hb]; clear hb) | (refine WD_f (by exact rfl) (by exact rfl) (by exact known) fun hb => ?_; rw [hb]; clear hb)) | (refine WD_call (by exact rfl) ?_; first | (refine WD_cM (asset_m _ ?_) ?_; (exact hypS))) | (refine WD_idx htb ?_) | (refine WD_idxo htb ?_) | (refine WD_lde1 htb ?_) | (refine WD_lde htb ?_) | (refine WD_ste htb ?_) | (refine WD_ap htb ?_) | (refine WD_ap0 htb ?_) | (refine WD_nil htb ?_) | (refine WD_nilr htb ?_) | (refine WD_rem ?_) | (refine WD_quo ?_) | (refine WD_slc htb ?_) | (refine WD_ixa htb ?_) | (refine WD_ix1 htb ?_) | (refine WD_t (by exact rfl) (by exact rfl) (by exact known) fun hb => ?_; rw [hb]; clear hb) | (refine WD_f (by exact rfl) (by exact rfl) (by exact known) fun hb => ?_; rw [hb]; clear hb)) | (with_reducible apply WA_seq) | ((with_reducible apply gR hmix hN); exact (by kernel_rfl); (try dsimp only [List.append_eq, List.cons_append, List.nil_append])) | ((with_reducible apply WD_end); (first | exact no_draw | (intro _; kernel_rfl)); try simp only [thn, inB, List.length_map, List.cons_append, List.nil_append]) | ((with_reducible apply gCt); exact rfl; exact rfl) | ((with_reducible apply gCf); exact rfl; exact rfl) | ((with_reducible apply gCk); exact rfl; exact known; intro hb; rw [hb]; clear hb) | ((with_reducible apply gCn); exact rfl; exact known; intro hb; rw [hb]; clear hb) | (with_reducible apply WA_block) | ((with_reducible first | apply WA_skip | apply WA_ret | apply WA_exit | apply WA_label); try simp only [thn, inB, List.length_map, List.cons_append, List.nil_append])))
  generalize (nth assets3 (s2.n 3).toNat).1 = v at *
  generalize (nth assets3 (s2.n 3).toNat).2 = j at *
  generalize (nth assets3 ((s2.x 3).n 3).toNat).1 = u at *
  generalize (nth assets3 ((s2.x 3).n 3).toNat).2 = i at *
  have hn1 : 1 ≤ 1 + (IntKind.i64.wrap f).tmod 60 ∧ 1 + (IntKind.i64.wrap f).tmod 60 ≤ 60 := by omega
  generalize 1 + (IntKind.i64.wrap f).tmod 60 = n at *
  have c0 : ([] : List TA).length ≤ 900 := by simp
  have c1 : r.length ≤ 900 := by omega
  rcases hlaw with ⟨rfl, rfl⟩ | ⟨rfl, hA, hT, hW⟩
  · have t0 : ((73 : Int) != 0) = true := rfl
    have t1 : ((73 : Int) == 73) = true := rfl
    (repeat' (first | ((with_reducible apply WD_id); first | (refine WD_sum ?_) | (refine WD_nxt htb (by exact rfl) ?_) | (refine WD_unk (by exact rfl) ?_; first | (refine WD_t (by exact rfl) (by exact rfl) (by exact known) fun hb => ?_; rw [hb]; clear hb) | (refine WD_f (by exact rfl) (by exact rfl) (by exact known) fun hb => ?_; rw [hb]; clear hb) | ((refine WD_tf (by exact rfl) (by exact rfl) ?_ ?_) <;> (intro hb; (fail_if_success (with_reducible injection hb)); rw [hb]; (try simp only [List.length_map] at hb)))) | (refine WD_call (by exact rfl) ?_; first | (refine WD_e0 (fun h => best_pe (l := r) (c := cost) (e := 73) _ _ _ _ _ _ _ ?_ ?_ ?_ h) ?_; (exact hypS); (exact hypS); (exact hypS)) | (refine WD_e0 (fun h => quote_pe (l := []) (p := (d, 73)) _ _ _ _ _ _ _ ?_ ?_ ?_ ?_ h) ?_; (exact hypS); (exact hypS); (exact hypS); (exact hypS)) | (refine WD_c0 (sane39_m) ?_)) | (refine WD_idx htb ?_) | (refine WD_idxo htb ?_) | (refine WD_lde1 htb ?_) | (refine WD_lde htb ?_) | (refine WD_ste htb ?_) | (refine WD_ap htb ?_) | (refine WD_ap0 htb ?_) | (refine WD_nil htb ?_) | (refine WD_nilr htb ?_) | (refine WD_rem ?_) | (refine WD_quo ?_) | (refine WD_slc htb ?_) | (refine WD_ixa htb ?_) | (refine WD_ix1 htb ?_) | (refine WD_t (by exact rfl) (by exact rfl) (by exact known) fun hb => ?_; rw [hb]; clear hb) | (refine WD_f (by exact rfl) (by exact rfl) (by exact known) fun hb => ?_; rw [hb]; clear hb) | ((refine WD_tf (by exact rfl) (by exact rfl) ?_ ?_) <;> (intro hb; (fail_if_success (with_reducible injection hb)); rw [hb]; (try simp only [List.length_map] at hb)))) | (with_reducible apply WA_seq) | ((with_reducible apply gR hmix hN); exact (by kernel_rfl); (try dsimp only [List.append_eq, List.cons_append, List.nil_append])) | ((with_reducible apply WD_end); (first | exact no_draw | (intro _; kernel_rfl)); try simp only [thn, inB, List.length_map, List.cons_append, List.nil_append]) | ((with_reducible apply gCt); exact rfl; exact rfl) | ((with_reducible apply gCf); exact rfl; exact rfl) | ((with_reducible apply gCk); exact rfl; exact known; intro hb; rw [hb]; clear hb) | ((with_reducible apply gCn); exact rfl; exact known; intro hb; rw [hb]; clear hb) | (((with_reducible apply gC2); exact rfl) <;> (intro hb; rw [hb])) | (with_reducible apply WA_block) | ((with_reducible first | apply WA_skip | apply WA_ret | apply WA_exit | apply WA_label); try simp only [thn, inB, List.length_map, List.cons_append, List.nil_append])))
    exact gE (.inr rfl) rfl rfl trivial
  have t0 : ((0 : Int) != 0) = false := rfl
  have t1 : (cost != cost) = false := by simp
  have t2 : decide ((r.length : Int) > 2) = false := by simp; omega
  have hsplit : (q == 0) = false ∨ ((q == 0) = true ∧ decide (d < cost) = false ∧ (d == cost) = false) ∨ ((q == 0) = true ∧ decide (d < cost) = false ∧ (d == cost) = true ∧ decide ((r.length : Int) > 0) = false) := by
    by_cases hq : q = 0
    · obtain ⟨h1, h2⟩ := hT hq
      by_cases hd : d = cost
      · exact .inr (.inr ⟨by simp [hq], by simp; omega, by simp [hd], by simp only [decide_eq_false_iff_not]; have := h2 hd; omega⟩)
      · exact .inr (.inl ⟨by simp [hq], by simp; omega, by simp [hd]⟩)
    · exact .inl (by simp [hq])
  clear hT hv hu hf hall hm hr2
  apply share
  case use =>
    intro key
    rcases hsplit with t3 | ⟨t3, t4, t5⟩ | ⟨t3, t4, t5, t6⟩
    all_goals
      (repeat' (first | ((with_reducible apply WD_id); first | (refine WD_sum ?_) | (refine WD_nxt htb (by exact rfl) ?_) | (refine WD_unk (by exact rfl) ?_; first | (refine WD_t (by exact rfl) (by exact rfl) (by exact known) fun hb => ?_; rw [hb]; clear hb) | (refine WD_f (by exact rfl) (by exact rfl) (by exact known) fun hb => ?_; rw [hb]; clear hb) | ((refine WD_tf (by exact rfl) (by exact rfl) ?_ ?_) <;> (intro hb; (fail_if_success (with_reducible injection hb)); rw [hb]; (try simp only [List.length_map] at hb)))) | (refine WD_call (by exact rfl) ?_; first | (refine WD_e0 (fun h => best_pe (l := r) (c := cost) (e := 0) _ _ _ _ _ _ _ ?_ ?_ ?_ h) ?_; (exact hypS); (exact hypS); (exact hypS)) | (refine WD_e0 (fun h => quote_pe (l := []) (p := (d, q)) _ _ _ _ _ _ _ ?_ ?_ ?_ ?_ h) ?_; (exact hypS); (exact hypS); (exact hypS); (exact hypS)) | (refine WD_e0 (fun h => quote_pe (l := r) (p := (cost, 0)) _ _ _ _ _ _ _ ?_ ?_ ?_ ?_ h) ?_; (exact hypS); (exact hypS); (exact hypS); (exact hypS)) | (refine WD_c0 (usd_m) ?_) | (refine WD_c0 (eur_m) ?_)) | (refine WD_idx htb ?_) | (refine WD_idxo htb ?_) | (refine WD_lde1 htb ?_) | (refine WD_lde htb ?_) | (refine WD_ste htb ?_) | (refine WD_ap htb ?_) | (refine WD_ap0 htb ?_) | (refine WD_nil htb ?_) | (refine WD_nilr htb ?_) | (refine WD_rem ?_) | (refine WD_quo ?_) | (refine WD_slc htb ?_) | (refine WD_ixa htb ?_) | (refine WD_ix1 htb ?_) | (refine WD_t (by exact rfl) (by exact rfl) (by exact known) fun hb => ?_; rw [hb]; clear hb) | (refine WD_f (by exact rfl) (by exact rfl) (by exact known) fun hb => ?_; rw [hb]; clear hb) | ((refine WD_tf (by exact rfl) (by exact rfl) ?_ ?_) <;> (intro hb; (fail_if_success (with_reducible injection hb)); rw [hb]; (try simp only [List.length_map] at hb)))) | (with_reducible apply WA_seq) | ((with_reducible apply gR hmix hN); exact (by kernel_rfl); (try dsimp only [List.append_eq, List.cons_append, List.nil_append])) | ((with_reducible apply WD_end); (first | exact no_draw | (intro _; kernel_rfl)); try simp only [thn, inB, List.length_map, List.cons_append, List.nil_append]) | ((with_reducible apply gCt); exact rfl; exact rfl) | ((with_reducible apply gCf); exact rfl; exact rfl) | ((with_reducible apply gCk); exact rfl; exact known; intro hb; rw [hb]; clear hb) | ((with_reducible apply gCn); exact rfl; exact known; intro hb; rw [hb]; clear hb) | (((with_reducible apply gC2); exact rfl) <;> (intro hb; rw [hb])) | (with_reducible apply WA_block) | ((with_reducible first | apply WA_skip | apply WA_ret | apply WA_exit | apply WA_label); try simp only [thn, inB, List.length_map, List.cons_append, List.nil_append])))
      refine WA_le (s' := ⟨[(117, vI 0), (116, .agg [vS ⟨#[]⟩, vI 0, vS ⟨#[85, 83, 68]⟩, vI 1, vS ⟨#[69, 85, 82]⟩, vI 2]), (12, vI cost), (10, vI n), (9, .ptr 9 0), (8, .ptr 8 0), (7, vI a), (6, .ptr 6 0)], [(6, .box 30 (cellsOf (aG t.1))), (8, .box 37 [vS v, vI j]), (9, .box 37 [vS u, vI i])]⟩) (LeV []) ?_
      exact key.x
  clear hsplit t0 t1 t2 hB hD hA
  (refine WA_forV (3) [117] [] (fun k => [(117, vI k)]) (fun k => []) (fun k => True) ?h0 ?_)
  case h0 => trivial
  intro m hm3 _
  by_cases hm2 : m < 3
  case neg =>
    have d1 : decide ((m : Int) < 3) = false := by simp only [decide_eq_false_iff_not]; omega
    (repeat' (first | ((with_reducible apply WD_id); first | (refine WD_sum ?_) | (refine WD_nxt htb (by exact rfl) ?_) | (refine WD_unk (by exact rfl) ?_; first | (refine WD_t (by exact rfl) (by exact rfl) (by exact known) fun hb => ?_; rw [hb]; clear hb) | (refine WD_f (by exact rfl) (by exact rfl) (by exact known) fun hb => ?_; rw [hb]; clear hb) | ((refine WD_tf (by exact rfl) (by exact rfl) ?_ ?_) <;> (intro hb; (fail_if_success (with_reducible injection hb)); rw [hb]; (try simp only [List.length_map] at hb)))) | (refine WD_call (by exact rfl) ?_; first | (refine WD_c0 (sane39_m) ?_)) | (refine WD_idx htb ?_) | (refine WD_idxo htb ?_) | (refine WD_lde1 htb ?_) | (refine WD_lde htb ?_) | (refine WD_ste htb ?_) | (refine WD_ap htb ?_) | (refine WD_ap0 htb ?_) | (refine WD_nil htb ?_) | (refine WD_nilr htb ?_) | (refine WD_rem ?_) | (refine WD_quo ?_) | (refine WD_slc htb ?_) | (refine WD_ixa htb ?_) | (refine WD_ix1 htb ?_) | (refine WD_t (by exact rfl) (by exact rfl) (by exact known) fun hb => ?_; rw [hb]; clear hb) | (refine WD_f (by exact rfl) (by exact rfl) (by exact known) fun hb => ?_; rw [hb]; clear hb) | ((refine WD_tf (by exact rfl) (by exact rfl) ?_ ?_) <;> (intro hb; (fail_if_success (with_reducible injection hb)); rw [hb]; (try simp only [List.length_map] at hb)))) | (with_reducible apply WA_seq) | ((with_reducible apply gR hmix hN); exact (by kernel_rfl); (try dsimp only [List.append_eq, List.cons_append, List.nil_append])) | ((with_reducible apply WD_end); (first | exact no_draw | (intro _; kernel_rfl)); try simp only [thn, inB, List.length_map, List.cons_append, List.nil_append]) | ((with_reducible apply gCt); exact rfl; exact rfl) | ((with_reducible apply gCf); exact rfl; exact rfl) | ((with_reducible apply gCk); exact rfl; exact known; intro hb; rw [hb]; clear hb) | ((with_reducible apply gCn); exact rfl; exact known; intro hb; rw [hb]; clear hb) | (((with_reducible apply gC2); exact rfl) <;> (intro hb; rw [hb])) | (with_reducible apply WA_block) | ((with_reducible first | apply WA_skip | apply WA_ret | apply WA_exit | apply WA_label); try simp only [thn, inB, List.length_map, List.cons_append, List.nil_append])))
    exact gE (.inr rfl) rfl rfl trivial
  have d1 : decide ((m : Int) < 3) = true := by simp only [decide_eq_true_eq]; omega
  (repeat' (first | ((with_reducible apply WD_id); first | (refine WD_sum ?_) | (refine WD_nxt htb (by exact rfl) ?_) | (refine WD_unk (by exact rfl) ?_; first | (refine WD_t (by exact rfl) (by exact rfl) (by exact known) fun hb => ?_; rw [hb]; clear hb) | (refine WD_f (by exact rfl) (by exact rfl) (by exact known) fun hb => ?_; rw [hb]; clear hb) | ((refine WD_tf (by exact rfl) (by exact rfl) ?_ ?_) <;> (intro hb; (fail_if_success (with_reducible injection hb)); rw [hb]; (try simp only [List.length_map] at hb)))) | (refine WD_idx htb ?_) | (refine WD_idxo htb ?_) | (refine WD_lde1 htb ?_) | (refine WD_lde htb ?_) | (refine WD_ste htb ?_) | (refine WD_ap htb ?_) | (refine WD_ap0 htb ?_) | (refine WD_nil htb ?_) | (refine WD_nilr htb ?_) | (refine WD_rem ?_) | (refine WD_quo ?_) | (refine WD_slc htb ?_) | (refine WD_ixa htb ?_) | (refine WD_ix1 htb ?_) | (refine WD_t (by exact rfl) (by exact rfl) (by exact known) fun hb => ?_; rw [hb]; clear hb) | (refine WD_f (by exact rfl) (by exact rfl) (by exact known) fun hb => ?_; rw [hb]; clear hb) | ((refine WD_tf (by exact rfl) (by exact rfl) ?_ ?_) <;> (intro hb; (fail_if_success (with_reducible injection hb)); rw [hb]; (try simp only [List.length_map] at hb)))) | (with_reducible apply WA_seq) | ((with_reducible apply gR hmix hN); exact (by kernel_rfl); (try dsimp only [List.append_eq, List.cons_append, List.nil_append])) | ((with_reducible apply WD_end); (first | exact no_draw | (intro _; kernel_rfl)); try simp only [thn, inB, List.length_map, List.cons_append, List.nil_append]) | ((with_reducible apply gCt); exact rfl; exact rfl) | ((with_reducible apply gCf); exact rfl; exact rfl) | ((with_reducible apply gCk); exact rfl; exact known; intro hb; rw [hb]; clear hb) | ((with_reducible apply gCn); exact rfl; exact known; intro hb; rw [hb]; clear hb) | (((with_reducible apply gC2); exact rfl) <;> (intro hb; rw [hb])) | (with_reducible apply WA_block) | ((with_reducible first | apply WA_skip | apply WA_ret | apply WA_exit | apply WA_label); try simp only [thn, inB, List.length_map, List.cons_append, List.nil_append])))
  refine WD_ixa htb (n := m) (ds := [vS (nth assets3 m).1, vI (nth assets3 m).2]) ?_ (hn := by rcases (by omega : m = 0 ∨ m = 1 ∨ m = 2) with rfl | rfl | rfl <;> rfl) (hs := by rcases (by omega : m = 0 ∨ m = 1 ∨ m = 2) with rfl | rfl | rfl <;> rfl)
  generalize (nth assets3 m).1 = w at *
  generalize (nth assets3 m).2 = z at *
  have hWz := hW w z
  clear hW
  (repeat' (first | ((with_reducible apply WD_id); first | (refine WD_sum ?_) | (refine WD_nxt htb (by exact rfl) ?_) | (refine WD_unk (by exact rfl) ?_; first | (refine WD_t (by exact rfl) (by exact rfl) (by exact known) fun hb => ?_; rw [hb]; clear hb) | (refine WD_f (by exact rfl) (by exact rfl) (by exact known) fun hb => ?_; rw [hb]; clear hb) | ((refine WD_tf (by exact rfl) (by exact rfl) ?_ ?_) <;> (intro hb; (fail_if_success (with_reducible injection hb)); rw [hb]; (try simp only [List.length_map] at hb)))) | (refine WD_idx htb ?_) | (refine WD_idxo htb ?_) | (refine WD_lde1 htb ?_) | (refine WD_lde htb ?_) | (refine WD_ste htb ?_) | (refine WD_ap htb ?_) | (refine WD_ap0 htb ?_) | (refine WD_nil htb ?_) | (refine WD_nilr htb ?_) | (refine WD_rem ?_) | (refine WD_quo ?_) | (refine WD_slc htb ?_) | (refine WD_ixa htb ?_) | (refine WD_ix1 htb ?_) | (refine WD_t (by exact rfl) (by exact rfl) (by exact known) fun hb => ?_; rw [hb]; clear hb) | (refine WD_f (by exact rfl) (by exact rfl) (by exact known) fun hb => ?_; rw [hb]; clear hb) | ((refine WD_tf (by exact rfl) (by exact rfl) ?_ ?_) <;> (intro hb; (fail_if_success (with_reducible injection hb)); rw [hb]; (try simp only [List.length_map] at hb)))) | (with_reducible apply WA_seq) | ((with_reducible apply gR hmix hN); exact (by kernel_rfl); (try dsimp only [List.append_eq, List.cons_append, List.nil_append])) | ((with_reducible apply WD_end); (first | exact no_draw | (intro _; kernel_rfl)); try simp only [thn, inB, List.length_map, List.cons_append, List.nil_append]) | ((with_reducible apply gCt); exact rfl; exact rfl) | ((with_reducible apply gCf); exact rfl; exact rfl) | ((with_reducible apply gCk); exact rfl; exact known; intro hb; rw [hb]; clear hb) | ((with_reducible apply gCn); exact rfl; exact known; intro hb; rw [hb]; clear hb) | (((with_reducible apply gC2); exact rfl) <;> (intro hb; rw [hb])) | (with_reducible apply WA_block) | ((with_reducible first | apply WA_skip | apply WA_ret | apply WA_exit | apply WA_label); try simp only [thn, inB, List.length_map, List.cons_append, List.nil_append])))
  (refine WA_forV (t.1.offs.length) [123, 20] [19] (fun k => [(123, vI k), (20, vB (tradedB (t.1.offs.take k) w z))]) (fun k => [(19, .box 37 [vS w, vI z])]) (fun k => True) ?h0 ?_)
  case h0 => trivial
  intro k hk _
  by_cases hk2 : k < t.1.offs.length
  · have d2 : decide ((k : Int) < (t.1.offs.length : Int)) = true := by simp only [decide_eq_true_eq]; omega
    have hnx := traded_next hk2 w z
    generalize tradedB (t.1.offs.take k) w z = tr at *
    cases tr with
    | true =>
      have hnx' : tradedB (t.1.offs.take (k + 1)) w z = true := by rw [hnx]; rfl
      (repeat' (first | ((with_reducible apply WD_id); first | (refine WD_sum ?_) | (refine WD_nxt htb (by exact rfl) ?_) | (refine WD_unk (by exact rfl) ?_; first | (refine WD_t (by exact rfl) (by exact rfl) (by exact known) fun hb => ?_; rw [hb]; clear hb) | (refine WD_f (by exact rfl) (by exact rfl) (by exact known) fun hb => ?_; rw [hb]; clear hb) | ((refine WD_tf (by exact rfl) (by exact rfl) ?_ ?_) <;> (intro hb; (fail_if_success (with_reducible injection hb)); rw [hb]; (try simp only [List.length_map] at hb)))) | (refine WD_idx htb ?_) | (refine WD_idxo htb ?_) | (refine WD_lde1 htb ?_) | (refine WD_lde htb ?_) | (refine WD_ste htb ?_) | (refine WD_ap htb ?_) | (refine WD_ap0 htb ?_) | (refine WD_nil htb ?_) | (refine WD_nilr htb ?_) | (refine WD_rem ?_) | (refine WD_quo ?_) | (refine WD_slc htb ?_) | (refine WD_ixa htb ?_) | (refine WD_ix1 htb ?_) | (refine WD_t (by exact rfl) (by exact rfl) (by exact known) fun hb => ?_; rw [hb]; clear hb) | (refine WD_f (by exact rfl) (by exact rfl) (by exact known) fun hb => ?_; rw [hb]; clear hb) | ((refine WD_tf (by exact rfl) (by exact rfl) ?_ ?_) <;> (intro hb; (fail_if_success (with_reducible injection hb)); rw [hb]; (try simp only [List.length_map] at hb)))) | (with_reducible apply WA_seq) | ((with_reducible apply gR hmix hN); exact (by kernel_rfl); (try dsimp only [List.append_eq, List.cons_append, List.nil_append])) | ((with_reducible apply WD_end); (first | exact no_draw | (intro _; kernel_rfl)); try simp only [thn, inB, List.length_map, List.cons_append, List.nil_append]) | ((with_reducible apply gCt); exact rfl; exact rfl) | ((with_reducible apply gCf); exact rfl; exact rfl) | ((with_reducible apply gCk); exact rfl; exact known; intro hb; rw [hb]; clear hb) | ((with_reducible apply gCn); exact rfl; exact known; intro hb; rw [hb]; clear hb) | (((with_reducible apply gC2); exact rfl) <;> (intro hb; rw [hb])) | (with_reducible apply WA_block) | ((with_reducible first | apply WA_skip | apply WA_ret | apply WA_exit | apply WA_label); try simp only [thn, inB, List.length_map, List.cons_append, List.nil_append])))
      refine ⟨hk2, trivial, ?_⟩
      rw [hnx']
      (exact LeV [])
    | false =>
      cases h1 : eqT (nth t.1.offs k).sc (nth t.1.offs k).si w z with
      | true =>
        have hnx' : tradedB (t.1.offs.take (k + 1)) w z = true := by rw [hnx, h1]; rfl
        (repeat' (first | ((with_reducible apply WD_id); first | (refine WD_sum ?_) | (refine WD_nxt htb (by exact rfl) ?_) | (refine WD_unk (by exact rfl) ?_; first | (refine WD_t (by exact rfl) (by exact rfl) (by exact known) fun hb => ?_; rw [hb]; clear hb) | (refine WD_f (by exact rfl) (by exact rfl) (by exact known) fun hb => ?_; rw [hb]; clear hb) | ((refine WD_tf (by exact rfl) (by exact rfl) ?_ ?_) <;> (intro hb; (fail_if_success (with_reducible injection hb)); rw [hb]; (try simp only [List.length_map] at hb)))) | (refine WD_eq (eqT_step rfl rfl rfl) ?_) | (refine WD_idx htb ?_) | (refine WD_idxo htb ?_) | (refine WD_lde1 htb ?_) | (refine WD_lde htb ?_) | (refine WD_ste htb ?_) | (refine WD_ap htb ?_) | (refine WD_ap0 htb ?_) | (refine WD_nil htb ?_) | (refine WD_nilr htb ?_) | (refine WD_rem ?_) | (refine WD_quo ?_) | (refine WD_slc htb ?_) | (refine WD_ixa htb ?_) | (refine WD_ix1 htb ?_) | (refine WD_t (by exact rfl) (by exact rfl) (by exact known) fun hb => ?_; rw [hb]; clear hb) | (refine WD_f (by exact rfl) (by exact rfl) (by exact known) fun hb => ?_; rw [hb]; clear hb) | ((refine WD_tf (by exact rfl) (by exact rfl) ?_ ?_) <;> (intro hb; (fail_if_success (with_reducible injection hb)); rw [hb]; (try simp only [List.length_map] at hb)))) | (with_reducible apply WA_seq) | ((with_reducible apply gR hmix hN); exact (by kernel_rfl); (try dsimp only [List.append_eq, List.cons_append, List.nil_append])) | ((with_reducible apply WD_end); (first | exact no_draw | (intro _; kernel_rfl)); try simp only [thn, inB, List.length_map, List.cons_append, List.nil_append]) | ((with_reducible apply gCt); exact rfl; exact rfl) | ((with_reducible apply gCf); exact rfl; exact rfl) | ((with_reducible apply gCk); exact rfl; exact known; intro hb; rw [hb]; clear hb) | ((with_reducible apply gCn); exact rfl; exact known; intro hb; rw [hb]; clear hb) | (((with_reducible apply gC2); exact rfl) <;> (intro hb; rw [hb])) | (with_reducible apply WA_block) | ((with_reducible first | apply WA_skip | apply WA_ret | apply WA_exit | apply WA_label); try simp only [thn, inB, List.length_map, List.cons_append, List.nil_append])))
        refine ⟨hk2, trivial, ?_⟩
        rw [hnx']
        (exact LeV [])
      | false =>
        have hnx' : tradedB (t.1.offs.take (k + 1)) w z = eqT (nth t.1.offs k).bc (nth t.1.offs k).bi w z := by rw [hnx, h1]; rfl
        (repeat' (first | ((with_reducible apply WD_id); first | (refine WD_sum ?_) | (refine WD_nxt htb (by exact rfl) ?_) | (refine WD_unk (by exact rfl) ?_; first | (refine WD_t (by exact rfl) (by exact rfl) (by exact known) fun hb => ?_; rw [hb]; clear hb) | (refine WD_f (by exact rfl) (by exact rfl) (by exact known) fun hb => ?_; rw [hb]; clear hb) | ((refine WD_tf (by exact rfl) (by exact rfl) ?_ ?_) <;> (intro hb; (fail_if_success (with_reducible injection hb)); rw [hb]; (try simp only [List.length_map] at hb)))) | (refine WD_eq (eqT_step rfl rfl rfl) ?_) | (refine WD_idx htb ?_) | (refine WD_idxo htb ?_) | (refine WD_lde1 htb ?_) | (refine WD_lde htb ?_) | (refine WD_ste htb ?_) | (refine WD_ap htb ?_) | (refine WD_ap0 htb ?_) | (refine WD_nil htb ?_) | (refine WD_nilr htb ?_) | (refine WD_rem ?_) | (refine WD_quo ?_) | (refine WD_slc htb ?_) | (refine WD_ixa htb ?_) | (refine WD_ix1 htb ?_) | (refine WD_t (by exact rfl) (by exact rfl) (by exact known) fun hb => ?_; rw [hb]; clear hb) | (refine WD_f (by exact rfl) (by exact rfl) (by exact known) fun hb => ?_; rw [hb]; clear hb) | ((refine WD_tf (by exact rfl) (by exact rfl) ?_ ?_) <;> (intro hb; (fail_if_success (with_reducible injection hb)); rw [hb]; (try simp only [List.length_map] at hb)))) | (with_reducible apply WA_seq) | ((with_reducible apply gR hmix hN); exact (by kernel_rfl); (try dsimp only [List.append_eq, List.cons_append, List.nil_append])) | ((with_reducible apply WD_end); (first | exact no_draw | (intro _; kernel_rfl)); try simp only [thn, inB, List.length_map, List.cons_append, List.nil_append]) | ((with_reducible apply gCt); exact rfl; exact rfl) | ((with_reducible apply gCf); exact rfl; exact rfl) | ((with_reducible apply gCk); exact rfl; exact known; intro hb; rw [hb]; clear hb) | ((with_reducible apply gCn); exact rfl; exact known; intro hb; rw [hb]; clear hb) | (((with_reducible apply gC2); exact rfl) <;> (intro hb; rw [hb])) | (with_reducible apply WA_block) | ((with_reducible first | apply WA_skip | apply WA_ret | apply WA_exit | apply WA_label); try simp only [thn, inB, List.length_map, List.cons_append, List.nil_append])))
        refine ⟨hk2, trivial, ?_⟩
        rw [hnx']
        (exact LeV [])
  have d2 : decide ((k : Int) < (t.1.offs.length : Int)) = false := by simp only [decide_eq_false_iff_not]; omega
  obtain rfl : k = t.1.offs.length := by omega
  rw [List.take_length]
  have c2 : ([(w, z)] : List TA).length ≤ 900 := by simp
  rcases hqz : quoteF t.1 a v j u i [(w, z)] n with ⟨c, kk⟩
  have hWz := hWz c kk hqz
  by_cases hkk : kk = 0
  · have u1 : (kk == 0) = true := by simp [hkk]
    cases htr : tradedB t.1.offs w z with
    | true =>
      have u2 : decide (c < cost) = false := by simp; have := hWz hkk htr; omega
      (repeat' (first | ((with_reducible apply WD_id); first | (refine WD_sum ?_) | (refine WD_nxt htb (by exact rfl) ?_) | (refine WD_unk (by exact rfl) ?_; first | (refine WD_t (by exact rfl) (by exact rfl) (by exact known) fun hb => ?_; rw [hb]; clear hb) | (refine WD_f (by exact rfl) (by exact rfl) (by exact known) fun hb => ?_; rw [hb]; clear hb) | ((refine WD_tf (by exact rfl) (by exact rfl) ?_ ?_) <;> (intro hb; (fail_if_success (with_reducible injection hb)); rw [hb]; (try simp only [List.length_map] at hb)))) | (refine WD_call (by exact rfl) ?_; first | (refine WD_e0 (fun h => quote_pe (l := [(w, z)]) (p := (c, kk)) _ _ _ _ _ _ _ ?_ ?_ ?_ ?_ h) ?_; (exact hypS); (exact hypS); (exact hypS); (exact hypS))) | (refine WD_idx htb ?_) | (refine WD_idxo htb ?_) | (refine WD_lde1 htb ?_) | (refine WD_lde htb ?_) | (refine WD_ste htb ?_) | (refine WD_ap htb ?_) | (refine WD_ap0 htb ?_) | (refine WD_nil htb ?_) | (refine WD_nilr htb ?_) | (refine WD_rem ?_) | (refine WD_quo ?_) | (refine WD_slc htb ?_) | (refine WD_ixa htb ?_) | (refine WD_ix1 htb ?_) | (refine WD_t (by exact rfl) (by exact rfl) (by exact known) fun hb => ?_; rw [hb]; clear hb) | (refine WD_f (by exact rfl) (by exact rfl) (by exact known) fun hb => ?_; rw [hb]; clear hb) | ((refine WD_tf (by exact rfl) (by exact rfl) ?_ ?_) <;> (intro hb; (fail_if_success (with_reducible injection hb)); rw [hb]; (try simp only [List.length_map] at hb)))) | (with_reducible apply WA_seq) | ((with_reducible apply gR hmix hN); exact (by kernel_rfl); (try dsimp only [List.append_eq, List.cons_append, List.nil_append])) | ((with_reducible apply WD_end); (first | exact no_draw | (intro _; kernel_rfl)); try simp only [thn, inB, List.length_map, List.cons_append, List.nil_append]) | ((with_reducible apply gCt); exact rfl; exact rfl) | ((with_reducible apply gCf); exact rfl; exact rfl) | ((with_reducible apply gCk); exact rfl; exact known; intro hb; rw [hb]; clear hb) | ((with_reducible apply gCn); exact rfl; exact known; intro hb; rw [hb]; clear hb) | (((with_reducible apply gC2); exact rfl) <;> (intro hb; rw [hb])) | (with_reducible apply WA_block) | ((with_reducible first | apply WA_skip | apply WA_ret | apply WA_exit | apply WA_label); try simp only [thn, inB, List.length_map, List.cons_append, List.nil_append])))
      refine ⟨hm2, trivial, ?_⟩
      (exact LeV [])
    | false =>
      (repeat' (first | ((with_reducible apply WD_id); first | (refine WD_sum ?_) | (refine WD_nxt htb (by exact rfl) ?_) | (refine WD_unk (by exact rfl) ?_; first | (refine WD_t (by exact rfl) (by exact rfl) (by exact known) fun hb => ?_; rw [hb]; clear hb) | (refine WD_f (by exact rfl) (by exact rfl) (by exact known) fun hb => ?_; rw [hb]; clear hb) | ((refine WD_tf (by exact rfl) (by exact rfl) ?_ ?_) <;> (intro hb; (fail_if_success (with_reducible injection hb)); rw [hb]; (try simp only [List.length_map] at hb)))) | (refine WD_call (by exact rfl) ?_; first | (refine WD_e0 (fun h => quote_pe (l := [(w, z)]) (p := (c, kk)) _ _ _ _ _ _ _ ?_ ?_ ?_ ?_ h) ?_; (exact hypS); (exact hypS); (exact hypS); (exact hypS))) | (refine WD_idx htb ?_) | (refine WD_idxo htb ?_) | (refine WD_lde1 htb ?_) | (refine WD_lde htb ?_) | (refine WD_ste htb ?_) | (refine WD_ap htb ?_) | (refine WD_ap0 htb ?_) | (refine WD_nil htb ?_) | (refine WD_nilr htb ?_) | (refine WD_rem ?_) | (refine WD_quo ?_) | (refine WD_slc htb ?_) | (refine WD_ixa htb ?_) | (refine WD_ix1 htb ?_) | (refine WD_t (by exact rfl) (by exact rfl) (by exact known) fun hb => ?_; rw [hb]; clear hb) | (refine WD_f (by exact rfl) (by exact rfl) (by exact known) fun hb => ?_; rw [hb]; clear hb) | ((refine WD_tf (by exact rfl) (by exact rfl) ?_ ?_) <;> (intro hb; (fail_if_success (with_reducible injection hb)); rw [hb]; (try simp only [List.length_map] at hb)))) | (with_reducible apply WA_seq) | ((with_reducible apply gR hmix hN); exact (by kernel_rfl); (try dsimp only [List.append_eq, List.cons_append, List.nil_append])) | ((with_reducible apply WD_end); (first | exact no_draw | (intro _; kernel_rfl)); try simp only [thn, inB, List.length_map, List.cons_append, List.nil_append]) | ((with_reducible apply gCt); exact rfl; exact rfl) | ((with_reducible apply gCf); exact rfl; exact rfl) | ((with_reducible apply gCk); exact rfl; exact known; intro hb; rw [hb]; clear hb) | ((with_reducible apply gCn); exact rfl; exact known; intro hb; rw [hb]; clear hb) | (((with_reducible apply gC2); exact rfl) <;> (intro hb; rw [hb])) | (with_reducible apply WA_block) | ((with_reducible first | apply WA_skip | apply WA_ret | apply WA_exit | apply WA_label); try simp only [thn, inB, List.length_map, List.cons_append, List.nil_append])))
      refine ⟨hm2, trivial, ?_⟩
      (exact LeV [])
  · have u1 : (kk == 0) = false := by simp [hkk]
    (repeat' (first | ((with_reducible apply WD_id); first | (refine WD_sum ?_) | (refine WD_nxt htb (by exact rfl) ?_) | (refine WD_unk (by exact rfl) ?_; first | (refine WD_t (by exact rfl) (by exact rfl) (by exact known) fun hb => ?_; rw [hb]; clear hb) | (refine WD_f (by exact rfl) (by exact rfl) (by exact known) fun hb => ?_; rw [hb]; clear hb) | ((refine WD_tf (by exact rfl) (by exact rfl) ?_ ?_) <;> (intro hb; (fail_if_success (with_reducible injection hb)); rw [hb]; (try simp only [List.length_map] at hb)))) | (refine WD_call (by exact rfl) ?_; first | (refine WD_e0 (fun h => quote_pe (l := [(w, z)]) (p := (c, kk)) _ _ _ _ _ _ _ ?_ ?_ ?_ ?_ h) ?_; (exact hypS); (exact hypS); (exact hypS); (exact hypS))) | (refine WD_idx htb ?_) | (refine WD_idxo htb ?_) | (refine WD_lde1 htb ?_) | (refine WD_lde htb ?_) | (refine WD_ste htb ?_) | (refine WD_ap htb ?_) | (refine WD_ap0 htb ?_) | (refine WD_nil htb ?_) | (refine WD_nilr htb ?_) | (refine WD_rem ?_) | (refine WD_quo ?_) | (refine WD_slc htb ?_) | (refine WD_ixa htb ?_) | (refine WD_ix1 htb ?_) | (refine WD_t (by exact rfl) (by exact rfl) (by exact known) fun hb => ?_; rw [hb]; clear hb) | (refine WD_f (by exact rfl) (by exact rfl) (by exact known) fun hb => ?_; rw [hb]; clear hb) | ((refine WD_tf (by exact rfl) (by exact rfl) ?_ ?_) <;> (intro hb; (fail_if_success (with_reducible injection hb)); rw [hb]; (try simp only [List.length_map] at hb)))) | (with_reducible apply WA_seq) | ((with_reducible apply gR hmix hN); exact (by kernel_rfl); (try dsimp only [List.append_eq, List.cons_append, List.nil_append])) | ((with_reducible apply WD_end); (first | exact no_draw | (intro _; kernel_rfl)); try simp only [thn, inB, List.length_map, List.cons_append, List.nil_append]) | ((with_reducible apply gCt); exact rfl; exact rfl) | ((with_reducible apply gCf); exact rfl; exact rfl) | ((with_reducible apply gCk); exact rfl; exact known; intro hb; rw [hb]; clear hb) | ((with_reducible apply gCn); exact rfl; exact known; intro hb; rw [hb]; clear hb) | (((with_reducible apply gC2); exact rfl) <;> (intro hb; rw [hb])) | (with_reducible apply WA_block) | ((with_reducible first | apply WA_skip | apply WA_ret | apply WA_exit | apply WA_label); try simp only [thn, inB, List.length_map, List.cons_append, List.nil_append])))
    refine ⟨hm2, trivial, ?_⟩
    (exact LeV [])
theorem law_PathsBest (a0 : Option Addr) (len0 cap0 : Nat) (z0 : List Int) (a1 : Int) (w : World) (w0 : IsRowA .i64 w a0 len0 cap0 z0) (w1 : (Lit.int .u8 a1).wf = true) :
    Calls Tryz.prog 13 #[.slice a0 len0 cap0, .int .u8 a1] w fun e w' => e = .returned (.bool true) ∧ Ex w w' := by
  have hu : 0 ≤ a1 ∧ a1 ≤ 255 := by simpa [Lit.wf, IntKind.min, IntKind.max, IntKind.bits, IntKind.signed] using w1
  exact FnM.law (best39_m (z0.take len0) a1 hu.1 hu.2) (VRs.cons (row_VR w0) (VRs.cons (.d (.v _)) VRs.nil))
end Go.Proofs.YteppnjgobaggaaaGreat
