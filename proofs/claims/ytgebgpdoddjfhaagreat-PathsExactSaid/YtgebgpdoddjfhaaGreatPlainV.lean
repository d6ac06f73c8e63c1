/- Plain law of OffersKeep, as the walk uses it. No program stands here. -/
import Derived.Test.YtgebgpdoddjfhaaGreatPlainU
namespace Go.Proofs.YtgebgpdoddjfhaaGreat
set_option linter.unusedSimpArgs false
set_option linter.unusedVariables false
set_option linter.unnecessarySimpa false
set_option linter.unusedSectionVars false
set_option maxRecDepth 100000
open Go Go.RowKit Go.Am Go.Proofs.Grow

theorem if_iff {p q : Prop} [Decidable p] [Decidable q] {x y : Int} (h : p ↔ q) : (if p then x else y) = if q then x else y := by
  by_cases hp : p
  · rw [if_pos hp, if_pos (h.1 hp)]
  · rw [if_neg hp, if_neg (fun k => hp (h.2 k))]
/-- How a purchase changes the sums: what was bought is away, what was paid is there. -/
structure Moved (g : Led) (n most : Int) (u : ByteArray) (i : Int) (v : ByteArray) (j : Int) (d : Deal) : Prop where
  find : ∀ b, (findA d.g.accs b).2 = (findA g.accs b).2
  num : d.g.num = g.num
  nid : d.g.nid = g.nid
  la : d.g.accs.length = g.accs.length
  ll : d.g.lins.length = g.lins.length
  lo : d.g.offs.length ≤ g.offs.length
  tot : tot d.g.accs = tot g.accs - (if nativeB u i = true then n - d.want else 0) + (if nativeB v j = true then most - d.left else 0)
  sum : ∀ w k, nativeB w k = false → (∀ x ∈ g.offs, x.seller = k → ¬ (x.sc = w ∧ x.si = k) ∧ ¬ (x.bc = w ∧ x.bi = k)) →
    sumT w k d.g.lins = sumT w k g.lins - (if w = u ∧ k = i then n - d.want else 0) + (if w = v ∧ k = j then most - d.left else 0)
theorem pair_eq {u v : ByteArray} {i j : Int} {x : Off} (h : pairO u i v j x = true) : x.sc = u ∧ x.si = i ∧ x.bc = v ∧ x.bi = j := by
  unfold pairO at h
  rw [Bool.and_eq_true, eqT_iff, eqT_iff] at h
  exact ⟨h.1.1, h.1.2, h.2.1, h.2.2⟩
theorem book_nodup {g : Led} (h : RightO g) (u : ByteArray) (i : Int) (v : ByteArray) (j : Int) : ((bookO g u i v j).map Off.id).Nodup := by
  obtain ⟨_, hs, hm, _⟩ := book_srt h u i v j
  generalize bookO g u i v j = b at *
  unfold SortO at hs
  rw [List.Nodup, List.pairwise_map]
  refine List.Pairwise.imp_of_mem ?_ hs
  intro x y hx hy hb e
  obtain ⟨p, hp, rfl⟩ := mem_nth ((hm x).1 hx).1
  obtain ⟨q, hq, rfl⟩ := mem_nth ((hm y).1 hy).1
  have := oid_inj h.asc hp hq e
  subst this
  have hg := h.good _ (nth_mem _ p hp)
  rw [betO_iff ⟨hg.num, hg.den⟩ ⟨hg.num, hg.den⟩] at hb
  omega
theorem moved_all {g : Led} (h : RightO g) {u : ByteArray} {i : Int} {v : ByteArray} {j : Int} {n most t : Int} (n0 : 0 ≤ n) (m0 : 0 ≤ most) :
    Moved g n most u i v j (crossD g t u i v j n most) ∧ RightO (crossD g t u i v j n most).g ∧ 0 ≤ (crossD g t u i v j n most).want ∧ (crossD g t u i v j n most).want ≤ n ∧ 0 ≤ (crossD g t u i v j n most).left ∧ (crossD g t u i v j n most).left ≤ most := by
  obtain ⟨_, _, hm, _⟩ := book_srt h u i v j
  refine cross_ind (t := t) (fun x => x ∈ g.offs ∧ pairO u i v j x = true) (Moved g n most u i v j) ?_ _ ⟨g, n, most⟩ h n0 m0 (fun x hx => ((hm x).1 hx).1) (fun x hx => (hm x).1 hx) (book_nodup h u i v j) ?_
  · intro d x p k c g' d' more hr hp hx ⟨hq, hpr⟩ ht w0 l0 hP hu
    obtain ⟨e1, e2, e3, e4⟩ := pair_eq hpr
    have hs := hu.sold
    have hl : d'.g.offs.length ≤ d.g.offs.length := by
      cases more with
      | false => rw [(hu.stop rfl).1]; simp
      | true => rw [(hu.gone rfl).1]; exact List.length_eraseIdx_le _ _
    have f1 : d'.g.accs = g'.accs := by rw [hu.led]
    have f2 : d'.g.lins = g'.lins := by rw [hu.led]
    have f3 : d'.g.num = g'.num := by rw [hu.led]
    have f4 : d'.g.nid = g'.nid := by rw [hu.led]
    refine ⟨fun b => by rw [f1, hs.find, hP.find], by rw [f3, hs.num, hP.num], by rw [f4, hs.nid, hP.nid], by rw [f1, hs.la, hP.la], by rw [f2, hs.ll, hP.ll], by have := hP.lo; omega, ?_, ?_⟩
    · rw [f1, hs.tot, hP.tot, e1, e2, e3, e4, hu.want, hu.left]
      split <;> split <;> omega
    · intro w z hw hno
      obtain ⟨q1, q2⟩ : (x.seller = z → ¬ (x.sc = w ∧ x.si = z) ∧ ¬ (x.bc = w ∧ x.bi = z)) ∧ True := ⟨hno x hq, trivial⟩
      rw [f2, hs.sum w z hw, hP.sum w z hw hno, e1, e2, e3, e4, hu.want, hu.left]
      rw [e1, e2, e3, e4] at q1
      have a1 : (w = u ∧ z = i ∧ ¬ i = x.seller) ↔ (w = u ∧ z = i) := ⟨fun q => ⟨q.1, q.2.1⟩, fun q => ⟨q.1, q.2, fun e => (q1 (e.symm.trans q.2.symm)).1 ⟨q.1.symm, q.2.symm⟩⟩⟩
      have a2 : (w = v ∧ z = j ∧ ¬ j = x.seller) ↔ (w = v ∧ z = j) := ⟨fun q => ⟨q.1, q.2.1⟩, fun q => ⟨q.1, q.2, fun e => (q1 (e.symm.trans q.2.symm)).2 ⟨q.1.symm, q.2.symm⟩⟩⟩
      rw [if_iff a1, if_iff a2]
      split <;> split <;> omega
  · refine ⟨fun _ => rfl, rfl, rfl, rfl, rfl, Nat.le_refl _, ?_, fun w k _ _ => ?_⟩
    · dsimp only; split <;> split <;> omega
    · dsimp only; split <;> split <;> omega
/-- What becomes of a right ledger when an account is credited or debited. -/
theorem right_add {g : Led} (h : RightO g) {a : Int} {u : ByteArray} {i : Int} (hf : (findA g.accs a).2 = true) (ha : assetB u i = true) {m : Int} (hp : (lookF g a u i).2.2 = true) (h1 : 0 ≤ (lookF g a u i).1 + m) (h2 : m ≤ (lookF g a u i).2.1) : RightO (addL g a u i m) := by
  obtain ⟨s1, s2, s3, s4, s5, s6, s7, s8, s9, s10, s11, s12, s13, s14, s15, s16, s17, s18⟩ := addL_spec h.right hf ha (m := m) hp h1 h2
  have hh := head_iff.1 h.head
  refine ⟨s1, by rw [s12]; exact h.len, head_iff.2 ⟨by rw [s16]; exact hh.1, by rw [s16]; exact hh.2.1, by rw [s17]; exact hh.2.2.1, by rw [s15]; exact hh.2.2.2.1, by rw [s15]; exact hh.2.2.2.2⟩, fun x hx => ?_, fun x hx => ?_, by rw [s12]; exact h.asc⟩
  · rw [s12] at hx
    have hy := h.good x hx
    exact ⟨by rw [s10]; exact hy.seller, hy.id, hy.sell, hy.buy, hy.two, hy.amt, hy.num, hy.den, hy.low⟩
  · rw [s12] at hx; rw [s16]; exact h.next x hx
/-- A taking that is done, in its three steps. -/
structure Taken (g : Led) (b : Int) (u : ByteArray) (i : Int) (v : ByteArray) (j n most : Int) (x : Led) (p c : Int) : Prop where
  right : RightO x
  p0 : 0 ≤ p
  pn : p ≤ n
  c0 : 0 ≤ c
  cm : c ≤ most
  tot : tot x.accs = tot g.accs
  sum : ∀ w k, nativeB w k = false → ¬ b = k → (∀ y ∈ g.offs, y.seller = k → ¬ (y.sc = w ∧ y.si = k) ∧ ¬ (y.bc = w ∧ y.bi = k)) → sumT w k x.lins = sumT w k g.lins
  la : x.accs.length = g.accs.length
  ll : x.lins.length = g.lins.length
  lo : x.offs.length ≤ g.offs.length
theorem take_spec {g : Led} (h : RightO g) {b : Int} {u : ByteArray} {i : Int} {v : ByteArray} {j n most : Int} (hf : (findA g.accs b).2 = true) (hu : assetB u i = true) (hv : assetB v j = true) (n0 : 0 ≤ n) (n1 : n ≤ 1000000000000) (m0 : 0 ≤ most) (m1 : most ≤ 1000000000000) :
    ((takeO g b u i v j n most).2.2.2 = 71 ∨ (takeO g b u i v j n most).2.2.2 = 70 ∨ (takeO g b u i v j n most).2.2.2 = 66 ∨ (takeO g b u i v j n most).2.2.2 = 65) ∨
    ((takeO g b u i v j n most).2.2.2 = 0 ∧ Taken g b u i v j n most (takeO g b u i v j n most).1 (takeO g b u i v j n most).2.1 (takeO g b u i v j n most).2.2.1) := by
  unfold takeO
  rw [if_neg (by simp [chkO_zero.2 h]), if_neg (by simp [hf])]
  cases he : eqT u i v j with
  | true =>
    have e : crossF g b u i v j n most = (led0, 0, 0, 71) := by unfold crossF; rw [if_neg (by simp [chkO_zero.2 h]), if_pos (.inr (.inr he))]
    rw [e]; exact .inl (.inl rfl)
  | false =>
    have hne : ¬ (v = u ∧ j = i) := fun ⟨q1, q2⟩ => by
      rw [Bool.eq_false_iff] at he; exact he (eqT_iff.2 ⟨q1.symm, q2.symm⟩)
    obtain ⟨hM, hR, w0, w1, l0, l1⟩ := moved_all h (u := u) (i := i) (v := v) (j := j) (t := b) n0 m0
    have e : crossF g b u i v j n most = ((crossD g b u i v j n most).g, n - (crossD g b u i v j n most).want, most - (crossD g b u i v j n most).left, 0) := by
      unfold crossF
      rw [if_neg (by simp [chkO_zero.2 h]), if_neg (by simp [hu, hv, he]), if_neg (by simp [okA_iff.2 ⟨n0, n1⟩, okA_iff.2 ⟨m0, m1⟩])]
    rw [e]
    dsimp only
    generalize hd : crossD g b u i v j n most = d at *
    rw [if_neg (by simp)]
    have hfd : (findA d.g.accs b).2 = true := by rw [hM.find]; exact hf
    have hc : okA (most - d.left) = true := okA_iff.2 (by omega)
    have hp : okA (n - d.want) = true := okA_iff.2 (by omega)
    have hbd := look_bd hR.right hfd hv
    rw [debit_eq hR.right hfd hv hc]
    by_cases c1 : (lookF d.g b v j).2.2 = true ∧ most - d.left ≤ (lookF d.g b v j).1
    · rw [if_pos c1]
      dsimp only
      rw [if_neg (by simp)]
      have hR2 := right_add hR hfd hv (m := -(most - d.left)) c1.1 (by omega) (by omega)
      obtain ⟨s1, s2, s3, s4, s5, s6, s7, s8, s9, s10, s11, s12, s13, s14, s15, s16, s17, s18⟩ := addL_spec hR.right hfd hv (m := -(most - d.left)) c1.1 (by omega) (by omega)
      have hbd2 := look_bd s1 s2 hu
      rw [credit_eq s1 s2 hu hp]
      by_cases c2 : (lookF (addL d.g b v j (-(most - d.left))) b u i).2.2 = true ∧ n - d.want ≤ (lookF (addL d.g b v j (-(most - d.left))) b u i).2.1
      · rw [if_pos c2]
        dsimp only
        rw [if_neg (by simp)]
        have hR3 := right_add hR2 s2 hu (m := n - d.want) c2.1 (by omega) c2.2
        obtain ⟨t1, t2, t3, t4, t5, t6, t7, t8, t9, t10, t11, t12, t13, t14, t15, t16, t17, t18⟩ := addL_spec s1 s2 hu (m := n - d.want) c2.1 (by omega) c2.2
        have hlo := hM.lo
        refine .inr ⟨rfl, hR3, by dsimp only; omega, by dsimp only; omega, by dsimp only; omega, by dsimp only; omega, ?_, ?_, by dsimp only; rw [t13, s13, hM.la], by dsimp only; rw [t14, s14, hM.ll], by dsimp only; rw [t12, s12]; exact hlo⟩
        · dsimp only
          have hT := hM.tot
          cases q1 : nativeB v j with
          | true =>
            have q2 : nativeB u i = false := by
              cases q2 : nativeB u i with
              | false => rfl
              | true =>
                obtain ⟨p1, p2⟩ := native_iff.1 q1
                obtain ⟨p3, p4⟩ := native_iff.1 q2
                exact absurd ⟨p1.trans p3.symm, p2.trans p4.symm⟩ hne
            rw [(t7 q2).1, (s8 q1).2, hT, q1, q2]; simp; omega
          | false =>
            cases q2 : nativeB u i with
            | true => rw [(t8 q2).2, (s7 q1).1, hT, q1, q2]; simp
            | false => rw [(t7 q2).1, (s7 q1).1, hT, q1, q2]; simp
        · intro w k hw hb hno
          dsimp only
          have hS := hM.sum w k hw hno
          have z1 : sumT w k (addL d.g b v j (-(most - d.left))).lins = sumT w k d.g.lins - (if w = v ∧ k = j then most - d.left else 0) := by
            by_cases q : w = v ∧ k = j
            · rw [if_pos q]
              obtain ⟨rfl, rfl⟩ := q
              rw [(s7 hw).2, if_neg (fun e => hb e.symm)]; omega
            · rw [if_neg q, s9 w k q]; omega
          have z2 : sumT w k (addL (addL d.g b v j (-(most - d.left))) b u i (n - d.want)).lins = sumT w k (addL d.g b v j (-(most - d.left))).lins + (if w = u ∧ k = i then n - d.want else 0) := by
            by_cases q : w = u ∧ k = i
            · rw [if_pos q]
              obtain ⟨rfl, rfl⟩ := q
              rw [(t7 hw).2, if_neg (fun e => hb e.symm)]
            · rw [if_neg q, t9 w k q]; omega
          rw [z2, z1, hS]; omega
      · rw [if_neg c2]
        dsimp only
        left
        cases nativeB u i <;> simp
    · rw [if_neg c1]
      dsimp only
      left
      cases (lookF d.g b v j).2.2 <;> simp
end Go.Proofs.YtgebgpdoddjfhaaGreat
