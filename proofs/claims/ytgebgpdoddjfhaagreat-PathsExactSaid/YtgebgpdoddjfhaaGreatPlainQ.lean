/- Plain laws on offers: what a sale does, and what a use of an offer does. No program stands here. -/
import Derived.Test.YtgebgpdoddjfhaaGreatPlainO
namespace Go.Proofs.YtgebgpdoddjfhaaGreat
set_option linter.unusedSimpArgs false
set_option linter.unusedVariables false
set_option linter.unnecessarySimpa false
set_option linter.unusedSectionVars false
set_option maxRecDepth 100000
open Go Go.RowKit Go.Am Go.Proofs.Grow

/-- What a sale of n units for c does to a ledger. -/
structure Sold (g g' : Led) (x : Off) (n c : Int) : Prop where
  right : RightG g'
  find : ∀ b, (findA g'.accs b).2 = (findA g.accs b).2
  line : ∀ b v k, (findL g'.lins b v k).2 = (findL g.lins b v k).2
  offs : g'.offs = g.offs
  la : g'.accs.length = g.accs.length
  ll : g'.lins.length = g.lins.length
  num : g'.num = g.num
  nid : g'.nid = g.nid
  fees : g'.fees = g.fees
  link : g'.link = g.link
  other : ∀ b v k, ¬ (b = x.seller ∧ v = x.sc ∧ k = x.si) → ¬ (b = x.seller ∧ v = x.bc ∧ k = x.bi) → lookF g' b v k = lookF g b v k
  sell : ¬ x.si = x.seller → 0 < n → lookF g' x.seller x.sc x.si = ((lookF g x.seller x.sc x.si).1 - n, (lookF g x.seller x.sc x.si).2.1 + n, true)
  buy : ¬ x.bi = x.seller → 0 < n → lookF g' x.seller x.bc x.bi = ((lookF g x.seller x.bc x.bi).1 + c, (lookF g x.seller x.bc x.bi).2.1 - c, true)
  sell0 : x.si = x.seller → lookF g' x.seller x.sc x.si = lookF g x.seller x.sc x.si
  buy0 : x.bi = x.seller → lookF g' x.seller x.bc x.bi = lookF g x.seller x.bc x.bi
  tot : tot g'.accs = tot g.accs - (if nativeB x.sc x.si = true then n else 0) + (if nativeB x.bc x.bi = true then c else 0)
  sum : ∀ v k, nativeB v k = false → sumT v k g'.lins = sumT v k g.lins - (if v = x.sc ∧ k = x.si ∧ ¬ x.si = x.seller then n else 0) + (if v = x.bc ∧ k = x.bi ∧ ¬ x.bi = x.seller then c else 0)
theorem Sold.same (g : Led) (h : RightG g) (x : Off) : Sold g g x 0 0 := by
  refine ⟨h, fun _ => rfl, fun _ _ _ => rfl, rfl, rfl, rfl, rfl, rfl, rfl, rfl, fun _ _ _ _ _ => rfl, fun _ h => absurd h (by decide), fun _ h => absurd h (by decide), fun _ => rfl, fun _ => rfl, ?_, fun v k _ => ?_⟩
  · split <;> split <;> omega
  · split <;> split <;> omega
theorem sold_spec {g : Led} (h : RightG g) {x : Off} (hx : GoodO g.accs x) {n : Int} (n0 : 0 < n) (hn : n ≤ ablP g x) : Sold g (soldG g x n) x n (ceilP x n) := by
  obtain ⟨a1, a2, a3, a4, a5, a6⟩ := able_bd h hx n0 hn
  have hbd := look_bd h hx.seller hx.sell
  have hbd2 := look_bd h hx.seller hx.buy
  obtain ⟨s1, s2, s3, s4, s5, s6, s7, s8, s9, s10, s11, s12, s13, s14, s15, s16, s17, s18⟩ := addL_spec h hx.seller hx.sell (m := -n) a3 (by omega) (by omega)
  have hne := ne_pair hx.two
  have e6 := s6 x.seller x.bc x.bi (fun ⟨_, e1, e2⟩ => hne ⟨e1, e2⟩)
  obtain ⟨t1, t2, t3, t4, t5, t6, t7, t8, t9, t10, t11, t12, t13, t14, t15, t16, t17, t18⟩ := addL_spec s1 (a := x.seller) s2 hx.buy (m := ceilP x n) (by rw [e6]; exact a5) (by rw [e6]; omega) (by rw [e6]; exact a4)
  rw [e6] at t4
  have hn2 : nativeB x.sc x.si = true → nativeB x.bc x.bi = false := fun hh => by
    cases q : nativeB x.bc x.bi with
    | false => rfl
    | true =>
      obtain ⟨p1, p2⟩ := native_iff.1 hh
      obtain ⟨p3, p4⟩ := native_iff.1 q
      exact absurd ⟨p3.trans p1.symm, p4.trans p2.symm⟩ hne
  unfold soldG
  refine ⟨t1, fun b => (t10 b).trans (s10 b), fun b v k => (t11 b v k).trans (s11 b v k), t12.trans s12, t13.trans s13, t14.trans s14, t15.trans s15, t16.trans s16, t17.trans s17, t18.trans s18, fun b v k q1 q2 => (t6 b v k q2).trans (s6 b v k q1), fun q _ => ?_, fun q _ => t4 q, fun q => ?_, fun q => ?_, ?_, fun v k q => ?_⟩
  · rw [t6 x.seller x.sc x.si (fun ⟨_, e1, e2⟩ => hne ⟨e1.symm, e2.symm⟩), s4 q]
    simp only [Prod.mk.injEq, and_true]; omega
  · rw [t6 x.seller x.sc x.si (fun ⟨_, e1, e2⟩ => hne ⟨e1.symm, e2.symm⟩), s5 q]
  · rw [t5 q, e6]
  · cases q1 : nativeB x.sc x.si with
    | true =>
      have q2 := hn2 q1
      rw [q2, (t7 q2).1, (s8 q1).2]; simp; omega
    | false =>
      cases q2 : nativeB x.bc x.bi with
      | true => rw [(t8 q2).2, (s7 q1).1]; simp
      | false => rw [(t7 q2).1, (s7 q1).1]; simp
  · by_cases e1 : v = x.bc ∧ k = x.bi
    · obtain ⟨rfl, rfl⟩ := e1
      rw [(t7 q).2, s9 _ _ (fun hh => hne hh)]
      rw [if_neg (fun hh : _ ∧ _ ∧ _ => hne ⟨hh.1, hh.2.1⟩)]
      by_cases e2 : x.bi = x.seller
      · rw [if_pos e2, if_neg (fun hh : x.bc = x.bc ∧ x.bi = x.bi ∧ ¬ x.bi = x.seller => hh.2.2 e2)]; omega
      · rw [if_neg e2, if_pos ⟨rfl, rfl, e2⟩]; omega
    · rw [t9 v k e1]
      rw [if_neg (fun hh : v = x.bc ∧ k = x.bi ∧ _ => e1 ⟨hh.1, hh.2.1⟩)]
      by_cases e3 : v = x.sc ∧ k = x.si
      · obtain ⟨rfl, rfl⟩ := e3
        rw [(s7 q).2]
        by_cases e2 : x.si = x.seller
        · rw [if_pos e2, if_neg (fun hh : x.sc = x.sc ∧ x.si = x.si ∧ ¬ x.si = x.seller => hh.2.2 e2)]; omega
        · rw [if_neg e2, if_pos ⟨rfl, rfl, e2⟩]; omega
      · rw [s9 v k e3, if_neg (fun hh : v = x.sc ∧ k = x.si ∧ _ => e3 ⟨hh.1, hh.2.1⟩)]; omega
theorem Sold.good {g g' : Led} {x : Off} {n c : Int} (h : Sold g g' x n c) {y : Off} (hy : GoodO g.accs y) : GoodO g'.accs y :=
  ⟨by rw [h.find]; exact hy.seller, hy.id, hy.sell, hy.buy, hy.two, hy.amt, hy.num, hy.den, hy.low⟩
theorem able_eqP {g : Led} (x : Off) : ableF g x = if chkO g = 0 then ablP g x else 0 := by
  by_cases hc : chkO g = 0
  · rw [if_pos hc]
    unfold ableF ablP withinF
    cases hp : priceB x.num x.den with
    | false =>
      rw [if_pos (.inr rfl), if_neg (by simp)]
      generalize heldF g x.seller x.sc x.si = h at *
      unfold max2 min2
      repeat' (first | split | omega)
    | true =>
      rw [if_neg (by simp [hc]), if_pos rfl]
      have hh : heldF g x.seller x.sc x.si ≤ 1000000000000 := by
        have h := (chkO_zero.1 hc).right
        rw [(held_look h _ _ _).1]
        by_cases hf : (findA g.accs x.seller).2 = true
        · by_cases hu : assetB x.sc x.si = true
          · have := look_bd h hf hu; omega
          · have e : lookF g x.seller x.sc x.si = (0, 0, false) := by unfold lookF; rw [if_pos (.inr (by simpa using hu))]
            rw [e]; decide
        · have e : lookF g x.seller x.sc x.si = (0, 0, false) := by unfold lookF; rw [if_pos (.inl (by simpa using hf))]
          rw [e]; decide
      generalize heldF g x.seller x.sc x.si = h at *
      generalize roomF g x.seller x.bc x.bi * x.den / x.num = q at *
      unfold max2 min2
      simp only [Int.max_def, Int.min_def]
      repeat' (first | split | omega)
  · rw [if_neg hc]; unfold ableF; rw [if_pos (.inl hc)]
theorem able_nonneg (g : Led) (x : Off) : 0 ≤ ablP g x := (max2_ge 0 _).1
theorem useN_bd {d : Deal} (hr : RightO d.g) {x : Off} (hx : GoodO d.g.accs x) (w0 : 0 ≤ d.want) (l0 : 0 ≤ d.left) : 0 ≤ useN d x ∧ useN d x ≤ d.want ∧ useN d x ≤ ablP d.g x ∧ useN d x ≤ withinF x d.left ∧ ceilP x (useN d x) ≤ d.left := by
  have b1 := min2_le (min2 d.want (ablP d.g x)) (withinF x d.left)
  have b2 := min2_le d.want (ablP d.g x)
  have b3 := able_nonneg d.g x
  have b4 := within_nonneg hx.price l0
  unfold useN
  refine ⟨by omega, by omega, by omega, by omega, ?_⟩
  exact (within_le hx.price (m := d.left) b1.2.1).2
/-- What was left of an offer, at its place. -/
def cutO (x : Off) (n : Int) : Off := { x with amt := x.amt - n }
theorem use1_eq {d : Deal} (hr : RightO d.g) {j : Nat} (hj : j < d.g.offs.length) (w0 : 0 ≤ d.want) (l0 : 0 ≤ d.left) :
    use1 d j = ⟨{ soldG d.g (nth d.g.offs j) (useN d (nth d.g.offs j)) with offs := d.g.offs.set j (cutO (nth d.g.offs j) (useN d (nth d.g.offs j))) }, d.want - useN d (nth d.g.offs j), d.left - ceilP (nth d.g.offs j) (useN d (nth d.g.offs j))⟩ ∧
    Sold d.g (soldG d.g (nth d.g.offs j) (useN d (nth d.g.offs j))) (nth d.g.offs j) (useN d (nth d.g.offs j)) (ceilP (nth d.g.offs j) (useN d (nth d.g.offs j))) := by
  have hx := hr.good _ (nth_mem _ j hj)
  obtain ⟨b1, b2, b3, b4, b5⟩ := useN_bd hr hx w0 l0
  unfold use1
  by_cases hn : 0 < useN d (nth d.g.offs j)
  · rw [if_pos hn]
    obtain ⟨s1, s2, s3, s4, s5, _⟩ := sale hr.right hx hn b3
    refine ⟨?_, sold_spec hr.right hx hn b3⟩
    unfold buyF
    rw [s3, s1]
    dsimp only
    rw [s2]
    rfl
  · rw [if_neg hn]
    have e : useN d (nth d.g.offs j) = 0 := by omega
    obtain ⟨z1, z2⟩ := sold_zero d.g (nth d.g.offs j) hx.den.1
    rw [e, z1, z2]
    refine ⟨?_, Sold.same _ hr.right _⟩
    unfold cutO
    rw [Int.sub_zero, Int.sub_zero, Int.sub_zero]
    show d = ⟨{ d.g with offs := d.g.offs.set j (nth d.g.offs j) }, d.want, d.left⟩
    rw [set_id]
theorem ids_same {l : List Off} {j : Nat} {y : Off} (hj : j < l.length) (h : y.id = (nth l j).id) : (l.set j y).map Off.id = l.map Off.id := by
  rw [List.map_set, h, nth_getElem l j hj]
  have : (l.map Off.id)[j]'(by simpa using hj) = (l[j]).id := by simp
  rw [← this, List.set_getElem_self]
theorem Sold.head {g g' : Led} {x : Off} {n c : Int} (h : Sold g g' x n c) (hh : headOk g = true) (l : List Off) : headOk { g' with offs := l } = true := by
  have := head_iff.1 hh
  refine head_iff.2 ⟨?_, ?_, ?_, ?_, ?_⟩ <;> dsimp only
  · rw [h.nid]; exact this.1
  · rw [h.nid]; exact this.2.1
  · rw [h.fees]; exact this.2.2.1
  · rw [h.num]; exact this.2.2.2.1
  · rw [h.num]; exact this.2.2.2.2
/-- What a use of an offer does. -/
structure Used (d : Deal) (x : Off) (j : Nat) (n c : Int) (g' : Led) (d' : Deal) (more : Bool) : Prop where
  n0 : 0 ≤ n
  nw : n ≤ d.want
  na : n ≤ ablP d.g x
  nl : n ≤ withinF x d.left
  nn : n = useN d x
  c0 : 0 ≤ c
  cl : c ≤ d.left
  ce : c = ceilP x n
  sold : Sold d.g g' x n c
  want : d'.want = d.want - n
  left : d'.left = d.left - c
  right : RightO d'.g
  led : d'.g = { g' with offs := d'.g.offs }
  stop : more = false → d'.g.offs = d.g.offs.set j (cutO x n) ∧ 0 < ablP d'.g (cutO x n) ∧ n < x.amt
  gone : more = true → d'.g.offs = d.g.offs.eraseIdx j ∧ ablP g' (cutO x n) = 0
theorem ablP_offs (g : Led) (l : List Off) (x : Off) : ablP { g with offs := l } x = ablP g x := rfl
theorem RightG.offs {g : Led} (h : RightG g) (l : List Off) : RightG { g with offs := l } := ⟨h.accs, h.len, h.good, h.asc⟩
theorem use_spec {d : Deal} (hr : RightO d.g) {j : Nat} (hj : j < d.g.offs.length) (w0 : 0 ≤ d.want) (l0 : 0 ≤ d.left) :
    ∃ g', Used d (nth d.g.offs j) j (useN d (nth d.g.offs j)) (ceilP (nth d.g.offs j) (useN d (nth d.g.offs j))) g' (useF d j).1 (useF d j).2 := by
  have hx := hr.good _ (nth_mem _ j hj)
  obtain ⟨b1, b2, b3, b4, b5⟩ := useN_bd hr hx w0 l0
  obtain ⟨e, hs⟩ := use1_eq hr hj w0 l0
  have hc := ceil_nonneg (x := nth d.g.offs j) hx.den.1 (by have := hx.num; omega) b1
  refine ⟨soldG d.g (nth d.g.offs j) (useN d (nth d.g.offs j)), ?_⟩
  generalize hn : useN d (nth d.g.offs j) = n at *
  generalize hg : soldG d.g (nth d.g.offs j) n = g' at *
  have hlen := hr.len
  have hat : nth (d.g.offs.set j (cutO (nth d.g.offs j) n)) j = cutO (nth d.g.offs j) n := by rw [nth_set _ _ _ _ hj, if_pos rfl]
  have ea : ablP (use1 d j).g (nth (use1 d j).g.offs j) = ablP g' (cutO (nth d.g.offs j) n) := by
    rw [e]; dsimp only; rw [hat, ablP_offs]
  unfold useF
  rw [ea]
  by_cases h0 : 0 < ablP g' (cutO (nth d.g.offs j) n)
  · rw [if_pos h0, e]
    have hamt : n < (nth d.g.offs j).amt := by
      unfold ablP at h0
      have q1 := max2_ge 0 (min2 (min2 (cutO (nth d.g.offs j) n).amt (heldF g' (cutO (nth d.g.offs j) n).seller (cutO (nth d.g.offs j) n).sc (cutO (nth d.g.offs j) n).si)) (withinF (cutO (nth d.g.offs j) n) (roomF g' (cutO (nth d.g.offs j) n).seller (cutO (nth d.g.offs j) n).bc (cutO (nth d.g.offs j) n).bi)))
      have q2 := min2_le (min2 (cutO (nth d.g.offs j) n).amt (heldF g' (cutO (nth d.g.offs j) n).seller (cutO (nth d.g.offs j) n).sc (cutO (nth d.g.offs j) n).si)) (withinF (cutO (nth d.g.offs j) n) (roomF g' (cutO (nth d.g.offs j) n).seller (cutO (nth d.g.offs j) n).bc (cutO (nth d.g.offs j) n).bi))
      have q3 := min2_le (cutO (nth d.g.offs j) n).amt (heldF g' (cutO (nth d.g.offs j) n).seller (cutO (nth d.g.offs j) n).sc (cutO (nth d.g.offs j) n).si)
      have : (cutO (nth d.g.offs j) n).amt = (nth d.g.offs j).amt - n := rfl
      omega
    refine ⟨b1, b2, b3, b4, hn.symm, hc, b5, rfl, hs, rfl, rfl, ?_, rfl, fun _ => ⟨rfl, h0, hamt⟩, fun q => (by cases q)⟩
    refine ⟨hs.right.offs _, by simpa using hlen, hs.head hr.head _, fun y hy => ?_, fun y hy => ?_, ?_⟩
    · dsimp only at hy ⊢
      rcases List.mem_or_eq_of_mem_set hy with q | q
      · exact hs.good (hr.good y q)
      · subst q
        have hg := hs.good hx
        exact ⟨hg.seller, hg.id, hg.sell, hg.buy, hg.two, by have := hx.amt; show 1 ≤ (nth d.g.offs j).amt - n ∧ (nth d.g.offs j).amt - n ≤ 1000000000000; omega, hg.num, hg.den, hg.low⟩
    · dsimp only at hy ⊢
      rw [hs.nid]
      rcases List.mem_or_eq_of_mem_set hy with q | q
      · exact hr.next y q
      · subst q; exact (show (nth d.g.offs j).id < d.g.nid from hr.next _ (nth_mem _ j hj))
    · dsimp only
      rw [ids_same (y := cutO (nth d.g.offs j) n) hj rfl]; exact hr.asc
  · rw [if_neg h0, e]
    have hz : ablP g' (cutO (nth d.g.offs j) n) = 0 := by have := able_nonneg g' (cutO (nth d.g.offs j) n); omega
    have ee : (d.g.offs.set j (cutO (nth d.g.offs j) n)).eraseIdx j = d.g.offs.eraseIdx j := List.eraseIdx_set_eq ..
    refine ⟨b1, b2, b3, b4, hn.symm, hc, b5, rfl, hs, rfl, rfl, ?_, rfl, fun q => (by cases q), fun _ => ⟨ee, hz⟩⟩
    dsimp only
    rw [ee]
    refine ⟨hs.right.offs _, by have := List.length_eraseIdx_le d.g.offs j; dsimp only; omega, hs.head hr.head _, fun y hy => hs.good (hr.good y (List.mem_of_mem_eraseIdx hy)), fun y hy => (by dsimp only at hy ⊢; rw [hs.nid]; exact hr.next y (List.mem_of_mem_eraseIdx hy)), ?_⟩
    dsimp only
    exact hr.asc.sublist ((List.eraseIdx_sublist d.g.offs j).map _)
/-- What goes along the book, as far as it is used. -/
theorem cross_ind {t : Int} (Q : Off → Prop) (P : Deal → Prop) (hstep : ∀ d x j n c g' d' more, RightO d.g → j < d.g.offs.length → nth d.g.offs j = x → Q x → ¬ x.seller = t → 0 ≤ d.want → 0 ≤ d.left → P d → Used d x j n c g' d' more → P d') :
    ∀ (l : List Off) (d : Deal), RightO d.g → 0 ≤ d.want → 0 ≤ d.left → (∀ x ∈ l, x ∈ d.g.offs) → (∀ x ∈ l, Q x) → (l.map Off.id).Nodup → P d → P (crossL t l d) ∧ RightO (crossL t l d).g ∧ 0 ≤ (crossL t l d).want ∧ (crossL t l d).want ≤ d.want ∧ 0 ≤ (crossL t l d).left ∧ (crossL t l d).left ≤ d.left := by
  intro l
  induction l with
  | nil => intro d hr w0 l0 _ _ _ hP; exact ⟨hP, hr, w0, Int.le_refl _, l0, Int.le_refl _⟩
  | cons x r ih =>
    intro d hr w0 l0 hsub hQ hnd hP
    rw [List.map_cons, List.nodup_cons] at hnd
    unfold crossL
    by_cases ht : x.seller = t
    · rw [if_pos ht]
      exact ih d hr w0 l0 (fun y hy => hsub y (by simp [hy])) (fun y hy => hQ y (by simp [hy])) hnd.2 hP
    · rw [if_neg ht]
      obtain ⟨j, hj, hjx⟩ := mem_nth (hsub x (by simp))
      have ej := idxO_at hr.asc hj
      rw [hjx] at ej
      rw [ej]
      simp only [Int.toNat_natCast]
      obtain ⟨g', hu⟩ := use_spec hr hj w0 l0
      rw [hjx] at hu
      have hP' := hstep d x j _ _ _ _ _ hr hj hjx (hQ x (by simp)) ht w0 l0 hP hu
      have b1 := hu.n0
      have b2 := hu.nw
      have b3 := hu.c0
      have b4 := hu.cl
      have b5 := hu.want
      have b6 := hu.left
      by_cases hm : (useF d j).2 = true
      · rw [if_pos hm]
        have hsub' : ∀ y ∈ r, y ∈ (useF d j).1.g.offs := fun y hy => by
          rw [(hu.gone hm).1, List.mem_eraseIdx_iff_getElem]
          obtain ⟨q, hq, e⟩ := List.mem_iff_getElem.1 (hsub y (by simp [hy]))
          refine ⟨q, hq, fun e2 => ?_, e⟩
          subst e2
          rw [nth_getElem _ q hj] at hjx
          have : y = x := e.symm.trans hjx
          subst this
          exact hnd.1 (List.mem_map.2 ⟨y, hy, rfl⟩)
        obtain ⟨h1, h2, h3, h4, h5, h6⟩ := ih (useF d j).1 hu.right (by omega) (by omega) hsub' (fun y hy => hQ y (by simp [hy])) hnd.2 hP'
        exact ⟨h1, h2, h3, by omega, h5, by omega⟩
      · rw [if_neg hm]
        exact ⟨hP', hu.right, by omega, by omega, by omega, by omega⟩
end Go.Proofs.YtgebgpdoddjfhaaGreat
