/- Plain law of OffersPrice, as the walk uses it. No program stands here. -/
import Derived.Test.YteppnjgobaggaaaGreatPlainV
namespace Go.Proofs.YteppnjgobaggaaaGreat
set_option linter.unusedSimpArgs false
set_option linter.unusedVariables false
set_option linter.unnecessarySimpa false
set_option linter.unusedSectionVars false
set_option maxRecDepth 100000
open Go Go.RowKit Go.Am Go.Proofs.Grow

theorem erase_ids {l : List Off} (h : (l.map Off.id).Pairwise (· < ·)) {j : Nat} (hj : j < l.length) {y : Off} (hy : y ∈ l.eraseIdx j) : y ∈ l ∧ ¬ y.id = (nth l j).id := by
  rw [List.mem_eraseIdx_iff_getElem] at hy
  obtain ⟨k, hk, hne, rfl⟩ := hy
  refine ⟨List.getElem_mem hk, fun e => hne ?_⟩
  rw [← nth_getElem l k hk] at e
  exact oid_inj h hk hj e
theorem mem_erase {l : List Off} {j : Nat} {y : Off} (hy : y ∈ l) (hne : ¬ y.id = (nth l j).id) : y ∈ l.eraseIdx j := by
  obtain ⟨k, hk, rfl⟩ := mem_nth hy
  rw [List.mem_eraseIdx_iff_getElem]
  refine ⟨k, hk, fun e => hne (by rw [e]), ?_⟩
  rw [← nth_getElem l k hk]
theorem mem_setO {l : List Off} {j : Nat} {y z : Off} (hy : y ∈ l) (hne : ¬ y.id = (nth l j).id) : y ∈ l.set j z := by
  obtain ⟨k, hk, rfl⟩ := mem_nth hy
  have hkj : ¬ j = k := fun e => hne (by rw [e])
  have := nth_set l j z k hk
  rw [if_neg hkj] at this
  rw [← this]
  exact nth_mem _ k (by simpa using hk)
theorem set_ids {l : List Off} (h : (l.map Off.id).Pairwise (· < ·)) {j : Nat} (hj : j < l.length) {y z : Off} (hz : z.id = (nth l j).id) (hy : y ∈ l.set j z) : (y = z) ∨ (y ∈ l ∧ ¬ y.id = (nth l j).id) := by
  obtain ⟨k, hk, rfl⟩ := mem_nth hy
  simp only [List.length_set] at hk
  rw [nth_set l j z k hk]
  by_cases e : j = k
  · rw [if_pos e]; exact .inl rfl
  · rw [if_neg e]
    refine .inr ⟨nth_mem l k hk, fun q => e (oid_inj h hj hk q.symm)⟩
/-- A price that is no worse asks for no more, but for a unit. -/
theorem price_up {n c xn xd N D : Int} (hx : 1 ≤ xd) (hD : 1 ≤ D) (n0 : 0 ≤ n) (h1 : c * xd ≤ n * xn + (xd - 1)) (h2 : xn * D ≤ N * xd) : c * D ≤ n * N + D := by
  have k1 : c * xd * D ≤ (n * xn + (xd - 1)) * D := Int.mul_le_mul_of_nonneg_right h1 (by omega)
  have k2 : n * (xn * D) ≤ n * (N * xd) := Int.mul_le_mul_of_nonneg_left h2 n0
  have e1 : c * xd * D = c * D * xd := by rw [Int.mul_assoc, Int.mul_comm xd D, ← Int.mul_assoc]
  have e2 : (n * xn + (xd - 1)) * D = n * (xn * D) + (D * xd - D) := by rw [Int.add_mul, Int.mul_assoc, Int.sub_mul, Int.one_mul, Int.mul_comm xd D]
  have e3 : n * (N * xd) = n * N * xd := by rw [Int.mul_assoc]
  have e4 : (n * N + D) * xd = n * N * xd + D * xd := Int.add_mul ..
  refine Int.le_of_mul_le_mul_right (a := xd) ?_ (by omega)
  omega
/-- What the purchase along a list did, and how far it went. -/
structure Went (l : List Off) (d d' : Deal) (m : Nat) : Prop where
  ml : m ≤ l.length
  ids : ∀ y' ∈ d'.g.offs, ∃ y ∈ d.g.offs, y.id = y'.id
  gone : ∀ k, k + 1 < m → ∀ y' ∈ d'.g.offs, ¬ y'.id = (nth l k).id
  last : 0 < m → ∀ y' ∈ d'.g.offs, y'.id = (nth l (m - 1)).id → ¬ y'.amt = (nth l (m - 1)).amt
  rest : ∀ y ∈ d.g.offs, (∀ k, k < m → ¬ y.id = (nth l k).id) → y ∈ d'.g.offs
  none : m = 0 → d'.want = d.want ∧ d'.left = d.left
  some : 0 < m → (d.left - d'.left) * (nth l (m - 1)).den ≤ (d.want - d'.want) * (nth l (m - 1)).num + m * (nth l (m - 1)).den
theorem went_all {t : Int} : ∀ (l : List Off) (d : Deal), RightO d.g → 0 ≤ d.want → 0 ≤ d.left → (∀ x ∈ l, x ∈ d.g.offs) → (∀ x ∈ l, ¬ x.seller = t) → (l.map Off.id).Nodup → l.Pairwise (fun x y => x.num * y.den ≤ y.num * x.den) → ∃ m, Went l d (crossL t l d) m := by
  intro l
  induction l with
  | nil => intro d hr w0 l0 _ _ _ _; exact ⟨0, Nat.le_refl _, fun y hy => ⟨y, hy, rfl⟩, fun k hk => absurd hk (by omega), fun h => absurd h (by omega), fun y hy _ => hy, fun _ => ⟨rfl, rfl⟩, fun h => absurd h (by omega)⟩
  | cons x r ih =>
    intro d hr w0 l0 hsub ht hnd hpw
    rw [List.map_cons, List.nodup_cons] at hnd
    rw [List.pairwise_cons] at hpw
    unfold crossL
    rw [if_neg (ht x (by simp))]
    obtain ⟨j, hj, hjx⟩ := mem_nth (hsub x (by simp))
    have ej := idxO_at hr.asc hj
    rw [hjx] at ej
    rw [ej]
    simp only [Int.toNat_natCast]
    have hxg := hr.good x (hsub x (by simp))
    obtain ⟨g', hu⟩ := use_spec hr hj w0 l0
    rw [hjx] at hu
    generalize hN : useN d x = n at *
    generalize hC : ceilP x n = c at *
    have b1 := hu.n0
    have b2 := hu.nw
    have b3 := hu.c0
    have b4 := hu.cl
    have b5 := hu.want
    have b6 := hu.left
    have hce := (ceil_bd (x := x) hxg.den.1 n).2
    rw [hC] at hce
    have n1 : nth (x :: r) 0 = x := rfl
    have nS : ∀ k, nth (x :: r) (k + 1) = nth r k := fun k => rfl
    by_cases hm : (useF d j).2 = true
    · rw [if_pos hm]
      have hoff := (hu.gone hm).1
      have her : ∀ y ∈ (useF d j).1.g.offs, y ∈ d.g.offs ∧ ¬ y.id = x.id := fun y hy => by
        rw [hoff] at hy
        have := erase_ids hr.asc hj hy
        rw [hjx] at this
        exact this
      have hmem : ∀ y ∈ d.g.offs, ¬ y.id = x.id → y ∈ (useF d j).1.g.offs := fun y hy hne => by
        rw [hoff]; exact mem_erase hy (by rw [hjx]; exact hne)
      obtain ⟨m, hw⟩ := ih (useF d j).1 hu.right (by omega) (by omega) (fun y hy => hmem y (hsub y (by simp [hy])) (fun e => hnd.1 (List.mem_map.2 ⟨y, hy, e⟩))) (fun y hy => ht y (by simp [hy])) hnd.2 hpw.2
      generalize crossL t r (useF d j).1 = d' at *
      have hids : ∀ y' ∈ d'.g.offs, ∃ y ∈ d.g.offs, y.id = y'.id ∧ ¬ y'.id = x.id := fun y' hy' => by
        obtain ⟨y, hy, e⟩ := hw.ids y' hy'
        obtain ⟨q1, q2⟩ := her y hy
        exact ⟨y, q1, e, by rw [← e]; exact q2⟩
      refine ⟨m + 1, by have := hw.ml; simp; omega, fun y' hy' => ?_, fun k hk y' hy' => ?_, fun _ y' hy' => ?_, fun y hy hk => ?_, fun h => absurd h (by omega), fun _ => ?_⟩
      · obtain ⟨y, q1, q2, _⟩ := hids y' hy'; exact ⟨y, q1, q2⟩
      · cases k with
        | zero => rw [n1]; obtain ⟨_, _, _, q⟩ := hids y' hy'; exact q
        | succ k => rw [nS]; exact hw.gone k (by omega) y' hy'
      · cases m with
        | zero =>
          intro e
          obtain ⟨_, _, _, q⟩ := hids y' hy'
          exact absurd e q
        | succ m =>
          rw [show m + 1 + 1 - 1 = m + 1 from rfl, nS]
          exact hw.last (by omega) y' hy'
      · exact hw.rest y (hmem y hy (by have := hk 0 (by omega); rwa [n1] at this)) fun k hkm => by have := hk (k + 1) (by omega); rwa [nS] at this
      · cases m with
        | zero =>
          obtain ⟨z1, z2⟩ := hw.none rfl
          rw [show 0 + 1 - 1 = 0 from rfl, n1, z1, z2, b5, b6]
          have e1 : d.left - (d.left - c) = c := by omega
          have e2 : d.want - (d.want - n) = n := by omega
          rw [e1, e2]
          simp only [Nat.zero_add, Int.natCast_one, Int.one_mul]
          omega
        | succ m =>
          rw [show m + 1 + 1 - 1 = m + 1 from rfl, nS]
          have hs := hw.some (by omega)
          rw [show m + 1 - 1 = m from rfl] at hs
          have hml := hw.ml
          have hp := hpw.1 (nth r m) (nth_mem r m (by omega))
          have hyg := hr.good _ (hsub (nth r m) (by simp [nth_mem r m (by omega : m < r.length)]))
          have hu2 := price_up (n := n) (c := c) hxg.den.1 hyg.den.1 b1 hce hp
          rw [b5, b6] at hs
          generalize (nth r m).den = D at *
          generalize (nth r m).num = N at *
          have e1 : (d.left - d'.left) * D = c * D + (d.left - c - d'.left) * D := by rw [← Int.add_mul]; congr 1; omega
          have e2 : (d.want - d'.want) * N = n * N + (d.want - n - d'.want) * N := by rw [← Int.add_mul]; congr 1; omega
          have e3 : ((m + 1 + 1 : Nat) : Int) * D = ((m + 1 : Nat) : Int) * D + D := by rw [show ((m + 1 + 1 : Nat) : Int) = ((m + 1 : Nat) : Int) + 1 by omega, Int.add_mul, Int.one_mul]
          rw [e1, e2, e3]
          omega
    · rw [if_neg hm]
      have hm : (useF d j).2 = false := by simpa using hm
      obtain ⟨hoff, _, hna⟩ := hu.stop hm
      generalize (useF d j).1 = d' at *
      by_cases hn : n = 0
      · have hc : c = 0 := by rw [← hC, hn]; exact (sold_zero d.g x hxg.den.1).2
        have e : d'.g.offs = d.g.offs := by
          rw [hoff, hn]
          have : cutO x 0 = x := by unfold cutO; rw [Int.sub_zero]
          rw [this, ← hjx, set_id]
        refine ⟨0, Nat.zero_le _, fun y hy => ⟨y, by rwa [e] at hy, rfl⟩, fun k hk => absurd hk (by omega), fun h => absurd h (by omega), fun y hy _ => by rwa [e], fun _ => ⟨by omega, by omega⟩, fun h => absurd h (by omega)⟩
      · have hcases : ∀ y' ∈ d'.g.offs, y' = cutO x n ∨ (y' ∈ d.g.offs ∧ ¬ y'.id = x.id) := fun y' hy' => by
          rw [hoff] at hy'
          have := set_ids (z := cutO x n) hr.asc hj (by rw [hjx]; rfl) hy'
          rw [hjx] at this
          exact this
        refine ⟨1, by simp, fun y' hy' => ?_, fun k hk => absurd hk (by omega), fun _ y' hy' => ?_, fun y hy hk => ?_, fun h => absurd h (by omega), fun _ => ?_⟩
        · rcases hcases y' hy' with rfl | ⟨q, _⟩
          · exact ⟨x, hsub x (by simp), rfl⟩
          · exact ⟨y', q, rfl⟩
        · rw [show 1 - 1 = 0 from rfl, n1]
          intro e
          rcases hcases y' hy' with rfl | ⟨_, q⟩
          · show ¬ x.amt - n = x.amt; omega
          · exact absurd e q
        · rw [hoff]
          have := hk 0 (by omega)
          rw [n1] at this
          exact mem_setO hy (by rw [hjx]; exact this)
        · rw [show 1 - 1 = 0 from rfl, n1, b5, b6]
          have e1 : d.left - (d.left - c) = c := by omega
          have e2 : d.want - (d.want - n) = n := by omega
          rw [e1, e2]
          simp only [Int.natCast_one, Int.one_mul]
          omega
/-- The two inner loops of OffersPrice, as they compute. -/
def prcI (o : Off) (id i : Int) (l : List Off) (s : Int × Int) : Int × Int := l.foldl (fun s p => if (p.id == id && p.amt != o.amt) = true then (s.1 + 1, i) else s) s
def prcM (g : List Off) (id i : Int) (l : List Off) (s : Bool × Int × Int) : Bool × Int × Int := l.foldl (fun s o => if (o.id == id) = true then (true, prcI o id i g s.2) else s) s
def prcS (g : List Off) (id i : Int) (l : List Off) (s : Int × Int) : Int × Int := if (prcM g id i l (false, s)).1 = true then (prcM g id i l (false, s)).2 else (s.1 + 1, i)
theorem foldl_take {α β : Type} [Inhabited α] (f : β → α → β) (s : β) {l : List α} {k : Nat} (hk : k < l.length) : (l.take (k + 1)).foldl f s = f ((l.take k).foldl f s) (nth l k) := by
  rw [List.take_succ_eq_append_getElem hk, List.foldl_append, ← nth_getElem l k hk]; rfl
theorem foldl_one {α β : Type} [Inhabited α] (f : β → α → β) (s : β) {l : List α} {j : Nat} (hj : j < l.length) (h : ∀ k, k < l.length → ¬ k = j → ∀ s, f s (nth l k) = s) : l.foldl f s = f s (nth l j) := by
  have key : ∀ k, k ≤ l.length → (l.take k).foldl f s = if j < k then f s (nth l j) else s := by
    intro k
    induction k with
    | zero => intro _; rfl
    | succ k ih =>
      intro hk
      rw [foldl_take f s (by omega), ih (by omega)]
      by_cases e : k = j
      · subst e; rw [if_neg (by omega), if_pos (by omega)]
      · rw [h k (by omega) e]
        by_cases q : j < k
        · rw [if_pos q, if_pos (by omega)]
        · rw [if_neg q, if_neg (by omega)]
  have := key l.length (Nat.le_refl _)
  rw [List.take_length, if_pos hj] at this
  exact this
theorem foldl_no {α β : Type} [Inhabited α] (f : β → α → β) (s : β) {l : List α} (h : ∀ x ∈ l, ∀ s, f s x = s) : l.foldl f s = s := by
  induction l generalizing s with
  | nil => rfl
  | cons x r ih => rw [List.foldl_cons, h x (by simp), ih s fun y hy => h y (by simp [hy])]
theorem prcI_eq {g : List Off} (h : (g.map Off.id).Pairwise (· < ·)) {p : Off} (hp : p ∈ g) (o : Off) (i : Int) (s : Int × Int) : prcI o p.id i g s = if p.amt = o.amt then s else (s.1 + 1, i) := by
  obtain ⟨j, hj, rfl⟩ := mem_nth hp
  unfold prcI
  rw [foldl_one _ s hj fun k hk hne s => if_neg (by simp only [Bool.and_eq_true, beq_iff_eq, not_and]; intro e; exact absurd (oid_inj h hk hj e) hne)]
  by_cases e : (nth g j).amt = o.amt
  · rw [if_neg (by simp [e]), if_pos e]
  · rw [if_pos (by simp [e]), if_neg e]
/-- What the loops of OffersPrice find. -/
theorem prcS_eq {g x : List Off} (h : (g.map Off.id).Pairwise (· < ·)) (hx : (x.map Off.id).Pairwise (· < ·)) {p : Off} (hp : p ∈ g) (i : Int) (s : Int × Int) :
    (p ∈ x → prcS g p.id i x s = s) ∧ ((∀ y ∈ x, y.id = p.id → ¬ y.amt = p.amt) → prcS g p.id i x s = (s.1 + 1, i)) := by
  by_cases hy : ∃ y ∈ x, y.id = p.id
  · obtain ⟨y, hy, e⟩ := hy
    obtain ⟨j, hj, rfl⟩ := mem_nth hy
    have hM : prcM g p.id i x (false, s) = (true, if p.amt = (nth x j).amt then s else (s.1 + 1, i)) := by
      unfold prcM
      rw [foldl_one _ (false, s) hj fun k hk hne s => if_neg (by simp only [beq_iff_eq]; intro q; exact hne (oid_inj hx hk hj (q.trans e.symm)))]
      rw [if_pos (by simp [e])]
      dsimp only
      rw [prcI_eq h hp]
    unfold prcS
    rw [hM, if_pos rfl]
    refine ⟨fun hpx => ?_, fun hne => ?_⟩
    · obtain ⟨k, hk, q⟩ := mem_nth hpx
      have : j = k := oid_inj hx hj hk (by rw [q]; exact e)
      subst this
      rw [q]; exact if_pos rfl
    · exact if_neg fun q => hne _ (nth_mem x j hj) e q.symm
  · have hM : prcM g p.id i x (false, s) = (false, s) := by
      unfold prcM
      exact foldl_no _ _ fun z hz s => if_neg (by simp only [beq_iff_eq]; intro q; exact hy ⟨z, hz, q⟩)
    unfold prcS
    rw [hM, if_neg (by simp)]
    exact ⟨fun hpx => absurd ⟨p, hpx, rfl⟩ hy, fun _ => rfl⟩
/-- What the walk of OffersPrice asks: how many offers of the book were used, and what follows. -/
theorem price_law {g : Led} (h : chkO g = 0) {u : ByteArray} {i : Int} {v : ByteArray} {j : Int} {n most : Int} (hu : assetB u i = true) (hv : assetB v j = true) (he : eqT u i v j = false) (n0 : 0 ≤ n) (n1 : n ≤ 255) (m0 : 0 ≤ most) (m1 : most ≤ 5000) :
    ∃ (x : Led) (p c : Int) (m : Nat), crossF g 0 u i v j n most = (x, p, c, 0) ∧ (0 ≤ p ∧ p ≤ n) ∧ (0 ≤ c ∧ c ≤ most) ∧ m ≤ (bookO g u i v j).length ∧ x.offs.length ≤ g.offs.length ∧ x.lins.length = g.lins.length ∧ x.accs.length = g.accs.length ∧
      (∀ k, k < (bookO g u i v j).length → ∀ s, prcS g.offs (nth (bookO g u i v j) k).id k x.offs s = if k < m then (s.1 + 1, (k : Int)) else s) ∧
      (∀ k, k + 1 < m → ∀ y ∈ x.offs, ¬ y.id = (nth (bookO g u i v j) k).id) ∧ (m = 0 → p = 0 ∧ c = 0) ∧
      (0 < m → ∀ y ∈ g.offs, y.id = (nth (bookO g u i v j) (m - 1)).id → (1 ≤ y.num ∧ y.num ≤ 1000000) ∧ (1 ≤ y.den ∧ y.den ≤ 1000000) ∧ c * y.den ≤ p * y.num + m * y.den) := by
  have hr := chkO_zero.1 h
  obtain ⟨_, hs, hm, _⟩ := book_srt hr u i v j
  obtain ⟨hM, hR, w0, w1, l0, l1⟩ := moved_all hr (u := u) (i := i) (v := v) (j := j) (t := 0) n0 m0
  have e : crossF g 0 u i v j n most = ((crossD g 0 u i v j n most).g, n - (crossD g 0 u i v j n most).want, most - (crossD g 0 u i v j n most).left, 0) := by
    unfold crossF
    rw [if_neg (by simp [h]), if_neg (by simp [hu, hv, he]), if_neg (by simp [okA_iff.2 (⟨n0, by omega⟩ : 0 ≤ n ∧ n ≤ 1000000000000), okA_iff.2 (⟨m0, by omega⟩ : 0 ≤ most ∧ most ≤ 1000000000000)])]
  have hpos : ∀ x ∈ bookO g u i v j, PosP x := fun x hx => by
    have := hr.good x ((hm x).1 hx).1
    exact ⟨this.num, this.den⟩
  have hpw : (bookO g u i v j).Pairwise (fun x y => x.num * y.den ≤ y.num * x.den) := by
    unfold SortO at hs
    refine List.Pairwise.imp_of_mem ?_ hs
    intro x y hx hy hb
    rw [betO_iff (hpos x hx) (hpos y hy)] at hb
    omega
  have hz : ∀ x ∈ bookO g u i v j, ¬ x.seller = 0 := fun x hx e => by
    have := hr.good x ((hm x).1 hx).1
    have := found_pos hr.right.accs this.seller
    omega
  have hnd := book_nodup hr u i v j
  obtain ⟨m, hw⟩ := went_all (t := 0) (bookO g u i v j) ⟨g, n, most⟩ hr n0 m0 (fun x hx => ((hm x).1 hx).1) hz hnd hpw
  have hcd : crossL 0 (bookO g u i v j) ⟨g, n, most⟩ = crossD g 0 u i v j n most := rfl
  rw [hcd] at hw
  refine ⟨_, _, _, m, e, by omega, by omega, hw.ml, hM.lo, hM.ll, hM.la, ?_, hw.gone, fun q => ?_, fun q y hy hyi => ?_⟩
  · intro k hk s
    have hk2 := (hm _).1 (nth_mem (bookO g u i v j) k hk)
    obtain ⟨p1, p2⟩ := prcS_eq hr.asc hR.asc hk2.1 (k : Int) s
    by_cases q : k < m
    · rw [if_pos q]
      refine p2 fun y hy hyi => ?_
      by_cases q2 : k + 1 < m
      · exact absurd hyi (hw.gone k q2 y hy)
      · have : k = m - 1 := by omega
        subst this
        exact hw.last (by omega) y hy hyi
    · rw [if_neg q]
      refine p1 (hw.rest _ hk2.1 fun k2 hk2 e2 => ?_)
      have hml := hw.ml
      rw [List.Nodup, List.pairwise_map, List.pairwise_iff_getElem] at hnd
      have := hnd k2 k (by omega) hk (by omega)
      rw [← nth_getElem _ _ (by omega), ← nth_getElem _ _ hk] at this
      exact this e2.symm
  · have := hw.none q
    dsimp only at this
    omega
  · have hml := hw.ml
    have hb := (hm _).1 (nth_mem (bookO g u i v j) (m - 1) (by omega))
    obtain ⟨a, ha, rfl⟩ := mem_nth hy
    obtain ⟨b, hb2, e2⟩ := mem_nth hb.1
    have : a = b := oid_inj hr.asc ha hb2 (by rw [e2]; exact hyi)
    subst this
    have hg := hr.good _ hy
    have hs := hw.some q
    rw [← e2] at hs
    exact ⟨hg.num, hg.den, hs⟩
end Go.Proofs.YteppnjgobaggaaaGreat

/- Plain law of OffersParts, as the walk uses it. No program stands here. -/
namespace Go.Proofs.YteppnjgobaggaaaGreat
set_option linter.unusedSimpArgs false
set_option linter.unusedVariables false
set_option linter.unnecessarySimpa false
set_option linter.unusedSectionVars false
set_option maxRecDepth 100000
open Go Go.RowKit Go.Am Go.Proofs.Grow

theorem cross_cons (t : Int) (x : Off) (r : List Off) (d : Deal) : crossL t (x :: r) d = if x.seller = t then crossL t r d else if (useF d (idxO d.g.offs x.id).toNat).2 = true then crossL t r (useF d (idxO d.g.offs x.id).toNat).1 else (useF d (idxO d.g.offs x.id).toNat).1 := rfl
/-- Rounding up: adding. -/
theorem ceil_add {x : Off} (hd : 1 ≤ x.den) (n m : Int) : ceilP x (n + m) ≤ ceilP x n + ceilP x m ∧ ceilP x n + ceilP x m ≤ ceilP x (n + m) + 1 := by
  have h1 := ceil_bd hd n
  have h2 := ceil_bd hd m
  have h3 := ceil_bd hd (n + m)
  rw [Int.add_mul n m] at h3
  constructor
  · rw [ceil_le hd, Int.add_mul, Int.add_mul]; omega
  · refine Classical.byContradiction fun hq => ?_
    have h4 := Int.mul_le_mul_of_nonneg_right (show ceilP x (n + m) + 2 ≤ ceilP x n + ceilP x m by omega) (show 0 ≤ x.den by omega)
    rw [Int.add_mul, Int.add_mul] at h4
    omega
theorem ceil_mono {x : Off} (hd : 1 ≤ x.den) (hn : 0 ≤ x.num) {n m : Int} (h : n ≤ m) : ceilP x n ≤ ceilP x m := by
  rw [ceil_le hd]
  have h1 := (ceil_bd hd m).1
  have h2 := Int.mul_le_mul_of_nonneg_right h hn
  omega
theorem ceil_up {x : Off} (hd : 1 ≤ x.den) (hn : 0 ≤ x.num) (hn1 : x.num ≤ 1000000) {n : Int} (h : 0 ≤ n) : ceilP x n ≤ n * 1000000 := by
  rw [ceil_le hd]
  have h1 := Int.mul_le_mul_of_nonneg_left hn1 h
  have h2 := Int.mul_le_mul_of_nonneg_left hd (show 0 ≤ n * 1000000 by omega)
  omega
theorem ceil_zero {x : Off} (hd : 1 ≤ x.den) : ceilP x 0 = 0 := (sold_zero ⟨0, [], [], [], 0, 0, 0⟩ x hd).2
/-- A better price asks for no more, for one unit. -/
theorem ceil_price {x y : Off} (hx : 1 ≤ x.den) (hy : 1 ≤ y.den) (h : x.num * y.den ≤ y.num * x.den) : ceilP x 1 ≤ ceilP y 1 := by
  rw [ceil_le hx]
  have h1 := (ceil_bd hy 1).1
  rw [Int.one_mul] at h1 ⊢
  have h2 := Int.mul_le_mul_of_nonneg_right h1 (show 0 ≤ x.den by omega)
  refine Int.le_of_mul_le_mul_right (a := y.den) ?_ (by omega)
  have e : ceilP y 1 * y.den * x.den = ceilP y 1 * x.den * y.den := by rw [Int.mul_assoc, Int.mul_comm y.den, ← Int.mul_assoc]
  omega

section
variable {u v : ByteArray} {i j : Int}
/-- A list is the book of a ledger. -/
structure Bk (u : ByteArray) (i : Int) (v : ByteArray) (j : Int) (g : Led) (l : List Off) : Prop where
  sort : SortO l
  mem : ∀ y, y ∈ l ↔ y ∈ g.offs ∧ pairO u i v j y = true
theorem bk_book {g : Led} (h : RightO g) : Bk u i v j g (bookO g u i v j) := by
  obtain ⟨_, s, m, _⟩ := book_srt h u i v j
  exact ⟨s, m⟩
theorem betO_irr {x : Off} (h : PosP x) : ¬ betO x x = true := by rw [betO_iff h h]; omega
theorem sort_uniq : ∀ {l m : List Off}, (∀ x ∈ l, PosP x) → SortO l → SortO m → (∀ y, y ∈ l ↔ y ∈ m) → l = m
  | [], [], _, _, _, _ => rfl
  | [], y :: s, _, _, _, h => absurd ((h y).2 (by simp)) (by simp)
  | x :: r, [], _, _, _, h => absurd ((h x).1 (by simp)) (by simp)
  | x :: r, y :: s, hp, h1, h2, h => by
    have hp2 : ∀ z ∈ y :: s, PosP z := fun z hz => hp z ((h z).2 hz)
    unfold SortO at h1 h2
    rw [List.pairwise_cons] at h1 h2
    have hx := hp x (by simp)
    have hy := hp2 y (by simp)
    have e : x = y := by
      rcases List.mem_cons.1 ((h x).1 (by simp)) with q | q
      · exact q
      rcases List.mem_cons.1 ((h y).2 (by simp)) with q2 | q2
      · exact q2.symm
      exact absurd (betO_trans hx hy hx (h1.1 y q2) (h2.1 x q)) (betO_irr hx)
    subst e
    have hxr : x ∉ r := fun q => betO_irr hx (h1.1 x q)
    have hxs : x ∉ s := fun q => betO_irr hx (h2.1 x q)
    have er : r = s := sort_uniq (fun z hz => hp z (by simp [hz])) h1.2 h2.2 fun z => by
      constructor
      · intro hz
        rcases List.mem_cons.1 ((h z).1 (by simp [hz])) with q | q
        · subst q; exact absurd hz hxr
        · exact q
      · intro hz
        rcases List.mem_cons.1 ((h z).2 (by simp [hz])) with q | q
        · subst q; exact absurd hz hxs
        · exact q
    rw [er]
theorem Bk.pos {g : Led} {l : List Off} (hr : RightO g) (h : Bk u i v j g l) : ∀ x ∈ l, PosP x := fun x hx => by
  have := hr.good x ((h.mem x).1 hx).1
  exact ⟨this.num, this.den⟩
theorem Bk.eq {g : Led} {l : List Off} (hr : RightO g) (h : Bk u i v j g l) : bookO g u i v j = l :=
  sort_uniq ((bk_book hr).pos hr) (bk_book hr).sort h.sort fun y => by rw [(bk_book hr).mem, h.mem]
theorem Bk.nodup {g : Led} {l : List Off} (hr : RightO g) (h : Bk u i v j g l) : (l.map Off.id).Nodup := by rw [← h.eq hr]; exact book_nodup hr u i v j
theorem Bk.price {g : Led} {x : Off} {r : List Off} (hr : RightO g) (h : Bk u i v j g (x :: r)) : ∀ y ∈ r, ceilP x 1 ≤ ceilP y 1 := fun y hy => by
  have hp := h.pos hr
  have hs := h.sort
  unfold SortO at hs
  rw [List.pairwise_cons] at hs
  have hb := hs.1 y hy
  have px := hp x (by simp)
  have py := hp y (by simp [hy])
  rw [betO_iff px py] at hb
  exact ceil_price px.2.1 py.2.1 (by omega)

/-- A purchase of small amounts: money is no matter. -/
structure Fit (d : Deal) : Prop where
  w0 : 0 ≤ d.want
  w1 : d.want ≤ 118
  l0 : 1000000000000 - (118 - d.want) * 1000000 ≤ d.left
  l1 : d.left ≤ 1000000000000
theorem Fit.use {d : Deal} (h : Fit d) {x : Off} (hp : priceB x.num x.den = true) : useN d x = min2 d.want (ablP d.g x) := by
  have hp2 := price_iff.1 hp
  have f0 := h.w0
  have f1 := h.w1
  have f2 := h.l0
  have hw : d.want ≤ withinF x d.left := by
    unfold withinF
    rw [if_pos hp]
    have hq : d.want ≤ d.left * x.den / x.num := by
      rw [le_quo hp2.1.1]
      have h1 : d.want * x.num ≤ 118 * 1000000 := Int.mul_le_mul f1 hp2.1.2 (by omega) (by omega)
      have h2 : d.left * 1 ≤ d.left * x.den := Int.mul_le_mul_of_nonneg_left hp2.2.1 (by omega)
      omega
    have := min2_le 1000000000000 (d.left * x.den / x.num)
    omega
  have b1 := min2_le (min2 d.want (ablP d.g x)) (withinF x d.left)
  have b2 := min2_le d.want (ablP d.g x)
  unfold useN
  omega
/-- How much can be had. -/
theorem abl_le {g : Led} (h : RightG g) {x : Off} (hp : priceB x.num x.den = true) (ha : x.amt ≤ 1000000000000) {k : Int} (k1 : 1 ≤ k) : k ≤ ablP g x ↔ k ≤ x.amt ∧ k ≤ (lookF g x.seller x.sc x.si).1 ∧ ceilP x k ≤ (lookF g x.seller x.bc x.bi).2.1 := by
  obtain ⟨e1, _⟩ := held_look h x.seller x.sc x.si
  obtain ⟨_, e2⟩ := held_look h x.seller x.bc x.bi
  have hp2 := price_iff.1 hp
  have hc := ceil_le (x := x) hp2.2.1 (n := k) (m := (lookF g x.seller x.bc x.bi).2.1)
  rw [← le_quo (m := (lookF g x.seller x.bc x.bi).2.1) hp2.1.1] at hc
  unfold ablP withinF
  rw [e1, e2, if_pos hp, hc]
  generalize (lookF g x.seller x.bc x.bi).2.1 * x.den / x.num = q
  generalize (lookF g x.seller x.sc x.si).1 = hh
  have b1 := max2_ge 0 (min2 (min2 x.amt hh) (min2 1000000000000 q))
  have b2 := min2_le (min2 x.amt hh) (min2 1000000000000 q)
  have b3 := min2_le x.amt hh
  have b4 := min2_le 1000000000000 q
  constructor
  · intro hk; refine ⟨by omega, by omega, by omega⟩
  · intro hk; omega
theorem look_iss {g : Led} (h : RightG g) {s : Int} {w : ByteArray} {k : Int} (hf : (findA g.accs s).2 = true) (ha : assetB w k = true) (e : k = s) : (lookF g s w k).1 = 1000000000000 ∧ (lookF g s w k).2.1 = 1000000000000 := by
  rcases look_cases h hf ha with ⟨_, q, _⟩ | ⟨_, _, _, e2⟩ | ⟨_, q, _⟩ | ⟨_, q, _⟩
  · exact absurd e q
  · rw [e2]; exact ⟨rfl, rfl⟩
  · exact absurd e q
  · exact absurd e q
theorem use_ex {d : Deal} (hr : RightO d.g) {k : Nat} (hk : k < d.g.offs.length) (w0 : 0 ≤ d.want) (l0 : 0 ≤ d.left) {x : Off} (hx : nth d.g.offs k = x) {n : Int} (hn : useN d x = n) :
    useF d k = if 0 < ablP (soldG d.g x n) (cutO x n) then (⟨{ soldG d.g x n with offs := d.g.offs.set k (cutO x n) }, d.want - n, d.left - ceilP x n⟩, false) else (⟨{ soldG d.g x n with offs := d.g.offs.eraseIdx k }, d.want - n, d.left - ceilP x n⟩, true) := by
  obtain ⟨e, hs⟩ := use1_eq hr hk w0 l0
  rw [hx, hn] at e
  have hat : nth (d.g.offs.set k (cutO x n)) k = cutO x n := by rw [nth_set _ _ _ _ hk, if_pos rfl]
  have ea : ablP (use1 d k).g (nth (use1 d k).g.offs k) = ablP (soldG d.g x n) (cutO x n) := by rw [e]; dsimp only; rw [hat, ablP_offs]
  unfold useF
  rw [ea]
  split
  · rw [e]
  · rw [e]; dsimp only; rw [List.eraseIdx_set_eq]
theorem sold_look {g : Led} (h : RightG g) {x : Off} (hx : GoodO g.accs x) {n : Int} (n0 : 0 ≤ n) (hn : n ≤ ablP g x) (s : Int) :
    (lookF (soldG g x n) s x.sc x.si).1 = (if s = x.seller ∧ ¬ x.si = s then (lookF g s x.sc x.si).1 - n else (lookF g s x.sc x.si).1) ∧
    (lookF (soldG g x n) s x.bc x.bi).2.1 = (if s = x.seller ∧ ¬ x.bi = s then (lookF g s x.bc x.bi).2.1 - ceilP x n else (lookF g s x.bc x.bi).2.1) := by
  by_cases hz : n = 0
  · subst hz
    obtain ⟨z1, z2⟩ := sold_zero g x hx.den.1
    rw [z1, z2]
    constructor
    · split <;> omega
    · split <;> omega
  · have hs := sold_spec h hx (by omega) hn
    have hne := ne_pair hx.two
    by_cases e : s = x.seller
    · subst e
      constructor
      · by_cases q : x.si = x.seller
        · rw [if_neg (fun z => z.2 q), hs.sell0 q]
        · rw [if_pos ⟨rfl, q⟩, hs.sell q (by omega)]
      · by_cases q : x.bi = x.seller
        · rw [if_neg (fun z => z.2 q), hs.buy0 q]
        · rw [if_pos ⟨rfl, q⟩, hs.buy q (by omega)]
    · rw [if_neg (fun z => e z.1), if_neg (fun z => e z.1), hs.other s x.sc x.si (fun q => e q.1) (fun q => e q.1), hs.other s x.bc x.bi (fun q => e q.1) (fun q => e q.1)]
      exact ⟨rfl, rfl⟩
theorem sold_right {g : Led} (h : RightG g) {x : Off} (hx : GoodO g.accs x) {n : Int} (n0 : 0 ≤ n) (hn : n ≤ ablP g x) : RightG (soldG g x n) := by
  by_cases hz : n = 0
  · subst hz
    rw [(sold_zero g x hx.den.1).1]; exact h
  · exact (sold_spec h hx (by omega) hn).right
/-- Who has bought all that can be had can have no more. -/
theorem sold_full {g : Led} (h : RightG g) {x : Off} (hx : GoodO g.accs x) (n1 : ablP g x ≤ 118) : ablP (soldG g x (ablP g x)) (cutO x (ablP g x)) = 0 := by
  have n0 := able_nonneg g x
  have hR := sold_right h hx n0 (Int.le_refl _)
  obtain ⟨l1, l2⟩ := sold_look h hx n0 (Int.le_refl _) x.seller
  have hp2 := price_iff.1 hx.price
  have ha := hx.amt
  have key := abl_le h hx.price ha.2 (k := ablP g x + 1) (by omega)
  generalize ablP g x = n at *
  have hz := able_nonneg (soldG g x n) (cutO x n)
  refine Classical.byContradiction fun hq => ?_
  obtain ⟨q1, q2, q3⟩ := (abl_le hR (x := cutO x n) hx.price (by show x.amt - n ≤ _; omega) (k := 1) (by omega)).1 (by omega)
  have q1 : 1 ≤ x.amt - n := q1
  have q2 : 1 ≤ (lookF (soldG g x n) x.seller x.sc x.si).1 := q2
  have q3 : ceilP x 1 ≤ (lookF (soldG g x n) x.seller x.bc x.bi).2.1 := q3
  have hc := (ceil_add hp2.2.1 n 1).1
  have hu := ceil_up hp2.2.1 (by omega) hp2.1.2 (n := n + 1) (by omega)
  have := key.2 ⟨by omega, ?_, ?_⟩
  · omega
  · by_cases q : x.si = x.seller
    · rw [(look_iss h hx.seller hx.sell q).1]; omega
    · rw [if_pos ⟨rfl, q⟩] at l1; omega
  · by_cases q : x.bi = x.seller
    · rw [(look_iss h hx.seller hx.buy q).2]; omega
    · rw [if_pos ⟨rfl, q⟩] at l2; omega

theorem bk_erase {g g' : Led} {x : Off} {r : List Off} (hr : RightO g) (h : Bk u i v j g (x :: r)) {k : Nat} (hk : k < g.offs.length) (hx : nth g.offs k = x) (e : g'.offs = g.offs.eraseIdx k) : Bk u i v j g' r := by
  have hp := h.pos hr
  have hs := h.sort
  unfold SortO at hs
  rw [List.pairwise_cons] at hs
  refine ⟨hs.2, fun y => ?_⟩
  rw [e]
  constructor
  · intro hy
    obtain ⟨h1, h2⟩ := (h.mem y).1 (by simp [hy])
    refine ⟨mem_erase h1 (fun q => ?_), h2⟩
    obtain ⟨a, ha, rfl⟩ := mem_nth h1
    have := oid_inj hr.asc ha hk q
    subst this
    rw [hx] at hy
    exact betO_irr (hp x (by simp)) (hs.1 x hy)
  · rintro ⟨h1, h2⟩
    obtain ⟨h3, h4⟩ := erase_ids hr.asc hk h1
    rcases List.mem_cons.1 ((h.mem y).2 ⟨h3, h2⟩) with q | q
    · exact absurd (by rw [q, hx]) h4
    · exact q
theorem bk_set {g g' : Led} {x : Off} {r : List Off} (hr : RightO g) (h : Bk u i v j g (x :: r)) {k : Nat} (hk : k < g.offs.length) (hx : nth g.offs k = x) {n : Int} (e : g'.offs = g.offs.set k (cutO x n)) : Bk u i v j g' (cutO x n :: r) := by
  have hp := h.pos hr
  have hs := h.sort
  unfold SortO at hs
  rw [List.pairwise_cons] at hs
  have hxm := (h.mem x).1 (by simp)
  refine ⟨?_, fun y => ?_⟩
  · unfold SortO
    rw [List.pairwise_cons]
    exact ⟨fun y hy => hs.1 y hy, hs.2⟩
  rw [e]
  constructor
  · intro hy
    rcases List.mem_cons.1 hy with rfl | hy
    · refine ⟨?_, hxm.2⟩
      have := nth_mem (g.offs.set k (cutO x n)) k (by simpa using hk)
      rwa [nth_set _ _ _ _ hk, if_pos rfl] at this
    · obtain ⟨h1, h2⟩ := (h.mem y).1 (by simp [hy])
      refine ⟨mem_setO h1 (fun q => ?_), h2⟩
      obtain ⟨a, ha, rfl⟩ := mem_nth h1
      have := oid_inj hr.asc ha hk q
      subst this
      rw [hx] at hy
      exact betO_irr (hp x (by simp)) (hs.1 x hy)
  · rintro ⟨h1, h2⟩
    rcases set_ids hr.asc hk (z := cutO x n) (by rw [hx]; rfl) h1 with q | ⟨h3, h4⟩
    · rw [q]; simp
    · rcases List.mem_cons.1 ((h.mem y).2 ⟨h3, h2⟩) with q | q
      · exact absurd (by rw [q, hx]) h4
      · simp [q]
/-- One step along the book. -/
structure Stp (u : ByteArray) (i : Int) (v : ByteArray) (j : Int) (d : Deal) (x : Off) (r : List Off) (n : Int) (d' : Deal) (more : Bool) : Prop where
  n0 : 0 ≤ n
  na : n ≤ ablP d.g x
  want : d'.want = d.want - n
  left : d'.left = d.left - ceilP x n
  right : RightO d'.g
  fit : Fit d'
  bk : Bk u i v j d'.g (if more = true then r else cutO x n :: r)
  H : ∀ s, (lookF d'.g s u i).1 = if s = x.seller ∧ ¬ i = s then (lookF d.g s u i).1 - n else (lookF d.g s u i).1
  R : ∀ s, (lookF d'.g s v j).2.1 = if s = x.seller ∧ ¬ j = s then (lookF d.g s v j).2.1 - ceilP x n else (lookF d.g s v j).2.1
  eq : crossL 0 (x :: r) d = if more = true then crossL 0 r d' else d'
  stop : more = false → 0 < ablP d'.g (cutO x n)
  gone : more = true → ablP d'.g (cutO x n) = 0
  full : n = ablP d.g x → more = true
  led : d'.g = { soldG d.g x n with offs := if more = true then d.g.offs.eraseIdx (idxO d.g.offs x.id).toNat else d.g.offs.set (idxO d.g.offs x.id).toNat (cutO x n) }
theorem stp_ex {d : Deal} {x : Off} {r : List Off} (hr : RightO d.g) (hf : Fit d) (hb : Bk u i v j d.g (x :: r)) {n : Int} (hn : n = min2 d.want (ablP d.g x)) : ∃ d' more, Stp u i v j d x r n d' more := by
  obtain ⟨hxm, hxp⟩ := (hb.mem x).1 (by simp)
  obtain ⟨e1, e2, e3, e4⟩ := pair_eq hxp
  obtain ⟨k, hk, hkx⟩ := mem_nth hxm
  have hg := hr.good x hxm
  have ek := idxO_at hr.asc hk
  rw [hkx] at ek
  have ekn : (idxO d.g.offs x.id).toNat = k := by rw [ek]; simp
  have f0 := hf.w0
  have f1 := hf.w1
  have f2 := hf.l0
  have f3 := hf.l1
  have hl0 : 0 ≤ d.left := by omega
  have hu := hf.use hg.price
  rw [← hn] at hu
  have ex := use_ex hr hk f0 hl0 hkx hu
  obtain ⟨g', hus⟩ := use_spec hr hk f0 hl0
  rw [hkx, hu] at hus
  have b1 := hus.n0
  have b2 := hus.nw
  have ba := hus.na
  have hc0 := hus.c0
  have hup := ceil_up hg.den.1 (by have := hg.num; omega) hg.num.2 b1
  have hR := hus.right
  have hz : ¬ x.seller = 0 := by have := found_pos hr.right.accs hg.seller; omega
  have hcr := cross_cons 0 x r d
  rw [if_neg hz, ekn, ex] at hcr
  rw [ex] at hR
  have hlk := sold_look hr.right hg b1 ba
  rw [e1, e2, e3, e4] at hlk
  have hful : n = ablP d.g x → ablP (soldG d.g x n) (cutO x n) = 0 := fun q => by
    have := sold_full hr.right hg (by omega)
    rwa [← q] at this
  by_cases h0 : 0 < ablP (soldG d.g x n) (cutO x n)
  · rw [if_pos h0] at hcr hR
    refine ⟨⟨{ soldG d.g x n with offs := d.g.offs.set k (cutO x n) }, d.want - n, d.left - ceilP x n⟩, false, b1, ba, rfl, rfl, hR, ⟨by dsimp only; omega, by dsimp only; omega, by dsimp only; omega, by dsimp only; omega⟩, bk_set hr hb hk hkx rfl, fun s => (hlk s).1, fun s => (hlk s).2, hcr, fun _ => h0, fun q => (by cases q), fun q => absurd (hful q) (by omega), by rw [ekn]; rfl⟩
  · rw [if_neg h0] at hcr hR
    have hq := able_nonneg (soldG d.g x n) (cutO x n)
    refine ⟨⟨{ soldG d.g x n with offs := d.g.offs.eraseIdx k }, d.want - n, d.left - ceilP x n⟩, true, b1, ba, rfl, rfl, hR, ⟨by dsimp only; omega, by dsimp only; omega, by dsimp only; omega, by dsimp only; omega⟩, bk_erase hr hb hk hkx rfl, fun s => (hlk s).1, fun s => (hlk s).2, hcr, fun q => (by cases q), fun _ => (by show ablP (soldG d.g x n) (cutO x n) = 0; omega), fun _ => rfl, by rw [ekn]; rfl⟩
end
end Go.Proofs.YteppnjgobaggaaaGreat

/- Plain law of OffersParts, its second half. No program stands here. -/
namespace Go.Proofs.YteppnjgobaggaaaGreat
set_option linter.unusedSimpArgs false
set_option linter.unusedVariables false
set_option linter.unnecessarySimpa false
set_option linter.unusedSectionVars false
set_option maxRecDepth 100000
open Go Go.RowKit Go.Am Go.Proofs.Grow

/-- What is kept while a purchase at once and one in two parts go along the book: the parts want e more, and have paid D more. -/
structure Jd (e D P : Int) : Prop where
  e0 : 0 ≤ e
  z : e = 0 → 0 ≤ D
  s : 1 ≤ e → 1 - P ≤ D
theorem ceil_one {x : Off} (hd : 1 ≤ x.den) (hn : 1 ≤ x.num) : 1 ≤ ceilP x 1 := by
  have h1 := (ceil_bd hd 1).1
  refine Classical.byContradiction fun hq => ?_
  have := Int.mul_le_mul_of_nonneg_right (show ceilP x 1 ≤ 0 by omega) (show 0 ≤ x.den by omega)
  omega
theorem step_num {x : Off} (hd : 1 ≤ x.den) (hn : 1 ≤ x.num) {amt wB e D HA HB RA RB aA aB xA xB P : Int} (hA : ∀ k, 1 ≤ k → (k ≤ aA ↔ k ≤ amt ∧ k ≤ HA ∧ ceilP x k ≤ RA)) (hB : ∀ k, 1 ≤ k → (k ≤ aB ↔ k ≤ amt ∧ k ≤ HB ∧ ceilP x k ≤ RB))
    (a0 : 0 ≤ aA) (b0 : 0 ≤ aB) (w0 : 0 ≤ wB) (hJ : Jd e D P) (hP : P ≤ ceilP x 1) (hxA : xA = min2 (wB + e) aA) (hxB : xB = min2 wB aB) (hH1 : HB ≤ HA) (hH2 : HA ≤ HB + e) (hR : RB = RA + D ∨ RB = RA) :
    Jd (e + xB - xA) (D + ceilP x xA - ceilP x xB) (ceilP x 1) := by
  have mA := min2_le (wB + e) aA
  have mB := min2_le wB aB
  rw [← hxA] at mA
  rw [← hxB] at mB
  obtain ⟨j0, j1, j2⟩ := hJ
  have c1 := ceil_one hd hn
  have xA0 : 0 ≤ xA := by omega
  have xB0 : 0 ≤ xB := by omega
  have F1 : xA ≤ xB + e := by
    refine Classical.byContradiction fun hq => ?_
    have hk : ¬ xB + 1 ≤ aB := by omega
    have hka := (hA xA (by omega)).1 mA.2.1
    have hkb := fun z => hk ((hB (xB + 1) (by omega)).2 z)
    have m1 := ceil_mono hd (show 0 ≤ x.num by omega) (n := xB + 1) (m := xA) (by omega)
    have h1 : RB < ceilP x (xB + 1) := by
      refine Classical.byContradiction fun z => hkb ⟨by omega, by omega, by omega⟩
    rcases hR with hR | hR
    · by_cases hD : 0 ≤ D
      · omega
      · by_cases he : 1 ≤ e
        · have j3 := j2 he
          have m2 := ceil_mono hd (show 0 ≤ x.num by omega) (n := xB + 1 + 1) (m := xA) (by omega)
          have m3 := (ceil_add hd (xB + 1) 1).2
          omega
        · exact hD (j1 (by omega))
    · omega
  have up : xB < xA → ceilP x xB + ceilP x 1 - 1 ≤ ceilP x xA := fun h => by
    have m2 := ceil_mono hd (show 0 ≤ x.num by omega) (n := xB + 1) (m := xA) (by omega)
    have m3 := (ceil_add hd xB 1).2
    omega
  refine ⟨by omega, fun hz => ?_, fun hs => ?_⟩
  · by_cases he : 1 ≤ e
    · have j3 := j2 he
      have := up (by omega)
      omega
    · have e1 : xA = xB := by omega
      have := j1 (by omega)
      rw [e1]; omega
  · rcases Int.lt_trichotomy xA xB with q | q | q
    · have hk : ¬ xA + 1 ≤ aA := by omega
      have hkb := (hB xB (by omega)).1 mB.2.1
      have h1 : RA < ceilP x (xA + 1) := by
        refine Classical.byContradiction fun z => hk ((hA (xA + 1) (by omega)).2 ⟨by omega, by omega, by omega⟩)
      rcases hR with hR | hR
      · have m3 := (ceil_add hd xA 1).1
        omega
      · have m2 := ceil_mono hd (show 0 ≤ x.num by omega) (n := xA + 1) (m := xB) (by omega)
        omega
    · have j3 := j2 (by omega)
      rw [q]; omega
    · have j3 := j2 (by omega)
      have := up q
      omega
theorem first_num {x : Off} (hd : 1 ≤ x.den) (hn : 1 ≤ x.num) (hn1 : x.num ≤ 1000000) {amt a m H R HA RA aA aB a' b : Int} (hB : ∀ k, 1 ≤ k → (k ≤ aB ↔ k ≤ amt ∧ k ≤ H ∧ ceilP x k ≤ R)) (hA : ∀ k, 1 ≤ k → (k ≤ aA ↔ k ≤ amt - a ∧ k ≤ HA ∧ ceilP x k ≤ RA))
    (a0 : 0 ≤ a) (ha : a ≤ aB) (m0 : 0 ≤ m) (hm : a + m ≤ 118) (A0 : 0 ≤ aA) (ha' : a' = min2 m aA) (hb : b = min2 (a + m) aB) (hH : HA = H - a ∨ (HA = H ∧ H = 1000000000000)) (hR : RA = R - ceilP x a ∨ (RA = R ∧ R = 1000000000000)) :
    Jd (b - a - a') (ceilP x a + ceilP x a' - ceilP x b) (ceilP x 1) := by
  have mA := min2_le m aA
  have mB := min2_le (a + m) aB
  rw [← ha'] at mA
  rw [← hb] at mB
  have c1 := ceil_one hd hn
  have a'0 : 0 ≤ a' := by omega
  have F1 : a + a' ≤ b := by
    by_cases hz : 1 ≤ a'
    · have h1 := (hA a' hz).1 mA.2.1
      have h2 := (ceil_add hd a a').1
      have h3 := ceil_up hd (show 0 ≤ x.num by omega) hn1 (n := a + a') (by omega)
      have h4 := (hB (a + a') (by omega)).2 ⟨by omega, by omega, by omega⟩
      omega
    · omega
  refine ⟨by omega, fun hz => ?_, fun hs => ?_⟩
  · have e : b = a + a' := by omega
    have h2 := (ceil_add hd a a').1
    rw [e]; omega
  · have hk : ¬ a' + 1 ≤ aA := by omega
    have hkb := (hB b (by omega)).1 mB.2.1
    have m2 := ceil_mono hd (show 0 ≤ x.num by omega) (n := a' + 1) (m := b) (by omega)
    have h1 : RA < ceilP x (a' + 1) := by
      refine Classical.byContradiction fun z => hk ((hA (a' + 1) (by omega)).2 ⟨by omega, by omega, by omega⟩)
    have m3 := (ceil_add hd a' 1).1
    rcases hR with hR | hR
    · omega
    · omega

section
variable {u v : ByteArray} {i j : Int}
/-- How the ledgers of both purchases differ: at one seller alone. -/
structure Rel (u : ByteArray) (i : Int) (v : ByteArray) (j : Int) (gA gB : Led) (σ e D : Int) : Prop where
  oth : ∀ s, ¬ s = σ → (lookF gA s u i).1 = (lookF gB s u i).1 ∧ (lookF gA s v j).2.1 = (lookF gB s v j).2.1
  h1 : ¬ i = σ → (lookF gA σ u i).1 = (lookF gB σ u i).1 + e
  h2 : i = σ → (lookF gA σ u i).1 = (lookF gB σ u i).1
  r1 : ¬ j = σ → (lookF gB σ v j).2.1 = (lookF gA σ v j).2.1 + D
  r2 : j = σ → (lookF gA σ v j).2.1 = (lookF gB σ v j).2.1
theorem abl_bk {g : Led} {l : List Off} {x : Off} (hr : RightO g) (hb : Bk u i v j g l) (hx : x ∈ l) : ∀ k, 1 ≤ k → (k ≤ ablP g x ↔ k ≤ x.amt ∧ k ≤ (lookF g x.seller u i).1 ∧ ceilP x k ≤ (lookF g x.seller v j).2.1) := fun k hk => by
  obtain ⟨h1, h2⟩ := (hb.mem x).1 hx
  obtain ⟨e1, e2, e3, e4⟩ := pair_eq h2
  have hg := hr.good x h1
  have := abl_le hr.right hg.price hg.amt.2 hk
  rwa [e1, e2, e3, e4] at this
theorem both {dA dB : Deal} {x : Off} {r : List Off} {σ e D P : Int} (hrA : RightO dA.g) (hrB : RightO dB.g) (bA : Bk u i v j dA.g (x :: r)) (bB : Bk u i v j dB.g (x :: r)) (hRel : Rel u i v j dA.g dB.g σ e D) (hJ : Jd e D P) (hP : P ≤ ceilP x 1)
    {xA xB : Int} (hxA : xA = min2 (dB.want + e) (ablP dA.g x)) (hxB : xB = min2 dB.want (ablP dB.g x)) (w0 : 0 ≤ dB.want) {dA' dB' : Deal} {mA mB : Bool} (sA : Stp u i v j dA x r xA dA' mA) (sB : Stp u i v j dB x r xB dB' mB) :
    Jd (e + xB - xA) (D + ceilP x xA - ceilP x xB) (ceilP x 1) ∧ (xB < dB.want → xB = ablP dB.g x ∧ xA = ablP dA.g x ∧ Rel u i v j dA'.g dB'.g σ (e + xB - xA) (D + ceilP x xA - ceilP x xB)) := by
  have kA := abl_bk hrA bA (x := x) (by simp)
  have kB := abl_bk hrB bB (x := x) (by simp)
  have hg := hrA.good x ((bA.mem x).1 (by simp)).1
  have nA := able_nonneg dA.g x
  have nB := able_nonneg dB.g x
  have q1 := min2_le (dB.want + e) (ablP dA.g x)
  have q2 := min2_le dB.want (ablP dB.g x)
  rw [← hxA] at q1
  rw [← hxB] at q2
  obtain ⟨o, h1, h2, r1, r2⟩ := hRel
  have e0 := hJ.e0
  by_cases hs : x.seller = σ
  · subst hs
    have hJ' := step_num hg.den.1 hg.num.1 kA kB nA nB w0 hJ hP hxA hxB (by by_cases q : i = x.seller; (have := h2 q; omega); (have := h1 q; omega)) (by by_cases q : i = x.seller; (have := h2 q; omega); (have := h1 q; omega))
      (by by_cases q : j = x.seller; exact .inr (r2 q).symm; exact .inl (r1 q))
    refine ⟨hJ', fun hlt => ?_⟩
    have z := hJ'.e0
    refine ⟨by omega, by omega, fun s hsn => ?_, fun q => ?_, fun q => ?_, fun q => ?_, fun q => ?_⟩
    · rw [sA.H, sB.H, sA.R, sB.R, if_neg (fun z => hsn z.1), if_neg (fun z => hsn z.1), if_neg (fun z => hsn z.1), if_neg (fun z => hsn z.1)]
      exact o s hsn
    · rw [sA.H, sB.H, if_pos ⟨rfl, q⟩, if_pos ⟨rfl, q⟩, h1 q]; omega
    · rw [sA.H, sB.H, if_neg (fun z => z.2 q), if_neg (fun z => z.2 q), h2 q]
    · rw [sA.R, sB.R, if_pos ⟨rfl, q⟩, if_pos ⟨rfl, q⟩, r1 q]; omega
    · rw [sA.R, sB.R, if_neg (fun z => z.2 q), if_neg (fun z => z.2 q), r2 q]
  · obtain ⟨o1, o2⟩ := o x.seller hs
    have hJ' := step_num hg.den.1 hg.num.1 kA kB nA nB w0 hJ hP hxA hxB (by omega) (by omega) (.inr o2.symm)
    refine ⟨hJ', fun hlt => ?_⟩
    have z := hJ'.e0
    have ea : ablP dA.g x = ablP dB.g x := by
      have t1 := fun h => (kB (ablP dA.g x) h).2
      have t2 := fun h => (kA (ablP dA.g x) h).1
      have t3 := fun h => (kA (ablP dB.g x) h).2
      have t4 := fun h => (kB (ablP dB.g x) h).1
      rw [o1, o2] at t2 t3
      have s1 : ablP dA.g x ≤ ablP dB.g x := by
        by_cases q : 1 ≤ ablP dA.g x
        · exact t1 q (t2 q (Int.le_refl _))
        · omega
      have s2 : ablP dB.g x ≤ ablP dA.g x := by
        by_cases q : 1 ≤ ablP dB.g x
        · exact t3 q (t4 q (Int.le_refl _))
        · omega
      omega
    have ex : xA = xB := by omega
    have e1 : e + xB - xA = e := by omega
    have e2 : D + ceilP x xA - ceilP x xB = D := by rw [ex]; omega
    rw [e1, e2]
    have hs' : ∀ {p : Prop}, ¬ (σ = x.seller ∧ p) := fun z => hs z.1.symm
    refine ⟨by omega, by omega, fun s hsn => ?_, fun q => ?_, fun q => ?_, fun q => ?_, fun q => ?_⟩
    · obtain ⟨p1, p2⟩ := o s hsn
      rw [sA.H, sB.H, sA.R, sB.R, p1, p2, ex]
      exact ⟨rfl, rfl⟩
    · rw [sA.H, sB.H, if_neg hs', if_neg hs', h1 q]
    · rw [sA.H, sB.H, if_neg hs', if_neg hs', h2 q]
    · rw [sA.R, sB.R, if_neg hs', if_neg hs', r1 q]
    · rw [sA.R, sB.R, if_neg hs', if_neg hs', r2 q]
theorem Fit.left0 {d : Deal} (h : Fit d) : 0 ≤ d.left := by have := h.w0; have := h.l0; omega
theorem bzero {l : List Off} {d : Deal} (hr : RightO d.g) (hf : Fit d) (hb : Bk u i v j d.g l) (hz : d.want = 0) : (crossL 0 l d).want = 0 ∧ (crossL 0 l d).left = d.left := by
  refine (cross_ind (t := 0) (fun _ => True) (fun d' => d'.want = 0 ∧ d'.left = d.left) ?_ l d hr hf.w0 hf.left0 (fun x hx => ((hb.mem x).1 hx).1) (fun _ _ => trivial) (hb.nodup hr) ⟨hz, rfl⟩).1
  rintro d1 x k n c g' d' more hr1 hk hx _ _ w0 l0 ⟨p1, p2⟩ hu
  have b1 := hu.n0
  have b2 := hu.nw
  have hg := hr1.good x (hx ▸ nth_mem _ k hk)
  have e : n = 0 := by omega
  have hc := hu.ce
  rw [e, ceil_zero hg.den.1] at hc
  rw [hu.want, hu.left]
  omega
theorem bfin {d d' : Deal} {x : Off} {r : List Off} {n : Int} {more : Bool} (s : Stp u i v j d x r n d' more) (hz : d'.want = 0) : (crossL 0 (x :: r) d).want = 0 ∧ (crossL 0 (x :: r) d).left = d'.left := by
  rw [s.eq]
  cases more with
  | true => exact bzero s.right s.fit s.bk hz
  | false => exact ⟨hz, rfl⟩
theorem jz {l : List Off} {dA : Deal} {D P : Int} (hr : RightO dA.g) (hf : Fit dA) (hb : Bk u i v j dA.g l) (hJ : Jd dA.want D P) (hP : ∀ x ∈ l, P ≤ ceilP x 1) :
    0 ≤ (crossL 0 l dA).want ∧ ((crossL 0 l dA).want = 0 → 0 ≤ D + (dA.left - (crossL 0 l dA).left)) := by
  obtain ⟨⟨h1, h2, h3⟩, _, h5, _⟩ := cross_ind (t := 0) (fun x => P ≤ ceilP x 1) (fun d => (d.want < dA.want → P ≤ dA.left - d.left) ∧ d.left ≤ dA.left ∧ d.want ≤ dA.want) (by
    rintro d1 x k n c g' d' more hr1 hk hx hQ _ w0 l0 ⟨p1, p2, p3⟩ hu
    have b1 := hu.n0
    have b2 := hu.nw
    have hg := hr1.good x (hx ▸ nth_mem _ k hk)
    have hc := hu.ce
    have hc0 := hu.c0
    rw [hu.want, hu.left]
    refine ⟨fun hlt => ?_, by omega, by omega⟩
    by_cases e : n = 0
    · rw [e, ceil_zero hg.den.1] at hc
      have := p1 (by omega)
      omega
    · have := ceil_mono hg.den.1 (by have := hg.num; omega) (n := 1) (m := n) (by omega)
      omega) l dA hr hf.w0 hf.left0 (fun x hx => ((hb.mem x).1 hx).1) hP (hb.nodup hr) ⟨fun h => absurd h (by omega), by omega, by omega⟩
  obtain ⟨j0, j1, j2⟩ := hJ
  refine ⟨h5, fun hz => ?_⟩
  by_cases q : dA.want = 0
  · have := j1 q; omega
  · have := j2 (by omega)
    have := h1 (by omega)
    omega
abbrev mx12 : Int := 1000000000000
theorem fit_m {g : Led} {m : Int} (m0 : 0 ≤ m) (m1 : m ≤ 118) : Fit ⟨g, m, mx12⟩ := ⟨m0, m1, by simp only [mx12]; omega, Int.le_refl _⟩
theorem pz {l : List Off} {dA : Deal} {m D P : Int} (hr : RightO dA.g) (hf : Fit dA) (hb : Bk u i v j dA.g l) (hz : dA.want = 0) (m1 : m ≤ 118) (hJ : Jd m D P) (hP : ∀ x ∈ l, P ≤ ceilP x 1) :
    0 ≤ (crossL 0 (bookO (crossL 0 l dA).g u i v j) ⟨(crossL 0 l dA).g, m, mx12⟩).want ∧
    ((crossL 0 (bookO (crossL 0 l dA).g u i v j) ⟨(crossL 0 l dA).g, m, mx12⟩).want = 0 → 0 ≤ D + (dA.left - (crossL 0 l dA).left) + (mx12 - (crossL 0 (bookO (crossL 0 l dA).g u i v j) ⟨(crossL 0 l dA).g, m, mx12⟩).left)) := by
  obtain ⟨z1, z2⟩ := bzero hr hf hb hz
  obtain ⟨h1, h2, _⟩ := cross_ind (t := 0) (fun x => pairO u i v j x = true) (fun d => ∀ y ∈ d.g.offs, pairO u i v j y = true → P ≤ ceilP y 1) (by
    intro d1 x k n c g' d' more hr1 hk hx hQ _ w0 l0 hP1 hu
    have hxm : x ∈ d1.g.offs := hx ▸ nth_mem _ k hk
    intro y hy hyp
    cases more with
    | true =>
      rw [(hu.gone rfl).1] at hy
      exact hP1 y (List.mem_of_mem_eraseIdx hy) hyp
    | false =>
      rw [(hu.stop rfl).1] at hy
      rcases List.mem_or_eq_of_mem_set hy with q | q
      · exact hP1 y q hyp
      · rw [q]; exact hP1 x hxm hQ) l dA hr hf.w0 hf.left0 (fun x hx => ((hb.mem x).1 hx).1) (fun x hx => ((hb.mem x).1 hx).2) (hb.nodup hr) (fun y hy hp => hP y ((hb.mem y).2 ⟨hy, hp⟩))
  generalize crossL 0 l dA = A1 at *
  have hb2 : Bk u i v j A1.g (bookO A1.g u i v j) := bk_book h2
  have := jz (dA := ⟨A1.g, m, mx12⟩) (D := D) (P := P) h2 (fit_m hJ.e0 m1) hb2 hJ (fun x hx => h1 x ((hb2.mem x).1 hx).1 ((hb2.mem x).1 hx).2)
  refine ⟨this.1, fun q => ?_⟩
  have := this.2 q
  dsimp only at this ⊢
  omega
theorem j2 {σ : Int} : ∀ (l : List Off) (dA dB : Deal) (e D P : Int), RightO dA.g → RightO dB.g → Fit dA → Fit dB → Bk u i v j dA.g l → Bk u i v j dB.g l → dA.want = dB.want + e → 0 < dB.want → Jd e D P → (∀ x ∈ l, P ≤ ceilP x 1) → Rel u i v j dA.g dB.g σ e D →
    0 ≤ (crossL 0 l dA).want - (crossL 0 l dB).want ∧ ((crossL 0 l dA).want = (crossL 0 l dB).want → 0 ≤ D + (dA.left - (crossL 0 l dA).left) - (dB.left - (crossL 0 l dB).left)) := by
  intro l
  induction l with
  | nil =>
    intro dA dB e D P _ _ _ _ _ _ hw hpos hJ _ _
    obtain ⟨q0, q1, _⟩ := hJ
    show 0 ≤ dA.want - dB.want ∧ (dA.want = dB.want → 0 ≤ D + (dA.left - dA.left) - (dB.left - dB.left))
    refine ⟨by omega, fun h => ?_⟩
    have := q1 (by omega)
    omega
  | cons x r ih =>
    intro dA dB e D P hrA hrB hfA hfB bA bB hw hpos hJ hP hRel
    obtain ⟨dA', mA, sA⟩ := stp_ex hrA hfA bA rfl
    obtain ⟨dB', mB, sB⟩ := stp_ex hrB hfB bB rfl
    have hxA : min2 dA.want (ablP dA.g x) = min2 (dB.want + e) (ablP dA.g x) := by rw [hw]
    obtain ⟨hJ', hgo⟩ := both hrA hrB bA bB hRel hJ (hP x (by simp)) hxA rfl (by omega) sA sB
    have q2 := min2_le dB.want (ablP dB.g x)
    have wA := sA.want
    have lA := sA.left
    have wB := sB.want
    have lB := sB.left
    have fA := sA.full
    have fB := sB.full
    generalize min2 dA.want (ablP dA.g x) = xA at *
    generalize min2 dB.want (ablP dB.g x) = xB at *
    have hPr := bA.price hrA
    by_cases hlt : xB < dB.want
    · obtain ⟨g1, g2, g3⟩ := hgo hlt
      obtain rfl := fA g2
      obtain rfl := fB g1
      have := ih dA' dB' _ _ _ sA.right sB.right sA.fit sB.fit sA.bk sB.bk (by omega) (by omega) hJ' hPr g3
      rw [sA.eq, sB.eq]
      simp only [if_true]
      refine ⟨this.1, fun h => ?_⟩
      have := this.2 h
      omega
    · obtain ⟨z1, z2⟩ := bfin sB (by omega)
      rw [z1, z2, sA.eq]
      have hJ2 : Jd dA'.want (D + ceilP x xA - ceilP x xB) (ceilP x 1) := by
        have e1 : dA'.want = e + xB - xA := by omega
        rw [e1]; exact hJ'
      cases mA with
      | true =>
        simp only [if_true]
        obtain ⟨t1, t2⟩ := jz (l := r) sA.right sA.fit sA.bk hJ2 hPr
        refine ⟨by omega, fun h => ?_⟩
        have := t2 (by omega)
        omega
      | false =>
        simp only [Bool.false_eq_true, if_false]
        obtain ⟨p0, p1, _⟩ := hJ2
        refine ⟨by omega, fun h => ?_⟩
        have := p1 h
        omega
theorem cut_zero (x : Off) : cutO x 0 = x := by unfold cutO; rw [Int.sub_zero]
theorem p3 {σ m : Int} (m1 : m ≤ 118) : ∀ (l : List Off) (dA dB : Deal) (e D P : Int), RightO dA.g → RightO dB.g → Fit dA → Fit dB → Bk u i v j dA.g l → Bk u i v j dB.g l → dA.want = 0 → m = dB.want + e → 0 < dB.want → Jd e D P → (∀ x ∈ l, P ≤ ceilP x 1) → Rel u i v j dA.g dB.g σ e D →
    0 ≤ (crossL 0 (bookO (crossL 0 l dA).g u i v j) ⟨(crossL 0 l dA).g, m, mx12⟩).want - (crossL 0 l dB).want ∧
    ((crossL 0 (bookO (crossL 0 l dA).g u i v j) ⟨(crossL 0 l dA).g, m, mx12⟩).want = (crossL 0 l dB).want → 0 ≤ D + (dA.left - (crossL 0 l dA).left) + (mx12 - (crossL 0 (bookO (crossL 0 l dA).g u i v j) ⟨(crossL 0 l dA).g, m, mx12⟩).left) - (dB.left - (crossL 0 l dB).left)) := by
  intro l
  induction l with
  | nil =>
    intro dA dB e D P hrA _ _ _ bA _ hz hm hpos hJ _ _
    have e0 : (crossL 0 [] dA) = dA := rfl
    have e1 : (crossL 0 [] dB) = dB := rfl
    rw [e0, e1, bA.eq hrA]
    show 0 ≤ m - dB.want ∧ (m = dB.want → 0 ≤ D + (dA.left - dA.left) + (mx12 - mx12) - (dB.left - dB.left))
    obtain ⟨q0, q1, _⟩ := hJ
    refine ⟨by omega, fun h => ?_⟩
    have := q1 (by omega)
    omega
  | cons x r ih =>
    intro dA dB e D P hrA hrB hfA hfB bA bB hz hm hpos hJ hP hRel
    have hg := hrA.good x ((bA.mem x).1 (by simp)).1
    have nA := able_nonneg dA.g x
    have hn0 : (0 : Int) = min2 dA.want (ablP dA.g x) := by have := min2_le dA.want (ablP dA.g x); omega
    obtain ⟨dA', mA, sA⟩ := stp_ex hrA hfA bA hn0
    have wA := sA.want
    have lA := sA.left
    have cz := ceil_zero (x := x) hg.den.1
    rw [cz] at lA
    cases mA with
    | false =>
      have hb := sA.bk
      simp only [Bool.false_eq_true, if_false, cut_zero] at hb
      have he := sA.eq
      simp only [Bool.false_eq_true, if_false] at he
      rw [he, hb.eq sA.right]
      have hR2 : Rel u i v j dA'.g dB.g σ e D := by
        have k1 : ∀ s, (lookF dA'.g s u i).1 = (lookF dA.g s u i).1 := fun s => by rw [sA.H]; split <;> omega
        have k2 : ∀ s, (lookF dA'.g s v j).2.1 = (lookF dA.g s v j).2.1 := fun s => by rw [sA.R, cz]; split <;> omega
        obtain ⟨o, h1, h2, r1, r2⟩ := hRel
        exact ⟨fun s hs => by rw [k1, k2]; exact o s hs, fun q => by rw [k1]; exact h1 q, fun q => by rw [k1]; exact h2 q, fun q => by rw [k2]; exact r1 q, fun q => by rw [k2]; exact r2 q⟩
      have := j2 (x :: r) ⟨dA'.g, m, mx12⟩ dB e D P sA.right hrB (fit_m (by have := hJ.e0; omega) m1) hfB hb bB hm hpos hJ hP hR2
      refine ⟨this.1, fun h => ?_⟩
      have := this.2 h
      dsimp only at this
      omega
    | true =>
      have he := sA.eq
      simp only [if_true] at he
      have ea : ablP dA.g x = 0 := by
        have := sA.gone rfl
        rw [sA.led] at this
        have h2 : ablP (soldG dA.g x 0) (cutO x 0) = 0 := this
        rwa [(sold_zero dA.g x hg.den.1).1, cut_zero] at h2
      obtain ⟨dB', mB, sB⟩ := stp_ex hrB hfB bB rfl
      have e0 := hJ.e0
      have hxA : (0 : Int) = min2 (dB.want + e) (ablP dA.g x) := by have := min2_le (dB.want + e) (ablP dA.g x); omega
      obtain ⟨hJ', hgo⟩ := both hrA hrB bA bB hRel hJ (hP x (by simp)) hxA rfl (by omega) sA sB
      have q2 := min2_le dB.want (ablP dB.g x)
      have wB := sB.want
      have lB := sB.left
      have fB := sB.full
      generalize min2 dB.want (ablP dB.g x) = xB at *
      have hPr := bA.price hrA
      rw [cz] at hJ' hgo
      rw [he]
      by_cases hlt : xB < dB.want
      · obtain ⟨g1, g2, g3⟩ := hgo hlt
        obtain rfl := fB g1
        have heB := sB.eq
        simp only [if_true] at heB
        rw [heB]
        have := ih dA' dB' _ _ _ sA.right sB.right sA.fit sB.fit sA.bk sB.bk (by omega) (by omega) (by omega) hJ' hPr g3
        refine ⟨this.1, fun h => ?_⟩
        have := this.2 h
        omega
      · obtain ⟨z1, z2⟩ := bfin sB (by omega)
        rw [z1, z2]
        have hJ2 : Jd m (D + 0 - ceilP x xB) (ceilP x 1) := by
          have e1 : m = e + xB - 0 := by omega
          rw [e1]; exact hJ'
        obtain ⟨t1, t2⟩ := pz (l := r) sA.right sA.fit sA.bk (by omega) m1 hJ2 hPr
        refine ⟨by omega, fun h => ?_⟩
        have := t2 (by omega)
        omega
theorem parts_ind {m : Int} (m0 : 0 ≤ m) : ∀ (l : List Off) (dA dB : Deal), RightO dA.g → dB.g = dA.g → Fit dA → Fit dB → Bk u i v j dA.g l → dB.want = dA.want + m →
    (0 < (crossL 0 l dA).want → bookO (crossL 0 l dA).g u i v j = [] ∧ (crossL 0 l dB).want = (crossL 0 l dA).want + m ∧ dA.left - (crossL 0 l dA).left = dB.left - (crossL 0 l dB).left) ∧
    ((crossL 0 l dA).want = 0 → 0 ≤ (crossL 0 (bookO (crossL 0 l dA).g u i v j) ⟨(crossL 0 l dA).g, m, mx12⟩).want - (crossL 0 l dB).want ∧
      ((crossL 0 (bookO (crossL 0 l dA).g u i v j) ⟨(crossL 0 l dA).g, m, mx12⟩).want = (crossL 0 l dB).want → 0 ≤ (dA.left - (crossL 0 l dA).left) + (mx12 - (crossL 0 (bookO (crossL 0 l dA).g u i v j) ⟨(crossL 0 l dA).g, m, mx12⟩).left) - (dB.left - (crossL 0 l dB).left))) := by
  intro l
  induction l with
  | nil =>
    intro dA dB hrA hg hfA hfB bA hw
    have e0 : (crossL 0 [] dA) = dA := rfl
    have e1 : (crossL 0 [] dB) = dB := rfl
    rw [e0, e1, bA.eq hrA]
    show (0 < dA.want → ([] : List Off) = [] ∧ dB.want = dA.want + m ∧ dA.left - dA.left = dB.left - dB.left) ∧ (dA.want = 0 → 0 ≤ m - dB.want ∧ (m = dB.want → 0 ≤ (dA.left - dA.left) + (mx12 - mx12) - (dB.left - dB.left)))
    exact ⟨fun _ => ⟨rfl, by omega, by omega⟩, fun _ => ⟨by omega, fun _ => by omega⟩⟩
  | cons x r ih =>
    intro dA dB hrA hg hfA hfB bA hw
    have hgx := hrA.good x ((bA.mem x).1 (by simp)).1
    have hrB : RightO dB.g := by rw [hg]; exact hrA
    have bB : Bk u i v j dB.g (x :: r) := by rw [hg]; exact bA
    obtain ⟨dA', mA, sA⟩ := stp_ex hrA hfA bA rfl
    obtain ⟨dB', mB, sB⟩ := stp_ex hrB hfB bB rfl
    have q1 := min2_le dA.want (ablP dA.g x)
    have q2 := min2_le dB.want (ablP dB.g x)
    have kB := abl_bk hrA bA (x := x) (by simp)
    have nA := able_nonneg dA.g x
    have hPr := bA.price hrA
    have wA := sA.want
    have lA := sA.left
    have wB := sB.want
    have lB := sB.left
    have fA := sA.full
    have fB := sB.full
    have a0 := sA.n0
    have hbm : min2 dB.want (ablP dB.g x) = min2 (dA.want + m) (ablP dA.g x) := by rw [hw, hg]
    generalize hA : min2 dA.want (ablP dA.g x) = a at *
    generalize hB : min2 dB.want (ablP dB.g x) = b at *
    rw [hg] at q2 fB
    have w1 := hfB.w1
    by_cases hlt : ablP dA.g x < dA.want
    · have e1 : a = ablP dA.g x := by omega
      have e2 : b = ablP dA.g x := by omega
      obtain rfl := fA e1
      obtain rfl := fB e2
      have eab : b = a := by omega
      rw [eab] at sB lB wB
      have hg' : dB'.g = dA'.g := by rw [sA.led, sB.led, hg]
      have := ih dA' dB' sA.right hg' sA.fit sB.fit sA.bk (by omega)
      have heA := sA.eq
      have heB := sB.eq
      simp only [if_true] at heA heB
      rw [heA, heB]
      refine ⟨fun h => ?_, fun h => ?_⟩
      · obtain ⟨t1, t2, t3⟩ := this.1 h
        exact ⟨t1, t2, by omega⟩
      · obtain ⟨t1, t2⟩ := this.2 h
        refine ⟨t1, fun h2 => ?_⟩
        have := t2 h2
        omega
    · have ea : a = dA.want := by omega
      have hzA : dA'.want = 0 := by omega
      -- the seller's entries, behind the first part
      have hH : (lookF dA'.g x.seller u i).1 = (lookF dA.g x.seller u i).1 - a ∨ ((lookF dA'.g x.seller u i).1 = (lookF dA.g x.seller u i).1 ∧ (lookF dA.g x.seller u i).1 = 1000000000000) := by
        obtain ⟨p1, p2, _⟩ := pair_eq ((bA.mem x).1 (by simp)).2
        by_cases q : i = x.seller
        · right
          rw [sA.H, if_neg (fun z => z.2 q)]
          have := (look_iss hrA.right hgx.seller hgx.sell (by rw [p2]; exact q)).1
          rw [p1, p2] at this
          exact ⟨rfl, this⟩
        · left; rw [sA.H, if_pos ⟨rfl, q⟩]
      have hR : (lookF dA'.g x.seller v j).2.1 = (lookF dA.g x.seller v j).2.1 - ceilP x a ∨ ((lookF dA'.g x.seller v j).2.1 = (lookF dA.g x.seller v j).2.1 ∧ (lookF dA.g x.seller v j).2.1 = 1000000000000) := by
        obtain ⟨_, _, p1, p2⟩ := pair_eq ((bA.mem x).1 (by simp)).2
        by_cases q : j = x.seller
        · right
          rw [sA.R, if_neg (fun z => z.2 q)]
          have := (look_iss hrA.right hgx.seller hgx.buy (by rw [p2]; exact q)).2
          rw [p1, p2] at this
          exact ⟨rfl, this⟩
        · left; rw [sA.R, if_pos ⟨rfl, q⟩]
      have hRel : ∀ (gC : Led) (a' : Int), (∀ s, (lookF gC s u i).1 = if s = x.seller ∧ ¬ i = s then (lookF dA'.g s u i).1 - a' else (lookF dA'.g s u i).1) → (∀ s, (lookF gC s v j).2.1 = if s = x.seller ∧ ¬ j = s then (lookF dA'.g s v j).2.1 - ceilP x a' else (lookF dA'.g s v j).2.1) →
          Rel u i v j gC dB'.g x.seller (b - a - a') (ceilP x a + ceilP x a' - ceilP x b) := by
        intro gC a' hCH hCR
        refine ⟨fun s hs => ?_, fun q => ?_, fun q => ?_, fun q => ?_, fun q => ?_⟩
        · rw [hCH, hCR, sA.H, sA.R, sB.H, sB.R, hg, if_neg (fun z => hs z.1), if_neg (fun z => hs z.1), if_neg (fun z => hs z.1), if_neg (fun z => hs z.1), if_neg (fun z => hs z.1), if_neg (fun z => hs z.1)]
          exact ⟨rfl, rfl⟩
        · rw [hCH, sA.H, sB.H, hg, if_pos ⟨rfl, q⟩, if_pos ⟨rfl, q⟩, if_pos ⟨rfl, q⟩]; omega
        · rw [hCH, sA.H, sB.H, hg, if_neg (fun z => z.2 q), if_neg (fun z => z.2 q), if_neg (fun z => z.2 q)]
        · rw [hCR, sA.R, sB.R, hg, if_pos ⟨rfl, q⟩, if_pos ⟨rfl, q⟩, if_pos ⟨rfl, q⟩]; omega
        · rw [hCR, sA.R, sB.R, hg, if_neg (fun z => z.2 q), if_neg (fun z => z.2 q), if_neg (fun z => z.2 q)]
      have hbm2 : b = min2 (a + m) (ablP dA.g x) := by rw [ea]; exact hbm
      cases mA with
      | false =>
        have hb := sA.bk
        simp only [Bool.false_eq_true, if_false] at hb
        have heA := sA.eq
        simp only [Bool.false_eq_true, if_false] at heA
        rw [heA, hb.eq sA.right]
        refine ⟨fun h => absurd h (by omega), fun _ => ?_⟩
        have hf2 : Fit ⟨dA'.g, m, mx12⟩ := fit_m m0 (by have := hfA.w0; omega)
        obtain ⟨d2, m2, s2⟩ := stp_ex (d := ⟨dA'.g, m, mx12⟩) sA.right hf2 hb rfl
        have kA := abl_bk sA.right hb (x := cutO x a) (by simp)
        have nC := able_nonneg dA'.g (cutO x a)
        have w2 := s2.want
        have l2 := s2.left
        have f2 := s2.full
        have hq := min2_le m (ablP dA'.g (cutO x a))
        dsimp only at w2 l2 f2 s2
        generalize hA2 : min2 m (ablP dA'.g (cutO x a)) = a' at *
        have hJ := first_num hgx.den.1 hgx.num.1 hgx.num.2 kB kA a0 (by omega) m0 (by omega) nC hA2.symm hbm2 hH hR
        have hRl := hRel d2.g a' s2.H s2.R
        have l2 : d2.left = mx12 - ceilP x a' := l2
        have e0 := hJ.e0
        by_cases hltB : b < dB.want
        · obtain rfl := fB (by omega)
          obtain rfl := f2 (by omega)
          have heB := sB.eq
          have he2 := s2.eq
          simp only [if_true] at heB he2
          rw [heB, he2]
          have := j2 r d2 dB' _ _ _ s2.right sB.right s2.fit sB.fit s2.bk sB.bk (by omega) (by omega) hJ hPr hRl
          refine ⟨this.1, fun h => ?_⟩
          have := this.2 h
          omega
        · obtain ⟨z1, z2⟩ := bfin sB (by omega)
          rw [z1, z2, s2.eq]
          have hJ2 : Jd d2.want (ceilP x a + ceilP x a' - ceilP x b) (ceilP x 1) := by
            have e1 : d2.want = b - a - a' := by omega
            rw [e1]; exact hJ
          cases m2 with
          | true =>
            simp only [if_true]
            obtain ⟨t1, t2⟩ := jz (l := r) s2.right s2.fit s2.bk hJ2 hPr
            refine ⟨by omega, fun h => ?_⟩
            have := t2 (by omega)
            omega
          | false =>
            simp only [Bool.false_eq_true, if_false]
            obtain ⟨p0, p1, _⟩ := hJ2
            refine ⟨by omega, fun h => ?_⟩
            have := p1 (by omega)
            omega
      | true =>
        have heA := sA.eq
        simp only [if_true] at heA
        have hgone := sA.gone rfl
        rw [heA]
        obtain ⟨z1, z2⟩ := bzero (l := r) sA.right sA.fit sA.bk hzA
        refine ⟨fun h => absurd h (by omega), fun _ => ?_⟩
        have cz := ceil_zero (x := x) hgx.den.1
        have kA : ∀ k, 1 ≤ k → (k ≤ (0 : Int) ↔ k ≤ x.amt - a ∧ k ≤ (lookF dA'.g x.seller u i).1 ∧ ceilP x k ≤ (lookF dA'.g x.seller v j).2.1) := fun k hk => by
          obtain ⟨e1, e2, e3, e4⟩ := pair_eq ((bA.mem x).1 (by simp)).2
          have := abl_le sA.right.right (x := cutO x a) hgx.price (by have := hgx.amt; show x.amt - a ≤ _; omega) hk
          rw [hgone] at this
          have h2 : k ≤ 0 ↔ k ≤ x.amt - a ∧ k ≤ (lookF dA'.g x.seller x.sc x.si).1 ∧ ceilP x k ≤ (lookF dA'.g x.seller x.bc x.bi).2.1 := this
          rwa [e1, e2, e3, e4] at h2
        have hz0 : (0 : Int) = min2 m 0 := by have := min2_le m 0; omega
        have hJ := first_num hgx.den.1 hgx.num.1 hgx.num.2 kB kA a0 (by omega) m0 (by omega) (Int.le_refl 0) hz0 hbm2 hH hR
        have hRl := hRel dA'.g 0 (fun s => by split <;> omega) (fun s => by rw [cz]; split <;> omega)
        rw [cz] at hJ hRl
        have m1 : m ≤ 118 := by have := hfA.w0; omega
        by_cases hltB : b < dB.want
        · obtain rfl := fB (by omega)
          have heB := sB.eq
          simp only [if_true] at heB
          rw [heB]
          have := p3 m1 r dA' dB' _ _ _ sA.right sB.right sA.fit sB.fit sA.bk sB.bk hzA (by omega) (by omega) hJ hPr hRl
          refine ⟨this.1, fun h => ?_⟩
          have := this.2 h
          omega
        · obtain ⟨y1, y2⟩ := bfin sB (by omega)
          rw [y1, y2]
          have hJ2 : Jd m (ceilP x a + 0 - ceilP x b) (ceilP x 1) := by
            have e1 : m = b - a - 0 := by omega
            rw [e1]; exact hJ
          obtain ⟨t1, t2⟩ := pz (l := r) sA.right sA.fit sA.bk hzA m1 hJ2 hPr
          refine ⟨by omega, fun h => ?_⟩
          have := t2 (by omega)
          omega
end
/-- What the walk of OffersParts asks. -/
theorem parts_law {g : Led} (h : chkO g = 0) {u : ByteArray} {i : Int} {v : ByteArray} {j : Int} {n m : Int} (hu : assetB u i = true) (hv : assetB v j = true) (he : eqT u i v j = false) (n0 : 0 ≤ n) (n1 : n ≤ 59) (m0 : 0 ≤ m) (m1 : m ≤ 59) :
    ∃ (x : Led) (p c : Int) (y : Led) (q d : Int) (z : Led) (r k : Int), crossF g 0 u i v j n mx12 = (x, p, c, 0) ∧ crossF x 0 u i v j m mx12 = (y, q, d, 0) ∧ crossF g 0 u i v j (n + m) mx12 = (z, r, k, 0) ∧
      x.offs.length ≤ g.offs.length ∧ x.lins.length = g.lins.length ∧ x.accs.length = g.accs.length ∧ (0 ≤ p ∧ p ≤ n) ∧ (0 ≤ q ∧ q ≤ m) ∧ (0 ≤ r ∧ r ≤ n + m) ∧ (0 ≤ c ∧ c ≤ mx12) ∧ (0 ≤ d ∧ d ≤ mx12) ∧ (0 ≤ k ∧ k ≤ mx12) ∧
      (p < n → q = 0 ∧ r = p ∧ k = c) ∧ (¬ p < n → r = p + q → k ≤ c + d) := by
  have hr := chkO_zero.1 h
  have key : ∀ (g : Led) (w : Int), RightO g → 0 ≤ w → w ≤ 118 → crossF g 0 u i v j w mx12 = ((crossD g 0 u i v j w mx12).g, w - (crossD g 0 u i v j w mx12).want, mx12 - (crossD g 0 u i v j w mx12).left, 0) := fun g w hr w0 w1 => by
    unfold crossF
    rw [if_neg (by simp [chkO_zero.2 hr]), if_neg (by simp [hu, hv, he]), if_neg (by simp [okA_iff.2 (⟨w0, by omega⟩ : 0 ≤ w ∧ w ≤ 1000000000000), okA_iff.2 (⟨by decide, by decide⟩ : 0 ≤ mx12 ∧ mx12 ≤ 1000000000000)])]
  obtain ⟨hM, hR, w0, w1, l0, l1⟩ := moved_all hr (u := u) (i := i) (v := v) (j := j) (n := n) (most := mx12) (t := 0) n0 (by decide)
  obtain ⟨_, hR2, w2, w3, l2, l3⟩ := moved_all hR (u := u) (i := i) (v := v) (j := j) (n := m) (most := mx12) (t := 0) m0 (by decide)
  obtain ⟨_, hR3, w4, w5, l4, l5⟩ := moved_all hr (u := u) (i := i) (v := v) (j := j) (n := n + m) (most := mx12) (t := 0) (by omega) (by decide)
  have hp := parts_ind (u := u) (i := i) (v := v) (j := j) m0 (bookO g u i v j) ⟨g, n, mx12⟩ ⟨g, n + m, mx12⟩ hr rfl (fit_m n0 (by omega)) (fit_m (by omega) (by omega)) (bk_book hr) rfl
  refine ⟨_, _, _, _, _, _, _, _, _, key g n hr n0 (by omega), key _ m hR m0 (by omega), key g (n + m) hr (by omega) (by omega), hM.lo, hM.ll, hM.la, by omega, by omega, by omega, by omega, by omega, by omega, fun hlt => ?_, fun hge hrq => ?_⟩
  · have e1 : crossL 0 (bookO g u i v j) ⟨g, n, mx12⟩ = crossD g 0 u i v j n mx12 := rfl
    have e2 : crossL 0 (bookO g u i v j) ⟨g, n + m, mx12⟩ = crossD g 0 u i v j (n + m) mx12 := rfl
    rw [e1, e2] at hp
    obtain ⟨t1, t2, t3⟩ := hp.1 (by omega)
    have e3 : crossD (crossD g 0 u i v j n mx12).g 0 u i v j m mx12 = ⟨(crossD g 0 u i v j n mx12).g, m, mx12⟩ := by
      show crossL 0 (bookO (crossD g 0 u i v j n mx12).g u i v j) _ = _
      rw [t1]; rfl
    rw [e3]
    dsimp only at t3 ⊢
    exact ⟨by omega, by omega, by omega⟩
  · have e1 : crossL 0 (bookO g u i v j) ⟨g, n, mx12⟩ = crossD g 0 u i v j n mx12 := rfl
    have e2 : crossL 0 (bookO g u i v j) ⟨g, n + m, mx12⟩ = crossD g 0 u i v j (n + m) mx12 := rfl
    rw [e1, e2] at hp
    have hz : (crossD g 0 u i v j n mx12).want = 0 := by omega
    obtain ⟨t1, t2⟩ := hp.2 hz
    have e3 : crossL 0 (bookO (crossD g 0 u i v j n mx12).g u i v j) ⟨(crossD g 0 u i v j n mx12).g, m, mx12⟩ = crossD (crossD g 0 u i v j n mx12).g 0 u i v j m mx12 := rfl
    rw [e3] at t1 t2
    have := t2 (by omega)
    dsimp only at this
    omega
end Go.Proofs.YteppnjgobaggaaaGreat
