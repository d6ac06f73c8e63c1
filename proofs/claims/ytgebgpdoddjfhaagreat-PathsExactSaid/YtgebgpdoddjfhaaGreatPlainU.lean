/- Plain laws of OffersBook, OffersAble and OffersAdd, as the walks use them. No program stands here. -/
import Derived.Test.YtgebgpdoddjfhaaGreatPlainS
import Derived.Test.YtgebgpdoddjfhaaGreatPlainQ
import Derived.Test.YtgebgpdoddjfhaaGreatPlainP
namespace Go.Proofs.YtgebgpdoddjfhaaGreat
set_option linter.unusedSimpArgs false
set_option linter.unusedVariables false
set_option linter.unnecessarySimpa false
set_option linter.unusedSectionVars false
set_option maxRecDepth 100000
open Go Go.RowKit Go.Am Go.Proofs.Grow

def off0 : Off := ⟨0, 0, ⟨#[]⟩, 0, ⟨#[]⟩, 0, 0, 0, 0⟩
/-- The last offer of a list that has a number. -/
def ownF (i : Int) (l : List Off) : Off := l.foldl (fun d x => if x.id = i then x else d) off0
theorem own_take {i : Int} {l : List Off} {k : Nat} (hk : k < l.length) : ownF i (l.take (k + 1)) = if (nth l k).id = i then nth l k else ownF i (l.take k) := by
  unfold ownF
  rw [List.take_succ_eq_append_getElem hk, List.foldl_append, ← nth_getElem l k hk]; rfl
theorem own_all {l : List Off} (h : (l.map Off.id).Pairwise (· < ·)) {x : Off} (hx : x ∈ l) : ownF x.id l = x := by
  obtain ⟨j, hj, rfl⟩ := mem_nth hx
  have key : ∀ k, k ≤ l.length → ownF (nth l j).id (l.take k) = if j < k then nth l j else off0 := by
    intro k
    induction k with
    | zero => intro _; rfl
    | succ k ih =>
      intro hk
      rw [own_take (by omega), ih (by omega)]
      by_cases e : (nth l k).id = (nth l j).id
      · have := oid_inj h (by omega) hj e
        subst this
        rw [if_pos rfl, if_pos (by omega)]
      · rw [if_neg e]
        have : ¬ k = j := fun q => e (by rw [q])
        by_cases q : j < k
        · rw [if_pos q, if_pos (by omega)]
        · rw [if_neg q, if_neg (by omega)]
  have := key l.length (Nat.le_refl _)
  rw [List.take_length, if_pos hj] at this
  exact this
theorem cnt_take {p : Off → Bool} {l : List Off} {k : Nat} (hk : k < l.length) : ((l.take (k + 1)).filter p).length = ((l.take k).filter p).length + (if p (nth l k) = true then 1 else 0) := by
  rw [List.take_succ_eq_append_getElem hk, List.filter_append, List.length_append, ← nth_getElem l k hk]
  cases h : p (nth l k) <;> simp [h]
theorem cnt_le {p : Off → Bool} {l : List Off} {k : Nat} : ((l.take k).filter p).length ≤ l.length := Nat.le_trans (List.length_filter_le _ _) (by simp; omega)
/-- What the walk of OffersBook asks of two neighbours. -/
theorem book_next {g : Led} (h : RightO g) (u : ByteArray) (i : Int) (v : ByteArray) (j : Int) {k : Nat} (hk : k < (bookO g u i v j).length) :
    (nth (bookO g u i v j) k ∈ g.offs ∧ eqT (nth (bookO g u i v j) k).sc (nth (bookO g u i v j) k).si u i = true ∧ eqT (nth (bookO g u i v j) k).bc (nth (bookO g u i v j) k).bi v j = true) ∧
    (0 < k → decide (cmpP (nth (bookO g u i v j) (k - 1)).num (nth (bookO g u i v j) (k - 1)).den (nth (bookO g u i v j) k).num (nth (bookO g u i v j) k).den > 0) = false ∧
      (cmpP (nth (bookO g u i v j) (k - 1)).num (nth (bookO g u i v j) (k - 1)).den (nth (bookO g u i v j) k).num (nth (bookO g u i v j) k).den = 0 → (nth (bookO g u i v j) (k - 1)).id < (nth (bookO g u i v j) k).id)) := by
  obtain ⟨_, hs, hm, _⟩ := book_srt h u i v j
  have h1 := (hm _).1 (nth_mem _ k hk)
  refine ⟨⟨h1.1, ?_⟩, fun h0 => ?_⟩
  · have := h1.2
    simpa [pairO] using this
  · unfold SortO at hs
    rw [List.pairwise_iff_getElem] at hs
    have := hs (k - 1) k (by omega) hk (by omega)
    rw [← nth_getElem _ _ (by omega), ← nth_getElem _ _ hk] at this
    unfold betO at this
    simp only [Bool.or_eq_true, Bool.and_eq_true, decide_eq_true_eq, beq_iff_eq] at this
    exact ⟨by simp only [decide_eq_false_iff_not]; omega, fun e => by omega⟩

/-- What the walk of OffersAble asks. -/
theorem able_law {g : Led} (h : chkO g = 0) {x : Off} (hx : x ∈ g.offs) :
    ∃ (n c d f : Int), ableF g x = n ∧ costF x n = (c, 0) ∧ costF x (n + 1) = (d, f) ∧ (0 ≤ n ∧ n ≤ 1000000000000) ∧ n ≤ x.amt ∧ n ≤ heldF g x.seller x.sc x.si ∧ c ≤ roomF g x.seller x.bc x.bi ∧
      ¬ (n < x.amt ∧ n < heldF g x.seller x.sc x.si ∧ f = 0 ∧ d ≤ roomF g x.seller x.bc x.bi) := by
  have hr := chkO_zero.1 h
  have hg := hr.good x hx
  have hh := (held_look hr.right x.seller x.sc x.si).1
  have hm := (held_look hr.right x.seller x.bc x.bi).2
  have b1 := look_bd hr.right hg.seller hg.sell
  have b2 := look_bd hr.right hg.seller hg.buy
  have hp2 := price_iff.1 hg.price
  have hn : ableF g x = ablP g x := by rw [able_eqP, if_pos h]
  have hW := within_nonneg (x := x) hg.price (m := roomF g x.seller x.bc x.bi) (by omega)
  have q1 := max2_ge 0 (min2 (min2 x.amt (heldF g x.seller x.sc x.si)) (withinF x (roomF g x.seller x.bc x.bi)))
  have q2 := min2_le (min2 x.amt (heldF g x.seller x.sc x.si)) (withinF x (roomF g x.seller x.bc x.bi))
  have q3 := min2_le x.amt (heldF g x.seller x.sc x.si)
  have hw : withinF x (roomF g x.seller x.bc x.bi) = min2 1000000000000 (roomF g x.seller x.bc x.bi * x.den / x.num) := by unfold withinF; rw [if_pos hg.price]
  have q4 := min2_le 1000000000000 (roomF g x.seller x.bc x.bi * x.den / x.num)
  have hamt := hg.amt
  have e : ablP g x = max2 0 (min2 (min2 x.amt (heldF g x.seller x.sc x.si)) (withinF x (roomF g x.seller x.bc x.bi))) := rfl
  rw [← e] at q1
  generalize hA : ablP g x = n at *
  obtain ⟨w1, w2⟩ := within_le hg.price (m := roomF g x.seller x.bc x.bi) (n := n) (by omega)
  refine ⟨n, ceilP x n, (costF x (n + 1)).1, (costF x (n + 1)).2, hn, cost_eq hg (by omega) w1 (by omega), rfl, by omega, by omega, by omega, w2, ?_⟩
  rintro ⟨r1, r2, r3, r4⟩
  have hw2 : n = roomF g x.seller x.bc x.bi * x.den / x.num := by omega
  have hlt : roomF g x.seller x.bc x.bi < ceilP x (n + 1) := by
    have h1 : ¬ ceilP x (n + 1) ≤ roomF g x.seller x.bc x.bi := by
      rw [ceil_le hp2.2.1, ← le_quo (m := roomF g x.seller x.bc x.bi) hp2.1.1]; omega
    omega
  have hc : (costF x (n + 1)).2 = 0 → (costF x (n + 1)).1 = ceilP x (n + 1) := by
    unfold costF upF scaleF ceilP
    have e1 : (okA (n + 1) && priceB x.num x.den) = true := by rw [hg.price, okA_iff.2 (by omega)]; rfl
    rw [if_pos e1]
    unfold allA
    simp only [List.all_cons, List.all_nil, Bool.and_true]
    split
    · intro _; rfl
    · intro q; exact absurd q (by decide)
  rw [hc r3] at r4
  omega
theorem eqT_ff {u v : ByteArray} {i j : Int} (h : ¬ (u = v ∧ i = j)) : eqT u i v j = false := by
  rw [Bool.eq_false_iff]; intro q; exact h (eqT_iff.1 q)
/-- What the walk of OffersAdd asks. -/
theorem add_law {g : Led} (h : chkO g = 0) (h5 : g.offs.length ≤ 5) {a : Int} {u : ByteArray} {i : Int} {v : ByteArray} {j n p q : Int} (hf : (findA g.accs a).2 = true) :
    ∃ (x : Led) (k e : Int), addO g a u i v j n p q = (x, k, e) ∧ ((¬ e = 0 ∧ ¬ e = 74 ∧ ¬ e = 67) ∨
      (e = 0 ∧ chkO x = 0 ∧ k = g.nid ∧ x.offs.length ≤ 6 ∧ x.accs = g.accs ∧ x.lins = g.lins ∧ x.nid = g.nid + 1 ∧ cancelF x a k = ({ x with offs := g.offs }, 0) ∧ cancelF x (a + 1) k = (led0, 72) ∧
        { x with offs := g.offs, nid := g.nid } = g ∧ (bookI x u i v j).length = (bookI g u i v j).length + 1 ∧ k ∈ bookI x u i v j)) := by
  refine ⟨(addO g a u i v j n p q).1, (addO g a u i v j n p q).2.1, (addO g a u i v j n p q).2.2, rfl, ?_⟩
  by_cases he : (addO g a u i v j n p q).2.2 = 0
  · refine .inr ⟨he, addO_right he, ?_⟩
    have hr := addO_right he
    obtain ⟨h1, h2, h3, h4, h5', h6, h7, h8, h9, h10, h11, h12, h13, e⟩ := addO_yes he
    rw [e] at hr ⊢
    dsimp only at hr ⊢
    have hro := chkO_zero.1 hr
    have hrg := chkO_zero.1 h
    have hat : nth (g.offs ++ [(⟨g.nid, a, u, i, v, j, n, (redF p q).1, (redF p q).2⟩ : Off)]) g.offs.length = ⟨g.nid, a, u, i, v, j, n, (redF p q).1, (redF p q).2⟩ := nth_mid _ [] _
    have hidx : idxO (g.offs ++ [(⟨g.nid, a, u, i, v, j, n, (redF p q).1, (redF p q).2⟩ : Off)]) g.nid = (g.offs.length : Int) := by
      have := idxO_at (l := g.offs ++ [(⟨g.nid, a, u, i, v, j, n, (redF p q).1, (redF p q).2⟩ : Off)]) hro.asc (j := g.offs.length) (by simp)
      rw [hat] at this
      exact this
    have hsel : (nth (g.offs ++ [(⟨g.nid, a, u, i, v, j, n, (redF p q).1, (redF p q).2⟩ : Off)]) g.offs.length).seller = a := by rw [hat]
    have hpair : pairO u i v j (⟨g.nid, a, u, i, v, j, n, (redF p q).1, (redF p q).2⟩ : Off) = true := by
      unfold pairO; rw [eqT_iff.2 ⟨rfl, rfl⟩, eqT_iff.2 ⟨rfl, rfl⟩]; rfl
    obtain ⟨_, _, m1, l1⟩ := book_srt hro u i v j
    obtain ⟨_, _, _, l2⟩ := book_srt hrg u i v j
    refine ⟨rfl, by simp; omega, rfl, rfl, rfl, ?_, ?_, rfl, ?_, ?_⟩
    · unfold cancelF
      dsimp only
      rw [if_neg (by simp [hr]), hidx, if_neg (by rw [Int.toNat_natCast, hsel]; omega)]
      simp only [Int.toNat_natCast]
      rw [List.eraseIdx_append_of_length_le (Nat.le_refl _)]
      simp
    · unfold cancelF
      dsimp only
      rw [if_neg (by simp [hr]), hidx, if_pos (by rw [Int.toNat_natCast, hsel]; omega)]
    · unfold bookI
      rw [if_pos hr, if_pos h, List.length_map, List.length_map, l1, l2]
      dsimp only
      rw [List.filter_append, List.length_append]
      simp only [List.filter_cons, hpair, if_true, List.filter_nil, List.length_cons, List.length_nil]
    · unfold bookI
      rw [if_pos hr]
      exact List.mem_map.2 ⟨⟨g.nid, a, u, i, v, j, n, (redF p q).1, (redF p q).2⟩, (m1 _).2 ⟨by simp, hpair⟩, rfl⟩
  · refine .inl ⟨he, ?_⟩
    unfold addO
    rw [if_neg (by simp [h]), if_neg (by simp [hf])]
    split
    · exact ⟨by decide, by decide⟩
    split
    · exact ⟨by decide, by decide⟩
    split
    · exact ⟨by decide, by decide⟩
    split
    · exact ⟨by decide, by decide⟩
    split
    · exact ⟨by decide, by decide⟩
    · exact ⟨by simp, by simp⟩
end Go.Proofs.YtgebgpdoddjfhaaGreat
