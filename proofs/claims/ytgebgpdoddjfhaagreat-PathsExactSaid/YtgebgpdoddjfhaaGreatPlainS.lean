/- Plain laws: sorting offers by inserting. No program stands here. -/
import Derived.Test.YtgebgpdoddjfhaaGreatPlainO
namespace Go.Proofs.YtgebgpdoddjfhaaGreat
set_option linter.unusedSimpArgs false
set_option linter.unusedVariables false
set_option linter.unnecessarySimpa false
set_option linter.unusedSectionVars false
set_option maxRecDepth 100000
open Go Go.RowKit Go.Am Go.Proofs.Grow

def swapO (l : List Off) (j : Nat) : List Off := (l.set (j + 1) (nth l j)).set j (nth l (j + 1))
/-- The element at a place goes to the left, past all that are worse. -/
def sinkO : Nat → List Off → List Off
  | 0, l => l
  | j + 1, l => if betO (nth l (j + 1)) (nth l j) = true then sinkO j (swapO l j) else l
/-- The first k + 1 elements have been sorted. -/
def srtO (l : List Off) : Nat → List Off
  | 0 => l
  | k + 1 => sinkO (k + 1) (srtO l k)
theorem swapO_len (l : List Off) (j : Nat) : (swapO l j).length = l.length := by simp [swapO]
theorem sinkO_len : ∀ (j : Nat) (l : List Off), (sinkO j l).length = l.length
  | 0, l => rfl
  | j + 1, l => by
    unfold sinkO
    split
    · rw [sinkO_len j, swapO_len]
    · rfl
theorem srtO_len (l : List Off) (k : Nat) : (srtO l k).length = l.length := by
  induction k with
  | zero => rfl
  | succ k ih => unfold srtO; rw [sinkO_len, ih]
def PosP (x : Off) : Prop := (1 ≤ x.num ∧ x.num ≤ 1000000) ∧ (1 ≤ x.den ∧ x.den ≤ 1000000)
theorem cmpP_eq {x y : Off} (hx : PosP x) (hy : PosP y) : cmpP x.num x.den y.num y.den = cmpI (x.num * y.den) (y.num * x.den) := by
  unfold cmpP
  rw [price_iff.2 hx, price_iff.2 hy]; rfl
theorem betO_iff {x y : Off} (hx : PosP x) (hy : PosP y) : betO x y = true ↔ x.num * y.den < y.num * x.den ∨ (x.num * y.den = y.num * x.den ∧ x.id < y.id) := by
  unfold betO
  rw [cmpP_eq hx hy]
  unfold cmpI
  by_cases h1 : x.num * y.den < y.num * x.den
  · simp [h1]
  · by_cases h2 : y.num * x.den < x.num * y.den
    · have : ¬ x.num * y.den = y.num * x.den := by omega
      simp [h1, h2, this]
    · have : x.num * y.den = y.num * x.den := by omega
      simp [this]
/-- Prices by cross products: transitive. -/
theorem cross_trans {a b c d e f : Int} (hb : 1 ≤ b) (hd : 1 ≤ d) (hf : 1 ≤ f) (h1 : a * d ≤ c * b) (h2 : c * f ≤ e * d) : a * f ≤ e * b ∧ ((a * d < c * b ∨ c * f < e * d) → a * f < e * b) := by
  have k1 : a * d * f ≤ c * b * f := Int.mul_le_mul_of_nonneg_right h1 (by omega)
  have k2 : c * f * b ≤ e * d * b := Int.mul_le_mul_of_nonneg_right h2 (by omega)
  have e1 : a * d * f = a * f * d := by rw [Int.mul_assoc, Int.mul_comm d f, ← Int.mul_assoc]
  have e2 : c * b * f = c * f * b := by rw [Int.mul_assoc, Int.mul_comm b f, ← Int.mul_assoc]
  have e3 : e * d * b = e * b * d := by rw [Int.mul_assoc, Int.mul_comm d b, ← Int.mul_assoc]
  rw [e1, e2] at k1
  rw [e3] at k2
  refine ⟨Int.le_of_mul_le_mul_right (Int.le_trans k1 k2) (by omega), fun h => ?_⟩
  refine Int.lt_of_mul_lt_mul_right (a := d) ?_ (by omega)
  rcases h with h | h
  · have q := Int.mul_lt_mul_of_pos_right h (show 0 < f by omega)
    rw [e1, e2] at q; omega
  · have q := Int.mul_lt_mul_of_pos_right h (show 0 < b by omega)
    rw [e3] at q; omega
theorem betO_trans {x y z : Off} (hx : PosP x) (hy : PosP y) (hz : PosP z) (h1 : betO x y = true) (h2 : betO y z = true) : betO x z = true := by
  rw [betO_iff hx hy] at h1
  rw [betO_iff hy hz] at h2
  rw [betO_iff hx hz]
  have hb := hx.2.1
  have hd := hy.2.1
  have hf := hz.2.1
  obtain ⟨c1, c2⟩ := cross_trans hb hd hf (a := x.num) (c := y.num) (e := z.num) (by omega) (by omega)
  rcases h1 with h1 | ⟨h1, i1⟩
  · exact .inl (c2 (.inl h1))
  · rcases h2 with h2 | ⟨h2, i2⟩
    · exact .inl (c2 (.inr h2))
    · obtain ⟨d1, d2⟩ := cross_trans hf hd hb (a := z.num) (c := y.num) (e := x.num) (by omega) (by omega)
      exact .inr ⟨by omega, by omega⟩
theorem betO_total {x y : Off} (hx : PosP x) (hy : PosP y) (h : ¬ betO x y = true) (hid : ¬ x.id = y.id) : betO y x = true := by
  rw [betO_iff hx hy] at h
  rw [betO_iff hy hx]
  omega
theorem putO_mem {x y : Off} {l : List Off} : y ∈ putO x l ↔ y = x ∨ y ∈ l := by
  induction l with
  | nil => simp [putO]
  | cons z r ih =>
    unfold putO
    split
    · simp
    · simp only [List.mem_cons, ih]
      constructor
      · rintro (h | h | h) <;> simp [h]
      · rintro (h | h | h) <;> simp [h]
theorem putO_len (x : Off) (l : List Off) : (putO x l).length = l.length + 1 := by
  induction l with
  | nil => rfl
  | cons z r ih => unfold putO; split <;> simp [ih]
def SortO (l : List Off) : Prop := l.Pairwise fun x y => betO x y = true
theorem putO_sort {y : Off} {l : List Off} (hy : PosP y) (hl : ∀ x ∈ l, PosP x) (hid : ∀ x ∈ l, ¬ x.id = y.id) (h : SortO l) : SortO (putO y l) := by
  induction l with
  | nil => simp [putO, SortO]
  | cons x r ih =>
    unfold SortO at h ih ⊢
    rw [List.pairwise_cons] at h
    unfold putO
    split
    · rename_i hb
      rw [List.pairwise_cons, List.pairwise_cons]
      refine ⟨fun z hz => ?_, h⟩
      rcases List.mem_cons.1 hz with rfl | hz
      · exact hb
      · exact betO_trans hy (hl x (by simp)) (hl z (by simp [hz])) hb (h.1 z hz)
    · rename_i hb
      rw [List.pairwise_cons]
      refine ⟨fun z hz => ?_, ih (fun z hz => hl z (by simp [hz])) (fun z hz => hid z (by simp [hz])) h.2⟩
      rcases putO_mem.1 hz with rfl | hz
      · exact betO_total hy (hl x (by simp)) hb (fun e => hid x (by simp) e.symm)
      · exact h.1 z hz
theorem putO_snoc_yes {y z : Off} (P : List Off) (h : betO y z = true) : putO y (P ++ [z]) = putO y P ++ [z] := by
  induction P with
  | nil => simp [putO, h]
  | cons x r ih =>
    simp only [List.cons_append, putO]
    split
    · rfl
    · rw [ih]; rfl
theorem putO_all {y : Off} (P : List Off) (h : ∀ x ∈ P, ¬ betO y x = true) : putO y P = P ++ [y] := by
  induction P with
  | nil => rfl
  | cons x r ih =>
    unfold putO
    rw [if_neg (h x (by simp)), ih fun z hz => h z (by simp [hz])]; rfl
theorem nth_mid {α : Type} [Inhabited α] (P S : List α) (y : α) : nth (P ++ y :: S) P.length = y := by simp [nth]
theorem nth_mid1 {α : Type} [Inhabited α] (P S : List α) (z y : α) : nth (P ++ z :: y :: S) (P.length + 1) = y := by
  have := nth_mid (P ++ [z]) S y
  simpa using this
theorem swapO_mid (P S : List Off) (z y : Off) : swapO (P ++ z :: y :: S) P.length = P ++ y :: z :: S := by
  unfold swapO
  rw [nth_mid, nth_mid1]
  simp [List.set_append]
theorem sinkO_put : ∀ (n : Nat) (P S : List Off) (y : Off), P.length = n → PosP y → (∀ x ∈ P, PosP x) → SortO P → sinkO n (P ++ y :: S) = putO y P ++ S
  | 0, P, S, y, hn, _, _, _ => by
    obtain rfl : P = [] := List.eq_nil_of_length_eq_zero hn
    rfl
  | n + 1, P, S, y, hn, hy, hP, hs => by
    obtain ⟨Q, z, rfl⟩ : ∃ Q z, P = Q ++ [z] := by
      rcases List.eq_nil_or_concat P with rfl | ⟨Q, z, rfl⟩
      · simp at hn
      · exact ⟨Q, z, by simp⟩
    have hq : Q.length = n := by simpa using hn
    have e : Q ++ [z] ++ y :: S = Q ++ z :: y :: S := by simp
    rw [e]
    unfold sinkO
    subst hq
    rw [nth_mid1, nth_mid, swapO_mid]
    unfold SortO at hs
    rw [List.pairwise_append] at hs
    by_cases hb : betO y z = true
    · rw [if_pos hb, sinkO_put Q.length Q (z :: S) y rfl hy (fun x hx => hP x (by simp [hx])) hs.1, putO_snoc_yes Q hb]; simp
    · rw [if_neg hb, putO_all]
      · simp
      · intro x hx hbx
        rcases List.mem_append.1 hx with hx | hx
        · exact hb (betO_trans hy (hP x (by simp [hx])) (hP z (by simp)) hbx (hs.2.2 x hx z (by simp)))
        · obtain rfl : x = z := by simpa using hx
          exact hb hbx
def putAll (l : List Off) : List Off := l.foldl (fun o x => putO x o) []
theorem foldl_put {l : List Off} : ∀ {o : List Off}, (∀ x ∈ o, PosP x) → (∀ x ∈ l, PosP x) → ((o ++ l).map Off.id).Nodup → SortO o →
    SortO (l.foldl (fun o x => putO x o) o) ∧ (∀ y, y ∈ l.foldl (fun o x => putO x o) o ↔ y ∈ o ∨ y ∈ l) ∧ (l.foldl (fun o x => putO x o) o).length = o.length + l.length := by
  induction l with
  | nil => intro o _ _ _ hs; exact ⟨hs, fun y => by simp, rfl⟩
  | cons x r ih =>
    intro o ho hl hn hs
    simp only [List.map_append, List.map_cons, List.nodup_append, List.nodup_cons, List.mem_map, List.mem_cons] at hn
    obtain ⟨n1, ⟨n2, n3⟩, n4⟩ := hn
    have hid : ∀ z ∈ o, ¬ z.id = x.id := fun z hz e => n4 z.id ⟨z, hz, rfl⟩ x.id (.inl rfl) e
    have q1 : ∀ z ∈ putO x o, PosP z := fun z hz => by
      rcases putO_mem.1 hz with rfl | hz
      · exact hl _ (by simp)
      · exact ho z hz
    have q2 : ((putO x o ++ r).map Off.id).Nodup := by
      simp only [List.map_append, List.nodup_append, List.mem_map]
      refine ⟨?_, n3, ?_⟩
      · have key : ∀ (m : List Off), (m.map Off.id).Nodup → (∀ z ∈ m, ¬ z.id = x.id) → ((putO x m).map Off.id).Nodup := by
          intro m
          induction m with
          | nil => intro _ _; simp [putO]
          | cons w s ihm =>
            intro k1 k2
            rw [List.map_cons, List.nodup_cons] at k1
            unfold putO
            split
            · rw [List.map_cons, List.nodup_cons, List.map_cons, List.nodup_cons]
              refine ⟨fun hm => ?_, k1⟩
              rcases List.mem_cons.1 hm with e | hm
              · exact k2 w (by simp) e.symm
              · obtain ⟨v, hv, e⟩ := List.mem_map.1 hm
                exact k2 v (by simp [hv]) e
            · rw [List.map_cons, List.nodup_cons]
              refine ⟨fun hm => ?_, ihm k1.2 fun z hz => k2 z (by simp [hz])⟩
              obtain ⟨v, hv, e⟩ := List.mem_map.1 hm
              rcases putO_mem.1 hv with rfl | hv
              · exact k2 w (by simp) e.symm
              · exact k1.1 (List.mem_map.2 ⟨v, hv, e⟩)
        exact key o n1 hid
      · rintro a ⟨v, hv, rfl⟩ b ⟨v2, hv2, rfl⟩ e
        rcases putO_mem.1 hv with rfl | hv
        · exact n2 ⟨v2, hv2, e.symm⟩
        · exact n4 v.id ⟨v, hv, rfl⟩ v2.id (.inr ⟨v2, hv2, rfl⟩) e
    obtain ⟨h1, h2, h3⟩ := ih (o := putO x o) q1 (fun z hz => hl z (by simp [hz])) q2 (putO_sort (hl x (by simp)) ho hid hs)
    refine ⟨h1, fun y => ?_, ?_⟩
    · rw [List.foldl_cons, h2, putO_mem]
      simp only [List.mem_cons]
      constructor
      · rintro ((h | h) | h) <;> simp [h]
      · rintro (h | h | h) <;> simp [h]
    · rw [List.foldl_cons, h3, putO_len]; simp; omega
/-- Sorting is putting all in. -/
theorem srtO_put {l : List Off} (hl : ∀ x ∈ l, PosP x) (hn : (l.map Off.id).Nodup) : ∀ k, k < l.length → srtO l k = putAll (l.take (k + 1)) ++ l.drop (k + 1) := by
  intro k
  induction k with
  | zero =>
    intro hk
    cases l with
    | nil => simp at hk
    | cons x r => simp [srtO, putAll, putO]
  | succ k ih =>
    intro hk
    have h1 := ih (by omega)
    unfold srtO
    rw [h1]
    have hd : l.drop (k + 1) = nth l (k + 1) :: l.drop (k + 1 + 1) := drop_nth l (k + 1) hk
    rw [hd]
    have hp : ∀ x ∈ l.take (k + 1), PosP x := fun x hx => hl x (List.mem_of_mem_take hx)
    have hnt : ((([] : List Off) ++ l.take (k + 1)).map Off.id).Nodup := by
      rw [List.nil_append, List.map_take]; exact hn.sublist (List.take_sublist _ _)
    obtain ⟨f1, f2, f3⟩ := foldl_put (o := []) (fun _ h => (by cases h)) hp hnt List.Pairwise.nil
    rw [sinkO_put (k + 1) (putAll (l.take (k + 1))) _ (nth l (k + 1)) (by unfold putAll; rw [f3]; simp; omega) (hl _ (nth_mem l _ hk)) (fun x hx => ?_) f1]
    · congr 1
      unfold putAll
      rw [List.take_succ_eq_append_getElem hk, List.foldl_append, nth_getElem l _ hk]; rfl
    · rcases (f2 x).1 hx with h | h
      · cases h
      · exact hp x h
theorem srtO_all {l : List Off} (hl : ∀ x ∈ l, PosP x) (hn : (l.map Off.id).Nodup) : srtO l (l.length - 1) = putAll l := by
  cases l with
  | nil => rfl
  | cons x r =>
    rw [srtO_put hl hn _ (by simp)]
    simp
theorem bookF_fold (u : ByteArray) (i : Int) (v : ByteArray) (j : Int) (l : List Off) : ∀ o, bookF u i v j o l = (l.filter (pairO u i v j)).foldl (fun o x => putO x o) o := by
  induction l with
  | nil => intro o; rfl
  | cons x r ih =>
    intro o
    unfold bookF
    rw [ih]
    cases h : pairO u i v j x <;> simp [h]
theorem asc_nodup {l : List Off} (h : (l.map Off.id).Pairwise (· < ·)) : (l.map Off.id).Nodup := h.imp fun h e => by omega
/-- The book of a right ledger is its offers of the pair, sorted. -/
theorem book_srt {g : Led} (h : RightO g) (u : ByteArray) (i : Int) (v : ByteArray) (j : Int) :
    srtO (g.offs.filter (pairO u i v j)) ((g.offs.filter (pairO u i v j)).length - 1) = bookO g u i v j ∧ SortO (bookO g u i v j) ∧ (∀ y, y ∈ bookO g u i v j ↔ y ∈ g.offs ∧ pairO u i v j y = true) ∧ (bookO g u i v j).length = (g.offs.filter (pairO u i v j)).length := by
  have hp : ∀ x ∈ g.offs.filter (pairO u i v j), PosP x := fun x hx => by
    have := h.good x ((List.mem_filter.1 hx).1)
    exact ⟨this.num, this.den⟩
  have hn : ((g.offs.filter (pairO u i v j)).map Off.id).Nodup := (asc_nodup h.asc).sublist ((List.filter_sublist (l := g.offs) (p := pairO u i v j)).map Off.id)
  have e : bookO g u i v j = putAll (g.offs.filter (pairO u i v j)) := bookF_fold u i v j g.offs []
  obtain ⟨f1, f2, f3⟩ := foldl_put (o := []) (fun _ h => (by cases h)) hp (by simpa using hn) List.Pairwise.nil
  refine ⟨by rw [srtO_all hp hn, e], by rw [e]; exact f1, fun y => ?_, by rw [e]; unfold putAll; rw [f3]; simp⟩
  rw [e]
  unfold putAll
  rw [f2, List.mem_filter]
  constructor
  · rintro (h | h)
    · cases h
    · exact h
  · exact .inr
end Go.Proofs.YtgebgpdoddjfhaaGreat
