/- Plain laws on accounts, for the statements of layer 36. No program stands here. -/
import Derived.Test.YtgebgpdoddjfhaaGreatLedA
namespace Go.Proofs.YtgebgpdoddjfhaaGreat
set_option linter.unusedSimpArgs false
set_option linter.unusedVariables false
set_option linter.unnecessarySimpa false
set_option linter.unusedSectionVars false
set_option maxRecDepth 100000
open Go.RowKit Go.Proofs.Grow Go.Sort

/-- Accounts as the statements make them: some of them, numbered from 1, with small balances and sequences. -/
structure MadeA (l : List Acc) : Prop where
  one : 1 ≤ l.length
  five : l.length ≤ 5
  ids : ∀ j, j < l.length → (nth l j).id = (j : Int) + 1
  bals : ∀ x ∈ l, 0 ≤ x.bal ∧ x.bal ≤ 1000
  seqs : ∀ x ∈ l, 0 ≤ x.seq ∧ x.seq ≤ 2
theorem MadeA.right {l : List Acc} (h : MadeA l) : RightA l := by
  refine ⟨by have := h.five; omega, fun x hx => ?_, ?_⟩
  · obtain ⟨j, hj, rfl⟩ := mem_nth hx
    have h1 := h.ids j hj
    have h2 := h.bals _ hx
    have h3 := h.seqs _ hx
    have h4 := h.five
    refine ⟨⟨by omega, by omega⟩, ⟨by omega, by omega⟩, by omega, by omega⟩
  · rw [List.pairwise_iff_getElem]
    intro i j hi hj hij
    simp only [List.length_map] at hi hj
    have h1 := h.ids i hi
    have h2 := h.ids j hj
    rw [nth_getElem l i hi] at h1
    rw [nth_getElem l j hj] at h2
    simp only [List.getElem_map]
    omega
theorem MadeA.place {l : List Acc} (h : MadeA l) {i : Int} (h1 : 1 ≤ i) (h2 : i ≤ l.length) : ∃ j, j < l.length ∧ (nth l j).id = i := by
  refine ⟨(i - 1).toNat, by omega, ?_⟩
  rw [h.ids _ (by omega)]; omega

theorem changeF_at {l : List Acc} (hr : RightA l) {j : Nat} (hj : j < l.length) (f : Acc → Acc × Int) :
    changeF l (nth l j).id f = if ¬ (f (nth l j)).2 = 0 then ([], (f (nth l j)).2) else (l.set j (f (nth l j)).1, 0) := by
  have e := idxA_at hr.2.2 hj
  unfold changeF
  rw [if_neg (by simp [chkA_zero.2 hr]), if_neg (by omega), e]
  simp
theorem find_set {l : List Acc} (hr : RightA l) {j : Nat} (hj : j < l.length) {x : Acc} (h : x.id = (nth l j).id) : findA (l.set j x) (nth l j).id = (x, true) := by
  have e : nth (l.set j x) j = x := by rw [nth_set l j x j hj, if_pos rfl]
  have := findA_at (l := l.set j x) (by rw [ids_set hj h]; exact hr.2.2) (j := j) (by simpa using hj)
  rwa [e, h] at this
theorem totA_right {l : List Acc} (h : RightA l) : totA l = tot l := by unfold totA; rw [if_pos (chkA_zero.2 h)]

/-- Beginning, at an account of the list. -/
theorem begin_at {l : List Acc} (hr : RightA l) {j : Nat} (hj : j < l.length) (q n : Int) :
    beginF l (nth l j).id q n = if ¬ (beginS q n (nth l j)).2 = 0 then ([], (beginS q n (nth l j)).2) else (l.set j (beginS q n (nth l j)).1, 0) := changeF_at hr hj _
theorem begin_wrong {l : List Acc} (hr : RightA l) {j : Nat} (hj : j < l.length) {q : Int} (n : Int) (h : ¬ q = (nth l j).seq + 1) : beginF l (nth l j).id q n = ([], 68) := by
  rw [begin_at hr hj]
  have : beginS q n (nth l j) = (nth l j, 68) := by unfold beginS; rw [if_pos (.inl h)]
  rw [this]; rfl
theorem begin_poor {l : List Acc} (hr : RightA l) {j : Nat} (hj : j < l.length) {n : Int} (h1 : (nth l j).seq < 1000000) (h2 : 1 ≤ n) (h3 : n ≤ 100000) (h : (nth l j).bal < n) : beginF l (nth l j).id ((nth l j).seq + 1) n = ([], 66) := by
  rw [begin_at hr hj]
  have : beginS ((nth l j).seq + 1) n (nth l j) = (nth l j, 66) := by unfold beginS; rw [if_neg (by omega), if_neg (by omega), if_pos h]
  rw [this]; rfl
theorem begin_ok {l : List Acc} (hr : RightA l) {j : Nat} (hj : j < l.length) {n : Int} (h1 : (nth l j).seq < 1000000) (h2 : 1 ≤ n) (h3 : n ≤ 100000) (h : n ≤ (nth l j).bal) :
    beginF l (nth l j).id ((nth l j).seq + 1) n = (l.set j ⟨(nth l j).id, (nth l j).bal - n, (nth l j).seq + 1⟩, 0) ∧ RightA (l.set j ⟨(nth l j).id, (nth l j).bal - n, (nth l j).seq + 1⟩) ∧
      findA (l.set j ⟨(nth l j).id, (nth l j).bal - n, (nth l j).seq + 1⟩) (nth l j).id = (⟨(nth l j).id, (nth l j).bal - n, (nth l j).seq + 1⟩, true) ∧ totA (l.set j ⟨(nth l j).id, (nth l j).bal - n, (nth l j).seq + 1⟩) = totA l - n := by
  obtain ⟨g1, g2, g3⟩ := hr.2.1 _ (nth_mem l j hj)
  have hr' : RightA (l.set j ⟨(nth l j).id, (nth l j).bal - n, (nth l j).seq + 1⟩) := right_set hr hj rfl ⟨g1, ⟨by show 0 ≤ (nth l j).bal - n; omega, by show (nth l j).bal - n ≤ _; omega⟩, by show 0 ≤ (nth l j).seq + 1; omega, by show (nth l j).seq + 1 ≤ _; omega⟩
  refine ⟨?_, hr', find_set hr hj rfl, ?_⟩
  · rw [begin_at hr hj]
    have : beginS ((nth l j).seq + 1) n (nth l j) = (⟨(nth l j).id, (nth l j).bal - n, (nth l j).seq + 1⟩, 0) := by unfold beginS; rw [if_neg (by omega), if_neg (by omega), if_neg (by omega)]
    rw [this]; rfl
  · rw [totA_right hr, totA_right hr', tot_set hj]; show tot l - (nth l j).bal + ((nth l j).bal - n) = _; omega

theorem take_at {l : List Acc} (hr : RightA l) {j : Nat} (hj : j < l.length) {n : Int} (h0 : okA n = true) :
    takeF l (nth l j).id n = if (nth l j).bal < n then ([], 66) else (l.set j { nth l j with bal := (nth l j).bal - n }, 0) := by
  unfold takeF
  rw [changeF_at hr hj]
  unfold takeS
  by_cases h : (nth l j).bal < n <;> simp [h0, h]
theorem give_at {l : List Acc} (hr : RightA l) {j : Nat} (hj : j < l.length) {n : Int} (h0 : okA n = true) (h : okA ((nth l j).bal + n) = true) :
    giveF l (nth l j).id n = (l.set j { nth l j with bal := (nth l j).bal + n }, 0) := by
  unfold giveF
  rw [changeF_at hr hj]
  simp [giveS, h0, h]
theorem ins_mem {x y : Acc} {l : List Acc} : y ∈ insA x l ↔ y = x ∨ y ∈ l := by
  induction l with
  | nil => simp [insA]
  | cons z r ih =>
    unfold insA
    split
    · simp
    · simp only [List.mem_cons, ih]
      constructor
      · rintro (h | h | h) <;> simp [h]
      · rintro (h | h | h) <;> simp [h]
theorem ins_len (x : Acc) (l : List Acc) : (insA x l).length = l.length + 1 := by
  induction l with
  | nil => rfl
  | cons z r ih => unfold insA; split <;> simp [ih]
theorem ins_asc {x : Acc} {l : List Acc} (h : (l.map Acc.id).Pairwise (· < ·)) (hx : ∀ y ∈ l, ¬ y.id = x.id) : ((insA x l).map Acc.id).Pairwise (· < ·) := by
  induction l with
  | nil => simp [insA]
  | cons z r ih =>
    simp only [List.map_cons, List.pairwise_cons] at h
    unfold insA
    split
    · rename_i hlt
      simp only [List.map_cons, List.pairwise_cons]
      refine ⟨fun b hb => ?_, fun b hb => h.1 b hb, h.2⟩
      rcases List.mem_cons.1 hb with rfl | hb
      · exact hlt
      · have := h.1 b hb; omega
    · rename_i hlt
      simp only [List.map_cons, List.pairwise_cons]
      refine ⟨fun b hb => ?_, ih h.2 (fun y hy => hx y (by simp [hy]))⟩
      obtain ⟨y, hy, rfl⟩ := List.mem_map.1 hb
      rcases ins_mem.1 hy with rfl | hy
      · have := hx z (by simp); omega
      · exact h.1 _ (List.mem_map.2 ⟨y, hy, rfl⟩)
theorem right_ins {x : Acc} {l : List Acc} (h : RightA l) (hl : l.length < 20) (hg : GoodA x) (hx : ∀ y ∈ l, ¬ y.id = x.id) : RightA (insA x l) :=
  ⟨by rw [ins_len]; omega, fun y hy => by rcases ins_mem.1 hy with rfl | hy; exact hg; exact h.2.1 y hy, ins_asc h.2.2 hx⟩
theorem tot_ins (x : Acc) (l : List Acc) : tot (insA x l) = tot l + x.bal := by
  induction l with
  | nil => simp [insA, tot]
  | cons z r ih => unfold insA; split <;> simp only [tot, List.map_cons, List.sum_cons] at * <;> omega
theorem find_mem {l : List Acc} (h : RightA l) {x : Acc} (hx : x ∈ l) : findA l x.id = (x, true) := by
  obtain ⟨j, hj, rfl⟩ := mem_nth hx
  exact findA_at h.2.2 hj
theorem find_none {l : List Acc} {i : Int} (h : ∀ y ∈ l, ¬ y.id = i) : findA l i = (⟨0, 0, 0⟩, false) := by
  rcases idxA_cases l i with ⟨h1, _⟩ | ⟨j, j1, j2, j3⟩
  · exact findA_no (by omega)
  · exact absurd j3 (h _ (nth_mem l j j1))
theorem idx_none {l : List Acc} {i : Int} (h : ∀ y ∈ l, ¬ y.id = i) : idxA l i = -1 := by
  rcases idxA_cases l i with ⟨h1, _⟩ | ⟨j, j1, j2, j3⟩
  · exact h1
  · exact absurd j3 (h _ (nth_mem l j j1))
theorem create_no {l : List Acc} (h : RightA l) {i b : Int} (h0 : okId i = true) (hx : ∀ y ∈ l, ¬ y.id = i) (hb : okA b = true) (hl : l.length < 20) : createF l i b = (insA ⟨i, b, 0⟩ l, 0) := by
  unfold createF
  have e := idx_none hx
  rw [if_neg (by simp [chkA_zero.2 h]), if_neg (by simp [h0]; omega), if_neg (by simp [hb]), if_neg (by omega)]
theorem create_there {l : List Acc} (h : RightA l) {x : Acc} (hx : x ∈ l) (b : Int) : createF l x.id b = ([], 67) := by
  unfold createF
  obtain ⟨j, hj, rfl⟩ := mem_nth hx
  have e := idxA_at h.2.2 hj
  rw [if_neg (by simp [chkA_zero.2 h]), if_pos (.inr (by omega))]
end Go.Proofs.YtgebgpdoddjfhaaGreat
