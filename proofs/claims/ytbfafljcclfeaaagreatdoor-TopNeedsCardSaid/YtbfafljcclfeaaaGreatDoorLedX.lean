/- Plain functions on accounts, as the program and the reference compute them, and laws on them. No program stands here. -/
import Derived.Test.YtbfafljcclfeaaaGreatDoorAmtX
namespace Go.Proofs.YtbfafljcclfeaaaGreatDoor
set_option linter.unusedSimpArgs false
set_option linter.unusedVariables false
set_option linter.unnecessarySimpa false
set_option linter.unusedSectionVars false
set_option maxRecDepth 100000
open Go.RowKit Go.Proofs.Grow Go.Sort

/-- The first place, from k on, of what a predicate holds of; -1 if there is none. -/
def idxF {α : Type} (p : α → Bool) : Nat → List α → Int
  | _, [] => -1
  | k, x :: r => if p x = true then (k : Int) else idxF p (k + 1) r
theorem idxF_spec {α : Type} [Inhabited α] (p : α → Bool) (l : List α) : ∀ k, (idxF p k l = -1 ∧ ∀ x ∈ l, p x = false) ∨
    ∃ j : Nat, j < l.length ∧ idxF p k l = (k : Int) + (j : Int) ∧ p (nth l j) = true ∧ ∀ i, i < j → p (nth l i) = false := by
  induction l with
  | nil => intro k; exact .inl ⟨rfl, fun x hx => (by cases hx)⟩
  | cons x r ih =>
    intro k
    by_cases h : p x = true
    · exact .inr ⟨0, by simp, by simp [idxF, h], by simpa [nth] using h, fun i hi => by omega⟩
    · have h' : p x = false := by simpa using h
      have e : idxF p k (x :: r) = idxF p (k + 1) r := by simp [idxF, h']
      rw [e]
      rcases ih (k + 1) with ⟨h1, h2⟩ | ⟨j, j1, j2, j3, j4⟩
      · refine .inl ⟨h1, fun y hy => ?_⟩
        rcases List.mem_cons.1 hy with rfl | hy
        · exact h'
        · exact h2 y hy
      · refine .inr ⟨j + 1, by simpa using j1, by rw [j2]; omega, by simpa [nth] using j3, fun i hi => ?_⟩
        cases i with
        | zero => simpa [nth] using h'
        | succ i => simpa [nth] using j4 i (by omega)

structure Acc where
  id : Int
  bal : Int
  seq : Int
instance : Inhabited Acc := ⟨⟨0, 0, 0⟩⟩
def encA (x : Acc) : List Value := [.int .i64 x.id, .int .i64 x.bal, .int .i64 x.seq]

def okId (n : Int) : Bool := decide (1 ≤ n) && decide (n ≤ 1000)
def okSeq (n : Int) : Bool := decide (0 ≤ n) && decide (n ≤ 1000000)
def ltO : Option Int → Int → Bool
  | none, _ => true
  | some q, n => decide (q < n)
def accOk (p : Option Int) (x : Acc) : Bool := okId x.id && (ltO p x.id && (okA x.bal && okSeq x.seq))
def accsOk : Option Int → List Acc → Bool
  | _, [] => true
  | p, x :: r => accOk p x && accsOk (some x.id) r
def chkA (l : List Acc) : Int := if 20 < l.length then 3 else if accsOk none l = true then 0 else 74
/-- What the check of an element looks back at. -/
def prevId (l : List Acc) (k : Nat) : Option Int := if k = 0 then none else some (nth l (k - 1)).id
def hasId (i : Int) (x : Acc) : Bool := x.id == i
def idxA (l : List Acc) (i : Int) : Int := idxF (hasId i) 0 l
def findA (l : List Acc) (i : Int) : Acc × Bool := if idxA l i < 0 then (⟨0, 0, 0⟩, false) else (nth l (idxA l i).toNat, true)
/-- The sum as it is computed, with wrapping. -/
def wsumA : Int → List Acc → Int
  | s, [] => s
  | s, x :: r => wsumA (wrap64 (s + x.bal)) r
def tot (l : List Acc) : Int := (l.map Acc.bal).sum
def totA (l : List Acc) : Int := if chkA l = 0 then tot l else 0
def insA (x : Acc) : List Acc → List Acc
  | [] => [x]
  | y :: r => if x.id < y.id then x :: y :: r else y :: insA x r
def createF (l : List Acc) (i b : Int) : List Acc × Int :=
  if ¬ chkA l = 0 then ([], 74) else if okId i = false ∨ 0 ≤ idxA l i then ([], 67) else if okA b = false then ([], 65) else if l.length = 20 then ([], 3) else (insA ⟨i, b, 0⟩ l, 0)
/-- The accounts with one of them changed, as f says, or f's error. -/
def changeF (l : List Acc) (i : Int) (f : Acc → Acc × Int) : List Acc × Int :=
  if ¬ chkA l = 0 then ([], 74) else if idxA l i < 0 then ([], 67) else
    if ¬ (f (nth l (idxA l i).toNat)).2 = 0 then ([], (f (nth l (idxA l i).toNat)).2) else (l.set (idxA l i).toNat (f (nth l (idxA l i).toNat)).1, 0)
def giveS (n : Int) (x : Acc) : Acc × Int := if (okA n && okA (x.bal + n)) = true then ({ x with bal := x.bal + n }, 0) else (x, 65)
def takeS (n : Int) (x : Acc) : Acc × Int := if okA n = false then (x, 65) else if x.bal < n then (x, 66) else ({ x with bal := x.bal - n }, 0)
def beginS (q n : Int) (x : Acc) : Acc × Int :=
  if ¬ q = x.seq + 1 ∨ 1000000 < q then (x, 68) else if n < 1 ∨ 100000 < n then (x, 69) else if x.bal < n then (x, 66) else (⟨x.id, x.bal - n, q⟩, 0)
def giveF (l : List Acc) (i n : Int) : List Acc × Int := changeF l i (giveS n)
def takeF (l : List Acc) (i n : Int) : List Acc × Int := changeF l i (takeS n)
def beginF (l : List Acc) (i q n : Int) : List Acc × Int := changeF l i (beginS q n)
def eqAcc (x y : Acc) : Bool := x.id == y.id && (x.bal == y.bal && x.seq == y.seq)
def eqAccs : List Acc → List Acc → Bool
  | [], [] => true
  | x :: r, y :: s => eqAcc x y && eqAccs r s
  | _, _ => false

theorem eqAcc_refl (x : Acc) : eqAcc x x = true := by simp [eqAcc]
theorem eqAcc_iff {x y : Acc} : eqAcc x y = true ↔ x = y := by cases x; cases y; simp [eqAcc]
theorem eqAccs_refl (l : List Acc) : eqAccs l l = true := by
  induction l with
  | nil => rfl
  | cons x r ih => simp [eqAccs, eqAcc_refl, ih]
theorem okId_iff {n : Int} : okId n = true ↔ 1 ≤ n ∧ n ≤ 1000 := by simp [okId]
theorem okSeq_iff {n : Int} : okSeq n = true ↔ 0 ≤ n ∧ n ≤ 1000000 := by simp [okSeq]

/-- An account is right by itself. -/
def GoodA (x : Acc) : Prop := (1 ≤ x.id ∧ x.id ≤ 1000) ∧ (0 ≤ x.bal ∧ x.bal ≤ 1000000000000) ∧ 0 ≤ x.seq ∧ x.seq ≤ 1000000
theorem accsOk_iff (l : List Acc) : ∀ p, accsOk p l = true ↔ (∀ x ∈ l, GoodA x) ∧ (l.map Acc.id).Pairwise (· < ·) ∧ ∀ q, p = some q → ∀ x ∈ l, q < x.id := by
  induction l with
  | nil => intro p; simp [accsOk]
  | cons x r ih =>
    intro p
    simp only [accsOk, Bool.and_eq_true, ih, accOk, okId_iff, okA_iff, okSeq_iff]
    constructor
    · rintro ⟨⟨h1, h2, h3, h4⟩, h5, h6, h7⟩
      have h7' := h7 x.id rfl
      refine ⟨fun y hy => ?_, ?_, fun q hq y hy => ?_⟩
      · rcases List.mem_cons.1 hy with rfl | hy
        · exact ⟨h1, h3, h4⟩
        · exact h5 y hy
      · simp only [List.map_cons, List.pairwise_cons]
        refine ⟨fun b hb => ?_, h6⟩
        obtain ⟨y, hy, rfl⟩ := List.mem_map.1 hb
        exact h7' y hy
      · subst hq
        have h2' : q < x.id := by simpa [ltO] using h2
        rcases List.mem_cons.1 hy with rfl | hy
        · exact h2'
        · have := h7' y hy; omega
    · rintro ⟨h1, h2, h3⟩
      obtain ⟨g1, g2, g3⟩ := h1 x (by simp)
      simp only [List.map_cons, List.pairwise_cons] at h2
      refine ⟨⟨g1, ?_, g2, g3⟩, fun y hy => h1 y (by simp [hy]), h2.2, fun q hq y hy => ?_⟩
      · cases p with
        | none => rfl
        | some q => simpa [ltO] using h3 q rfl x (by simp)
      · cases hq; exact h2.1 _ (List.mem_map.2 ⟨y, hy, rfl⟩)
/-- Accounts are right. -/
def RightA (l : List Acc) : Prop := l.length ≤ 20 ∧ (∀ x ∈ l, GoodA x) ∧ (l.map Acc.id).Pairwise (· < ·)
theorem chkA_zero {l : List Acc} : chkA l = 0 ↔ RightA l := by
  unfold chkA RightA
  by_cases h : 20 < l.length
  · rw [if_pos h]; constructor
    · intro q; exact absurd q (by decide)
    · rintro ⟨q, _⟩; omega
  · rw [if_neg h]
    have e := accsOk_iff l none
    by_cases k : accsOk none l = true
    · rw [if_pos k]
      obtain ⟨h1, h2, _⟩ := e.1 k
      exact ⟨fun _ => ⟨by omega, h1, h2⟩, fun _ => rfl⟩
    · rw [if_neg k]
      refine ⟨fun q => absurd q (by decide), fun ⟨_, h1, h2⟩ => absurd (e.2 ⟨h1, h2, fun q hq => (by cases hq)⟩) k⟩

theorem wsumA_eq (l : List Acc) : ∀ (s m : Int), 0 ≤ s → s ≤ m → (∀ x ∈ l, 0 ≤ x.bal ∧ x.bal ≤ 1000000000000) → m + 1000000000000 * l.length ≤ 1000000000000000 → wsumA s l = s + tot l := by
  induction l with
  | nil => intro s m h1 h2 h3 h4; simp [wsumA, tot]
  | cons x r ih =>
    intro s m h1 h2 h3 h4
    obtain ⟨b1, b2⟩ := h3 x (by simp)
    simp only [List.length_cons] at h4
    have hw : wrap64 (s + x.bal) = s + x.bal := IntWalk.wrap64_in _ (by omega)
    simp only [wsumA, hw]
    rw [ih (s + x.bal) (m + 1000000000000) (by omega) (by omega) (fun y hy => h3 y (by simp [hy])) (by omega)]
    simp only [tot, List.map_cons, List.sum_cons]
    omega
theorem wsumA_right {l : List Acc} (h : chkA l = 0) : wsumA 0 l = tot l := by
  obtain ⟨h1, h2, _⟩ := chkA_zero.1 h
  rw [wsumA_eq l 0 0 (by omega) (by omega) (fun x hx => (h2 x hx).2.1) (by omega)]; omega
theorem tot_bd {l : List Acc} (h : ∀ x ∈ l, 0 ≤ x.bal ∧ x.bal ≤ 1000000000000) : 0 ≤ tot l ∧ tot l ≤ 1000000000000 * l.length := by
  induction l with
  | nil => simp [tot]
  | cons x r ih =>
    have := ih (fun y hy => h y (by simp [hy]))
    have := h x (by simp)
    simp only [tot, List.map_cons, List.sum_cons, List.length_cons] at *
    omega

theorem idxA_cases (l : List Acc) (i : Int) : (idxA l i = -1 ∧ ∀ x ∈ l, ¬ x.id = i) ∨ ∃ j : Nat, j < l.length ∧ idxA l i = (j : Int) ∧ (nth l j).id = i := by
  rcases idxF_spec (hasId i) l 0 with ⟨h1, h2⟩ | ⟨j, j1, j2, j3, _⟩
  · exact .inl ⟨h1, fun x hx e => by have := h2 x hx; simp [hasId, e] at this⟩
  · exact .inr ⟨j, j1, by unfold idxA; rw [j2]; simp, by simpa [hasId] using j3⟩
theorem findA_no {l : List Acc} {i : Int} (h : idxA l i < 0) : findA l i = (⟨0, 0, 0⟩, false) := by unfold findA; rw [if_pos h]
theorem findA_yes {l : List Acc} {i : Int} (h : ¬ idxA l i < 0) : findA l i = (nth l (idxA l i).toNat, true) := by unfold findA; rw [if_neg h]
/-- An account of a list is found by its number, in a list where each number is there once. -/
theorem id_inj {l : List Acc} (h : (l.map Acc.id).Pairwise (· < ·)) {j k : Nat} (hj : j < l.length) (hk : k < l.length) (e : (nth l j).id = (nth l k).id) : j = k := by
  rw [List.pairwise_iff_getElem] at h
  rw [nth_getElem l j hj, nth_getElem l k hk] at e
  rcases Nat.lt_trichotomy j k with q | q | q
  · have := h j k (by simpa using hj) (by simpa using hk) q; simp only [List.getElem_map] at this; omega
  · exact q
  · have := h k j (by simpa using hk) (by simpa using hj) q; simp only [List.getElem_map] at this; omega
theorem idxA_at {l : List Acc} (h : (l.map Acc.id).Pairwise (· < ·)) {j : Nat} (hj : j < l.length) : idxA l (nth l j).id = (j : Int) := by
  rcases idxA_cases l (nth l j).id with ⟨_, h2⟩ | ⟨k, k1, k2, k3⟩
  · exact absurd rfl (h2 _ (nth_mem l j hj))
  · rw [k2, id_inj h k1 hj k3]
theorem findA_at {l : List Acc} (h : (l.map Acc.id).Pairwise (· < ·)) {j : Nat} (hj : j < l.length) : findA l (nth l j).id = (nth l j, true) := by
  have e := idxA_at h hj
  rw [findA_yes (by omega), e]; simp
theorem mem_nth {α : Type} [Inhabited α] {l : List α} {x : α} (h : x ∈ l) : ∃ j, j < l.length ∧ nth l j = x := by
  obtain ⟨j, hj, e⟩ := List.mem_iff_getElem.1 h
  exact ⟨j, hj, by rw [nth_getElem l j hj, e]⟩
theorem nth_set {α : Type} [Inhabited α] (l : List α) (i : Nat) (x : α) (j : Nat) (hj : j < l.length) : nth (l.set i x) j = if i = j then x else nth l j := by
  rw [nth_getElem _ j (by simpa using hj), List.getElem_set]
  split
  · rfl
  · rw [nth_getElem l j hj]
theorem ids_set {l : List Acc} {i : Nat} {x : Acc} (hi : i < l.length) (h : x.id = (nth l i).id) : (l.set i x).map Acc.id = l.map Acc.id := by
  rw [List.map_set, h, nth_getElem l i hi]
  have : (l.map Acc.id)[i]'(by simpa using hi) = (l[i]).id := by simp
  rw [← this, List.set_getElem_self]
theorem right_set {l : List Acc} {i : Nat} {x : Acc} (hr : RightA l) (hi : i < l.length) (h : x.id = (nth l i).id) (hg : GoodA x) : RightA (l.set i x) := by
  obtain ⟨h1, h2, h3⟩ := hr
  refine ⟨by simpa using h1, fun y hy => ?_, by rw [ids_set hi h]; exact h3⟩
  rcases List.mem_or_eq_of_mem_set hy with q | q
  · exact h2 y q
  · exact q ▸ hg
theorem tot_set {l : List Acc} {i : Nat} {x : Acc} (hi : i < l.length) : tot (l.set i x) = tot l - (nth l i).bal + x.bal := by
  induction l generalizing i with
  | nil => simp at hi
  | cons y r ih =>
    cases i with
    | zero => simp [tot, nth]; omega
    | succ i =>
      have := ih (i := i) (by simpa using hi)
      have e : nth (y :: r) (i + 1) = nth r i := by simp [nth]
      rw [e]
      simp only [tot, List.set_cons_succ, List.map_cons, List.sum_cons] at *
      omega
end Go.Proofs.YtbfafljcclfeaaaGreatDoor

/- Plain functions on trust lines and on ledgers' holdings, as the program and the reference compute them, and laws on them. No program stands here. -/
namespace Go.Proofs.YtbfafljcclfeaaaGreatDoor
set_option linter.unusedSimpArgs false
set_option linter.unusedVariables false
set_option linter.unnecessarySimpa false
set_option linter.unusedSectionVars false
set_option maxRecDepth 100000
open Go.RowKit Go.Proofs.Grow Go.Sort

structure Lin where
  acc : Int
  code : ByteArray
  iss : Int
  bal : Int
  lim : Int
instance : Inhabited Lin := ⟨⟨0, ⟨#[]⟩, 0, 0, 0⟩⟩
def encL (x : Lin) : List Value := [.int .i64 x.acc, .string x.code, .int .i64 x.iss, .int .i64 x.bal, .int .i64 x.lim]

def eqS (u v : ByteArray) : Bool := u.toList == v.toList
theorem eqS_iff {u v : ByteArray} : eqS u v = true ↔ u = v := by
  simp only [eqS, beq_iff_eq]
  constructor
  · intro h
    have : u.data.toList = v.data.toList := by simpa [ByteArray.toList_eq] using h
    cases u; cases v; simp only [Array.toList_inj] at this; rw [this]
  · rintro rfl; rfl
/-- Two assets are equal. -/
def eqT (u : ByteArray) (i : Int) (v : ByteArray) (j : Int) : Bool := eqS u v && i == j
theorem eqT_iff {u v : ByteArray} {i j : Int} : eqT u i v j = true ↔ u = v ∧ i = j := by simp [eqT, eqS_iff]

/-- A line comes before a key. -/
def befL (x : Lin) (a : Int) (u : ByteArray) (i : Int) : Bool := decide (x.acc < a) || (x.acc == a && lessA x.code x.iss u i)
def ordL (x : Lin) (a : Int) (u : ByteArray) (i : Int) : Int := orI [cmpI x.acc a, ordA x.code x.iss u i]
def befO : Option Lin → Lin → Bool
  | none, _ => true
  | some q, x => befL q x.acc x.code x.iss
def linOk (all : List Acc) (p : Option Lin) (x : Lin) : Bool :=
  (findA all x.acc).2 && (assetB x.code x.iss && (!nativeB x.code x.iss && (!(x.iss == x.acc) && (okA x.lim && (!decide (x.bal < 0) && (!decide (x.lim < x.bal) && befO p x))))))
def linsOk (all : List Acc) : Option Lin → List Lin → Bool
  | _, [] => true
  | p, x :: r => linOk all p x && linsOk all (some x) r
def chkL (l : List Lin) (all : List Acc) : Int := if ¬ chkA all = 0 then chkA all else if 60 < l.length then 3 else if linsOk all none l = true then 0 else 74
def prevL {α : Type} [Inhabited α] (l : List α) (k : Nat) : Option α := if k = 0 then none else some (nth l (k - 1))
def hasKey (a : Int) (u : ByteArray) (i : Int) (x : Lin) : Bool := x.acc == a && eqT x.code x.iss u i
def idxL (l : List Lin) (a : Int) (u : ByteArray) (i : Int) : Int := idxF (hasKey a u i) 0 l
def findL (l : List Lin) (a : Int) (u : ByteArray) (i : Int) : Lin × Bool :=
  if idxL l a u i < 0 then (⟨0, ⟨#[]⟩, 0, 0, 0⟩, false) else (nth l (idxL l a u i).toNat, true)
/-- The sum of the balances of an asset, as it is computed, with wrapping. -/
def issF (u : ByteArray) (i : Int) : Int → List Lin → Int
  | s, [] => s
  | s, x :: r => issF u i (if eqT x.code x.iss u i = true then wrap64 (s + x.bal) else s) r
def issued (l : List Lin) (u : ByteArray) (i : Int) : Int := issF u i 0 l
def insL (y : Lin) : List Lin → List Lin
  | [] => [y]
  | x :: r => if befL x y.acc y.code y.iss = true then x :: insL y r else y :: x :: r
def limitF (l : List Lin) (a : Int) (u : ByteArray) (i n : Int) : List Lin × Int :=
  if assetB u i = false ∨ nativeB u i = true ∨ i = a ∨ a < 1 ∨ 1000 < a then ([], 71) else if okA n = false then ([], 65) else
  if idxL l a u i < 0 then
    (if n = 0 then (l, 0) else if 60 ≤ l.length then ([], 3) else (insL ⟨a, u, i, 0, n⟩ l, 0))
  else
    (if n < (nth l (idxL l a u i).toNat).bal then ([], 70) else if n = 0 ∧ (nth l (idxL l a u i).toNat).bal = 0 then (l.eraseIdx (idxL l a u i).toNat, 0) else
      (l.set (idxL l a u i).toNat { nth l (idxL l a u i).toNat with lim := n }, 0))

structure Off where
  id : Int
  seller : Int
  sc : ByteArray
  si : Int
  bc : ByteArray
  bi : Int
  amt : Int
  num : Int
  den : Int
instance : Inhabited Off := ⟨⟨0, 0, ⟨#[]⟩, 0, ⟨#[]⟩, 0, 0, 0, 0⟩⟩
def encO (x : Off) : List Value := [.int .i64 x.id, .int .i64 x.seller, .string x.sc, .int .i64 x.si, .string x.bc, .int .i64 x.bi, .int .i64 x.amt, .int .i64 x.num, .int .i64 x.den]
structure Led where
  num : Int
  accs : List Acc
  lins : List Lin
  offs : List Off
  nid : Int
  fees : Int
  link : Int
def led0 : Led := ⟨0, [], [], [], 0, 0, 0⟩

def rightL (g : Led) : Bool := chkL g.lins g.accs == 0
/-- What an account holds of an asset, how much more it can get, and whether it has a place for it. -/
def lookF (g : Led) (a : Int) (u : ByteArray) (i : Int) : Int × Int × Bool :=
  if (findA g.accs a).2 = false ∨ assetB u i = false then (0, 0, false) else
  if nativeB u i = true then ((findA g.accs a).1.bal, 1000000000000 - (findA g.accs a).1.bal, true) else
  if i = a then (1000000000000, 1000000000000, true) else
    ((findL g.lins a u i).1.bal, (findL g.lins a u i).1.lim - (findL g.lins a u i).1.bal, (findL g.lins a u i).2)
def heldF (g : Led) (a : Int) (u : ByteArray) (i : Int) : Int := if rightL g = true then (lookF g a u i).1 else 0
def roomF (g : Led) (a : Int) (u : ByteArray) (i : Int) : Int := if rightL g = true then (lookF g a u i).2.1 else 0
def firstF (g : Led) (a : Int) (u : ByteArray) (i n : Int) : Int :=
  if rightL g = false then 74 else if assetB u i = false then 71 else if (findA g.accs a).2 = false then 67 else if okA n = false then 65 else 0
/-- A number, which may be negative, is added to what an account holds. -/
def addL (g : Led) (a : Int) (u : ByteArray) (i n : Int) : Led :=
  if nativeB u i = true then { g with accs := g.accs.set (idxA g.accs a).toNat { nth g.accs (idxA g.accs a).toNat with bal := (nth g.accs (idxA g.accs a).toNat).bal + n } } else
  if i = a then g else { g with lins := g.lins.set (idxL g.lins a u i).toNat { nth g.lins (idxL g.lins a u i).toNat with bal := (nth g.lins (idxL g.lins a u i).toNat).bal + n } }
def creditF (g : Led) (a : Int) (u : ByteArray) (i n : Int) : Led × Int :=
  if ¬ firstF g a u i n = 0 then (led0, firstF g a u i n) else
  if nativeB u i = true then (if (lookF g a u i).2.1 < n then (led0, 65) else (addL g a u i n, 0)) else
  if (lookF g a u i).2.2 = false ∨ (lookF g a u i).2.1 < n then (led0, 70) else (addL g a u i n, 0)
def debitF (g : Led) (a : Int) (u : ByteArray) (i n : Int) : Led × Int :=
  if ¬ firstF g a u i n = 0 then (led0, firstF g a u i n) else
  if (lookF g a u i).2.2 = false then (led0, 70) else if (lookF g a u i).1 < n then (led0, 66) else (addL g a u i (-n), 0)
def eqLin (x y : Lin) : Bool := x.acc == y.acc && (eqS x.code y.code && (x.iss == y.iss && (x.bal == y.bal && x.lim == y.lim)))
def eqLins : List Lin → List Lin → Bool
  | [], [] => true
  | x :: r, y :: s => eqLin x y && eqLins r s
  | _, _ => false
def eqOff (x y : Off) : Bool := x.id == y.id && (x.seller == y.seller && (eqS x.sc y.sc && (x.si == y.si && (eqS x.bc y.bc && (x.bi == y.bi && (x.amt == y.amt && (x.num == y.num && x.den == y.den)))))))
def eqOffs : List Off → List Off → Bool
  | [], [] => true
  | x :: r, y :: s => eqOff x y && eqOffs r s
  | _, _ => false
def eqLed (g h : Led) : Bool := g.num == h.num && (g.nid == h.nid && (g.fees == h.fees && (g.link == h.link && (eqAccs g.accs h.accs && (eqLins g.lins h.lins && eqOffs g.offs h.offs)))))
end Go.Proofs.YtbfafljcclfeaaaGreatDoor

/- Plain functions on offers, as the program and the reference compute them. No program stands here. -/
namespace Go.Proofs.YtbfafljcclfeaaaGreatDoor
set_option linter.unusedSimpArgs false
set_option linter.unusedVariables false
set_option linter.unnecessarySimpa false
set_option linter.unusedSectionVars false
set_option maxRecDepth 100000
open Go.RowKit Go.Proofs.Grow Go.Sort

def leP : Option Off → Int → Bool
  | none, _ => false
  | some q, n => decide (n ≤ q.id)
def offOk (g : Led) (p : Option Off) (x : Off) : Bool :=
  (findA g.accs x.seller).2 && (!decide (x.id < 1) && (!decide (g.nid ≤ x.id) && (!leP p x.id && (assetB x.sc x.si && (assetB x.bc x.bi && (!eqT x.sc x.si x.bc x.bi && (!decide (x.amt < 1) && (okA x.amt &&
    (!((redF x.num x.den).1 == 0) && (!((redF x.num x.den).1 != x.num) && !((redF x.num x.den).2 != x.den)))))))))))
def offsOk (g : Led) : Option Off → List Off → Bool
  | _, [] => true
  | p, x :: r => offOk g p x && offsOk g (some x) r
def headOk (g : Led) : Bool := !decide (g.nid < 1) && (!decide (1000000 < g.nid) && (okA g.fees && (!decide (g.num < 0) && !decide (1000000 < g.num))))
def chkO (g : Led) : Int := if ¬ chkL g.lins g.accs = 0 then chkL g.lins g.accs else if 40 < g.offs.length then 3 else if headOk g = true ∧ offsOk g none g.offs = true then 0 else 74
def betO (x y : Off) : Bool := decide (cmpP x.num x.den y.num y.den < 0) || (cmpP x.num x.den y.num y.den == 0 && decide (x.id < y.id))
def pairO (u : ByteArray) (i : Int) (v : ByteArray) (j : Int) (x : Off) : Bool := eqT x.sc x.si u i && eqT x.bc x.bi v j
/-- Put into a list, behind all that are not worse. -/
def putO (y : Off) : List Off → List Off
  | [] => [y]
  | x :: r => if betO y x = true then y :: x :: r else x :: putO y r
def bookF (u : ByteArray) (i : Int) (v : ByteArray) (j : Int) : List Off → List Off → List Off
  | o, [] => o
  | o, x :: r => bookF u i v j (if pairO u i v j x = true then putO x o else o) r
def bookO (g : Led) (u : ByteArray) (i : Int) (v : ByteArray) (j : Int) : List Off := bookF u i v j [] g.offs
def bookI (g : Led) (u : ByteArray) (i : Int) (v : ByteArray) (j : Int) : List Int := if chkO g = 0 then (bookO g u i v j).map Off.id else []
def costF (x : Off) (n : Int) : Int × Int := upF n x.num x.den
/-- The greatest amount, up to a most, whose cost is at most some money. -/
def affF (x : Off) (most money : Int) : Int := max 0 (min most (money * x.den / x.num))
def ableF (g : Led) (x : Off) : Int :=
  if ¬ chkO g = 0 ∨ priceB x.num x.den = false then 0 else max 0 (min (min x.amt (heldF g x.seller x.sc x.si)) (roomF g x.seller x.bc x.bi * x.den / x.num))
def holdsF (g : Led) (a : Int) (u : ByteArray) (i : Int) : Bool := (findL g.lins a u i).2 || (nativeB u i || i == a)
def addO (g : Led) (a : Int) (u : ByteArray) (i : Int) (v : ByteArray) (j n p q : Int) : Led × Int × Int :=
  if ¬ chkO g = 0 then (led0, 0, chkO g) else if (findA g.accs a).2 = false then (led0, 0, 67) else
  if assetB u i = false ∨ assetB v j = false ∨ eqT u i v j = true then (led0, 0, 71) else
  if n < 1 ∨ okA n = false ∨ priceB p q = false then (led0, 0, 72) else
  if holdsF g a u i = false ∨ holdsF g a v j = false then (led0, 0, 70) else
  if heldF g a u i = 0 then (led0, 0, 66) else
  if g.offs.length = 40 ∨ g.nid = 1000000 then (led0, 0, 3) else
  ({ g with offs := g.offs ++ [⟨g.nid, a, u, i, v, j, n, (redF p q).1, (redF p q).2⟩], nid := g.nid + 1 }, g.nid, 0)
def hasOff (i : Int) (x : Off) : Bool := x.id == i
def idxO (l : List Off) (i : Int) : Int := idxF (hasOff i) 0 l
def cancelF (g : Led) (a i : Int) : Led × Int :=
  if ¬ chkO g = 0 then (led0, chkO g) else if idxO g.offs i < 0 ∨ ¬ (nth g.offs (idxO g.offs i).toNat).seller = a then (led0, 72) else ({ g with offs := g.offs.eraseIdx (idxO g.offs i).toNat }, 0)
end Go.Proofs.YtbfafljcclfeaaaGreatDoor
