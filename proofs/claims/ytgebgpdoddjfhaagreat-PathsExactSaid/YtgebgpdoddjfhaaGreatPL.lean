/- Plain functions: a ledger made out of a source of numbers. No program stands here. -/
import Derived.Test.YtgebgpdoddjfhaaGreatPS
namespace Go.Proofs.YtgebgpdoddjfhaaGreat
set_option linter.unusedSimpArgs false
set_option linter.unusedVariables false
set_option linter.unnecessarySimpa false
set_option linter.unusedSectionVars false
set_option maxRecDepth 100000
open Go Go.RowKit Go.Am Go.Proofs.Grow

def bals : List Int := [0, 5, 100, 1000, 1000]
def lims : List Int := [0, 50, 500, 1000000000000]
def amts : List Int := [1, 10, 90]
def nums : List Int := [1, 2, 3, 7]
def dens : List Int := [1, 2, 3, 5]
/-- The accounts, after k of them, and the source. -/
def accSt (s : Sc) : Nat → List Acc × Sc
  | 0 => ([], s)
  | k + 1 => ((accSt s k).1 ++ [⟨(k : Int) + 1, nth bals ((accSt s k).2.n 5).toNat, ((accSt s k).2.x 5).n 3⟩], ((accSt s k).2.x 5).x 3)
def linStep (i : Int) (u : ByteArray) (j : Int) (t : List Lin × Sc) : List Lin × Sc :=
  if j = i then t else if t.2.n 4 = 0 then (t.1, t.2.x 4) else
    (t.1 ++ [⟨i, u, j, ((t.2.x 4).x 4).n ((if 400 < nth lims ((t.2.x 4).n 4).toNat then 400 else nth lims ((t.2.x 4).n 4).toNat) + 1), nth lims ((t.2.x 4).n 4).toNat⟩], ((t.2.x 4).x 4).x ((if 400 < nth lims ((t.2.x 4).n 4).toNat then 400 else nth lims ((t.2.x 4).n 4).toNat) + 1))
def linIn (i : Int) (t : List Lin × Sc) : Nat → List Lin × Sc
  | 0 => t
  | 1 => linStep i ⟨#[69, 85, 82]⟩ 2 t
  | _ => linStep i ⟨#[85, 83, 68]⟩ 1 (linStep i ⟨#[69, 85, 82]⟩ 2 t)
def linSt (s : Sc) : Nat → List Lin × Sc
  | 0 => ([], s)
  | k + 1 => linIn ((k : Int) + 1) (linSt s k) 2
def offStep (n : Int) (t : Led × Sc) : Led × Sc :=
  let s1 := t.2.x (n - 1 + 1)
  let s2 := s1.x 3
  let s3 := s2.x 3
  let s4 := s3.x 3
  let s5 := s4.x 4
  let r := addO t.1 (1 + t.2.n (n - 1 + 1)) (nth assets3 (s1.n 3).toNat).1 (nth assets3 (s1.n 3).toNat).2 (nth assets3 (s2.n 3).toNat).1 (nth assets3 (s2.n 3).toNat).2 (nth amts (s3.n 3).toNat) (nth nums (s4.n 4).toNat) (nth dens (s5.n 4).toNat)
  (if r.2.2 = 0 then r.1 else t.1, s5.x 4)
def offSt (n : Int) (t : Led × Sc) : Nat → Led × Sc
  | 0 => t
  | k + 1 => offStep n (offSt n t k)
def s3F (s : Sc) : Sc := ((s.x 5).x 50).x 1000
def nF (s : Sc) : Int := 1 + (s3F s).n 5
def accsF (s : Sc) : List Acc × Sc := accSt ((s3F s).x 5) (nF s).toNat
def linsF (s : Sc) : List Lin × Sc := linSt (accsF s).2 (nF s).toNat
def led0F (s : Sc) : Led := ⟨s.n 5, (accsF s).1, (linsF s).1, [], 1, (s.x 5).n 50, IntKind.u64.wrap (((s.x 5).x 50).n 1000)⟩
/-- The ledger that is made, and the source behind it. -/
def ledF (s : Sc) : Led × Sc := offSt (nF s) (led0F s, (linsF s).2.x 6) ((linsF s).2.n 6).toNat

theorem lims_bd (x : Int) (h0 : 0 ≤ x) (h : x ≤ 3) : 0 ≤ (if 400 < nth lims x.toNat then 400 else nth lims x.toNat) ∧ (if 400 < nth lims x.toNat then 400 else nth lims x.toNat) ≤ 400 := by
  rcases (by omega : x = 0 ∨ x = 1 ∨ x = 2 ∨ x = 3) with rfl | rfl | rfl | rfl <;> decide
theorem lims_sc (t : Sc) : 0 ≤ (if 400 < nth lims (t.n lims.length).toNat then 400 else nth lims (t.n lims.length).toNat) ∧ (if 400 < nth lims (t.n lims.length).toNat then 400 else nth lims (t.n lims.length).toNat) ≤ 400 :=
  lims_bd _ (t.n_bd (k := lims.length) (by decide)).1 (by have := (t.n_bd (k := lims.length) (by decide)).2; simpa [lims] using this)
theorem linStep_a {i j : Int} {u : ByteArray} {t : List Lin × Sc} (h : j = i) : linStep i u j t = t := if_pos h
theorem linStep_b {i j : Int} {u : ByteArray} {t : List Lin × Sc} (h : ¬ j = i) (h2 : t.2.n 4 = 0) : linStep i u j t = (t.1, t.2.x 4) := by unfold linStep; rw [if_neg h, if_pos h2]
theorem linStep_c {i j : Int} {u : ByteArray} {t : List Lin × Sc} (h : ¬ j = i) (h2 : ¬ t.2.n 4 = 0) : linStep i u j t =
    (t.1 ++ [⟨i, u, j, ((t.2.x 4).x 4).n ((if 400 < nth lims ((t.2.x 4).n 4).toNat then 400 else nth lims ((t.2.x 4).n 4).toNat) + 1), nth lims ((t.2.x 4).n 4).toNat⟩], ((t.2.x 4).x 4).x ((if 400 < nth lims ((t.2.x 4).n 4).toNat then 400 else nth lims ((t.2.x 4).n 4).toNat) + 1)) := by unfold linStep; rw [if_neg h, if_neg h2]
theorem map_snoc {α β : Type} (f : α → β) (l : List α) (x : α) : l.map f ++ [f x] = (l ++ [x]).map f := by simp
theorem nF_bd (s : Sc) : 1 ≤ nF s ∧ nF s ≤ 5 := by
  have := (s3F s).n_bd (k := 5) (by decide)
  unfold nF; omega
theorem accSt_ok {s : Sc} (h : s.ok) (k : Nat) : (accSt s k).2.ok := by
  induction k with
  | zero => exact h
  | succ k ih => exact Sc.ok_x (Sc.ok_x ih 5) 3
theorem accSt_len (s : Sc) (k : Nat) : (accSt s k).1.length = k := by
  induction k with
  | zero => rfl
  | succ k ih => simp [accSt, ih]
theorem linStep_ok {t : List Lin × Sc} (h : t.2.ok) (i j : Int) (u : ByteArray) : (linStep i u j t).2.ok := by
  unfold linStep
  split
  · exact h
  · split
    · exact Sc.ok_x h 4
    · exact Sc.ok_x (Sc.ok_x (Sc.ok_x h 4) 4) _
theorem linStep_len (t : List Lin × Sc) (i j : Int) (u : ByteArray) : (linStep i u j t).1.length ≤ t.1.length + 1 := by
  unfold linStep
  split
  · omega
  · split <;> simp
theorem linIn_ok {t : List Lin × Sc} (h : t.2.ok) (i : Int) (k : Nat) : (linIn i t k).2.ok := by
  unfold linIn
  split
  · exact h
  · exact linStep_ok h _ _ _
  · exact linStep_ok (linStep_ok h _ _ _) _ _ _
theorem linIn_len (t : List Lin × Sc) (i : Int) (k : Nat) : (linIn i t k).1.length ≤ t.1.length + 2 := by
  have h1 := linStep_len t i 2 ⟨#[69, 85, 82]⟩
  have h2 := linStep_len (linStep i ⟨#[69, 85, 82]⟩ 2 t) i 1 ⟨#[85, 83, 68]⟩
  unfold linIn
  split <;> omega
theorem linSt_ok {s : Sc} (h : s.ok) (k : Nat) : (linSt s k).2.ok := by
  induction k with
  | zero => exact h
  | succ k ih => exact linIn_ok ih _ _
theorem linSt_len (s : Sc) (k : Nat) : (linSt s k).1.length ≤ 2 * k := by
  induction k with
  | zero => exact Nat.le_refl _
  | succ k ih => have := linIn_len (linSt s k) ((k : Int) + 1) 2; show (linIn _ _ 2).1.length ≤ _; omega
theorem ite_no {c : Prop} [Decidable c] {A B : Led × Int × Int} (h : (if c then A else B).2.2 = 0) (hA : c → ¬ A.2.2 = 0) : ¬ c ∧ B.2.2 = 0 := by
  by_cases hc : c
  · rw [if_pos hc] at h; exact absurd h (hA hc)
  · rw [if_neg hc] at h; exact ⟨hc, h⟩
theorem addO_same {g : Led} {a : Int} {u : ByteArray} {i : Int} {v : ByteArray} {j n p q : Int} (h : (addO g a u i v j n p q).2.2 = 0) : (addO g a u i v j n p q).1.accs = g.accs ∧ (addO g a u i v j n p q).1.lins = g.lins ∧ (addO g a u i v j n p q).1.offs.length = g.offs.length + 1 := by
  unfold addO at h ⊢
  obtain ⟨h1, h⟩ := ite_no h (fun hc => hc)
  rw [if_neg h1]
  obtain ⟨h2, h⟩ := ite_no h (fun _ => (by intro e; cases e))
  rw [if_neg h2]
  obtain ⟨h3, h⟩ := ite_no h (fun _ => (by intro e; cases e))
  rw [if_neg h3]
  obtain ⟨h4, h⟩ := ite_no h (fun _ => (by intro e; cases e))
  rw [if_neg h4]
  obtain ⟨h5, h⟩ := ite_no h (fun _ => (by intro e; cases e))
  rw [if_neg h5]
  obtain ⟨h6, h⟩ := ite_no h (fun _ => (by intro e; cases e))
  rw [if_neg h6]
  obtain ⟨h7, h⟩ := ite_no h (fun _ => (by intro e; cases e))
  rw [if_neg h7]
  exact ⟨rfl, rfl, by simp⟩
theorem offStep_same (n : Int) (t : Led × Sc) : (offStep n t).1.accs = t.1.accs ∧ (offStep n t).1.lins = t.1.lins ∧ (offStep n t).1.offs.length ≤ t.1.offs.length + 1 := by
  unfold offStep
  dsimp only
  split
  · rename_i h
    obtain ⟨h1, h2, h3⟩ := addO_same h
    exact ⟨h1, h2, by omega⟩
  · exact ⟨rfl, rfl, by omega⟩
theorem offSt_len (n : Int) (t : Led × Sc) (k : Nat) : (offSt n t k).1.accs = t.1.accs ∧ (offSt n t k).1.lins = t.1.lins ∧ (offSt n t k).1.offs.length ≤ t.1.offs.length + k := by
  induction k with
  | zero => exact ⟨rfl, rfl, by show t.1.offs.length ≤ _; omega⟩
  | succ k ih =>
    obtain ⟨h1, h2, h3⟩ := offStep_same n (offSt n t k)
    exact ⟨h1.trans ih.1, h2.trans ih.2.1, by show (offStep _ _).1.offs.length ≤ _; omega⟩
theorem offStep_sc (n : Int) (t : Led × Sc) : (offStep n t).2 = (((((t.2.x (n - 1 + 1)).x 3).x 3).x 3).x 4).x 4 := by simp only [offStep]
theorem offSt_ok {n : Int} {t : Led × Sc} (h : t.2.ok) (k : Nat) : (offSt n t k).2.ok := by
  induction k with
  | zero => exact h
  | succ k ih =>
    have e : (offSt n t (k + 1)).2 = (((((((offSt n t k).2.x (n - 1 + 1)).x 3).x 3).x 3).x 4).x 4) := offStep_sc n (offSt n t k)
    rw [e]
    repeat (first | with_reducible exact ih | with_reducible apply Sc.ok_x)
/-- What is asked of the reference in one step. -/
def askF (n : Int) (t : Led × Sc) : Led × Int × Int :=
  addO t.1 (1 + t.2.n (n - 1 + 1)) (nth assets3 ((t.2.x (n - 1 + 1)).n 3).toNat).1 (nth assets3 ((t.2.x (n - 1 + 1)).n 3).toNat).2 (nth assets3 (((t.2.x (n - 1 + 1)).x 3).n 3).toNat).1 (nth assets3 (((t.2.x (n - 1 + 1)).x 3).n 3).toNat).2
    (nth amts ((((t.2.x (n - 1 + 1)).x 3).x 3).n 3).toNat) (nth nums (((((t.2.x (n - 1 + 1)).x 3).x 3).x 3).n 4).toNat) (nth dens ((((((t.2.x (n - 1 + 1)).x 3).x 3).x 3).x 4).n 4).toNat)
theorem offStep_yes {n : Int} {t : Led × Sc} (h : (askF n t).2.2 = 0) : offStep n t = ((askF n t).1, (((((t.2.x (n - 1 + 1)).x 3).x 3).x 3).x 4).x 4) := by
  have e : offStep n t = (if (askF n t).2.2 = 0 then (askF n t).1 else t.1, (((((t.2.x (n - 1 + 1)).x 3).x 3).x 3).x 4).x 4) := by simp only [offStep, askF]; rfl
  rw [e, if_pos h]
theorem offStep_no {n : Int} {t : Led × Sc} (h : ¬ (askF n t).2.2 = 0) : offStep n t = (t.1, (((((t.2.x (n - 1 + 1)).x 3).x 3).x 3).x 4).x 4) := by
  have e : offStep n t = (if (askF n t).2.2 = 0 then (askF n t).1 else t.1, (((((t.2.x (n - 1 + 1)).x 3).x 3).x 3).x 4).x 4) := by simp only [offStep, askF]; rfl
  rw [e, if_neg h]
theorem offSt_succ (n : Int) (t : Led × Sc) (k : Nat) : offSt n t (k + 1) = offStep n (offSt n t k) := rfl
end Go.Proofs.YtgebgpdoddjfhaaGreat
