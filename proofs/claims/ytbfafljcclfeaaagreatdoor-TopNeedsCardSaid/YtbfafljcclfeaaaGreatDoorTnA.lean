/- Plain definitions: trusts and configurations. No program stands here. -/
import Derived.Test.YtbfafljcclfeaaaGreatDoorNtB
namespace Go.Proofs.YtbfafljcclfeaaaGreatDoor
set_option linter.unusedSimpArgs false
set_option linter.unusedVariables false
set_option linter.unnecessarySimpa false
set_option linter.unusedSectionVars false
set_option maxRecDepth 100000
open Go.RowKit Go.Proofs.Grow Go.Sort

inductive Tr where
  | mk (k : Int) (ns : List Int) (is : List Tr)
instance : Inhabited Tr := ⟨.mk 0 [] []⟩
def Tr.k : Tr → Int
  | .mk k _ _ => k
def Tr.ns : Tr → List Int
  | .mk _ ns _ => ns
def Tr.is : Tr → List Tr
  | .mk _ _ is => is
def mxI (a b : Int) : Int := if b > a then b else a
mutual
def hT : Tr → Nat
  | .mk _ _ is => hL is + 1
def hL : List Tr → Nat
  | [] => 0
  | t :: r => max (hT t) (hL r)
end
mutual
def sizT : Tr → Int
  | .mk _ ns is => sizL is ((ns.length : Int) + (is.length : Int))
def sizL : List Tr → Int → Int
  | [], a => a
  | t :: r, a => sizL r (a + sizT t)
end
mutual
def depT : Tr → Int
  | .mk _ _ is => depL is 0 + 1
def depL : List Tr → Int → Int
  | [], a => a
  | t :: r, a => depL r (mxI a (depT t))
end
def cntI (s : Int) : List Int → Int → Int
  | [], a => a
  | k :: r, a => cntI s r (if hasB s k = true then a + 1 else a)
mutual
def satT (s : Int) : Tr → Bool
  | .mk k ns is => validS s && decide (satL s is (cntI s ns 0) ≥ k)
def satL (s : Int) : List Tr → Int → Int
  | [], a => a
  | t :: r, a => satL s r (if satT s t = true then a + 1 else a)
end
def useI : List Int → Int → Int
  | [], a => a
  | k :: r, a => useI r (if nodeB k = true then borI a (shlI k) else a)
mutual
def useT : Tr → Int
  | .mk _ ns is => useL is (useI ns 0)
def useL : List Tr → Int → Int
  | [], a => a
  | t :: r, a => useL r (borI a (useT t))
end
/-- The set of nodes, and the first error. -/
def ofI : List Int → Int → Int × Int
  | [], a => (a, 0)
  | k :: r, a => if nodeB k = false then (0, 5) else if hasB a k = true then (0, 6) else ofI r (borI a (shlI k))
mutual
def levT : Tr → Int
  | .mk k ns is => if k < 1 ∨ (ns.length : Int) + (is.length : Int) < k then 4 else if decide (idxF (fun k => !nodeB k) 0 ns ≥ 0) = true then 5 else if (ofI ns 0).2 ≠ 0 then (ofI ns 0).2 else levL is
def levL : List Tr → Int
  | [] => 0
  | t :: r => if levT t ≠ 0 then levT t else levL r
end
def chkT (t : Tr) : Int := if depT t > 4 ∨ sizT t > 200 then 3 else levT t

theorem k_eq (t : Tr) : t = .mk t.k t.ns t.is := by cases t; rfl
theorem hL_mem : ∀ {l : List Tr} {x : Tr}, x ∈ l → hT x ≤ hL l
  | t :: r, x, h => by
    rcases List.mem_cons.1 h with rfl | h
    · simp only [hL]; omega
    · have := hL_mem h; simp only [hL]; omega
theorem hT_mem {t x : Tr} (h : x ∈ t.is) : hT x < hT t := by
  cases t with
  | mk k ns is => have := hL_mem (l := is) h; simp only [hT]; omega
mutual
theorem siz_nn : ∀ t : Tr, 0 ≤ sizT t
  | .mk k ns is => by simp only [sizT]; have := sizL_nn is ((ns.length : Int) + (is.length : Int)); omega
theorem sizL_nn : ∀ (l : List Tr) (a : Int), a ≤ sizL l a
  | [], a => Int.le_refl _
  | t :: r, a => by simp only [sizL]; have := siz_nn t; have := sizL_nn r (a + sizT t); omega
end
theorem sizL_mem : ∀ {l : List Tr} {x : Tr} {a : Int}, x ∈ l → a + sizT x ≤ sizL l a
  | t :: r, x, a, h => by
    simp only [sizL]
    rcases List.mem_cons.1 h with rfl | h
    · exact sizL_nn r _
    · have := sizL_mem (a := a + sizT t) h; have := siz_nn t; omega
theorem siz_mem {t x : Tr} (h : x ∈ t.is) : sizT x ≤ sizT t := by
  cases t with
  | mk k ns is => have := sizL_mem (l := is) (a := (ns.length : Int) + (is.length : Int)) h; simp only [sizT]; omega
theorem siz_len (t : Tr) : (t.ns.length : Int) + (t.is.length : Int) ≤ sizT t := by
  cases t with
  | mk k ns is => simp only [sizT, Tr.ns, Tr.is]; exact sizL_nn _ _
theorem sizL_take {l : List Tr} {k : Nat} {a : Int} : sizL (l.take k) a ≤ sizL l a := by
  induction l generalizing k a with
  | nil => simp [sizL]
  | cons t r ih =>
    cases k with
    | zero => simp only [List.take_zero, sizL]; have := siz_nn t; have := sizL_nn r (a + sizT t); omega
    | succ k => simp only [List.take_succ_cons, sizL]; exact ih
/-- Folds over the first elements of a list. -/
theorem take_fold {α β : Type} [Inhabited α] (F : List α → β → β) (g : β → α → β) (h0 : ∀ a, F [] a = a) (hc : ∀ t r a, F (t :: r) a = F r (g a t)) : ∀ (l : List α) (a : β) {k : Nat}, k < l.length → F (l.take (k + 1)) a = g (F (l.take k) a) (nth l k)
  | [], a, k, h => by simp at h
  | t :: r, a, 0, h => by simp [hc, h0, nth]
  | t :: r, a, k + 1, h => by
    rw [List.take_succ_cons, hc, List.take_succ_cons, hc]
    have := take_fold F g h0 hc r (g a t) (k := k) (by simpa using h)
    rw [this]; rfl
theorem cntI_take {s : Int} {l : List Int} {a : Int} {k : Nat} (h : k < l.length) : cntI s (l.take (k + 1)) a = if hasB s (nth l k) = true then cntI s (l.take k) a + 1 else cntI s (l.take k) a :=
  take_fold (cntI s) (fun a k => if hasB s k = true then a + 1 else a) (fun _ => rfl) (fun _ _ _ => rfl) l a h
theorem satL_take {s : Int} {l : List Tr} {a : Int} {k : Nat} (h : k < l.length) : satL s (l.take (k + 1)) a = if satT s (nth l k) = true then satL s (l.take k) a + 1 else satL s (l.take k) a :=
  take_fold (satL s) (fun a t => if satT s t = true then a + 1 else a) (fun _ => rfl) (fun _ _ _ => rfl) l a h
theorem sizL_take1 {l : List Tr} {a : Int} {k : Nat} (h : k < l.length) : sizL (l.take (k + 1)) a = sizL (l.take k) a + sizT (nth l k) :=
  take_fold sizL (fun a t => a + sizT t) (fun _ => rfl) (fun _ _ _ => rfl) l a h
theorem depL_take {l : List Tr} {a : Int} {k : Nat} (h : k < l.length) : depL (l.take (k + 1)) a = mxI (depL (l.take k) a) (depT (nth l k)) :=
  take_fold depL (fun a t => mxI a (depT t)) (fun _ => rfl) (fun _ _ _ => rfl) l a h
theorem useI_take {l : List Int} {a : Int} {k : Nat} (h : k < l.length) : useI (l.take (k + 1)) a = if nodeB (nth l k) = true then borI (useI (l.take k) a) (shlI (nth l k)) else useI (l.take k) a :=
  take_fold useI (fun a k => if nodeB k = true then borI a (shlI k) else a) (fun _ => rfl) (fun _ _ _ => rfl) l a h
theorem useL_take {l : List Tr} {a : Int} {k : Nat} (h : k < l.length) : useL (l.take (k + 1)) a = borI (useL (l.take k) a) (useT (nth l k)) :=
  take_fold useL (fun a t => borI a (useT t)) (fun _ => rfl) (fun _ _ _ => rfl) l a h
theorem cntI_bd (s : Int) : ∀ (l : List Int) (a : Int), a ≤ cntI s l a ∧ cntI s l a ≤ a + l.length
  | [], a => by simp [cntI]
  | k :: r, a => by
    simp only [cntI, List.length_cons]
    split
    · have := cntI_bd s r (a + 1); omega
    · have := cntI_bd s r a; omega
theorem satL_bd (s : Int) : ∀ (l : List Tr) (a : Int), a ≤ satL s l a ∧ satL s l a ≤ a + l.length
  | [], a => by simp [satL]
  | k :: r, a => by
    simp only [satL, List.length_cons]
    split
    · have := satL_bd s r (a + 1); omega
    · have := satL_bd s r a; omega
mutual
theorem dep_h : ∀ t : Tr, depT t = hT t
  | .mk k ns is => by
    have e := depL_h is 0
    rw [show ((0 : Nat) : Int) = 0 from rfl] at e
    simp only [depT, hT, e]; omega
theorem depL_h : ∀ (l : List Tr) (a : Nat), depL l a = ((max a (hL l) : Nat) : Int)
  | [], a => by simp [depL, hL]
  | t :: r, a => by
    have e : mxI (a : Int) (depT t) = ((max a (hT t) : Nat) : Int) := by rw [dep_h t]; unfold mxI; split <;> omega
    simp only [depL, hL, e, depL_h r]
    omega
end
mutual
theorem h_siz : ∀ t : Tr, (hT t : Int) ≤ sizT t + 1
  | .mk k ns is => by
    simp only [hT, sizT]
    have := hL_siz is ((ns.length : Int) + (is.length : Int)) (by omega)
    omega
theorem hL_siz : ∀ (l : List Tr) (a : Int), (l.length : Int) ≤ a → (hL l : Int) ≤ sizL l a
  | [], a, h => by simp [hL, sizL] at *; exact h
  | t :: r, a, h => by
    have h1 := h_siz t
    have h2 := hL_siz r (a + sizT t) (by have := siz_nn t; simp only [List.length_cons] at h; omega)
    have h3 := sizL_nn r (a + sizT t)
    have := siz_nn t
    simp only [List.length_cons] at h
    simp only [hL, sizL]
    omega
end
end Go.Proofs.YtbfafljcclfeaaaGreatDoor
