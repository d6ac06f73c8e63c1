/- Plain: deletion; the abstract view with nil slices inside of rows. -/
import Derived.Test.YtbfafljcclfeaaaGreatDoorTnD
namespace Go.Am
set_option linter.unusedSimpArgs false
set_option linter.unusedVariables false
set_option linter.unnecessarySimpa false
set_option linter.unusedSectionVars false
set_option maxRecDepth 100000
open Go Go.RowKit Go.Proofs.Grow

/-- A nil slice inside of data read as an empty one. -/
inductive DN : D → D → Prop
  | refl (x : D) : DN x x
  | nil (sz : Nat) : DN (.v (.slice none 0 0)) (.rows sz [])
  | rows (sz : Nat) (rs rs' : List (List D)) (hl : rs.length = rs'.length) (hr : ∀ (i : Nat) (r r' : List D), rs[i]? = some r → rs'[i]? = some r' → r.length = r'.length)
      (h : ∀ (i : Nat) (r r' : List D) (j : Nat) (c c' : D), rs[i]? = some r → rs'[i]? = some r' → r[j]? = some c → r'[j]? = some c' → DN c c') : DN (.rows sz rs) (.rows sz rs')
theorem VD.norm {H : Nat → Prop} {w : World} {x y : D} (h : DN x y) : ∀ {v : Value}, VD H w x v → VD H w y v := by
  induction h with
  | refl x => exact fun h => h
  | nil sz => intro v h; cases h; exact .nil sz none 0 fun _ => rfl
  | rows sz rs rs' hl hr _ ih =>
    intro v h
    cases h with
    | nil _ a cap hc =>
      obtain rfl : rs' = [] := List.eq_nil_of_length_eq_zero (by simpa using hl.symm)
      exact .nil sz a cap hc
    | rows _ _ b off cap vs hne hcap hlen hb hlt hsz hcell hone hval =>
      have get : ∀ (i : Nat) (r' : List D), rs'[i]? = some r' → ∃ r, rs[i]? = some r ∧ r.length = r'.length := fun i r' h => by
        have hi : i < rs.length := by rw [hl]; exact (List.getElem?_eq_some_iff.1 h).1
        have e : rs[i]? = some rs[i] := List.getElem?_eq_getElem hi
        exact ⟨_, e, hr i _ r' e h⟩
      have gc : ∀ (i : Nat) (r' : List D) (j : Nat) (c' : D), rs'[i]? = some r' → r'[j]? = some c' → ∃ r c, rs[i]? = some r ∧ r[j]? = some c := fun i r' j c' h1 h2 => by
        obtain ⟨r, e1, e2⟩ := get i r' h1
        have hj : j < r.length := by rw [e2]; exact (List.getElem?_eq_some_iff.1 h2).1
        exact ⟨r, r[j], e1, List.getElem?_eq_getElem hj⟩
      rw [hl]
      refine .rows sz rs' b off cap vs (fun e => hne (List.eq_nil_of_length_eq_zero (by rw [hl, e]; rfl))) (by omega) (by omega) hb hlt (fun i r' h1 => ?_) (fun i r' j c' h1 h2 => ?_) (fun i r' j c' h1 h2 => ?_) (fun i r' j c' h1 h2 => ?_)
      · obtain ⟨r, e1, e2⟩ := get i r' h1; rw [← e2]; exact hsz i r e1
      · obtain ⟨r, c, e1, e2⟩ := gc i r' j c' h1 h2; exact hcell i r j c e1 e2
      · obtain ⟨r, c, e1, e2⟩ := gc i r' j c' h1 h2; exact hone i r j c e1 e2
      · obtain ⟨r, c, e1, e2⟩ := gc i r' j c' h1 h2; exact ih i r r' j c c' e1 h1 e2 h2 (hval i r j c e1 e2)
def DNs (r r' : List D) : Prop := r.length = r'.length ∧ ∀ (j : Nat) (c c' : D), r[j]? = some c → r'[j]? = some c' → DN c c'
theorem DNs.nil : DNs [] [] := ⟨rfl, fun j c c' h => by simp at h⟩
theorem DNs.cons {c c' : D} {r r' : List D} (h : DN c c') (k : DNs r r') : DNs (c :: r) (c' :: r') := ⟨by simp [k.1], fun j x y hx hy => by
  cases j with
  | zero => cases hx; cases hy; exact h
  | succ j => exact k.2 j x y hx hy⟩
theorem DNs.refl (r : List D) : DNs r r := ⟨rfl, fun j c c' h h' => by rw [h] at h'; cases h'; exact .refl _⟩
theorem DNs.append {a a' b b' : List D} (h : DNs a a') (k : DNs b b') : DNs (a ++ b) (a' ++ b') := by
  induction a generalizing a' with
  | nil => obtain rfl : a' = [] := List.eq_nil_of_length_eq_zero (by simpa using h.1.symm)
           exact k
  | cons x r ih =>
    cases a' with
    | nil => have := h.1; simp at this
    | cons y s => exact DNs.cons (h.2 0 x y rfl rfl) (ih ⟨by have := h.1; simpa using this, fun j c c' hc hc' => h.2 (j + 1) c c' hc hc'⟩)
theorem VDs.norm {H : Nat → Prop} {w : World} {r r' : List D} {vs : List Value} (h : DNs r r') (k : VDs H w r vs) : VDs H w r' vs := ⟨by rw [← h.1]; exact k.1, fun i c v hc hv => by
  have hi : i < r.length := by rw [h.1]; exact (List.getElem?_eq_some_iff.1 hc).1
  have e : r[i]? = some r[i] := List.getElem?_eq_getElem hi
  exact (k.2 i _ v e hv).norm (h.2 i _ c e hc)⟩
/-- The last row of a slice of the call's own, its nil slices read as empty ones. -/
theorem Le_norm {cx : Cx} {T : List (Nat × AV)} {M : List (Nat × AO)} (g : Nat) {ty sz : Nat} {rs : List (List D)} {r r' : List D} (hg : lk M g = some (.arr ty sz (rs ++ [r]))) (h : DNs r r') : Le cx ⟨T, M⟩ ⟨T, (g, .arr ty sz (rs ++ [r'])) :: M⟩ := by
  rintro a w ⟨μ, hI⟩
  refine ⟨μ, ?_⟩
  rw [← show upM (lk M) [(g, AO.arr ty sz (rs ++ [r']))] = lk ((g, .arr ty sz (rs ++ [r'])) :: M) from upM_cons]
  refine hI.swap hg rfl rfl fun H' hk => ?_
  obtain ⟨v, xs, g1, g2, g3, g4, g5⟩ := hI.ob g _ hg
  refine ⟨v, xs, g1, by rw [show (rs ++ [r']).length = (rs ++ [r]).length by simp]; exact g2, fun q hq => ?_, ?_, g5⟩
  · rcases List.mem_append.1 hq with hq | hq
    · exact g3 q (List.mem_append_left _ hq)
    · obtain rfl : q = r' := by simpa using hq
      rw [← h.1]; exact g3 r (by simp)
  · rw [List.flatten_append] at g4 ⊢
    refine (g4.mono hk).norm (DNs.append (DNs.refl _) ?_)
    simpa using h
end Go.Am
namespace Go.Proofs.YtbfafljcclfeaaaGreatDoor
open Go.RowKit Go.Proofs.Grow Go.Sort

def lowI (t b : Int) : Int := mxI t b - b
def delI (s : Int) : List Int → Int → List Int → Int × List Int
  | [], k, o => (k, o)
  | x :: r, k, o => if hasB s x = true then delI s r (lowI k 1) o else delI s r k (o ++ [x])
mutual
def delT (s : Int) : Tr → Tr
  | .mk k ns is => delL s is (delI s ns (mxI k 0) []).1 (delI s ns (mxI k 0) []).2 []
def delL (s : Int) : List Tr → Int → List Int → List Tr → Tr
  | [], k, ns, o => .mk k ns o
  | t :: r, k, ns, o => if (delT s t).k = 0 then delL s r (lowI k 1) ns o else delL s r k ns (o ++ [delT s t])
end
mutual
def kbT : Tr → Nat
  | .mk k _ is => max k.natAbs (kbL is)
def kbL : List Tr → Nat
  | [] => 0
  | t :: r => max (kbT t) (kbL r)
end
theorem kbL_mem : ∀ {l : List Tr} {x : Tr}, x ∈ l → kbT x ≤ kbL l
  | t :: r, x, h => by
    rcases List.mem_cons.1 h with rfl | h
    · simp only [kbL]; omega
    · have := kbL_mem h; simp only [kbL]; omega
theorem kb_mem {t x : Tr} (h : x ∈ t.is) : kbT x ≤ kbT t := by
  cases t with
  | mk k ns is => have := kbL_mem (l := is) h; simp only [kbT]; omega
theorem kb_k (t : Tr) : t.k.natAbs ≤ kbT t := by cases t; simp only [kbT, Tr.k]; omega
theorem delI_step {s : Int} {l : List Int} {k : Nat} {a : Int} {o : List Int} (h : k < l.length) : delI s (l.drop k) a o = if hasB s (nth l k) = true then delI s (l.drop (k + 1)) (lowI a 1) o else delI s (l.drop (k + 1)) a (o ++ [nth l k]) := by
  rw [drop_nth l k h, delI]
theorem delL_step {s : Int} {l : List Tr} {k : Nat} {a : Int} {ns : List Int} {o : List Tr} (h : k < l.length) : delL s (l.drop k) a ns o = if (delT s (nth l k)).k = 0 then delL s (l.drop (k + 1)) (lowI a 1) ns o else delL s (l.drop (k + 1)) a ns (o ++ [delT s (nth l k)]) := by
  rw [drop_nth l k h, delL]
theorem delI_bd (s : Int) : ∀ (l : List Int) (a : Int) (o : List Int), 0 ≤ a → (0 ≤ (delI s l a o).1 ∧ (delI s l a o).1 ≤ a) ∧ (delI s l a o).2.length ≤ o.length + l.length
  | [], a, o, h => by simp [delI]; omega
  | x :: r, a, o, h => by
    unfold delI
    split
    · have h1 : 0 ≤ lowI a 1 ∧ lowI a 1 ≤ a := by unfold lowI mxI; split <;> omega
      have := delI_bd s r (lowI a 1) o h1.1
      simp only [List.length_cons]; omega
    · have := delI_bd s r a (o ++ [x]) h
      simp only [List.length_cons, List.length_append, List.length_nil] at *; omega
theorem sizL_app : ∀ (l m : List Tr) (a : Int), sizL (l ++ m) a = sizL m (sizL l a)
  | [], m, a => rfl
  | t :: r, m, a => by simp only [List.cons_append, sizL]; exact sizL_app r m _
theorem sizL_add : ∀ (l : List Tr) (a b : Int), sizL l (a + b) = sizL l a + b
  | [], a, b => rfl
  | t :: r, a, b => by simp only [sizL]; rw [show a + b + sizT t = a + sizT t + b by omega]; exact sizL_add r _ b
mutual
theorem del_siz (s : Int) : ∀ t : Tr, sizT (delT s t) ≤ sizT t
  | .mk k ns is => by
    have h1 := delI_bd s ns (mxI k 0) [] (by unfold mxI; split <;> omega)
    have h2 := delL_siz s is (delI s ns (mxI k 0) []).1 (delI s ns (mxI k 0) []).2 []
    simp only [List.length_nil, sizL] at h1 h2
    simp only [delT, sizT]
    have h3 := sizL_add is 0 ((ns.length : Int) + (is.length : Int))
    rw [Int.zero_add] at h3
    omega
theorem delL_siz (s : Int) : ∀ (l : List Tr) (k : Int) (ns : List Int) (o : List Tr), sizT (delL s l k ns o) ≤ (ns.length : Int) + (o.length : Int) + sizL o 0 + (l.length : Int) + sizL l 0
  | [], k, ns, o => by
    simp only [delL, sizT, sizL, List.length_nil]
    have h3 := sizL_add o 0 ((ns.length : Int) + (o.length : Int))
    rw [Int.zero_add] at h3
    omega
  | t :: r, k, ns, o => by
    have e := sizL_add r 0 (sizT t)
    have h1 := del_siz s t
    have h0 := siz_nn t
    unfold delL
    split
    · have := delL_siz s r (lowI k 1) ns o
      simp only [sizL, List.length_cons]
      omega
    · have := delL_siz s r k ns (o ++ [delT s t])
      rw [sizL_app] at this
      simp only [sizL, List.length_cons, List.length_append, List.length_nil] at this ⊢
      omega
end
/-- Who goes, who is changed, who stays. -/
def dtrT (s : Int) (k : Nat) (t : Tr) : Tr := if (delT s t).k = 0 then .mk 1 [(k : Int)] [] else delT s t
def delM (s : Nat) (k : Nat) (m : Mb) : Mb := if s.testBit k = true then ⟨false, .mk 0 [] []⟩ else if m.decl = true then ⟨true, dtrT s k m.t⟩ else m
def delTo (c : List Mb) (s n : Nat) : List Mb := (List.range n).map fun k => delM s k (nth c k)
abbrev delC (c : List Mb) (s : Nat) : List Mb := delTo c s c.length
theorem delTo_succ (c : List Mb) (s n : Nat) : delTo c s (n + 1) = delTo c s n ++ [delM s n (nth c n)] := by
  unfold delTo; rw [List.range_succ, List.map_append]; rfl
theorem delTo_len (c : List Mb) (s n : Nat) : (delTo c s n).length = n := by simp [delTo]
theorem delTo_nth {c : List Mb} {s n k : Nat} (h : k < n) : nth (delTo c s n) k = delM s k (nth c k) := by
  rw [nth_getElem _ k (by rw [delTo_len]; exact h)]; simp [delTo]
theorem delC_ok {c : List Mb} (hc : OkC c) (s : Nat) : OkC (delC c s) := ⟨by rw [delTo_len]; exact hc.len, fun k hk => by
  rw [delTo_len] at hk
  have h1 := hc.siz k hk
  rw [delTo_nth hk]
  unfold delM
  split
  · simp [sizT, sizL]
  · split
    · show sizT (dtrT s k (nth c k).t) ≤ 1000
      unfold dtrT
      split
      · simp [sizT, sizL]
      · exact Int.le_trans (del_siz _ _) h1
    · exact h1⟩
end Go.Proofs.YtbfafljcclfeaaaGreatDoor
