/- Nothing is claimed here: code beside its abstract view: regions, branches, blocks, loops. -/
import Derived.Test.YteppnjgobaggaaaAm3
import Derived.Deep.LoopGhost
namespace Go.Am
set_option linter.unusedSimpArgs false
set_option linter.unusedVariables false
set_option linter.unnecessarySimpa false
set_option linter.unusedSectionVars false
set_option maxRecDepth 100000
open Go Go.RowKit Go.Proofs.Grow

section
variable {P : Program} {cx : Cx} {T : Nat → Option AV} {M : Nat → Option AO} {zs : List Z} {Q : Exit → Act → World → Prop}

def Good (P : Program) (T : Nat → Option AV) (M : Nat → Option AO) (zs : List Z) : Prop := ∀ (i : Nat) (z : Z), zs[i]? = some z → StepG P (zs.map (·.1)) z.1 (TS zs T (below i)) (MS zs M (below i)) z.2 ∧ (∀ p ∈ z.2.wr, p.1 ∈ z.2.tch)

theorem wpOp_at (hg : Good P T M zs) {s : Nat → Bool} {i : Nat} {z : Z} (h : Ord zs s i z) (hd : ∀ d, z.1.dst = some d → d < cx.N) {a : Act} {w : World} (hI : Inv cx (TS zs T s) (MS zs M s) a w) {K : Act → World → Prop}
    (hK : ∀ a' w', Inv cx (TS zs T (adds s i)) (MS zs M (adds s i)) a' w' → K a' w') : wpOp P (zs.map (·.1)).toArray Q i K a w := by
  unfold wpOp
  have ho : (zs.map (·.1)).toArray[i]? = some z.1 := by simp [h.get]
  simp only [ho]
  obtain ⟨hst, hw⟩ := hg i z h.get
  have := step_at hst hd (fun t ht => TS_look h ht) (fun g hg => MS_look h hg) hI
  rw [TS_add h, MS_add h hw] at this
  split at this
  · rename_i hwa
    rw [if_pos hwa]
    exact .inl (this.wp (b := a) rfl fun v w2 hv => hK _ _ hv)
  · rename_i hwa
    rw [if_neg hwa]
    exact hK _ _ this

theorem DC_set {ops : List Oper} {s : Array Bool} {i : Nat} (hs : DC ops (fun j => s.getD j false)) (hi : depsIn ops (fun j => s.getD j false) i) (hlt : i < s.size) : DC ops (fun j => (s.setIfInBounds i true).getD j false) := by
  intro j o ho hj e he hb
  by_cases e2 : j = i
  · subst e2; exact getD_set_true (hi o ho e he hb)
  · exact getD_set_true (hs j o ho (getD_set_iff hj e2) e he hb)

theorem region_draw {id : Nat} {a : Act} {w : World} (hm : P.follows .mixedOrders = true) (hback : backB (zs.map (·.1)).toArray = true) (hind : indepB (zs.map (·.1)) (zs.map fun z => foot z.2) = true) (hg : Good P T M zs)
    (hd : ∀ (i : Nat) (z : Z), zs[i]? = some z → ∀ d, z.1.dst = some d → d < cx.N) (hI : Inv cx T M a w) (hQ : ∀ a' w', Inv cx (TS zs T (below zs.length)) (MS zs M (below zs.length)) a' w' → Q .normal a' w') : (Code.region id (zs.map (·.1)).toArray true).wp P Q a w := by
  have main : ∀ (f : Nat) (s : Array Bool) (a : Act) (w : World), s.size = zs.length → DC (zs.map (·.1)) (fun j => s.getD j false) → Inv cx (TS zs T fun j => s.getD j false) (MS zs M fun j => s.getD j false) a w →
      (List.range zs.length).countP (fun i => !s.getD i false) = f → wpAny P .any (zs.map (·.1)).toArray Q f s a w := by
    intro f
    induction f with
    | zero =>
      intro s a w hsz hdc hI hf
      have hall : ∀ i, i < zs.length → s.getD i false = true := by
        intro i hi
        have := List.countP_eq_zero.1 hf i (List.mem_range.2 hi)
        simpa using this
      have e1 : TS zs T (fun j => s.getD j false) = TS zs T (below zs.length) := by
        funext t
        unfold TS
        rw [lastW_congr (q' := fun j => below zs.length j && wT zs t j) fun j hj => by simp only [hall j hj, below]; simp [hj]]
      have e2 : MS zs M (fun j => s.getD j false) = MS zs M (below zs.length) := by
        funext g
        unfold MS
        rw [lastW_congr (q' := fun j => below zs.length j && wM zs g j) fun j hj => by simp only [hall j hj, below]; simp [hj]]
      rw [e1, e2] at hI
      refine ⟨?_, hQ a w hI⟩
      refine List.eq_nil_iff_forall_not_mem.2 fun i hi => ?_
      obtain ⟨h1, o, ho, _⟩ := mem_ready.1 hi
      have hlt : i < zs.length := by
        have := (Array.getElem?_eq_some_iff.1 ho).1
        simpa using this
      have := hall i hlt
      rw [getD_both h1] at this; cases this
    | succ f ih =>
      intro s a w hsz hdc hI hf
      have hex : ∃ i, i < zs.length ∧ s.getD i false = false := by
        refine Classical.byContradiction fun h => ?_
        have : (List.range zs.length).countP (fun i => !s.getD i false) = 0 := List.countP_eq_zero.2 fun i hi => by
          cases hc : s.getD i false
          · exact absurd ⟨i, List.mem_range.1 hi, hc⟩ h
          · simp
        omega
      obtain ⟨k, ⟨hkn, hks⟩, hmin⟩ : ∃ k, (k < zs.length ∧ s.getD k false = false) ∧ ∀ j, j < k → ¬ (j < zs.length ∧ s.getD j false = false) := by
        obtain ⟨i, hi⟩ := hex
        induction i using Nat.strongRecOn with
        | _ i ihi =>
          by_cases h : ∃ j, j < i ∧ (j < zs.length ∧ s.getD j false = false)
          · obtain ⟨j, hj, hj2⟩ := h; exact ihi j hj hj2
          · exact ⟨i, hi, fun j hj hj2 => h ⟨j, hj, hj2⟩⟩
      have hkt : s.getD k true = false := getD_in (by omega) hks
      have hkr : k ∈ Region.ready .any (zs.map (·.1)).toArray s := by
        rw [mem_ready]
        refine ⟨hkt, (zs[k]'hkn).1, by rw [List.getElem?_toArray, List.getElem?_map, List.getElem?_eq_getElem hkn]; rfl, fun e he hb => ?_⟩
        have h := all_range (n := (zs.map (·.1)).toArray.size) (by simpa [backB] using hback) (i := k) (by simpa using hkn)
        simp only [List.getElem?_toArray, List.getElem?_map, List.getElem?_eq_getElem hkn, Option.map_some, Option.getD_some] at h
        have h2 := Array.all_eq_true_iff_forall_mem.1 h e he
        simp only [hb, Bool.not_true, Bool.false_or, decide_eq_true_eq] at h2
        cases hc : s.getD e.on false
        · exact absurd ⟨by omega, hc⟩ (hmin e.on h2)
        · rfl
      refine ⟨fun h0 => absurd h0 (List.ne_nil_of_mem hkr), fun i hi => ?_⟩
      obtain ⟨hun, o, ho', hdeps⟩ := mem_ready.1 hi
      have hin : i < zs.length := by
        have := (Array.getElem?_eq_some_iff.1 ho').1
        simpa using this
      have hz : zs[i]? = some zs[i] := by simp [hin]
      have ho : o = (zs[i]).1 := by simpa [hin] using ho'.symm
      have hdi : depsIn (zs.map (·.1)) (fun j => s.getD j false) i := by
        intro o2 ho2 e he hb
        have : o2 = o := by
          rw [ho]
          have h3 : (zs.map (·.1))[i]? = some (zs[i]).1 := by simp [hin]
          exact Option.some.inj (ho2.symm.trans h3)
        subst this
        exact hdeps e he hb
      have hunf : s.getD i false = false := getD_both hun
      have hord : Ord zs (fun j => s.getD j false) i zs[i] := ⟨hz, hunf, fun j y hy hj hc => indep_spec hind hdc hj hy hz hc hdi, fun j y hy hj hc => by
        cases hsj : s.getD j false
        · rfl
        · have := indep_spec hind hdc hj hz hy hc (fun o2 ho2 e he hb => hdc j o2 ho2 hsj e he hb)
          simp only [hunf] at this; cases this⟩
      have hadds : adds (fun j => s.getD j false) i = fun j => (s.setIfInBounds i true).getD j false := by
        funext j
        unfold adds
        by_cases e : j = i
        · subst e; rw [getD_set_self (by omega)]; simp
        · rw [show (s.setIfInBounds i true).getD j false = s.getD j false from getD_set_ne false (Ne.symm e)]; simp [e]
      refine wpOp_at hg hord (hd i _ hz) hI fun a' w' hI' => ?_
      rw [hadds] at hI'
      refine ih (s.setIfInBounds i true) a' w' (by simpa using hsz) (DC_set hdc hdi (by omega)) hI' ?_
      have hgen : ∀ m, (List.range m).countP (fun j => !s.getD j false) = (List.range m).countP (fun j => !(s.setIfInBounds i true).getD j false) + (if i < m then 1 else 0) := by
        intro m
        induction m with
        | zero => simp
        | succ m ihm =>
          rw [List.range_succ, List.countP_append, List.countP_append, ihm, List.countP_singleton, List.countP_singleton]
          by_cases e : i = m
          · subst e
            rw [getD_set_self (by omega), hunf]
            rw [if_neg (by omega : ¬ i < i), if_pos (by omega : i < i + 1)]
            simp
          · rw [show (s.setIfInBounds i true).getD m false = s.getD m false from getD_set_ne false e]
            have : (i < m + 1) ↔ (i < m) := by omega
            simp only [this]
            omega
      have := hgen zs.length
      rw [if_pos hin] at this
      omega
  refine wp_region_any hm ?_
  have e0 : (fun j => (Array.replicate (zs.map (·.1)).toArray.size false).getD j false) = fun _ => false := by funext j; exact getD_replicate_false _ _
  have e1 : TS zs T (fun j => (Array.replicate (zs.map (·.1)).toArray.size false).getD j false) = T := by
    funext t
    unfold TS
    rw [lastW_none fun j _ => by show ((Array.replicate (zs.map (·.1)).toArray.size false).getD j false && _) = false; rw [getD_replicate_false]; rfl]
  have e2 : MS zs M (fun j => (Array.replicate (zs.map (·.1)).toArray.size false).getD j false) = M := by
    funext t
    unfold MS
    rw [lastW_none fun j _ => by show ((Array.replicate (zs.map (·.1)).toArray.size false).getD j false && _) = false; rw [getD_replicate_false]; rfl]
  have hI1 : Inv cx T M a { w with drawn := w.drawn + 1 } := by
    obtain ⟨μ, h⟩ := hI
    exact ⟨μ, h.drew⟩
  have h0 := main (zs.length) (Array.replicate (zs.map (·.1)).toArray.size false) a { w with drawn := w.drawn + 1 } (by simp) (fun j o _ hj => by
      dsimp only at hj; rw [getD_replicate_false] at hj; cases hj) (by rw [e1, e2]; exact hI1) (by
      have : (fun i => !(Array.replicate (zs.map (·.1)).toArray.size false).getD i false) = fun _ => true := by funext i; rw [getD_replicate_false]; rfl
      rw [this]; simp)
  simpa using h0

theorem region_seq {id : Nat} {a : Act} {w : World} (hg : Good P T M zs)
    (hd : ∀ (i : Nat) (z : Z), zs[i]? = some z → ∀ d, z.1.dst = some d → d < cx.N) (hI : Inv cx T M a w) (hQ : ∀ a' w', Inv cx (TS zs T (below zs.length)) (MS zs M (below zs.length)) a' w' → Q .normal a' w') : (Code.region id (zs.map (·.1)).toArray false).wp P Q a w := by
  refine wp_region ?_
  have main : ∀ (d k : Nat) (a : Act) (w : World), k + d = zs.length → Inv cx (TS zs T (below k)) (MS zs M (below k)) a w → wpOps P (zs.map (·.1)).toArray Q (List.range' k d) a w := by
    intro d
    induction d with
    | zero =>
      intro k a w hk hI
      obtain rfl : k = zs.length := by omega
      exact hQ a w hI
    | succ d ih =>
      intro k a w hk hI
      have hkn : k < zs.length := by omega
      rw [List.range'_succ, wpOps_cons]
      have hz : zs[k]? = some zs[k] := by simp [hkn]
      have hord : Ord zs (below k) k zs[k] := ⟨hz, by simp [below], fun j y _ hj _ => by simp [below, hj], fun j y _ hj _ => by simp [below]; omega⟩
      refine wpOp_at hg hord (hd k _ hz) hI fun a' w' hI' => ?_
      have : adds (below k) k = below (k + 1) := by
        funext j
        unfold adds below
        rw [Bool.eq_iff_iff]; simp; omega
      rw [this] at hI'
      exact ih (k + 1) a' w' (by omega) hI'
  have e1 : TS zs T (below 0) = T := by
    funext t
    unfold TS
    rw [lastW_none fun j _ => by simp [below]]
  have e2 : MS zs M (below 0) = M := by
    funext t
    unfold MS
    rw [lastW_none fun j _ => by simp [below]]
  have := main zs.length 0 a w (by omega) (by rw [e1, e2]; exact hI)
  simpa [List.range_eq_range'] using this
end

/-- The walk of a region, operation by operation. -/
def WD (P : Program) (ops : List Oper) (fin : List (List Nat × List Nat) → List (Nat × AV) → List (Nat × AO) → Prop) : List Oper → List (List Nat × List Nat) → List (Nat × AV) → List (Nat × AO) → Prop
  | [], acc, T, M => fin acc.reverse T M
  | o :: r, acc, T, M => ∃ e, (StepG P ops o (lk T) (lk M) e ∧ ∀ p ∈ e.wr, p.1 ∈ e.tch) ∧ WD P ops fin r (foot e :: acc) (match o.dst with
    | some d => (d, e.val) :: T
    | none => T) (e.wr ++ M)

theorem wT_append {zs more : List Z} {t j : Nat} (hj : j < zs.length) : wT (zs ++ more) t j = wT zs t j := by
  unfold wT; rw [List.getElem?_append_left hj]
theorem wM_append {zs more : List Z} {t j : Nat} (hj : j < zs.length) : wM (zs ++ more) t j = wM zs t j := by
  unfold wM; rw [List.getElem?_append_left hj]
theorem TS_append {zs more : List Z} {T : Nat → Option AV} {i : Nat} (hi : i ≤ zs.length) : TS (zs ++ more) T (below i) = TS zs T (below i) := by
  funext t
  unfold TS
  rw [lastW_trim (n := zs.length) (m := (zs ++ more).length) (by simp) fun j h1 _ => by simp [below]; intro h; omega]
  rw [lastW_congr (q' := fun j => below i j && wT zs t j) fun j hj => by rw [wT_append hj]]
  cases e : lastW (fun j => below i j && wT zs t j) zs.length with
  | none => rfl
  | some j => simp only; rw [List.getElem?_append_left (lastW_lt e).1]
theorem MS_append {zs more : List Z} {M : Nat → Option AO} {i : Nat} (hi : i ≤ zs.length) : MS (zs ++ more) M (below i) = MS zs M (below i) := by
  funext t
  unfold MS
  rw [lastW_trim (n := zs.length) (m := (zs ++ more).length) (by simp) fun j h1 _ => by simp [below]; intro h; omega]
  rw [lastW_congr (q' := fun j => below i j && wM zs t j) fun j hj => by rw [wM_append hj]]
  cases e : lastW (fun j => below i j && wM zs t j) zs.length with
  | none => rfl
  | some j => simp only; rw [List.getElem?_append_left (lastW_lt e).1]
theorem TS_snoc {zs : List Z} {T : Nat → Option AV} (z : Z) : TS (zs ++ [z]) T (below (zs.length + 1)) = upT (TS zs T (below zs.length)) z.1.dst z.2.val := by
  have h : Ord (zs ++ [z]) (below zs.length) zs.length z := ⟨by simp, by simp [below], fun j y _ hj _ => by simp [below, hj], fun j y _ hj _ => by simp [below]; omega⟩
  have h2 := TS_add (T := T) h
  have h3 : adds (below zs.length) zs.length = below (zs.length + 1) := by
    funext j
    unfold adds below
    rw [Bool.eq_iff_iff]; simp; omega
  rw [h3, TS_append (Nat.le_refl _)] at h2
  exact h2.symm
theorem MS_snoc {zs : List Z} {M : Nat → Option AO} (z : Z) (hw : ∀ p ∈ z.2.wr, p.1 ∈ z.2.tch) : MS (zs ++ [z]) M (below (zs.length + 1)) = upM (MS zs M (below zs.length)) z.2.wr := by
  have h : Ord (zs ++ [z]) (below zs.length) zs.length z := ⟨by simp, by simp [below], fun j y _ hj _ => by simp [below, hj], fun j y _ hj _ => by simp [below]; omega⟩
  have h2 := MS_add (M := M) h hw
  have h3 : adds (below zs.length) zs.length = below (zs.length + 1) := by
    funext j
    unfold adds below
    rw [Bool.eq_iff_iff]; simp; omega
  rw [h3, MS_append (Nat.le_refl _)] at h2
  exact h2.symm
theorem lk_cons {α : Type} {d : Nat} {x : α} {T : List (Nat × α)} : lk ((d, x) :: T) = fun t => if d = t then some x else lk T t := by
  funext t
  simp only [lk]
  cases hb : Nat.beq d t
  · have : d ≠ t := fun e => by subst e; simp at hb
    simp [this]
  · have := Nat.eq_of_beq_eq_true hb
    simp [this]
theorem lk_append {α : Type} {l m : List (Nat × α)} : lk (l ++ m) = fun g => match lk l g with
    | some o => some o
    | none => lk m g := by
  funext g
  induction l with
  | nil => simp [lk]
  | cons p r ih =>
    simp only [List.cons_append, lk]
    cases Nat.beq p.1 g
    · exact ih
    · rfl

theorem WD_sound {P : Program} {ops : List Oper} {fin : List (List Nat × List Nat) → List (Nat × AV) → List (Nat × AO) → Prop} {T0 : Nat → Option AV} {M0 : Nat → Option AO} : ∀ (r : List Oper) (zs : List Z) (T : List (Nat × AV)) (M : List (Nat × AO)),
    ops = zs.map (·.1) ++ r → lk T = TS zs T0 (below zs.length) → lk M = MS zs M0 (below zs.length) →
    (∀ (i : Nat) (z : Z), zs[i]? = some z → StepG P ops z.1 (TS zs T0 (below i)) (MS zs M0 (below i)) z.2 ∧ (∀ p ∈ z.2.wr, p.1 ∈ z.2.tch)) →
    WD P ops fin r (zs.map fun z => foot z.2).reverse T M →
    ∃ zs' T' M', ops = zs'.map (·.1) ∧ Good P T0 M0 zs' ∧ lk T' = TS zs' T0 (below zs'.length) ∧ lk M' = MS zs' M0 (below zs'.length) ∧ fin (zs'.map fun z => foot z.2) T' M'
  | [], zs, T, M, hops, hT, hM, hg, h => by
    have hops' : ops = zs.map (·.1) := by simpa using hops
    refine ⟨zs, T, M, hops', fun i z hz => ?_, hT, hM, by simpa [WD] using h⟩
    rw [← hops']; exact hg i z hz
  | o :: r, zs, T, M, hops, hT, hM, hg, h => by
    obtain ⟨e, ⟨hst, hw⟩, h⟩ := h
    refine WD_sound r (zs ++ [(o, e)]) _ _ (by simpa using hops) ?_ ?_ ?_ (by simpa using h)
    · rw [List.length_append, List.length_singleton, TS_snoc, ← hT]
      show lk (match o.dst with | some d => (d, e.val) :: T | none => T) = upT (lk T) o.dst e.val
      cases hd : o.dst with
      | none => funext t; simp [upT]
      | some d => simp only; rw [lk_cons]; funext t; simp [upT]
    · rw [List.length_append, List.length_singleton, MS_snoc _ hw, ← hM]; show lk (e.wr ++ M) = upM (lk M) e.wr; rw [lk_append]; funext g; unfold upM; cases lk e.wr g <;> rfl
    · intro i z hz
      by_cases hi : i < zs.length
      · rw [List.getElem?_append_left hi] at hz
        rw [TS_append (Nat.le_of_lt hi), MS_append (Nat.le_of_lt hi)]
        exact hg i z hz
      · have hi2 : i = zs.length := by
          have := (List.getElem?_eq_some_iff.1 hz).1
          simp at this; omega
        subst hi2
        obtain rfl : (o, e) = z := by simpa using hz
        rw [TS_append (Nat.le_refl _), MS_append (Nat.le_refl _), ← hT, ← hM]
        exact ⟨hst, hw⟩

/-- The abstract view of a run: its slots and its objects. -/
structure St where
  T : List (Nat × AV)
  M : List (Nat × AO)
def InvS (cx : Cx) (s : St) (a : Act) (w : World) : Prop := Inv cx (lk s.T) (lk s.M) a w
def WA (P : Program) (cx : Cx) (c : Code) (Q : Exit → St → Prop) (s : St) : Prop := ∀ a w, InvS cx s a w → c.wp P (fun e a' w' => ∃ s', Q e s' ∧ InvS cx s' a' w') a w
def thn (K : St → Prop) (Q : Exit → St → Prop) : Exit → St → Prop
  | .normal, s => K s
  | e, s => Q e s
def inB (id : Nat) (Q : Exit → St → Prop) : Exit → St → Prop
  | .exit id', s => match Nat.beq id' id with
    | true => Q .normal s
    | false => Q (.exit id') s
  | e, s => Q e s

def dstsB (n : Nat) (ops : List Oper) : Bool := ops.all fun o => match o.dst with
  | some d => Nat.blt d n
  | none => true

section
variable {P : Program} {cx : Cx} {Q : Exit → St → Prop} {s : St}
theorem WA_region {id n : Nat} {ops : List Oper} {draw : Bool} (hm : P.follows .mixedOrders = true) (hn : cx.N = n) (hN : dstsB n ops = true)
    (h : WD P ops (fun fs T M => (draw = true → (backB ops.toArray && indepB ops fs) = true) ∧ Q .normal ⟨T, M⟩) ops [] s.T s.M) : WA P cx (.region id ops.toArray draw) Q s := by
  subst hn
  intro a w hI
  have e1 : ∀ (T : Nat → Option AV), TS [] T (below 0) = T := fun T => rfl
  have e2 : ∀ (M : Nat → Option AO), MS [] M (below 0) = M := fun M => rfl
  obtain ⟨zs, T', M', hops, hg, hT, hM, hf, hq⟩ := WD_sound (ops := ops) (T0 := lk s.T) (M0 := lk s.M) ops [] s.T s.M rfl (e1 _).symm (e2 _).symm (fun i z hz => by simp at hz) (by simpa using h)
  have hd : ∀ (i : Nat) (z : Z), zs[i]? = some z → ∀ d, z.1.dst = some d → d < cx.N := by
    intro i z hz d hd
    have hmem : z.1 ∈ ops := by rw [hops]; exact List.mem_map.2 ⟨z, List.mem_of_getElem? hz, rfl⟩
    have := List.all_eq_true.1 hN z.1 hmem
    rw [hd] at this
    have := Nat.lt_of_lt_of_le (Nat.lt_succ_self d) (Nat.le_of_ble_eq_true this)
    exact this
  have hQ : ∀ a' w', Inv cx (TS zs (lk s.T) (below zs.length)) (MS zs (lk s.M) (below zs.length)) a' w' → ∃ s', Q .normal s' ∧ InvS cx s' a' w' := fun a' w' hI' => ⟨⟨T', M'⟩, hq, by unfold InvS; rw [hT, hM]; exact hI'⟩
  subst hops
  cases draw with
  | true =>
    have hf := hf rfl
    exact region_draw hm hf.1 hf.2 hg hd hI hQ
  | false => exact region_seq hg hd hI hQ

theorem WA_mono {c : Code} {Q' : Exit → St → Prop} (h : WA P cx c Q s) (hq : ∀ e s, Q e s → Q' e s) : WA P cx c Q' s :=
  fun a w hI => wp_mono (h a w hI) fun e a' w' ⟨s', h1, h2⟩ => ⟨s', hq _ _ h1, h2⟩
theorem WA_seq {x y : Code} (h : WA P cx x (thn (WA P cx y Q) Q) s) : WA P cx (.seq x y) Q s := by
  intro a w hI
  refine wp_seq (wp_mono (h a w hI) fun e a' w' ⟨s', h1, h2⟩ => ?_)
  cases e with
  | normal => exact h1 a' w' h2
  | _ => exact ⟨s', h1, h2⟩
theorem WA_skip (h : Q .normal s) : WA P cx .skip Q s := fun _ _ hI => wp_skip ⟨s, h, hI⟩
theorem WA_label {l : Nat} (h : Q .normal s) : WA P cx (.label l) Q s := fun _ _ hI => wp_label ⟨s, h, hI⟩
theorem WA_exit {id : Nat} (h : Q (.exit id) s) : WA P cx (.exit id) Q s := fun _ _ hI => wp_exit ⟨s, h, hI⟩
theorem WA_ret (h : Q .ret s) : WA P cx .ret Q s := fun _ _ hI => wp_ret ⟨s, h, hI⟩
theorem WA_block {id : Nat} {c : Code} (h : WA P cx c (inB id Q) s) : WA P cx (.block id c) Q s := by
  intro a w hI
  refine wp_block (wp_mono (h a w hI) fun e a' w' ⟨s', h1, h2⟩ => ?_)
  cases e with
  | exit id' =>
    simp only [inB] at h1
    simp only [Exit.inBlock]
    split at h1
    · rename_i he; rw [if_pos (Nat.eq_of_beq_eq_true he)]; exact ⟨s', h1, h2⟩
    · rename_i he; rw [if_neg (fun e => by subst e; simp at he)]; exact ⟨s', h1, h2⟩
  | _ => exact ⟨s', h1, h2⟩
theorem InvS.bool {a : Act} {w : World} {c : Operand} {b : Bool} (hI : InvS cx s a w) (hc : evA (lk s.T) c = some (.d (.v (.bool b)))) : a.eval c = .bool b := by
  obtain ⟨μ, hI⟩ := hI
  cases c with
  | tmp t =>
    have := hI.tm t _ hc
    show a.tmps.getD t undef = _
    generalize a.tmps.getD t undef = u at this
    cases this with | d h => cases h; rfl
  | const v =>
    have e : cvA v = .d (.v (.bool b)) := by
      simp only [evA] at hc
      cases hq : cvA v <;> rw [hq] at hc <;> simp at hc <;> rw [hc]
    unfold cvA at e
    split at e
    · cases e
    · simp at e; exact e
  | func f => simp [evA] at hc
  | global g => simp [evA] at hc
theorem WA_cond {c : Operand} {x y : Code} {b : Bool} (hc : evA (lk s.T) c = some (.d (.v (.bool b)))) (ht : b = true → WA P cx x Q s) (hf : b = false → WA P cx y Q s) : WA P cx (.cond c x y) Q s :=
  fun a w hI => wp_cond_split (hI.bool hc) (fun h => ht h a w hI) (fun h => hf h a w hI)
theorem WA_true {c : Operand} {x y : Code} (hc : evA (lk s.T) c = some (.d (.v (.bool true)))) (h : WA P cx x Q s) : WA P cx (.cond c x y) Q s := WA_cond hc (fun _ => h) (fun h => by cases h)
theorem WA_false {c : Operand} {x y : Code} (hc : evA (lk s.T) c = some (.d (.v (.bool false)))) (h : WA P cx y Q s) : WA P cx (.cond c x y) Q s := WA_cond hc (fun h => by cases h) (fun _ => h)

/-- A loop: what holds at a round's head, with the number of rounds that are left. -/
theorem WA_loop {c : Code} (I : Nat → St → Prop) (n0 : Nat) (h0 : I n0 s) (round : ∀ n s, I n s → WA P cx c (thn (fun s' => ∃ n', n' < n ∧ I n' s') Q) s) : WA P cx (.loop c) Q s := by
  intro a w hI
  refine wp_loop_ghost (fun n a w => ∃ s, I n s ∧ InvS cx s a w) n0 ⟨s, h0, hI⟩ fun n a w ⟨s, hn, hs⟩ => ?_
  refine wp_mono (round n s hn a w hs) fun e a' w' ⟨s', h1, h2⟩ => ?_
  cases e with
  | normal =>
    obtain ⟨n', hlt, hn'⟩ := h1
    exact ⟨n', hlt, s', hn', h2⟩
  | _ => exact ⟨s', h1, h2⟩

/-- Another view of the same run. -/
def Le (cx : Cx) (s s' : St) : Prop := ∀ a w, InvS cx s a w → InvS cx s' a w
theorem Le.refl : Le cx s s := fun _ _ h => h
theorem Le.trans {s' s'' : St} (h : Le cx s s') (k : Le cx s' s'') : Le cx s s'' := fun a w hI => k a w (h a w hI)
theorem WA_le {s' : St} {c : Code} (hl : Le cx s s') (h : WA P cx c Q s') : WA P cx c Q s := fun a w hI => h a w (hl a w hI)
end
end Go.Am
