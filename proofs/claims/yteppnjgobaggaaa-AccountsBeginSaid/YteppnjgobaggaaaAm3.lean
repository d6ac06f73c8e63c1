/- Nothing is claimed here: a region beside its abstract view: walked once in the order of the text; where the order is drawn, what is not ordered must not touch the same. -/
import Derived.Test.YteppnjgobaggaaaAm2
namespace Go.Am
set_option linter.unusedSimpArgs false
set_option linter.unusedVariables false
set_option linter.unnecessarySimpa false
set_option linter.unusedSectionVars false
set_option maxRecDepth 100000
open Go Go.RowKit Go.Proofs.Grow

/-- The last number below n. -/
def lastW (q : Nat → Bool) : Nat → Option Nat
  | 0 => none
  | n + 1 => if q n then some n else lastW q n
theorem lastW_congr {q q' : Nat → Bool} : ∀ {n : Nat}, (∀ j, j < n → q j = q' j) → lastW q n = lastW q' n
  | 0, _ => rfl
  | n + 1, h => by
    simp only [lastW]
    rw [h n (by omega), lastW_congr (n := n) fun j hj => h j (by omega)]
theorem lastW_top {q : Nat → Bool} {i : Nat} : ∀ {n : Nat}, i < n → q i = true → (∀ j, i < j → j < n → q j = false) → lastW q n = some i
  | 0, h, _, _ => by omega
  | n + 1, h, hi, hj => by
    simp only [lastW]
    by_cases e : i = n
    · subst e; rw [if_pos hi]
    · rw [if_neg (by rw [hj n (by omega) (by omega)]; simp), lastW_top (n := n) (by omega) hi fun j h1 h2 => hj j h1 (by omega)]
theorem lastW_trim {q : Nat → Bool} {n : Nat} : ∀ {m : Nat}, n ≤ m → (∀ j, n ≤ j → j < m → q j = false) → lastW q m = lastW q n
  | 0, h, _ => by obtain rfl : n = 0 := by omega
                  rfl
  | m + 1, h, hj => by
    by_cases e : n = m + 1
    · rw [e]
    · simp only [lastW]
      rw [if_neg (by rw [hj m (by omega) (by omega)]; simp), lastW_trim (m := m) (by omega) fun j h1 h2 => hj j h1 (by omega)]
theorem lastW_lt {q : Nat → Bool} : ∀ {n i : Nat}, lastW q n = some i → i < n ∧ q i = true
  | 0, i, h => by cases h
  | n + 1, i, h => by
    simp only [lastW] at h
    by_cases e : q n = true
    · rw [if_pos e] at h
      obtain rfl : n = i := by simpa using h
      exact ⟨by omega, e⟩
    · rw [if_neg e] at h
      have := lastW_lt h
      exact ⟨by omega, this.2⟩

theorem lastW_none {q : Nat → Bool} : ∀ {n : Nat}, (∀ j, j < n → q j = false) → lastW q n = none
  | 0, _ => rfl
  | n + 1, h => by
    simp only [lastW]
    rw [if_neg (by rw [h n (by omega)]; simp), lastW_none (n := n) fun j hj => h j (by omega)]

abbrev Z := Oper × En
def wT (zs : List Z) (t : Nat) (j : Nat) : Bool := match zs[j]? with
  | some z => z.1.dst == some t
  | none => false
def wM (zs : List Z) (g : Nat) (j : Nat) : Bool := match zs[j]? with
  | some z => (lk z.2.wr g).isSome
  | none => false
/-- The slots when the operations of s are done. -/
def TS (zs : List Z) (T : Nat → Option AV) (s : Nat → Bool) : Nat → Option AV := fun t => match lastW (fun j => s j && wT zs t j) zs.length with
  | some j => (zs[j]?).map (·.2.val)
  | none => T t
/-- The objects when the operations of s are done. -/
def MS (zs : List Z) (M : Nat → Option AO) (s : Nat → Bool) : Nat → Option AO := fun g => match lastW (fun j => s j && wM zs g j) zs.length with
  | some j => (zs[j]?).bind fun z => lk z.2.wr g
  | none => M g

def below (i : Nat) : Nat → Bool := fun j => decide (j < i)
def adds (s : Nat → Bool) (i : Nat) : Nat → Bool := fun j => s j || decide (j = i)

def StepG (P : Program) (ops : List Oper) (o : Oper) (T : Nat → Option AV) (M : Nat → Option AO) (e : En) : Prop :=
  (o.guard = none ∧ StepOK P o T M e) ∨
  (∃ j want q tj b, o.guard = some (j, want) ∧ ops[j]? = some q ∧ q.dst = some tj ∧ T tj = some (.d (.v (.bool b))) ∧ ((b = want ∧ StepOK P o T M e) ∨ (b ≠ want ∧ e = ⟨.d (.v undef), [], []⟩))) ∨
  (∃ j want q tj vs, o.guard = some (j, want) ∧ ops[j]? = some q ∧ q.dst = some tj ∧ T tj = some (.d (.v (.tuple vs))) ∧ e = ⟨.d (.v undef), [], []⟩)

section
variable {P : Program} {cx : Cx} {T T' : Nat → Option AV} {M M' : Nat → Option AO} {a : Act} {w : World} {o : Oper} {ops : List Oper} {e : En}

theorem looks_op {t : Nat} (h : t ∈ opTs o) : t ∈ o.looksAt ops.toArray := by
  unfold Oper.looksAt
  refine List.mem_append_left _ ?_
  obtain ⟨x, hx, he⟩ := List.mem_filterMap.1 h
  refine List.mem_filterMap.2 ⟨x, hx, ?_⟩
  cases x <;> simp_all

theorem step_at (h : StepG P ops o T M e) (hd : ∀ d, o.dst = some d → d < cx.N) (hT : ∀ t ∈ o.looksAt ops.toArray, T' t = T t) (hM : ∀ g ∈ e.tch, M' g = M g) (hI : Inv cx T' M' a w) :
    if Region.wanted o (yielded ops.toArray a.tmps) then GivesF P o a w (fun v w2 => Inv cx (upT T' o.dst e.val) (upM M' e.wr) (a.put o.dst v) w2)
    else Inv cx (upT T' o.dst e.val) (upM M' e.wr) (a.put o.dst undef) w := by
  rcases h with ⟨hg, h⟩ | ⟨j, want, q, tj, b, hg, hq, hqd, hb, h⟩ | ⟨j, want, q, tj, vs, hg, hq, hqd, hb, rfl⟩
  · rw [if_pos (by simp [Region.wanted, hg])]
    exact h.2 cx T' M' a w hd (fun t ht => hT t (looks_op ht)) hM hI
  · have hl : tj ∈ o.looksAt ops.toArray := by
      unfold Oper.looksAt
      refine List.mem_append_right _ ?_
      simp [hg, hq, hqd]
    have hI0 := hI
    obtain ⟨μ, hI⟩ := hI
    have hv := hI.tm tj _ ((hT tj hl).trans hb)
    have hval : a.tmps.getD tj undef = .bool b := by
      generalize a.tmps.getD tj undef = u at hv
      cases hv with | d hv => cases hv; rfl
    have hy : yielded ops.toArray a.tmps j = some b := by
      unfold yielded
      have h1 : a.tmps[tj]? = some (.bool b) := by
        by_cases hlt : tj < a.tmps.size
        · simp [hlt] at hval ⊢; exact hval
        · rw [getD_out _ _ hlt] at hval; cases hval
      simp [hq, hqd, h1]
    have hw : Region.wanted o (yielded ops.toArray a.tmps) = (b == want) := by
      unfold Region.wanted
      simp [hg, hy]
    rcases h with ⟨rfl, h⟩ | ⟨hne, rfl⟩
    · rw [if_pos (by rw [hw]; simp)]
      exact h.2 cx T' M' a w hd (fun t ht => hT t (looks_op ht)) hM hI0
    · rw [if_neg (by rw [hw]; simpa using hne)]
      exact ⟨μ, hI.put (.d (.v _)) hd⟩
  · have hl : tj ∈ o.looksAt ops.toArray := by
      unfold Oper.looksAt
      refine List.mem_append_right _ ?_
      simp [hg, hq, hqd]
    obtain ⟨μ, hI⟩ := hI
    have hv := hI.tm tj _ ((hT tj hl).trans hb)
    have hval : a.tmps.getD tj undef = .tuple vs := by
      generalize a.tmps.getD tj undef = u at hv
      cases hv with | d hv => cases hv; rfl
    have hy : yielded ops.toArray a.tmps j = none := by
      unfold yielded
      by_cases hlt : tj < a.tmps.size
      · have h1 : a.tmps[tj]? = some (.tuple vs) := by simp [hlt] at hval ⊢; exact hval
        simp [hq, hqd, h1]
      · simp [hq, hqd, hlt]
    rw [if_neg (by unfold Region.wanted; simp [hg, hy])]
    exact ⟨μ, hI.put (.d (.v _)) hd⟩
end

/-- The masks of what each operation waits for. -/
def maskOf (acc : List Nat) (l : List Edge) (m : Nat) : Nat := l.foldl (fun s e => if Region.binds .any e then s ||| 2 ^ e.on ||| acc.getD e.on 0 else s) m
def masks : List Oper → List Nat → List Nat
  | [], acc => acc
  | o :: r, acc => masks r (acc ++ [maskOf acc o.after.toList 0])
/-- What is done has all that it waits for done. -/
def DC (ops : List Oper) (s : Nat → Bool) : Prop := ∀ j o, ops[j]? = some o → s j = true → ∀ e ∈ o.after, Region.binds .any e = true → s e.on = true
def depsIn (ops : List Oper) (s : Nat → Bool) (i : Nat) : Prop := ∀ o, ops[i]? = some o → ∀ e ∈ o.after, Region.binds .any e = true → s e.on = true

theorem maskOf_bit {acc : List Nat} {k : Nat} : ∀ {l : List Edge} {m : Nat}, (maskOf acc l m).testBit k = true → m.testBit k = true ∨ ∃ e ∈ l, Region.binds .any e = true ∧ (e.on = k ∨ (acc.getD e.on 0).testBit k = true)
  | [], m, h => .inl h
  | e :: l, m, h => by
    rcases maskOf_bit (l := l) h with h1 | ⟨e', he', h1⟩
    · by_cases hb : Region.binds .any e = true
      · simp only [hb, if_true, Nat.testBit_or, Bool.or_eq_true] at h1
        rcases h1 with (h1 | h1) | h1
        · exact .inl h1
        · refine .inr ⟨e, by simp, hb, .inl ?_⟩
          by_cases hk : e.on = k
          · exact hk
          · rw [Nat.testBit_two_pow_of_ne hk] at h1; cases h1
        · exact .inr ⟨e, by simp, hb, .inr h1⟩
      · simp only [hb] at h1; exact .inl h1
    · exact .inr ⟨e', by simp [he'], h1⟩

theorem masks_spec {ops : List Oper} {s : Nat → Bool} (hs : DC ops s) : ∀ (r : List Oper) (acc : List Nat), ops = ops.take acc.length ++ r →
    (∀ i m, acc[i]? = some m → depsIn ops s i → ∀ k, m.testBit k = true → s k = true) → ∀ i m, (masks r acc)[i]? = some m → depsIn ops s i → ∀ k, m.testBit k = true → s k = true
  | [], acc, _, h => h
  | o :: r, acc, hr, h => by
    have hlen : acc.length < ops.length := by
      have := congrArg List.length hr
      simp at this; omega
    have ho : ops[acc.length]? = some o := by
      have h2 : (ops.take acc.length ++ o :: r)[acc.length]? = some o := by
        rw [List.getElem?_append_right (by rw [List.length_take]; omega)]
        simp [Nat.min_eq_left (Nat.le_of_lt hlen)]
      rw [hr]; exact h2
    refine masks_spec hs r (acc ++ [maskOf acc o.after.toList 0]) ?_ ?_
    · have h2 : ops.take (acc.length + 1) = ops.take acc.length ++ [o] := by
        rw [List.take_add_one, ho]; rfl
      simp only [List.length_append, List.length_cons, List.length_nil, Nat.zero_add]
      rw [h2, List.append_assoc]; exact hr
    · intro i m hi hd k hk
      by_cases e : i < acc.length
      · rw [List.getElem?_append_left e] at hi; exact h i m hi hd k hk
      · by_cases e2 : i = acc.length
        · subst e2
          obtain rfl : maskOf acc o.after.toList 0 = m := by simpa using hi
          rcases maskOf_bit hk with h1 | ⟨ed, hed, hb, h1⟩
          · simp at h1
          · have hse := hd o ho ed (by simpa using hed) hb
            rcases h1 with rfl | h1
            · exact hse
            · have hon : ed.on < acc.length := by
                refine Classical.byContradiction fun hn => ?_
                rw [List.getD_eq_getElem?_getD, List.getElem?_eq_none (by omega)] at h1
                simp at h1
              refine h ed.on _ (by rw [List.getElem?_eq_getElem hon]) (fun o2 ho2 e2 he2 hb2 => hs ed.on o2 ho2 hse e2 he2 hb2) k ?_
              rw [List.getD_eq_getElem?_getD, List.getElem?_eq_getElem hon] at h1
              simpa using h1
        · rw [List.getElem?_eq_none (by simp; omega)] at hi; cases hi

/-- Slots and objects in common. -/
def meets (x y : List Nat) : Bool := x.any fun t => y.any fun u => Nat.beq t u
theorem meets_of {x y : List Nat} {t : Nat} (hx : t ∈ x) (hy : t ∈ y) : meets x y = true := by
  unfold meets
  rw [List.any_eq_true]
  refine ⟨t, hx, ?_⟩
  rw [List.any_eq_true]
  exact ⟨t, hy, by simp⟩
structure Info where
  dst : List Nat
  look : List Nat
  tch : List Nat
  wr : List Nat
def infoOf (ops : List Oper) (o : Oper) (f : List Nat × List Nat) : Info := ⟨o.dst.toList, o.looksAt ops.toArray, f.1, f.2⟩
def conf (x y : Info) : Bool := meets x.dst y.dst || (meets x.dst y.look || (meets x.look y.dst || (meets x.tch y.wr || meets x.wr y.tch)))
def infos (ops : List Oper) : List Oper → List (List Nat × List Nat) → List Info
  | o :: r, f :: q => infoOf ops o f :: infos ops r q
  | _, _ => []
def prior (m : Nat) (y : Info) : Nat → List Info → Bool
  | _, [] => true
  | i, x :: r => (Nat.testBit m i || !conf x y) && prior m y (i + 1) r
def indepFrom : List Info → List Info → List Nat → Bool
  | done, y :: r, m :: ms => prior m y 0 done && indepFrom (done ++ [y]) r ms
  | _, _, _ => true
def indepB (ops : List Oper) (fs : List (List Nat × List Nat)) : Bool := indepFrom [] (infos ops ops fs) (masks ops [])

theorem prior_spec {m : Nat} {y : Info} : ∀ {l : List Info} {k : Nat}, prior m y k l = true → ∀ i x, l[i]? = some x → conf x y = true → m.testBit (k + i) = true
  | [], k, _, i, x, hx, _ => by simp at hx
  | z :: r, k, h, i, x, hx, hc => by
    simp only [prior, Bool.and_eq_true, Bool.or_eq_true, Bool.not_eq_true'] at h
    cases i with
    | zero =>
      obtain rfl : z = x := by simpa using hx
      rcases h.1 with h1 | h1
      · exact h1
      · rw [hc] at h1; cases h1
    | succ i =>
      have := prior_spec h.2 i x (by simpa using hx) hc
      rwa [show k + (i + 1) = k + 1 + i by omega]
theorem indepFrom_spec : ∀ {r done : List Info} {ms : List Nat}, indepFrom done r ms = true → ms.length = r.length → ∀ i j x y m, i < done.length + j → (done ++ r)[i]? = some x → r[j]? = some y → ms[j]? = some m → conf x y = true → m.testBit i = true
  | [], done, ms, _, _, i, j, x, y, m, _, _, hy, _, _ => by simp at hy
  | z :: r, done, [], _, hl, _, _, _, _, _, _, _, _, _, _ => by simp at hl
  | z :: r, done, m0 :: ms, h, hl, i, j, x, y, m, hij, hx, hy, hm, hc => by
    simp only [indepFrom, Bool.and_eq_true] at h
    cases j with
    | zero =>
      obtain rfl : z = y := by simpa using hy
      obtain rfl : m0 = m := by simpa using hm
      rw [List.getElem?_append_left (by simpa using hij)] at hx
      have := prior_spec h.1 i x hx hc
      simpa using this
    | succ j =>
      refine indepFrom_spec (done := done ++ [z]) (r := r) h.2 (by simpa using hl) i j x y m (by simp; omega) (by simpa using hx) (by simpa using hy) (by simpa using hm) hc

theorem masks_len : ∀ (r : List Oper) (acc : List Nat), (masks r acc).length = acc.length + r.length
  | [], acc => by simp [masks]
  | o :: r, acc => by simp only [masks]; rw [masks_len r]; simp; omega

def foot (e : En) : List Nat × List Nat := (e.tch, e.wr.map (·.1))
theorem infos_get {ops : List Oper} : ∀ {zs : List Z} {i : Nat} {z : Z}, zs[i]? = some z → (infos ops (zs.map (·.1)) (zs.map fun z => foot z.2))[i]? = some (infoOf ops z.1 (foot z.2))
  | [], i, z, h => by simp at h
  | y :: r, i, z, h => by
    cases i with
    | zero => obtain rfl : y = z := by simpa using h
              rfl
    | succ i => simp only [List.map_cons, infos]; exact infos_get (zs := r) (by simpa using h)
theorem infos_len {ops : List Oper} : ∀ {zs : List Z}, (infos ops (zs.map (·.1)) (zs.map fun z => foot z.2)).length = zs.length
  | [] => rfl
  | y :: r => by simp only [List.map_cons, infos, List.length_cons]; rw [infos_len]

theorem indep_spec {zs : List Z} (h : indepB (zs.map (·.1)) (zs.map fun z => foot z.2) = true) {s : Nat → Bool} (hs : DC (zs.map (·.1)) s) {i j : Nat} {x y : Z} (hij : i < j) (hx : zs[i]? = some x) (hy : zs[j]? = some y)
    (hc : conf (infoOf (zs.map (·.1)) x.1 (foot x.2)) (infoOf (zs.map (·.1)) y.1 (foot y.2)) = true) (hd : depsIn (zs.map (·.1)) s j) : s i = true := by
  have hj : j < zs.length := (List.getElem?_eq_some_iff.1 hy).1
  have hml : (masks (zs.map (·.1)) []).length = zs.length := by rw [masks_len]; simp
  have hm : (masks (zs.map (·.1)) [])[j]? = some ((masks (zs.map (·.1)) [])[j]'(by omega)) := by rw [List.getElem?_eq_getElem]
  have h2 := indepFrom_spec (done := []) h (by rw [hml, infos_len]) i j _ _ _ (by simpa using hij) (by simpa using infos_get hx) (infos_get hy) hm hc
  exact masks_spec hs (zs.map (·.1)) [] (by simp) (fun i m h => by simp at h) j _ hm hd i h2

section
variable {P : Program} {cx : Cx} {T : Nat → Option AV} {M : Nat → Option AO} {zs : List Z}

theorem conf_dst {ops : List Oper} {x y : Z} {t : Nat} (hx : x.1.dst = some t) (hy : y.1.dst = some t) : conf (infoOf ops x.1 (foot x.2)) (infoOf ops y.1 (foot y.2)) = true := by
  have := meets_of (x := x.1.dst.toList) (y := y.1.dst.toList) (t := t) (by simp [hx]) (by simp [hy])
  simp [conf, infoOf, this]
theorem conf_look {ops : List Oper} {x y : Z} {t : Nat} (hx : x.1.dst = some t) (hy : t ∈ y.1.looksAt ops.toArray) : conf (infoOf ops x.1 (foot x.2)) (infoOf ops y.1 (foot y.2)) = true := by
  have := meets_of (x := x.1.dst.toList) (y := y.1.looksAt ops.toArray) (t := t) (by simp [hx]) hy
  simp [conf, infoOf, this]
theorem conf_look' {ops : List Oper} {x y : Z} {t : Nat} (hx : t ∈ x.1.looksAt ops.toArray) (hy : y.1.dst = some t) : conf (infoOf ops x.1 (foot x.2)) (infoOf ops y.1 (foot y.2)) = true := by
  have := meets_of (x := x.1.looksAt ops.toArray) (y := y.1.dst.toList) (t := t) hx (by simp [hy])
  simp [conf, infoOf, this]
theorem lk_mem {α : Type} {l : List (Nat × α)} {g : Nat} (h : (lk l g).isSome = true) : g ∈ l.map (·.1) := by
  induction l with
  | nil => simp [lk] at h
  | cons p r ih =>
    simp only [lk] at h
    split at h
    · rename_i hb
      have := Nat.eq_of_beq_eq_true hb
      simp [this]
    · simp only [List.map_cons, List.mem_cons]; exact .inr (ih h)
theorem conf_wr {ops : List Oper} {x y : Z} {g : Nat} (hx : (lk x.2.wr g).isSome = true) (hy : g ∈ y.2.tch) : conf (infoOf ops x.1 (foot x.2)) (infoOf ops y.1 (foot y.2)) = true := by
  have := meets_of (x := x.2.wr.map (·.1)) (y := y.2.tch) (t := g) (lk_mem hx) hy
  simp [conf, infoOf, foot, this]
theorem conf_wr' {ops : List Oper} {x y : Z} {g : Nat} (hx : g ∈ x.2.tch) (hy : (lk y.2.wr g).isSome = true) : conf (infoOf ops x.1 (foot x.2)) (infoOf ops y.1 (foot y.2)) = true := by
  have := meets_of (x := x.2.tch) (y := y.2.wr.map (·.1)) (t := g) hx (lk_mem hy)
  simp [conf, infoOf, foot, this]

theorem wT_dst {t j : Nat} (h : wT zs t j = true) : ∃ z, zs[j]? = some z ∧ z.1.dst = some t := by
  unfold wT at h
  split at h
  · rename_i z hz; exact ⟨z, hz, by simpa using h⟩
  · cases h
theorem wM_wr {g j : Nat} (h : wM zs g j = true) : ∃ z, zs[j]? = some z ∧ (lk z.2.wr g).isSome = true := by
  unfold wM at h
  split at h
  · rename_i z hz; exact ⟨z, hz, h⟩
  · cases h

/-- Order of what meets, in a state of the region: the operation i is ready, those of s are done. -/
structure Ord (zs : List Z) (s : Nat → Bool) (i : Nat) (z : Z) : Prop where
  get : zs[i]? = some z
  not : s i = false
  before : ∀ j y, zs[j]? = some y → j < i → conf (infoOf (zs.map (·.1)) y.1 (foot y.2)) (infoOf (zs.map (·.1)) z.1 (foot z.2)) = true → s j = true
  after : ∀ j y, zs[j]? = some y → i < j → conf (infoOf (zs.map (·.1)) z.1 (foot z.2)) (infoOf (zs.map (·.1)) y.1 (foot y.2)) = true → s j = false

theorem TS_look {s : Nat → Bool} {i : Nat} {z : Z} (h : Ord zs s i z) {t : Nat} (ht : t ∈ z.1.looksAt (zs.map (·.1)).toArray) : TS zs T s t = TS zs T (below i) t := by
  unfold TS
  rw [lastW_congr (q' := fun j => below i j && wT zs t j) fun j _ => ?_]
  cases hw : wT zs t j
  · simp
  · obtain ⟨y, hy, hd⟩ := wT_dst hw
    simp only [Bool.and_true, below]
    rcases Nat.lt_trichotomy j i with hj | hj | hj
    · rw [h.before j y hy hj (conf_look hd ht)]; simp [hj]
    · subst hj; rw [h.not]; simp
    · rw [h.after j y hy hj (conf_look' ht hd)]; simp; omega
theorem MS_look {s : Nat → Bool} {i : Nat} {z : Z} (h : Ord zs s i z) {g : Nat} (ht : g ∈ z.2.tch) : MS zs M s g = MS zs M (below i) g := by
  unfold MS
  rw [lastW_congr (q' := fun j => below i j && wM zs g j) fun j _ => ?_]
  cases hw : wM zs g j
  · simp
  · obtain ⟨y, hy, hd⟩ := wM_wr hw
    simp only [Bool.and_true, below]
    rcases Nat.lt_trichotomy j i with hj | hj | hj
    · rw [h.before j y hy hj (conf_wr hd ht)]; simp [hj]
    · subst hj; rw [h.not]; simp
    · rw [h.after j y hy hj (conf_wr' ht hd)]; simp; omega
theorem TS_add {s : Nat → Bool} {i : Nat} {z : Z} (h : Ord zs s i z) : upT (TS zs T s) z.1.dst z.2.val = TS zs T (adds s i) := by
  have hi : i < zs.length := (List.getElem?_eq_some_iff.1 h.get).1
  funext t
  unfold upT
  by_cases e : z.1.dst = some t
  · rw [if_pos e]
    unfold TS
    rw [lastW_top (i := i) hi (by simp [adds, wT, h.get, e]) fun j h1 h2 => ?_]
    · simp [h.get]
    · cases hw : wT zs t j
      · simp
      · obtain ⟨y, hy, hd⟩ := wT_dst hw
        simp [adds, h.after j y hy h1 (conf_dst e hd)]; omega
  · rw [if_neg e]
    unfold TS
    rw [lastW_congr (q' := fun j => adds s i j && wT zs t j) fun j _ => ?_]
    by_cases e2 : j = i
    · subst e2
      have : wT zs t j = false := by simp [wT, h.get, e]
      simp [this]
    · simp [adds, e2]
theorem MS_add {s : Nat → Bool} {i : Nat} {z : Z} (h : Ord zs s i z) (hw : ∀ p ∈ z.2.wr, p.1 ∈ z.2.tch) : upM (MS zs M s) z.2.wr = MS zs M (adds s i) := by
  have hi : i < zs.length := (List.getElem?_eq_some_iff.1 h.get).1
  funext g
  unfold upM
  cases e : lk z.2.wr g with
  | some x =>
    have hs : (lk z.2.wr g).isSome = true := by rw [e]; rfl
    have hg : g ∈ z.2.tch := by
      obtain ⟨p, hp, rfl⟩ := List.mem_map.1 (lk_mem hs)
      exact hw p hp
    have hl : lastW (fun j => adds s i j && wM zs g j) zs.length = some i := by
      refine lastW_top hi (by simp [adds, wM, h.get, e]) fun j h1 h2 => ?_
      cases hw2 : wM zs g j
      · simp
      · obtain ⟨y, hy, hd⟩ := wM_wr hw2
        simp [adds, h.after j y hy h1 (conf_wr' hg hd)]; omega
    show some x = MS zs M (adds s i) g
    unfold MS
    rw [hl]
    simp [h.get, e]
  | none =>
    show MS zs M s g = MS zs M (adds s i) g
    unfold MS
    rw [lastW_congr (q' := fun j => adds s i j && wM zs g j) fun j _ => ?_]
    by_cases e2 : j = i
    · subst e2
      have : wM zs g j = false := by simp [wM, h.get, e]
      simp [this]
    · simp [adds, e2]
end
end Go.Am
