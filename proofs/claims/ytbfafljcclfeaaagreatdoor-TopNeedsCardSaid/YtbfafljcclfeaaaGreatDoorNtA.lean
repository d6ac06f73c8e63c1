/- Plain functions on networks, and laws on them. No program stands here. -/
import Derived.Test.YtbfafljcclfeaaaGreatDoorLedX
namespace Go.Proofs.YtbfafljcclfeaaaGreatDoor
set_option linter.unusedSimpArgs false
set_option linter.unusedVariables false
set_option linter.unnecessarySimpa false
set_option linter.unusedSectionVars false
set_option maxRecDepth 100000
open Go Go.RowKit Go.Proofs.Grow Go.Sort

structure Pcl where
  due : Int
  src : Int
  dst : Int
  num : Int
  slot : Int
instance : Inhabited Pcl := ⟨⟨0, 0, 0, 0, 0⟩⟩
structure Net where
  pars : List Pcl
  next : Int
  parts : List Int
  dels : List Int
def net0 : Net := ⟨[], 0, [], []⟩
def bandI (a b : Int) : Int := IntKind.i64.wrap ((BitVec.ofInt 64 a &&& BitVec.ofInt 64 b).toNat : Int)
def borI (a b : Int) : Int := IntKind.i64.wrap ((BitVec.ofInt 64 a ||| BitVec.ofInt 64 b).toNat : Int)
def shlI (k : Int) : Int := IntKind.i64.wrap (1 * 2 ^ (min k.toNat 64))
def cmpPc (a b : Pcl) : Int := orI [cmpI a.due b.due, cmpI a.src b.src, cmpI a.dst b.dst, cmpI a.num b.num]
def ltPc (a b : Pcl) : Prop := a.due < b.due ∨ (a.due = b.due ∧ (a.src < b.src ∨ (a.src = b.src ∧ (a.dst < b.dst ∨ (a.dst = b.dst ∧ a.num < b.num)))))
theorem cmpI_cases (a b : Int) : (a < b ∧ cmpI a b = -1) ∨ (a = b ∧ cmpI a b = 0) ∨ (b < a ∧ cmpI a b = 1) := by
  unfold cmpI
  split
  · exact .inl ⟨by assumption, rfl⟩
  · split
    · exact .inr (.inr ⟨by assumption, rfl⟩)
    · exact .inr (.inl ⟨by omega, rfl⟩)
theorem cmpPc_lt (a b : Pcl) : cmpPc a b < 0 ↔ ltPc a b := by
  unfold cmpPc ltPc
  simp only [orI]
  rcases cmpI_cases a.due b.due with ⟨h1, e1⟩ | ⟨h1, e1⟩ | ⟨h1, e1⟩
  · simp [e1]; omega
  · rcases cmpI_cases a.src b.src with ⟨h2, e2⟩ | ⟨h2, e2⟩ | ⟨h2, e2⟩
    · simp [e1, e2]; omega
    · rcases cmpI_cases a.dst b.dst with ⟨h3, e3⟩ | ⟨h3, e3⟩ | ⟨h3, e3⟩
      · simp [e1, e2, e3]; omega
      · rcases cmpI_cases a.num b.num with ⟨h4, e4⟩ | ⟨h4, e4⟩ | ⟨h4, e4⟩ <;> simp [e1, e2, e3, e4] <;> omega
      · simp [e1, e2, e3]; omega
    · simp [e1, e2]; omega
  · simp [e1]; omega
theorem ltPc_trans {a b c : Pcl} (h : ltPc a b) (k : ltPc b c) : ltPc a c := by unfold ltPc at *; omega
theorem ltPc_irr {a b : Pcl} (h : ltPc a b) : ¬ ltPc b a := by unfold ltPc at *; omega
theorem ltPc_tot {a b : Pcl} (h : ¬ a.num = b.num) : ltPc a b ∨ ltPc b a := by unfold ltPc; omega

def validS (s : Int) : Bool := decide (0 ≤ s) && decide (s < 1024)
def nodeB (n : Int) : Bool := decide (0 ≤ n) && decide (n < 10)
def partsN : Int → List Int → Bool
  | _, [] => true
  | seen, s :: r => (!(s == 0) && (validS s && (bandI seen s == 0))) && partsN (borI seen s) r
def partsB (l : List Int) : Bool := partsN 0 l && decide (l.length ≤ 10)
def wrongD (n : Int) : Bool := decide (n < 0) || decide (n > 20)
def delsB (l : List Int) : Bool := (decide (l.length = 0) || decide (l.length = 100)) && decide (idxF wrongD 0 l < 0)
/-- A parcel is right by itself, where the next number is q. -/
structure GoodP (q : Int) (x : Pcl) : Prop where
  src : 0 ≤ x.src ∧ x.src < 10
  dst : 0 ≤ x.dst ∧ x.dst < 10
  ne : ¬ x.src = x.dst
  due : 0 ≤ x.due ∧ x.due ≤ 220
  num : 0 ≤ x.num ∧ x.num < q
def goodP (q : Int) (x : Pcl) : Bool := nodeB x.src && (nodeB x.dst && (!(x.src == x.dst) && (decide (0 ≤ x.due) && (decide (x.due ≤ 220) && (decide (0 ≤ x.num) && decide (x.num < q))))))
theorem goodP_iff {q : Int} {x : Pcl} : goodP q x = true ↔ GoodP q x := by
  simp only [goodP, nodeB, Bool.and_eq_true, decide_eq_true_eq, Bool.not_eq_true', beq_eq_false_iff_ne]
  constructor
  · rintro ⟨⟨h1, h2⟩, ⟨h3, h4⟩, h5, h6, h7, h8, h9⟩; exact ⟨⟨h1, h2⟩, ⟨h3, h4⟩, h5, ⟨h6, h7⟩, ⟨h8, h9⟩⟩
  · rintro ⟨⟨h1, h2⟩, ⟨h3, h4⟩, h5, ⟨h6, h7⟩, ⟨h8, h9⟩⟩; exact ⟨⟨h1, h2⟩, ⟨h3, h4⟩, h5, h6, h7, h8, h9⟩
def prevP : Option Pcl → Pcl → Bool
  | none, _ => true
  | some p, x => decide (cmpPc p x < 0)
def pclsB (q : Int) : Option Pcl → List Pcl → Bool
  | _, [] => true
  | p, x :: r => (goodP q x && prevP p x) && pclsB q (some x) r
def chkN (n : Net) : Bool := decide (n.pars.length ≤ 4000) && (decide (0 ≤ n.next) && (decide (n.next ≤ 1000000000) && (partsB n.parts && (delsB n.dels && pclsB n.next none n.pars))))
theorem pclsB_iff {q : Int} : ∀ {l : List Pcl} {p : Option Pcl}, pclsB q p l = true ↔ (∀ x ∈ l, GoodP q x) ∧ l.Pairwise ltPc ∧ ∀ y, p = some y → ∀ x ∈ l, ltPc y x
  | [], p => by simp [pclsB]
  | x :: r, p => by
    simp only [pclsB, Bool.and_eq_true, pclsB_iff (l := r), goodP_iff, List.pairwise_cons, List.mem_cons]
    constructor
    · rintro ⟨⟨h1, h2⟩, h3, h4, h5⟩
      refine ⟨fun y hy => ?_, ⟨fun y hy => h5 x rfl y hy, h4⟩, fun y hy z hz => ?_⟩
      · rcases hy with rfl | hy
        · exact h1
        · exact h3 y hy
      · subst hy
        have h6 : ltPc y x := (cmpPc_lt _ _).1 (by simpa [prevP] using h2)
        rcases hz with rfl | hz
        · exact h6
        · exact ltPc_trans h6 (h5 x rfl z hz)
    · rintro ⟨h1, ⟨h2, h3⟩, h4⟩
      refine ⟨⟨h1 x (.inl rfl), ?_⟩, fun y hy => h1 y (.inr hy), h3, fun y hy z hz => ?_⟩
      · cases p with
        | none => rfl
        | some y => simpa [prevP] using (cmpPc_lt _ _).2 (h4 y rfl x (.inl rfl))
      · cases hy; exact h2 z hz
structure RightN (n : Net) : Prop where
  len : n.pars.length ≤ 4000
  n0 : 0 ≤ n.next
  n1 : n.next ≤ 1000000000
  parts : partsB n.parts = true
  dels : delsB n.dels = true
  each : ∀ x ∈ n.pars, GoodP n.next x
  srt : n.pars.Pairwise ltPc
theorem chkN_iff {n : Net} : chkN n = true ↔ RightN n := by
  simp only [chkN, Bool.and_eq_true, decide_eq_true_eq, pclsB_iff]
  constructor
  · rintro ⟨h1, h2, h3, h4, h5, h6, h7, _⟩; exact ⟨h1, h2, h3, h4, h5, h6, h7⟩
  · rintro ⟨h1, h2, h3, h4, h5, h6, h7⟩; exact ⟨h1, h2, h3, h4, h5, h6, h7, fun y hy => by cases hy⟩

/-- How many of the first ones a predicate holds of. -/
def posQ (q : Pcl → Bool) : List Pcl → Nat
  | [] => 0
  | y :: r => if q y = true then posQ q r + 1 else 0
theorem posQ_le (q : Pcl → Bool) : ∀ l : List Pcl, posQ q l ≤ l.length
  | [] => by simp [posQ]
  | y :: r => by
    have := posQ_le q r
    unfold posQ; split <;> simp <;> omega
theorem posQ_iff {q : Pcl → Bool} : ∀ {l : List Pcl}, l.Pairwise (fun a b => q b = true → q a = true) → ∀ m, m < l.length → (q (nth l m) = true ↔ m < posQ q l)
  | [], _, m, hm => by simp at hm
  | y :: r, h, m, hm => by
    rw [List.pairwise_cons] at h
    unfold posQ
    by_cases e : q y = true
    · rw [if_pos e]
      cases m with
      | zero => simpa [nth] using e
      | succ m =>
        have := posQ_iff h.2 m (by simpa using hm)
        rw [show nth (y :: r) (m + 1) = nth r m from rfl, this]; omega
    · rw [if_neg e]
      cases m with
      | zero => simpa [nth] using e
      | succ m =>
        rw [show nth (y :: r) (m + 1) = nth r m from rfl]
        constructor
        · intro h2; exact absurd (h.1 _ (nth_mem r m (by simpa using hm)) h2) e
        · intro h2; omega
theorem posQ_take {q : Pcl → Bool} {l : List Pcl} : ∀ x ∈ l.take (posQ q l), q x = true := by
  induction l with
  | nil => intro x hx; simp at hx
  | cons y r ih =>
    intro x hx
    unfold posQ at hx
    split at hx
    · rename_i e
      rw [List.take_succ_cons] at hx
      rcases List.mem_cons.1 hx with rfl | hx
      · exact e
      · exact ih x hx
    · simp at hx
theorem posQ_drop {q : Pcl → Bool} {l : List Pcl} (h : l.Pairwise (fun a b => q b = true → q a = true)) : ∀ x ∈ l.drop (posQ q l), ¬ q x = true := by
  induction l with
  | nil => intro x hx; simp at hx
  | cons y r ih =>
    rw [List.pairwise_cons] at h
    intro x hx
    unfold posQ at hx
    split at hx
    · rename_i e
      rw [List.drop_succ_cons] at hx
      exact ih h.2 x hx
    · rename_i e
      rw [List.drop_zero] at hx
      rcases List.mem_cons.1 hx with rfl | hx
      · exact e
      · exact fun h2 => e (h.1 x hx h2)
theorem posQ_all {q : Pcl → Bool} : ∀ {l : List Pcl}, (∀ x ∈ l, q x = true) → posQ q l = l.length
  | [], _ => rfl
  | y :: r, h => by rw [posQ, if_pos (h y (by simp)), posQ_all fun x hx => h x (by simp [hx])]; rfl
theorem posQ_none {q : Pcl → Bool} : ∀ {l : List Pcl}, (∀ x ∈ l, q x = false) → posQ q l = 0
  | [], _ => rfl
  | y :: r, h => by rw [posQ, if_neg (by simp [h y (by simp)])]

def lessQ (x : Pcl) (y : Pcl) : Bool := decide (cmpPc y x < 0)
def dueQ (now : Int) (y : Pcl) : Bool := decide (y.due ≤ now)
theorem lessQ_mono {x : Pcl} {l : List Pcl} (h : l.Pairwise ltPc) : l.Pairwise (fun a b => lessQ x b = true → lessQ x a = true) :=
  h.imp fun hab hb => by
    simp only [lessQ, decide_eq_true_eq, cmpPc_lt] at *
    exact ltPc_trans hab hb
theorem dueQ_mono {now : Int} {l : List Pcl} (h : l.Pairwise ltPc) : l.Pairwise (fun a b => dueQ now b = true → dueQ now a = true) :=
  h.imp fun hab hb => by
    simp only [dueQ, decide_eq_true_eq, ltPc] at *
    omega
def delayF (n : Net) (a b : Int) : Int := if n.dels.length = 0 then 1 else max 1 (nth n.dels (a * 10 + b).toNat)
def putN (n : Net) (x : Pcl) : Net := ⟨n.pars.take (posQ (lessQ x) n.pars) ++ x :: n.pars.drop (posQ (lessQ x) n.pars), n.next + 1, n.parts, n.dels⟩
def sendF (n : Net) (a b slot now : Int) : Net × Int :=
  if chkN n = false then (net0, 13) else if nodeB a = false ∨ nodeB b = false ∨ a = b then (net0, 5) else if now < 0 ∨ 200 < now then (net0, 1) else
  if n.pars.length = 4000 ∨ n.next = 1000000000 then (net0, 3) else (putN n ⟨now + delayF n a b, a, b, n.next, slot⟩, 0)
def hasB (s x : Int) : Bool := validS s && (nodeB x && !(bandI s (shlI x) == 0))
def sideF (n : Net) (x : Int) : Int := idxF (fun s => hasB s x) 0 n.parts
def apartB (n : Net) (a b : Int) : Bool := if nodeB a = false ∨ nodeB b = false ∨ sideF n a < 0 ∨ sideF n b < 0 then false else !decide (0 ≤ idxF (fun s => hasB s a && hasB s b) 0 n.parts)
def dueF (n : Net) (now : Int) : List Pcl × Net :=
  if chkN n = false then ([], n) else ((n.pars.take (posQ (dueQ now) n.pars)).filter (fun x => !apartB n x.src x.dst), ⟨n.pars.drop (posQ (dueQ now) n.pars), n.next, n.parts, n.dels⟩)
def partF (n : Net) (l : List Int) : Net × Int := if chkN n = false then (net0, 13) else if partsB l = false then (net0, 1) else (⟨n.pars, n.next, l, n.dels⟩, 0)
def healF (n : Net) : Net := ⟨n.pars, n.next, [], []⟩
def delay0 (n : Net) (a b t : Int) : Net × Int :=
  if chkN n = false then (net0, 13) else if nodeB a = false ∨ nodeB b = false then (net0, 5) else if t < 0 ∨ 20 < t then (net0, 1) else
  (⟨n.pars, n.next, n.parts, (if n.dels.length = 0 then List.replicate 100 0 else n.dels).set (a * 10 + b).toNat t⟩, 0)

theorem right_put {n : Net} (h : RightN n) {x : Pcl} (hx : GoodP (n.next + 1) x) (hn : x.num = n.next) (hl : n.pars.length < 4000) (h1 : n.next < 1000000000) : RightN (putN n x) := by
  have hm := lessQ_mono (x := x) h.srt
  have h2 := @posQ_take (lessQ x) n.pars
  have h3 := @posQ_drop (lessQ x) n.pars hm
  have hp := posQ_le (lessQ x) n.pars
  unfold putN
  generalize posQ (lessQ x) n.pars = p at *
  refine ⟨?_, by have := h.n0; dsimp only; omega, by dsimp only; omega, h.parts, h.dels, fun y hy => ?_, ?_⟩
  · simp only [List.length_append, List.length_cons, List.length_take, List.length_drop]; omega
  · dsimp only at hy ⊢
    have up : ∀ y, GoodP n.next y → GoodP (n.next + 1) y := fun y hy => ⟨hy.src, hy.dst, hy.ne, hy.due, by have := hy.num; omega⟩
    rcases List.mem_append.1 hy with q | q
    · exact up y (h.each y (List.mem_of_mem_take q))
    · rcases List.mem_cons.1 q with rfl | q
      · exact hx
      · exact up y (h.each y (List.mem_of_mem_drop q))
  · dsimp only
    have hs := h.srt
    rw [← List.take_append_drop p n.pars, List.pairwise_append] at hs
    obtain ⟨s1, s2, s3⟩ := hs
    have lt1 : ∀ y ∈ n.pars.take p, ltPc y x := fun y hy => (cmpPc_lt _ _).1 (by simpa [lessQ] using h2 y hy)
    have lt2 : ∀ y ∈ n.pars.drop p, ltPc x y := fun y hy => by
      have hny : ¬ ltPc y x := fun q => h3 y hy (by simpa [lessQ] using (cmpPc_lt y x).2 q)
      have := (h.each y (List.mem_of_mem_drop hy)).num
      rcases ltPc_tot (a := y) (b := x) (by omega) with q | q
      · exact absurd q hny
      · exact q
    rw [List.pairwise_append]
    refine ⟨s1, ?_, fun a ha b hb => ?_⟩
    · rw [List.pairwise_cons]; exact ⟨lt2, s2⟩
    · rcases List.mem_cons.1 hb with rfl | hb
      · exact lt1 a ha
      · exact s3 a ha b hb
theorem right_rest {n : Net} (h : RightN n) (k : Nat) : RightN ⟨n.pars.drop k, n.next, n.parts, n.dels⟩ :=
  ⟨by have := h.len; simp only [List.length_drop]; omega, h.n0, h.n1, h.parts, h.dels, fun x hx => h.each x (List.mem_of_mem_drop hx), h.srt.sublist (List.drop_sublist _ _)⟩
end Go.Proofs.YtbfafljcclfeaaaGreatDoor
