/- Plain definitions: sets of nodes, configurations, quorums. No program stands here. -/
import Derived.Test.YtbfafljcclfeaaaGreatDoorTnA
namespace Go.Proofs.YtbfafljcclfeaaaGreatDoor
set_option linter.unusedSimpArgs false
set_option linter.unusedVariables false
set_option linter.unnecessarySimpa false
set_option linter.unusedSectionVars false
set_option maxRecDepth 100000
open Go.RowKit Go.Proofs.Grow Go.Sort

/-- A set without another one. -/
def andn (a b : Nat) : Nat := a ^^^ (a &&& b)
theorem andn_bit (a b k : Nat) : (andn a b).testBit k = (a.testBit k && !b.testBit k) := by
  unfold andn; rw [Nat.testBit_xor, Nat.testBit_and]; cases a.testBit k <;> cases b.testBit k <;> rfl
theorem andn_le (a b : Nat) : andn a b ≤ a := by
  apply Nat.le_of_testBit
  intro i; rw [andn_bit]; cases a.testBit i <;> simp
theorem andn_lt {a k : Nat} (h : a.testBit k = true) : andn a (2 ^ k) < a := by
  rcases Nat.lt_or_ge (andn a (2 ^ k)) a with h1 | h1
  · exact h1
  · have h2 := Nat.le_antisymm (andn_le a (2 ^ k)) h1
    have h3 := andn_bit a (2 ^ k) k
    rw [h2, h] at h3
    simp [Nat.testBit_two_pow_self] at h3
theorem ofNat_toNat {a : Nat} (h : a < 4611686018427387904) : (BitVec.ofInt 64 (a : Int)).toNat = a := by
  rw [BitVec.ofInt_natCast, BitVec.toNat_ofNat]; omega
theorem wrap_nat {a : Nat} (h : a < 4611686018427387904) : IntKind.i64.wrap (a : Int) = (a : Int) := IntWalk.i64_in _ (by omega)
theorem band_nat {a b : Nat} (ha : a < 4611686018427387904) (hb : b < 4611686018427387904) : bandI a b = ((a &&& b : Nat) : Int) := by
  unfold bandI
  rw [BitVec.toNat_and, ofNat_toNat ha, ofNat_toNat hb, wrap_nat (Nat.lt_of_le_of_lt Nat.and_le_left ha)]
theorem bor_nat {a b : Nat} (ha : a < 4611686018427387904) (hb : b < 4611686018427387904) : borI a b = ((a ||| b : Nat) : Int) := by
  unfold borI
  rw [BitVec.toNat_or, ofNat_toNat ha, ofNat_toNat hb, wrap_nat (Nat.or_lt_two_pow (n := 62) ha hb)]
theorem bnot_nat {a b : Nat} (ha : a < 4611686018427387904) (hb : b < 4611686018427387904) : bnotI a b = ((andn a b : Nat) : Int) := by
  unfold bnotI
  have e : (BitVec.ofInt 64 (a : Int) &&& ~~~ BitVec.ofInt 64 (b : Int)).toNat = andn a b := by
    apply Nat.eq_of_testBit_eq
    intro i
    rw [andn_bit, ← BitVec.getLsbD, BitVec.getLsbD_and, BitVec.getLsbD_not]
    have h1 : (BitVec.ofInt 64 (a : Int)).getLsbD i = a.testBit i := by unfold BitVec.getLsbD; rw [ofNat_toNat ha]
    have h2 : (BitVec.ofInt 64 (b : Int)).getLsbD i = b.testBit i := by unfold BitVec.getLsbD; rw [ofNat_toNat hb]
    rw [h1, h2]
    by_cases hi : i < 64
    · simp [hi]
    · have : a.testBit i = false := Nat.testBit_lt_two_pow (Nat.lt_of_lt_of_le ha (Nat.le_trans (by decide) (Nat.pow_le_pow_right (n := 2) (by decide) (show 62 ≤ i by omega))))
      simp [this]
  rw [e, wrap_nat (Nat.lt_of_le_of_lt (andn_le a b) ha)]
theorem shl_nat {k : Nat} (h : k ≤ 61) : shlI k = ((2 ^ k : Nat) : Int) := by
  unfold shlI
  have h1 : (2 : Nat) ^ k ≤ 2 ^ 61 := Nat.pow_le_pow_right (by decide) h
  have e : (1 : Int) * 2 ^ (min (k : Int).toNat 64) = ((2 ^ k : Nat) : Int) := by
    rw [Int.toNat_natCast, show min k 64 = k by omega, Int.one_mul, Int.natCast_pow]; rfl
  rw [e]
  exact wrap_nat (by omega)
theorem pow_lt {k : Nat} (h : k < 10) : 2 ^ k < 1024 := by
  have : (2 : Nat) ^ k ≤ 2 ^ 9 := Nat.pow_le_pow_right (by decide) (by omega)
  omega
theorem valid_nat {s : Nat} (h : s < 1024) : validS (s : Int) = true := by simp [validS]; omega
theorem and_two_pow_bit (s k : Nat) : (s &&& 2 ^ k) = 0 ↔ s.testBit k = false := by
  constructor
  · intro h
    have := congrArg (·.testBit k) h
    simpa [Nat.testBit_and, Nat.testBit_two_pow_self] using this
  · intro h
    apply Nat.eq_of_testBit_eq
    intro i
    rw [Nat.testBit_and, Nat.zero_testBit]
    by_cases e : k = i
    · subst e; simp [h]
    · rw [Nat.testBit_two_pow_of_ne e]; simp
theorem has_nat {s k : Nat} (hs : s < 1024) (hk : k < 10) : hasB (s : Int) (k : Int) = s.testBit k := by
  unfold hasB
  rw [valid_nat hs, shl_nat (by omega), band_nat (by omega) (by have := pow_lt hk; omega)]
  have h1 : nodeB (k : Int) = true := by simp [nodeB]; omega
  rw [h1]
  cases h : s.testBit k
  · have := (and_two_pow_bit s k).2 h
    simp [this]
  · have : ¬ (s &&& 2 ^ k) = 0 := fun e => by rw [(and_two_pow_bit s k).1 e] at h; cases h
    simp [this]
theorem bit_lt {s k : Nat} (hs : s < 1024) (h : s.testBit k = true) : k < 10 := by
  rcases Nat.lt_or_ge k 10 with h1 | h1
  · exact h1
  · have : s.testBit k = false := Nat.testBit_lt_two_pow (Nat.lt_of_lt_of_le hs (Nat.le_trans (by decide) (Nat.pow_le_pow_right (n := 2) (by decide) h1)))
    rw [this] at h; cases h
theorem or_lt10 {a b : Nat} (ha : a < 1024) (hb : b < 1024) : a ||| b < 1024 := Nat.or_lt_two_pow (n := 10) ha hb
theorem and_lt10 {a b : Nat} (ha : a < 1024) : a &&& b < 1024 := Nat.lt_of_le_of_lt Nat.and_le_left ha
theorem andn_lt10 {a b : Nat} (ha : a < 1024) : andn a b < 1024 := Nat.lt_of_le_of_lt (andn_le a b) ha

/-- The nodes of a set below n. -/
def nodesTo (s n : Nat) : List Nat := (List.range n).filter fun k => s.testBit k
abbrev nodesN (s : Nat) : List Nat := nodesTo s 10
theorem nodesTo_succ (s n : Nat) : nodesTo s (n + 1) = if s.testBit n = true then nodesTo s n ++ [n] else nodesTo s n := by
  unfold nodesTo
  rw [List.range_succ, List.filter_append]
  cases h : s.testBit n <;> simp [h]
theorem nodesTo_len (s n : Nat) : (nodesTo s n).length ≤ n := by
  unfold nodesTo; exact Nat.le_trans (List.length_filter_le _ _) (by simp)
theorem mem_nodes {s k : Nat} (hs : s < 1024) : k ∈ nodesN s ↔ s.testBit k = true := by
  unfold nodesN nodesTo
  rw [List.mem_filter, List.mem_range]
  exact ⟨fun h => h.2, fun h => ⟨bit_lt hs h, h⟩⟩

structure Mb where
  decl : Bool
  t : Tr
instance : Inhabited Mb := ⟨false, default⟩
def declTo (c : List Mb) : Nat → Nat
  | 0 => 0
  | n + 1 => if (nth c n).decl = true then declTo c n ||| 2 ^ n else declTo c n
abbrev declN (c : List Mb) : Nat := declTo c c.length
theorem declTo_lt (c : List Mb) : ∀ n, n ≤ 10 → declTo c n < 1024
  | 0, _ => by simp [declTo]
  | n + 1, h => by
    have := declTo_lt c n (by omega)
    unfold declTo
    split
    · exact or_lt10 this (pow_lt (by omega))
    · exact this
theorem declTo_bit (c : List Mb) : ∀ n k, (declTo c n).testBit k = (decide (k < n) && (nth c k).decl)
  | 0, k => by simp [declTo]
  | n + 1, k => by
    have ih := declTo_bit c n k
    unfold declTo
    by_cases hk : k = n
    · subst hk
      split
      · rename_i h; rw [Nat.testBit_or, Nat.testBit_two_pow_self]; simp [h]
      · rename_i h; rw [ih]; simp [h]
    · have e : decide (k < n + 1) = decide (k < n) := by simp; omega
      rw [e]
      split
      · rw [Nat.testBit_or, Nat.testBit_two_pow_of_ne (fun h => hk h.symm), ih]; simp
      · exact ih
theorem declN_lt {c : List Mb} (h : c.length ≤ 10) : declN c < 1024 := declTo_lt c _ h
/-- The first node of a set that is not content. -/
def unhL (c : List Mb) (s : Nat) : List Nat → Option Nat
  | [] => none
  | k :: r => if satT s (nth c k).t = true then unhL c s r else some k
abbrev unhN (c : List Mb) (s : Nat) : Option Nat := unhL c s (nodesN s)
def uhR : Option Nat → Int × Bool
  | none => (0, false)
  | some k => (k, true)
theorem unhL_none {c : List Mb} {s : Nat} : ∀ {l : List Nat}, unhL c s l = none ↔ ∀ k ∈ l, satT s (nth c k).t = true
  | [] => by simp [unhL]
  | k :: r => by
    unfold unhL
    split
    · rename_i h; rw [unhL_none]; simp [h]
    · rename_i h; simp [h]
theorem unhL_some {c : List Mb} {s k : Nat} : ∀ {l : List Nat}, unhL c s l = some k → k ∈ l ∧ satT s (nth c k).t = false
  | [], h => by simp [unhL] at h
  | x :: r, h => by
    unfold unhL at h
    split at h
    · have := unhL_some h; exact ⟨List.mem_cons_of_mem _ this.1, this.2⟩
    · rename_i hx
      obtain rfl := Option.some.inj h
      exact ⟨List.mem_cons_self, by simpa using hx⟩
def quoN (c : List Mb) (s : Nat) : Bool := !(s == 0) && (andn s (declN c) == 0 && (unhN c s).isNone)
/-- What is left of a set, and the nodes that go. -/
def elimG (c : List Mb) : Nat → Nat → List Nat → Nat × List Nat
  | 0, s, out => (s, out)
  | n + 1, s, out => match unhN c s with
    | none => (s, out)
    | some k => elimG c n (andn s (2 ^ k)) (out ++ [k])
def greatN (c : List Mb) (s : Nat) : Nat × List Nat := elimG c 1024 (s &&& declN c) []
theorem sub_bit {a b : Nat} (h : andn a b = 0) {k : Nat} (hk : a.testBit k = true) : b.testBit k = true := by
  have := andn_bit a b k
  rw [h, Nat.zero_testBit, hk] at this
  simpa using this.symm
theorem sub_of {a b : Nat} (h : ∀ k, a.testBit k = true → b.testBit k = true) : andn a b = 0 := by
  apply Nat.eq_of_testBit_eq
  intro i
  rw [andn_bit, Nat.zero_testBit]
  cases ha : a.testBit i
  · rfl
  · rw [h i ha]; rfl
end Go.Proofs.YtbfafljcclfeaaaGreatDoor
