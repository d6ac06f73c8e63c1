/- Plain law: dispensable sets, intact members, cascades. No program stands here. -/
import Derived.Test.YtbfafljcclfeaaaGreatDoorTnK
namespace Go.Proofs.YtbfafljcclfeaaaGreatDoor
set_option linter.unusedSimpArgs false
set_option linter.unusedVariables false
set_option linter.unnecessarySimpa false
set_option linter.unusedSectionVars false
set_option maxRecDepth 100000
open Go Go.RowKit Go.Am Go.Proofs.Grow

theorem has_mono {s u : Nat} (hs : s < 1024) (hu : u < 1024) (h : ∀ k, s.testBit k = true → u.testBit k = true) {x : Int} (hx : hasB (s : Int) x = true) : hasB (u : Int) x = true := by
  have hn : nodeB x = true := by unfold hasB at hx; simp at hx; exact hx.2.1
  obtain ⟨k, rfl⟩ : ∃ k : Nat, x = (k : Int) := ⟨x.toNat, by simp [nodeB] at hn; omega⟩
  have hk : k < 10 := by simp [nodeB] at hn; omega
  rw [has_nat hs hk] at hx
  rw [has_nat hu hk]
  exact h k hx
theorem cntI_mono {s u : Int} (h : ∀ x, hasB s x = true → hasB u x = true) : ∀ (l : List Int) {a b : Int}, a ≤ b → cntI s l a ≤ cntI u l b
  | [], a, b, hab => hab
  | x :: r, a, b, hab => by
    rw [cntI, cntI]
    refine cntI_mono h r ?_
    cases h1 : hasB s x with
    | true => rw [h x h1]; simp; omega
    | false =>
      rw [if_neg (by simp)]
      split <;> omega
mutual
theorem satT_mono {s u : Nat} (hs : s < 1024) (hu : u < 1024) (h : ∀ k, s.testBit k = true → u.testBit k = true) : ∀ t : Tr, satT (s : Int) t = true → satT (u : Int) t = true
  | .mk k ns is, hx => by
    have h1 := cntI_mono (fun x => has_mono hs hu h (x := x)) ns (Int.le_refl 0)
    have h2 := satL_mono hs hu h is _ _ h1
    simp only [satT, Bool.and_eq_true, decide_eq_true_eq] at hx ⊢
    exact ⟨valid_nat hu, by omega⟩
theorem satL_mono {s u : Nat} (hs : s < 1024) (hu : u < 1024) (h : ∀ k, s.testBit k = true → u.testBit k = true) : ∀ (l : List Tr) (a b : Int), a ≤ b → satL (s : Int) l a ≤ satL (u : Int) l b
  | [], a, b, hab => hab
  | t :: r, a, b, hab => by
    have ht := satT_mono hs hu h t
    simp only [satL]
    refine satL_mono hs hu h r _ _ ?_
    cases h1 : satT (s : Int) t with
    | true => rw [ht h1]; simp; omega
    | false =>
      rw [if_neg (by simp)]
      split <;> omega
end
/-- Each member of a set is declared and content with it. -/
def ClQ (c : List Mb) (q : Nat) : Prop := ∀ k, q.testBit k = true → (declN c).testBit k = true ∧ satT (q : Int) (nth c k).t = true
theorem quo_cl {c : List Mb} {q : Nat} (hq : q < 1024) (h : quoN c q = true) : ClQ c q := by
  intro k hk
  simp only [quoN, Bool.and_eq_true, beq_iff_eq] at h
  obtain ⟨_, h1, h2⟩ := h
  refine ⟨sub_bit h1 hk, ?_⟩
  have h3 := unhL_none.1 (Option.isNone_iff_eq_none.1 h2) k ((mem_nodes hq).2 hk)
  exact h3
theorem elim_keep {c : List Mb} {q : Nat} (hq : q < 1024) (hc : ClQ c q) : ∀ (n s : Nat) (out : List Nat), s < 1024 → (∀ k, q.testBit k = true → s.testBit k = true) → ∀ k, q.testBit k = true → (elimG c n s out).1.testBit k = true
  | 0, s, out, _, h, k, hk => h k hk
  | n + 1, s, out, hs, h, k, hk => by
    rw [elimG]
    split
    · exact h k hk
    · rename_i j hj
      obtain ⟨j1, j2⟩ := unhL_some hj
      refine elim_keep hq hc n _ _ (Nat.lt_of_le_of_lt (andn_le _ _) hs) (fun i hi => ?_) k hk
      rw [andn_bit, h i hi]
      rcases Nat.decEq j i with e | e
      · rw [Nat.testBit_two_pow_of_ne e]; rfl
      · subst e
        have := satT_mono hq hs h _ (hc j hi).2
        rw [j2] at this; cases this
theorem elim_sub {c : List Mb} : ∀ (n s : Nat) (out : List Nat) (k : Nat), (elimG c n s out).1.testBit k = true → s.testBit k = true
  | 0, s, out, k, h => h
  | n + 1, s, out, k, h => by
    rw [elimG] at h
    split at h
    · exact h
    · have := elim_sub n _ _ k h
      rw [andn_bit] at this
      simp at this
      exact this.1
theorem great_keep {c : List Mb} {q s : Nat} (hq : q < 1024) (hs : s < 1024) (hc : ClQ c q) (h : ∀ k, q.testBit k = true → s.testBit k = true) : ∀ k, q.testBit k = true → (greatN c s).1.testBit k = true :=
  elim_keep hq hc 1024 _ [] (and_lt10 hs) fun k hk => by rw [Nat.testBit_and, h k hk, (hc k hk).1]; rfl
theorem great_sub {c : List Mb} {s k : Nat} (h : (greatN c s).1.testBit k = true) : s.testBit k = true := by
  have := elim_sub 1024 _ [] k h
  rw [Nat.testBit_and] at this
  simp at this
  exact this.1
theorem ne_zero_bit {a : Nat} (h : a ≠ 0) : ∃ k, a.testBit k = true := by
  rcases Classical.em (∃ k, a.testBit k = true) with h1 | h1
  · exact h1
  · exact absurd (Nat.eq_of_testBit_eq fun i => by
      rw [Nat.zero_testBit]
      cases h2 : a.testBit i
      · rfl
      · exact absurd ⟨i, h2⟩ h1) h
theorem dsp_mem {c : List Mb} {ill b : Nat} {l : List Nat} (h : b ∈ dspN c ill l) : b ∈ l ∧ isN c b = true := by
  unfold dspN at h
  rw [List.mem_filter] at h
  simp at h
  exact ⟨h.1, h.2.2⟩
/-- What is left when a dispensable set goes. -/
theorem is_cl {c : List Mb} {b : Nat} (hl : c.length ≤ 10) (h : isN c b = true) : ClQ c (andn (memN c) b) := by
  have hm := mem_lt hl
  simp only [isN, avlN, Bool.and_eq_true, Bool.or_eq_true, beq_iff_eq] at h
  rcases h.1 with h1 | h1
  · intro k hk; rw [h1, Nat.zero_testBit] at hk; cases hk
  · exact quo_cl (andn_lt10 hm) h1
theorem spl_no {c : List Mb} {b : Nat} (h : isN c b = true) : splN c b = false := by
  simp only [isN, Bool.and_eq_true] at h
  unfold splN; rw [h.2]; rfl
theorem hal_no {c : List Mb} {b : Nat} (hl : c.length ≤ 10) (h : isN c b = true) (hb : b ≤ memN c) (hne : b ≠ memN c) : halN c b = false := by
  have hm := mem_lt hl
  have hc := is_cl hl h
  have hz : andn (memN c) b ≠ 0 := fun e => hne (Nat.le_antisymm hb (Nat.le_of_testBit fun k hk => sub_bit e hk))
  obtain ⟨k, hk⟩ := ne_zero_bit hz
  have := great_keep (andn_lt10 hm) (andn_lt10 hm) hc (fun k hk => hk) k hk
  unfold halN
  rw [beq_eq_false_iff_ne]
  intro e
  rw [e, Nat.zero_testBit] at this
  cases this
theorem and_bit : ∀ {l : List Nat} {a k : Nat}, (andL l a).testBit k = true ↔ a.testBit k = true ∧ ∀ b ∈ l, b.testBit k = true
  | [], a, k => by simp [andL]
  | b :: r, a, k => by
    rw [andL, and_bit, Nat.testBit_and]
    simp [and_assoc]
theorem int_cl {c : List Mb} {ill : Nat} {l : List Nat} (hl : c.length ≤ 10) : ClQ c (intN c ill l).1 := by
  have hm := mem_lt hl
  unfold intN
  split
  · intro k hk
    have hk0 := hk
    dsimp only at hk ⊢
    rw [andn_bit] at hk
    simp at hk
    obtain ⟨h1, h2⟩ := hk
    obtain ⟨b, hb1, hb2⟩ : ∃ b ∈ dspN c ill l, b.testBit k = false := by
      rcases Classical.em (∃ b ∈ dspN c ill l, b.testBit k = false) with h | h
      · exact h
      · have := (and_bit (l := dspN c ill l) (a := memN c) (k := k)).2 ⟨by rw [mem_bit]; simpa using h1, fun b hb => by
          cases e : b.testBit k
          · exact absurd ⟨b, hb, e⟩ h
          · rfl⟩
        rw [this] at h2; cases h2
    have hq := is_cl hl (dsp_mem hb1).2
    have hkq : (andn (memN c) b).testBit k = true := by rw [andn_bit, mem_bit, hb2]; simpa using h1
    refine ⟨(hq k hkq).1, satT_mono (andn_lt10 hm) (andn_lt10 hm) (fun j hj => ?_) _ (hq k hkq).2⟩
    rw [andn_bit] at hj ⊢
    simp only [Bool.and_eq_true, Bool.not_eq_true'] at hj ⊢
    refine ⟨hj.1, ?_⟩
    cases e : (andL (dspN c ill l) (memN c)).testBit j
    · rfl
    · have := (and_bit.1 e).2 b hb1
      rw [hj.2] at this; cases this
  · intro k hk
    dsimp only at hk
    rw [Nat.zero_testBit] at hk; cases hk
theorem int_le {c : List Mb} {ill : Nat} {l : List Nat} : (intN c ill l).1 ≤ memN c := by
  unfold intN
  split
  · exact andn_le _ _
  · exact Nat.zero_le _
theorem bit_1023 {k : Nat} (h : k < 10) : (1023 : Nat).testBit k = true := by
  have := Nat.testBit_two_pow_sub_one 10 k
  rw [show (2 : Nat) ^ 10 - 1 = 1023 from rfl] at this
  rw [this]; simpa using h
/-- Nobody in a closed set is blocked by those outside. -/
theorem blk_no {c : List Mb} {q s v : Nat} (hq : q < 1024) (hc : ClQ c q) (hv : q.testBit v = true) (h : ∀ k, q.testBit k = true → s.testBit k = false) : blkN c v s = false := by
  have hv10 := bit_lt hq hv
  have hp := pow_lt hv10
  have hu : andn 1023 s ||| 2 ^ v < 1024 := or_lt10 (andn_lt10 (by decide)) hp
  have := satT_mono hq hu (fun k hk => by
    rw [Nat.testBit_or, andn_bit, h k hk, bit_1023 (bit_lt hq hk)]
    rfl) _ (hc v hv).2
  unfold blkN
  rw [this]
  simp
theorem nxtL_no {c : List Mb} {s : Nat} : ∀ {l : List Nat}, (∀ v ∈ l, blkN c v s = false) → nxtL c s l = none
  | [], _ => rfl
  | v :: r, h => by
    rw [nxtL, if_neg (by rw [h v (by simp)]; simp)]
    exact nxtL_no fun x hx => h x (by simp [hx])
theorem cas_no {c : List Mb} {q : Nat} (hl : c.length ≤ 10) (hq : q ≤ memN c) (hc : ClQ c q) : casN c (andn (memN c) q) = (andn (memN c) q, []) := by
  have hm := mem_lt hl
  have hd := declN_lt hl
  have hq10 : q < 1024 := Nat.lt_of_le_of_lt hq hm
  have hs := andn_lt10 (b := q) hm
  have h : nxtN c (andn (memN c) q) = none := nxtL_no fun v hv => by
    rw [mem_nodes (andn_lt10 hd), andn_bit, andn_bit, mem_bit, declTo_bit] at hv
    simp only [Bool.and_eq_true, Bool.not_eq_true', decide_eq_true_eq] at hv
    have hqv : q.testBit v = true := by
      have := hv.2
      simpa [hv.1.1] using this
    exact blk_no hq10 hc hqv fun k hk => by rw [andn_bit, hk]; simp
  unfold casN
  cases e : 1024 - andn (memN c) q with
  | zero => omega
  | succ n => rw [casG, h]
theorem sub_lt_bit {c : List Mb} {q k : Nat} (hq : q ≤ memN c) (h : q.testBit k = true) : k < c.length := by
  rcases Nat.lt_or_ge k c.length with h1 | h1
  · exact h1
  · have hp : 0 < 2 ^ c.length := Nat.pow_pos (by decide)
    have h2 : q < 2 ^ c.length := by
      have : memN c = 2 ^ c.length - 1 := rfl
      omega
    rw [Nat.testBit_lt_two_pow (Nat.lt_of_lt_of_le h2 (Nat.pow_le_pow_right (by decide) h1))] at h
    cases h
theorem acc_no {c : List Mb} {q k : Nat} (hl : c.length ≤ 10) (hq : q ≤ memN c) (hc : ClQ c q) (hk : q.testBit k = true) : accN c k 0 (andn (memN c) q) = false := by
  have hm := mem_lt hl
  have hq10 : q < 1024 := Nat.lt_of_le_of_lt hq hm
  unfold accN
  rw [blk_no hq10 hc hk fun j hj => by rw [andn_bit, hj]; simp]
  cases e : (greatN c (0 ||| andn (memN c) q)).1.testBit k
  · rfl
  · have := great_sub e
    rw [Nat.zero_or, andn_bit, hk] at this
    simp at this
theorem acc_yes {c : List Mb} {q k : Nat} (hl : c.length ≤ 10) (hq : q ≤ memN c) (hc : ClQ c q) (hk : q.testBit k = true) : accN c k q 0 = true := by
  have hm := mem_lt hl
  have hq10 : q < 1024 := Nat.lt_of_le_of_lt hq hm
  unfold accN
  rw [Nat.or_zero, great_keep hq10 hq10 hc (fun j hj => hj) k hk]
  simp
theorem and_andn (a b : Nat) : andn a b &&& b = 0 := by
  apply Nat.eq_of_testBit_eq
  intro i
  rw [Nat.testBit_and, andn_bit, Nat.zero_testBit]
  cases a.testBit i <;> cases b.testBit i <;> rfl
end Go.Proofs.YtbfafljcclfeaaaGreatDoor
