/- Nothing is claimed here: what holds of a run beside its abstract view, and how it goes on when memory is made or written. -/
import Derived.Test.YteppnjgobaggaaaAm0
namespace Go.Am
set_option linter.unusedSimpArgs false
set_option linter.unusedVariables false
set_option linter.unnecessarySimpa false
set_option linter.unusedSectionVars false
set_option maxRecDepth 100000
open Go Go.RowKit Go.Proofs.Grow

def Hot (μ : Nat → Option Value) (M : Nat → Option AO) (b : Nat) : Prop := ∃ g o v, M g = some o ∧ o.live = true ∧ μ g = some v ∧ blkOf v = some b

def OR (H : Nat → Prop) (μ : Nat → Option Value) (w : World) (g : Nat) : AO → Prop
  | .dead => True
  | .box ty cs => ∃ b vs, μ g = some (.pointer (some ⟨b, 0, none⟩)) ∧ w.heap[b]? = some (.cells vs.toArray ty (0, 0)) ∧ VRs H μ w cs vs
  | .arr ty sz rs => ∃ v xs, μ g = some v ∧ w.ownsRow 0 ty sz v rs.length xs ∧ (∀ r ∈ rs, r.length = sz) ∧ VDs H w rs.flatten xs ∧ ∀ u ∈ xs, u.oneCell' = true

/-- The world that the call began in; the blocks that it may write; blocks that nothing it reads lies in; the number of slots. -/
structure Cx where
  w0 : World
  S : Nat → Prop
  H0 : Nat → Prop
  N : Nat
  μ0 : Nat → Option Value

def Ht (cx : Cx) (μ : Nat → Option Value) (M : Nat → Option AO) (b : Nat) : Prop := cx.H0 b ∨ Hot μ M b

/-- Nothing has changed but the blocks of B. -/
structure Chg (B : Nat → Prop) (w w' : World) : Prop where
  os : w'.os = w.os
  tape : w'.tape = w.tape
  output : w'.output = w.output
  size : w.heap.size ≤ w'.heap.size
  block : ∀ k, k < w.heap.size → ¬ B k → w'.heap[k]? = w.heap[k]?
theorem Chg.refl (B : Nat → Prop) (w : World) : Chg B w w := ⟨rfl, rfl, rfl, Nat.le_refl _, fun _ _ _ => rfl⟩
theorem Chg.trans {B : Nat → Prop} {a b c : World} (h : Chg B a b) (k : Chg B b c) : Chg B a c :=
  ⟨k.os.trans h.os, k.tape.trans h.tape, k.output.trans h.output, Nat.le_trans h.size k.size, fun i hi hB => (k.block i (Nat.lt_of_lt_of_le hi h.size) hB).trans (h.block i hi hB)⟩
theorem Chg.trans' {S B : Nat → Prop} {a b c : World} (h : Chg S a b) (k : Chg B b c) (hB : ∀ i, i < a.heap.size → B i → S i) : Chg S a c :=
  ⟨k.os.trans h.os, k.tape.trans h.tape, k.output.trans h.output, Nat.le_trans h.size k.size, fun i hi hS => (k.block i (Nat.lt_of_lt_of_le hi h.size) fun hb => hS (hB i hi hb)).trans (h.block i hi hS)⟩
theorem Chg.weaken {B B' : Nat → Prop} {w w' : World} (h : Chg B w w') (hB : ∀ k, k < w.heap.size → B k → B' k) : Chg B' w w' :=
  ⟨h.os, h.tape, h.output, h.size, fun k hk hn => h.block k hk fun hb => hn (hB k hk hb)⟩

structure InvM (cx : Cx) (μ : Nat → Option Value) (T : Nat → Option AV) (M : Nat → Option AO) (a : Act) (w : World) : Prop where
  tm : ∀ t x, T t = some x → VR (Ht cx μ M) μ w x (a.tmps.getD t undef)
  ob : ∀ g o, M g = some o → OR (Ht cx μ M) μ w g o
  inj : ∀ g g' o o' v v' b, M g = some o → o.live = true → M g' = some o' → o'.live = true → μ g = some v → μ g' = some v' → blkOf v = some b → blkOf v' = some b → g = g'
  lo : ∀ b, Hot μ M b → b < w.heap.size ∧ (cx.S b ∨ cx.w0.heap.size ≤ b)
  fr : Chg cx.S cx.w0 w
  free : ∀ g, M g = none → μ g = none
  hs : ∀ b, cx.H0 b → b < cx.w0.heap.size ∧ ¬ cx.S b
  base : ∀ g u, cx.μ0 g = some u → μ g = some u
  sz : a.tmps.size = cx.N
  df : a.defers = []
def Inv (cx : Cx) (T : Nat → Option AV) (M : Nat → Option AO) (a : Act) (w : World) : Prop := ∃ μ, InvM cx μ T M a w

section
variable {cx : Cx} {μ μ' : Nat → Option Value} {T T' : Nat → Option AV} {M M' : Nat → Option AO} {a : Act} {w w2 : World}

theorem InvM.keeps (h : InvM cx μ T M a w) {B : Nat → Prop} (hch : Chg B w w2) (hB : ∀ b, B b → Hot μ M b) (hhot : ∀ b, Hot μ' M' b → Hot μ M b ∨ w.heap.size ≤ b) : Keeps (Ht cx μ M) (Ht cx μ' M') w w2 := by
  intro b hb hh
  have h1 : ¬ cx.H0 b := fun k => hh (.inl k)
  have h2 : ¬ Hot μ M b := fun k => hh (.inr k)
  refine ⟨fun k => ?_, Nat.lt_of_lt_of_le hb hch.size, hch.block b hb fun k => h2 (hB b k)⟩
  rcases k with k | k
  · exact h1 k
  · rcases hhot b k with q | q
    · exact h2 q
    · omega

theorem ownsRow_at {base : Nat} {e : TypeId} {sz : Nat} {v : Value} {n : Nat} {xs : List Value} (h : w.ownsRow base e sz v n xs) (hb : ∀ b, blkOf v = some b → w2.heap[b]? = w.heap[b]?) : w2.ownsRow base e sz v n xs := by
  refine ⟨h.1, ?_⟩
  rcases h.2 with hn | ⟨g, cap, cur, rfl, hg, hgg, rest⟩
  · exact .inl hn
  · exact .inr ⟨g, cap, cur, rfl, hg, by rw [hb g rfl]; exact hgg, rest⟩
theorem ownsRow_blk {base : Nat} {e : TypeId} {sz : Nat} {v : Value} {n : Nat} {xs : List Value} (h : w.ownsRow base e sz v n xs) {b : Nat} (hb : blkOf v = some b) : b < w.heap.size := by
  rcases h.2 with ⟨rfl, _⟩ | ⟨g, cap, cur, rfl, hg, hgg, rest⟩
  · simp [blkOf] at hb
  · obtain rfl : g = b := by simpa [blkOf] using hb
    exact (Array.getElem?_eq_some_iff.1 hgg).1

theorem OR.blk {H : Nat → Prop} {g : Nat} {o : AO} (h : OR H μ w g o) (hl : o.live = true) : ∃ v, μ g = some v ∧ ∀ b, blkOf v = some b → b < w.heap.size := by
  cases o with
  | dead => cases hl
  | box ty cs =>
    obtain ⟨b, vs, h1, h2, _⟩ := h
    exact ⟨_, h1, fun c hc => by
      obtain rfl : b = c := by simpa [blkOf] using hc
      exact (Array.getElem?_eq_some_iff.1 h2).1⟩
  | arr ty sz rs =>
    obtain ⟨v, xs, h1, h2, _⟩ := h
    exact ⟨v, h1, fun c hc => ownsRow_blk h2 hc⟩

theorem OR.mono {H H' : Nat → Prop} {g : Nat} {o : AO} (h : OR H μ w g o) (hμ : ∀ k u, μ k = some u → μ' k = some u) (hk : Keeps H H' w w2) (hb : o.live = true → ∀ v b, μ g = some v → blkOf v = some b → w2.heap[b]? = w.heap[b]?) : OR H' μ' w2 g o := by
  cases o with
  | dead => trivial
  | box ty cs =>
    obtain ⟨b, vs, h1, h2, h3⟩ := h
    exact ⟨b, vs, hμ _ _ h1, by rw [hb rfl _ b h1 rfl]; exact h2, h3.grow hμ hk⟩
  | arr ty sz rs =>
    obtain ⟨v, xs, h1, h2, h3, h4, h5⟩ := h
    exact ⟨v, xs, hμ _ _ h1, ownsRow_at h2 (fun b hv => hb rfl v b h1 hv), h3, h4.mono hk, h5⟩

/-- The run goes on: some blocks of the call's own are written, some are new. -/
theorem InvM.next (h : InvM cx μ T M a w) {B : Nat → Prop} (hch : Chg B w w2) (hB : ∀ b, B b → Hot μ M b) (hμ : ∀ k u, μ k = some u → μ' k = some u)
    (hhot : ∀ b, Hot μ' M' b → Hot μ M b ∨ (w.heap.size ≤ b ∧ b < w2.heap.size))
    (hob : ∀ g o, M' g = some o → (M g = some o ∧ (o.live = true → ∀ v b, μ g = some v → blkOf v = some b → ¬ B b)) ∨ OR (Ht cx μ' M') μ' w2 g o)
    (hinj : ∀ g g' o o' v v' b, M' g = some o → o.live = true → M' g' = some o' → o'.live = true → μ' g = some v → μ' g' = some v' → blkOf v = some b → blkOf v' = some b → g = g')
    (hfree : ∀ g, M' g = none → μ' g = none) : InvM cx μ' T M' a w2 := by
  have hk : Keeps (Ht cx μ M) (Ht cx μ' M') w w2 := h.keeps hch hB (fun b hb => (hhot b hb).imp id (·.1))
  refine ⟨fun t x ht => (h.tm t x ht).grow hμ hk, fun g o hg => ?_, hinj, fun b hb => ?_, h.fr.trans' hch fun k hk2 hb => ?_, hfree, h.hs, fun g u hu => hμ g u (h.base g u hu), h.sz, h.df⟩
  · rcases hob g o hg with ⟨h1, h2⟩ | h1
    · refine (h.ob g o h1).mono hμ hk fun hl v b hv hb => ?_
      obtain ⟨v', hv', hlt⟩ := (h.ob g o h1).blk hl
      obtain rfl : v = v' := Option.some.inj (hv.symm.trans hv')
      exact hch.block b (hlt b hb) (h2 hl v b hv hb)
    · exact h1
  · rcases hhot b hb with q | ⟨q1, q2⟩
    · exact ⟨Nat.lt_of_lt_of_le (h.lo b q).1 hch.size, (h.lo b q).2⟩
    · exact ⟨q2, .inr (Nat.le_trans h.fr.size q1)⟩
  · rcases (h.lo k (hB k hb)).2 with q | q
    · exact q
    · omega
end
end Go.Am
