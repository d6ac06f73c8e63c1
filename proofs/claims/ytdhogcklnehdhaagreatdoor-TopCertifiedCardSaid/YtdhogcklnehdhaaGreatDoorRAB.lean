import Derived.Test.YtdhogcklnehdhaaGreatDoorRAA
import Derived.Deep.LoopGhost
namespace Go.Am
set_option linter.unusedSimpArgs false
set_option linter.unusedVariables false
set_option linter.unnecessarySimpa false
set_option linter.unusedSectionVars false
set_option maxRecDepth 100000
open Go Go.RowKit Go.Proofs.Grow
/-- The first entry of a key. -/
def lk {α : Type} : List (Nat × α) → Nat → Option α
  | [], _ => none
  | p :: r, t => match Nat.beq p.1 t with
    | true => some p.2
    | false => lk r t
/-- Plain data: values that need no memory of the call's own, and slices that are not written. -/
inductive D where
  | v (x : Value)
  | rows (sz : Nat) (rs : List (List D))
/-- What a slot or a cell holds: data; a pointer to a cell of an object; one to a cell of an element; the slice that is an object; a pointer to cells that are not written; struct; several results; a function with what it captured. -/
inductive AV where
  | d (x : D)
  | ptr (g off : Nat)
  | elt (g sz i off : Nat)
  | own (g : Nat)
  | rp (cs : List D)
  | sl (g sz lo n : Nat) (c : Option Nat)
  | agg (cs : List AV)
  | tup (cs : List AV)
  | clo (f : FuncId) (cs : List AV)
/-- An object of the call: a variable, or a slice that it owns. -/
inductive AO where
  | box (ty : TypeId) (cs : List AV)
  | arr (ty : TypeId) (sz : Nat) (rs : List (List D))
  | buf (ty : TypeId) (sz cap : Nat) (rs : List (List D))
  | dead
def AO.live : AO → Bool
  | .dead => false
  | _ => true
mutual
def AV.ok (g : Nat → Bool) : AV → Bool
  | .d _ => true
  | .rp _ => true
  | .sl x _ _ _ _ => g x
  | .ptr x _ => g x
  | .elt x _ _ _ => g x
  | .own x => g x
  | .agg cs => AV.oks g cs
  | .tup cs => AV.oks g cs
  | .clo _ cs => AV.oks g cs
def AV.oks (g : Nat → Bool) : List AV → Bool
  | [] => true
  | c :: r => AV.ok g c && AV.oks g r
end
theorem AV.oks_get {g : Nat → Bool} {cs : List AV} (h : AV.oks g cs = true) {i : Nat} {c : AV} (hc : cs[i]? = some c) : AV.ok g c = true := by
  induction cs generalizing i with
  | nil => simp at hc
  | cons x r ih =>
    simp only [AV.oks, Bool.and_eq_true] at h
    cases i with
    | zero => obtain rfl : x = c := by simpa using hc
              exact h.1
    | succ i => exact ih h.2 (by simpa using hc)
def blkOf : Value → Option Nat
  | .pointer (some a) => some a.block
  | .slice (some a) _ _ => some a.block
  | _ => none
/-- How data lies in the memory, in blocks that are not of H. -/
inductive VD (H : Nat → Prop) (w : World) : D → Value → Prop
  | v (x : Value) : VD H w (.v x) x
  | nil (sz : Nat) (a : Option Addr) (cap : Nat) (hc : a = none → cap = 0) : VD H w (.rows sz []) (.slice a 0 cap)
  | rows (sz : Nat) (rs : List (List D)) (b off cap : Nat) (vs : Nat → Nat → Value) (hne : rs ≠ []) (hcap : rs.length ≤ cap) (hlen : rs.length ≤ maxLen) (hb : ¬ H b) (hlt : b < w.heap.size)
      (hsz : ∀ (i : Nat) (r : List D), rs[i]? = some r → r.length = sz) (hcell : ∀ (i : Nat) (r : List D) (j : Nat) (c : D), rs[i]? = some r → r[j]? = some c → w.cell? ⟨b, off + i * sz + j, none⟩ = some (vs i j))
      (hone : ∀ (i : Nat) (r : List D) (j : Nat) (c : D), rs[i]? = some r → r[j]? = some c → (vs i j).oneCell' = true)
      (hval : ∀ (i : Nat) (r : List D) (j : Nat) (c : D), rs[i]? = some r → r[j]? = some c → VD H w c (vs i j)) : VD H w (.rows sz rs) (.slice (some ⟨b, off, none⟩) rs.length cap)
inductive VR (H : Nat → Prop) (μ : Nat → Option Value) (w : World) : AV → Value → Prop
  | d {x : D} {v : Value} (h : VD H w x v) : VR H μ w (.d x) v
  | ptr {g b off : Nat} (h : μ g = some (.pointer (some ⟨b, 0, none⟩))) : VR H μ w (.ptr g off) (.pointer (some ⟨b, off, none⟩))
  | elt {g b n cap sz i off : Nat} (h : μ g = some (.slice (some ⟨b, 0, none⟩) n cap)) : VR H μ w (.elt g sz i off) (.pointer (some ⟨b, i * sz + off, none⟩))
  | own {g : Nat} {a : Option Addr} {n cap : Nat} (h : μ g = some (.slice a n cap)) : VR H μ w (.own g) (.slice a n cap)
  | rp {cs : List D} {b off : Nat} (vs : Nat → Value) (hb : ¬ H b) (hlt : b < w.heap.size) (hcell : ∀ (j : Nat) (c : D), cs[j]? = some c → w.cell? ⟨b, off + j, none⟩ = some (vs j))
      (hval : ∀ (j : Nat) (c : D), cs[j]? = some c → VD H w c (vs j)) : VR H μ w (.rp cs) (.pointer (some ⟨b, off, none⟩))
  | sl {g sz lo n : Nat} {c : Option Nat} {ad a : Option Addr} {m cap k : Nat} (h : μ g = some (.slice ad m cap)) (hk : k + lo ≤ cap) (hn : n ≤ k) (hc : ∀ q, c = some q → k = q) (ha : a = ad.map (·.add (lo * sz)) ∨ (k = 0 ∧ a.isSome = ad.isSome)) : VR H μ w (.sl g sz lo n c) (.slice a n k)
  | agg {cs : List AV} {vs : List Value} (hl : cs.length = vs.length) (h : ∀ (i : Nat) (c : AV) (v : Value), cs[i]? = some c → vs[i]? = some v → VR H μ w c v) : VR H μ w (.agg cs) (.agg vs.toArray)
  | tup {cs : List AV} {vs : List Value} (hl : cs.length = vs.length) (h : ∀ (i : Nat) (c : AV) (v : Value), cs[i]? = some c → vs[i]? = some v → VR H μ w c v) : VR H μ w (.tup cs) (.tuple vs.toArray)
  | clo {f : FuncId} {cs : List AV} {vs : List Value} (hl : cs.length = vs.length) (h : ∀ (i : Nat) (c : AV) (v : Value), cs[i]? = some c → vs[i]? = some v → VR H μ w c v) : VR H μ w (.clo f cs) (.func (.func f) #[] vs.toArray)
/-- A list of values. -/
def VRs (H : Nat → Prop) (μ : Nat → Option Value) (w : World) (cs : List AV) (vs : List Value) : Prop := cs.length = vs.length ∧ ∀ (i : Nat) (c : AV) (v : Value), cs[i]? = some c → vs[i]? = some v → VR H μ w c v
def VDs (H : Nat → Prop) (w : World) (cs : List D) (vs : List Value) : Prop := cs.length = vs.length ∧ ∀ (i : Nat) (c : D) (v : Value), cs[i]? = some c → vs[i]? = some v → VD H w c v
section
variable {H H' : Nat → Prop} {μ μ' : Nat → Option Value} {w w' : World}
/-- The world outside H is as it was. -/
def Keeps (H H' : Nat → Prop) (w w' : World) : Prop := ∀ b, b < w.heap.size → ¬ H b → ¬ H' b ∧ b < w'.heap.size ∧ w'.heap[b]? = w.heap[b]?
theorem Keeps.refl (H : Nat → Prop) (w : World) : Keeps H H w w := fun _ hb hh => ⟨hh, hb, rfl⟩
theorem cell_at {w w' : World} {b o : Nat} (h : w'.heap[b]? = w.heap[b]?) : w'.cell? ⟨b, o, none⟩ = w.cell? ⟨b, o, none⟩ := by simp [World.cell?, h]
theorem VD.mono {x : D} {v : Value} (h : VD H w x v) (hk : Keeps H H' w w') : VD H' w' x v := by
  induction h with
  | v x => exact .v x
  | nil sz a cap hc => exact .nil sz a cap hc
  | rows sz rs b off cap vs hne hcap hlen hb hlt hsz hcell hone hval ih =>
    obtain ⟨h1, h2, h3⟩ := hk b hlt hb
    exact .rows sz rs b off cap vs hne hcap hlen h1 h2 hsz (fun i r j c hr hc => by rw [cell_at h3]; exact hcell i r j c hr hc) hone ih
theorem VDs.mono {cs : List D} {vs : List Value} (h : VDs H w cs vs) (hk : Keeps H H' w w') : VDs H' w' cs vs :=
  ⟨h.1, fun i c v hc hv => (h.2 i c v hc hv).mono hk⟩
theorem VR.mono {x : AV} {v : Value} (h : VR H μ w x v) (g : Nat → Bool) (hok : x.ok g = true) (hμ : ∀ k u, g k = true → μ k = some u → μ' k = some u) (hk : Keeps H H' w w') : VR H' μ' w' x v := by
  induction h with
  | d h => exact .d (h.mono hk)
  | ptr h => exact .ptr (hμ _ _ hok h)
  | elt h => exact .elt (hμ _ _ hok h)
  | own h => exact .own (hμ _ _ hok h)
  | sl h hk hn hc ha => exact .sl (hμ _ _ hok h) hk hn hc ha
  | rp vs hb hlt hcell hval =>
    obtain ⟨h1, h2, h3⟩ := hk _ hlt hb
    exact .rp vs h1 h2 (fun j c hc => by rw [cell_at h3]; exact hcell j c hc) (fun j c hc => (hval j c hc).mono hk)
  | agg hl _ ih => exact .agg hl fun i c v hc hv => ih i c v hc hv (AV.oks_get (by simpa [AV.ok] using hok) hc)
  | tup hl _ ih => exact .tup hl fun i c v hc hv => ih i c v hc hv (AV.oks_get (by simpa [AV.ok] using hok) hc)
  | clo hl _ ih => exact .clo hl fun i c v hc hv => ih i c v hc hv (AV.oks_get (by simpa [AV.ok] using hok) hc)
mutual
theorem AV.ok_all : ∀ x : AV, x.ok (fun _ => true) = true
  | .d _ | .rp _ | .ptr _ _ | .elt _ _ _ _ | .own _ | .sl _ _ _ _ _ => by simp [AV.ok]
  | .agg cs | .tup cs | .clo _ cs => by simp only [AV.ok]; exact AV.oks_all cs
theorem AV.oks_all : ∀ cs : List AV, AV.oks (fun _ => true) cs = true
  | [] => by simp [AV.oks]
  | c :: r => by simp only [AV.oks, AV.ok_all c, AV.oks_all r]; rfl
end
theorem VR.grow {x : AV} {v : Value} (h : VR H μ w x v) (hμ : ∀ k u, μ k = some u → μ' k = some u) (hk : Keeps H H' w w') : VR H' μ' w' x v :=
  h.mono (fun _ => true) (AV.ok_all x) (fun k u _ => hμ k u) hk
theorem VRs.mono {cs : List AV} {vs : List Value} (h : VRs H μ w cs vs) (g : Nat → Bool) (hok : AV.oks g cs = true) (hμ : ∀ k u, g k = true → μ k = some u → μ' k = some u) (hk : Keeps H H' w w') : VRs H' μ' w' cs vs :=
  ⟨h.1, fun i c v hc hv => (h.2 i c v hc hv).mono g (AV.oks_get hok hc) hμ hk⟩
theorem VRs.grow {cs : List AV} {vs : List Value} (h : VRs H μ w cs vs) (hμ : ∀ k u, μ k = some u → μ' k = some u) (hk : Keeps H H' w w') : VRs H' μ' w' cs vs :=
  ⟨h.1, fun i c v hc hv => (h.2 i c v hc hv).grow hμ hk⟩
theorem VRs.nil : VRs H μ w [] [] := ⟨rfl, fun i c v hc _ => by simp at hc⟩
theorem VRs.cons {c : AV} {cs : List AV} {v : Value} {vs : List Value} (h : VR H μ w c v) (hs : VRs H μ w cs vs) : VRs H μ w (c :: cs) (v :: vs) :=
  ⟨by simp [hs.1], fun i x u hx hu => by
    cases i with
    | zero => obtain rfl : c = x := by simpa using hx
              obtain rfl : v = u := by simpa using hu
              exact h
    | succ i => exact hs.2 i x u (by simpa using hx) (by simpa using hu)⟩
theorem VRs.uncons {c : AV} {cs : List AV} {vs : List Value} (h : VRs H μ w (c :: cs) vs) : ∃ v r, vs = v :: r ∧ VR H μ w c v ∧ VRs H μ w cs r := by
  cases vs with
  | nil => have := h.1; simp at this
  | cons v r => exact ⟨v, r, rfl, h.2 0 c v rfl rfl, by have := h.1; simpa using this, fun i x u hx hu => h.2 (i + 1) x u (by simpa using hx) (by simpa using hu)⟩
theorem VRs.unnil {vs : List Value} (h : VRs H μ w [] vs) : vs = [] := by
  have := h.1
  exact List.eq_nil_of_length_eq_zero (by simpa using this.symm)
theorem VRs.get {cs : List AV} {vs : List Value} (h : VRs H μ w cs vs) {i : Nat} {c : AV} (hc : cs[i]? = some c) : ∃ v, vs[i]? = some v ∧ VR H μ w c v := by
  have hi : i < vs.length := by rw [← h.1]; exact (List.getElem?_eq_some_iff.1 hc).1
  exact ⟨vs[i], by simp [hi], h.2 i c _ hc (by simp [hi])⟩
theorem VRs.append {cs ds : List AV} {vs us : List Value} (h : VRs H μ w cs vs) (k : VRs H μ w ds us) : VRs H μ w (cs ++ ds) (vs ++ us) := by
  induction cs generalizing vs with
  | nil => rw [h.unnil]; exact k
  | cons c r ih => obtain ⟨v, t, rfl, h1, h2⟩ := h.uncons; exact VRs.cons h1 (ih h2)
theorem VRs.take {cs : List AV} {vs : List Value} (h : VRs H μ w cs vs) (n : Nat) : VRs H μ w (cs.take n) (vs.take n) :=
  ⟨by simp [h.1], fun i c v hc hv => by
    rw [List.getElem?_take] at hc hv
    split at hc
    · rename_i hin; rw [if_pos hin] at hv; exact h.2 i c v hc hv
    · cases hc⟩
theorem VRs.drop {cs : List AV} {vs : List Value} (h : VRs H μ w cs vs) (n : Nat) : VRs H μ w (cs.drop n) (vs.drop n) :=
  ⟨by simp [h.1], fun i c v hc hv => by rw [List.getElem?_drop] at hc hv; exact h.2 _ c v hc hv⟩
end
end Go.Am
/- Nothing is claimed here: what holds of a run beside its abstract view, and how it goes on when memory is made or written. -/
namespace Go.Am
set_option linter.unusedSimpArgs false
set_option linter.unusedVariables false
set_option linter.unnecessarySimpa false
set_option linter.unusedSectionVars false
set_option maxRecDepth 100000
open Go Go.RowKit Go.Proofs.Grow
def Hot (μ : Nat → Option Value) (M : Nat → Option AO) (b : Nat) : Prop := ∃ g o v, M g = some o ∧ o.live = true ∧ μ g = some v ∧ blkOf v = some b
def OR (H : Nat → Prop) (μ : Nat → Option Value) (w : World) (g : Nat) : AO → Prop
  | .dead => True
  | .box ty cs => ∃ b vs, μ g = some (.pointer (some ⟨b, 0, none⟩)) ∧ w.heap[b]? = some (.cells vs.toArray ty (0, 0)) ∧ VRs H μ w cs vs
  | .arr ty sz rs => ∃ v xs, μ g = some v ∧ w.ownsRow 0 ty sz v rs.length xs ∧ (∀ r ∈ rs, r.length = sz) ∧ VDs H w rs.flatten xs ∧ ∀ u ∈ xs, u.oneCell' = true
  | .buf ty sz cap rs => ∃ (ad : Option Addr) (m : Nat) (xs : List Value), μ g = some (.slice ad m cap) ∧ xs.length = rs.length * sz ∧ rs.length ≤ cap ∧ cap ≤ maxLen ∧ (ad = none → cap = 0) ∧
      (∀ a, ad = some a → ∃ b cur, a = ⟨b, 0, none⟩ ∧ w.heap[b]? = some (.cells cur ty (0, 0)) ∧ cur.size = cap * sz ∧ cur.toList.take (rs.length * sz) = xs) ∧ (∀ r ∈ rs, r.length = sz) ∧ VDs H w rs.flatten xs ∧ ∀ u ∈ xs, u.oneCell' = true
/-- The world that the call began in; the blocks that it may write; blocks that nothing it reads lies in; the number of slots. -/
structure Cx where
  w0 : World
  S : Nat → Prop
  H0 : Nat → Prop
  N : Nat
  μ0 : Nat → Option Value
def Ht (cx : Cx) (μ : Nat → Option Value) (M : Nat → Option AO) (b : Nat) : Prop := cx.H0 b ∨ Hot μ M b
/-- Nothing has changed but the blocks of B. -/
structure Chg (B : Nat → Prop) (w w' : World) : Prop where
  os : w'.os = w.os
  tape : w'.tape = w.tape
  output : w'.output = w.output
  size : w.heap.size ≤ w'.heap.size
  block : ∀ k, k < w.heap.size → ¬ B k → w'.heap[k]? = w.heap[k]?
theorem Chg.refl (B : Nat → Prop) (w : World) : Chg B w w := ⟨rfl, rfl, rfl, Nat.le_refl _, fun _ _ _ => rfl⟩
theorem Chg.trans {B : Nat → Prop} {a b c : World} (h : Chg B a b) (k : Chg B b c) : Chg B a c :=
  ⟨k.os.trans h.os, k.tape.trans h.tape, k.output.trans h.output, Nat.le_trans h.size k.size, fun i hi hB => (k.block i (Nat.lt_of_lt_of_le hi h.size) hB).trans (h.block i hi hB)⟩
theorem Chg.trans' {S B : Nat → Prop} {a b c : World} (h : Chg S a b) (k : Chg B b c) (hB : ∀ i, i < a.heap.size → B i → S i) : Chg S a c :=
  ⟨k.os.trans h.os, k.tape.trans h.tape, k.output.trans h.output, Nat.le_trans h.size k.size, fun i hi hS => (k.block i (Nat.lt_of_lt_of_le hi h.size) fun hb => hS (hB i hi hb)).trans (h.block i hi hS)⟩
theorem Chg.weaken {B B' : Nat → Prop} {w w' : World} (h : Chg B w w') (hB : ∀ k, k < w.heap.size → B k → B' k) : Chg B' w w' :=
  ⟨h.os, h.tape, h.output, h.size, fun k hk hn => h.block k hk fun hb => hn (hB k hk hb)⟩
structure InvM (cx : Cx) (μ : Nat → Option Value) (T : Nat → Option AV) (M : Nat → Option AO) (a : Act) (w : World) : Prop where
  tm : ∀ t x, T t = some x → VR (Ht cx μ M) μ w x (a.tmps.getD t undef)
  ob : ∀ g o, M g = some o → OR (Ht cx μ M) μ w g o
  inj : ∀ g g' o o' v v' b, M g = some o → o.live = true → M g' = some o' → o'.live = true → μ g = some v → μ g' = some v' → blkOf v = some b → blkOf v' = some b → g = g'
  lo : ∀ b, Hot μ M b → b < w.heap.size ∧ (cx.S b ∨ cx.w0.heap.size ≤ b)
  fr : Chg cx.S cx.w0 w
  free : ∀ g, M g = none → μ g = none
  hs : ∀ b, cx.H0 b → b < cx.w0.heap.size ∧ ¬ cx.S b
  base : ∀ g u, cx.μ0 g = some u → μ g = some u
  sz : a.tmps.size = cx.N
  df : a.defers = []
def Inv (cx : Cx) (T : Nat → Option AV) (M : Nat → Option AO) (a : Act) (w : World) : Prop := ∃ μ, InvM cx μ T M a w
section
variable {cx : Cx} {μ μ' : Nat → Option Value} {T T' : Nat → Option AV} {M M' : Nat → Option AO} {a : Act} {w w2 : World}
theorem InvM.keeps (h : InvM cx μ T M a w) {B : Nat → Prop} (hch : Chg B w w2) (hB : ∀ b, B b → Hot μ M b) (hhot : ∀ b, Hot μ' M' b → Hot μ M b ∨ w.heap.size ≤ b) : Keeps (Ht cx μ M) (Ht cx μ' M') w w2 := by
  intro b hb hh
  have h1 : ¬ cx.H0 b := fun k => hh (.inl k)
  have h2 : ¬ Hot μ M b := fun k => hh (.inr k)
  refine ⟨fun k => ?_, Nat.lt_of_lt_of_le hb hch.size, hch.block b hb fun k => h2 (hB b k)⟩
  rcases k with k | k
  · exact h1 k
  · rcases hhot b k with q | q
    · exact h2 q
    · omega
theorem ownsRow_at {base : Nat} {e : TypeId} {sz : Nat} {v : Value} {n : Nat} {xs : List Value} (h : w.ownsRow base e sz v n xs) (hb : ∀ b, blkOf v = some b → w2.heap[b]? = w.heap[b]?) : w2.ownsRow base e sz v n xs := by
  refine ⟨h.1, ?_⟩
  rcases h.2 with hn | ⟨g, cap, cur, rfl, hg, hgg, rest⟩
  · exact .inl hn
  · exact .inr ⟨g, cap, cur, rfl, hg, by rw [hb g rfl]; exact hgg, rest⟩
theorem ownsRow_blk {base : Nat} {e : TypeId} {sz : Nat} {v : Value} {n : Nat} {xs : List Value} (h : w.ownsRow base e sz v n xs) {b : Nat} (hb : blkOf v = some b) : b < w.heap.size := by
  rcases h.2 with ⟨rfl, _⟩ | ⟨g, cap, cur, rfl, hg, hgg, rest⟩
  · simp [blkOf] at hb
  · obtain rfl : g = b := by simpa [blkOf] using hb
    exact (Array.getElem?_eq_some_iff.1 hgg).1
theorem OR.blk {H : Nat → Prop} {g : Nat} {o : AO} (h : OR H μ w g o) (hl : o.live = true) : ∃ v, μ g = some v ∧ ∀ b, blkOf v = some b → b < w.heap.size := by
  cases o with
  | dead => cases hl
  | box ty cs =>
    obtain ⟨b, vs, h1, h2, _⟩ := h
    exact ⟨_, h1, fun c hc => by
      obtain rfl : b = c := by simpa [blkOf] using hc
      exact (Array.getElem?_eq_some_iff.1 h2).1⟩
  | arr ty sz rs =>
    obtain ⟨v, xs, h1, h2, _⟩ := h
    exact ⟨v, h1, fun c hc => ownsRow_blk h2 hc⟩
  | buf ty sz cap rs =>
    obtain ⟨ad, m, xs, h1, _, _, _, _, h6, _⟩ := h
    refine ⟨_, h1, fun c hc => ?_⟩
    cases ad with
    | none => simp [blkOf] at hc
    | some a =>
      obtain ⟨b, cur, rfl, h7, _⟩ := h6 a rfl
      obtain rfl : b = c := by simpa [blkOf] using hc
      exact (Array.getElem?_eq_some_iff.1 h7).1
theorem OR.mono {H H' : Nat → Prop} {g : Nat} {o : AO} (h : OR H μ w g o) (hμ : ∀ k u, μ k = some u → μ' k = some u) (hk : Keeps H H' w w2) (hb : o.live = true → ∀ v b, μ g = some v → blkOf v = some b → w2.heap[b]? = w.heap[b]?) : OR H' μ' w2 g o := by
  cases o with
  | dead => trivial
  | box ty cs =>
    obtain ⟨b, vs, h1, h2, h3⟩ := h
    exact ⟨b, vs, hμ _ _ h1, by rw [hb rfl _ b h1 rfl]; exact h2, h3.grow hμ hk⟩
  | arr ty sz rs =>
    obtain ⟨v, xs, h1, h2, h3, h4, h5⟩ := h
    exact ⟨v, xs, hμ _ _ h1, ownsRow_at h2 (fun b hv => hb rfl v b h1 hv), h3, h4.mono hk, h5⟩
  | buf ty sz cap rs =>
    obtain ⟨ad, m, xs, h1, h2, h3, h4, h5, h6, h7, h8, h9⟩ := h
    refine ⟨ad, m, xs, hμ _ _ h1, h2, h3, h4, h5, fun a ha => ?_, h7, h8.mono hk, h9⟩
    obtain ⟨b, cur, rfl, q1, q2, q3⟩ := h6 a ha
    exact ⟨b, cur, rfl, by rw [hb rfl _ b h1 (by subst ha; rfl)]; exact q1, q2, q3⟩
/-- The run goes on: some blocks of the call's own are written, some are new. -/
theorem InvM.next (h : InvM cx μ T M a w) {B : Nat → Prop} (hch : Chg B w w2) (hB : ∀ b, B b → Hot μ M b) (hμ : ∀ k u, μ k = some u → μ' k = some u)
    (hhot : ∀ b, Hot μ' M' b → Hot μ M b ∨ (w.heap.size ≤ b ∧ b < w2.heap.size))
    (hob : ∀ g o, M' g = some o → (M g = some o ∧ (o.live = true → ∀ v b, μ g = some v → blkOf v = some b → ¬ B b)) ∨ OR (Ht cx μ' M') μ' w2 g o)
    (hinj : ∀ g g' o o' v v' b, M' g = some o → o.live = true → M' g' = some o' → o'.live = true → μ' g = some v → μ' g' = some v' → blkOf v = some b → blkOf v' = some b → g = g')
    (hfree : ∀ g, M' g = none → μ' g = none) : InvM cx μ' T M' a w2 := by
  have hk : Keeps (Ht cx μ M) (Ht cx μ' M') w w2 := h.keeps hch hB (fun b hb => (hhot b hb).imp id (·.1))
  refine ⟨fun t x ht => (h.tm t x ht).grow hμ hk, fun g o hg => ?_, hinj, fun b hb => ?_, h.fr.trans' hch fun k hk2 hb => ?_, hfree, h.hs, fun g u hu => hμ g u (h.base g u hu), h.sz, h.df⟩
  · rcases hob g o hg with ⟨h1, h2⟩ | h1
    · refine (h.ob g o h1).mono hμ hk fun hl v b hv hb => ?_
      obtain ⟨v', hv', hlt⟩ := (h.ob g o h1).blk hl
      obtain rfl : v = v' := Option.some.inj (hv.symm.trans hv')
      exact hch.block b (hlt b hb) (h2 hl v b hv hb)
    · exact h1
  · rcases hhot b hb with q | ⟨q1, q2⟩
    · exact ⟨Nat.lt_of_lt_of_le (h.lo b q).1 hch.size, (h.lo b q).2⟩
    · exact ⟨q2, .inr (Nat.le_trans h.fr.size q1)⟩
  · rcases (h.lo k (hB k hb)).2 with q | q
    · exact q
    · omega
end
end Go.Am
/- Nothing is claimed here: one operation beside its abstract view: what it gives, and which objects it looks at or changes. -/
namespace Go.Am
set_option linter.unusedSimpArgs false
set_option linter.unusedVariables false
set_option linter.unnecessarySimpa false
set_option linter.unusedSectionVars false
set_option maxRecDepth 100000
open Go Go.RowKit Go.Proofs.Grow
def upT (T : Nat → Option AV) (d : Option Tmp) (x : AV) : Nat → Option AV := fun t => if d = some t then some x else T t
def upM (M : Nat → Option AO) (wr : List (Nat × AO)) : Nat → Option AO := fun g => match lk wr g with
  | some o => some o
  | none => M g
theorem upM_nil (M : Nat → Option AO) : upM M [] = M := rfl
section
variable {cx : Cx} {μ μ' : Nat → Option Value} {T T' : Nat → Option AV} {M M' : Nat → Option AO} {a : Act} {w w2 : World}
theorem InvM.put {x : AV} {v : Value} {d : Option Tmp} (h : InvM cx μ T M a w) (hv : VR (Ht cx μ M) μ w x v) (hd : ∀ t, d = some t → t < cx.N) : InvM cx μ (upT T d x) M (a.put d v) w := by
  refine ⟨fun t y ht => ?_, h.ob, h.inj, h.lo, h.fr, h.free, h.hs, h.base, by rw [put_size]; exact h.sz, by rw [put_defers']; exact h.df⟩
  unfold upT at ht
  by_cases e : d = some t
  · rw [if_pos e] at ht
    obtain rfl : x = y := by simpa using ht
    subst e
    rw [put_same _ _ _ (by rw [h.sz]; exact hd t rfl)]
    exact hv
  · rw [if_neg e] at ht
    rw [put_other _ _ _ _ e]
    exact h.tm t y ht
theorem InvM.same (h : InvM cx μ T M a w) (h1 : w2.heap = w.heap) (h2 : w2.os = w.os) (h3 : w2.tape = w.tape) (h4 : w2.output = w.output) : InvM cx μ T M a w2 :=
  h.next (B := fun _ => False) ⟨h2, h3, h4, by rw [h1]; exact Nat.le_refl _, fun k _ _ => by rw [h1]⟩ (fun _ hb => hb.elim) (fun _ _ hk => hk) (fun _ hb => .inl hb)
    (fun g o hg => .inl ⟨hg, fun _ _ _ _ _ hb => hb⟩) h.inj h.free
theorem InvM.drew (h : InvM cx μ T M a w) : InvM cx μ T M a { w with drawn := w.drawn + 1 } := h.same rfl rfl rfl rfl
def upμ (μ : Nat → Option Value) (g : Nat) (v : Value) : Nat → Option Value := fun k => if k = g then some v else μ k
theorem upμ_old {g : Nat} {v : Value} (hg : μ g = none) : ∀ k u, μ k = some u → upμ μ g v k = some u := by
  intro k u hk
  unfold upμ
  rw [if_neg (fun e => by rw [e, hg] at hk; cases hk)]
  exact hk
theorem upμ_self (g : Nat) (v : Value) : upμ μ g v g = some v := by simp [upμ]
theorem upM_one_self (g : Nat) (o : AO) : upM M [(g, o)] g = some o := by simp [upM, lk]
theorem upM_one_other {g k : Nat} (o : AO) (h : k ≠ g) : upM M [(g, o)] k = M k := by
  have : Nat.beq g k = false := by
    cases hb : Nat.beq g k
    · rfl
    · exact absurd (Nat.eq_of_beq_eq_true hb).symm h
  simp [upM, lk, this]
/-- A new object. -/
theorem InvM.new (h : InvM cx μ T M a w) {g : Nat} {o : AO} {v : Value} (hg : M g = none) (hch : Chg (fun _ => False) w w2) (hl : o.live = true) (hblk : ∀ b, blkOf v = some b → w.heap.size ≤ b ∧ b < w2.heap.size)
    (hor : (∀ H', Keeps (Ht cx μ M) H' w w2 → (∀ b, H' b → Ht cx μ M b ∨ w.heap.size ≤ b) → OR H' (upμ μ g v) w2 g o)) : InvM cx (upμ μ g v) T (upM M [(g, o)]) a w2 := by
  have hμ : ∀ k u, μ k = some u → upμ μ g v k = some u := upμ_old (h.free g hg)
  have hhot : ∀ b, Hot (upμ μ g v) (upM M [(g, o)]) b → Hot μ M b ∨ (w.heap.size ≤ b ∧ b < w2.heap.size) := by
    rintro b ⟨k, q, u, h1, h2, h3, h4⟩
    by_cases e : k = g
    · subst e
      rw [upμ_self] at h3
      obtain rfl : v = u := by simpa using h3
      exact .inr (hblk b h4)
    · rw [upM_one_other _ e] at h1
      have : upμ μ g v k = μ k := by simp [upμ, e]
      rw [this] at h3
      exact .inl ⟨k, q, u, h1, h2, h3, h4⟩
  refine h.next hch (fun _ hb => hb.elim) hμ hhot (fun k q hk => ?_) ?_ (fun k hk => ?_)
  · by_cases e : k = g
    · subst e
      rw [upM_one_self] at hk
      obtain rfl : o = q := by simpa using hk
      exact .inr (hor _ (h.keeps hch (fun _ hb => hb.elim) (fun b hb => (hhot b hb).imp id (·.1))) (fun b hb => by
        rcases hb with hb | hb
        · exact .inl (.inl hb)
        · exact (hhot b hb).imp .inr (·.1)))
    · rw [upM_one_other _ e] at hk
      exact .inl ⟨hk, fun _ _ _ _ _ hb => hb⟩
  · intro k k' q q' u u' b h1 h2 h3 h4 h5 h6 h7 h8
    have old : ∀ k q u, k ≠ g → upM M [(g, o)] k = some q → q.live = true → upμ μ g v k = some u → blkOf u = some b → M k = some q ∧ μ k = some u ∧ b < w.heap.size := by
      intro k q u e hq hl2 hu hb
      rw [upM_one_other _ e] at hq
      have e2 : upμ μ g v k = μ k := by simp [upμ, e]
      rw [e2] at hu
      exact ⟨hq, hu, (h.lo b ⟨k, q, u, hq, hl2, hu, hb⟩).1⟩
    have new : ∀ u, upμ μ g v g = some u → blkOf u = some b → w.heap.size ≤ b := by
      intro u hu hb
      rw [upμ_self] at hu
      obtain rfl : v = u := by simpa using hu
      exact (hblk b hb).1
    by_cases e : k = g <;> by_cases e' : k' = g
    · rw [e, e']
    · subst e
      have := new u h5 h7
      have := (old k' q' u' e' h3 h4 h6 h8).2.2
      omega
    · subst e'
      have := new u' h6 h8
      have := (old k q u e h1 h2 h5 h7).2.2
      omega
    · obtain ⟨a1, a2, _⟩ := old k q u e h1 h2 h5 h7
      obtain ⟨b1, b2, _⟩ := old k' q' u' e' h3 h4 h6 h8
      exact h.inj k k' q q' u u' b a1 h2 b1 h4 a2 b2 h7 h8
  · by_cases e : k = g
    · subst e; rw [upM_one_self] at hk; cases hk
    · rw [upM_one_other _ e] at hk
      simp only [upμ, e, if_false]; exact h.free k hk
/-- An object is written in place. -/
theorem InvM.write (h : InvM cx μ T M a w) {g : Nat} {o o' : AO} {v : Value} {b : Nat} (hg : M g = some o) (hl : o.live = true) (hl' : o'.live = true) (hv : μ g = some v) (hb : blkOf v = some b) (hch : Chg (fun k => k = b) w w2)
    (hor : (∀ H', Keeps (Ht cx μ M) H' w w2 → (∀ b, H' b → Ht cx μ M b) → OR H' μ w2 g o')) : InvM cx μ T (upM M [(g, o')]) a w2 := by
  have hhot : ∀ c, Hot μ (upM M [(g, o')]) c → Hot μ M c := by
    rintro c ⟨k, q, u, h1, h2, h3, h4⟩
    by_cases e : k = g
    · subst e; exact ⟨k, o, u, hg, hl, h3, h4⟩
    · rw [upM_one_other _ e] at h1; exact ⟨k, q, u, h1, h2, h3, h4⟩
  have hB : ∀ c, c = b → Hot μ M c := fun c hc => by subst hc; exact ⟨g, o, v, hg, hl, hv, hb⟩
  refine h.next hch hB (fun _ _ hk => hk) (fun c hc => .inl (hhot c hc)) (fun k q hk => ?_) ?_ (fun k hk => ?_)
  · by_cases e : k = g
    · subst e
      rw [upM_one_self] at hk
      obtain rfl : o' = q := by simpa using hk
      exact .inr (hor _ (h.keeps hch hB (fun c hc => .inl (hhot c hc))) (fun c hc => hc.imp id (hhot c)))
    · rw [upM_one_other _ e] at hk
      exact .inl ⟨hk, fun hlq u c hu hc e2 => by subst e2; exact e (h.inj k g q o u v c hk hlq hg hl hu hv hc hb)⟩
  · intro k k' q q' u u' c h1 h2 h3 h4 h5 h6 h7 h8
    have old : ∀ k q, upM M [(g, o')] k = some q → q.live = true → ∃ q', M k = some q' ∧ q'.live = true := by
      intro k q hq hlq
      by_cases e : k = g
      · subst e; exact ⟨o, hg, hl⟩
      · rw [upM_one_other _ e] at hq; exact ⟨q, hq, hlq⟩
    obtain ⟨p, p1, p2⟩ := old k q h1 h2
    obtain ⟨p', p1', p2'⟩ := old k' q' h3 h4
    exact h.inj k k' p p' u u' c p1 p2 p1' p2' h5 h6 h7 h8
  · by_cases e : k = g
    · subst e; rw [upM_one_self] at hk; cases hk
    · rw [upM_one_other _ e] at hk; exact h.free k hk
/-- An object is given up. -/
theorem InvM.kill (h : InvM cx μ T M a w) (g : Nat) (hg : M g ≠ none) : InvM cx μ T (upM M [(g, .dead)]) a w := by
  have hold : ∀ k q, upM M [(g, .dead)] k = some q → q.live = true → M k = some q := by
    intro k q hk hl
    by_cases e : k = g
    · subst e; rw [upM_one_self] at hk; obtain rfl : AO.dead = q := by simpa using hk
      cases hl
    · rwa [upM_one_other _ e] at hk
  have hhot : ∀ c, Hot μ (upM M [(g, .dead)]) c → Hot μ M c := by
    rintro c ⟨k, q, u, h1, h2, h3, h4⟩
    exact ⟨k, q, u, hold k q h1 h2, h2, h3, h4⟩
  refine h.next (B := fun _ => False) (Chg.refl _ _) (fun _ hb => hb.elim) (fun _ _ hk => hk) (fun c hc => .inl (hhot c hc)) (fun k q hk => ?_) ?_ (fun k hk => ?_)
  · by_cases e : k = g
    · subst e; rw [upM_one_self] at hk; obtain rfl : AO.dead = q := by simpa using hk
      exact .inr trivial
    · rw [upM_one_other _ e] at hk; exact .inl ⟨hk, fun _ _ _ _ _ hb => hb⟩
  · intro k k' q q' u u' c h1 h2 h3 h4 h5 h6 h7 h8
    exact h.inj k k' q q' u u' c (hold k q h1 h2) h2 (hold k' q' h3 h4) h4 h5 h6 h7 h8
  · by_cases e : k = g
    · subst e; rw [upM_one_self] at hk; cases hk
    · rw [upM_one_other _ e] at hk; exact h.free k hk
end
/-- What one operation does: the value, the objects that it looks at, those that it makes or changes. -/
structure En where
  val : AV
  tch : List Nat
  wr : List (Nat × AO)
def opTs (o : Oper) : List Nat := o.op.operands.toList.filterMap fun x => match x with
  | .tmp t => some t
  | _ => none
def StepOK (P : Program) (o : Oper) (T : Nat → Option AV) (M : Nat → Option AO) (e : En) : Prop :=
  (∀ p ∈ e.wr, p.1 ∈ e.tch) ∧ ∀ (cx : Cx) (T' : Nat → Option AV) (M' : Nat → Option AO) (a : Act) (w : World), (∀ d, o.dst = some d → d < cx.N) → (∀ t ∈ opTs o, T' t = T t) → (∀ g ∈ e.tch, M' g = M g) →
    Inv cx T' M' a w → GivesF P o a w (fun v w2 => Inv cx (upT T' o.dst e.val) (upM M' e.wr) (a.put o.dst v) w2)
def cvA : Value → AV
  | .agg cs => .agg (cs.toList.map fun c => .d (.v c))
  | v => .d (.v v)
def evA (T : Nat → Option AV) : Operand → Option AV
  | .tmp t => T t
  | .const v => match cvA v with
    | .d x => some (.d x)
    | .agg cs => some (.agg cs)
    | _ => none
  | .func f => some (.clo f [])
  | .global _ => none
theorem VR_cvA (H : Nat → Prop) (μ : Nat → Option Value) (w : World) (v : Value) : VR H μ w (cvA v) v := by
  unfold cvA
  split
  · rename_i cs
    have := VR.agg (H := H) (μ := μ) (w := w) (cs := cs.toList.map fun c => .d (.v c)) (vs := cs.toList) (by simp) (fun i c v hc hv => by
      rw [List.getElem?_map, hv] at hc
      obtain rfl : AV.d (.v v) = c := by simpa using hc
      exact .d (.v _))
    simpa using this
  · exact .d (.v _)
section
variable {P : Program} {cx : Cx} {μ : Nat → Option Value} {T T' : Nat → Option AV} {M M' : Nat → Option AO} {a : Act} {w : World} {o : Oper}
theorem evA_local {x : Operand} (hT : ∀ t ∈ opTs o, T' t = T t) (hx : x ∈ o.op.operands.toList) : evA T' x = evA T x := by
  cases x with
  | tmp t => exact hT t (List.mem_filterMap.2 ⟨.tmp t, hx, rfl⟩)
  | _ => rfl
theorem InvM.ev (h : InvM cx μ T' M a w) {x : Operand} {y : AV} (hT : ∀ t ∈ opTs o, T' t = T t) (hx : x ∈ o.op.operands.toList) (hy : evA T x = some y) : VR (Ht cx μ M) μ w y (a.eval x) := by
  rw [← evA_local hT hx] at hy
  cases x with
  | tmp t => exact h.tm t y hy
  | const v =>
    have e : cvA v = y := by
      simp only [evA] at hy
      cases hc : cvA v <;> rw [hc] at hy <;> simp at hy <;> exact hy
    rw [← e]; exact VR_cvA _ _ _ _
  | func f => obtain rfl : AV.clo f [] = y := by simpa [evA] using hy
              exact .clo (vs := []) rfl fun i c v hc => by simp at hc
  | global g => simp [evA] at hy
/-- An operation that reads alone. -/
theorem step_read {val : AV} (tch : List Nat) (h : ∀ (cx : Cx) μ T' M' a w, InvM cx μ T' M' a w → (∀ t ∈ opTs o, T' t = T t) → (∀ g ∈ tch, M' g = M g) → ∃ v, (execOp a.eval o).run P w = .ok (.value v) w ∧ VR (Ht cx μ M') μ w val v) :
    StepOK P o T M ⟨val, tch, []⟩ := by
  refine ⟨fun p hp => by simp at hp, fun cx T' M' a w hd hT hM ⟨μ, hI⟩ => ?_⟩
  obtain ⟨v, h1, h2⟩ := h cx μ T' M' a w hI hT hM
  unfold GivesF
  rw [h1]
  exact ⟨μ, (hI.put h2 hd)⟩
/-- An operation that gives a value, and a world. -/
theorem step_any {val : AV} {tch : List Nat} {wr : List (Nat × AO)} (hw : ∀ p ∈ wr, p.1 ∈ tch)
    (h : ∀ (cx : Cx) μ T' M' a w, InvM cx μ T' M' a w → (∀ t ∈ opTs o, T' t = T t) → (∀ g ∈ tch, M' g = M g) → ∃ v w2 μ', (execOp a.eval o).run P w = .ok (.value v) w2 ∧ InvM cx μ' T' (upM M' wr) a w2 ∧ VR (Ht cx μ' (upM M' wr)) μ' w2 val v) :
    StepOK P o T M ⟨val, tch, wr⟩ := by
  refine ⟨hw, fun cx T' M' a w hd hT hM ⟨μ, hI⟩ => ?_⟩
  obtain ⟨v, w2, μ', h1, h2, h3⟩ := h cx μ T' M' a w hI hT hM
  unfold GivesF
  rw [h1]
  exact ⟨μ', (h2.put h3 hd)⟩
/-- An operation that gives no value. -/
theorem step_skip {tch : List Nat} {wr : List (Nat × AO)} (hw : ∀ p ∈ wr, p.1 ∈ tch)
    (h : ∀ (cx : Cx) μ T' M' a w, InvM cx μ T' M' a w → (∀ t ∈ opTs o, T' t = T t) → (∀ g ∈ tch, M' g = M g) → ∃ w2 μ', (execOp a.eval o).run P w = .ok .skip w2 ∧ InvM cx μ' T' (upM M' wr) a w2) :
    StepOK P o T M ⟨.d (.v undef), tch, wr⟩ := by
  refine ⟨hw, fun cx T' M' a w hd hT hM ⟨μ, hI⟩ => ?_⟩
  obtain ⟨w2, μ', h1, h2⟩ := h cx μ T' M' a w hI hT hM
  unfold GivesF
  rw [h1]
  exact ⟨μ', (h2.put (.d (.v _)) hd)⟩
end
end Go.Am
/- Nothing is claimed here: a region beside its abstract view: walked once in the order of the text; where the order is drawn, what is not ordered must not touch the same. -/
namespace Go.Am
set_option linter.unusedSimpArgs false
set_option linter.unusedVariables false
set_option linter.unnecessarySimpa false
set_option linter.unusedSectionVars false
set_option maxRecDepth 100000
open Go Go.RowKit Go.Proofs.Grow
/-- The last number below n. -/
def lastW (q : Nat → Bool) : Nat → Option Nat
  | 0 => none
  | n + 1 => if q n then some n else lastW q n
theorem lastW_congr {q q' : Nat → Bool} : ∀ {n : Nat}, (∀ j, j < n → q j = q' j) → lastW q n = lastW q' n
  | 0, _ => rfl
  | n + 1, h => by
    simp only [lastW]
    rw [h n (by omega), lastW_congr (n := n) fun j hj => h j (by omega)]
theorem lastW_top {q : Nat → Bool} {i : Nat} : ∀ {n : Nat}, i < n → q i = true → (∀ j, i < j → j < n → q j = false) → lastW q n = some i
  | 0, h, _, _ => by omega
  | n + 1, h, hi, hj => by
    simp only [lastW]
    by_cases e : i = n
    · subst e; rw [if_pos hi]
    · rw [if_neg (by rw [hj n (by omega) (by omega)]; simp), lastW_top (n := n) (by omega) hi fun j h1 h2 => hj j h1 (by omega)]
theorem lastW_trim {q : Nat → Bool} {n : Nat} : ∀ {m : Nat}, n ≤ m → (∀ j, n ≤ j → j < m → q j = false) → lastW q m = lastW q n
  | 0, h, _ => by obtain rfl : n = 0 := by omega
                  rfl
  | m + 1, h, hj => by
    by_cases e : n = m + 1
    · rw [e]
    · simp only [lastW]
      rw [if_neg (by rw [hj m (by omega) (by omega)]; simp), lastW_trim (m := m) (by omega) fun j h1 h2 => hj j h1 (by omega)]
theorem lastW_lt {q : Nat → Bool} : ∀ {n i : Nat}, lastW q n = some i → i < n ∧ q i = true
  | 0, i, h => by cases h
  | n + 1, i, h => by
    simp only [lastW] at h
    by_cases e : q n = true
    · rw [if_pos e] at h
      obtain rfl : n = i := by simpa using h
      exact ⟨by omega, e⟩
    · rw [if_neg e] at h
      have := lastW_lt h
      exact ⟨by omega, this.2⟩
theorem lastW_none {q : Nat → Bool} : ∀ {n : Nat}, (∀ j, j < n → q j = false) → lastW q n = none
  | 0, _ => rfl
  | n + 1, h => by
    simp only [lastW]
    rw [if_neg (by rw [h n (by omega)]; simp), lastW_none (n := n) fun j hj => h j (by omega)]
abbrev Z := Oper × En
def wT (zs : List Z) (t : Nat) (j : Nat) : Bool := match zs[j]? with
  | some z => z.1.dst == some t
  | none => false
def wM (zs : List Z) (g : Nat) (j : Nat) : Bool := match zs[j]? with
  | some z => (lk z.2.wr g).isSome
  | none => false
/-- The slots when the operations of s are done. -/
def TS (zs : List Z) (T : Nat → Option AV) (s : Nat → Bool) : Nat → Option AV := fun t => match lastW (fun j => s j && wT zs t j) zs.length with
  | some j => (zs[j]?).map (·.2.val)
  | none => T t
/-- The objects when the operations of s are done. -/
def MS (zs : List Z) (M : Nat → Option AO) (s : Nat → Bool) : Nat → Option AO := fun g => match lastW (fun j => s j && wM zs g j) zs.length with
  | some j => (zs[j]?).bind fun z => lk z.2.wr g
  | none => M g
def below (i : Nat) : Nat → Bool := fun j => decide (j < i)
def adds (s : Nat → Bool) (i : Nat) : Nat → Bool := fun j => s j || decide (j = i)
def StepG (P : Program) (ops : List Oper) (o : Oper) (T : Nat → Option AV) (M : Nat → Option AO) (e : En) : Prop :=
  (o.guard = none ∧ StepOK P o T M e) ∨
  (∃ j want q tj b, o.guard = some (j, want) ∧ ops[j]? = some q ∧ q.dst = some tj ∧ T tj = some (.d (.v (.bool b))) ∧ ((b = want ∧ StepOK P o T M e) ∨ (b ≠ want ∧ e = ⟨.d (.v undef), [], []⟩))) ∨
  (∃ j want q tj vs, o.guard = some (j, want) ∧ ops[j]? = some q ∧ q.dst = some tj ∧ T tj = some (.d (.v (.tuple vs))) ∧ e = ⟨.d (.v undef), [], []⟩)
section
variable {P : Program} {cx : Cx} {T T' : Nat → Option AV} {M M' : Nat → Option AO} {a : Act} {w : World} {o : Oper} {ops : List Oper} {e : En}
theorem looks_op {t : Nat} (h : t ∈ opTs o) : t ∈ o.looksAt ops.toArray := by
  unfold Oper.looksAt
  refine List.mem_append_left _ ?_
  obtain ⟨x, hx, he⟩ := List.mem_filterMap.1 h
  refine List.mem_filterMap.2 ⟨x, hx, ?_⟩
  cases x <;> simp_all
theorem step_at (h : StepG P ops o T M e) (hd : ∀ d, o.dst = some d → d < cx.N) (hT : ∀ t ∈ o.looksAt ops.toArray, T' t = T t) (hM : ∀ g ∈ e.tch, M' g = M g) (hI : Inv cx T' M' a w) :
    if Region.wanted o (yielded ops.toArray a.tmps) then GivesF P o a w (fun v w2 => Inv cx (upT T' o.dst e.val) (upM M' e.wr) (a.put o.dst v) w2)
    else Inv cx (upT T' o.dst e.val) (upM M' e.wr) (a.put o.dst undef) w := by
  rcases h with ⟨hg, h⟩ | ⟨j, want, q, tj, b, hg, hq, hqd, hb, h⟩ | ⟨j, want, q, tj, vs, hg, hq, hqd, hb, rfl⟩
  · rw [if_pos (by simp [Region.wanted, hg])]
    exact h.2 cx T' M' a w hd (fun t ht => hT t (looks_op ht)) hM hI
  · have hl : tj ∈ o.looksAt ops.toArray := by
      unfold Oper.looksAt
      refine List.mem_append_right _ ?_
      simp [hg, hq, hqd]
    have hI0 := hI
    obtain ⟨μ, hI⟩ := hI
    have hv := hI.tm tj _ ((hT tj hl).trans hb)
    have hval : a.tmps.getD tj undef = .bool b := by
      generalize a.tmps.getD tj undef = u at hv
      cases hv with | d hv => cases hv; rfl
    have hy : yielded ops.toArray a.tmps j = some b := by
      unfold yielded
      have h1 : a.tmps[tj]? = some (.bool b) := by
        by_cases hlt : tj < a.tmps.size
        · simp [hlt] at hval ⊢; exact hval
        · rw [getD_out _ _ hlt] at hval; cases hval
      simp [hq, hqd, h1]
    have hw : Region.wanted o (yielded ops.toArray a.tmps) = (b == want) := by
      unfold Region.wanted
      simp [hg, hy]
    rcases h with ⟨rfl, h⟩ | ⟨hne, rfl⟩
    · rw [if_pos (by rw [hw]; simp)]
      exact h.2 cx T' M' a w hd (fun t ht => hT t (looks_op ht)) hM hI0
    · rw [if_neg (by rw [hw]; simpa using hne)]
      exact ⟨μ, hI.put (.d (.v _)) hd⟩
  · have hl : tj ∈ o.looksAt ops.toArray := by
      unfold Oper.looksAt
      refine List.mem_append_right _ ?_
      simp [hg, hq, hqd]
    obtain ⟨μ, hI⟩ := hI
    have hv := hI.tm tj _ ((hT tj hl).trans hb)
    have hval : a.tmps.getD tj undef = .tuple vs := by
      generalize a.tmps.getD tj undef = u at hv
      cases hv with | d hv => cases hv; rfl
    have hy : yielded ops.toArray a.tmps j = none := by
      unfold yielded
      by_cases hlt : tj < a.tmps.size
      · have h1 : a.tmps[tj]? = some (.tuple vs) := by simp [hlt] at hval ⊢; exact hval
        simp [hq, hqd, h1]
      · simp [hq, hqd, hlt]
    rw [if_neg (by unfold Region.wanted; simp [hg, hy])]
    exact ⟨μ, hI.put (.d (.v _)) hd⟩
end
/-- The masks of what each operation waits for. -/
def maskOf (acc : List Nat) (l : List Edge) (m : Nat) : Nat := l.foldl (fun s e => if Region.binds .any e then s ||| 2 ^ e.on ||| acc.getD e.on 0 else s) m
def masks : List Oper → List Nat → List Nat
  | [], acc => acc
  | o :: r, acc => masks r (acc ++ [maskOf acc o.after.toList 0])
/-- What is done has all that it waits for done. -/
def DC (ops : List Oper) (s : Nat → Bool) : Prop := ∀ j o, ops[j]? = some o → s j = true → ∀ e ∈ o.after, Region.binds .any e = true → s e.on = true
def depsIn (ops : List Oper) (s : Nat → Bool) (i : Nat) : Prop := ∀ o, ops[i]? = some o → ∀ e ∈ o.after, Region.binds .any e = true → s e.on = true
theorem maskOf_bit {acc : List Nat} {k : Nat} : ∀ {l : List Edge} {m : Nat}, (maskOf acc l m).testBit k = true → m.testBit k = true ∨ ∃ e ∈ l, Region.binds .any e = true ∧ (e.on = k ∨ (acc.getD e.on 0).testBit k = true)
  | [], m, h => .inl h
  | e :: l, m, h => by
    rcases maskOf_bit (l := l) h with h1 | ⟨e', he', h1⟩
    · by_cases hb : Region.binds .any e = true
      · simp only [hb, if_true, Nat.testBit_or, Bool.or_eq_true] at h1
        rcases h1 with (h1 | h1) | h1
        · exact .inl h1
        · refine .inr ⟨e, by simp, hb, .inl ?_⟩
          by_cases hk : e.on = k
          · exact hk
          · rw [Nat.testBit_two_pow_of_ne hk] at h1; cases h1
        · exact .inr ⟨e, by simp, hb, .inr h1⟩
      · simp only [hb] at h1; exact .inl h1
    · exact .inr ⟨e', by simp [he'], h1⟩
theorem masks_spec {ops : List Oper} {s : Nat → Bool} (hs : DC ops s) : ∀ (r : List Oper) (acc : List Nat), ops = ops.take acc.length ++ r →
    (∀ i m, acc[i]? = some m → depsIn ops s i → ∀ k, m.testBit k = true → s k = true) → ∀ i m, (masks r acc)[i]? = some m → depsIn ops s i → ∀ k, m.testBit k = true → s k = true
  | [], acc, _, h => h
  | o :: r, acc, hr, h => by
    have hlen : acc.length < ops.length := by
      have := congrArg List.length hr
      simp at this; omega
    have ho : ops[acc.length]? = some o := by
      have h2 : (ops.take acc.length ++ o :: r)[acc.length]? = some o := by
        rw [List.getElem?_append_right (by rw [List.length_take]; omega)]
        simp [Nat.min_eq_left (Nat.le_of_lt hlen)]
      rw [hr]; exact h2
    refine masks_spec hs r (acc ++ [maskOf acc o.after.toList 0]) ?_ ?_
    · have h2 : ops.take (acc.length + 1) = ops.take acc.length ++ [o] := by
        rw [List.take_add_one, ho]; rfl
      simp only [List.length_append, List.length_cons, List.length_nil, Nat.zero_add]
      rw [h2, List.append_assoc]; exact hr
    · intro i m hi hd k hk
      by_cases e : i < acc.length
      · rw [List.getElem?_append_left e] at hi; exact h i m hi hd k hk
      · by_cases e2 : i = acc.length
        · subst e2
          obtain rfl : maskOf acc o.after.toList 0 = m := by simpa using hi
          rcases maskOf_bit hk with h1 | ⟨ed, hed, hb, h1⟩
          · simp at h1
          · have hse := hd o ho ed (by simpa using hed) hb
            rcases h1 with rfl | h1
            · exact hse
            · have hon : ed.on < acc.length := by
                refine Classical.byContradiction fun hn => ?_
                rw [List.getD_eq_getElem?_getD, List.getElem?_eq_none (by omega)] at h1
                simp at h1
              refine h ed.on _ (by rw [List.getElem?_eq_getElem hon]) (fun o2 ho2 e2 he2 hb2 => hs ed.on o2 ho2 hse e2 he2 hb2) k ?_
              rw [List.getD_eq_getElem?_getD, List.getElem?_eq_getElem hon] at h1
              simpa using h1
        · rw [List.getElem?_eq_none (by simp; omega)] at hi; cases hi
/-- Slots and objects in common. -/
def meets (x y : List Nat) : Bool := x.any fun t => y.any fun u => Nat.beq t u
theorem meets_of {x y : List Nat} {t : Nat} (hx : t ∈ x) (hy : t ∈ y) : meets x y = true := by
  unfold meets
  rw [List.any_eq_true]
  refine ⟨t, hx, ?_⟩
  rw [List.any_eq_true]
  exact ⟨t, hy, by simp⟩
structure Info where
  dst : List Nat
  look : List Nat
  tch : List Nat
  wr : List Nat
def infoOf (ops : List Oper) (o : Oper) (f : List Nat × List Nat) : Info := ⟨o.dst.toList, o.looksAt ops.toArray, f.1, f.2⟩
def conf (x y : Info) : Bool := meets x.dst y.dst || (meets x.dst y.look || (meets x.look y.dst || (meets x.tch y.wr || meets x.wr y.tch)))
def infos (ops : List Oper) : List Oper → List (List Nat × List Nat) → List Info
  | o :: r, f :: q => infoOf ops o f :: infos ops r q
  | _, _ => []
def prior (m : Nat) (y : Info) : Nat → List Info → Bool
  | _, [] => true
  | i, x :: r => (Nat.testBit m i || !conf x y) && prior m y (i + 1) r
def indepFrom : List Info → List Info → List Nat → Bool
  | done, y :: r, m :: ms => prior m y 0 done && indepFrom (done ++ [y]) r ms
  | _, _, _ => true
def indepB (ops : List Oper) (fs : List (List Nat × List Nat)) : Bool := indepFrom [] (infos ops ops fs) (masks ops [])
theorem prior_spec {m : Nat} {y : Info} : ∀ {l : List Info} {k : Nat}, prior m y k l = true → ∀ i x, l[i]? = some x → conf x y = true → m.testBit (k + i) = true
  | [], k, _, i, x, hx, _ => by simp at hx
  | z :: r, k, h, i, x, hx, hc => by
    simp only [prior, Bool.and_eq_true, Bool.or_eq_true, Bool.not_eq_true'] at h
    cases i with
    | zero =>
      obtain rfl : z = x := by simpa using hx
      rcases h.1 with h1 | h1
      · exact h1
      · rw [hc] at h1; cases h1
    | succ i =>
      have := prior_spec h.2 i x (by simpa using hx) hc
      rwa [show k + (i + 1) = k + 1 + i by omega]
theorem indepFrom_spec : ∀ {r done : List Info} {ms : List Nat}, indepFrom done r ms = true → ms.length = r.length → ∀ i j x y m, i < done.length + j → (done ++ r)[i]? = some x → r[j]? = some y → ms[j]? = some m → conf x y = true → m.testBit i = true
  | [], done, ms, _, _, i, j, x, y, m, _, _, hy, _, _ => by simp at hy
  | z :: r, done, [], _, hl, _, _, _, _, _, _, _, _, _, _ => by simp at hl
  | z :: r, done, m0 :: ms, h, hl, i, j, x, y, m, hij, hx, hy, hm, hc => by
    simp only [indepFrom, Bool.and_eq_true] at h
    cases j with
    | zero =>
      obtain rfl : z = y := by simpa using hy
      obtain rfl : m0 = m := by simpa using hm
      rw [List.getElem?_append_left (by simpa using hij)] at hx
      have := prior_spec h.1 i x hx hc
      simpa using this
    | succ j =>
      refine indepFrom_spec (done := done ++ [z]) (r := r) h.2 (by simpa using hl) i j x y m (by simp; omega) (by simpa using hx) (by simpa using hy) (by simpa using hm) hc
theorem masks_len : ∀ (r : List Oper) (acc : List Nat), (masks r acc).length = acc.length + r.length
  | [], acc => by simp [masks]
  | o :: r, acc => by simp only [masks]; rw [masks_len r]; simp; omega
def foot (e : En) : List Nat × List Nat := (e.tch, e.wr.map (·.1))
theorem infos_get {ops : List Oper} : ∀ {zs : List Z} {i : Nat} {z : Z}, zs[i]? = some z → (infos ops (zs.map (·.1)) (zs.map fun z => foot z.2))[i]? = some (infoOf ops z.1 (foot z.2))
  | [], i, z, h => by simp at h
  | y :: r, i, z, h => by
    cases i with
    | zero => obtain rfl : y = z := by simpa using h
              rfl
    | succ i => simp only [List.map_cons, infos]; exact infos_get (zs := r) (by simpa using h)
theorem infos_len {ops : List Oper} : ∀ {zs : List Z}, (infos ops (zs.map (·.1)) (zs.map fun z => foot z.2)).length = zs.length
  | [] => rfl
  | y :: r => by simp only [List.map_cons, infos, List.length_cons]; rw [infos_len]
theorem indep_spec {zs : List Z} (h : indepB (zs.map (·.1)) (zs.map fun z => foot z.2) = true) {s : Nat → Bool} (hs : DC (zs.map (·.1)) s) {i j : Nat} {x y : Z} (hij : i < j) (hx : zs[i]? = some x) (hy : zs[j]? = some y)
    (hc : conf (infoOf (zs.map (·.1)) x.1 (foot x.2)) (infoOf (zs.map (·.1)) y.1 (foot y.2)) = true) (hd : depsIn (zs.map (·.1)) s j) : s i = true := by
  have hj : j < zs.length := (List.getElem?_eq_some_iff.1 hy).1
  have hml : (masks (zs.map (·.1)) []).length = zs.length := by rw [masks_len]; simp
  have hm : (masks (zs.map (·.1)) [])[j]? = some ((masks (zs.map (·.1)) [])[j]'(by omega)) := by rw [List.getElem?_eq_getElem]
  have h2 := indepFrom_spec (done := []) h (by rw [hml, infos_len]) i j _ _ _ (by simpa using hij) (by simpa using infos_get hx) (infos_get hy) hm hc
  exact masks_spec hs (zs.map (·.1)) [] (by simp) (fun i m h => by simp at h) j _ hm hd i h2
section
variable {P : Program} {cx : Cx} {T : Nat → Option AV} {M : Nat → Option AO} {zs : List Z}
theorem conf_dst {ops : List Oper} {x y : Z} {t : Nat} (hx : x.1.dst = some t) (hy : y.1.dst = some t) : conf (infoOf ops x.1 (foot x.2)) (infoOf ops y.1 (foot y.2)) = true := by
  have := meets_of (x := x.1.dst.toList) (y := y.1.dst.toList) (t := t) (by simp [hx]) (by simp [hy])
  simp [conf, infoOf, this]
theorem conf_look {ops : List Oper} {x y : Z} {t : Nat} (hx : x.1.dst = some t) (hy : t ∈ y.1.looksAt ops.toArray) : conf (infoOf ops x.1 (foot x.2)) (infoOf ops y.1 (foot y.2)) = true := by
  have := meets_of (x := x.1.dst.toList) (y := y.1.looksAt ops.toArray) (t := t) (by simp [hx]) hy
  simp [conf, infoOf, this]
theorem conf_look' {ops : List Oper} {x y : Z} {t : Nat} (hx : t ∈ x.1.looksAt ops.toArray) (hy : y.1.dst = some t) : conf (infoOf ops x.1 (foot x.2)) (infoOf ops y.1 (foot y.2)) = true := by
  have := meets_of (x := x.1.looksAt ops.toArray) (y := y.1.dst.toList) (t := t) hx (by simp [hy])
  simp [conf, infoOf, this]
theorem lk_mem {α : Type} {l : List (Nat × α)} {g : Nat} (h : (lk l g).isSome = true) : g ∈ l.map (·.1) := by
  induction l with
  | nil => simp [lk] at h
  | cons p r ih =>
    simp only [lk] at h
    split at h
    · rename_i hb
      have := Nat.eq_of_beq_eq_true hb
      simp [this]
    · simp only [List.map_cons, List.mem_cons]; exact .inr (ih h)
theorem conf_wr {ops : List Oper} {x y : Z} {g : Nat} (hx : (lk x.2.wr g).isSome = true) (hy : g ∈ y.2.tch) : conf (infoOf ops x.1 (foot x.2)) (infoOf ops y.1 (foot y.2)) = true := by
  have := meets_of (x := x.2.wr.map (·.1)) (y := y.2.tch) (t := g) (lk_mem hx) hy
  simp [conf, infoOf, foot, this]
theorem conf_wr' {ops : List Oper} {x y : Z} {g : Nat} (hx : g ∈ x.2.tch) (hy : (lk y.2.wr g).isSome = true) : conf (infoOf ops x.1 (foot x.2)) (infoOf ops y.1 (foot y.2)) = true := by
  have := meets_of (x := x.2.tch) (y := y.2.wr.map (·.1)) (t := g) hx (lk_mem hy)
  simp [conf, infoOf, foot, this]
theorem wT_dst {t j : Nat} (h : wT zs t j = true) : ∃ z, zs[j]? = some z ∧ z.1.dst = some t := by
  unfold wT at h
  split at h
  · rename_i z hz; exact ⟨z, hz, by simpa using h⟩
  · cases h
theorem wM_wr {g j : Nat} (h : wM zs g j = true) : ∃ z, zs[j]? = some z ∧ (lk z.2.wr g).isSome = true := by
  unfold wM at h
  split at h
  · rename_i z hz; exact ⟨z, hz, h⟩
  · cases h
/-- Order of what meets, in a state of the region: the operation i is ready, those of s are done. -/
structure Ord (zs : List Z) (s : Nat → Bool) (i : Nat) (z : Z) : Prop where
  get : zs[i]? = some z
  not : s i = false
  before : ∀ j y, zs[j]? = some y → j < i → conf (infoOf (zs.map (·.1)) y.1 (foot y.2)) (infoOf (zs.map (·.1)) z.1 (foot z.2)) = true → s j = true
  after : ∀ j y, zs[j]? = some y → i < j → conf (infoOf (zs.map (·.1)) z.1 (foot z.2)) (infoOf (zs.map (·.1)) y.1 (foot y.2)) = true → s j = false
theorem TS_look {s : Nat → Bool} {i : Nat} {z : Z} (h : Ord zs s i z) {t : Nat} (ht : t ∈ z.1.looksAt (zs.map (·.1)).toArray) : TS zs T s t = TS zs T (below i) t := by
  unfold TS
  rw [lastW_congr (q' := fun j => below i j && wT zs t j) fun j _ => ?_]
  cases hw : wT zs t j
  · simp
  · obtain ⟨y, hy, hd⟩ := wT_dst hw
    simp only [Bool.and_true, below]
    rcases Nat.lt_trichotomy j i with hj | hj | hj
    · rw [h.before j y hy hj (conf_look hd ht)]; simp [hj]
    · subst hj; rw [h.not]; simp
    · rw [h.after j y hy hj (conf_look' ht hd)]; simp; omega
theorem MS_look {s : Nat → Bool} {i : Nat} {z : Z} (h : Ord zs s i z) {g : Nat} (ht : g ∈ z.2.tch) : MS zs M s g = MS zs M (below i) g := by
  unfold MS
  rw [lastW_congr (q' := fun j => below i j && wM zs g j) fun j _ => ?_]
  cases hw : wM zs g j
  · simp
  · obtain ⟨y, hy, hd⟩ := wM_wr hw
    simp only [Bool.and_true, below]
    rcases Nat.lt_trichotomy j i with hj | hj | hj
    · rw [h.before j y hy hj (conf_wr hd ht)]; simp [hj]
    · subst hj; rw [h.not]; simp
    · rw [h.after j y hy hj (conf_wr' ht hd)]; simp; omega
theorem TS_add {s : Nat → Bool} {i : Nat} {z : Z} (h : Ord zs s i z) : upT (TS zs T s) z.1.dst z.2.val = TS zs T (adds s i) := by
  have hi : i < zs.length := (List.getElem?_eq_some_iff.1 h.get).1
  funext t
  unfold upT
  by_cases e : z.1.dst = some t
  · rw [if_pos e]
    unfold TS
    rw [lastW_top (i := i) hi (by simp [adds, wT, h.get, e]) fun j h1 h2 => ?_]
    · simp [h.get]
    · cases hw : wT zs t j
      · simp
      · obtain ⟨y, hy, hd⟩ := wT_dst hw
        simp [adds, h.after j y hy h1 (conf_dst e hd)]; omega
  · rw [if_neg e]
    unfold TS
    rw [lastW_congr (q' := fun j => adds s i j && wT zs t j) fun j _ => ?_]
    by_cases e2 : j = i
    · subst e2
      have : wT zs t j = false := by simp [wT, h.get, e]
      simp [this]
    · simp [adds, e2]
theorem MS_add {s : Nat → Bool} {i : Nat} {z : Z} (h : Ord zs s i z) (hw : ∀ p ∈ z.2.wr, p.1 ∈ z.2.tch) : upM (MS zs M s) z.2.wr = MS zs M (adds s i) := by
  have hi : i < zs.length := (List.getElem?_eq_some_iff.1 h.get).1
  funext g
  unfold upM
  cases e : lk z.2.wr g with
  | some x =>
    have hs : (lk z.2.wr g).isSome = true := by rw [e]; rfl
    have hg : g ∈ z.2.tch := by
      obtain ⟨p, hp, rfl⟩ := List.mem_map.1 (lk_mem hs)
      exact hw p hp
    have hl : lastW (fun j => adds s i j && wM zs g j) zs.length = some i := by
      refine lastW_top hi (by simp [adds, wM, h.get, e]) fun j h1 h2 => ?_
      cases hw2 : wM zs g j
      · simp
      · obtain ⟨y, hy, hd⟩ := wM_wr hw2
        simp [adds, h.after j y hy h1 (conf_wr' hg hd)]; omega
    show some x = MS zs M (adds s i) g
    unfold MS
    rw [hl]
    simp [h.get, e]
  | none =>
    show MS zs M s g = MS zs M (adds s i) g
    unfold MS
    rw [lastW_congr (q' := fun j => adds s i j && wM zs g j) fun j _ => ?_]
    by_cases e2 : j = i
    · subst e2
      have : wM zs g j = false := by simp [wM, h.get, e]
      simp [this]
    · simp [adds, e2]
end
end Go.Am
/- Nothing is claimed here: code beside its abstract view: regions, branches, blocks, loops. -/
namespace Go.Am
set_option linter.unusedSimpArgs false
set_option linter.unusedVariables false
set_option linter.unnecessarySimpa false
set_option linter.unusedSectionVars false
set_option maxRecDepth 100000
open Go Go.RowKit Go.Proofs.Grow
section
variable {P : Program} {cx : Cx} {T : Nat → Option AV} {M : Nat → Option AO} {zs : List Z} {Q : Exit → Act → World → Prop}
def Good (P : Program) (T : Nat → Option AV) (M : Nat → Option AO) (zs : List Z) : Prop := ∀ (i : Nat) (z : Z), zs[i]? = some z → StepG P (zs.map (·.1)) z.1 (TS zs T (below i)) (MS zs M (below i)) z.2 ∧ (∀ p ∈ z.2.wr, p.1 ∈ z.2.tch)
theorem wpOp_at (hg : Good P T M zs) {s : Nat → Bool} {i : Nat} {z : Z} (h : Ord zs s i z) (hd : ∀ d, z.1.dst = some d → d < cx.N) {a : Act} {w : World} (hI : Inv cx (TS zs T s) (MS zs M s) a w) {K : Act → World → Prop}
    (hK : ∀ a' w', Inv cx (TS zs T (adds s i)) (MS zs M (adds s i)) a' w' → K a' w') : wpOp P (zs.map (·.1)).toArray Q i K a w := by
  unfold wpOp
  have ho : (zs.map (·.1)).toArray[i]? = some z.1 := by simp [h.get]
  simp only [ho]
  obtain ⟨hst, hw⟩ := hg i z h.get
  have := step_at hst hd (fun t ht => TS_look h ht) (fun g hg => MS_look h hg) hI
  rw [TS_add h, MS_add h hw] at this
  split at this
  · rename_i hwa
    rw [if_pos hwa]
    exact .inl (this.wp (b := a) rfl fun v w2 hv => hK _ _ hv)
  · rename_i hwa
    rw [if_neg hwa]
    exact hK _ _ this
theorem DC_set {ops : List Oper} {s : Array Bool} {i : Nat} (hs : DC ops (fun j => s.getD j false)) (hi : depsIn ops (fun j => s.getD j false) i) (hlt : i < s.size) : DC ops (fun j => (s.setIfInBounds i true).getD j false) := by
  intro j o ho hj e he hb
  by_cases e2 : j = i
  · subst e2; exact getD_set_true (hi o ho e he hb)
  · exact getD_set_true (hs j o ho (getD_set_iff hj e2) e he hb)
theorem region_draw {id : Nat} {a : Act} {w : World} (hm : P.follows .mixedOrders = true) (hback : backB (zs.map (·.1)).toArray = true) (hind : indepB (zs.map (·.1)) (zs.map fun z => foot z.2) = true) (hg : Good P T M zs)
    (hd : ∀ (i : Nat) (z : Z), zs[i]? = some z → ∀ d, z.1.dst = some d → d < cx.N) (hI : Inv cx T M a w) (hQ : ∀ a' w', Inv cx (TS zs T (below zs.length)) (MS zs M (below zs.length)) a' w' → Q .normal a' w') : (Code.region id (zs.map (·.1)).toArray true).wp P Q a w := by
  have main : ∀ (f : Nat) (s : Array Bool) (a : Act) (w : World), s.size = zs.length → DC (zs.map (·.1)) (fun j => s.getD j false) → Inv cx (TS zs T fun j => s.getD j false) (MS zs M fun j => s.getD j false) a w →
      (List.range zs.length).countP (fun i => !s.getD i false) = f → wpAny P .any (zs.map (·.1)).toArray Q f s a w := by
    intro f
    induction f with
    | zero =>
      intro s a w hsz hdc hI hf
      have hall : ∀ i, i < zs.length → s.getD i false = true := by
        intro i hi
        have := List.countP_eq_zero.1 hf i (List.mem_range.2 hi)
        simpa using this
      have e1 : TS zs T (fun j => s.getD j false) = TS zs T (below zs.length) := by
        funext t
        unfold TS
        rw [lastW_congr (q' := fun j => below zs.length j && wT zs t j) fun j hj => by simp only [hall j hj, below]; simp [hj]]
      have e2 : MS zs M (fun j => s.getD j false) = MS zs M (below zs.length) := by
        funext g
        unfold MS
        rw [lastW_congr (q' := fun j => below zs.length j && wM zs g j) fun j hj => by simp only [hall j hj, below]; simp [hj]]
      rw [e1, e2] at hI
      refine ⟨?_, hQ a w hI⟩
      refine List.eq_nil_iff_forall_not_mem.2 fun i hi => ?_
      obtain ⟨h1, o, ho, _⟩ := mem_ready.1 hi
      have hlt : i < zs.length := by
        have := (Array.getElem?_eq_some_iff.1 ho).1
        simpa using this
      have := hall i hlt
      rw [getD_both h1] at this; cases this
    | succ f ih =>
      intro s a w hsz hdc hI hf
      have hex : ∃ i, i < zs.length ∧ s.getD i false = false := by
        refine Classical.byContradiction fun h => ?_
        have : (List.range zs.length).countP (fun i => !s.getD i false) = 0 := List.countP_eq_zero.2 fun i hi => by
          cases hc : s.getD i false
          · exact absurd ⟨i, List.mem_range.1 hi, hc⟩ h
          · simp
        omega
      obtain ⟨k, ⟨hkn, hks⟩, hmin⟩ : ∃ k, (k < zs.length ∧ s.getD k false = false) ∧ ∀ j, j < k → ¬ (j < zs.length ∧ s.getD j false = false) := by
        obtain ⟨i, hi⟩ := hex
        induction i using Nat.strongRecOn with
        | _ i ihi =>
          by_cases h : ∃ j, j < i ∧ (j < zs.length ∧ s.getD j false = false)
          · obtain ⟨j, hj, hj2⟩ := h; exact ihi j hj hj2
          · exact ⟨i, hi, fun j hj hj2 => h ⟨j, hj, hj2⟩⟩
      have hkt : s.getD k true = false := getD_in (by omega) hks
      have hkr : k ∈ Region.ready .any (zs.map (·.1)).toArray s := by
        rw [mem_ready]
        refine ⟨hkt, (zs[k]'hkn).1, by rw [List.getElem?_toArray, List.getElem?_map, List.getElem?_eq_getElem hkn]; rfl, fun e he hb => ?_⟩
        have h := all_range (n := (zs.map (·.1)).toArray.size) (by simpa [backB] using hback) (i := k) (by simpa using hkn)
        simp only [List.getElem?_toArray, List.getElem?_map, List.getElem?_eq_getElem hkn, Option.map_some, Option.getD_some] at h
        have h2 := Array.all_eq_true_iff_forall_mem.1 h e he
        simp only [hb, Bool.not_true, Bool.false_or, decide_eq_true_eq] at h2
        cases hc : s.getD e.on false
        · exact absurd ⟨by omega, hc⟩ (hmin e.on h2)
        · rfl
      refine ⟨fun h0 => absurd h0 (List.ne_nil_of_mem hkr), fun i hi => ?_⟩
      obtain ⟨hun, o, ho', hdeps⟩ := mem_ready.1 hi
      have hin : i < zs.length := by
        have := (Array.getElem?_eq_some_iff.1 ho').1
        simpa using this
      have hz : zs[i]? = some zs[i] := by simp [hin]
      have ho : o = (zs[i]).1 := by simpa [hin] using ho'.symm
      have hdi : depsIn (zs.map (·.1)) (fun j => s.getD j false) i := by
        intro o2 ho2 e he hb
        have : o2 = o := by
          rw [ho]
          have h3 : (zs.map (·.1))[i]? = some (zs[i]).1 := by simp [hin]
          exact Option.some.inj (ho2.symm.trans h3)
        subst this
        exact hdeps e he hb
      have hunf : s.getD i false = false := getD_both hun
      have hord : Ord zs (fun j => s.getD j false) i zs[i] := ⟨hz, hunf, fun j y hy hj hc => indep_spec hind hdc hj hy hz hc hdi, fun j y hy hj hc => by
        cases hsj : s.getD j false
        · rfl
        · have := indep_spec hind hdc hj hz hy hc (fun o2 ho2 e he hb => hdc j o2 ho2 hsj e he hb)
          simp only [hunf] at this; cases this⟩
      have hadds : adds (fun j => s.getD j false) i = fun j => (s.setIfInBounds i true).getD j false := by
        funext j
        unfold adds
        by_cases e : j = i
        · subst e; rw [getD_set_self (by omega)]; simp
        · rw [show (s.setIfInBounds i true).getD j false = s.getD j false from getD_set_ne false (Ne.symm e)]; simp [e]
      refine wpOp_at hg hord (hd i _ hz) hI fun a' w' hI' => ?_
      rw [hadds] at hI'
      refine ih (s.setIfInBounds i true) a' w' (by simpa using hsz) (DC_set hdc hdi (by omega)) hI' ?_
      have hgen : ∀ m, (List.range m).countP (fun j => !s.getD j false) = (List.range m).countP (fun j => !(s.setIfInBounds i true).getD j false) + (if i < m then 1 else 0) := by
        intro m
        induction m with
        | zero => simp
        | succ m ihm =>
          rw [List.range_succ, List.countP_append, List.countP_append, ihm, List.countP_singleton, List.countP_singleton]
          by_cases e : i = m
          · subst e
            rw [getD_set_self (by omega), hunf]
            rw [if_neg (by omega : ¬ i < i), if_pos (by omega : i < i + 1)]
            simp
          · rw [show (s.setIfInBounds i true).getD m false = s.getD m false from getD_set_ne false e]
            have : (i < m + 1) ↔ (i < m) := by omega
            simp only [this]
            omega
      have := hgen zs.length
      rw [if_pos hin] at this
      omega
  refine wp_region_any hm ?_
  have e0 : (fun j => (Array.replicate (zs.map (·.1)).toArray.size false).getD j false) = fun _ => false := by funext j; exact getD_replicate_false _ _
  have e1 : TS zs T (fun j => (Array.replicate (zs.map (·.1)).toArray.size false).getD j false) = T := by
    funext t
    unfold TS
    rw [lastW_none fun j _ => by show ((Array.replicate (zs.map (·.1)).toArray.size false).getD j false && _) = false; rw [getD_replicate_false]; rfl]
  have e2 : MS zs M (fun j => (Array.replicate (zs.map (·.1)).toArray.size false).getD j false) = M := by
    funext t
    unfold MS
    rw [lastW_none fun j _ => by show ((Array.replicate (zs.map (·.1)).toArray.size false).getD j false && _) = false; rw [getD_replicate_false]; rfl]
  have hI1 : Inv cx T M a { w with drawn := w.drawn + 1 } := by
    obtain ⟨μ, h⟩ := hI
    exact ⟨μ, h.drew⟩
  have h0 := main (zs.length) (Array.replicate (zs.map (·.1)).toArray.size false) a { w with drawn := w.drawn + 1 } (by simp) (fun j o _ hj => by
      dsimp only at hj; rw [getD_replicate_false] at hj; cases hj) (by rw [e1, e2]; exact hI1) (by
      have : (fun i => !(Array.replicate (zs.map (·.1)).toArray.size false).getD i false) = fun _ => true := by funext i; rw [getD_replicate_false]; rfl
      rw [this]; simp)
  simpa using h0
theorem region_seq {id : Nat} {a : Act} {w : World} (hg : Good P T M zs)
    (hd : ∀ (i : Nat) (z : Z), zs[i]? = some z → ∀ d, z.1.dst = some d → d < cx.N) (hI : Inv cx T M a w) (hQ : ∀ a' w', Inv cx (TS zs T (below zs.length)) (MS zs M (below zs.length)) a' w' → Q .normal a' w') : (Code.region id (zs.map (·.1)).toArray false).wp P Q a w := by
  refine wp_region ?_
  have main : ∀ (d k : Nat) (a : Act) (w : World), k + d = zs.length → Inv cx (TS zs T (below k)) (MS zs M (below k)) a w → wpOps P (zs.map (·.1)).toArray Q (List.range' k d) a w := by
    intro d
    induction d with
    | zero =>
      intro k a w hk hI
      obtain rfl : k = zs.length := by omega
      exact hQ a w hI
    | succ d ih =>
      intro k a w hk hI
      have hkn : k < zs.length := by omega
      rw [List.range'_succ, wpOps_cons]
      have hz : zs[k]? = some zs[k] := by simp [hkn]
      have hord : Ord zs (below k) k zs[k] := ⟨hz, by simp [below], fun j y _ hj _ => by simp [below, hj], fun j y _ hj _ => by simp [below]; omega⟩
      refine wpOp_at hg hord (hd k _ hz) hI fun a' w' hI' => ?_
      have : adds (below k) k = below (k + 1) := by
        funext j
        unfold adds below
        rw [Bool.eq_iff_iff]; simp; omega
      rw [this] at hI'
      exact ih (k + 1) a' w' (by omega) hI'
  have e1 : TS zs T (below 0) = T := by
    funext t
    unfold TS
    rw [lastW_none fun j _ => by simp [below]]
  have e2 : MS zs M (below 0) = M := by
    funext t
    unfold MS
    rw [lastW_none fun j _ => by simp [below]]
  have := main zs.length 0 a w (by omega) (by rw [e1, e2]; exact hI)
  simpa [List.range_eq_range'] using this
end
/-- The walk of a region, operation by operation. -/
def WD (P : Program) (ops : List Oper) (fin : List (List Nat × List Nat) → List (Nat × AV) → List (Nat × AO) → Prop) : List Oper → List (List Nat × List Nat) → List (Nat × AV) → List (Nat × AO) → Prop
  | [], acc, T, M => fin acc.reverse T M
  | o :: r, acc, T, M => ∃ e, (StepG P ops o (lk T) (lk M) e ∧ ∀ p ∈ e.wr, p.1 ∈ e.tch) ∧ WD P ops fin r (foot e :: acc) (match o.dst with
    | some d => (d, e.val) :: T
    | none => T) (e.wr ++ M)
theorem wT_append {zs more : List Z} {t j : Nat} (hj : j < zs.length) : wT (zs ++ more) t j = wT zs t j := by
  unfold wT; rw [List.getElem?_append_left hj]
theorem wM_append {zs more : List Z} {t j : Nat} (hj : j < zs.length) : wM (zs ++ more) t j = wM zs t j := by
  unfold wM; rw [List.getElem?_append_left hj]
theorem TS_append {zs more : List Z} {T : Nat → Option AV} {i : Nat} (hi : i ≤ zs.length) : TS (zs ++ more) T (below i) = TS zs T (below i) := by
  funext t
  unfold TS
  rw [lastW_trim (n := zs.length) (m := (zs ++ more).length) (by simp) fun j h1 _ => by simp [below]; intro h; omega]
  rw [lastW_congr (q' := fun j => below i j && wT zs t j) fun j hj => by rw [wT_append hj]]
  cases e : lastW (fun j => below i j && wT zs t j) zs.length with
  | none => rfl
  | some j => simp only; rw [List.getElem?_append_left (lastW_lt e).1]
theorem MS_append {zs more : List Z} {M : Nat → Option AO} {i : Nat} (hi : i ≤ zs.length) : MS (zs ++ more) M (below i) = MS zs M (below i) := by
  funext t
  unfold MS
  rw [lastW_trim (n := zs.length) (m := (zs ++ more).length) (by simp) fun j h1 _ => by simp [below]; intro h; omega]
  rw [lastW_congr (q' := fun j => below i j && wM zs t j) fun j hj => by rw [wM_append hj]]
  cases e : lastW (fun j => below i j && wM zs t j) zs.length with
  | none => rfl
  | some j => simp only; rw [List.getElem?_append_left (lastW_lt e).1]
theorem TS_snoc {zs : List Z} {T : Nat → Option AV} (z : Z) : TS (zs ++ [z]) T (below (zs.length + 1)) = upT (TS zs T (below zs.length)) z.1.dst z.2.val := by
  have h : Ord (zs ++ [z]) (below zs.length) zs.length z := ⟨by simp, by simp [below], fun j y _ hj _ => by simp [below, hj], fun j y _ hj _ => by simp [below]; omega⟩
  have h2 := TS_add (T := T) h
  have h3 : adds (below zs.length) zs.length = below (zs.length + 1) := by
    funext j
    unfold adds below
    rw [Bool.eq_iff_iff]; simp; omega
  rw [h3, TS_append (Nat.le_refl _)] at h2
  exact h2.symm
theorem MS_snoc {zs : List Z} {M : Nat → Option AO} (z : Z) (hw : ∀ p ∈ z.2.wr, p.1 ∈ z.2.tch) : MS (zs ++ [z]) M (below (zs.length + 1)) = upM (MS zs M (below zs.length)) z.2.wr := by
  have h : Ord (zs ++ [z]) (below zs.length) zs.length z := ⟨by simp, by simp [below], fun j y _ hj _ => by simp [below, hj], fun j y _ hj _ => by simp [below]; omega⟩
  have h2 := MS_add (M := M) h hw
  have h3 : adds (below zs.length) zs.length = below (zs.length + 1) := by
    funext j
    unfold adds below
    rw [Bool.eq_iff_iff]; simp; omega
  rw [h3, MS_append (Nat.le_refl _)] at h2
  exact h2.symm
theorem lk_cons {α : Type} {d : Nat} {x : α} {T : List (Nat × α)} : lk ((d, x) :: T) = fun t => if d = t then some x else lk T t := by
  funext t
  simp only [lk]
  cases hb : Nat.beq d t
  · have : d ≠ t := fun e => by subst e; simp at hb
    simp [this]
  · have := Nat.eq_of_beq_eq_true hb
    simp [this]
theorem lk_append {α : Type} {l m : List (Nat × α)} : lk (l ++ m) = fun g => match lk l g with
    | some o => some o
    | none => lk m g := by
  funext g
  induction l with
  | nil => simp [lk]
  | cons p r ih =>
    simp only [List.cons_append, lk]
    cases Nat.beq p.1 g
    · exact ih
    · rfl
theorem WD_sound {P : Program} {ops : List Oper} {fin : List (List Nat × List Nat) → List (Nat × AV) → List (Nat × AO) → Prop} {T0 : Nat → Option AV} {M0 : Nat → Option AO} : ∀ (r : List Oper) (zs : List Z) (T : List (Nat × AV)) (M : List (Nat × AO)),
    ops = zs.map (·.1) ++ r → lk T = TS zs T0 (below zs.length) → lk M = MS zs M0 (below zs.length) →
    (∀ (i : Nat) (z : Z), zs[i]? = some z → StepG P ops z.1 (TS zs T0 (below i)) (MS zs M0 (below i)) z.2 ∧ (∀ p ∈ z.2.wr, p.1 ∈ z.2.tch)) →
    WD P ops fin r (zs.map fun z => foot z.2).reverse T M →
    ∃ zs' T' M', ops = zs'.map (·.1) ∧ Good P T0 M0 zs' ∧ lk T' = TS zs' T0 (below zs'.length) ∧ lk M' = MS zs' M0 (below zs'.length) ∧ fin (zs'.map fun z => foot z.2) T' M'
  | [], zs, T, M, hops, hT, hM, hg, h => by
    have hops' : ops = zs.map (·.1) := by simpa using hops
    refine ⟨zs, T, M, hops', fun i z hz => ?_, hT, hM, by simpa [WD] using h⟩
    rw [← hops']; exact hg i z hz
  | o :: r, zs, T, M, hops, hT, hM, hg, h => by
    obtain ⟨e, ⟨hst, hw⟩, h⟩ := h
    refine WD_sound r (zs ++ [(o, e)]) _ _ (by simpa using hops) ?_ ?_ ?_ (by simpa using h)
    · rw [List.length_append, List.length_singleton, TS_snoc, ← hT]
      show lk (match o.dst with | some d => (d, e.val) :: T | none => T) = upT (lk T) o.dst e.val
      cases hd : o.dst with
      | none => funext t; simp [upT]
      | some d => simp only; rw [lk_cons]; funext t; simp [upT]
    · rw [List.length_append, List.length_singleton, MS_snoc _ hw, ← hM]; show lk (e.wr ++ M) = upM (lk M) e.wr; rw [lk_append]; funext g; unfold upM; cases lk e.wr g <;> rfl
    · intro i z hz
      by_cases hi : i < zs.length
      · rw [List.getElem?_append_left hi] at hz
        rw [TS_append (Nat.le_of_lt hi), MS_append (Nat.le_of_lt hi)]
        exact hg i z hz
      · have hi2 : i = zs.length := by
          have := (List.getElem?_eq_some_iff.1 hz).1
          simp at this; omega
        subst hi2
        obtain rfl : (o, e) = z := by simpa using hz
        rw [TS_append (Nat.le_refl _), MS_append (Nat.le_refl _), ← hT, ← hM]
        exact ⟨hst, hw⟩
/-- The abstract view of a run: its slots and its objects. -/
structure St where
  T : List (Nat × AV)
  M : List (Nat × AO)
def InvS (cx : Cx) (s : St) (a : Act) (w : World) : Prop := Inv cx (lk s.T) (lk s.M) a w
def WA (P : Program) (cx : Cx) (c : Code) (Q : Exit → St → Prop) (s : St) : Prop := ∀ a w, InvS cx s a w → c.wp P (fun e a' w' => ∃ s', Q e s' ∧ InvS cx s' a' w') a w
def thn (K : St → Prop) (Q : Exit → St → Prop) : Exit → St → Prop
  | .normal, s => K s
  | e, s => Q e s
def inB (id : Nat) (Q : Exit → St → Prop) : Exit → St → Prop
  | .exit id', s => match Nat.beq id' id with
    | true => Q .normal s
    | false => Q (.exit id') s
  | e, s => Q e s
def dstsB (n : Nat) (ops : List Oper) : Bool := ops.all fun o => match o.dst with
  | some d => Nat.blt d n
  | none => true
section
variable {P : Program} {cx : Cx} {Q : Exit → St → Prop} {s : St}
theorem WA_region {id n : Nat} {ops : List Oper} {draw : Bool} (hm : P.follows .mixedOrders = true) (hn : cx.N = n) (hN : dstsB n ops = true)
    (h : WD P ops (fun fs T M => (draw = true → (backB ops.toArray && indepB ops fs) = true) ∧ Q .normal ⟨T, M⟩) ops [] s.T s.M) : WA P cx (.region id ops.toArray draw) Q s := by
  subst hn
  intro a w hI
  have e1 : ∀ (T : Nat → Option AV), TS [] T (below 0) = T := fun T => rfl
  have e2 : ∀ (M : Nat → Option AO), MS [] M (below 0) = M := fun M => rfl
  obtain ⟨zs, T', M', hops, hg, hT, hM, hf, hq⟩ := WD_sound (ops := ops) (T0 := lk s.T) (M0 := lk s.M) ops [] s.T s.M rfl (e1 _).symm (e2 _).symm (fun i z hz => by simp at hz) (by simpa using h)
  have hd : ∀ (i : Nat) (z : Z), zs[i]? = some z → ∀ d, z.1.dst = some d → d < cx.N := by
    intro i z hz d hd
    have hmem : z.1 ∈ ops := by rw [hops]; exact List.mem_map.2 ⟨z, List.mem_of_getElem? hz, rfl⟩
    have := List.all_eq_true.1 hN z.1 hmem
    rw [hd] at this
    have := Nat.lt_of_lt_of_le (Nat.lt_succ_self d) (Nat.le_of_ble_eq_true this)
    exact this
  have hQ : ∀ a' w', Inv cx (TS zs (lk s.T) (below zs.length)) (MS zs (lk s.M) (below zs.length)) a' w' → ∃ s', Q .normal s' ∧ InvS cx s' a' w' := fun a' w' hI' => ⟨⟨T', M'⟩, hq, by unfold InvS; rw [hT, hM]; exact hI'⟩
  subst hops
  cases draw with
  | true =>
    have hf := hf rfl
    exact region_draw hm hf.1 hf.2 hg hd hI hQ
  | false => exact region_seq hg hd hI hQ
theorem WA_mono {c : Code} {Q' : Exit → St → Prop} (h : WA P cx c Q s) (hq : ∀ e s, Q e s → Q' e s) : WA P cx c Q' s :=
  fun a w hI => wp_mono (h a w hI) fun e a' w' ⟨s', h1, h2⟩ => ⟨s', hq _ _ h1, h2⟩
theorem WA_seq {x y : Code} (h : WA P cx x (thn (WA P cx y Q) Q) s) : WA P cx (.seq x y) Q s := by
  intro a w hI
  refine wp_seq (wp_mono (h a w hI) fun e a' w' ⟨s', h1, h2⟩ => ?_)
  cases e with
  | normal => exact h1 a' w' h2
  | _ => exact ⟨s', h1, h2⟩
theorem WA_skip (h : Q .normal s) : WA P cx .skip Q s := fun _ _ hI => wp_skip ⟨s, h, hI⟩
theorem WA_label {l : Nat} (h : Q .normal s) : WA P cx (.label l) Q s := fun _ _ hI => wp_label ⟨s, h, hI⟩
theorem WA_exit {id : Nat} (h : Q (.exit id) s) : WA P cx (.exit id) Q s := fun _ _ hI => wp_exit ⟨s, h, hI⟩
theorem WA_ret (h : Q .ret s) : WA P cx .ret Q s := fun _ _ hI => wp_ret ⟨s, h, hI⟩
theorem WA_block {id : Nat} {c : Code} (h : WA P cx c (inB id Q) s) : WA P cx (.block id c) Q s := by
  intro a w hI
  refine wp_block (wp_mono (h a w hI) fun e a' w' ⟨s', h1, h2⟩ => ?_)
  cases e with
  | exit id' =>
    simp only [inB] at h1
    simp only [Exit.inBlock]
    split at h1
    · rename_i he; rw [if_pos (Nat.eq_of_beq_eq_true he)]; exact ⟨s', h1, h2⟩
    · rename_i he; rw [if_neg (fun e => by subst e; simp at he)]; exact ⟨s', h1, h2⟩
  | _ => exact ⟨s', h1, h2⟩
theorem InvS.bool {a : Act} {w : World} {c : Operand} {b : Bool} (hI : InvS cx s a w) (hc : evA (lk s.T) c = some (.d (.v (.bool b)))) : a.eval c = .bool b := by
  obtain ⟨μ, hI⟩ := hI
  cases c with
  | tmp t =>
    have := hI.tm t _ hc
    show a.tmps.getD t undef = _
    generalize a.tmps.getD t undef = u at this
    cases this with | d h => cases h; rfl
  | const v =>
    have e : cvA v = .d (.v (.bool b)) := by
      simp only [evA] at hc
      cases hq : cvA v <;> rw [hq] at hc <;> simp at hc <;> rw [hc]
    unfold cvA at e
    split at e
    · cases e
    · simp at e; exact e
  | func f => simp [evA] at hc
  | global g => simp [evA] at hc
theorem WA_cond {c : Operand} {x y : Code} {b : Bool} (hc : evA (lk s.T) c = some (.d (.v (.bool b)))) (ht : b = true → WA P cx x Q s) (hf : b = false → WA P cx y Q s) : WA P cx (.cond c x y) Q s :=
  fun a w hI => wp_cond_split (hI.bool hc) (fun h => ht h a w hI) (fun h => hf h a w hI)
theorem WA_true {c : Operand} {x y : Code} (hc : evA (lk s.T) c = some (.d (.v (.bool true)))) (h : WA P cx x Q s) : WA P cx (.cond c x y) Q s := WA_cond hc (fun _ => h) (fun h => by cases h)
theorem WA_false {c : Operand} {x y : Code} (hc : evA (lk s.T) c = some (.d (.v (.bool false)))) (h : WA P cx y Q s) : WA P cx (.cond c x y) Q s := WA_cond hc (fun h => by cases h) (fun _ => h)
/-- A loop: what holds at a round's head, with the number of rounds that are left. -/
theorem WA_loop {c : Code} (I : Nat → St → Prop) (n0 : Nat) (h0 : I n0 s) (round : ∀ n s, I n s → WA P cx c (thn (fun s' => ∃ n', n' < n ∧ I n' s') Q) s) : WA P cx (.loop c) Q s := by
  intro a w hI
  refine wp_loop_ghost (fun n a w => ∃ s, I n s ∧ InvS cx s a w) n0 ⟨s, h0, hI⟩ fun n a w ⟨s, hn, hs⟩ => ?_
  refine wp_mono (round n s hn a w hs) fun e a' w' ⟨s', h1, h2⟩ => ?_
  cases e with
  | normal =>
    obtain ⟨n', hlt, hn'⟩ := h1
    exact ⟨n', hlt, s', hn', h2⟩
  | _ => exact ⟨s', h1, h2⟩
/-- Another view of the same run. -/
def Le (cx : Cx) (s s' : St) : Prop := ∀ a w, InvS cx s a w → InvS cx s' a w
theorem Le.refl : Le cx s s := fun _ _ h => h
theorem Le.trans {s' s'' : St} (h : Le cx s s') (k : Le cx s' s'') : Le cx s s'' := fun a w hI => k a w (h a w hI)
theorem WA_le {s' : St} {c : Code} (hl : Le cx s s') (h : WA P cx c Q s') : WA P cx c Q s := fun a w hI => h a w (hl a w hI)
end
end Go.Am
/- Nothing is claimed here: the operations that only compute or read, beside their abstract view. -/
namespace Go.Am
set_option linter.unusedSimpArgs false
set_option linter.unusedVariables false
set_option linter.unnecessarySimpa false
set_option linter.unusedSectionVars false
set_option maxRecDepth 100000
open Go Go.RowKit Go.Proofs.Grow
/-- What a type is like. -/
structure TI where
  agg : Bool
  size : Nat
  bytes : Nat
  zero : List Value
  fs : List (Nat × TypeId)
  isS : Bool
  el : Option TypeId
  len : Nat
  ik : Option IntKind
def tiOf (P : Program) (t : TypeId) : Option TI := match P.info? t, P.underlying t with
  | some i, some d => i.zero.map fun z =>
    { agg := match d with
        | .struct _ | .array _ _ => true
        | _ => false
      size := i.size, bytes := i.bytes, zero := z.cells.toList
      fs := match d with
        | .struct fs => fs.toList.map fun f => (f.offset, f.type)
        | _ => []
      isS := match d with
        | .slice _ => true
        | _ => false
      el := match d with
        | .slice e | .array _ e => some e
        | _ => none
      len := match d with
        | .array n _ => n
        | _ => 0
      ik := match d with
        | .int k => some k
        | _ => none }
  | _, _ => none
def TOK (P : Program) (tbl : List (Nat × TI)) : Prop := ∀ t i, lk tbl t = some i → tiOf P t = some i
theorem TOK_of {P : Program} {tbl : List (Nat × TI)} (h : tbl.map (fun p => tiOf P p.1) = tbl.map fun p => some p.2) : TOK P tbl := by
  intro t i
  induction tbl with
  | nil => intro hl; simp [lk] at hl
  | cons p r ih =>
    intro hl
    simp only [List.map_cons, List.cons.injEq] at h
    simp only [lk] at hl
    split at hl
    · rename_i hb
      have := Nat.eq_of_beq_eq_true hb
      rw [← this, h.1]; exact hl
    · exact ih h.2 hl
section
variable {P : Program} {t : TypeId} {i : TI} {w : World}
theorem ti_parts (h : tiOf P t = some i) : ∃ (info : TypeInfo) (d : TypeDesc) (z : Value), P.info? t = some info ∧ P.underlying t = some d ∧ info.zero = some z ∧ info.size = i.size ∧ info.bytes = i.bytes ∧ z.cells = i.zero.toArray ∧
    i.agg = (match d with
      | .struct _ | .array _ _ => true
      | _ => false) ∧ i.fs = (match d with
      | .struct fs => fs.toList.map fun f => (f.offset, f.type)
      | _ => []) ∧ i.isS = (match d with
      | .slice _ => true
      | _ => false) ∧ i.el = (match d with
      | .slice e | .array _ e => some e
      | _ => none) ∧ i.len = (match d with
      | .array n _ => n
      | _ => 0) ∧ i.ik = (match d with
      | .int k => some k
      | _ => none) := by
  unfold tiOf at h
  split at h
  · rename_i info d h1 h2
    cases hz : info.zero with
    | none => rw [hz] at h; simp at h
    | some z =>
      rw [hz] at h
      simp only [Option.map_some, Option.some.injEq] at h
      subst h
      exact ⟨info, d, z, h1, h2, hz, rfl, rfl, by simp, rfl, rfl, rfl, rfl, rfl, rfl⟩
  · cases h
theorem run_size (h : tiOf P t = some i) : (sizeOf t).run P w = .ok i.size w := by
  obtain ⟨info, d, z, h1, h2, h3, h4, _⟩ := ti_parts h
  simp [sizeOf, typeInfo, h1, h4]
theorem run_agg (h : tiOf P t = some i) : (isAgg t).run P w = .ok i.agg w := by
  obtain ⟨info, d, z, h1, h2, h3, h4, h5, h6, h7, _⟩ := ti_parts h
  unfold isAgg
  rw [h7]
  cases d <;> simp [run_underlying h2]
theorem run_zero (h : tiOf P t = some i) : ∃ z, (zeroValue t).run P w = .ok z w ∧ z.cells = i.zero.toArray := by
  obtain ⟨info, d, z, h1, h2, h3, h4, h5, h6, _⟩ := ti_parts h
  exact ⟨z, by simp [zeroValue, typeInfo, h1, h3], h6⟩
theorem slice_desc (h : tiOf P t = some i) {e : TypeId} (hs : i.isS = true) (he : i.el = some e) : P.underlying t = some (.slice e) := by
  obtain ⟨info, d, z, h1, h2, h3, h4, h5, h6, h7, h8, h9, h10, _⟩ := ti_parts h
  rw [h9] at hs
  rw [h10] at he
  cases d <;> simp_all
theorem arr_desc (h : tiOf P t = some i) {e : TypeId} (ha : i.agg = true) (he : i.el = some e) : P.underlying t = some (.array i.len e) := by
  obtain ⟨info, d, z, h1, h2, h3, h4, h5, h6, h7, h8, h9, h10, h11, _⟩ := ti_parts h
  rw [h7] at ha
  rw [h10] at he
  rw [h11]
  cases d <;> simp_all
theorem struct_desc (h : tiOf P t = some i) (ha : i.agg = true) (he : i.el = none) : ∃ fs, P.underlying t = some (.struct fs) ∧ i.fs = fs.toList.map fun f => (f.offset, f.type) := by
  obtain ⟨info, d, z, h1, h2, h3, h4, h5, h6, h7, h8, h9, h10, h11, _⟩ := ti_parts h
  rw [h7] at ha
  rw [h10] at he
  cases d <;> simp_all
theorem int_desc (h : tiOf P t = some i) {k : IntKind} (hk : i.ik = some k) : P.underlying t = some (.int k) := by
  obtain ⟨info, d, z, h1, h2, h3, h4, h5, h6, h7, h8, h9, h10, h11, h12⟩ := ti_parts h
  rw [h12] at hk
  cases d <;> simp_all
theorem addr_add (b o n : Nat) : (⟨b, o, none⟩ : Addr).add n = ⟨b, o + n, none⟩ := by
  unfold Addr.add; split <;> simp_all
theorem run_loadFrom {b off : Nat} : ∀ (vs : List Value) (k : Nat) (acc : Array Value), (∀ (j : Nat) (v : Value), vs[j]? = some v → w.cell? ⟨b, off + k + j, none⟩ = some v) → (loadCellsFrom ⟨b, off, none⟩ k vs.length acc).run P w = .ok (acc ++ vs.toArray) w
  | [], k, acc, _ => by simp [loadCellsFrom]
  | v :: r, k, acc, h => by
    have h0 := h 0 v rfl
    simp only [Nat.add_zero] at h0
    have ih := run_loadFrom (b := b) (off := off) r (k + 1) (acc.push v) (fun j u hu => by have := h (j + 1) u (by simpa using hu); rw [show off + (k + 1) + j = off + k + (j + 1) by omega]; exact this)
    simp only [List.length_cons, loadCellsFrom, Sem.run_bind, addr_add, run_load, h0, Result.andThen_ok, ih]
    congr 1
    simp
theorem run_loadCells {b off : Nat} {vs : List Value} (h : ∀ (j : Nat) (v : Value), vs[j]? = some v → w.cell? ⟨b, off + j, none⟩ = some v) : (loadCells ⟨b, off, none⟩ vs.length).run P w = .ok vs.toArray w := by
  unfold loadCells
  rw [run_loadFrom vs 0 #[] (fun j v hv => by simpa using h j v hv)]
  simp
theorem run_loadAgg {b off : Nat} {vs : List Value} (ht : tiOf P t = some i) (ha : i.agg = true) (hl : vs.length = i.size) (h : ∀ (j : Nat) (v : Value), vs[j]? = some v → w.cell? ⟨b, off + j, none⟩ = some v) :
    (loadVar t ⟨b, off, none⟩).run P w = .ok (.agg vs.toArray) w := by
  unfold loadVar
  simp only [Sem.run_bind, run_agg ht, Result.andThen_ok, ha, if_true, run_size ht, ← hl, run_loadCells h, Sem.run_pure]
theorem run_loadOne {b off : Nat} {v : Value} (ht : tiOf P t = some i) (ha : i.agg = false) (h : w.cell? ⟨b, off, none⟩ = some v) : (loadVar t ⟨b, off, none⟩).run P w = .ok v w := by
  unfold loadVar
  rw [Sem.run_bind, run_agg ht]
  simp [ha, h]
end
def AV.one : AV → Bool
  | .d (.v x) => x.oneCell'
  | .agg _ => false
  | .tup _ => false
  | _ => true
def cellsOf : AV → List AV
  | .agg cs => cs
  | x => [x]
def flat : AV → Bool
  | .agg cs => cs.all AV.one
  | x => x.one
section
variable {H : Nat → Prop} {μ : Nat → Option Value} {w : World}
theorem VD.one {x : D} {v : Value} (h : VD H w x v) (ho : (AV.d x).one = true) : v.oneCell' = true := by
  cases h with
  | v x => exact ho
  | nil => rfl
  | rows => rfl
theorem VR.one {x : AV} {v : Value} (h : VR H μ w x v) (ho : x.one = true) : v.oneCell' = true := by
  cases h with
  | d h => exact h.one ho
  | ptr => rfl
  | elt => rfl
  | own => rfl
  | sl => rfl
  | rp => rfl
  | agg => cases ho
  | tup => cases ho
  | clo => rfl
theorem cells_one {v : Value} (h : v.oneCell' = true) : v.cells = #[v] := by
  cases v <;> first | rfl | cases h
theorem VRs.ones {cs : List AV} {vs : List Value} (h : VRs H μ w cs vs) (ho : cs.all AV.one = true) : ∀ u ∈ vs, u.oneCell' = true := by
  intro u hu
  obtain ⟨i, hi⟩ := List.mem_iff_getElem?.1 hu
  have hlt : i < cs.length := by rw [h.1]; exact (List.getElem?_eq_some_iff.1 hi).1
  exact (h.2 i cs[i] u (by simp [hlt]) hi).one (List.all_eq_true.1 ho _ (List.getElem_mem hlt))
theorem flat_cells {x : AV} {v : Value} (h : VR H μ w x v) (hf : flat x = true) : ∃ vs, v.cells = vs.toArray ∧ VRs H μ w (cellsOf x) vs ∧ ∀ u ∈ vs, u.oneCell' = true := by
  by_cases ha : ∃ cs, x = .agg cs
  · obtain ⟨cs, rfl⟩ := ha
    cases h with
    | agg hl h => exact ⟨_, rfl, ⟨hl, h⟩, VRs.ones ⟨hl, h⟩ hf⟩
  · have e1 : flat x = x.one := by cases x <;> first | rfl | exact absurd ⟨_, rfl⟩ ha
    have e2 : cellsOf x = [x] := by cases x <;> first | rfl | exact absurd ⟨_, rfl⟩ ha
    rw [e1] at hf
    have := h.one hf
    exact ⟨[v], by rw [cells_one this], by rw [e2]; exact VRs.cons h VRs.nil, by simpa using this⟩
end
section
variable {P : Program} {tbl : List (Nat × TI)} {o : Oper} {T : Nat → Option AV} {M : Nat → Option AO}
theorem step_move {x : Operand} {y : AV} (ho : o.op = .move x) (hx : evA T x = some y) : StepOK P o T M ⟨y, [], []⟩ :=
  step_read [] fun cx μ T' M' a w h hT _ => ⟨_, by simp [execOp, ho], h.ev hT (by simp [ho, Op.operands]) hx⟩
theorem step_assign {x : Operand} {y : AV} (ho : o.op = .assign x) (hx : evA T x = some y) : StepOK P o T M ⟨y, [], []⟩ :=
  step_read [] fun cx μ T' M' a w h hT _ => ⟨_, by simp [execOp, ho], h.ev hT (by simp [ho, Op.operands]) hx⟩
theorem VR.bool {H : Nat → Prop} {μ : Nat → Option Value} {w : World} {b : Bool} {v : Value} (h : VR H μ w (.d (.v (.bool b))) v) : v = .bool b := by
  cases h with | d h => cases h; rfl
theorem VR.val {H : Nat → Prop} {μ : Nat → Option Value} {w : World} {u v : Value} (h : VR H μ w (.d (.v u)) v) : v = u := by
  cases h with | d h => cases h; rfl
theorem step_pick_t {c x y : Operand} {b : Bool} {u : AV} (ho : o.op = .pick c x y) (hc : evA T c = some (.d (.v (.bool b)))) (hb : b = true) (hx : evA T x = some u) : StepOK P o T M ⟨u, [], []⟩ :=
  step_read [] fun cx μ T' M' a w h hT _ => by
    subst hb
    have h1 := (h.ev hT (by simp [ho, Op.operands]) hc).bool
    exact ⟨a.eval x, by simp [execOp, ho, h1, asBool], h.ev (x := x) hT (by simp [ho, Op.operands]) hx⟩
theorem step_pick_f {c x y : Operand} {b : Bool} {u : AV} (ho : o.op = .pick c x y) (hc : evA T c = some (.d (.v (.bool b)))) (hb : b = false) (hy : evA T y = some u) : StepOK P o T M ⟨u, [], []⟩ :=
  step_read [] fun cx μ T' M' a w h hT _ => by
    subst hb
    have h1 := (h.ev hT (by simp [ho, Op.operands]) hc).bool
    exact ⟨a.eval y, by simp [execOp, ho, h1, asBool], h.ev (x := y) hT (by simp [ho, Op.operands]) hy⟩
/-- A computation on values. -/
theorem step_pure1 {x : Operand} {u r : Value} (f : Value → Sem Value) (ho : ∀ ρ, execOp ρ o = (do pure (.value (← f (ρ x))))) (hmem : x ∈ o.op.operands.toList) (hx : evA T x = some (.d (.v u))) (hr : ∀ w, (f u).run P w = .ok r w) :
    StepOK P o T M ⟨.d (.v r), [], []⟩ :=
  step_read [] fun cx μ T' M' a w h hT _ => by
    have h1 := (h.ev hT hmem hx).val
    exact ⟨r, by rw [ho, h1]; simp [hr], .d (.v r)⟩
theorem step_not {t : TypeId} {x : Operand} {b : Bool} (ho : o.op = .unOp .not t x) (hx : evA T x = some (.d (.v (.bool b)))) : StepOK P o T M ⟨.d (.v (.bool !b)), [], []⟩ :=
  step_pure1 (x := x) (u := .bool b) (Op.unary .not) (fun ρ => by simp [execOp, ho]) (by simp [ho, Op.operands]) hx (fun w => by simp [Op.unary])
theorem step_neg {t : TypeId} {x : Operand} {k : IntKind} {n : Int} (ho : o.op = .unOp .neg t x) (hx : evA T x = some (.d (.v (.int k n)))) : StepOK P o T M ⟨.d (.v (.int k (k.wrap (0 - n)))), [], []⟩ :=
  step_pure1 (x := x) (u := .int k n) (Op.unary .neg) (fun ρ => by simp [execOp, ho]) (by simp [ho, Op.operands]) hx (fun w => by simp [Op.unary, Op.intArith])
theorem step_conv (htb : TOK P tbl) {s d : TypeId} {x : Operand} {k k' : IntKind} {n : Int} {i j : TI} (ho : o.op = .convert s d x) (hs : lk tbl s = some i) (hd : lk tbl d = some j) (hk : j.ik = some k') (hx : evA T x = some (.d (.v (.int k n)))) : StepOK P o T M ⟨.d (.v (.int k' (k'.wrap n))), [], []⟩ :=
  step_pure1 (x := x) (u := .int k n) (convert s d) (fun ρ => by simp [execOp, ho]) (by simp [ho, Op.operands]) hx (fun w => by
    obtain ⟨info, ds, z, h1, h2, _⟩ := ti_parts (htb _ _ hs)
    have h3 := int_desc (htb _ _ hd) hk
    simp [convert, run_underlying h2, run_underlying h3, Conv.intToInt])
def intOp : BinOp → IntKind → Int → Int → Option Value
  | .add, k, a, b => some (.int k (k.wrap (a + b)))
  | .sub, k, a, b => some (.int k (k.wrap (a - b)))
  | .mul, k, a, b => some (.int k (k.wrap (a * b)))
  | .eql, _, a, b => some (.bool (a == b))
  | .neq, _, a, b => some (.bool (a != b))
  | .lss, _, a, b => some (.bool (decide (a < b)))
  | .leq, _, a, b => some (.bool (decide (a ≤ b)))
  | .gtr, _, a, b => some (.bool (decide (a > b)))
  | .geq, _, a, b => some (.bool (decide (a ≥ b)))
  | _, _, _, _ => none
theorem run_guard_int (op : BinOp) (t : TypeId) (x y : Operand) (k : IntKind) (a b : Int) (w : World) : (eqGuard op t x y (.int k a) (.int k b)).run P w = .ok () w := by
  unfold eqGuard
  cases op <;> simp
theorem step_int {op : BinOp} {t t' : TypeId} {x y : Operand} {k : IntKind} {a b : Int} {r : Value} (ho : o.op = .binOp op t x y t') (hx : evA T x = some (.d (.v (.int k a)))) (hy : evA T y = some (.d (.v (.int k b)))) (hr : intOp op k a b = some r) :
    StepOK P o T M ⟨.d (.v r), [], []⟩ :=
  step_read [] fun cx μ T' M' ac w h hT _ => by
    have h1 := (h.ev (x := x) hT (by simp [ho, Op.operands]) hx).val
    have h2 := (h.ev (x := y) hT (by simp [ho, Op.operands]) hy).val
    refine ⟨r, ?_, .d (.v r)⟩
    simp only [execOp, ho, h1, h2, Sem.run_bind, run_guard_int, Result.andThen_ok]
    cases op <;> simp only [intOp, Option.some.injEq] at hr <;> first | (cases hr; done) | (subst hr; simp [binOp, Op.intArith, Op.intCmp])
theorem step_sum {op : BinOp} {t t' : TypeId} {x y : Operand} {a b r : Int} (ho : o.op = .binOp op t x y t') (hx : evA T x = some (.d (.v (.int .i64 a)))) (hy : evA T y = some (.d (.v (.int .i64 b))))
    (hr : (op = .add ∧ r = a + b) ∨ (op = .sub ∧ r = a - b) ∨ (op = .mul ∧ r = a * b)) (h1 : -9223372036854775808 ≤ r) (h2 : r ≤ 9223372036854775807) : StepOK P o T M ⟨.d (.v (.int .i64 r)), [], []⟩ := by
  have hw : IntKind.i64.wrap r = r := IntWalk.i64_in _ ⟨h1, h2⟩
  refine step_int ho hx hy ?_
  rcases hr with ⟨rfl, rfl⟩ | ⟨rfl, rfl⟩ | ⟨rfl, rfl⟩ <;> simp only [intOp, hw]
theorem step_quo {t t' : TypeId} {x y : Operand} {k : IntKind} {a b : Int} (ho : o.op = .binOp .quo t x y t') (hx : evA T x = some (.d (.v (.int k a)))) (hy : evA T y = some (.d (.v (.int k b)))) (hb : b ≠ 0) :
    StepOK P o T M ⟨.d (.v (.int k (k.wrap (a.tdiv b)))), [], []⟩ :=
  step_read [] fun cx μ T' M' ac w h hT _ => by
    have h1 := (h.ev (x := x) hT (by simp [ho, Op.operands]) hx).val
    have h2 := (h.ev (x := y) hT (by simp [ho, Op.operands]) hy).val
    exact ⟨_, by simp only [execOp, ho, h1, h2, Sem.run_bind, run_guard_int, Result.andThen_ok]; simp [binOp, Op.intDiv, hb], .d (.v _)⟩
theorem step_rem {t t' : TypeId} {x y : Operand} {k : IntKind} {a b : Int} (ho : o.op = .binOp .rem t x y t') (hx : evA T x = some (.d (.v (.int k a)))) (hy : evA T y = some (.d (.v (.int k b)))) (hb : b ≠ 0) :
    StepOK P o T M ⟨.d (.v (.int k (a.tmod b))), [], []⟩ :=
  step_read [] fun cx μ T' M' ac w h hT _ => by
    have h1 := (h.ev (x := x) hT (by simp [ho, Op.operands]) hx).val
    have h2 := (h.ev (x := y) hT (by simp [ho, Op.operands]) hy).val
    exact ⟨_, by simp only [execOp, ho, h1, h2, Sem.run_bind, run_guard_int, Result.andThen_ok]; simp [binOp, Op.intDiv, hb], .d (.v _)⟩
def strOp : BinOp → ByteArray → ByteArray → Option Value
  | .eql, a, b => some (.bool (a.toList == b.toList))
  | .neq, a, b => some (.bool !(a.toList == b.toList))
  | .lss, a, b => some (.bool (Op.bytesLess a.toList b.toList))
  | .gtr, a, b => some (.bool !(Op.bytesLess a.toList b.toList || (a.toList == b.toList)))
  | _, _, _ => none
theorem run_guard_str (op : BinOp) (t : TypeId) (x y : Operand) (a b : ByteArray) (w : World) : (eqGuard op t x y (.string a) (.string b)).run P w = .ok () w := by
  unfold eqGuard
  cases op <;> simp
theorem step_str {op : BinOp} {t t' : TypeId} {x y : Operand} {a b : ByteArray} {r : Value} (ho : o.op = .binOp op t x y t') (hx : evA T x = some (.d (.v (.string a)))) (hy : evA T y = some (.d (.v (.string b)))) (hr : strOp op a b = some r) :
    StepOK P o T M ⟨.d (.v r), [], []⟩ :=
  step_read [] fun cx μ T' M' ac w h hT _ => by
    have h1 := (h.ev (x := x) hT (by simp [ho, Op.operands]) hx).val
    have h2 := (h.ev (x := y) hT (by simp [ho, Op.operands]) hy).val
    refine ⟨r, ?_, .d (.v r)⟩
    simp only [execOp, ho, h1, h2, Sem.run_bind, run_guard_str, Result.andThen_ok]
    cases op <;> simp only [strOp, Option.some.injEq] at hr <;> first | (cases hr; done) | (subst hr; simp [binOp, Op.stringOp])
/-- Equality of whole values, told by the run of it. -/
theorem step_eq {t t' : TypeId} {x y : Operand} {cs ds : List AV} {us vs : List Value} {b : Bool} (ho : o.op = .binOp .eql t x y t') (hx : evA T x = some (.agg cs)) (hy : evA T y = some (.agg ds)) (hc : cs = us.map fun u => .d (.v u)) (hd : ds = vs.map fun u => .d (.v u))
    (hr : ∀ (x y : Operand) w, (do eqGuard .eql t x y (.agg us.toArray) (.agg vs.toArray); binOp .eql t (.agg us.toArray) (.agg vs.toArray)).run P w = .ok (.bool b) w) : StepOK P o T M ⟨.d (.v (.bool b)), [], []⟩ :=
  step_read [] fun cx μ T' M' ac w h hT _ => by
    have aux : ∀ {H : Nat → Prop} {cs : List AV} {us : List Value} {v : Value}, VR H μ w (.agg cs) v → cs = us.map (fun u => .d (.v u)) → v = .agg us.toArray := by
      intro H cs us v hv hc
      cases hv with
      | @agg _ vs hl hv =>
        subst hc
        congr 2
        refine List.ext_getElem? fun i => ?_
        by_cases hi : i < us.length
        · have hi2 : i < vs.length := by rw [← hl]; simpa using hi
          have := (hv i (.d (.v us[i])) vs[i] (by simp [hi]) (by simp [hi2])).val
          simp [hi, hi2, this]
        · have hl2 : us.length = vs.length := by simpa using hl
          rw [List.getElem?_eq_none (l := us) (by omega), List.getElem?_eq_none (l := vs) (by omega)]
    have h1 := aux (h.ev (x := x) hT (by simp [ho, Op.operands]) hx) hc
    have h2 := aux (h.ev (x := y) hT (by simp [ho, Op.operands]) hy) hd
    refine ⟨.bool b, ?_, .d (.v _)⟩
    have hr := hr x y w
    simp only [execOp, ho, h1, h2]
    rw [Sem.run_bind, hr]
    simp
theorem step_neq {t t' : TypeId} {x y : Operand} {cs ds : List AV} {us vs : List Value} {b : Bool} (ho : o.op = .binOp .neq t x y t') (hx : evA T x = some (.agg cs)) (hy : evA T y = some (.agg ds)) (hc : cs = us.map fun u => .d (.v u)) (hd : ds = vs.map fun u => .d (.v u))
    (hr : ∀ (x y : Operand) w, (do eqGuard .neq t x y (.agg us.toArray) (.agg vs.toArray); binOp .neq t (.agg us.toArray) (.agg vs.toArray)).run P w = .ok (.bool b) w) : StepOK P o T M ⟨.d (.v (.bool b)), [], []⟩ :=
  step_read [] fun cx μ T' M' ac w h hT _ => by
    have aux : ∀ {H : Nat → Prop} {cs : List AV} {us : List Value} {v : Value}, VR H μ w (.agg cs) v → cs = us.map (fun u => .d (.v u)) → v = .agg us.toArray := by
      intro H cs us v hv hc
      cases hv with
      | @agg _ vs hl hv =>
        subst hc
        congr 2
        refine List.ext_getElem? fun i => ?_
        by_cases hi : i < us.length
        · have hi2 : i < vs.length := by rw [← hl]; simpa using hi
          have := (hv i (.d (.v us[i])) vs[i] (by simp [hi]) (by simp [hi2])).val
          simp [hi, hi2, this]
        · have hl2 : us.length = vs.length := by simpa using hl
          rw [List.getElem?_eq_none (l := us) (by omega), List.getElem?_eq_none (l := vs) (by omega)]
    have h1 := aux (h.ev (x := x) hT (by simp [ho, Op.operands]) hx) hc
    have h2 := aux (h.ev (x := y) hT (by simp [ho, Op.operands]) hy) hd
    refine ⟨.bool b, ?_, .d (.v _)⟩
    have hr := hr x y w
    simp only [execOp, ho, h1, h2]
    rw [Sem.run_bind, hr]
    simp
theorem step_extract {x : Operand} {n : Nat} {cs : List AV} {c : AV} (ho : o.op = .extract x n) (hx : evA T x = some (.tup cs)) (hc : cs[n]? = some c) : StepOK P o T M ⟨c, [], []⟩ :=
  step_read [] fun cx μ T' M' a w h hT _ => by
    have h1 := h.ev (x := x) hT (by simp [ho, Op.operands]) hx
    generalize hv : a.eval x = v at h1
    cases h1 with
    | @tup _ vs hl h1 =>
      obtain ⟨u, hu, hr⟩ := VRs.get ⟨hl, h1⟩ hc
      exact ⟨u, by simp [execOp, ho, hv, Instr.extract, hu], hr⟩
theorem step_nilcheck {x : Operand} {y : AV} (ho : o.op = .nilCheck x) (hx : evA T x = some y) (hk : (match y with
    | .ptr _ _ => true
    | .elt _ _ _ _ => true
    | .rp _ => true
    | .clo _ _ => true
    | _ => false) = true) : StepOK P o T M ⟨y, [], []⟩ :=
  step_read [] fun cx μ T' M' a w h hT _ => by
    have h1 := h.ev (x := x) hT (by simp [ho, Op.operands]) hx
    refine ⟨a.eval x, ?_, h1⟩
    generalize hv : a.eval x = v at h1
    cases h1 <;> first | (cases hk; done) | simp [execOp, ho, hv]
theorem step_func {f : FuncId} {first cap : Array Operand} {ys : List AV} (ho : o.op = .makeFunc (.func f) first cap) (hf : first = #[]) (hx : cap.toList.map (evA T) = ys.map some) : StepOK P o T M ⟨.clo f ys, [], []⟩ :=
  step_read [] fun cx μ T' M' a w h hT _ => by
    subst hf
    refine ⟨.func (.func f) #[] (cap.map a.eval), by simp [execOp, ho, Instr.makeFunc], ?_⟩
    have : cap.map a.eval = (cap.toList.map a.eval).toArray := by rw [← Array.toList_map, Array.toArray_toList]
    rw [this]
    have hl : ys.length = cap.toList.length := by
      have := congrArg List.length hx
      simpa using this.symm
    refine .clo (by simpa using hl) fun i c v hc hv => ?_
    rw [List.getElem?_map] at hv
    cases hq : cap.toList[i]? with
    | none => rw [hq] at hv; cases hv
    | some q =>
      rw [hq] at hv
      obtain rfl : a.eval q = v := by simpa using hv
      have h2 := congrArg (fun l => l[i]?) hx
      simp only [List.getElem?_map, hq, hc, Option.map_some, Option.some.injEq] at h2
      exact h.ev hT (by rw [ho]; simp [Op.operands]; exact Array.mem_of_getElem? (by simpa using hq)) h2
end
end Go.Am
/- Nothing is claimed here: the operations on memory, beside their abstract view. -/
namespace Go.Am
set_option linter.unusedSimpArgs false
set_option linter.unusedVariables false
set_option linter.unnecessarySimpa false
set_option linter.unusedSectionVars false
set_option maxRecDepth 100000
open Go Go.RowKit Go.Proofs.Grow
section
variable {H : Nat → Prop} {μ : Nat → Option Value} {w : World}
theorem VDs.vrs {cs : List D} {vs : List Value} (h : VDs H w cs vs) : VRs H μ w (cs.map AV.d) vs :=
  ⟨by simpa using h.1, fun i c v hc hv => by
    rw [List.getElem?_map] at hc
    cases hq : cs[i]? with
    | none => rw [hq] at hc; cases hc
    | some q =>
      rw [hq] at hc
      obtain rfl : AV.d q = c := by simpa using hc
      exact .d (h.2 i q v hq hv)⟩
theorem VRs.vds {cs : List D} {vs : List Value} (h : VRs H μ w (cs.map AV.d) vs) : VDs H w cs vs :=
  ⟨by simpa using h.1, fun i c v hc hv => by
    have := h.2 i (.d c) v (by simp [hc]) hv
    cases this with | d h => exact h⟩
theorem InvM.box {cx : Cx} {T : Nat → Option AV} {M : Nat → Option AO} {a : Act} (h : InvM cx μ T M a w) {g : Nat} {ty : TypeId} {cs : List AV} (hg : M g = some (.box ty cs)) {off : Nat} {v : Value} (hv : VR H μ w (.ptr g off) v) :
    ∃ b vs, v = .pointer (some ⟨b, off, none⟩) ∧ μ g = some (.pointer (some ⟨b, 0, none⟩)) ∧ w.heap[b]? = some (.cells vs.toArray ty (0, 0)) ∧ VRs (Ht cx μ M) μ w cs vs := by
  obtain ⟨b, vs, h1, h2, h3⟩ := h.ob g _ hg
  cases hv with
  | @ptr _ b' _ hb =>
    rw [h1] at hb
    obtain rfl : b = b' := by simpa using hb
    exact ⟨b, vs, rfl, h1, h2, h3⟩
theorem cell_box {b : Nat} {vs : List Value} {ty : TypeId} {fr : Nat × Nat} (h : w.heap[b]? = some (.cells vs.toArray ty fr)) (i : Nat) : w.cell? ⟨b, i, none⟩ = vs[i]? := by
  simp [World.cell?, h]
/-- Where an element of an own slice lies. -/
theorem InvM.elt {cx : Cx} {T : Nat → Option AV} {M : Nat → Option AO} {a : Act} (h : InvM cx μ T M a w) {g : Nat} {ty : TypeId} {sz : Nat} {rs : List (List D)} (hg : M g = some (.arr ty sz rs)) {i off : Nat} {v : Value} (hv : VR H μ w (.elt g sz i off) v) :
    ∃ b cap cur xs, v = .pointer (some ⟨b, i * sz + off, none⟩) ∧ μ g = some (.slice (some ⟨b, 0, none⟩) rs.length cap) ∧ w.heap[b]? = some (.cells cur ty (0, 0)) ∧ rs.length ≤ cap ∧ cap ≤ maxLen ∧ cur.size = cap * sz ∧ cur.toList.take (rs.length * sz) = xs ∧ xs.length = rs.length * sz ∧
      (∀ r ∈ rs, r.length = sz) ∧ VDs (Ht cx μ M) w rs.flatten xs ∧ ∀ u ∈ xs, u.oneCell' = true := by
  obtain ⟨u, xs, h1, ⟨h2, h3⟩, h4, h5⟩ := h.ob g _ hg
  cases hv with
  | @elt _ b n cap _ _ _ hb =>
    rw [h1] at hb
    obtain rfl : u = .slice (some ⟨b, 0, none⟩) n cap := by simpa using hb
    rcases h3 with ⟨q, _⟩ | ⟨c, cap', cur, q, _, q2, q3, q4, q5, q6⟩
    · cases q
    · simp only [Value.slice.injEq, Option.some.injEq, Addr.mk.injEq] at q
      obtain ⟨⟨rfl, _⟩, rfl, rfl⟩ := q
      exact ⟨b, cap, cur, xs, rfl, h1, q2, q3, q4, q5, q6, h2, h4, h5⟩
theorem flat_get {sz : Nat} : ∀ {rs : List (List D)} {i j : Nat} {r : List D} {c : D}, (∀ r ∈ rs, r.length = sz) → rs[i]? = some r → r[j]? = some c → rs.flatten[i * sz + j]? = some c
  | [], i, j, r, c, _, h, _ => by simp at h
  | x :: rs, i, j, r, c, hs, h, hj => by
    have hx : x.length = sz := hs x (by simp)
    cases i with
    | zero =>
      obtain rfl : x = r := by simpa using h
      simp only [List.flatten_cons, Nat.zero_mul, Nat.zero_add]
      rw [List.getElem?_append_left (List.getElem?_eq_some_iff.1 hj).1]; exact hj
    | succ i =>
      simp only [List.flatten_cons]
      rw [List.getElem?_append_right (by rw [hx, Nat.add_mul]; omega), hx, show (i + 1) * sz + j - sz = i * sz + j by rw [Nat.add_mul]; omega]
      exact flat_get (fun r hr => hs r (by simp [hr])) (by simpa using h) hj
theorem flat_len {sz : Nat} : ∀ {rs : List (List D)}, (∀ r ∈ rs, r.length = sz) → rs.flatten.length = rs.length * sz
  | [], _ => by simp
  | x :: rs, hs => by
    simp only [List.flatten_cons, List.length_append, List.length_cons]
    rw [flat_len (fun r hr => hs r (by simp [hr])), hs x (by simp), Nat.add_mul]; omega
end
section
variable {P : Program} {tbl : List (Nat × TI)} {o : Oper} {T : Nat → Option AV} {M : Nat → Option AO}
theorem run_loadOp {ρ : Operand → Value} {ty : TypeId} {x : Operand} {ad : Addr} {v : Value} {w : World} (ho : o.op = .load ty x) (hx : ρ x = .pointer (some ad)) (hr : (loadVar ty ad).run P w = .ok v w) : (execOp ρ o).run P w = .ok (.value v) w := by
  simp [execOp, ho, hx, Instr.loadAt, Instr.sureAddr, hr]
/-- A variable of the call's own is read, whole. -/
theorem step_load_agg (htb : TOK P tbl) {ty bty : TypeId} {x : Operand} {g off : Nat} {cs : List AV} {i : TI} (ho : o.op = .load ty x) (ht : lk tbl ty = some i) (ha : i.agg = true) (hx : evA T x = some (.ptr g off)) (hg : M g = some (.box bty cs)) (hl : Nat.ble (off + i.size) cs.length = true) :
    StepOK P o T M ⟨.agg ((cs.drop off).take i.size), [g], []⟩ :=
  step_read [g] fun cx μ T' M' a w h hT hM => by
    rw [← hM g (by simp)] at hg
    obtain ⟨b, vs, h1, h2, h3, h4⟩ := h.box hg (h.ev (x := x) hT (by simp [ho, Op.operands]) hx)
    have hle := Nat.le_of_ble_eq_true hl
    have hsub : VRs (Ht cx μ M') μ w ((cs.drop off).take i.size) ((vs.drop off).take i.size) := (h4.drop off).take i.size
    have hlen : ((vs.drop off).take i.size).length = i.size := by
      have := h4.1
      simp; omega
    refine ⟨_, run_loadOp ho h1 (run_loadAgg (htb _ _ ht) ha hlen fun j v hv => ?_), .agg hsub.1 hsub.2⟩
    rw [cell_box h3]
    rw [List.getElem?_take] at hv
    split at hv
    · rw [List.getElem?_drop] at hv; exact hv
    · cases hv
theorem step_load_one (htb : TOK P tbl) {ty bty : TypeId} {x : Operand} {g off : Nat} {cs : List AV} {i : TI} {c : AV} (ho : o.op = .load ty x) (ht : lk tbl ty = some i) (ha : i.agg = false) (hx : evA T x = some (.ptr g off)) (hg : M g = some (.box bty cs)) (hc : cs[off]? = some c) :
    StepOK P o T M ⟨c, [g], []⟩ :=
  step_read [g] fun cx μ T' M' a w h hT hM => by
    rw [← hM g (by simp)] at hg
    obtain ⟨b, vs, h1, h2, h3, h4⟩ := h.box hg (h.ev (x := x) hT (by simp [ho, Op.operands]) hx)
    obtain ⟨v, hv, hr⟩ := h4.get hc
    exact ⟨v, run_loadOp ho h1 (run_loadOne (htb _ _ ht) ha (by rw [cell_box h3]; exact hv)), hr⟩
/-- Data that is not written is read. -/
theorem step_load_rp_agg (htb : TOK P tbl) {ty : TypeId} {x : Operand} {cs : List D} {i : TI} (ho : o.op = .load ty x) (ht : lk tbl ty = some i) (ha : i.agg = true) (hx : evA T x = some (.rp cs)) (hl : Nat.ble i.size cs.length = true) :
    StepOK P o T M ⟨.agg ((cs.take i.size).map AV.d), [], []⟩ :=
  step_read [] fun cx μ T' M' a w h hT hM => by
    have h1 := h.ev (x := x) hT (by simp [ho, Op.operands]) hx
    have hle := Nat.le_of_ble_eq_true hl
    generalize hv : a.eval x = v at h1
    cases h1 with
    | @rp _ b off vs hb hlt hcell hval =>
      have hlen : ((List.range i.size).map vs).length = i.size := by simp
      refine ⟨.agg ((List.range i.size).map vs).toArray, run_loadOp ho hv (run_loadAgg (htb _ _ ht) ha hlen fun j v hv => ?_), .agg (by simp; omega) fun j c v hc hv => ?_⟩
      · rw [List.getElem?_map] at hv
        have hj : j < i.size := by
          refine Classical.byContradiction fun hn => ?_
          rw [List.getElem?_eq_none (by simpa using hn)] at hv; cases hv
        obtain rfl : vs j = v := by simpa [List.getElem?_range hj] using hv
        exact hcell j cs[j] (by simp [show j < cs.length by omega])
      · rw [List.getElem?_map] at hv hc
        have hj : j < i.size := by
          refine Classical.byContradiction fun hn => ?_
          rw [List.getElem?_eq_none (l := List.range i.size) (by simpa using hn)] at hv; cases hv
        obtain rfl : vs j = v := by simpa [List.getElem?_range hj] using hv
        rw [List.getElem?_take_of_lt hj] at hc
        have hjl : j < cs.length := by omega
        obtain rfl : AV.d cs[j] = c := by simpa [hjl] using hc
        exact .d (hval j cs[j] (by simp [hjl]))
theorem step_load_rp_one (htb : TOK P tbl) {ty : TypeId} {x : Operand} {c : D} {cs : List D} {i : TI} (ho : o.op = .load ty x) (ht : lk tbl ty = some i) (ha : i.agg = false) (hx : evA T x = some (.rp (c :: cs))) :
    StepOK P o T M ⟨.d c, [], []⟩ :=
  step_read [] fun cx μ T' M' a w h hT hM => by
    have h1 := h.ev (x := x) hT (by simp [ho, Op.operands]) hx
    generalize hv : a.eval x = v at h1
    cases h1 with
    | @rp _ b off vs hb hlt hcell hval =>
      exact ⟨vs 0, run_loadOp ho hv (run_loadOne (htb _ _ ht) ha (by simpa using hcell 0 c rfl)), .d (hval 0 c rfl)⟩
/-- An element of an own slice is read. -/
theorem step_load_elt_agg (htb : TOK P tbl) {ty ety : TypeId} {x : Operand} {g sz n off : Nat} {rs : List (List D)} {row : List D} {i : TI} (ho : o.op = .load ty x) (ht : lk tbl ty = some i) (ha : i.agg = true) (hx : evA T x = some (.elt g sz n off)) (hg : M g = some (.arr ety sz rs)) (hr : rs[n]? = some row)
    (hl : Nat.ble (off + i.size) row.length = true) : StepOK P o T M ⟨.agg (((row.drop off).take i.size).map AV.d), [g], []⟩ :=
  step_read [g] fun cx μ T' M' a w h hT hM => by
    rw [← hM g (by simp)] at hg
    obtain ⟨b, cap, cur, xs, h1, h2, h3, h4, h5, h6, h7, h8, h9, h10, h11⟩ := h.elt hg (h.ev (x := x) hT (by simp [ho, Op.operands]) hx)
    have hle := Nat.le_of_ble_eq_true hl
    have hrl : row.length = sz := h9 row (List.mem_of_getElem? hr)
    have hget : ∀ j, j < i.size → ∃ c v, row[off + j]? = some c ∧ xs[n * sz + (off + j)]? = some v ∧ VD (Ht cx μ M') w c v ∧ w.cell? ⟨b, n * sz + off + j, none⟩ = some v := by
      intro j hj
      have hjl : off + j < row.length := by omega
      have hc : row[off + j]? = some row[off + j] := by simp [hjl]
      have hf := flat_get h9 hr hc
      have hlt : n * sz + (off + j) < xs.length := by rw [← h10.1]; exact (List.getElem?_eq_some_iff.1 hf).1
      obtain ⟨u, hv⟩ : ∃ u, xs[n * sz + (off + j)]? = some u := ⟨xs[n * sz + (off + j)], by simp [hlt]⟩
      refine ⟨_, u, hc, hv, h10.2 _ _ _ hf hv, ?_⟩
      rw [← h7, List.getElem?_take] at hv
      split at hv
      · simp only [World.cell?, h3]
        rw [show n * sz + off + j = n * sz + (off + j) by omega]
        simpa using hv
      · cases hv
    let vs : List Value := (List.range i.size).map fun j => (w.cell? ⟨b, n * sz + off + j, none⟩).getD undef
    have hvs : vs.length = i.size := by simp [vs]
    refine ⟨.agg vs.toArray, run_loadOp ho h1 (run_loadAgg (htb _ _ ht) ha hvs fun j v hv => ?_), .agg (by simp [vs]; omega) fun j c v hc hv => ?_⟩
    · have hj : j < i.size := by rw [← hvs]; exact (List.getElem?_eq_some_iff.1 hv).1
      obtain ⟨c, u, q1, q2, q3, q4⟩ := hget j hj
      have : vs[j]? = some ((w.cell? ⟨b, n * sz + off + j, none⟩).getD undef) := by simp [vs, hj]
      rw [this, q4] at hv
      rw [q4]; simpa using hv
    · have hj : j < i.size := by rw [← hvs]; exact (List.getElem?_eq_some_iff.1 hv).1
      obtain ⟨c', u, q1, q2, q3, q4⟩ := hget j hj
      have : vs[j]? = some ((w.cell? ⟨b, n * sz + off + j, none⟩).getD undef) := by simp [vs, hj]
      rw [this, q4] at hv
      obtain rfl : u = v := by simpa using hv
      rw [List.getElem?_map, List.getElem?_take_of_lt hj, List.getElem?_drop, q1] at hc
      obtain rfl : AV.d c' = c := by simpa using hc
      exact .d q3
theorem step_load_elt_one (htb : TOK P tbl) {ty ety : TypeId} {x : Operand} {g sz n off : Nat} {rs : List (List D)} {row : List D} {c : D} {i : TI} (ho : o.op = .load ty x) (ht : lk tbl ty = some i) (ha : i.agg = false) (hx : evA T x = some (.elt g sz n off)) (hg : M g = some (.arr ety sz rs)) (hr : rs[n]? = some row)
    (hc : row[off]? = some c) : StepOK P o T M ⟨.d c, [g], []⟩ :=
  step_read [g] fun cx μ T' M' a w h hT hM => by
    rw [← hM g (by simp)] at hg
    obtain ⟨b, cap, cur, xs, h1, h2, h3, h4, h5, h6, h7, h8, h9, h10, h11⟩ := h.elt hg (h.ev (x := x) hT (by simp [ho, Op.operands]) hx)
    have hf := flat_get h9 hr hc
    have hlt : n * sz + off < xs.length := by rw [← h10.1]; exact (List.getElem?_eq_some_iff.1 hf).1
    obtain ⟨u, hv⟩ : ∃ u, xs[n * sz + off]? = some u := ⟨xs[n * sz + off], by simp [hlt]⟩
    refine ⟨u, run_loadOp ho h1 (run_loadOne (htb _ _ ht) ha ?_), .d (h10.2 _ _ _ hf hv)⟩
    rw [← h7, List.getElem?_take] at hv
    split at hv
    · simp only [World.cell?, h3]
      simpa using hv
    · cases hv
theorem step_fieldAddr (htb : TOK P tbl) {ty ft : TypeId} {x : Operand} {f off : Nat} {i j : TI} {y z : AV} (ho : o.op = .fieldAddr ty x f) (ht : lk tbl ty = some i) (ha : i.agg = true) (he : i.el = none) (hf : i.fs[f]? = some (off, ft)) (hj : lk tbl ft = some j) (hs : Nat.beq j.size 0 = false) (hx : evA T x = some y)
    (hz : (match y with
      | .ptr g q => some (.ptr g (q + off))
      | .elt g sz n q => some (.elt g sz n (q + off))
      | .rp cs => some (.rp (cs.drop off))
      | _ => none) = some z) : StepOK P o T M ⟨z, [], []⟩ :=
  step_read [] fun cx μ T' M' a w h hT hM => by
    have h1 := h.ev (x := x) hT (by simp [ho, Op.operands]) hx
    obtain ⟨fs, hd, hfs⟩ := struct_desc (htb _ _ ht) ha he
    rw [hfs, List.getElem?_map] at hf
    cases hq : fs.toList[f]? with
    | none => rw [hq] at hf; cases hf
    | some q =>
      rw [hq] at hf
      simp only [Option.map_some, Option.some.injEq, Prod.mk.injEq] at hf
      obtain ⟨rfl, rfl⟩ := hf
      have hq2 : fs[f]? = some q := by simpa using hq
      have hs2 : j.size ≠ 0 := fun e => by rw [e] at hs; cases hs
      have run : ∀ (b p : Nat), a.eval x = .pointer (some ⟨b, p, none⟩) → (execOp a.eval o).run P w = .ok (.value (.pointer (some ⟨b, p + q.offset, none⟩))) w := by
        intro b p hv
        simp [execOp, ho, hv, Instr.fieldAt, run_underlying hd, hq2, Instr.sureAddr, fieldPlace, run_size (htb _ _ hj), hs2, addr_add]
      generalize hv : a.eval x = v at h1
      cases h1 with
      | @ptr g b p hb => obtain rfl := Option.some.inj hz; exact ⟨_, run b p hv, .ptr hb⟩
      | @elt g b n cap sz k p hb => obtain rfl := Option.some.inj hz; exact ⟨_, run b _ hv, by rw [Nat.add_assoc]; exact .elt hb⟩
      | @rp cs b p vs hb hlt hcell hval =>
        obtain rfl := Option.some.inj hz
        refine ⟨_, run b p hv, .rp (fun k => vs (q.offset + k)) hb hlt (fun k c hc => ?_) (fun k c hc => ?_)⟩
        · rw [List.getElem?_drop] at hc; rw [Nat.add_assoc]; exact hcell _ c hc
        · rw [List.getElem?_drop] at hc; exact hval _ c hc
      | _ => cases hz
theorem step_field_one (htb : TOK P tbl) {ty ft : TypeId} {x : Operand} {f off : Nat} {i j : TI} {cs : List AV} {c : AV} (ho : o.op = .field ty x f) (ht : lk tbl ty = some i) (ha : i.agg = true) (he : i.el = none) (hf : i.fs[f]? = some (off, ft)) (hj : lk tbl ft = some j) (hs : j.agg = false) (hx : evA T x = some (.agg cs)) (hc : cs[off]? = some c) :
    StepOK P o T M ⟨c, [], []⟩ :=
  step_read [] fun cx μ T' M' a w h hT hM => by
    have h1 := h.ev (x := x) hT (by simp [ho, Op.operands]) hx
    obtain ⟨fs, hd, hfs⟩ := struct_desc (htb _ _ ht) ha he
    rw [hfs, List.getElem?_map] at hf
    cases hq : fs.toList[f]? with
    | none => rw [hq] at hf; cases hf
    | some q =>
      rw [hq] at hf
      simp only [Option.map_some, Option.some.injEq, Prod.mk.injEq] at hf
      obtain ⟨rfl, rfl⟩ := hf
      have hq2 : fs[f]? = some q := by simpa using hq
      generalize hv : a.eval x = v at h1
      cases h1 with
      | @agg _ vs hl h1 =>
        obtain ⟨u, hu, hr⟩ := VRs.get ⟨hl, h1⟩ hc
        exact ⟨u, by simp [execOp, ho, hv, Instr.field, run_underlying hd, hq2, asAgg, part, run_agg (htb _ _ hj), hs, hu], hr⟩
theorem step_field_agg (htb : TOK P tbl) {ty ft : TypeId} {x : Operand} {f off : Nat} {i j : TI} {cs : List AV} (ho : o.op = .field ty x f) (ht : lk tbl ty = some i) (ha : i.agg = true) (he : i.el = none) (hf : i.fs[f]? = some (off, ft)) (hj : lk tbl ft = some j) (hs : j.agg = true) (hx : evA T x = some (.agg cs)) :
    StepOK P o T M ⟨.agg ((cs.drop off).take j.size), [], []⟩ :=
  step_read [] fun cx μ T' M' a w h hT hM => by
    have h1 := h.ev (x := x) hT (by simp [ho, Op.operands]) hx
    obtain ⟨fs, hd, hfs⟩ := struct_desc (htb _ _ ht) ha he
    rw [hfs, List.getElem?_map] at hf
    cases hq : fs.toList[f]? with
    | none => rw [hq] at hf; cases hf
    | some q =>
      rw [hq] at hf
      simp only [Option.map_some, Option.some.injEq, Prod.mk.injEq] at hf
      obtain ⟨rfl, rfl⟩ := hf
      have hq2 : fs[f]? = some q := by simpa using hq
      generalize hv : a.eval x = v at h1
      cases h1 with
      | @agg _ vs hl h1 =>
        have hsub : VRs (Ht cx μ M') μ w ((cs.drop q.offset).take j.size) ((vs.drop q.offset).take j.size) := (VRs.drop ⟨hl, h1⟩ q.offset).take j.size
        have he : vs.toArray.extract q.offset (q.offset + j.size) = ((vs.drop q.offset).take j.size).toArray := by
          apply Array.toList_inj.1
          simp [List.take_drop, Nat.add_comm]
        exact ⟨.agg ((vs.drop q.offset).take j.size).toArray, by simp only [execOp, ho, hv, Instr.field, Sem.run_bind, run_underlying hd, Result.andThen_ok, hq2, asAgg, part, run_agg (htb _ _ hj), hs, if_true, run_size (htb _ _ hj), Sem.run_pure, he], .agg hsub.1 hsub.2⟩
theorem run_indexSlice {ty e : TypeId} {i j : TI} (htb : TOK P tbl) (ht : lk tbl ty = some i) (hs : i.isS = true) (he : i.el = some e) (hj : lk tbl e = some j) {b off n len cap : Nat} {k : IntKind} (hn : n < len) (w : World) :
    (Instr.indexAt ty (.slice (some ⟨b, off, none⟩) len cap) (.int k (n : Int))).run P w = .ok (.pointer (some ⟨b, off + n * j.size, none⟩)) w := by
  have hd := slice_desc (htb _ _ ht) hs he
  unfold Instr.indexAt
  have h1 : (0 : Int) ≤ (n : Int) ∧ (n : Int) < (len : Int) := by omega
  simp [asIntOf, run_underlying hd, hn, run_size (htb _ _ hj), addr_add]
theorem step_index_rows (htb : TOK P tbl) {ty e : TypeId} {x y : Operand} {i j : TI} {sz n : Nat} {k : IntKind} {q : Int} {rs : List (List D)} {row : List D} (ho : o.op = .indexAddr ty x y) (ht : lk tbl ty = some i) (hs : i.isS = true) (he : i.el = some e) (hj : lk tbl e = some j) (hsz : j.size = sz)
    (hx : evA T x = some (.d (.rows sz rs))) (hy : evA T y = some (.d (.v (.int k q)))) (hq : q = (n : Int)) (hr : rs[n]? = some row) : StepOK P o T M ⟨.rp row, [], []⟩ :=
  step_read [] fun cx μ T' M' a w h hT hM => by
    subst hq
    subst hsz
    have h1 := h.ev (x := x) hT (by simp [ho, Op.operands]) hx
    have h2 := (h.ev (x := y) hT (by simp [ho, Op.operands]) hy).val
    generalize hv : a.eval x = v at h1
    cases h1 with
    | d h1 =>
      cases h1 with
      | nil => simp at hr
      | rows _ _ b off cap vs hne hcap hlen hb hlt hsz2 hcell hone hval =>
        have hn : n < rs.length := (List.getElem?_eq_some_iff.1 hr).1
        refine ⟨.pointer (some ⟨b, off + n * j.size, none⟩), by simp only [execOp, ho, hv, h2, Sem.run_bind, run_indexSlice htb ht hs he hj hn, Result.andThen_ok, Sem.run_pure], .rp (fun jj => vs n jj) hb hlt (fun jj c hc => ?_) (fun jj c hc => hval n row jj c hr hc)⟩
        exact hcell n row jj c hr hc
theorem step_index_own (htb : TOK P tbl) {ty e ety : TypeId} {x y : Operand} {i j : TI} {g sz n : Nat} {k : IntKind} {q : Int} {rs : List (List D)} (ho : o.op = .indexAddr ty x y) (ht : lk tbl ty = some i) (hs : i.isS = true) (he : i.el = some e) (hj : lk tbl e = some j) (hsz : j.size = sz)
    (hx : evA T x = some (.own g)) (hg : M g = some (.arr ety sz rs)) (hy : evA T y = some (.d (.v (.int k q)))) (hq : q = (n : Int)) (hn : n < rs.length) : StepOK P o T M ⟨.elt g sz n 0, [g], []⟩ :=
  step_read [g] fun cx μ T' M' a w h hT hM => by
    subst hq
    subst hsz
    rw [← hM g (by simp)] at hg
    have h1 := h.ev (x := x) hT (by simp [ho, Op.operands]) hx
    have h2 := (h.ev (x := y) hT (by simp [ho, Op.operands]) hy).val
    obtain ⟨u, xs, g1, ⟨g2, g3⟩, g4, g5⟩ := h.ob g _ hg
    generalize hv : a.eval x = v at h1
    cases h1 with
    | @own _ ad len cap hb =>
      rw [g1] at hb
      obtain rfl : u = .slice ad len cap := by simpa using hb
      rcases g3 with ⟨q, q0⟩ | ⟨c, cap', cur, q, _, q2, q3, q4, q5, q6⟩
      · omega
      · simp only [Value.slice.injEq] at q
        obtain ⟨rfl, rfl, rfl⟩ := q
        exact ⟨.pointer (some ⟨c, n * j.size + 0, none⟩), by simp only [execOp, ho, hv, h2, Sem.run_bind, run_indexSlice htb ht hs he hj hn, Result.andThen_ok, Sem.run_pure, Nat.zero_add, Nat.add_zero], .elt g1⟩
/-- An array that is a variable. -/
theorem step_index_arr (htb : TOK P tbl) {ty e : TypeId} {x y : Operand} {i j : TI} {g off n : Nat} {k : IntKind} (ho : o.op = .indexAddr ty x y) (ht : lk tbl ty = some i) (ha : i.agg = true) (he : i.el = some e) (hj : lk tbl e = some j)
    (hx : evA T x = some (.ptr g off)) (hy : evA T y = some (.d (.v (.int k (n : Int))))) (hn : Nat.blt n i.len = true) : StepOK P o T M ⟨.ptr g (off + n * j.size), [], []⟩ :=
  step_read [] fun cx μ T' M' a w h hT hM => by
    have h1 := h.ev (x := x) hT (by simp [ho, Op.operands]) hx
    have h2 := (h.ev (x := y) hT (by simp [ho, Op.operands]) hy).val
    have hd := arr_desc (htb _ _ ht) ha he
    have hlt : n < i.len := Nat.le_of_ble_eq_true hn
    generalize hv : a.eval x = v at h1
    cases h1 with
    | @ptr _ b _ hb =>
      refine ⟨.pointer (some ⟨b, off + n * j.size, none⟩), ?_, .ptr hb⟩
      simp [execOp, ho, hv, h2, Instr.indexAt, asIntOf, run_underlying hd, Instr.sureAddr, hlt, run_size (htb _ _ hj), addr_add]
/-- An array that is a value. -/
theorem step_index_agg (htb : TOK P tbl) {ty e : TypeId} {x y : Operand} {i j : TI} {n : Nat} {k : IntKind} {cs : List AV} (ho : o.op = .index ty x y) (ht : lk tbl ty = some i) (ha : i.agg = true) (he : i.el = some e) (hj : lk tbl e = some j) (hja : j.agg = true)
    (hx : evA T x = some (.agg cs)) (hy : evA T y = some (.d (.v (.int k (n : Int))))) (hn : Nat.blt n i.len = true) : StepOK P o T M ⟨.agg ((cs.drop (n * j.size)).take j.size), [], []⟩ :=
  step_read [] fun cx μ T' M' a w h hT hM => by
    have h1 := h.ev (x := x) hT (by simp [ho, Op.operands]) hx
    have h2 := (h.ev (x := y) hT (by simp [ho, Op.operands]) hy).val
    have hd := arr_desc (htb _ _ ht) ha he
    have hlt : n < i.len := Nat.le_of_ble_eq_true hn
    generalize hv : a.eval x = v at h1
    cases h1 with
    | @agg _ vs hl h1 =>
      have hsub : VRs (Ht cx μ M') μ w ((cs.drop (n * j.size)).take j.size) ((vs.drop (n * j.size)).take j.size) := (VRs.drop ⟨hl, h1⟩ _).take j.size
      have he2 : vs.toArray.extract (n * j.size) (n * j.size + j.size) = ((vs.drop (n * j.size)).take j.size).toArray := by
        apply Array.toList_inj.1
        simp [List.take_drop, Nat.add_comm]
      refine ⟨.agg ((vs.drop (n * j.size)).take j.size).toArray, ?_, .agg hsub.1 hsub.2⟩
      rw [← he2]
      simp [execOp, ho, hv, h2, Instr.index, asIntOf, run_underlying hd, hlt, part, run_agg (htb _ _ hj), hja, run_size (htb _ _ hj)]
theorem step_index_one (htb : TOK P tbl) {ty e : TypeId} {x y : Operand} {i j : TI} {n : Nat} {k : IntKind} {cs : List AV} {c : AV} (ho : o.op = .index ty x y) (ht : lk tbl ty = some i) (ha : i.agg = true) (he : i.el = some e) (hj : lk tbl e = some j) (hja : j.agg = false)
    (hx : evA T x = some (.agg cs)) (hy : evA T y = some (.d (.v (.int k (n : Int))))) (hn : Nat.blt n i.len = true) (hc : cs[n * j.size]? = some c) : StepOK P o T M ⟨c, [], []⟩ :=
  step_read [] fun cx μ T' M' a w h hT hM => by
    have h1 := h.ev (x := x) hT (by simp [ho, Op.operands]) hx
    have h2 := (h.ev (x := y) hT (by simp [ho, Op.operands]) hy).val
    have hd := arr_desc (htb _ _ ht) ha he
    have hlt : n < i.len := Nat.le_of_ble_eq_true hn
    generalize hv : a.eval x = v at h1
    cases h1 with
    | @agg _ vs hl h1 =>
      obtain ⟨u, hu, hr⟩ := VRs.get ⟨hl, h1⟩ hc
      refine ⟨u, ?_, hr⟩
      simp [execOp, ho, hv, h2, Instr.index, asIntOf, run_underlying hd, hlt, part, run_agg (htb _ _ hj), hja, run_size (htb _ _ hj), hu]
theorem run_len {ty : TypeId} {w : World} {x : Operand} {ρ : Operand → Value} {v : Value} {r : Value} (ho : o.op = .call { callee := .builtin .len, args := #[x], argTypes := #[ty] }) (hx : ρ x = v) (hr : (Builtin.len_ #[ty] o.type #[v]).run P w = .ok r w) : (execOp ρ o).run P w = .ok (.value r) w := by
  simp [execOp, ho, resolve, invoke, builtin, hx, hr]
theorem step_len_rows (htb : TOK P tbl) {ty e : TypeId} {x : Operand} {i : TI} {sz : Nat} {rs : List (List D)} (ho : o.op = .call { callee := .builtin .len, args := #[x], argTypes := #[ty] }) (ht : lk tbl ty = some i) (hs : i.isS = true) (he : i.el = some e)
    (hx : evA T x = some (.d (.rows sz rs))) : StepOK P o T M ⟨.d (.v (.int .i64 (rs.length : Int))), [], []⟩ :=
  step_read [] fun cx μ T' M' a w h hT hM => by
    have h1 := h.ev (x := x) hT (by simp [ho, Op.operands, Call.operands]) hx
    have hd := slice_desc (htb _ _ ht) hs he
    generalize hv : a.eval x = v at h1
    cases h1 with
    | d h1 => cases h1 <;> exact ⟨_, run_len ho hv (by simp [Builtin.len_, run_underlying hd, goInt]), .d (.v _)⟩
theorem step_len_nil (htb : TOK P tbl) {ty e : TypeId} {x : Operand} {i : TI} (ho : o.op = .call { callee := .builtin .len, args := #[x], argTypes := #[ty] }) (ht : lk tbl ty = some i) (hs : i.isS = true) (he : i.el = some e)
    (hx : evA T x = some (.d (.v (.slice none 0 0)))) : StepOK P o T M ⟨.d (.v (.int .i64 0)), [], []⟩ :=
  step_read [] fun cx μ T' M' a w h hT hM => by
    have h1 := (h.ev (x := x) hT (by simp [ho, Op.operands, Call.operands]) hx).val
    have hd := slice_desc (htb _ _ ht) hs he
    exact ⟨_, run_len ho h1 (by simp [Builtin.len_, run_underlying hd, goInt]), .d (.v _)⟩
theorem step_len_own (htb : TOK P tbl) {ty e ety : TypeId} {x : Operand} {i : TI} {g sz : Nat} {rs : List (List D)} (ho : o.op = .call { callee := .builtin .len, args := #[x], argTypes := #[ty] }) (ht : lk tbl ty = some i) (hs : i.isS = true) (he : i.el = some e)
    (hx : evA T x = some (.own g)) (hg : M g = some (.arr ety sz rs)) : StepOK P o T M ⟨.d (.v (.int .i64 (rs.length : Int))), [g], []⟩ :=
  step_read [g] fun cx μ T' M' a w h hT hM => by
    rw [← hM g (by simp)] at hg
    have h1 := h.ev (x := x) hT (by simp [ho, Op.operands, Call.operands]) hx
    have hd := slice_desc (htb _ _ ht) hs he
    obtain ⟨u, xs, g1, ⟨g2, g3⟩, g4, g5⟩ := h.ob g _ hg
    generalize hv : a.eval x = v at h1
    cases h1 with
    | @own _ ad len cap hb =>
      rw [g1] at hb
      obtain rfl : u = .slice ad len cap := by simpa using hb
      have hl : len = rs.length := by
        rcases g3 with ⟨q, q0⟩ | ⟨c, cap', cur, q, _, q2, q3, q4, q5, q6⟩
        · simp at q; rw [q.2.1, q0]
        · simp only [Value.slice.injEq] at q; exact q.2.1
      subst hl
      exact ⟨_, run_len ho hv (by simp [Builtin.len_, run_underlying hd, goInt]), .d (.v _)⟩
theorem step_len_str (htb : TOK P tbl) {ty : TypeId} {x : Operand} {s : ByteArray} (ho : o.op = .call { callee := .builtin .len, args := #[x], argTypes := #[ty] }) (hd : P.underlying ty = some .string)
    (hx : evA T x = some (.d (.v (.string s)))) : StepOK P o T M ⟨.d (.v (.int .i64 (s.size : Int))), [], []⟩ :=
  step_read [] fun cx μ T' M' a w h hT hM => by
    have h1 := (h.ev (x := x) hT (by simp [ho, Op.operands, Call.operands]) hx).val
    exact ⟨_, run_len ho h1 (by simp [Builtin.len_, run_underlying hd, goInt]), .d (.v _)⟩
theorem step_min {t1 t2 : TypeId} {x y : Operand} {k : IntKind} {a b : Int} (ho : o.op = .call { callee := .builtin .min, args := #[x, y], argTypes := #[t1, t2] }) (hx : evA T x = some (.d (.v (.int k a)))) (hy : evA T y = some (.d (.v (.int k b)))) :
    StepOK P o T M ⟨.d (.v (.int k (if b < a then b else a))), [], []⟩ :=
  step_read [] fun cx μ T' M' ac w h hT hM => by
    have h1 := (h.ev (x := x) hT (by simp [ho, Op.operands, Call.operands]) hx).val
    have h2 := (h.ev (x := y) hT (by simp [ho, Op.operands, Call.operands]) hy).val
    exact ⟨_, by simp [execOp, ho, resolve, invoke, builtin, h1, h2, Builtin.min_, Builtin.min2], .d (.v _)⟩
theorem step_max {t1 t2 : TypeId} {x y : Operand} {k : IntKind} {a b : Int} (ho : o.op = .call { callee := .builtin .max, args := #[x, y], argTypes := #[t1, t2] }) (hx : evA T x = some (.d (.v (.int k a)))) (hy : evA T y = some (.d (.v (.int k b)))) :
    StepOK P o T M ⟨.d (.v (.int k (if b > a then b else a))), [], []⟩ :=
  step_read [] fun cx μ T' M' ac w h hT hM => by
    have h1 := (h.ev (x := x) hT (by simp [ho, Op.operands, Call.operands]) hx).val
    have h2 := (h.ev (x := y) hT (by simp [ho, Op.operands, Call.operands]) hy).val
    exact ⟨_, by simp [execOp, ho, resolve, invoke, builtin, h1, h2, Builtin.max_, Builtin.max2], .d (.v _)⟩
end
end Go.Am
/- Nothing is claimed here: the operations that make or write memory, beside their abstract view. -/
namespace Go.Am
set_option linter.unusedSimpArgs false
set_option linter.unusedVariables false
set_option linter.unnecessarySimpa false
set_option linter.unusedSectionVars false
set_option maxRecDepth 100000
open Go Go.RowKit Go.Proofs.Grow
section
variable {P : Program} {tbl : List (Nat × TI)} {o : Oper} {T : Nat → Option AV} {M : Nat → Option AO}
theorem chg_alloc (w : World) (x : Obj) : Chg (fun _ => False) w (w.alloc x) := ⟨rfl, rfl, rfl, by simp, fun k hk _ => heap_alloc_old w x hk⟩
theorem InvM.newBox {cx : Cx} {μ : Nat → Option Value} {T' : Nat → Option AV} {M' : Nat → Option AO} {a : Act} {w : World} (h : InvM cx μ T' M' a w) {g : Nat} (hg : M' g = none) (ty : TypeId) {cs : List AV} {vs : List Value} (hv : VRs (Ht cx μ M') μ w cs vs) :
    InvM cx (upμ μ g (.pointer (some ⟨w.heap.size, 0, none⟩))) T' (upM M' [(g, .box ty cs)]) a (w.alloc (.cells vs.toArray ty)) := by
  refine h.new hg (chg_alloc w _) rfl (fun b hb => ?_) fun H' hk hH => ⟨w.heap.size, vs, upμ_self _ _, heap_alloc_new w _, hv.grow (upμ_old (h.free g hg)) hk⟩
  obtain rfl : w.heap.size = b := by simpa [blkOf] using hb
  exact ⟨Nat.le_refl _, by simp⟩
theorem zero_vrs (H : Nat → Prop) (μ : Nat → Option Value) (w : World) (zs : List Value) : VRs H μ w (zs.map fun z => .d (.v z)) zs :=
  ⟨by simp, fun i c v hc hv => by
    rw [List.getElem?_map, hv] at hc
    obtain rfl : AV.d (.v v) = c := by simpa using hc
    exact .d (.v v)⟩
theorem mem_self {g : Nat} {x : AO} : ∀ p ∈ [(g, x)], p.1 ∈ [g] := by
  intro p hp
  obtain rfl : p = (g, x) := by simpa using hp
  simp
theorem step_alloc (htb : TOK P tbl) (g : Nat) {ty : TypeId} {i : TI} (ho : o.op = .alloc ty) (ht : lk tbl ty = some i) (hg : M g = none) : StepOK P o T M ⟨.ptr g 0, [g], [(g, .box ty (i.zero.map fun z => .d (.v z)))]⟩ :=
  step_any mem_self fun cx μ T' M' a w h hT hM => by
    rw [← hM g (by simp)] at hg
    obtain ⟨z, hz, hc⟩ := run_zero (w := w) (htb _ _ ht)
    refine ⟨.pointer (some ⟨w.heap.size, 0, none⟩), w.alloc (.cells i.zero.toArray ty), _, ?_, h.newBox hg ty (zero_vrs _ μ w i.zero), .ptr (upμ_self _ _)⟩
    simp [execOp, ho, Instr.alloc, hz, newVar, newRow, hc]
theorem step_box (g : Nat) {ty : TypeId} {x : Operand} {y : AV} (ho : o.op = .box ty x) (hx : evA T x = some y) (hf : flat y = true) (hg : M g = none) : StepOK P o T M ⟨.ptr g 0, [g], [(g, .box ty (cellsOf y))]⟩ :=
  step_any mem_self fun cx μ T' M' a w h hT hM => by
    rw [← hM g (by simp)] at hg
    obtain ⟨vs, h1, h2, h3⟩ := flat_cells (h.ev (x := x) hT (by simp [ho, Op.operands]) hx) hf
    refine ⟨.pointer (some ⟨w.heap.size, 0, none⟩), w.alloc (.cells vs.toArray ty), _, ?_, h.newBox hg ty h2, .ptr (upμ_self _ _)⟩
    simp [execOp, ho, Instr.box, newVar, newRow, h1]
theorem run_storeOp {ρ : Operand → Value} {ty : TypeId} {x y : Operand} {ad : Addr} {v : Value} {w w2 : World} (ho : o.op = .store ty x y) (hx : ρ x = .pointer (some ad)) (hy : ρ y = v) (hr : (storeVar ty ad v).run P w = .ok () w2) : (execOp ρ o).run P w = .ok .skip w2 := by
  simp [execOp, ho, hx, hy, Instr.storeAt, Instr.sureAddr, hr]
theorem run_storeAll {b off : Nat} {ty bty : TypeId} {i : TI} {cur vs : List Value} {v : Value} {w : World} (ht : tiOf P ty = some i) (hc : w.heap[b]? = some (.cells cur.toArray bty (0, 0))) (hv : v.cells = vs.toArray) (h1 : ∀ u ∈ vs, u.oneCell' = true) (hl : vs.length = i.size) (hle : off + vs.length ≤ cur.length) :
    (storeVar ty ⟨b, off, none⟩ v).run P w = .ok () (w.setRow b (cur.take off ++ vs ++ cur.drop (off + vs.length)).toArray) := by
  have := run_storeCells_at P b off bty vs 0 cur.toArray w hc (by simpa using hle) h1
  simp only [Nat.add_zero] at this
  unfold storeVar
  rw [Sem.run_bind, run_size ht]
  simp only [Result.andThen_ok, hv]
  rw [if_neg (by simp [hl])]
  exact this
theorem chg_setRow (w : World) (b : Nat) (c : Array Value) : Chg (fun k => k = b) w (w.setRow b c) :=
  ⟨rfl, rfl, rfl, by simp [World.setRow], fun k _ hk => setRow_other w b k c hk⟩
/-- A variable of the call's own is written. -/
theorem step_store (htb : TOK P tbl) {ty bty : TypeId} {x y : Operand} {g off : Nat} {cs : List AV} {z : AV} {i : TI} (ho : o.op = .store ty x y) (ht : lk tbl ty = some i) (hx : evA T x = some (.ptr g off)) (hy : evA T y = some z) (hf : flat z = true) (hg : M g = some (.box bty cs)) (hl : (cellsOf z).length = i.size)
    (hle : Nat.ble (off + i.size) cs.length = true) : StepOK P o T M ⟨.d (.v undef), [g], [(g, .box bty (cs.take off ++ cellsOf z ++ cs.drop (off + i.size)))]⟩ :=
  step_skip mem_self fun cx μ T' M' a w h hT hM => by
    rw [← hM g (by simp)] at hg
    obtain ⟨b, vs, h1, h2, h3, h4⟩ := h.box hg (h.ev (x := x) hT (by simp [ho, Op.operands]) hx)
    obtain ⟨us, k1, k2, k3⟩ := flat_cells (h.ev (x := y) hT (by simp [ho, Op.operands]) hy) hf
    have hul : us.length = i.size := by rw [← k2.1]; exact hl
    have hle := Nat.le_of_ble_eq_true hle
    have hvl : vs.length = cs.length := h4.1.symm
    refine ⟨w.setRow b (vs.take off ++ us ++ vs.drop (off + i.size)).toArray, μ, run_storeOp ho h1 rfl (by have := run_storeAll (off := off) (htb _ _ ht) h3 k1 k3 hul (by omega); rwa [hul] at this), ?_⟩
    refine h.write hg rfl rfl h2 rfl (chg_setRow w b _) fun H' hk hH => ⟨b, vs.take off ++ us ++ vs.drop (off + i.size), h2, setRow_heap w b _ _ _ _ h3, ?_⟩
    exact (((h4.take off).append k2).append (h4.drop (off + i.size))).grow (fun _ _ hk => hk) hk
def unD : AV → Option D
  | .d c => some c
  | _ => none
theorem map_d {cs : List AV} {ds : List D} (h : cs.map unD = ds.map some) : cs = ds.map AV.d := by
  induction cs generalizing ds with
  | nil => cases ds with
    | nil => rfl
    | cons d r => simp at h
  | cons c cs ih =>
    cases ds with
    | nil => simp at h
    | cons d r =>
      simp only [List.map_cons, List.cons.injEq] at h
      rw [List.map_cons, ← ih h.2]
      cases c <;> simp [unD] at h
      rw [h.1]
theorem flat_set {sz : Nat} : ∀ {rs : List (List D)} {n : Nat} {row new : List D}, (∀ r ∈ rs, r.length = sz) → rs[n]? = some row → new.length = sz → (rs.set n new).flatten = rs.flatten.take (n * sz) ++ new ++ rs.flatten.drop (n * sz + sz)
  | [], n, row, new, _, h, _ => by simp at h
  | x :: rs, n, row, new, hs, h, hn => by
    have hx : x.length = sz := hs x (by simp)
    cases n with
    | zero =>
      simp only [List.set_cons_zero, List.flatten_cons, Nat.zero_mul, List.take_zero, List.nil_append, Nat.zero_add]
      rw [List.drop_append_of_le_length (by omega), List.drop_of_length_le (by omega), List.nil_append]
    | succ n =>
      simp only [List.set_cons_succ, List.flatten_cons]
      rw [flat_set (fun r hr => hs r (by simp [hr])) (by simpa using h) hn]
      rw [List.take_append, List.drop_append]
      rw [List.take_of_length_le (l := x) (by rw [hx, Nat.add_mul]; omega), List.drop_of_length_le (l := x) (by rw [hx, Nat.add_mul]; omega)]
      rw [show (n + 1) * sz - x.length = n * sz by rw [hx, Nat.add_mul]; omega, show (n + 1) * sz + sz - x.length = n * sz + sz by rw [hx, Nat.add_mul]; omega]
      simp
/-- An element of an own slice is written, or some of its cells. -/
theorem step_store_elt (htb : TOK P tbl) {ty ety : TypeId} {x y : Operand} {g sz n off : Nat} {rs : List (List D)} {row ds : List D} {z : AV} {i : TI} (ho : o.op = .store ty x y) (ht : lk tbl ty = some i) (hx : evA T x = some (.elt g sz n off)) (hy : evA T y = some z) (hf : flat z = true) (hd : (cellsOf z).map unD = ds.map some)
    (hg : M g = some (.arr ety sz rs)) (hr : rs[n]? = some row) (hl : ds.length = i.size) (hle : Nat.ble (off + i.size) row.length = true) : StepOK P o T M ⟨.d (.v undef), [g], [(g, .arr ety sz (rs.set n (row.take off ++ ds ++ row.drop (off + i.size))))]⟩ :=
  step_skip mem_self fun cx μ T' M' a w h hT hM => by
    rw [← hM g (by simp)] at hg
    obtain ⟨b, cap, cur, xs, h1, h2, h3, h4, h5, h6, h7, h8, h9, h10, h11⟩ := h.elt hg (h.ev (x := x) hT (by simp [ho, Op.operands]) hx)
    obtain ⟨us, k1, k2, k3⟩ := flat_cells (h.ev (x := y) hT (by simp [ho, Op.operands]) hy) hf
    have hle := Nat.le_of_ble_eq_true hle
    have hrl : row.length = sz := h9 row (List.mem_of_getElem? hr)
    have hn : n < rs.length := (List.getElem?_eq_some_iff.1 hr).1
    rw [map_d hd] at k2
    have k2 := VRs.vds k2
    have hul : us.length = i.size := by rw [← k2.1]; exact hl
    have hns : n * sz + sz ≤ rs.length * sz := by
      have : (n + 1) * sz ≤ rs.length * sz := Nat.mul_le_mul_right _ hn
      rw [Nat.add_mul] at this; omega
    have hcs : rs.length * sz ≤ cap * sz := Nat.mul_le_mul_right _ h4
    have hcl : cur.toList.length = cap * sz := by simpa using h6
    have h3' : w.heap[b]? = some (.cells cur.toList.toArray ety (0, 0)) := by simpa using h3
    have hnl : (row.take off ++ ds ++ row.drop (off + i.size)).length = sz := by simp; omega
    refine ⟨w.setRow b (cur.toList.take (n * sz + off) ++ us ++ cur.toList.drop (n * sz + off + i.size)).toArray, μ, run_storeOp ho h1 rfl (by have := run_storeAll (off := n * sz + off) (htb _ _ ht) h3' k1 k3 hul (by omega); rwa [hul] at this), ?_⟩
    refine h.write hg rfl rfl h2 rfl (chg_setRow w b _) fun H' hk hH => ?_
    have hflat := flat_set h9 hr hnl
    have hfl : rs.flatten.length = rs.length * sz := flat_len h9
    let ys : List Value := xs.take (n * sz + off) ++ us ++ xs.drop (n * sz + off + i.size)
    have hxl : xs.length = rs.length * sz := h8
    have hyl : ys.length = rs.length * sz := by simp only [ys, List.length_append, List.length_take, List.length_drop]; omega
    refine ⟨.slice (some ⟨b, 0, none⟩) rs.length cap, ys, h2, ⟨by simpa using hyl, .inr ⟨b, cap, _, by simp, Nat.zero_le _, setRow_heap w b _ _ _ _ h3, by simpa using h4, h5, ?_, ?_⟩⟩, ?_, ?_, ?_⟩
    · simp only [List.size_toArray, List.length_append, List.length_take, List.length_drop, hcl]; omega
    · simp only [List.length_set, ys]
      rw [← h7]
      rw [List.take_append, List.take_append, List.take_take, List.take_take]
      simp only [List.length_append, List.length_take, hcl]
      rw [Nat.min_eq_right (by omega : n * sz + off ≤ rs.length * sz), Nat.min_eq_left (by omega : n * sz + off ≤ rs.length * sz)]
      rw [List.take_of_length_le (l := us) (by omega)]
      congr 1
      rw [List.take_drop]
      congr 2
      omega
    · intro r hr2
      rcases List.mem_or_eq_of_mem_set hr2 with q | q
      · exact h9 r q
      · rw [q]; exact hnl
    · have hfe : (rs.set n (row.take off ++ ds ++ row.drop (off + i.size))).flatten = rs.flatten.take (n * sz + off) ++ ds ++ rs.flatten.drop (n * sz + off + i.size) := by
        rw [hflat]
        have hrow : row = (rs.flatten.drop (n * sz)).take sz := by
          refine List.ext_getElem? fun j => ?_
          rw [List.getElem?_take, List.getElem?_drop]
          by_cases hj : j < sz
          · rw [if_pos hj]
            have hjr : row[j]? = some (row[j]'(by omega)) := by simp [show j < row.length by omega]
            rw [flat_get h9 hr hjr, hjr]
          · rw [if_neg hj, List.getElem?_eq_none (by omega)]
        have e1 : row.take off = (rs.flatten.drop (n * sz)).take off := by rw [hrow, List.take_take, Nat.min_eq_left (by omega)]
        have e2 : row.drop (off + i.size) = (rs.flatten.drop (n * sz + off + i.size)).take (sz - (off + i.size)) := by
          rw [hrow, List.drop_take, List.drop_drop]
          congr 2
          omega
        rw [e1, e2]
        have e3 : rs.flatten.take (n * sz + off) = rs.flatten.take (n * sz) ++ (rs.flatten.drop (n * sz)).take off := by rw [List.take_add]
        have e4 : rs.flatten.drop (n * sz + off + i.size) = (rs.flatten.drop (n * sz + off + i.size)).take (sz - (off + i.size)) ++ rs.flatten.drop (n * sz + sz) := by
          conv => lhs; rw [← List.take_append_drop (sz - (off + i.size)) (rs.flatten.drop (n * sz + off + i.size))]
          rw [List.drop_drop]
          congr 2
          omega
        rw [e3]
        generalize rs.flatten.drop (n * sz + off + i.size) = X at *
        conv => rhs; rw [e4]
        simp
      rw [hfe]
      have hold := VDs.vrs (μ := μ) h10
      have hnew := VDs.vrs (μ := μ) k2
      refine VRs.vds (μ := μ) ?_
      simp only [List.map_append, List.map_take, List.map_drop, ys]
      exact (((hold.take _).append hnew).append (hold.drop _)).grow (fun _ _ hk => hk) hk
    · intro u hu
      simp only [ys, List.mem_append] at hu
      rcases hu with (hu | hu) | hu
      · exact h11 u (List.mem_of_mem_take hu)
      · exact k3 u hu
      · exact h11 u (List.mem_of_mem_drop hu)
end
end Go.Am
/- Nothing is claimed here: contracts of functions in the abstract view, how a call meets one, and how one is shown from the function's code. -/
namespace Go.Am
set_option linter.unusedSimpArgs false
set_option linter.unusedVariables false
set_option linter.unnecessarySimpa false
set_option linter.unusedSectionVars false
set_option maxRecDepth 100000
open Go Go.RowKit Go.Proofs.Grow
/-- What a value may be seen as: an own slice as data, the nil slice as no elements. -/
inductive Cv (M : Nat → Option AO) : AV → AV → Prop
  | refl (x : AV) : Cv M x x
  | own {g ty sz : Nat} {rs : List (List D)} (h : M g = some (.arr ty sz rs)) : Cv M (.own g) (.d (.rows sz rs))
  | nil {sz : Nat} : Cv M (.d (.v (.slice none 0 0))) (.d (.rows sz []))
  | agg {cs ds : List AV} (hl : cs.length = ds.length) (h : ∀ (i : Nat) (c d : AV), cs[i]? = some c → ds[i]? = some d → Cv M c d) : Cv M (.agg cs) (.agg ds)
def Cvs (M : Nat → Option AO) (cs ds : List AV) : Prop := cs.length = ds.length ∧ ∀ (i : Nat) (c d : AV), cs[i]? = some c → ds[i]? = some d → Cv M c d
theorem Cvs.nil {M : Nat → Option AO} : Cvs M [] [] := ⟨rfl, fun i c d hc => by simp at hc⟩
theorem Cvs.cons {M : Nat → Option AO} {c d : AV} {cs ds : List AV} (h : Cv M c d) (hs : Cvs M cs ds) : Cvs M (c :: cs) (d :: ds) :=
  ⟨by simp [hs.1], fun i x y hx hy => by
    cases i with
    | zero => obtain rfl : c = x := by simpa using hx
              obtain rfl : d = y := by simpa using hy
              exact h
    | succ i => exact hs.2 i x y (by simpa using hx) (by simpa using hy)⟩
theorem Cv.aggs {M : Nat → Option AO} {cs ds : List AV} (h : Cvs M cs ds) : Cv M (.agg cs) (.agg ds) := .agg h.1 h.2
mutual
def AV.idl : AV → List Nat
  | .d _ => []
  | .rp _ => []
  | .ptr x _ => [x]
  | .elt x _ _ _ => [x]
  | .own x => [x]
  | .sl x _ _ _ _ => [x]
  | .agg cs => AV.idls cs
  | .tup cs => AV.idls cs
  | .clo _ cs => AV.idls cs
def AV.idls : List AV → List Nat
  | [] => []
  | c :: r => AV.idl c ++ AV.idls r
end
theorem idls_get {cs : List AV} {i : Nat} {c : AV} (h : cs[i]? = some c) : ∀ g ∈ c.idl, g ∈ AV.idls cs := by
  induction cs generalizing i with
  | nil => simp at h
  | cons x r ih =>
    intro g hg
    simp only [AV.idls, List.mem_append]
    cases i with
    | zero => obtain rfl : x = c := by simpa using h
              exact .inl hg
    | succ i => exact .inr (ih (by simpa using h) g hg)
theorem Cv.local {M M' : Nat → Option AO} {x y : AV} (h : Cv M x y) : (∀ g ∈ x.idl, M' g = M g) → Cv M' x y := by
  induction h with
  | refl x => intro _; exact .refl x
  | own h => intro hM; exact .own (by rw [hM _ (by simp [AV.idl])]; exact h)
  | nil => intro _; exact .nil
  | agg hl _ ih => intro hM; exact .agg hl fun i c d hc hd => ih i c d hc hd fun g hg => hM g (by simp only [AV.idl]; exact idls_get hc g hg)
theorem Cvs.local {M M' : Nat → Option AO} {cs ds : List AV} (h : Cvs M cs ds) (hM : ∀ g ∈ AV.idls cs, M' g = M g) : Cvs M' cs ds :=
  ⟨h.1, fun i c d hc hd => (h.2 i c d hc hd).local fun g hg => hM g (idls_get hc g hg)⟩
mutual
def AV.noRows : AV → Bool
  | .d (.v _) => true
  | .d (.rows _ _) => false
  | .rp _ => false
  | .ptr _ _ => true
  | .elt _ _ _ _ => true
  | .own _ => true
  | .sl _ _ _ _ _ => true
  | .agg cs => AV.noRowss cs
  | .tup cs => AV.noRowss cs
  | .clo _ cs => AV.noRowss cs
def AV.noRowss : List AV → Bool
  | [] => true
  | c :: r => AV.noRows c && AV.noRowss r
end
theorem noRowss_get {cs : List AV} (h : AV.noRowss cs = true) {i : Nat} {c : AV} (hc : cs[i]? = some c) : c.noRows = true := by
  induction cs generalizing i with
  | nil => simp at hc
  | cons x r ih =>
    simp only [AV.noRowss, Bool.and_eq_true] at h
    cases i with
    | zero => obtain rfl : x = c := by simpa using hc
              exact h.1
    | succ i => exact ih h.2 (by simpa using hc)
theorem VR.anyH {H H' : Nat → Prop} {μ : Nat → Option Value} {w : World} {x : AV} {v : Value} (h : VR H μ w x v) : x.noRows = true → VR H' μ w x v := by
  induction h with
  | d h => intro hn; cases h with
    | v => exact .d (.v _)
    | nil => cases hn
    | rows => cases hn
  | ptr h => intro _; exact .ptr h
  | elt h => intro _; exact .elt h
  | own h => intro _; exact .own h
  | sl h hk hn hc ha => intro _; exact .sl h hk hn hc ha
  | rp => intro hn; cases hn
  | agg hl _ ih => intro hn; exact .agg hl fun i c v hc hv => ih i c v hc hv (noRowss_get (by simpa [AV.noRows] using hn) hc)
  | tup hl _ ih => intro hn; exact .tup hl fun i c v hc hv => ih i c v hc hv (noRowss_get (by simpa [AV.noRows] using hn) hc)
  | clo hl _ ih => intro hn; exact .clo hl fun i c v hc hv => ih i c v hc hv (noRowss_get (by simpa [AV.noRows] using hn) hc)
def AO.noRows : AO → Bool
  | .box _ cs => AV.noRowss cs
  | .arr _ _ _ => false
  | .buf _ _ _ _ => false
  | .dead => true
def AO.ok (g : Nat → Bool) : AO → Bool
  | .box _ cs => AV.oks g cs
  | _ => true
def keyIn (L : List (Nat × AO)) (g : Nat) : Bool := match lk L g with
  | some _ => true
  | none => false
theorem keyIn_none {L : List (Nat × AO)} {g : Nat} : keyIn L g = false ↔ lk L g = none := by
  unfold keyIn; cases lk L g <;> simp
def argT : Nat → List AV → List (Nat × AV)
  | _, [] => []
  | k, x :: r => (k, x) :: argT (k + 1) r
theorem argT_lk : ∀ {l : List AV} {k t : Nat} {x : AV}, lk (argT k l) t = some x → k ≤ t ∧ l[t - k]? = some x
  | [], k, t, x, h => by simp [argT, lk] at h
  | y :: r, k, t, x, h => by
    simp only [argT, lk] at h
    split at h
    · rename_i hb
      have := Nat.eq_of_beq_eq_true hb
      subst this
      exact ⟨Nat.le_refl _, by simpa using h⟩
    · rename_i hb
      obtain ⟨h1, h2⟩ := argT_lk h
      refine ⟨by omega, ?_⟩
      have : t - k = (t - (k + 1)) + 1 := by omega
      rw [this]; simpa using h2
/-- A contract: from arguments and objects of such views the function returns a value of such a view, and leaves the objects so. -/
def FnM (P : Program) (f : FuncId) (Mi : List (Nat × AO)) (args : List AV) (res : AV) (Mo : List (Nat × AO)) : Prop :=
  ∀ (H0 : Nat → Prop) (μ : Nat → Option Value) (w : World) (vs : List Value), vs.length = args.length → InvM ⟨w, Hot μ (lk Mi), H0, vs.length, μ⟩ μ (lk (argT 0 args)) (lk Mi) ⟨vs.toArray, []⟩ w →
    Calls P f vs.toArray w fun e w' => ∃ v μ', e = .returned v ∧ InvM ⟨w, Hot μ (lk Mi), H0, 1, μ⟩ μ' (lk [(0, res)]) (lk Mo) ⟨#[v], []⟩ w'
def SubM (M : Nat → Option AO) : List (Nat × AO) → Prop
  | [] => True
  | p :: r => M p.1 = some p.2 ∧ SubM M r
theorem SubM_lk {M : Nat → Option AO} : ∀ {L : List (Nat × AO)}, SubM M L → ∀ g o, lk L g = some o → M g = some o
  | [], _, g, o, h => by simp [lk] at h
  | p :: r, hs, g, o, h => by
    simp only [lk] at h
    split at h
    · rename_i hb
      have := Nat.eq_of_beq_eq_true hb
      rw [← this, ← Option.some.inj h]; exact hs.1
    · exact SubM_lk hs.2 g o h
theorem SubM_congr {M M' : Nat → Option AO} : ∀ {L : List (Nat × AO)}, SubM M L → (∀ p ∈ L, M' p.1 = M p.1) → SubM M' L
  | [], _, _ => trivial
  | p :: r, hs, h => ⟨by rw [h p (by simp)]; exact hs.1, SubM_congr hs.2 fun q hq => h q (by simp [hq])⟩
def keysIn (L K : List (Nat × AO)) : Bool := L.all fun p => keyIn K p.1
theorem keysIn_spec {L K : List (Nat × AO)} (h : keysIn L K = true) {g : Nat} (hg : keyIn L g = true) : keyIn K g = true := by
  unfold keyIn at hg
  split at hg
  · rename_i o ho
    have hm : g ∈ L.map (·.1) := lk_mem (by rw [ho]; rfl)
    obtain ⟨p, hp, rfl⟩ := List.mem_map.1 hm
    exact List.all_eq_true.1 h p hp
  · cases hg
def freshIn (M : Nat → Option AO) (Mi : List (Nat × AO)) : List (Nat × AO) → Bool
  | [] => true
  | p :: r => (match lk Mi p.1, M p.1 with
    | some _, _ => true
    | none, none => true
    | none, some _ => false) && freshIn M Mi r
theorem freshIn_spec {M : Nat → Option AO} {Mi : List (Nat × AO)} : ∀ {L : List (Nat × AO)}, freshIn M Mi L = true → ∀ g, keyIn L g = true → keyIn Mi g = false → M g = none
  | [], _, g, h, _ => by simp [keyIn, lk] at h
  | p :: r, hf, g, h, hi => by
    simp only [freshIn, Bool.and_eq_true] at hf
    by_cases e : p.1 = g
    · subst e
      have h1 := hf.1
      rw [keyIn_none] at hi
      rw [hi] at h1
      cases hm : M p.1 with
      | none => rfl
      | some q => rw [hm] at h1; cases h1
    · refine freshIn_spec hf.2 g ?_ hi
      unfold keyIn at h ⊢
      simp only [lk] at h
      have hb : Nat.beq p.1 g = false := by
        cases hb : Nat.beq p.1 g
        · rfl
        · exact absurd (Nat.eq_of_beq_eq_true hb) e
      rw [hb] at h
      exact h
theorem freshIn_congr {M M' : Nat → Option AO} {Mi : List (Nat × AO)} : ∀ {L : List (Nat × AO)}, freshIn M Mi L = true → (∀ p ∈ L, M' p.1 = M p.1) → freshIn M' Mi L = true
  | [], _, _ => rfl
  | p :: r, hf, h => by
    simp only [freshIn, Bool.and_eq_true] at hf ⊢
    exact ⟨by rw [h p (by simp)]; exact hf.1, freshIn_congr hf.2 fun q hq => h q (by simp [hq])⟩
theorem OR.mono' {H H' : Nat → Prop} {μ μ' : Nat → Option Value} {w w2 : World} {g : Nat} {o : AO} (h : OR H μ w g o) (k : Nat → Bool) (hok : o.ok k = true) (hg : ∀ u, μ g = some u → μ' g = some u) (hμ : ∀ j u, k j = true → μ j = some u → μ' j = some u) (hk : Keeps H H' w w2) (hb : o.live = true → ∀ v b, μ g = some v → blkOf v = some b → w2.heap[b]? = w.heap[b]?) : OR H' μ' w2 g o := by
  cases o with
  | dead => trivial
  | box ty cs =>
    obtain ⟨b, vs, h1, h2, h3⟩ := h
    exact ⟨b, vs, hg _ h1, by rw [hb rfl _ b h1 rfl]; exact h2, h3.mono k hok hμ hk⟩
  | arr ty sz rs =>
    obtain ⟨v, xs, h1, h2, h3, h4, h5⟩ := h
    exact ⟨v, xs, hg _ h1, ownsRow_at h2 (fun b hv => hb rfl v b h1 hv), h3, h4.mono hk, h5⟩
  | buf ty sz cap rs =>
    obtain ⟨ad, m, xs, h1, h2, h3, h4, h5, h6, h7, h8, h9⟩ := h
    refine ⟨ad, m, xs, hg _ h1, h2, h3, h4, h5, fun a ha => ?_, h7, h8.mono hk, h9⟩
    obtain ⟨b, cur, rfl, q1, q2, q3⟩ := h6 a ha
    exact ⟨b, cur, rfl, by rw [hb rfl _ b h1 (by subst ha; rfl)]; exact q1, q2, q3⟩
theorem OR.anyH {H H' : Nat → Prop} {μ : Nat → Option Value} {w : World} {g : Nat} {o : AO} (h : OR H μ w g o) (hn : o.noRows = true ∨ ∃ ty sz rs, o = .arr ty sz rs ∧ (∀ r ∈ rs, ∀ c ∈ r, (AV.d c).noRows = true)) : OR H' μ w g o := by
  cases o with
  | dead => trivial
  | box ty cs =>
    obtain ⟨b, vs, h1, h2, h3⟩ := h
    rcases hn with hn | ⟨_, _, _, e, _⟩
    · exact ⟨b, vs, h1, h2, h3.1, fun i c v hc hv => (h3.2 i c v hc hv).anyH (noRowss_get (by simpa [AO.noRows] using hn) hc)⟩
    · cases e
  | arr ty sz rs =>
    obtain ⟨v, xs, h1, h2, h3, h4, h5⟩ := h
    rcases hn with hn | ⟨_, _, _, e, hr⟩
    · cases hn
    · cases e
      refine ⟨v, xs, h1, h2, h3, ⟨h4.1, fun i c v hc hv => ?_⟩, h5⟩
      have hcm : (AV.d c).noRows = true := by
        obtain ⟨r, hr1, hr2⟩ := List.mem_flatten.1 (List.mem_of_getElem? hc)
        exact hr r hr1 c hr2
      have := VR.anyH (H' := H') (μ := μ) (VR.d (h4.2 i c v hc hv)) hcm
      cases this with | d h => exact h
  | buf ty sz cap rs =>
    rcases hn with hn | ⟨_, _, _, e, hr⟩
    · cases hn
    · cases e
def resK (μ : Nat → Option Value) (L : List (Nat × AO)) : Nat → Option Value := fun g => if keyIn L g then μ g else none
theorem resK_some {μ : Nat → Option Value} {L : List (Nat × AO)} {g : Nat} {v : Value} (h : resK μ L g = some v) : μ g = some v := by
  unfold resK at h
  by_cases e : keyIn L g = true
  · rwa [if_pos e] at h
  · rw [if_neg e] at h; cases h
theorem lk_pair {α : Type} {L : List (Nat × α)} {g : Nat} {o : α} (h : lk L g = some o) : ∃ p ∈ L, p.2 = o := by
  induction L with
  | nil => simp [lk] at h
  | cons p r ih =>
    simp only [lk] at h
    split at h
    · exact ⟨p, by simp, Option.some.inj h⟩
    · obtain ⟨q, hq, e⟩ := ih h
      exact ⟨q, by simp [hq], e⟩
theorem Hot_resK {μ : Nat → Option Value} {L : List (Nat × AO)} {b : Nat} : Hot (resK μ L) (lk L) b ↔ Hot μ (lk L) b := by
  constructor
  · rintro ⟨g, o, v, h1, h2, h3, h4⟩
    unfold resK at h3
    split at h3
    · exact ⟨g, o, v, h1, h2, h3, h4⟩
    · cases h3
  · rintro ⟨g, o, v, h1, h2, h3, h4⟩
    refine ⟨g, o, v, h1, h2, ?_, h4⟩
    unfold resK keyIn
    rw [h1]; exact h3
section
variable {cx : Cx} {μ : Nat → Option Value} {T : Nat → Option AV} {M : Nat → Option AO} {a : Act} {w : World}
theorem InvM.hot_h0 (h : InvM cx μ T M a w) {b : Nat} (hb : Hot μ M b) : ¬ cx.H0 b := by
  intro h0
  obtain ⟨h1, h2⟩ := h.hs b h0
  rcases (h.lo b hb).2 with q | q
  · exact h2 q
  · omega
theorem InvM.ht_lt (h : InvM cx μ T M a w) {b : Nat} (hb : Ht cx μ M b) : b < w.heap.size := by
  rcases hb with hb | hb
  · exact Nat.lt_of_lt_of_le (h.hs b hb).1 h.fr.size
  · exact (h.lo b hb).1
theorem hot_sub {Mi : List (Nat × AO)} (hMi : ∀ g o, lk Mi g = some o → M g = some o) {b : Nat} (hb : Hot μ (lk Mi) b) : Hot μ M b := by
  obtain ⟨g, o, v, h1, h2, h3, h4⟩ := hb
  exact ⟨g, o, v, hMi g o h1, h2, h3, h4⟩
/-- The callee's beginning. -/
theorem InvM.enter (h : InvM cx μ T M a w) {Mi : List (Nat × AO)} (hMi : ∀ g o, lk Mi g = some o → M g = some o) {ys : List AV} {vs : List Value} (H0 : Nat → Prop) (h1 : ∀ b, H0 b → Ht cx μ M b) (h2 : ∀ b, H0 b → ¬ Hot μ (lk Mi) b)
    (hv : VRs (fun b => H0 b ∨ Hot μ (lk Mi) b) μ w ys vs) (hoy : AV.oks (keyIn Mi) ys = true) (hom : (Mi.all fun p => p.2.ok (keyIn Mi)) = true) : InvM ⟨w, Hot (resK μ Mi) (lk Mi), H0, vs.length, resK μ Mi⟩ (resK μ Mi) (lk (argT 0 ys)) (lk Mi) ⟨vs.toArray, []⟩ w := by
  have hH : Ht ⟨w, Hot (resK μ Mi) (lk Mi), H0, vs.length, resK μ Mi⟩ (resK μ Mi) (lk Mi) = fun b => H0 b ∨ Hot μ (lk Mi) b := by
    funext b; simp only [Ht, Hot_resK]
  have hμ : ∀ j u, keyIn Mi j = true → μ j = some u → resK μ Mi j = some u := fun j u hj hu => by unfold resK; rw [if_pos hj]; exact hu
  refine ⟨fun t x ht => ?_, fun g o hg => ?_, fun g g' o o' v v' b q1 q2 q3 q4 q5 q6 q7 q8 => ?_, fun b hb => ?_, Chg.refl _ _, fun g hg => ?_, fun b hb => ?_, fun g u hu => hu, by simp, rfl⟩
  · rw [hH]
    obtain ⟨_, hx⟩ := argT_lk ht
    simp only [Nat.sub_zero] at hx
    obtain ⟨v, hv1, hv2⟩ := hv.get hx
    have : (vs.toArray.getD t undef) = v := by simp [hv1]
    rw [this]
    exact hv2.mono (keyIn Mi) (AV.oks_get hoy hx) hμ (Keeps.refl _ _)
  · rw [hH]
    refine (h.ob g o (hMi g o hg)).mono' (keyIn Mi) ?_ (fun u hu => hμ g u (by unfold keyIn; rw [hg]) hu) hμ (fun b hb hn => ⟨fun k => ?_, hb, rfl⟩) (fun _ _ _ _ _ => rfl)
    · obtain ⟨p, hp, rfl⟩ := lk_pair hg
      exact List.all_eq_true.1 hom p hp
    · rcases k with k | k
      · exact hn (h1 b k)
      · exact hn (.inr (hot_sub hMi k))
  · have e1 : μ g = some v := resK_some q5
    have e2 : μ g' = some v' := resK_some q6
    exact h.inj g g' o o' v v' b (hMi g o q1) q2 (hMi g' o' q3) q4 e1 e2 q7 q8
  · exact ⟨(h.lo b (hot_sub hMi (Hot_resK.1 hb))).1, .inl hb⟩
  · unfold resK; rw [if_neg]; rw [keyIn_none.2 hg]; simp
  · exact ⟨h.ht_lt (h1 b hb), fun k => h2 b hb (Hot_resK.1 k)⟩
def PlainO : AO → Prop
  | .box _ cs => AV.noRowss cs = true
  | .arr _ _ rs => ∀ r ∈ rs, ∀ c ∈ r, (AV.d c).noRows = true
  | .buf _ _ _ _ => False
  | .dead => True
def PlainL : List (Nat × AO) → Prop
  | [] => True
  | p :: r => PlainO p.2 ∧ PlainL r
theorem PlainL_lk : ∀ {L : List (Nat × AO)}, PlainL L → ∀ g o, lk L g = some o → PlainO o
  | [], _, g, o, h => by simp [lk] at h
  | p :: r, hs, g, o, h => by
    simp only [lk] at h
    split at h
    · rw [← Option.some.inj h]; exact hs.1
    · exact PlainL_lk hs.2 g o h
theorem OR.plain {H H' : Nat → Prop} {g : Nat} {o : AO} (h : OR H μ w g o) (hp : PlainO o) : OR H' μ w g o := by
  refine h.anyH ?_
  cases o with
  | box ty cs => exact .inl hp
  | arr ty sz rs => exact .inr ⟨_, _, _, rfl, hp⟩
  | buf ty sz cap rs => exact hp.elim
  | dead => exact .inl rfl
theorem upM_in {Mo : List (Nat × AO)} {g : Nat} (h : keyIn Mo g = true) : upM M Mo g = lk Mo g := by
  unfold keyIn at h; unfold upM
  cases e : lk Mo g with
  | some o => rfl
  | none => rw [e] at h; cases h
theorem upM_out {Mo : List (Nat × AO)} {g : Nat} (h : keyIn Mo g = false) : upM M Mo g = M g := by
  unfold upM; rw [keyIn_none.1 h]
/-- Behind the callee's end. -/
theorem InvM.leave (h : InvM cx μ T M a w) {Mi Mo : List (Nat × AO)} (hMi : ∀ g o, lk Mi g = some o → M g = some o) (hsub : keysIn Mi Mo = true) (hfr : freshIn M Mi Mo = true) {H0 : Nat → Prop} {μ' : Nat → Option Value} {w' : World} {v : Value} {res : AV} {n : Nat}
    (hI : InvM ⟨w, Hot (resK μ Mi) (lk Mi), H0, n, resK μ Mi⟩ μ' (lk [(0, res)]) (lk Mo) ⟨#[v], []⟩ w') (hor : AV.ok (keyIn Mo) res = true) (hom : (Mo.all fun p => p.2.ok (keyIn Mo)) = true)
    (hal : (∀ b, Ht cx μ M b → ¬ Hot μ (lk Mi) b → H0 b) ∨ (res.noRows = true ∧ PlainL Mo)) :
    InvM cx (fun g => if keyIn Mo g then μ' g else μ g) T (upM M Mo) a w' ∧ VR (Ht cx (fun g => if keyIn Mo g then μ' g else μ g) (upM M Mo)) (fun g => if keyIn Mo g then μ' g else μ g) w' res v := by
  generalize hμ2 : (fun g => if keyIn Mo g then μ' g else μ g) = μ2
  have hin : ∀ g, keyIn Mo g = true → μ2 g = μ' g := fun g hg => by rw [← hμ2]; simp only [hg, if_true]
  have hout : ∀ g, keyIn Mo g = false → μ2 g = μ g := fun g hg => by rw [← hμ2]; simp [hg]
  have hkey : ∀ g o, lk Mo g = some o → keyIn Mo g = true := fun g o hg => by unfold keyIn; rw [hg]
  have hkeyi : ∀ g o, lk Mi g = some o → keyIn Mi g = true := fun g o hg => by unfold keyIn; rw [hg]
  have hsubk : ∀ g, keyIn Mi g = true → keyIn Mo g = true := fun g hg => keysIn_spec hsub hg
  -- a block of an object of Mi, and of one of M, is of one object
  have hmi : ∀ b g o u, M g = some o → o.live = true → μ g = some u → blkOf u = some b → Hot μ (lk Mi) b → keyIn Mi g = true := by
    rintro b g o u q1 q2 q3 q4 ⟨k, p, x, r1, r2, r3, r4⟩
    have := h.inj k g p o x u b (hMi k p r1) r2 q1 q2 r3 q3 r4 q4
    subst this
    exact hkeyi k p r1
  have hhotn : ∀ b, Hot μ' (lk Mo) b → b < w'.heap.size ∧ (Hot μ (lk Mi) b ∨ w.heap.size ≤ b) := by
    intro b hb
    obtain ⟨q1, q2⟩ := hI.lo b hb
    exact ⟨q1, q2.imp Hot_resK.1 id⟩
  have hhot : ∀ b, Hot μ2 (upM M Mo) b → Hot μ' (lk Mo) b ∨ (Hot μ M b ∧ ¬ Hot μ (lk Mi) b) := by
    rintro b ⟨g, o, u, q1, q2, q3, q4⟩
    cases hk : keyIn Mo g
    · rw [upM_out hk] at q1
      rw [hout g hk] at q3
      refine .inr ⟨⟨g, o, u, q1, q2, q3, q4⟩, fun hm => ?_⟩
      have := hsubk g (hmi b g o u q1 q2 q3 q4 hm)
      rw [hk] at this; cases this
    · rw [upM_in hk] at q1
      rw [hin g hk] at q3
      exact .inl ⟨g, o, u, q1, q2, q3, q4⟩
  have hHt : ∀ b, ¬ Ht ⟨w, Hot (resK μ Mi) (lk Mi), H0, n, resK μ Mi⟩ μ' (lk Mo) b → (∀ b, Ht cx μ M b → ¬ Hot μ (lk Mi) b → H0 b) → ¬ Ht cx μ2 (upM M Mo) b := by
    intro b hn hal hb
    have n1 : ¬ H0 b := fun k => hn (.inl k)
    have n2 : ¬ Hot μ' (lk Mo) b := fun k => hn (.inr k)
    rcases hb with hb | hb
    · exact n1 (hal b (.inl hb) fun k => h.hot_h0 (hot_sub hMi k) hb)
    · rcases hhot b hb with k | ⟨k1, k2⟩
      · exact n2 k
      · exact n1 (hal b (.inr k1) k2)
  have hμin : ∀ j u, keyIn Mo j = true → μ' j = some u → μ2 j = some u := fun j u hj hu => by rw [hin j hj]; exact hu
  have hresv : VR (Ht ⟨w, Hot (resK μ Mi) (lk Mi), H0, n, resK μ Mi⟩ μ' (lk Mo)) μ' w' res v := hI.tm 0 res rfl
  have hval : VR (Ht cx μ2 (upM M Mo)) μ2 w' res v := by
    rcases hal with hal | ⟨hal, _⟩
    · exact hresv.mono (keyIn Mo) hor hμin fun b hb hn => ⟨hHt b hn hal, hb, rfl⟩
    · exact (hresv.anyH hal).mono (keyIn Mo) hor hμin (Keeps.refl _ _)
  refine ⟨?_, hval⟩
  have hch : Chg (Hot μ (lk Mi)) w w' := hI.fr.weaken fun k _ hk => Hot_resK.1 hk
  refine h.next hch (fun b hb => hot_sub hMi hb) (fun k u hk => ?_) (fun b hb => ?_) (fun g o hg => ?_) ?_ (fun g hg => ?_)
  · cases e : keyIn Mo k
    · rw [hout k e]; exact hk
    · rw [hin k e]
      cases e2 : keyIn Mi k
      · have := freshIn_spec hfr k e e2
        rw [h.free k this] at hk; cases hk
      · exact hI.base k u (by show resK μ Mi k = some u; unfold resK; rw [if_pos e2]; exact hk)
  · rcases hhot b hb with k | ⟨k, _⟩
    · obtain ⟨q1, q2⟩ := hhotn b k
      rcases q2 with q2 | q2
      · exact .inl (hot_sub hMi q2)
      · exact .inr ⟨q2, q1⟩
    · exact .inl k
  · cases e : keyIn Mo g
    · rw [upM_out e] at hg
      refine .inl ⟨hg, fun hl u b hu hb hm => ?_⟩
      have := hsubk g (hmi b g o u hg hl hu hb hm)
      rw [e] at this; cases this
    · rw [upM_in e] at hg
      right
      have hor2 := hI.ob g o hg
      obtain ⟨p, hp, hpo⟩ := lk_pair hg
      have hok : o.ok (keyIn Mo) = true := by rw [← hpo]; exact List.all_eq_true.1 hom p hp
      rcases hal with hal | ⟨_, hal⟩
      · exact hor2.mono' (keyIn Mo) hok (fun u hu => by rw [hin g e]; exact hu) hμin (fun b hb hn => ⟨hHt b hn hal, hb, rfl⟩) (fun _ _ _ _ _ => rfl)
      · exact (hor2.plain (PlainL_lk hal g o hg)).mono' (keyIn Mo) hok (fun u hu => by rw [hin g e]; exact hu) hμin (Keeps.refl _ _) (fun _ _ _ _ _ => rfl)
  · intro g g' o o' u u' b q1 q2 q3 q4 q5 q6 q7 q8
    have mix : ∀ g g' o o' u u', keyIn Mo g = true → keyIn Mo g' = false → upM M Mo g = some o → o.live = true → upM M Mo g' = some o' → o'.live = true → μ2 g = some u → μ2 g' = some u' → blkOf u = some b → blkOf u' = some b → False := by
      intro g g' o o' u u' e e' q1 q2 q3 q4 q5 q6 q7 q8
      rw [upM_in e] at q1
      rw [upM_out e'] at q3
      rw [hin g e] at q5
      rw [hout g' e'] at q6
      have hb := (h.lo b ⟨g', o', u', q3, q4, q6, q8⟩).1
      rcases (hhotn b ⟨g, o, u, q1, q2, q5, q7⟩).2 with q | q
      · have := hsubk g' (hmi b g' o' u' q3 q4 q6 q8 q)
        rw [e'] at this; cases this
      · omega
    cases e : keyIn Mo g <;> cases e' : keyIn Mo g'
    · rw [upM_out e] at q1
      rw [upM_out e'] at q3
      rw [hout g e] at q5
      rw [hout g' e'] at q6
      exact h.inj g g' o o' u u' b q1 q2 q3 q4 q5 q6 q7 q8
    · exact (mix g' g o' o u' u e' e q3 q4 q1 q2 q6 q5 q8 q7).elim
    · exact (mix g g' o o' u u' e e' q1 q2 q3 q4 q5 q6 q7 q8).elim
    · rw [upM_in e] at q1
      rw [upM_in e'] at q3
      rw [hin g e] at q5
      rw [hin g' e'] at q6
      exact hI.inj g g' o o' u u' b q1 q2 q3 q4 q5 q6 q7 q8
  · cases e : keyIn Mo g
    · rw [upM_out e] at hg; rw [hout g e]; exact h.free g hg
    · rw [upM_in e] at hg; rw [keyIn, hg] at e; cases e
/-- What a value is seen as holds in any class of blocks that leaves the seen slices out. -/
theorem InvM.coe (h : InvM cx μ T M a w) {Mx : Nat → Option AO} (hMx : ∀ g o, Mx g = some o → M g = some o) {H' : Nat → Prop} (h1 : ∀ b, H' b → Ht cx μ M b) (h2 : ∀ g o u b, Mx g = some o → o.live = true → μ g = some u → blkOf u = some b → ¬ H' b)
    {x y : AV} (hc : Cv Mx x y) : ∀ {v : Value}, VR (Ht cx μ M) μ w x v → VR H' μ w y v := by
  have hk : Keeps (Ht cx μ M) H' w w := fun b hb hn => ⟨fun k => hn (h1 b k), hb, rfl⟩
  induction hc with
  | refl x => intro v hv; exact hv.grow (fun _ _ hk => hk) hk
  | @own g ty sz rs hg =>
    intro v hv
    obtain ⟨u, xs, g1, ⟨g2, g3⟩, g4, g5, g6⟩ := h.ob g _ (hMx _ _ hg)
    cases hv with
    | @own _ ad len cap hb =>
      rw [g1] at hb
      obtain rfl : u = .slice ad len cap := by simpa using hb
      refine .d ?_
      rcases g3 with ⟨q, q0⟩ | ⟨c, cap', cur, q, _, q2, q3, q4, q5, q6⟩
      · simp only [Value.slice.injEq] at q
        obtain ⟨rfl, rfl, rfl⟩ := q
        obtain rfl : rs = [] := List.eq_nil_of_length_eq_zero q0
        exact .nil sz none 0 (fun _ => rfl)
      · simp only [Value.slice.injEq] at q
        obtain ⟨rfl, rfl, rfl⟩ := q
        by_cases hne : rs = []
        · subst hne; exact .nil sz _ cap (fun e => by cases e)
        have hlt := (Array.getElem?_eq_some_iff.1 q2).1
        have key : ∀ (i : Nat) (r : List D) (j : Nat) (d : D), rs[i]? = some r → r[j]? = some d → ∃ v, xs[i * sz + j]? = some v ∧ w.cell? ⟨c, 0 + i * sz + j, none⟩ = some v ∧ VD (Ht cx μ M) w d v := by
          intro i r j d hi hj
          have hf := flat_get g4 hi hj
          have hl : i * sz + j < xs.length := by rw [← g5.1]; exact (List.getElem?_eq_some_iff.1 hf).1
          obtain ⟨v, hv⟩ : ∃ v, xs[i * sz + j]? = some v := ⟨xs[i * sz + j], by simp [hl]⟩
          refine ⟨v, hv, ?_, g5.2 _ _ _ hf hv⟩
          rw [← q6, List.getElem?_take] at hv
          split at hv
          · simp only [World.cell?, q2, Nat.zero_add]; simpa using hv
          · cases hv
        refine .rows sz rs c 0 cap (fun i j => (xs[i * sz + j]?).getD undef) hne q3 (Nat.le_trans q3 q4) (h2 g _ _ c hg rfl g1 rfl) hlt (fun i r hr => g4 r (List.mem_of_getElem? hr)) (fun i r j d hi hj => ?_) (fun i r j d hi hj => ?_) (fun i r j d hi hj => ?_)
        · obtain ⟨v, k1, k2, k3⟩ := key i r j d hi hj
          rw [k1]; exact k2
        · obtain ⟨v, k1, k2, k3⟩ := key i r j d hi hj
          rw [k1]; exact g6 v (List.mem_of_getElem? k1)
        · obtain ⟨v, k1, k2, k3⟩ := key i r j d hi hj
          rw [k1]; exact k3.mono hk
  | nil =>
    intro v hv
    obtain rfl := hv.val
    exact .d (.nil _ none 0 fun _ => rfl)
  | agg hl _ ih =>
    intro v hv
    cases hv with
    | @agg _ vs hl2 hv =>
      refine .agg (by omega) fun i d u hd hu => ?_
      obtain ⟨hi, _⟩ := List.getElem?_eq_some_iff.1 hd
      exact ih i _ d (by rw [List.getElem?_eq_getElem (by omega)]) hd (hv i _ u (by rw [List.getElem?_eq_getElem (by omega)]) hu)
end
end Go.Am
/- Nothing is claimed here: a call that meets a contract; a contract out of the function's code. -/
namespace Go.Am
set_option linter.unusedSimpArgs false
set_option linter.unusedVariables false
set_option linter.unnecessarySimpa false
set_option linter.unusedSectionVars false
set_option maxRecDepth 100000
open Go Go.RowKit Go.Proofs.Grow
def evs (T : Nat → Option AV) : List Operand → Option (List AV)
  | [] => some []
  | x :: r => match evA T x, evs T r with
    | some y, some ys => some (y :: ys)
    | _, _ => none
theorem evs_get {T : Nat → Option AV} : ∀ {l : List Operand} {xs : List AV}, evs T l = some xs → l.length = xs.length ∧ ∀ (i : Nat) (x : Operand) (y : AV), l[i]? = some x → xs[i]? = some y → evA T x = some y
  | [], xs, h => by
    obtain rfl : [] = xs := by simpa [evs] using h
    exact ⟨rfl, fun i x y hx => by simp at hx⟩
  | x :: r, xs, h => by
    simp only [evs] at h
    split at h
    · rename_i y ys hy hys
      obtain rfl := Option.some.inj h
      obtain ⟨h1, h2⟩ := evs_get hys
      exact ⟨by simp [h1], fun i z u hz hu => by
        cases i with
        | zero => obtain rfl : x = z := by simpa using hz
                  obtain rfl : y = u := by simpa using hu
                  exact hy
        | succ i => exact h2 i z u (by simpa using hz) (by simpa using hu)⟩
    · cases h
def callB (P : Program) (f : FuncId) : Option (Bool × Bool) := (P.funcs[f]?).map fun fn => (fn.name == "runtime.NumGoroutine", fn.body.isNone)
theorem run_callFunc {P : Program} {f : FuncId} (h : callB P f = some (false, false)) (args : Array Value) (w : World) : (callFunc f args).run P w = .ok (.enter f args) w := by
  unfold callB at h
  cases hf : P.funcs[f]? with
  | none => rw [hf] at h; cases h
  | some fn =>
    rw [hf] at h
    simp only [Option.map_some, Option.some.injEq, Prod.mk.injEq] at h
    have h1 : fn.name ≠ "runtime.NumGoroutine" := by simpa using h.1
    have h2 : fn.body ≠ none := fun e => by rw [e] at h; simp at h
    unfold callFunc
    simp [hf, h1, h2]
def mx (M : Nat → Option AO) (Mi : List (Nat × AO)) : Nat → Option AO := fun g => match lk Mi g with
  | some _ => none
  | none => M g
section
variable {P : Program} {o : Oper} {T : Nat → Option AV} {M : Nat → Option AO}
theorem step_call_core {fo : Operand} {args : Array Operand} {tys : Array TypeId} {f : FuncId} {caps xs ys : List AV} {res : AV} {Mi Mo : List (Nat × AO)}
    (ho : o.op = .call { callee := .value fo, args := args, argTypes := tys }) (hfo : evA T fo = some (.clo f caps)) (hxs : evs T args.toList = some xs) (hfn : FnM P f Mi ys res Mo) (hc : callB P f = some (false, false))
    (hMi : SubM M Mi) (hsub : keysIn Mi Mo = true) (hfr : freshIn M Mi Mo = true) (hoy : AV.oks (keyIn Mi) ys = true) (homi : (Mi.all fun p => p.2.ok (keyIn Mi)) = true) (hor : AV.ok (keyIn Mo) res = true) (homo : (Mo.all fun p => p.2.ok (keyIn Mo)) = true)
    (hcv : Cvs (fun _ => none) (xs ++ caps) ys ∨ (Cvs (mx M Mi) (xs ++ caps) ys ∧ res.noRows = true ∧ PlainL Mo)) : StepOK P o T M ⟨res, Mo.map (·.1) ++ AV.idls (xs ++ caps), Mo⟩ := by
  refine ⟨fun p hp => List.mem_append_left _ (List.mem_map.2 ⟨p, hp, rfl⟩), fun cx T' M' a w hd hT hM ⟨μ, hI⟩ => ?_⟩
  have hmo : ∀ p ∈ Mo, M' p.1 = M p.1 := fun p hp => hM _ (List.mem_append_left _ (List.mem_map.2 ⟨p, hp, rfl⟩))
  have hmi : ∀ p ∈ Mi, M' p.1 = M p.1 := by
    intro p hp
    have h1 : keyIn Mo p.1 = true := List.all_eq_true.1 hsub p hp
    have h2 : p.1 ∈ Mo.map (·.1) := lk_mem (by unfold keyIn at h1; split at h1; · rename_i q hq; rw [hq]; rfl
                                               · cases h1)
    exact hM _ (List.mem_append_left _ h2)
  have hSub := SubM_lk (SubM_congr hMi hmi)
  have hfr' := freshIn_congr hfr hmo
  -- the values
  have hcl := hI.ev (x := fo) hT (by simp [ho, Op.operands, Call.operands]) hfo
  obtain ⟨hl1, hev⟩ := evs_get hxs
  generalize hfv : a.eval fo = fv at hcl
  cases hcl with
  | @clo _ _ cvs hcl1 hcl2 =>
    have hargs : VRs (Ht cx μ M') μ w (xs ++ caps) ((args.map a.eval).toList ++ cvs) := by
      refine VRs.append ⟨by simp [← hl1], fun i c v hc hv => ?_⟩ ⟨hcl1, hcl2⟩
      rw [Array.toList_map, List.getElem?_map] at hv
      cases hq : args.toList[i]? with
      | none => rw [hq] at hv; cases hv
      | some q =>
        rw [hq] at hv
        obtain rfl : a.eval q = v := by simpa using hv
        have hq2 : args[i]? = some q := by simpa using hq
        exact hI.ev hT (by rw [ho]; simp [Op.operands, Call.operands]; exact .inr (Array.mem_of_getElem? hq2)) (hev i q c hq hc)
    have hrun : (execOp a.eval o).run P w = .ok (.enter f ((args.map a.eval).toList ++ cvs).toArray) w := by
      have e : ((args.map a.eval).toList ++ cvs).toArray = args.map a.eval ++ cvs.toArray := by simp
      rw [e]
      simp [execOp, ho, resolve, Deferred.ofValue, hfv, invoke, run_callFunc hc]
    generalize (args.map a.eval).toList ++ cvs = vs at hargs hrun
    have main : ∀ (H0 : Nat → Prop), (∀ b, H0 b → Ht cx μ M' b) → (∀ b, H0 b → ¬ Hot μ (lk Mi) b) → VRs (fun b => H0 b ∨ Hot μ (lk Mi) b) μ w ys vs →
        ((∀ b, Ht cx μ M' b → ¬ Hot μ (lk Mi) b → H0 b) ∨ (res.noRows = true ∧ PlainL Mo)) → GivesF P o a w (fun v w2 => Inv cx (upT T' o.dst res) (upM M' Mo) (a.put o.dst v) w2) := by
      intro H0 h1 h2 hv hal
      have hen := hI.enter hSub H0 h1 h2 hv hoy homi
      unfold GivesF
      rw [hrun]
      refine (hfn H0 (resK μ Mi) w vs hv.1.symm hen).mono ?_
      rintro e w' ⟨v, μ', rfl, hout⟩
      obtain ⟨k1, k2⟩ := hI.leave hSub hsub hfr' hout hor homo hal
      exact ⟨v, rfl, _, k1.put k2 hd⟩
    rcases hcv with hcv | ⟨hcv, hn1, hn2⟩
    · refine main (fun b => Ht cx μ M' b ∧ ¬ Hot μ (lk Mi) b) (fun b hb => hb.1) (fun b hb => hb.2) ⟨by rw [← hcv.1]; exact hargs.1, fun i y v hy hv => ?_⟩ (.inl fun b hb hn => ⟨hb, hn⟩)
      have hi : i < (xs ++ caps).length := by rw [hcv.1]; exact (List.getElem?_eq_some_iff.1 hy).1
      have hx : (xs ++ caps)[i]? = some (xs ++ caps)[i] := by rw [List.getElem?_eq_getElem hi]
      refine hI.coe (Mx := fun _ => none) (fun g o h => by cases h) (fun b hb => ?_) (fun g o u b h => by cases h) (hcv.2 i _ y hx hy) (hargs.2 i _ v hx hv)
      rcases hb with hb | hb
      · exact hb.1
      · exact .inr (hot_sub hSub hb)
    · have hids : ∀ g ∈ AV.idls (xs ++ caps), mx M' Mi g = mx M Mi g := by
        intro g hg
        unfold mx
        rw [hM g (List.mem_append_right _ hg)]
      have hcv := hcv.local hids
      refine main (fun b => False) (fun b hb => hb.elim) (fun b hb => hb.elim) ⟨by rw [← hcv.1]; exact hargs.1, fun i y v hy hv => ?_⟩ (.inr ⟨hn1, hn2⟩)
      have hi : i < (xs ++ caps).length := by rw [hcv.1]; exact (List.getElem?_eq_some_iff.1 hy).1
      have hx : (xs ++ caps)[i]? = some (xs ++ caps)[i] := by rw [List.getElem?_eq_getElem hi]
      have hmx : ∀ g o, mx M' Mi g = some o → M' g = some o ∧ lk Mi g = none := by
        intro g o h
        unfold mx at h
        split at h
        · cases h
        · rename_i hn; exact ⟨h, hn⟩
      refine hI.coe (Mx := mx M' Mi) (fun g o h => (hmx g o h).1) (fun b hb => ?_) (fun g o u b h hl hu hb hq => ?_) (hcv.2 i _ y hx hy) (hargs.2 i _ v hx hv)
      · rcases hb with hb | hb
        · exact hb.elim
        · exact .inr (hot_sub hSub hb)
      · rcases hq with hq | ⟨k, p, x, r1, r2, r3, r4⟩
        · exact hq
        · have := hI.inj k g p o x u b (hSub k p r1) r2 (hmx g o h).1 hl r3 hu r4 hb
          subst this
          rw [(hmx k o h).2] at r1; cases r1
end
/-- What a function's results are seen as. -/
def resOne (tbl : List (Nat × TI)) (T : Nat → Option AV) (M : Nat → Option AO) : ResultVar → Option AV
  | .tmp t => T t
  | .cell a ty => match T a with
    | some (.ptr g off) => match M g with
      | some (.box _ cs) => match lk tbl ty with
        | some i => match i.agg with
          | true => match Nat.ble (off + i.size) cs.length with
            | true => some (.agg ((cs.drop off).take i.size))
            | false => none
          | false => cs[off]?
        | none => none
      | _ => none
    | _ => none
def resAll (tbl : List (Nat × TI)) (T : Nat → Option AV) (M : Nat → Option AO) : List ResultVar → Option (List AV)
  | [] => some []
  | x :: r => match resOne tbl T M x, resAll tbl T M r with
    | some y, some ys => some (y :: ys)
    | _, _ => none
def tupOf : List AV → AV
  | [x] => x
  | l => .tup l
section
variable {P : Program} {tbl : List (Nat × TI)} {cx : Cx} {μ : Nat → Option Value} {T : Nat → Option AV} {M : Nat → Option AO} {a : Act} {w : World}
def resRun (tmps : Array Value) : ResultVar → Sem Value
  | .tmp t => pure (tmps.getD t undef)
  | .cell a t => do loadVar t (← asAddr (tmps.getD a undef))
theorem InvM.res1 (htb : TOK P tbl) (h : InvM cx μ T M a w) {x : ResultVar} {y : AV} (hx : resOne tbl T M x = some y) : ∃ v, (resRun a.tmps x).run P w = .ok v w ∧ VR (Ht cx μ M) μ w y v := by
  cases x with
  | tmp t => exact ⟨_, rfl, h.tm t y hx⟩
  | cell ad ty =>
    simp only [resOne] at hx
    cases hT : T ad with
    | none => rw [hT] at hx; cases hx
    | some p =>
      rw [hT] at hx
      cases p with
      | ptr g off =>
        simp only at hx
        cases hg : M g with
        | none => rw [hg] at hx; cases hx
        | some ob =>
          rw [hg] at hx
          cases ob with
          | box bty cs =>
            simp only at hx
            cases ht : lk tbl ty with
            | none => rw [ht] at hx; cases hx
            | some i =>
              rw [ht] at hx
              simp only at hx
              obtain ⟨b, vs, h1, h2, h3, h4⟩ := h.box hg (h.tm ad _ hT)
              cases ha : i.agg with
              | true =>
                rw [ha] at hx
                simp only at hx
                cases hl : Nat.ble (off + i.size) cs.length with
                | false => rw [hl] at hx; cases hx
                | true =>
                  rw [hl] at hx
                  obtain rfl := Option.some.inj hx
                  have hle := Nat.le_of_ble_eq_true hl
                  have hsub : VRs (Ht cx μ M) μ w ((cs.drop off).take i.size) ((vs.drop off).take i.size) := (h4.drop off).take i.size
                  have hlen : ((vs.drop off).take i.size).length = i.size := by
                    have := h4.1
                    simp; omega
                  refine ⟨_, ?_, .agg hsub.1 hsub.2⟩
                  simp only [resRun, Sem.run_bind, h1, asAddr, Sem.run_pure, Result.andThen_ok]
                  refine run_loadAgg (htb _ _ ht) ha hlen fun j v hv => ?_
                  rw [cell_box h3]
                  rw [List.getElem?_take] at hv
                  split at hv
                  · rw [List.getElem?_drop] at hv; exact hv
                  · cases hv
              | false =>
                rw [ha] at hx
                simp only at hx
                obtain ⟨v, hv, hr⟩ := h4.get hx
                refine ⟨v, ?_, hr⟩
                simp only [resRun, Sem.run_bind, h1, asAddr, Sem.run_pure, Result.andThen_ok]
                exact run_loadOne (htb _ _ ht) ha (by rw [cell_box h3]; exact hv)
          | _ => simp at hx
      | _ => simp at hx
theorem InvM.resL (htb : TOK P tbl) (h : InvM cx μ T M a w) : ∀ {l : List ResultVar} {ys : List AV}, resAll tbl T M l = some ys → ∃ vs, (l.mapM (resRun a.tmps)).run P w = .ok vs w ∧ VRs (Ht cx μ M) μ w ys vs
  | [], ys, hy => by
    obtain rfl : [] = ys := by simpa [resAll] using hy
    exact ⟨[], by simp, VRs.nil⟩
  | x :: r, ys, hy => by
    simp only [resAll] at hy
    split at hy
    · rename_i y zs h1 h2
      obtain rfl := Option.some.inj hy
      obtain ⟨v, q1, q2⟩ := h.res1 htb h1
      obtain ⟨vs, q3, q4⟩ := h.resL htb h2
      exact ⟨v :: vs, by simp [List.mapM_cons, q1, q3], VRs.cons q2 q4⟩
    · cases hy
theorem InvM.results (htb : TOK P tbl) (h : InvM cx μ T M a w) {fn : Func} {ys : List AV} (hy : resAll tbl T M fn.results.toList = some ys) : ∃ v, (results fn a.tmps).run P w = .ok v w ∧ VR (Ht cx μ M) μ w (tupOf ys) v := by
  obtain ⟨vs, h1, h2⟩ := h.resL htb hy
  have hrun : (fn.results.mapM (resRun a.tmps)).run P w = .ok vs.toArray w := by
    rw [Array.mapM_eq_mapM_toList]
    simp [h1]
  have hfun : (fun x : ResultVar => match x with
    | .tmp t => (pure (a.tmps.getD t undef) : Sem Value)
    | .cell ad t => do loadVar t (← asAddr (a.tmps.getD ad undef))) = resRun a.tmps := by
    funext x; cases x <;> rfl
  by_cases hs : vs.length = 1
  · match vs, hs, h2, hrun with
    | [v], _, h2, hrun =>
      obtain ⟨hl, h2⟩ := h2
      match ys, hl, h2 with
      | [y], _, h2 =>
        refine ⟨v, ?_, h2 0 y v rfl rfl⟩
        unfold Go.results
        simp only [Sem.run_bind]
        erw [hfun]
        rw [hrun]
        simp
  · refine ⟨.tuple vs.toArray, ?_, ?_⟩
    · unfold Go.results
      simp only [Sem.run_bind]
      erw [hfun]
      rw [hrun]
      simp [hs]
    · have : tupOf ys = .tup ys := by
        have hl : ys.length ≠ 1 := by rw [h2.1]; exact hs
        match ys, hl with
        | [], _ => rfl
        | [_], hl => exact absurd rfl hl
        | _ :: _ :: _, _ => rfl
      rw [this]
      exact .tup h2.1 h2.2
/-- What must hold at the end of a function. -/
def Ret (tbl : List (Nat × TI)) (fn : Func) (res : AV) (Mo : List (Nat × AO)) (cx : Cx) (e : Exit) (s : St) : Prop :=
  (e = .normal ∨ e = .ret) ∧ ∃ s' ys, Le cx s s' ∧ resAll tbl (lk s'.T) (lk s'.M) fn.results.toList = some ys ∧ tupOf ys = res ∧ SubM (lk s'.M) Mo
/-- Only some objects are told further. -/
theorem InvM.narrow {v : Value} {res : AV} {n : Nat} {w0 : World} {S H0 : Nat → Prop} {μ0 : Nat → Option Value} {N : Nat} (h : InvM ⟨w0, S, H0, N, μ0⟩ μ T M a w) {Mo : List (Nat × AO)} (hMo : ∀ g o, lk Mo g = some o → M g = some o) (hv : VR (Ht ⟨w0, S, H0, N, μ0⟩ μ M) μ w res v)
    (hor : AV.ok (keyIn Mo) res = true) (hom : (Mo.all fun p => p.2.ok (keyIn Mo)) = true) (hb0 : ∀ g u, μ0 g = some u → keyIn Mo g = true) : InvM ⟨w0, S, H0, 1, μ0⟩ (resK μ Mo) (lk [(0, res)]) (lk Mo) ⟨#[v], []⟩ w := by
  have hk : Keeps (Ht ⟨w0, S, H0, N, μ0⟩ μ M) (Ht ⟨w0, S, H0, 1, μ0⟩ (resK μ Mo) (lk Mo)) w w := fun b hb hn => ⟨fun k => by
    rcases k with k | k
    · exact hn (.inl k)
    · exact hn (.inr (hot_sub hMo (Hot_resK.1 k))), hb, rfl⟩
  have hμ : ∀ j u, keyIn Mo j = true → μ j = some u → resK μ Mo j = some u := fun j u hj hu => by unfold resK; rw [if_pos hj]; exact hu
  refine ⟨fun t x ht => ?_, fun g o hg => ?_, fun g g' o o' v v' b q1 q2 q3 q4 q5 q6 q7 q8 => ?_, fun b hb => ?_, h.fr, fun g hg => ?_, h.hs, fun g u hu => ?_, rfl, rfl⟩
  · simp only [lk] at ht
    split at ht
    · rename_i hb
      have := Nat.eq_of_beq_eq_true hb
      subst this
      obtain rfl := Option.some.inj ht
      exact hv.mono (keyIn Mo) hor hμ hk
    · cases ht
  · obtain ⟨p, hp, hpo⟩ := lk_pair hg
    exact (h.ob g o (hMo g o hg)).mono' (keyIn Mo) (by rw [← hpo]; exact List.all_eq_true.1 hom p hp) (fun u hu => hμ g u (by unfold keyIn; rw [hg]) hu) hμ hk (fun _ _ _ _ _ => rfl)
  · exact h.inj g g' o o' v v' b (hMo g o q1) q2 (hMo g' o' q3) q4 (resK_some q5) (resK_some q6) q7 q8
  · exact h.lo b (hot_sub hMo (Hot_resK.1 hb))
  · unfold resK; rw [if_neg]; rw [keyIn_none.2 hg]; simp
  · exact hμ g u (hb0 g u hu) (h.base g u hu)
theorem FnM.of (htb : TOK P tbl) {f : FuncId} {fn : Func} {c : Code} {Mi : List (Nat × AO)} {args : List AV} {res : AV} {Mo : List (Nat × AO)} (hf : P.funcs[f]? = some fn) (hb : fn.body = some c) (hn : Nat.ble args.length fn.ntmps = true)
    (hsub : keysIn Mi Mo = true) (hor : AV.ok (keyIn Mo) res = true) (hom : (Mo.all fun p => p.2.ok (keyIn Mo)) = true) (h : ∀ cx : Cx, cx.N = fn.ntmps → (∀ g u, cx.μ0 g = some u → keyIn Mi g = true) → WA P cx c (Ret tbl fn res Mo cx) ⟨argT 0 args, Mi⟩) : FnM P f Mi args res Mo := by
  intro H0 μ w vs hl hI
  have hle := Nat.le_of_ble_eq_true hn
  refine calls_of_wp hf hb ?_
  have hsz : vs.toArray.size = vs.length := by simp
  have hstart : InvS ⟨w, Hot μ (lk Mi), H0, fn.ntmps, μ⟩ ⟨argT 0 args, Mi⟩ { tmps := vs.toArray ++ Array.replicate (fn.ntmps - vs.toArray.size) undef, defers := [] } w := by
    refine ⟨μ, fun t x ht => ?_, hI.ob, hI.inj, hI.lo, hI.fr, hI.free, hI.hs, hI.base, by simp; omega, rfl⟩
    obtain ⟨_, hx⟩ := argT_lk ht
    have hlt : t < vs.length := by
      have := (List.getElem?_eq_some_iff.1 hx).1
      omega
    have h1 := hI.tm t x ht
    have e : (vs.toArray ++ Array.replicate (fn.ntmps - vs.toArray.size) undef).getD t undef = vs.toArray.getD t undef := by
      simp [hlt, Array.getElem?_append]
    show VR _ _ _ x ((vs.toArray ++ Array.replicate (fn.ntmps - vs.toArray.size) undef).getD t undef)
    rw [e]; exact h1
  have h0 : ∀ g u, μ g = some u → keyIn Mi g = true := fun g u hu => by
    cases e : keyIn Mi g
    · have := hI.free g (keyIn_none.1 e)
      rw [this] at hu; cases hu
    · rfl
  refine wp_mono (h ⟨w, Hot μ (lk Mi), H0, fn.ntmps, μ⟩ rfl h0 _ w hstart) ?_
  rintro e a' w' ⟨s, ⟨he, s', ys, hLe, hres, rfl, hMo⟩, hs⟩
  obtain ⟨μ', hI'⟩ := hLe a' w' hs
  obtain ⟨v, hv1, hv2⟩ := hI'.results htb hres
  have hfin : a'.defers = [] ∧ ∃ v, (results fn a'.tmps).run P w' = .ok v w' ∧ ∃ v_1 μ'_1, Ending.returned v = .returned v_1 ∧ InvM ⟨w, Hot μ (lk Mi), H0, 1, μ⟩ μ'_1 (lk [(0, tupOf ys)]) (lk Mo) ⟨#[v_1], []⟩ w' := by
    refine ⟨hI'.df, v, hv1, v, resK μ' Mo, rfl, hI'.narrow (n := 1) (SubM_lk hMo) hv2 hor hom fun g u hu => ?_⟩
    cases e : keyIn Mi g
    · have := hI.free g (keyIn_none.1 e)
      rw [this] at hu; cases hu
    · exact keysIn_spec hsub e
  rcases he with rfl | rfl
  · exact hfin
  · exact hfin
end
end Go.Am
