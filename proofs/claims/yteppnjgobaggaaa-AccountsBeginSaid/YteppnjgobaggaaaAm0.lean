/- Nothing is claimed here: an abstract view of a run: plain data, objects of the call's own, and how they lie in the memory. -/
import Derived.Test.YteppnjgobaggaaaFree
import Derived.Test.YteppnjgobaggaaaRows2
namespace Go.Am
set_option linter.unusedSimpArgs false
set_option linter.unusedVariables false
set_option linter.unnecessarySimpa false
set_option linter.unusedSectionVars false
set_option maxRecDepth 100000
open Go Go.RowKit Go.Proofs.Grow

/-- The first entry of a key. -/
def lk {α : Type} : List (Nat × α) → Nat → Option α
  | [], _ => none
  | p :: r, t => match Nat.beq p.1 t with
    | true => some p.2
    | false => lk r t

/-- Plain data: values that need no memory of the call's own, and slices that are not written. -/
inductive D where
  | v (x : Value)
  | rows (sz : Nat) (rs : List (List D))

/-- What a slot or a cell holds: data; a pointer to a cell of an object; one to a cell of an element; the slice that is an object; a pointer to cells that are not written; struct; several results; a function with what it captured. -/
inductive AV where
  | d (x : D)
  | ptr (g off : Nat)
  | elt (g sz i off : Nat)
  | own (g : Nat)
  | rp (cs : List D)
  | agg (cs : List AV)
  | tup (cs : List AV)
  | clo (f : FuncId) (cs : List AV)

/-- An object of the call: a variable, or a slice that it owns. -/
inductive AO where
  | box (ty : TypeId) (cs : List AV)
  | arr (ty : TypeId) (sz : Nat) (rs : List (List D))
  | dead

def AO.live : AO → Bool
  | .dead => false
  | _ => true

mutual
def AV.ok (g : Nat → Bool) : AV → Bool
  | .d _ => true
  | .rp _ => true
  | .ptr x _ => g x
  | .elt x _ _ _ => g x
  | .own x => g x
  | .agg cs => AV.oks g cs
  | .tup cs => AV.oks g cs
  | .clo _ cs => AV.oks g cs
def AV.oks (g : Nat → Bool) : List AV → Bool
  | [] => true
  | c :: r => AV.ok g c && AV.oks g r
end

theorem AV.oks_get {g : Nat → Bool} {cs : List AV} (h : AV.oks g cs = true) {i : Nat} {c : AV} (hc : cs[i]? = some c) : AV.ok g c = true := by
  induction cs generalizing i with
  | nil => simp at hc
  | cons x r ih =>
    simp only [AV.oks, Bool.and_eq_true] at h
    cases i with
    | zero => obtain rfl : x = c := by simpa using hc
              exact h.1
    | succ i => exact ih h.2 (by simpa using hc)

def blkOf : Value → Option Nat
  | .pointer (some a) => some a.block
  | .slice (some a) _ _ => some a.block
  | _ => none

/-- How data lies in the memory, in blocks that are not of H. -/
inductive VD (H : Nat → Prop) (w : World) : D → Value → Prop
  | v (x : Value) : VD H w (.v x) x
  | nil (sz : Nat) (a : Option Addr) (cap : Nat) (hc : a = none → cap = 0) : VD H w (.rows sz []) (.slice a 0 cap)
  | rows (sz : Nat) (rs : List (List D)) (b off cap : Nat) (vs : Nat → Nat → Value) (hne : rs ≠ []) (hcap : rs.length ≤ cap) (hlen : rs.length ≤ maxLen) (hb : ¬ H b) (hlt : b < w.heap.size)
      (hsz : ∀ (i : Nat) (r : List D), rs[i]? = some r → r.length = sz) (hcell : ∀ (i : Nat) (r : List D) (j : Nat) (c : D), rs[i]? = some r → r[j]? = some c → w.cell? ⟨b, off + i * sz + j, none⟩ = some (vs i j))
      (hone : ∀ (i : Nat) (r : List D) (j : Nat) (c : D), rs[i]? = some r → r[j]? = some c → (vs i j).oneCell' = true)
      (hval : ∀ (i : Nat) (r : List D) (j : Nat) (c : D), rs[i]? = some r → r[j]? = some c → VD H w c (vs i j)) : VD H w (.rows sz rs) (.slice (some ⟨b, off, none⟩) rs.length cap)

inductive VR (H : Nat → Prop) (μ : Nat → Option Value) (w : World) : AV → Value → Prop
  | d {x : D} {v : Value} (h : VD H w x v) : VR H μ w (.d x) v
  | ptr {g b off : Nat} (h : μ g = some (.pointer (some ⟨b, 0, none⟩))) : VR H μ w (.ptr g off) (.pointer (some ⟨b, off, none⟩))
  | elt {g b n cap sz i off : Nat} (h : μ g = some (.slice (some ⟨b, 0, none⟩) n cap)) : VR H μ w (.elt g sz i off) (.pointer (some ⟨b, i * sz + off, none⟩))
  | own {g : Nat} {a : Option Addr} {n cap : Nat} (h : μ g = some (.slice a n cap)) : VR H μ w (.own g) (.slice a n cap)
  | rp {cs : List D} {b off : Nat} (vs : Nat → Value) (hb : ¬ H b) (hlt : b < w.heap.size) (hcell : ∀ (j : Nat) (c : D), cs[j]? = some c → w.cell? ⟨b, off + j, none⟩ = some (vs j))
      (hval : ∀ (j : Nat) (c : D), cs[j]? = some c → VD H w c (vs j)) : VR H μ w (.rp cs) (.pointer (some ⟨b, off, none⟩))
  | agg {cs : List AV} {vs : List Value} (hl : cs.length = vs.length) (h : ∀ (i : Nat) (c : AV) (v : Value), cs[i]? = some c → vs[i]? = some v → VR H μ w c v) : VR H μ w (.agg cs) (.agg vs.toArray)
  | tup {cs : List AV} {vs : List Value} (hl : cs.length = vs.length) (h : ∀ (i : Nat) (c : AV) (v : Value), cs[i]? = some c → vs[i]? = some v → VR H μ w c v) : VR H μ w (.tup cs) (.tuple vs.toArray)
  | clo {f : FuncId} {cs : List AV} {vs : List Value} (hl : cs.length = vs.length) (h : ∀ (i : Nat) (c : AV) (v : Value), cs[i]? = some c → vs[i]? = some v → VR H μ w c v) : VR H μ w (.clo f cs) (.func (.func f) #[] vs.toArray)

/-- A list of values. -/
def VRs (H : Nat → Prop) (μ : Nat → Option Value) (w : World) (cs : List AV) (vs : List Value) : Prop := cs.length = vs.length ∧ ∀ (i : Nat) (c : AV) (v : Value), cs[i]? = some c → vs[i]? = some v → VR H μ w c v
def VDs (H : Nat → Prop) (w : World) (cs : List D) (vs : List Value) : Prop := cs.length = vs.length ∧ ∀ (i : Nat) (c : D) (v : Value), cs[i]? = some c → vs[i]? = some v → VD H w c v

section
variable {H H' : Nat → Prop} {μ μ' : Nat → Option Value} {w w' : World}

/-- The world outside H is as it was. -/
def Keeps (H H' : Nat → Prop) (w w' : World) : Prop := ∀ b, b < w.heap.size → ¬ H b → ¬ H' b ∧ b < w'.heap.size ∧ w'.heap[b]? = w.heap[b]?
theorem Keeps.refl (H : Nat → Prop) (w : World) : Keeps H H w w := fun _ hb hh => ⟨hh, hb, rfl⟩
theorem cell_at {w w' : World} {b o : Nat} (h : w'.heap[b]? = w.heap[b]?) : w'.cell? ⟨b, o, none⟩ = w.cell? ⟨b, o, none⟩ := by simp [World.cell?, h]

theorem VD.mono {x : D} {v : Value} (h : VD H w x v) (hk : Keeps H H' w w') : VD H' w' x v := by
  induction h with
  | v x => exact .v x
  | nil sz a cap hc => exact .nil sz a cap hc
  | rows sz rs b off cap vs hne hcap hlen hb hlt hsz hcell hone hval ih =>
    obtain ⟨h1, h2, h3⟩ := hk b hlt hb
    exact .rows sz rs b off cap vs hne hcap hlen h1 h2 hsz (fun i r j c hr hc => by rw [cell_at h3]; exact hcell i r j c hr hc) hone ih
theorem VDs.mono {cs : List D} {vs : List Value} (h : VDs H w cs vs) (hk : Keeps H H' w w') : VDs H' w' cs vs :=
  ⟨h.1, fun i c v hc hv => (h.2 i c v hc hv).mono hk⟩

theorem VR.mono {x : AV} {v : Value} (h : VR H μ w x v) (g : Nat → Bool) (hok : x.ok g = true) (hμ : ∀ k u, g k = true → μ k = some u → μ' k = some u) (hk : Keeps H H' w w') : VR H' μ' w' x v := by
  induction h with
  | d h => exact .d (h.mono hk)
  | ptr h => exact .ptr (hμ _ _ hok h)
  | elt h => exact .elt (hμ _ _ hok h)
  | own h => exact .own (hμ _ _ hok h)
  | rp vs hb hlt hcell hval =>
    obtain ⟨h1, h2, h3⟩ := hk _ hlt hb
    exact .rp vs h1 h2 (fun j c hc => by rw [cell_at h3]; exact hcell j c hc) (fun j c hc => (hval j c hc).mono hk)
  | agg hl _ ih => exact .agg hl fun i c v hc hv => ih i c v hc hv (AV.oks_get (by simpa [AV.ok] using hok) hc)
  | tup hl _ ih => exact .tup hl fun i c v hc hv => ih i c v hc hv (AV.oks_get (by simpa [AV.ok] using hok) hc)
  | clo hl _ ih => exact .clo hl fun i c v hc hv => ih i c v hc hv (AV.oks_get (by simpa [AV.ok] using hok) hc)
mutual
theorem AV.ok_all : ∀ x : AV, x.ok (fun _ => true) = true
  | .d _ | .rp _ | .ptr _ _ | .elt _ _ _ _ | .own _ => by simp [AV.ok]
  | .agg cs | .tup cs | .clo _ cs => by simp only [AV.ok]; exact AV.oks_all cs
theorem AV.oks_all : ∀ cs : List AV, AV.oks (fun _ => true) cs = true
  | [] => by simp [AV.oks]
  | c :: r => by simp only [AV.oks, AV.ok_all c, AV.oks_all r]; rfl
end
theorem VR.grow {x : AV} {v : Value} (h : VR H μ w x v) (hμ : ∀ k u, μ k = some u → μ' k = some u) (hk : Keeps H H' w w') : VR H' μ' w' x v :=
  h.mono (fun _ => true) (AV.ok_all x) (fun k u _ => hμ k u) hk
theorem VRs.mono {cs : List AV} {vs : List Value} (h : VRs H μ w cs vs) (g : Nat → Bool) (hok : AV.oks g cs = true) (hμ : ∀ k u, g k = true → μ k = some u → μ' k = some u) (hk : Keeps H H' w w') : VRs H' μ' w' cs vs :=
  ⟨h.1, fun i c v hc hv => (h.2 i c v hc hv).mono g (AV.oks_get hok hc) hμ hk⟩
theorem VRs.grow {cs : List AV} {vs : List Value} (h : VRs H μ w cs vs) (hμ : ∀ k u, μ k = some u → μ' k = some u) (hk : Keeps H H' w w') : VRs H' μ' w' cs vs :=
  ⟨h.1, fun i c v hc hv => (h.2 i c v hc hv).grow hμ hk⟩
theorem VRs.nil : VRs H μ w [] [] := ⟨rfl, fun i c v hc _ => by simp at hc⟩
theorem VRs.cons {c : AV} {cs : List AV} {v : Value} {vs : List Value} (h : VR H μ w c v) (hs : VRs H μ w cs vs) : VRs H μ w (c :: cs) (v :: vs) :=
  ⟨by simp [hs.1], fun i x u hx hu => by
    cases i with
    | zero => obtain rfl : c = x := by simpa using hx
              obtain rfl : v = u := by simpa using hu
              exact h
    | succ i => exact hs.2 i x u (by simpa using hx) (by simpa using hu)⟩
theorem VRs.uncons {c : AV} {cs : List AV} {vs : List Value} (h : VRs H μ w (c :: cs) vs) : ∃ v r, vs = v :: r ∧ VR H μ w c v ∧ VRs H μ w cs r := by
  cases vs with
  | nil => have := h.1; simp at this
  | cons v r => exact ⟨v, r, rfl, h.2 0 c v rfl rfl, by have := h.1; simpa using this, fun i x u hx hu => h.2 (i + 1) x u (by simpa using hx) (by simpa using hu)⟩
theorem VRs.unnil {vs : List Value} (h : VRs H μ w [] vs) : vs = [] := by
  have := h.1
  exact List.eq_nil_of_length_eq_zero (by simpa using this.symm)
theorem VRs.get {cs : List AV} {vs : List Value} (h : VRs H μ w cs vs) {i : Nat} {c : AV} (hc : cs[i]? = some c) : ∃ v, vs[i]? = some v ∧ VR H μ w c v := by
  have hi : i < vs.length := by rw [← h.1]; exact (List.getElem?_eq_some_iff.1 hc).1
  exact ⟨vs[i], by simp [hi], h.2 i c _ hc (by simp [hi])⟩
theorem VRs.append {cs ds : List AV} {vs us : List Value} (h : VRs H μ w cs vs) (k : VRs H μ w ds us) : VRs H μ w (cs ++ ds) (vs ++ us) := by
  induction cs generalizing vs with
  | nil => rw [h.unnil]; exact k
  | cons c r ih => obtain ⟨v, t, rfl, h1, h2⟩ := h.uncons; exact VRs.cons h1 (ih h2)
theorem VRs.take {cs : List AV} {vs : List Value} (h : VRs H μ w cs vs) (n : Nat) : VRs H μ w (cs.take n) (vs.take n) :=
  ⟨by simp [h.1], fun i c v hc hv => by
    rw [List.getElem?_take] at hc hv
    split at hc
    · rename_i hin; rw [if_pos hin] at hv; exact h.2 i c v hc hv
    · cases hc⟩
theorem VRs.drop {cs : List AV} {vs : List Value} (h : VRs H μ w cs vs) (n : Nat) : VRs H μ w (cs.drop n) (vs.drop n) :=
  ⟨by simp [h.1], fun i c v hc hv => by rw [List.getElem?_drop] at hc hv; exact h.2 _ c v hc hv⟩
end
end Go.Am
