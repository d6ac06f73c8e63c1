/- Nothing is claimed here: a contract on plain values, seen in the abstract view. -/
import Derived.Test.YteppnjgobaggaaaAmG
namespace Go.Am
set_option linter.unusedSimpArgs false
set_option linter.unusedVariables false
set_option linter.unnecessarySimpa false
set_option linter.unusedSectionVars false
set_option maxRecDepth 100000
open Go Go.RowKit Go.Proofs.Grow

mutual
def AV.val : AV → Option Value
  | .d (.v x) => some x
  | .agg cs => match AV.vals cs with
    | some vs => some (.agg vs.toArray)
    | none => none
  | .tup cs => match AV.vals cs with
    | some vs => some (.tuple vs.toArray)
    | none => none
  | _ => none
def AV.vals : List AV → Option (List Value)
  | [] => some []
  | c :: r => match AV.val c, AV.vals r with
    | some v, some vs => some (v :: vs)
    | _, _ => none
end
theorem vals_get : ∀ {cs : List AV} {vs : List Value}, AV.vals cs = some vs → cs.length = vs.length ∧ ∀ (i : Nat) (c : AV) (v : Value), cs[i]? = some c → vs[i]? = some v → c.val = some v
  | [], vs, h => by
    obtain rfl : [] = vs := by simpa [AV.vals] using h
    exact ⟨rfl, fun i c v hc => by simp at hc⟩
  | c :: r, vs, h => by
    simp only [AV.vals] at h
    split at h
    · rename_i v us h1 h2
      obtain rfl := Option.some.inj h
      obtain ⟨k1, k2⟩ := vals_get h2
      exact ⟨by simp [k1], fun i x u hx hu => by
        cases i with
        | zero => obtain rfl : c = x := by simpa using hx
                  obtain rfl : v = u := by simpa using hu
                  exact h1
        | succ i => exact k2 i x u (by simpa using hx) (by simpa using hu)⟩
    · cases h
theorem VR.of_val {H : Nat → Prop} {μ : Nat → Option Value} {w : World} : ∀ {x : AV} {v : Value}, x.val = some v → VR H μ w x v
  | .d (.v y), v, h => by
    obtain rfl : y = v := by simpa [AV.val] using h
    exact .d (.v _)
  | .agg cs, v, h => by
    simp only [AV.val] at h
    split at h
    · rename_i vs hv
      obtain rfl := Option.some.inj h
      obtain ⟨k1, k2⟩ := vals_get hv
      refine .agg k1 fun i c u hc hu => ?_
      have : SizeOf.sizeOf c < 1 + SizeOf.sizeOf cs := by
        have := List.sizeOf_lt_of_mem (List.mem_of_getElem? hc)
        omega
      exact VR.of_val (k2 i c u hc hu)
    · cases h
  | .tup cs, v, h => by
    simp only [AV.val] at h
    split at h
    · rename_i vs hv
      obtain rfl := Option.some.inj h
      obtain ⟨k1, k2⟩ := vals_get hv
      refine .tup k1 fun i c u hc hu => ?_
      have : SizeOf.sizeOf c < 1 + SizeOf.sizeOf cs := by
        have := List.sizeOf_lt_of_mem (List.mem_of_getElem? hc)
        omega
      exact VR.of_val (k2 i c u hc hu)
    · cases h
  | .d (.rows _ _), v, h => by simp [AV.val] at h
  | .ptr _ _, v, h => by simp [AV.val] at h
  | .elt _ _ _ _, v, h => by simp [AV.val] at h
  | .own _, v, h => by simp [AV.val] at h
  | .rp _, v, h => by simp [AV.val] at h
  | .clo _ _, v, h => by simp [AV.val] at h
termination_by x => SizeOf.sizeOf x
theorem VR.eq_val {H : Nat → Prop} {μ : Nat → Option Value} {w : World} {x : AV} {v : Value} (h : VR H μ w x v) : ∀ {u : Value}, x.val = some u → v = u := by
  have key : ∀ (cs : List AV) (vs us : List Value), cs.length = vs.length → AV.vals cs = some us → (∀ (i : Nat) (c : AV) (v : Value), cs[i]? = some c → vs[i]? = some v → ∀ {u : Value}, c.val = some u → v = u) → vs = us := by
    intro cs vs us hl hu ih
    obtain ⟨k1, k2⟩ := vals_get hu
    refine List.ext_getElem? fun i => ?_
    by_cases hi : i < vs.length
    · have hc : cs[i]? = some (cs[i]'(by omega)) := by rw [List.getElem?_eq_getElem]
      have hv : vs[i]? = some vs[i] := by rw [List.getElem?_eq_getElem]
      have hus : us[i]? = some (us[i]'(by omega)) := by rw [List.getElem?_eq_getElem]
      rw [hv, hus, ih i _ _ hc hv (k2 i _ _ hc hus)]
    · rw [List.getElem?_eq_none (by omega), List.getElem?_eq_none (by omega)]
  induction h with
  | @d x v h =>
    intro u hu
    cases h with
    | v x => simpa [AV.val] using hu
    | nil => simp [AV.val] at hu
    | rows => simp [AV.val] at hu
  | ptr h => intro u hu; simp [AV.val] at hu
  | elt h => intro u hu; simp [AV.val] at hu
  | own h => intro u hu; simp [AV.val] at hu
  | rp => intro u hu; simp [AV.val] at hu
  | @agg cs vs hl _ ih =>
    intro u hu
    simp only [AV.val] at hu
    split at hu
    · rename_i us hus
      obtain rfl := Option.some.inj hu
      rw [key cs vs us hl hus ih]
    · cases hu
  | @tup cs vs hl _ ih =>
    intro u hu
    simp only [AV.val] at hu
    split at hu
    · rename_i us hus
      obtain rfl := Option.some.inj hu
      rw [key cs vs us hl hus ih]
    · cases hu
  | clo => intro u hu; simp [AV.val] at hu
theorem VRs.eq_vals {H : Nat → Prop} {μ : Nat → Option Value} {w : World} {cs : List AV} {vs us : List Value} (h : VRs H μ w cs vs) (hu : AV.vals cs = some us) : vs = us := by
  obtain ⟨k1, k2⟩ := vals_get hu
  refine List.ext_getElem? fun i => ?_
  have hl := h.1
  by_cases hi : i < vs.length
  · have hc : cs[i]? = some (cs[i]'(by omega)) := by rw [List.getElem?_eq_getElem]
    have hv : vs[i]? = some vs[i] := by rw [List.getElem?_eq_getElem]
    have hus : us[i]? = some (us[i]'(by omega)) := by rw [List.getElem?_eq_getElem]
    rw [hv, hus, (h.2 i _ _ hc hv).eq_val (k2 i _ _ hc hus)]
  · rw [List.getElem?_eq_none (by omega), List.getElem?_eq_none (by omega)]

/-- The callee's beginning, as values. -/
theorem args_vrs {cx : Cx} {μ : Nat → Option Value} {M : Nat → Option AO} {args : List AV} {vs : List Value} {w : World} (hl : vs.length = args.length) (h : InvM cx μ (lk (argT 0 args)) M ⟨vs.toArray, []⟩ w) : VRs (Ht cx μ M) μ w args vs := by
  refine ⟨hl.symm, fun i c v hc hv => ?_⟩
  have key : ∀ (l : List AV) (k i : Nat) (c : AV), l[i]? = some c → lk (argT k l) (k + i) = some c := by
    intro l
    induction l with
    | nil => intro k i c h; simp at h
    | cons x r ih =>
      intro k i c h
      cases i with
      | zero => obtain rfl : x = c := by simpa using h
                simp [argT, lk]
      | succ i =>
        have hb : Nat.beq k (k + (i + 1)) = false := by
          cases hb : Nat.beq k (k + (i + 1))
          · rfl
          · have := Nat.eq_of_beq_eq_true hb; omega
        simp only [argT, lk, hb]
        have := ih (k + 1) i c (by simpa using h)
        rwa [show k + 1 + i = k + (i + 1) by omega] at this
  have h1 := h.tm i c (by have := key args 0 i c hc; rwa [Nat.zero_add] at this)
  have : (vs.toArray.getD i undef) = v := by simp [hv]
  rwa [this] at h1
theorem FnM.wrap {P : Program} {f : FuncId} {args : List AV} {res : AV} {avs : List Value} {rv : Value} (ha : AV.vals args = some avs) (hr : res.val = some rv) (h : ∀ w, Calls P f avs.toArray w fun e w' => e = .returned rv ∧ Ex w w') : FnM P f [] args res [] := by
  intro H0 μ w vs hl hI
  have hv := (args_vrs hl hI).eq_vals ha
  subst hv
  refine (h w).mono ?_
  rintro e w' ⟨rfl, hx⟩
  have hno : ∀ b, ¬ Hot μ (lk []) b := by rintro b ⟨g, o, v, h1, _⟩; simp [lk] at h1
  refine ⟨rv, μ, rfl, fun t x ht => ?_, fun g o hg => by simp [lk] at hg, fun g g' o o' v v' b h1 => by simp [lk] at h1, fun b hb => (hno b hb).elim, ⟨hx.os, hx.tape, hx.output, hx.size, fun k hk _ => hx.block k hk⟩, hI.free, hI.hs, fun g u hu => hu, rfl, rfl⟩
  simp only [lk] at ht
  split at ht
  · rename_i hb
    have := Nat.eq_of_beq_eq_true hb
    subst this
    obtain rfl := Option.some.inj ht
    exact VR.of_val hr
  · cases ht
theorem FnM.wrap' {P : Program} {f : FuncId} {args : List AV} {res : AV} {avs : List Value} {rv : Value} (ha : AV.vals args = some avs) (hr : res.val = some rv) (h : ∀ w, Calls P f avs.toArray w fun e w' => e = .returned rv ∧ w = w') : FnM P f [] args res [] :=
  FnM.wrap ha hr fun w => (h w).mono fun _ _ ⟨he, hw⟩ => ⟨he, hw ▸ Ex.refl _⟩
end Go.Am
