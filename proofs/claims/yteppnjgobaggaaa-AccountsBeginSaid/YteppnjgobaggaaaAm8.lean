/- Nothing is claimed here: contracts of functions in the abstract view, how a call meets one, and how one is shown from the function's code. -/
import Derived.Test.YteppnjgobaggaaaAm7
namespace Go.Am
set_option linter.unusedSimpArgs false
set_option linter.unusedVariables false
set_option linter.unnecessarySimpa false
set_option linter.unusedSectionVars false
set_option maxRecDepth 100000
open Go Go.RowKit Go.Proofs.Grow

/-- What a value may be seen as: an own slice as data, the nil slice as no elements. -/
inductive Cv (M : Nat → Option AO) : AV → AV → Prop
  | refl (x : AV) : Cv M x x
  | own {g ty sz : Nat} {rs : List (List D)} (h : M g = some (.arr ty sz rs)) : Cv M (.own g) (.d (.rows sz rs))
  | nil {sz : Nat} : Cv M (.d (.v (.slice none 0 0))) (.d (.rows sz []))
  | agg {cs ds : List AV} (hl : cs.length = ds.length) (h : ∀ (i : Nat) (c d : AV), cs[i]? = some c → ds[i]? = some d → Cv M c d) : Cv M (.agg cs) (.agg ds)
def Cvs (M : Nat → Option AO) (cs ds : List AV) : Prop := cs.length = ds.length ∧ ∀ (i : Nat) (c d : AV), cs[i]? = some c → ds[i]? = some d → Cv M c d
theorem Cvs.nil {M : Nat → Option AO} : Cvs M [] [] := ⟨rfl, fun i c d hc => by simp at hc⟩
theorem Cvs.cons {M : Nat → Option AO} {c d : AV} {cs ds : List AV} (h : Cv M c d) (hs : Cvs M cs ds) : Cvs M (c :: cs) (d :: ds) :=
  ⟨by simp [hs.1], fun i x y hx hy => by
    cases i with
    | zero => obtain rfl : c = x := by simpa using hx
              obtain rfl : d = y := by simpa using hy
              exact h
    | succ i => exact hs.2 i x y (by simpa using hx) (by simpa using hy)⟩
theorem Cv.aggs {M : Nat → Option AO} {cs ds : List AV} (h : Cvs M cs ds) : Cv M (.agg cs) (.agg ds) := .agg h.1 h.2

mutual
def AV.idl : AV → List Nat
  | .d _ => []
  | .rp _ => []
  | .ptr x _ => [x]
  | .elt x _ _ _ => [x]
  | .own x => [x]
  | .agg cs => AV.idls cs
  | .tup cs => AV.idls cs
  | .clo _ cs => AV.idls cs
def AV.idls : List AV → List Nat
  | [] => []
  | c :: r => AV.idl c ++ AV.idls r
end
theorem idls_get {cs : List AV} {i : Nat} {c : AV} (h : cs[i]? = some c) : ∀ g ∈ c.idl, g ∈ AV.idls cs := by
  induction cs generalizing i with
  | nil => simp at h
  | cons x r ih =>
    intro g hg
    simp only [AV.idls, List.mem_append]
    cases i with
    | zero => obtain rfl : x = c := by simpa using h
              exact .inl hg
    | succ i => exact .inr (ih (by simpa using h) g hg)
theorem Cv.local {M M' : Nat → Option AO} {x y : AV} (h : Cv M x y) : (∀ g ∈ x.idl, M' g = M g) → Cv M' x y := by
  induction h with
  | refl x => intro _; exact .refl x
  | own h => intro hM; exact .own (by rw [hM _ (by simp [AV.idl])]; exact h)
  | nil => intro _; exact .nil
  | agg hl _ ih => intro hM; exact .agg hl fun i c d hc hd => ih i c d hc hd fun g hg => hM g (by simp only [AV.idl]; exact idls_get hc g hg)
theorem Cvs.local {M M' : Nat → Option AO} {cs ds : List AV} (h : Cvs M cs ds) (hM : ∀ g ∈ AV.idls cs, M' g = M g) : Cvs M' cs ds :=
  ⟨h.1, fun i c d hc hd => (h.2 i c d hc hd).local fun g hg => hM g (idls_get hc g hg)⟩

mutual
def AV.noRows : AV → Bool
  | .d (.v _) => true
  | .d (.rows _ _) => false
  | .rp _ => false
  | .ptr _ _ => true
  | .elt _ _ _ _ => true
  | .own _ => true
  | .agg cs => AV.noRowss cs
  | .tup cs => AV.noRowss cs
  | .clo _ cs => AV.noRowss cs
def AV.noRowss : List AV → Bool
  | [] => true
  | c :: r => AV.noRows c && AV.noRowss r
end
theorem noRowss_get {cs : List AV} (h : AV.noRowss cs = true) {i : Nat} {c : AV} (hc : cs[i]? = some c) : c.noRows = true := by
  induction cs generalizing i with
  | nil => simp at hc
  | cons x r ih =>
    simp only [AV.noRowss, Bool.and_eq_true] at h
    cases i with
    | zero => obtain rfl : x = c := by simpa using hc
              exact h.1
    | succ i => exact ih h.2 (by simpa using hc)
theorem VR.anyH {H H' : Nat → Prop} {μ : Nat → Option Value} {w : World} {x : AV} {v : Value} (h : VR H μ w x v) : x.noRows = true → VR H' μ w x v := by
  induction h with
  | d h => intro hn; cases h with
    | v => exact .d (.v _)
    | nil => cases hn
    | rows => cases hn
  | ptr h => intro _; exact .ptr h
  | elt h => intro _; exact .elt h
  | own h => intro _; exact .own h
  | rp => intro hn; cases hn
  | agg hl _ ih => intro hn; exact .agg hl fun i c v hc hv => ih i c v hc hv (noRowss_get (by simpa [AV.noRows] using hn) hc)
  | tup hl _ ih => intro hn; exact .tup hl fun i c v hc hv => ih i c v hc hv (noRowss_get (by simpa [AV.noRows] using hn) hc)
  | clo hl _ ih => intro hn; exact .clo hl fun i c v hc hv => ih i c v hc hv (noRowss_get (by simpa [AV.noRows] using hn) hc)
def AO.noRows : AO → Bool
  | .box _ cs => AV.noRowss cs
  | .arr _ _ _ => false
  | .dead => true
def AO.ok (g : Nat → Bool) : AO → Bool
  | .box _ cs => AV.oks g cs
  | _ => true

def keyIn (L : List (Nat × AO)) (g : Nat) : Bool := match lk L g with
  | some _ => true
  | none => false
theorem keyIn_none {L : List (Nat × AO)} {g : Nat} : keyIn L g = false ↔ lk L g = none := by
  unfold keyIn; cases lk L g <;> simp
def argT : Nat → List AV → List (Nat × AV)
  | _, [] => []
  | k, x :: r => (k, x) :: argT (k + 1) r
theorem argT_lk : ∀ {l : List AV} {k t : Nat} {x : AV}, lk (argT k l) t = some x → k ≤ t ∧ l[t - k]? = some x
  | [], k, t, x, h => by simp [argT, lk] at h
  | y :: r, k, t, x, h => by
    simp only [argT, lk] at h
    split at h
    · rename_i hb
      have := Nat.eq_of_beq_eq_true hb
      subst this
      exact ⟨Nat.le_refl _, by simpa using h⟩
    · rename_i hb
      obtain ⟨h1, h2⟩ := argT_lk h
      refine ⟨by omega, ?_⟩
      have : t - k = (t - (k + 1)) + 1 := by omega
      rw [this]; simpa using h2

/-- A contract: from arguments and objects of such views the function returns a value of such a view, and leaves the objects so. -/
def FnM (P : Program) (f : FuncId) (Mi : List (Nat × AO)) (args : List AV) (res : AV) (Mo : List (Nat × AO)) : Prop :=
  ∀ (H0 : Nat → Prop) (μ : Nat → Option Value) (w : World) (vs : List Value), vs.length = args.length → InvM ⟨w, Hot μ (lk Mi), H0, vs.length, μ⟩ μ (lk (argT 0 args)) (lk Mi) ⟨vs.toArray, []⟩ w →
    Calls P f vs.toArray w fun e w' => ∃ v μ', e = .returned v ∧ InvM ⟨w, Hot μ (lk Mi), H0, 1, μ⟩ μ' (lk [(0, res)]) (lk Mo) ⟨#[v], []⟩ w'

def SubM (M : Nat → Option AO) : List (Nat × AO) → Prop
  | [] => True
  | p :: r => M p.1 = some p.2 ∧ SubM M r
theorem SubM_lk {M : Nat → Option AO} : ∀ {L : List (Nat × AO)}, SubM M L → ∀ g o, lk L g = some o → M g = some o
  | [], _, g, o, h => by simp [lk] at h
  | p :: r, hs, g, o, h => by
    simp only [lk] at h
    split at h
    · rename_i hb
      have := Nat.eq_of_beq_eq_true hb
      rw [← this, ← Option.some.inj h]; exact hs.1
    · exact SubM_lk hs.2 g o h
theorem SubM_congr {M M' : Nat → Option AO} : ∀ {L : List (Nat × AO)}, SubM M L → (∀ p ∈ L, M' p.1 = M p.1) → SubM M' L
  | [], _, _ => trivial
  | p :: r, hs, h => ⟨by rw [h p (by simp)]; exact hs.1, SubM_congr hs.2 fun q hq => h q (by simp [hq])⟩
def keysIn (L K : List (Nat × AO)) : Bool := L.all fun p => keyIn K p.1
theorem keysIn_spec {L K : List (Nat × AO)} (h : keysIn L K = true) {g : Nat} (hg : keyIn L g = true) : keyIn K g = true := by
  unfold keyIn at hg
  split at hg
  · rename_i o ho
    have hm : g ∈ L.map (·.1) := lk_mem (by rw [ho]; rfl)
    obtain ⟨p, hp, rfl⟩ := List.mem_map.1 hm
    exact List.all_eq_true.1 h p hp
  · cases hg
def freshIn (M : Nat → Option AO) (Mi : List (Nat × AO)) : List (Nat × AO) → Bool
  | [] => true
  | p :: r => (match lk Mi p.1, M p.1 with
    | some _, _ => true
    | none, none => true
    | none, some _ => false) && freshIn M Mi r
theorem freshIn_spec {M : Nat → Option AO} {Mi : List (Nat × AO)} : ∀ {L : List (Nat × AO)}, freshIn M Mi L = true → ∀ g, keyIn L g = true → keyIn Mi g = false → M g = none
  | [], _, g, h, _ => by simp [keyIn, lk] at h
  | p :: r, hf, g, h, hi => by
    simp only [freshIn, Bool.and_eq_true] at hf
    by_cases e : p.1 = g
    · subst e
      have h1 := hf.1
      rw [keyIn_none] at hi
      rw [hi] at h1
      cases hm : M p.1 with
      | none => rfl
      | some q => rw [hm] at h1; cases h1
    · refine freshIn_spec hf.2 g ?_ hi
      unfold keyIn at h ⊢
      simp only [lk] at h
      have hb : Nat.beq p.1 g = false := by
        cases hb : Nat.beq p.1 g
        · rfl
        · exact absurd (Nat.eq_of_beq_eq_true hb) e
      rw [hb] at h
      exact h
theorem freshIn_congr {M M' : Nat → Option AO} {Mi : List (Nat × AO)} : ∀ {L : List (Nat × AO)}, freshIn M Mi L = true → (∀ p ∈ L, M' p.1 = M p.1) → freshIn M' Mi L = true
  | [], _, _ => rfl
  | p :: r, hf, h => by
    simp only [freshIn, Bool.and_eq_true] at hf ⊢
    exact ⟨by rw [h p (by simp)]; exact hf.1, freshIn_congr hf.2 fun q hq => h q (by simp [hq])⟩

theorem OR.mono' {H H' : Nat → Prop} {μ μ' : Nat → Option Value} {w w2 : World} {g : Nat} {o : AO} (h : OR H μ w g o) (k : Nat → Bool) (hok : o.ok k = true) (hg : ∀ u, μ g = some u → μ' g = some u) (hμ : ∀ j u, k j = true → μ j = some u → μ' j = some u) (hk : Keeps H H' w w2) (hb : o.live = true → ∀ v b, μ g = some v → blkOf v = some b → w2.heap[b]? = w.heap[b]?) : OR H' μ' w2 g o := by
  cases o with
  | dead => trivial
  | box ty cs =>
    obtain ⟨b, vs, h1, h2, h3⟩ := h
    exact ⟨b, vs, hg _ h1, by rw [hb rfl _ b h1 rfl]; exact h2, h3.mono k hok hμ hk⟩
  | arr ty sz rs =>
    obtain ⟨v, xs, h1, h2, h3, h4, h5⟩ := h
    exact ⟨v, xs, hg _ h1, ownsRow_at h2 (fun b hv => hb rfl v b h1 hv), h3, h4.mono hk, h5⟩
theorem OR.anyH {H H' : Nat → Prop} {μ : Nat → Option Value} {w : World} {g : Nat} {o : AO} (h : OR H μ w g o) (hn : o.noRows = true ∨ ∃ ty sz rs, o = .arr ty sz rs ∧ (∀ r ∈ rs, ∀ c ∈ r, (AV.d c).noRows = true)) : OR H' μ w g o := by
  cases o with
  | dead => trivial
  | box ty cs =>
    obtain ⟨b, vs, h1, h2, h3⟩ := h
    rcases hn with hn | ⟨_, _, _, e, _⟩
    · exact ⟨b, vs, h1, h2, h3.1, fun i c v hc hv => (h3.2 i c v hc hv).anyH (noRowss_get (by simpa [AO.noRows] using hn) hc)⟩
    · cases e
  | arr ty sz rs =>
    obtain ⟨v, xs, h1, h2, h3, h4, h5⟩ := h
    rcases hn with hn | ⟨_, _, _, e, hr⟩
    · cases hn
    · cases e
      refine ⟨v, xs, h1, h2, h3, ⟨h4.1, fun i c v hc hv => ?_⟩, h5⟩
      have hcm : (AV.d c).noRows = true := by
        obtain ⟨r, hr1, hr2⟩ := List.mem_flatten.1 (List.mem_of_getElem? hc)
        exact hr r hr1 c hr2
      have := VR.anyH (H' := H') (μ := μ) (VR.d (h4.2 i c v hc hv)) hcm
      cases this with | d h => exact h

def resK (μ : Nat → Option Value) (L : List (Nat × AO)) : Nat → Option Value := fun g => if keyIn L g then μ g else none
theorem resK_some {μ : Nat → Option Value} {L : List (Nat × AO)} {g : Nat} {v : Value} (h : resK μ L g = some v) : μ g = some v := by
  unfold resK at h
  by_cases e : keyIn L g = true
  · rwa [if_pos e] at h
  · rw [if_neg e] at h; cases h
theorem lk_pair {α : Type} {L : List (Nat × α)} {g : Nat} {o : α} (h : lk L g = some o) : ∃ p ∈ L, p.2 = o := by
  induction L with
  | nil => simp [lk] at h
  | cons p r ih =>
    simp only [lk] at h
    split at h
    · exact ⟨p, by simp, Option.some.inj h⟩
    · obtain ⟨q, hq, e⟩ := ih h
      exact ⟨q, by simp [hq], e⟩
theorem Hot_resK {μ : Nat → Option Value} {L : List (Nat × AO)} {b : Nat} : Hot (resK μ L) (lk L) b ↔ Hot μ (lk L) b := by
  constructor
  · rintro ⟨g, o, v, h1, h2, h3, h4⟩
    unfold resK at h3
    split at h3
    · exact ⟨g, o, v, h1, h2, h3, h4⟩
    · cases h3
  · rintro ⟨g, o, v, h1, h2, h3, h4⟩
    refine ⟨g, o, v, h1, h2, ?_, h4⟩
    unfold resK keyIn
    rw [h1]; exact h3

section
variable {cx : Cx} {μ : Nat → Option Value} {T : Nat → Option AV} {M : Nat → Option AO} {a : Act} {w : World}
theorem InvM.hot_h0 (h : InvM cx μ T M a w) {b : Nat} (hb : Hot μ M b) : ¬ cx.H0 b := by
  intro h0
  obtain ⟨h1, h2⟩ := h.hs b h0
  rcases (h.lo b hb).2 with q | q
  · exact h2 q
  · omega
theorem InvM.ht_lt (h : InvM cx μ T M a w) {b : Nat} (hb : Ht cx μ M b) : b < w.heap.size := by
  rcases hb with hb | hb
  · exact Nat.lt_of_lt_of_le (h.hs b hb).1 h.fr.size
  · exact (h.lo b hb).1
theorem hot_sub {Mi : List (Nat × AO)} (hMi : ∀ g o, lk Mi g = some o → M g = some o) {b : Nat} (hb : Hot μ (lk Mi) b) : Hot μ M b := by
  obtain ⟨g, o, v, h1, h2, h3, h4⟩ := hb
  exact ⟨g, o, v, hMi g o h1, h2, h3, h4⟩

/-- The callee's beginning. -/
theorem InvM.enter (h : InvM cx μ T M a w) {Mi : List (Nat × AO)} (hMi : ∀ g o, lk Mi g = some o → M g = some o) {ys : List AV} {vs : List Value} (H0 : Nat → Prop) (h1 : ∀ b, H0 b → Ht cx μ M b) (h2 : ∀ b, H0 b → ¬ Hot μ (lk Mi) b)
    (hv : VRs (fun b => H0 b ∨ Hot μ (lk Mi) b) μ w ys vs) (hoy : AV.oks (keyIn Mi) ys = true) (hom : (Mi.all fun p => p.2.ok (keyIn Mi)) = true) : InvM ⟨w, Hot (resK μ Mi) (lk Mi), H0, vs.length, resK μ Mi⟩ (resK μ Mi) (lk (argT 0 ys)) (lk Mi) ⟨vs.toArray, []⟩ w := by
  have hH : Ht ⟨w, Hot (resK μ Mi) (lk Mi), H0, vs.length, resK μ Mi⟩ (resK μ Mi) (lk Mi) = fun b => H0 b ∨ Hot μ (lk Mi) b := by
    funext b; simp only [Ht, Hot_resK]
  have hμ : ∀ j u, keyIn Mi j = true → μ j = some u → resK μ Mi j = some u := fun j u hj hu => by unfold resK; rw [if_pos hj]; exact hu
  refine ⟨fun t x ht => ?_, fun g o hg => ?_, fun g g' o o' v v' b q1 q2 q3 q4 q5 q6 q7 q8 => ?_, fun b hb => ?_, Chg.refl _ _, fun g hg => ?_, fun b hb => ?_, fun g u hu => hu, by simp, rfl⟩
  · rw [hH]
    obtain ⟨_, hx⟩ := argT_lk ht
    simp only [Nat.sub_zero] at hx
    obtain ⟨v, hv1, hv2⟩ := hv.get hx
    have : (vs.toArray.getD t undef) = v := by simp [hv1]
    rw [this]
    exact hv2.mono (keyIn Mi) (AV.oks_get hoy hx) hμ (Keeps.refl _ _)
  · rw [hH]
    refine (h.ob g o (hMi g o hg)).mono' (keyIn Mi) ?_ (fun u hu => hμ g u (by unfold keyIn; rw [hg]) hu) hμ (fun b hb hn => ⟨fun k => ?_, hb, rfl⟩) (fun _ _ _ _ _ => rfl)
    · obtain ⟨p, hp, rfl⟩ := lk_pair hg
      exact List.all_eq_true.1 hom p hp
    · rcases k with k | k
      · exact hn (h1 b k)
      · exact hn (.inr (hot_sub hMi k))
  · have e1 : μ g = some v := resK_some q5
    have e2 : μ g' = some v' := resK_some q6
    exact h.inj g g' o o' v v' b (hMi g o q1) q2 (hMi g' o' q3) q4 e1 e2 q7 q8
  · exact ⟨(h.lo b (hot_sub hMi (Hot_resK.1 hb))).1, .inl hb⟩
  · unfold resK; rw [if_neg]; rw [keyIn_none.2 hg]; simp
  · exact ⟨h.ht_lt (h1 b hb), fun k => h2 b hb (Hot_resK.1 k)⟩

def PlainO : AO → Prop
  | .box _ cs => AV.noRowss cs = true
  | .arr _ _ rs => ∀ r ∈ rs, ∀ c ∈ r, (AV.d c).noRows = true
  | .dead => True
def PlainL : List (Nat × AO) → Prop
  | [] => True
  | p :: r => PlainO p.2 ∧ PlainL r
theorem PlainL_lk : ∀ {L : List (Nat × AO)}, PlainL L → ∀ g o, lk L g = some o → PlainO o
  | [], _, g, o, h => by simp [lk] at h
  | p :: r, hs, g, o, h => by
    simp only [lk] at h
    split at h
    · rw [← Option.some.inj h]; exact hs.1
    · exact PlainL_lk hs.2 g o h
theorem OR.plain {H H' : Nat → Prop} {g : Nat} {o : AO} (h : OR H μ w g o) (hp : PlainO o) : OR H' μ w g o := by
  refine h.anyH ?_
  cases o with
  | box ty cs => exact .inl hp
  | arr ty sz rs => exact .inr ⟨_, _, _, rfl, hp⟩
  | dead => exact .inl rfl
theorem upM_in {Mo : List (Nat × AO)} {g : Nat} (h : keyIn Mo g = true) : upM M Mo g = lk Mo g := by
  unfold keyIn at h; unfold upM
  cases e : lk Mo g with
  | some o => rfl
  | none => rw [e] at h; cases h
theorem upM_out {Mo : List (Nat × AO)} {g : Nat} (h : keyIn Mo g = false) : upM M Mo g = M g := by
  unfold upM; rw [keyIn_none.1 h]

/-- Behind the callee's end. -/
theorem InvM.leave (h : InvM cx μ T M a w) {Mi Mo : List (Nat × AO)} (hMi : ∀ g o, lk Mi g = some o → M g = some o) (hsub : keysIn Mi Mo = true) (hfr : freshIn M Mi Mo = true) {H0 : Nat → Prop} {μ' : Nat → Option Value} {w' : World} {v : Value} {res : AV} {n : Nat}
    (hI : InvM ⟨w, Hot (resK μ Mi) (lk Mi), H0, n, resK μ Mi⟩ μ' (lk [(0, res)]) (lk Mo) ⟨#[v], []⟩ w') (hor : AV.ok (keyIn Mo) res = true) (hom : (Mo.all fun p => p.2.ok (keyIn Mo)) = true)
    (hal : (∀ b, Ht cx μ M b → ¬ Hot μ (lk Mi) b → H0 b) ∨ (res.noRows = true ∧ PlainL Mo)) :
    InvM cx (fun g => if keyIn Mo g then μ' g else μ g) T (upM M Mo) a w' ∧ VR (Ht cx (fun g => if keyIn Mo g then μ' g else μ g) (upM M Mo)) (fun g => if keyIn Mo g then μ' g else μ g) w' res v := by
  generalize hμ2 : (fun g => if keyIn Mo g then μ' g else μ g) = μ2
  have hin : ∀ g, keyIn Mo g = true → μ2 g = μ' g := fun g hg => by rw [← hμ2]; simp only [hg, if_true]
  have hout : ∀ g, keyIn Mo g = false → μ2 g = μ g := fun g hg => by rw [← hμ2]; simp [hg]
  have hkey : ∀ g o, lk Mo g = some o → keyIn Mo g = true := fun g o hg => by unfold keyIn; rw [hg]
  have hkeyi : ∀ g o, lk Mi g = some o → keyIn Mi g = true := fun g o hg => by unfold keyIn; rw [hg]
  have hsubk : ∀ g, keyIn Mi g = true → keyIn Mo g = true := fun g hg => keysIn_spec hsub hg
  -- a block of an object of Mi, and of one of M, is of one object
  have hmi : ∀ b g o u, M g = some o → o.live = true → μ g = some u → blkOf u = some b → Hot μ (lk Mi) b → keyIn Mi g = true := by
    rintro b g o u q1 q2 q3 q4 ⟨k, p, x, r1, r2, r3, r4⟩
    have := h.inj k g p o x u b (hMi k p r1) r2 q1 q2 r3 q3 r4 q4
    subst this
    exact hkeyi k p r1
  have hhotn : ∀ b, Hot μ' (lk Mo) b → b < w'.heap.size ∧ (Hot μ (lk Mi) b ∨ w.heap.size ≤ b) := by
    intro b hb
    obtain ⟨q1, q2⟩ := hI.lo b hb
    exact ⟨q1, q2.imp Hot_resK.1 id⟩
  have hhot : ∀ b, Hot μ2 (upM M Mo) b → Hot μ' (lk Mo) b ∨ (Hot μ M b ∧ ¬ Hot μ (lk Mi) b) := by
    rintro b ⟨g, o, u, q1, q2, q3, q4⟩
    cases hk : keyIn Mo g
    · rw [upM_out hk] at q1
      rw [hout g hk] at q3
      refine .inr ⟨⟨g, o, u, q1, q2, q3, q4⟩, fun hm => ?_⟩
      have := hsubk g (hmi b g o u q1 q2 q3 q4 hm)
      rw [hk] at this; cases this
    · rw [upM_in hk] at q1
      rw [hin g hk] at q3
      exact .inl ⟨g, o, u, q1, q2, q3, q4⟩
  have hHt : ∀ b, ¬ Ht ⟨w, Hot (resK μ Mi) (lk Mi), H0, n, resK μ Mi⟩ μ' (lk Mo) b → (∀ b, Ht cx μ M b → ¬ Hot μ (lk Mi) b → H0 b) → ¬ Ht cx μ2 (upM M Mo) b := by
    intro b hn hal hb
    have n1 : ¬ H0 b := fun k => hn (.inl k)
    have n2 : ¬ Hot μ' (lk Mo) b := fun k => hn (.inr k)
    rcases hb with hb | hb
    · exact n1 (hal b (.inl hb) fun k => h.hot_h0 (hot_sub hMi k) hb)
    · rcases hhot b hb with k | ⟨k1, k2⟩
      · exact n2 k
      · exact n1 (hal b (.inr k1) k2)
  have hμin : ∀ j u, keyIn Mo j = true → μ' j = some u → μ2 j = some u := fun j u hj hu => by rw [hin j hj]; exact hu
  have hresv : VR (Ht ⟨w, Hot (resK μ Mi) (lk Mi), H0, n, resK μ Mi⟩ μ' (lk Mo)) μ' w' res v := hI.tm 0 res rfl
  have hval : VR (Ht cx μ2 (upM M Mo)) μ2 w' res v := by
    rcases hal with hal | ⟨hal, _⟩
    · exact hresv.mono (keyIn Mo) hor hμin fun b hb hn => ⟨hHt b hn hal, hb, rfl⟩
    · exact (hresv.anyH hal).mono (keyIn Mo) hor hμin (Keeps.refl _ _)
  refine ⟨?_, hval⟩
  have hch : Chg (Hot μ (lk Mi)) w w' := hI.fr.weaken fun k _ hk => Hot_resK.1 hk
  refine h.next hch (fun b hb => hot_sub hMi hb) (fun k u hk => ?_) (fun b hb => ?_) (fun g o hg => ?_) ?_ (fun g hg => ?_)
  · cases e : keyIn Mo k
    · rw [hout k e]; exact hk
    · rw [hin k e]
      cases e2 : keyIn Mi k
      · have := freshIn_spec hfr k e e2
        rw [h.free k this] at hk; cases hk
      · exact hI.base k u (by show resK μ Mi k = some u; unfold resK; rw [if_pos e2]; exact hk)
  · rcases hhot b hb with k | ⟨k, _⟩
    · obtain ⟨q1, q2⟩ := hhotn b k
      rcases q2 with q2 | q2
      · exact .inl (hot_sub hMi q2)
      · exact .inr ⟨q2, q1⟩
    · exact .inl k
  · cases e : keyIn Mo g
    · rw [upM_out e] at hg
      refine .inl ⟨hg, fun hl u b hu hb hm => ?_⟩
      have := hsubk g (hmi b g o u hg hl hu hb hm)
      rw [e] at this; cases this
    · rw [upM_in e] at hg
      right
      have hor2 := hI.ob g o hg
      obtain ⟨p, hp, hpo⟩ := lk_pair hg
      have hok : o.ok (keyIn Mo) = true := by rw [← hpo]; exact List.all_eq_true.1 hom p hp
      rcases hal with hal | ⟨_, hal⟩
      · exact hor2.mono' (keyIn Mo) hok (fun u hu => by rw [hin g e]; exact hu) hμin (fun b hb hn => ⟨hHt b hn hal, hb, rfl⟩) (fun _ _ _ _ _ => rfl)
      · exact (hor2.plain (PlainL_lk hal g o hg)).mono' (keyIn Mo) hok (fun u hu => by rw [hin g e]; exact hu) hμin (Keeps.refl _ _) (fun _ _ _ _ _ => rfl)
  · intro g g' o o' u u' b q1 q2 q3 q4 q5 q6 q7 q8
    have mix : ∀ g g' o o' u u', keyIn Mo g = true → keyIn Mo g' = false → upM M Mo g = some o → o.live = true → upM M Mo g' = some o' → o'.live = true → μ2 g = some u → μ2 g' = some u' → blkOf u = some b → blkOf u' = some b → False := by
      intro g g' o o' u u' e e' q1 q2 q3 q4 q5 q6 q7 q8
      rw [upM_in e] at q1
      rw [upM_out e'] at q3
      rw [hin g e] at q5
      rw [hout g' e'] at q6
      have hb := (h.lo b ⟨g', o', u', q3, q4, q6, q8⟩).1
      rcases (hhotn b ⟨g, o, u, q1, q2, q5, q7⟩).2 with q | q
      · have := hsubk g' (hmi b g' o' u' q3 q4 q6 q8 q)
        rw [e'] at this; cases this
      · omega
    cases e : keyIn Mo g <;> cases e' : keyIn Mo g'
    · rw [upM_out e] at q1
      rw [upM_out e'] at q3
      rw [hout g e] at q5
      rw [hout g' e'] at q6
      exact h.inj g g' o o' u u' b q1 q2 q3 q4 q5 q6 q7 q8
    · exact (mix g' g o' o u' u e' e q3 q4 q1 q2 q6 q5 q8 q7).elim
    · exact (mix g g' o o' u u' e e' q1 q2 q3 q4 q5 q6 q7 q8).elim
    · rw [upM_in e] at q1
      rw [upM_in e'] at q3
      rw [hin g e] at q5
      rw [hin g' e'] at q6
      exact hI.inj g g' o o' u u' b q1 q2 q3 q4 q5 q6 q7 q8
  · cases e : keyIn Mo g
    · rw [upM_out e] at hg; rw [hout g e]; exact h.free g hg
    · rw [upM_in e] at hg; rw [keyIn, hg] at e; cases e

/-- What a value is seen as holds in any class of blocks that leaves the seen slices out. -/
theorem InvM.coe (h : InvM cx μ T M a w) {Mx : Nat → Option AO} (hMx : ∀ g o, Mx g = some o → M g = some o) {H' : Nat → Prop} (h1 : ∀ b, H' b → Ht cx μ M b) (h2 : ∀ g o u b, Mx g = some o → o.live = true → μ g = some u → blkOf u = some b → ¬ H' b)
    {x y : AV} (hc : Cv Mx x y) : ∀ {v : Value}, VR (Ht cx μ M) μ w x v → VR H' μ w y v := by
  have hk : Keeps (Ht cx μ M) H' w w := fun b hb hn => ⟨fun k => hn (h1 b k), hb, rfl⟩
  induction hc with
  | refl x => intro v hv; exact hv.grow (fun _ _ hk => hk) hk
  | @own g ty sz rs hg =>
    intro v hv
    obtain ⟨u, xs, g1, ⟨g2, g3⟩, g4, g5, g6⟩ := h.ob g _ (hMx _ _ hg)
    cases hv with
    | @own _ ad len cap hb =>
      rw [g1] at hb
      obtain rfl : u = .slice ad len cap := by simpa using hb
      refine .d ?_
      rcases g3 with ⟨q, q0⟩ | ⟨c, cap', cur, q, _, q2, q3, q4, q5, q6⟩
      · simp only [Value.slice.injEq] at q
        obtain ⟨rfl, rfl, rfl⟩ := q
        obtain rfl : rs = [] := List.eq_nil_of_length_eq_zero q0
        exact .nil sz none 0 (fun _ => rfl)
      · simp only [Value.slice.injEq] at q
        obtain ⟨rfl, rfl, rfl⟩ := q
        by_cases hne : rs = []
        · subst hne; exact .nil sz _ cap (fun e => by cases e)
        have hlt := (Array.getElem?_eq_some_iff.1 q2).1
        have key : ∀ (i : Nat) (r : List D) (j : Nat) (d : D), rs[i]? = some r → r[j]? = some d → ∃ v, xs[i * sz + j]? = some v ∧ w.cell? ⟨c, 0 + i * sz + j, none⟩ = some v ∧ VD (Ht cx μ M) w d v := by
          intro i r j d hi hj
          have hf := flat_get g4 hi hj
          have hl : i * sz + j < xs.length := by rw [← g5.1]; exact (List.getElem?_eq_some_iff.1 hf).1
          obtain ⟨v, hv⟩ : ∃ v, xs[i * sz + j]? = some v := ⟨xs[i * sz + j], by simp [hl]⟩
          refine ⟨v, hv, ?_, g5.2 _ _ _ hf hv⟩
          rw [← q6, List.getElem?_take] at hv
          split at hv
          · simp only [World.cell?, q2, Nat.zero_add]; simpa using hv
          · cases hv
        refine .rows sz rs c 0 cap (fun i j => (xs[i * sz + j]?).getD undef) hne q3 (Nat.le_trans q3 q4) (h2 g _ _ c hg rfl g1 rfl) hlt (fun i r hr => g4 r (List.mem_of_getElem? hr)) (fun i r j d hi hj => ?_) (fun i r j d hi hj => ?_) (fun i r j d hi hj => ?_)
        · obtain ⟨v, k1, k2, k3⟩ := key i r j d hi hj
          rw [k1]; exact k2
        · obtain ⟨v, k1, k2, k3⟩ := key i r j d hi hj
          rw [k1]; exact g6 v (List.mem_of_getElem? k1)
        · obtain ⟨v, k1, k2, k3⟩ := key i r j d hi hj
          rw [k1]; exact k3.mono hk
  | nil =>
    intro v hv
    obtain rfl := hv.val
    exact .d (.nil _ none 0 fun _ => rfl)
  | agg hl _ ih =>
    intro v hv
    cases hv with
    | @agg _ vs hl2 hv =>
      refine .agg (by omega) fun i d u hd hu => ?_
      obtain ⟨hi, _⟩ := List.getElem?_eq_some_iff.1 hd
      exact ih i _ d (by rw [List.getElem?_eq_getElem (by omega)]) hd (hv i _ u (by rw [List.getElem?_eq_getElem (by omega)]) hu)
end
end Go.Am
