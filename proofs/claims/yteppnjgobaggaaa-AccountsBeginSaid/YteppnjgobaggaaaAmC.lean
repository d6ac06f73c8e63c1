/- Nothing is claimed here: other views of the same run: less told, objects renamed, own slices seen as data. -/
import Derived.Test.YteppnjgobaggaaaAmB
namespace Go.Am
set_option linter.unusedSimpArgs false
set_option linter.unusedVariables false
set_option linter.unnecessarySimpa false
set_option linter.unusedSectionVars false
set_option maxRecDepth 100000
open Go Go.RowKit Go.Proofs.Grow

def rn (R : List (Nat × Nat)) (g : Nat) : Nat := match lk R g with
  | some k => k
  | none => g
mutual
def AV.ren (R : List (Nat × Nat)) : AV → AV
  | .d x => .d x
  | .rp cs => .rp cs
  | .ptr g off => .ptr (rn R g) off
  | .elt g sz i off => .elt (rn R g) sz i off
  | .own g => .own (rn R g)
  | .agg cs => .agg (AV.rens R cs)
  | .tup cs => .tup (AV.rens R cs)
  | .clo f cs => .clo f (AV.rens R cs)
def AV.rens (R : List (Nat × Nat)) : List AV → List AV
  | [] => []
  | c :: r => AV.ren R c :: AV.rens R r
end
theorem rens_len (R : List (Nat × Nat)) : ∀ cs : List AV, (AV.rens R cs).length = cs.length
  | [] => rfl
  | c :: r => by simp only [AV.rens, List.length_cons]; rw [rens_len R r]
theorem rens_get (R : List (Nat × Nat)) : ∀ (cs : List AV) (i : Nat), (AV.rens R cs)[i]? = (cs[i]?).map (AV.ren R)
  | [], i => by simp [AV.rens]
  | c :: r, 0 => by simp [AV.rens]
  | c :: r, i + 1 => by simp only [AV.rens, List.getElem?_cons_succ]; exact rens_get R r i
theorem VR.unren {H : Nat → Prop} {μ μ' : Nat → Option Value} {w : World} {R : List (Nat × Nat)} {k : Nat → Bool} (hμ : ∀ g u, k g = true → μ (rn R g) = some u → μ' g = some u) {x : AV} {v : Value} (h : VR H μ w x v) : ∀ y : AV, y.ren R = x → y.ok k = true → VR H μ' w y v := by
  induction h with
  | d h => intro y hy _; cases y <;> simp only [AV.ren] at hy <;> cases hy; exact .d h
  | ptr h => intro y hy ho; cases y <;> simp only [AV.ren] at hy <;> cases hy; exact .ptr (hμ _ _ ho h)
  | elt h => intro y hy ho; cases y <;> simp only [AV.ren] at hy <;> cases hy; exact .elt (hμ _ _ ho h)
  | own h => intro y hy ho; cases y <;> simp only [AV.ren] at hy <;> cases hy; exact .own (hμ _ _ ho h)
  | rp vs hb hlt hcell hval => intro y hy _; cases y <;> simp only [AV.ren] at hy <;> cases hy; exact .rp vs hb hlt hcell hval
  | @agg cs vs hl _ ih =>
    intro y hy ho
    cases y <;> simp only [AV.ren] at hy <;> cases hy
    rename_i ds
    refine .agg (by rw [← hl, rens_len]) fun i c v hc hv => ih i (c.ren R) v (by rw [rens_get, hc]; rfl) hv c rfl (AV.oks_get (by simpa [AV.ok] using ho) hc)
  | @tup cs vs hl _ ih =>
    intro y hy ho
    cases y <;> simp only [AV.ren] at hy <;> cases hy
    refine .tup (by rw [← hl, rens_len]) fun i c v hc hv => ih i (c.ren R) v (by rw [rens_get, hc]; rfl) hv c rfl (AV.oks_get (by simpa [AV.ok] using ho) hc)
  | @clo f cs vs hl _ ih =>
    intro y hy ho
    cases y <;> simp only [AV.ren] at hy <;> cases hy
    refine .clo (by rw [← hl, rens_len]) fun i c v hc hv => ih i (c.ren R) v (by rw [rens_get, hc]; rfl) hv c rfl (AV.oks_get (by simpa [AV.ok] using ho) hc)

theorem VRs.get' {H : Nat → Prop} {μ : Nat → Option Value} {w : World} {cs : List AV} {vs : List Value} (h : VRs H μ w cs vs) {i : Nat} {v : Value} (hv : vs[i]? = some v) : ∃ c, cs[i]? = some c ∧ VR H μ w c v := by
  have hi : i < cs.length := by rw [h.1]; exact (List.getElem?_eq_some_iff.1 hv).1
  exact ⟨cs[i], by simp [hi], h.2 i _ v (by simp [hi]) hv⟩
/-- The own slices that the new view does not keep. -/
def gone (M : List (Nat × AO)) (R : List (Nat × Nat)) (M' : List (Nat × AO)) : Nat → Option AO := fun g => match M'.any fun p => Nat.beq (rn R p.1) g with
  | true => none
  | false => lk M g
def VT (T : Nat → Option AV) (Mx : Nat → Option AO) (R : List (Nat × Nat)) (ok : Nat → Bool) : List (Nat × AV) → Prop
  | [] => True
  | p :: r => (∃ x, T p.1 = some x ∧ Cv Mx x (p.2.ren R)) ∧ p.2.ok ok = true ∧ VT T Mx R ok r
def OVw (Mx : Nat → Option AO) (R : List (Nat × Nat)) (ok : Nat → Bool) : AO → AO → Prop
  | .box ty cs, .box ty' cs' => ty = ty' ∧ Cvs Mx cs (AV.rens R cs') ∧ AV.oks ok cs' = true
  | .arr ty sz rs, .arr ty' sz' rs' => ty = ty' ∧ sz = sz' ∧ rs = rs'
  | .dead, .dead => True
  | _, _ => False
def VM (M : Nat → Option AO) (Mx : Nat → Option AO) (R : List (Nat × Nat)) (ok : Nat → Bool) : List (Nat × AO) → Prop
  | [] => True
  | p :: r => (∃ ob, M (rn R p.1) = some ob ∧ OVw Mx R ok ob p.2) ∧ VM M Mx R ok r
theorem VT_lk {T : Nat → Option AV} {Mx : Nat → Option AO} {R : List (Nat × Nat)} {ok : Nat → Bool} : ∀ {L : List (Nat × AV)}, VT T Mx R ok L → ∀ t y, lk L t = some y → (∃ x, T t = some x ∧ Cv Mx x (y.ren R)) ∧ y.ok ok = true
  | [], _, t, y, h => by simp [lk] at h
  | p :: r, hs, t, y, h => by
    simp only [lk] at h
    split at h
    · rename_i hb
      have := Nat.eq_of_beq_eq_true hb
      rw [← this, ← Option.some.inj h]; exact ⟨hs.1, hs.2.1⟩
    · exact VT_lk hs.2.2 t y h
theorem VM_lk {M Mx : Nat → Option AO} {R : List (Nat × Nat)} {ok : Nat → Bool} : ∀ {L : List (Nat × AO)}, VM M Mx R ok L → ∀ g ob', lk L g = some ob' → ∃ ob, M (rn R g) = some ob ∧ OVw Mx R ok ob ob'
  | [], _, t, y, h => by simp [lk] at h
  | p :: r, hs, t, y, h => by
    simp only [lk] at h
    split at h
    · rename_i hb
      have := Nat.eq_of_beq_eq_true hb
      rw [← this, ← Option.some.inj h]; exact hs.1
    · exact VM_lk hs.2 t y h
def injB (R : List (Nat × Nat)) : List (Nat × AO) → Bool
  | [] => true
  | p :: r => (r.all fun q => Nat.beq p.1 q.1 || !Nat.beq (rn R p.1) (rn R q.1)) && injB R r
theorem injB_spec {R : List (Nat × Nat)} : ∀ {L : List (Nat × AO)}, injB R L = true → ∀ g g', g ∈ L.map (·.1) → g' ∈ L.map (·.1) → rn R g = rn R g' → g = g'
  | [], _, g, g', h, _, _ => by simp at h
  | p :: r, hb, g, g', h, h', e => by
    simp only [injB, Bool.and_eq_true] at hb
    have key : ∀ q ∈ r, rn R p.1 = rn R q.1 → p.1 = q.1 := by
      intro q hq he
      have := List.all_eq_true.1 hb.1 q hq
      simp only [Bool.or_eq_true, Bool.not_eq_true'] at this
      rcases this with h1 | h1
      · exact Nat.eq_of_beq_eq_true h1
      · rw [he] at h1; simp at h1
    rcases List.mem_cons.1 h with rfl | h1 <;> rcases List.mem_cons.1 h' with rfl | h1'
    · rfl
    · obtain ⟨q, hq, rfl⟩ := List.mem_map.1 h1'
      exact key q hq e
    · obtain ⟨q, hq, rfl⟩ := List.mem_map.1 h1
      exact (key q hq e.symm).symm
    · exact injB_spec hb.2 g g' h1 h1' e

theorem keyIn_mem {L : List (Nat × AO)} {g : Nat} (h : keyIn L g = true) : g ∈ L.map (·.1) := by
  unfold keyIn at h
  cases e : lk L g with
  | some o => exact lk_mem (by rw [e]; rfl)
  | none => rw [e] at h; cases h
theorem upM_cons {L : List (Nat × AO)} {b : Nat} {x : AO} : upM (lk L) [(b, x)] = lk ((b, x) :: L) := by
  funext k; rw [lk_cons]; unfold upM; rw [lk_cons]; by_cases hk : b = k <;> simp [hk, lk]
/-- What the call began with keeps its names. -/
def baseB (Mi : List (Nat × AO)) (R : List (Nat × Nat)) (M' : List (Nat × AO)) : Bool := Mi.all fun p => keyIn M' p.1 && Nat.beq (rn R p.1) p.1
theorem Le_view {cx : Cx} {s : St} (Mi : List (Nat × AO)) (h0 : ∀ g u, cx.μ0 g = some u → keyIn Mi g = true) (R : List (Nat × Nat)) {T' : List (Nat × AV)} {M' : List (Nat × AO)} (hT : VT (lk s.T) (gone s.M R M') R (keyIn M') T') (hM : VM (lk s.M) (gone s.M R M') R (keyIn M') M') (hi : injB R M' = true)
    (hb : baseB Mi R M' = true) : Le cx s ⟨T', M'⟩ := by
  rintro a w ⟨μ, h⟩
  let μ' : Nat → Option Value := fun g => if keyIn M' g then μ (rn R g) else none
  have hkey : ∀ g o, lk M' g = some o → keyIn M' g = true := fun g o hg => by unfold keyIn; rw [hg]
  have hmem : ∀ g, keyIn M' g = true → g ∈ M'.map (·.1) := fun g hg => keyIn_mem hg
  have hinj : ∀ g g', keyIn M' g = true → keyIn M' g' = true → rn R g = rn R g' → g = g' := fun g g' hg hg' e => injB_spec hi g g' (hmem g hg) (hmem g' hg') e
  have hμ : ∀ g u, keyIn M' g = true → μ (rn R g) = some u → μ' g = some u := fun g u hg hu => by show (if keyIn M' g then μ (rn R g) else none) = some u; rw [if_pos hg]; exact hu
  have hμs : ∀ g u, μ' g = some u → keyIn M' g = true ∧ μ (rn R g) = some u := by
    intro g u hu
    have hu : (if keyIn M' g then μ (rn R g) else none) = some u := hu
    by_cases e : keyIn M' g = true
    · rw [if_pos e] at hu; exact ⟨e, hu⟩
    · rw [if_neg e] at hu; cases hu
  have hlive : ∀ g o', lk M' g = some o' → o'.live = true → ∃ o, lk s.M (rn R g) = some o ∧ o.live = true := by
    intro g o' hg hl
    obtain ⟨o, ho, hv⟩ := VM_lk hM g o' hg
    refine ⟨o, ho, ?_⟩
    cases o <;> cases o' <;> first | rfl | exact hv.elim | cases hl
  have hhot : ∀ b, Hot μ' (lk M') b → Hot μ (lk s.M) b := by
    rintro b ⟨g, o', u, q1, q2, q3, q4⟩
    obtain ⟨o, ho, hl⟩ := hlive g o' q1 q2
    exact ⟨rn R g, o, u, ho, hl, (hμs g u q3).2, q4⟩
  have hH : ∀ b, Ht cx μ' (lk M') b → Ht cx μ (lk s.M) b := fun b hb => hb.imp id (hhot b)
  have hgone : ∀ g o, gone s.M R M' g = some o → lk s.M g = some o ∧ ∀ k, keyIn M' k = true → rn R k ≠ g := by
    intro g o hg
    unfold gone at hg
    split at hg
    · cases hg
    · rename_i hn
      refine ⟨hg, fun k hk e => ?_⟩
      obtain ⟨p, hp, rfl⟩ := List.mem_map.1 (hmem k hk)
      have : (M'.any fun p => Nat.beq (rn R p.1) g) = true := List.any_eq_true.2 ⟨p, hp, by simp [e]⟩
      rw [this] at hn; cases hn
  have hsep : ∀ g o u b, gone s.M R M' g = some o → o.live = true → μ g = some u → blkOf u = some b → ¬ Ht cx μ' (lk M') b := by
    intro g o u b hg hl hu hb hq
    obtain ⟨hg1, hg2⟩ := hgone g o hg
    rcases hq with hq | ⟨k, p', x, r1, r2, r3, r4⟩
    · exact h.hot_h0 ⟨g, o, u, hg1, hl, hu, hb⟩ hq
    · obtain ⟨p, hp, hpl⟩ := hlive k p' r1 r2
      obtain ⟨e1, e2⟩ := hμs k x r3
      exact hg2 k e1 (h.inj (rn R k) g p o x u b hp hpl hg1 hl e2 hu r4 hb)
  have hval : ∀ x y v, VR (Ht cx μ (lk s.M)) μ w x v → Cv (gone s.M R M') x (y.ren R) → y.ok (keyIn M') = true → VR (Ht cx μ' (lk M')) μ' w y v := by
    intro x y v hv hc ho
    exact (h.coe (fun g o hg => (hgone g o hg).1) hH hsep hc hv).unren hμ y rfl ho
  have hkp : Keeps (Ht cx μ (lk s.M)) (Ht cx μ' (lk M')) w w := fun b hb hn => ⟨fun k => hn (hH b k), hb, rfl⟩
  refine ⟨μ', fun t y ht => ?_, fun g o' hg => ?_, fun g g' o o' v v' b q1 q2 q3 q4 q5 q6 q7 q8 => ?_, fun b hb => h.lo b (hhot b hb), h.fr, fun g hg => ?_, h.hs, fun g u hu => ?_, h.sz, h.df⟩
  · obtain ⟨⟨x, hx, hc⟩, ho⟩ := VT_lk hT t y ht
    exact hval x y _ (h.tm t x hx) hc ho
  · obtain ⟨ob, hob, hv⟩ := VM_lk hM g o' hg
    have hor := h.ob _ _ hob
    cases ob <;> cases o' <;> first | exact hv.elim | trivial | skip
    · obtain ⟨rfl, hc, ho⟩ := hv
      obtain ⟨b, vs, h1, h2, h3⟩ := hor
      refine ⟨b, vs, hμ g _ (hkey g _ hg) h1, h2, by rw [← h3.1, hc.1, rens_len], fun i c v hci hvi => ?_⟩
      obtain ⟨x, hx1, hx2⟩ := h3.get' hvi
      exact hval x c v hx2 (hc.2 i x _ hx1 (by rw [rens_get, hci]; rfl)) (AV.oks_get ho hci)
    · obtain ⟨rfl, rfl, rfl⟩ := hv
      obtain ⟨v, xs, h1, h2, h3, h4, h5⟩ := hor
      exact ⟨v, xs, hμ g _ (hkey g _ hg) h1, h2, h3, h4.mono hkp, h5⟩
  · obtain ⟨p, hp, hl⟩ := hlive g o q1 q2
    obtain ⟨p', hp', hl'⟩ := hlive g' o' q3 q4
    obtain ⟨e1, e2⟩ := hμs g v q5
    obtain ⟨e1', e2'⟩ := hμs g' v' q6
    exact hinj g g' e1 e1' (h.inj _ _ p p' v v' b hp hl hp' hl' e2 e2' q7 q8)
  · show (if keyIn M' g then μ (rn R g) else none) = none
    rw [if_neg]; rw [keyIn_none.2 hg]; simp
  · have hk := h0 g u hu
    have hm : g ∈ Mi.map (·.1) := keyIn_mem hk
    obtain ⟨p, hp, rfl⟩ := List.mem_map.1 hm
    have := List.all_eq_true.1 hb p hp
    simp only [Bool.and_eq_true] at this
    exact hμ p.1 u this.1 (by rw [Nat.eq_of_beq_eq_true this.2]; exact h.base p.1 u hu)

/-- The nil slice is an own slice of no elements. -/
theorem Le_nilT {cx : Cx} {s : St} (g : Nat) (t : Nat) (ty sz : Nat) (ht : lk s.T t = some (.d (.v (.slice none 0 0)))) (hg : lk s.M g = none) : Le cx s ⟨(t, .own g) :: s.T, (g, .arr ty sz []) :: s.M⟩ := by
  rintro a w ⟨μ, h⟩
  have h2 := h.new (w2 := w) (g := g) (o := .arr ty sz []) (v := .slice none 0 0) hg (Chg.refl _ _) rfl (fun b hb => by cases hb) (fun H' _ _ => ⟨_, [], upμ_self _ _, World.ownsRow_nil w 0 ty sz, by simp, ⟨rfl, by simp⟩, by simp⟩)
  have e : upM (lk s.M) [(g, .arr ty sz [])] = lk ((g, .arr ty sz []) :: s.M) := upM_cons
  rw [e] at h2
  refine ⟨_, fun k x hk => ?_, h2.ob, h2.inj, h2.lo, h2.fr, h2.free, h2.hs, h2.base, h2.sz, h2.df⟩
  rw [show lk (St.T ⟨(t, .own g) :: s.T, (g, .arr ty sz []) :: s.M⟩) = lk ((t, AV.own g) :: s.T) from rfl, lk_cons] at hk
  simp only at hk
  by_cases e2 : t = k
  · subst e2
    rw [if_pos rfl] at hk
    obtain rfl := Option.some.inj hk
    rw [(h.tm t _ ht).val]
    exact .own (upμ_self _ _)
  · rw [if_neg e2] at hk; exact h2.tm k x hk
theorem Le_nilM {cx : Cx} {s : St} (g b k : Nat) (ty sz : Nat) {bty : TypeId} {cs cs' : List AV} (hb : lk s.M b = some (.box bty cs)) (hk : cs[k]? = some (.d (.v (.slice none 0 0)))) (hg : lk s.M g = none) (hs : spl cs k [.own g] = some cs') : Le cx s ⟨s.T, (b, .box bty cs') :: (g, .arr ty sz []) :: s.M⟩ := by
  rintro a w ⟨μ, h⟩
  have h2 := h.new (w2 := w) (g := g) (o := .arr ty sz []) (v := .slice none 0 0) hg (Chg.refl _ _) rfl (fun b hb => by cases hb) (fun H' _ _ => ⟨_, [], upμ_self _ _, World.ownsRow_nil w 0 ty sz, by simp, ⟨rfl, by simp⟩, by simp⟩)
  have e : upM (lk s.M) [(g, .arr ty sz [])] = lk ((g, .arr ty sz []) :: s.M) := upM_cons
  rw [e] at h2
  have hne : g ≠ b := fun e => by rw [e, hb] at hg; cases hg
  have hb2 : lk ((g, .arr ty sz []) :: s.M) b = some (.box bty cs) := by rw [lk_cons]; simp [hne, hb]
  obtain ⟨bl, vs, b1, b2, b3⟩ := h2.ob b _ hb2
  have h3 := h2.write (w2 := w) hb2 rfl (o' := .box bty cs') rfl b1 rfl (Chg.refl _ _) (fun H' hkp _ => ⟨bl, vs, b1, b2, by
    obtain ⟨s1, s2⟩ := spl_spec hs
    have hl : cs'.length = cs.length := by rw [s1]; simp at s2 ⊢; omega
    refine ⟨by rw [hl]; exact b3.1, fun i c v hc hv => ?_⟩
    have hi : i < cs.length := by rw [← hl]; exact (List.getElem?_eq_some_iff.1 hc).1
    by_cases e2 : i = k
    · subst e2
      have : c = .own g := by
        rw [s1, List.getElem?_append_left (by simp; omega), List.getElem?_append_right (by rw [List.length_take]; omega)] at hc
        simp [Nat.min_eq_left (Nat.le_of_lt hi)] at hc
        exact hc.symm
      subst this
      rw [(b3.2 i _ v hk hv).val]
      exact .own (upμ_self _ _)
    · have : cs[i]? = some c := by
        rw [s1] at hc
        by_cases e3 : i < k
        · rw [List.getElem?_append_left (by simp; omega), List.getElem?_append_left (by simp; omega), List.getElem?_take_of_lt e3] at hc
          exact hc
        · rw [List.getElem?_append_right (by simp; omega)] at hc
          simp at s2
          simp [Nat.min_eq_left (show k ≤ cs.length by omega), show k + 1 + (i - (k + 1)) = i by omega] at hc
          exact hc
      exact (b3.2 i c v this hv).grow (fun _ _ hk => hk) hkp⟩)
  have e2 : upM (lk ((g, .arr ty sz []) :: s.M)) [(b, .box bty cs')] = lk ((b, .box bty cs') :: (g, .arr ty sz []) :: s.M) := upM_cons
  rw [e2] at h3
  exact ⟨_, h3⟩
end Go.Am
