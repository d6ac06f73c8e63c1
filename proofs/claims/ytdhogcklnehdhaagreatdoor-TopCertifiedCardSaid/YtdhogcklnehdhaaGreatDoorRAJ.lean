import Derived.Test.YtdhogcklnehdhaaGreatDoorRAI
import Derived.Test.YtdhogcklnehdhaaGreatDoorRAF
namespace Go.Proofs.YtdhogcklnehdhaaGreatDoor
set_option linter.unusedSimpArgs false
set_option linter.unusedVariables false
set_option linter.unnecessarySimpa false
set_option linter.unusedSectionVars false
set_option maxRecDepth 100000
open Go Go.RowKit Go.Am Go.Proofs.Grow
/-- A quorum has voted for a claim. -/
def QA (c : List Mb) (V : Nat → Cl → Prop) (x : Cl) : Prop := ∃ U : Nat, U ≠ 0 ∧ U < 1024 ∧ ClQ c U ∧ ∀ j, U.testBit j = true → V j x
/-- A quorum with a member in it has accepted a claim; of the ill-behaved ones nothing is known. -/
def QC (c : List Mb) (ill : Nat) (A : Nat → Cl → Prop) (k : Nat) (x : Cl) : Prop :=
  ∃ W : Nat, W < 1024 ∧ W.testBit k = true ∧ ∀ j, W.testBit j = true → j < c.length ∧ (ill.testBit j = false → satT (W : Int) (nth c j).t = true ∧ A j x)
theorem QA.mono {c : List Mb} {V V' : Nat → Cl → Prop} (h : ∀ j x, V j x → V' j x) {x : Cl} : QA c V x → QA c V' x := fun ⟨U, h1, h2, h3, h4⟩ => ⟨U, h1, h2, h3, fun j hj => h j x (h4 j hj)⟩
theorem QC.mono {c : List Mb} {ill k : Nat} {A A' : Nat → Cl → Prop} (h : ∀ j x, A j x → A' j x) {x : Cl} : QC c ill A k x → QC c ill A' k x :=
  fun ⟨W, h1, h2, h3⟩ => ⟨W, h1, h2, fun j hj => ⟨(h3 j hj).1, fun hi => ⟨((h3 j hj).2 hi).1, h j x ((h3 j hj).2 hi).2⟩⟩⟩
/-- All members are declared, with right trusts. -/
structure FullC (c : List Mb) : Prop where
  len : c.length ≤ 5
  pos : 1 ≤ c.length
  decl : ∀ k, k < c.length → (nth c k).decl = true
  fit : ∀ k, k < c.length → FitT c.length (nth c k).t
theorem FullC.bit {c : List Mb} (h : FullC c) {k : Nat} (hk : k < c.length) : (declN c).testBit k = true := by
  unfold declN; rw [declTo_bit, h.decl k hk]; simpa using hk
theorem he_lt {n : Nat} (hn : n ≤ 10) {v : Vo} (h : VoOK n v) (p : Ms → Bool) : setM p (v.he ++ [sayV v]) 0 < 1024 := by
  refine setM_lt p _ 0 (by decide) fun m hm => ?_
  rcases List.mem_append.1 hm with hm | hm
  · exact h.hb hn m hm
  · obtain rfl := List.mem_singleton.1 hm
    exact ⟨h.nd0, h.nd1⟩
/-- Whoever is blocked is blocked by somebody. -/
theorem blk_ne {n : Nat} (hn : n ≤ 10) {c : List Mb} {v : Nat} (hv : v < 10) (ht : FitT n (nth c v).t) (h : blkN c v 0 = true) : False := by
  unfold blkN at h
  have : satT (((andn 1023 0 ||| 2 ^ v : Nat)) : Int) (nth c v).t = true :=
    sat_all hn (or_lt10 (andn_lt10 (by decide)) (pow_lt hv)) ht fun k hk => by
      rw [Nat.testBit_or, andn_bit, bit_1023 (by omega), Nat.zero_testBit]; rfl
  rw [this] at h
  simp at h
theorem bit_ne {a : Nat} (h : a ≠ 0) : ∃ k, a.testBit k = true := ne_zero_bit h
/-- What can be accepted, a quorum has voted for: nobody is ill-behaved. -/
theorem acc_step {c : List Mb} (hc : FullC c) {V A : Nat → Cl → Prop} {u : Vo} {x : Cl} (hu : VoOK c.length u) (hk : u.nd < (c.length : Int)) (ht : u.t = (nth c u.nd.toNat).t) (hv : ∀ y ∈ u.vo, V u.nd.toNat y)
    (hm : ∀ m ∈ u.he, m.t = (nth c m.nd.toNat).t ∧ (∀ y ∈ m.vo, V m.nd.toNat y) ∧ ∀ y ∈ m.ac, A m.nd.toNat y) (hA : ∀ j y, A j y → QA c V y) (h : nxtV (viewF u) u = some x) : QA c V x := by
  have hl : c.length ≤ 10 := by have := hc.len; omega
  obtain ⟨_, hx, _, ha⟩ := nxt_some h
  have hnd := hu.nd0
  have hnd1 := hu.nd1
  have hacc : ∀ k, (accS (u.he ++ [sayV u]) x).testBit k = true → QA c V x := fun k hk => by
    obtain ⟨m, h1, h2, h3⟩ := mem_accS.1 hk
    rcases List.mem_append.1 h1 with h1 | h1
    · exact hA _ _ ((hm m h1).2.2 x h2)
    · obtain rfl := List.mem_singleton.1 h1
      exact absurd h2 hx
  have l1 : votS (u.he ++ [sayV u]) x < 1024 := he_lt hl hu _
  have l2 : accS (u.he ++ [sayV u]) x < 1024 := he_lt hl hu _
  simp only [accN, Bool.or_eq_true] at ha
  rcases ha with ha | ha
  · rcases Nat.decEq (accS (u.he ++ [sayV u]) x) 0 with e | e
    · obtain ⟨k, hk⟩ := bit_ne e
      exact hacc k hk
    · rw [e] at ha
      exact (blk_ne hl (by omega) (by rw [view_self hu]; exact hu.t) ha).elim
  · generalize hG : (greatN (viewF u) (votS (u.he ++ [sayV u]) x ||| accS (u.he ++ [sayV u]) x)).1 = G at *
    have hs := or_lt10 l1 l2
    have hcl : ClQ (viewF u) G := hG ▸ great_cl hs
    have hsub : ∀ k, G.testBit k = true → (votS (u.he ++ [sayV u]) x ||| accS (u.he ++ [sayV u]) x).testBit k = true := fun k hk => great_sub (hG ▸ hk)
    have hGl : G < 1024 := hG ▸ great_lt _ hs
    rcases Classical.em (∃ k, (accS (u.he ++ [sayV u]) x).testBit k = true) with ⟨k, hk⟩ | hno
    · exact hacc k hk
    · refine ⟨G, fun e => (by rw [e, Nat.zero_testBit] at ha; cases ha), hGl, fun j hj => ?_, fun j hj => ?_⟩
      · obtain ⟨d1, d2⟩ := hcl j hj
        rcases view_mem hl hu d1 with e | ⟨m, m1, m2⟩
        · subst e
          rw [view_self hu] at d2
          exact ⟨hc.bit (by omega), by rw [← ht]; exact d2⟩
        · subst m2
          rw [view_at hl hu m1] at d2
          have := (hu.he m m1).1.nd0
          have := (hu.he m m1).1.nd1
          exact ⟨hc.bit (by omega), by rw [← (hm m m1).1]; exact d2⟩
      · have := hsub j hj
        rw [Nat.testBit_or, Bool.or_eq_true] at this
        rcases this with h1 | h1
        · obtain ⟨m, m1, m2, m3⟩ := mem_votS.1 h1
          subst m3
          rcases List.mem_append.1 m1 with m1 | m1
          · exact (hm m m1).2.1 x m2
          · obtain rfl := List.mem_singleton.1 m1
            exact hv x m2
        · exact absurd ⟨j, h1⟩ hno
/-- What can be confirmed, a quorum has accepted. -/
theorem con_step {c : List Mb} (hc : FullC c) {ill : Nat} {A : Nat → Cl → Prop} {u : Vo} {x : Cl} (hu : VoOK c.length u) (hk : u.nd < (c.length : Int)) (ht : u.t = (nth c u.nd.toNat).t) (hx : x ∈ u.ac → A u.nd.toNat x)
    (hm : ∀ m ∈ u.he, ill.testBit m.nd.toNat = false → m.t = (nth c m.nd.toNat).t ∧ ∀ y ∈ m.ac, A m.nd.toNat y) (h : conN (viewF u) u.nd.toNat (accS (u.he ++ [sayV u]) x) = true) : QC c ill A u.nd.toNat x := by
  have hl : c.length ≤ 10 := by have := hc.len; omega
  have hnd := hu.nd0
  have l2 : accS (u.he ++ [sayV u]) x < 1024 := he_lt hl hu _
  unfold conN at h
  generalize hG : (greatN (viewF u) (accS (u.he ++ [sayV u]) x)).1 = G at *
  have hcl : ClQ (viewF u) G := hG ▸ great_cl l2
  have hsub : ∀ k, G.testBit k = true → (accS (u.he ++ [sayV u]) x).testBit k = true := fun k hk => great_sub (hG ▸ hk)
  have hGl : G < 1024 := hG ▸ great_lt _ l2
  refine ⟨G, hGl, h, fun j hj => ?_⟩
  obtain ⟨d1, d2⟩ := hcl j hj
  obtain ⟨m, m1, m2, m3⟩ := mem_accS.1 (hsub j hj)
  rcases List.mem_append.1 m1 with m1 | m1
  · subst m3
    rw [view_at hl hu m1] at d2
    have := (hu.he m m1).1.nd0
    have := (hu.he m m1).1.nd1
    exact ⟨by omega, fun hi => ⟨by rw [← (hm m m1 hi).1]; exact d2, (hm m m1 hi).2 x m2⟩⟩
  · obtain rfl := List.mem_singleton.1 m1
    have e : u.nd.toNat = j := m3
    subst e
    rw [view_self hu] at d2
    exact ⟨by omega, fun _ => ⟨by rw [← ht]; exact d2, hx m2⟩⟩
/-- The state of voters of a configuration, as they go on. -/
structure InvH (c : List Mb) (ill : Nat) (vs : List Vo) : Prop where
  len : vs.length = c.length
  ok : ∀ k, k < c.length → VoOK c.length (nth vs k)
  nd : ∀ k, k < c.length → (nth vs k).nd = (k : Int)
  tr : ∀ k, k < c.length → (nth vs k).t = (nth c k).t
  past : ∀ k, k < c.length → ∀ m ∈ (nth vs k).he, ill.testBit m.nd.toNat = false → Past m (nth vs m.nd.toNat)
  set : ∀ k, k < c.length → nxtV (viewF (nth vs k)) (nth vs k) = none
  acc : ill = 0 → ∀ k, k < c.length → ∀ x ∈ (nth vs k).ac, QA c (fun j y => j < c.length ∧ y ∈ (nth vs j).vo) x
  con : ∀ k, k < c.length → ∀ x ∈ (nth vs k).co, QC c ill (fun j y => y ∈ (nth vs j).ac) k x
/-- What a step does to a voter before it settles. -/
inductive Move (c : List Mb) (ill : Nat) (vs : List Vo) (k : Nat) : Vo → Prop
  | vote {x : Cl} (hx : okC x = true) (hc : ∀ y ∈ (nth vs k).vo, ctrC x y = false) : Move c ill vs k { nth vs k with vo := sortC ((nth vs k).vo ++ [x]) }
  | hear {j : Nat} (hj : j < c.length) (hn : j ≠ k) : Move c ill vs k { nth vs k with he := putM (nth vs k).he (sayV (nth vs j)) }
  | lie {m : Ms} (hm : MsOK c.length m) (hi : ill.testBit m.nd.toNat = true) (hn : m.nd ≠ (k : Int)) : Move c ill vs k { nth vs k with he := putM (nth vs k).he m }
theorem Move.spec {c : List Mb} {ill k : Nat} {vs : List Vo} {v : Vo} (h : Move c ill vs k v) (hi : InvH c ill vs) (hk : k < c.length) : VoOK c.length v ∧ Turn (nth vs k) v ∧ ∀ m ∈ v.he, ill.testBit m.nd.toNat = false → Past m (nth vs m.nd.toNat) := by
  have ok := hi.ok k hk
  cases h with
  | @vote x hx hc =>
    exact ⟨ok_vote ok hx hc, ⟨rfl, rfl, rfl, fun y hy => mem_sort.2 ⟨ok.vo.ok y hy, by simp [hy]⟩, rfl, rfl⟩, hi.past k hk⟩
  | @hear j hj hn =>
    have n1 := hi.nd j hj
    have n2 := hi.nd k hk
    have ms := say_ok (hi.ok j hj) (by rw [n1]; exact_mod_cast hj)
    refine ⟨ok_hear ok ms (by show (nth vs j).nd ≠ (nth vs k).nd; omega), ⟨rfl, rfl, rfl, fun y hy => hy, rfl, rfl⟩, fun m hm hil => ?_⟩
    rcases (putM_mem ok.asc).1 hm with rfl | ⟨h1, _⟩
    · have e : (sayV (nth vs j)).nd.toNat = j := by show (nth vs j).nd.toNat = j; omega
      rw [e]
      exact Past.say _
    · exact hi.past k hk m h1 hil
  | @lie m hm hil hn =>
    have n2 := hi.nd k hk
    refine ⟨ok_hear ok hm (by omega), ⟨rfl, rfl, rfl, fun y hy => hy, rfl, rfl⟩, fun y hy hil2 => ?_⟩
    rcases (putM_mem ok.asc).1 hy with rfl | ⟨h1, _⟩
    · rw [hil] at hil2; cases hil2
    · exact hi.past k hk y h1 hil2
theorem InvH.move {c : List Mb} (hc : FullC c) {ill k : Nat} {vs : List Vo} {v : Vo} (hi : InvH c ill vs) (hk : k < c.length) (h : Move c ill vs k v) : InvH c ill (vs.set k (turV (nth vs k) v)) := by
  obtain ⟨ok, tu, pa⟩ := h.spec hi hk
  have s := turV_spec (hi.ok k hk) ok tu
  generalize turV (nth vs k) v = w at *
  have hl := hi.len
  have hn : ∀ j, nth (vs.set k w) j = if k = j then w else nth vs j := fun j => nth_setI _ _ _ _ (by omega)
  have hg : ∀ j, Grows (nth vs j) (nth (vs.set k w) j) := fun j => by
    rw [hn]
    split
    · rename_i e; subst e; exact s.gr
    · exact .refl _
  have hw : nth (vs.set k w) k = w := by rw [hn, if_pos rfl]
  have hnd := hi.nd k hk
  have wnd : w.nd = (k : Int) := s.gr.nd.trans hnd
  have wt : w.t = (nth c k).t := s.gr.t.trans (hi.tr k hk)
  have pa2 : ∀ m ∈ w.he, ill.testBit m.nd.toNat = false → Past m (nth (vs.set k w) m.nd.toNat) := fun m hm hil => (pa m (by rw [← s.he]; exact hm) hil).grow (hg _)
  refine ⟨by rw [List.length_set]; exact hl, fun j hj => ?_, fun j hj => ?_, fun j hj => ?_, fun j hj => ?_, fun j hj => ?_, fun h0 j hj => ?_, fun j hj => ?_⟩
  · rw [hn]; split
    · exact s.ok
    · exact hi.ok j hj
  · rw [hn]; split
    · rename_i e; subst e; exact wnd
    · exact hi.nd j hj
  · rw [hn]; split
    · rename_i e; subst e; exact wt
    · exact hi.tr j hj
  · intro m hm hil
    rw [hn] at hm
    split at hm
    · exact pa2 m hm hil
    · exact (hi.past j hj m hm hil).grow (hg _)
  · rw [hn]; split
    · exact s.set
    · exact hi.set j hj
  · intro x hx
    subst h0
    have hmono : ∀ i y, (i < c.length ∧ y ∈ (nth vs i).vo) → (i < c.length ∧ y ∈ (nth (vs.set k w) i).vo) := fun i y h => ⟨h.1, (hg i).vo y h.2⟩
    rw [hn] at hx
    split at hx
    · rename_i e
      subst e
      refine s.acc (QA c fun i y => i < c.length ∧ y ∈ (nth (vs.set k w) i).vo) (fun y hy => (hi.acc rfl k hk y (by rw [← tu.ac]; exact hy)).mono hmono) (fun u y u1 u2 u3 u4 => ?_) x hx
      have und : u.nd = (k : Int) := by rw [u2.nd, tu.nd, hnd]
      have ut : u.nd.toNat = k := by rw [und]; rfl
      refine acc_step hc (A := fun i z => i < c.length ∧ z ∈ (nth vs i).ac) u1 (by omega) (by rw [ut, u2.t, tu.t]; exact hi.tr k hk) (fun z hz => ?_) (fun m hm => ?_) (fun i z hz => (hi.acc rfl i hz.1 z hz.2).mono hmono) u4
      · rw [ut]
        exact ⟨hk, by rw [hw, s.vo, ← u2.vo]; exact hz⟩
      · have m0 : m ∈ v.he := by rw [← u2.he]; exact hm
        have m1 := pa m m0 (by simp)
        have m2 := (ok.he m m0).1
        have m3 := m2.nd0
        have m4 := m2.nd1
        have m5 : m.nd.toNat < c.length := by omega
        exact ⟨m1.t.trans (hi.tr _ m5), fun z hz => ⟨m5, (hg _).vo z (m1.vo z hz)⟩, fun z hz => ⟨m5, m1.ac z hz⟩⟩
    · exact (hi.acc rfl j hj x hx).mono hmono
  · intro x hx
    have hmono : ∀ i y, y ∈ (nth vs i).ac → y ∈ (nth (vs.set k w) i).ac := fun i y h => (hg i).ac y h
    rw [hn] at hx
    split at hx
    · rename_i e
      subst e
      rcases s.new x hx with h1 | ⟨h1, h2⟩
      · exact (hi.con k hk x (by rw [← tu.co]; exact h1)).mono hmono
      · have wn : w.nd.toNat = k := by rw [wnd]; rfl
        have := con_step hc (ill := ill) (A := fun i y => y ∈ (nth (vs.set k w) i).ac) s.ok (by omega) (by rw [wn]; exact wt) (fun h => by rw [wn, hw]; exact h) (fun m hm hil => by
          have m1 := pa2 m hm hil
          have m2 := (s.ok.he m hm).1
          have m3 := m2.nd0
          have m4 := m2.nd1
          have m5 : m.nd.toNat < c.length := by omega
          refine ⟨m1.t.trans ?_, m1.ac⟩
          rw [hn]
          split
          · rename_i e; rw [← e]; exact wt
          · exact hi.tr _ m5) h2
        rw [wn] at this
        exact this
    · exact (hi.con j hj x hx).mono hmono
end Go.Proofs.YtdhogcklnehdhaaGreatDoor
namespace Go.Proofs.YtdhogcklnehdhaaGreatDoor
set_option linter.unusedSimpArgs false
set_option linter.unusedVariables false
set_option linter.unnecessarySimpa false
set_option linter.unusedSectionVars false
set_option maxRecDepth 100000
open Go Go.RowKit Go.Am Go.Proofs.Grow
/-- The sets that the search goes through. -/
def chnN (n : Nat) : Nat → Nat → List Nat
  | 0, _ => []
  | f + 1, s => s :: match nextF s n with
    | none => []
    | some t => chnN n f t
theorem chn_all : ∀ n, n ≤ 5 → ∀ t, t < 2 ^ n → t ∈ chnN n (2 ^ n) 0 := by
  have h : ∀ n ∈ List.range 6, ∀ t ∈ List.range (2 ^ n), t ∈ chnN n (2 ^ n) 0 := by decide +kernel
  exact fun n hn t ht => h n (List.mem_range.2 (by omega)) t (List.mem_range.2 ht)
theorem fnd_chn {c : List Mb} (hl : c.length ≤ 10) : ∀ (f s : Nat), s < 2 ^ c.length → (fndN c s).1 = 0 → ∀ t ∈ chnN c.length f s, t ≠ 0 → ¬ (quoN c t = true ∧ (greatN c (andn (memN c) t)).1 ≠ 0)
  | 0, s, _, _, t, ht, _ => by simp [chnN] at ht
  | f + 1, s, hs, h, t, ht, h0 => by
    rw [fndN_eq c hl hs] at h
    have hno : t = s → ¬ (quoN c t = true ∧ (greatN c (andn (memN c) t)).1 ≠ 0) := by
      rintro rfl hq
      rw [if_pos hq] at h
      exact h0 h
    rw [chnN] at ht
    rcases List.mem_cons.1 ht with e | ht
    · exact hno e
    · cases hn : nextF s c.length with
      | none => rw [hn] at ht; simp at ht
      | some u =>
        rw [hn] at ht h
        have hu := next_some hl hs hn
        rcases Classical.em (quoN c s = true ∧ (greatN c (andn (memN c) s)).1 ≠ 0) with hq | hq
        · rw [if_pos hq] at h
          have h : s = 0 := h
          subst h
          simp [quoN] at hq
        · rw [if_neg hq] at h
          exact fnd_chn hl f u hu.1 h t ht h0
theorem cl_quo {c : List Mb} {q : Nat} (hq : q < 1024) (h0 : q ≠ 0) (h : ClQ c q) : quoN c q = true := by
  unfold quoN
  have h1 : andn q (declN c) = 0 := by
    apply Nat.eq_of_testBit_eq
    intro k
    rw [andn_bit, Nat.zero_testBit]
    cases e : q.testBit k
    · rfl
    · rw [(h k e).1]; rfl
  have h2 : unhN c q = none := unhL_none.2 fun k hk => (h k ((mem_nodes hq).1 hk)).2
  rw [h1, h2]
  simp [h0]
theorem cl_mem {c : List Mb} {q k : Nat} (h : ClQ c q) (hk : q.testBit k = true) : k < c.length := by
  have := (h k hk).1
  unfold declN at this
  rw [declTo_bit] at this
  simp only [Bool.and_eq_true, decide_eq_true_eq] at this
  exact this.1
/-- Any two quorums meet. -/
def MeetC (c : List Mb) : Prop := ∀ a b : Nat, a ≠ 0 → b ≠ 0 → a < 1024 → b < 1024 → ClQ c a → ClQ c b → ∃ k, a.testBit k = true ∧ b.testBit k = true
theorem hold_meet {c : List Mb} (h5 : c.length ≤ 5) (h : (holdF c).1 = true) : MeetC c := by
  intro a b a0 b0 a1 b1 ha hb
  have hl : c.length ≤ 10 := by omega
  have hm := mem_lt hl
  unfold holdF at h
  split at h
  · cases h
  · have h : ((fndN c 0).1 == 0) = true := h
    rw [beq_iff_eq] at h
    rcases Classical.em (∃ k, a.testBit k = true ∧ b.testBit k = true) with e | e
    · exact e
    · exfalso
      have al : a < 2 ^ c.length := by
        rcases Nat.lt_or_ge a (2 ^ c.length) with q | q
        · exact q
        · obtain ⟨i, hi, hb⟩ := Nat.exists_ge_and_testBit_of_ge_two_pow q
          have := cl_mem ha hb
          omega
      have hp : 0 < 2 ^ c.length := Nat.pow_pos (by decide)
      refine fnd_chn hl _ 0 hp h a (chn_all _ h5 a al) a0 ⟨cl_quo a1 a0 ha, fun e0 => ?_⟩
      obtain ⟨k, hk⟩ := bit_ne b0
      have := great_keep (q := b) (s := andn (memN c) a) b1 (andn_lt10 hm) hb (fun j hj => by
        rw [andn_bit, mem_bit]
        have h1 := cl_mem hb hj
        have h2 : a.testBit j = false := by
          cases e2 : a.testBit j
          · rfl
          · exact absurd ⟨j, e2, hj⟩ e
        rw [h2]
        simpa using h1) k hk
      rw [e0, Nat.zero_testBit] at this
      cases this
end Go.Proofs.YtdhogcklnehdhaaGreatDoor
namespace Go.Proofs.YtdhogcklnehdhaaGreatDoor
set_option linter.unusedSimpArgs false
set_option linter.unusedVariables false
set_option linter.unnecessarySimpa false
set_option linter.unusedSectionVars false
set_option maxRecDepth 100000
open Go Go.RowKit Go.Am Go.Proofs.Grow
structure Mt where
  vs : List Vo
  st : Nat
  il : Nat
def mtZ : Mt := ⟨[], 0, 0⟩
structure Pl where
  kd : Int
  fr : Int
  to : Int
  c : Cl
  t : Tr
  m : Ms
def pl0 : Pl := ⟨0, 0, 0, (0, 0), .mk 0 [] [], ms0⟩
instance : Inhabited Pl := ⟨pl0⟩
def isTo (k : Int) : Bool := k == 2 || k == 5
def gonB (m : Mt) (p : Pl) : Bool := if isTo p.kd = true then (m.il ||| m.st).testBit p.to.toNat else m.st.testBit p.fr.toNat
def askF (m : Mt) (p : Pl) : Int :=
  if isTo p.kd = true ∧ p.to = p.fr then 1 else if ((m.il.testBit p.fr.toNat != (p.kd == 5)) || gonB m p) = true then 13 else 0
def chgF (m : Mt) (p : Pl) : Int × Vo × Int :=
  if p.kd = 1 then (p.fr, votV (nth m.vs p.fr.toNat) p.c)
  else if p.kd = 2 then (p.to, heaV (nth m.vs p.to.toNat) (sayV (nth m.vs p.fr.toNat)))
  else if p.kd = 5 then (p.to, heaV (nth m.vs p.to.toNat) p.m)
  else (p.fr, nth m.vs p.fr.toNat, 0)
def goF (m : Mt) (p : Pl) : Mt := ⟨m.vs.set (chgF m p).1.toNat (chgF m p).2.1, if p.kd = 4 then m.st ||| 2 ^ p.fr.toNat else m.st, m.il⟩
def stpF (m : Mt) (p : Pl) : Mt × Int :=
  if askF m p ≠ 0 then (mtZ, askF m p) else if (chgF m p).2.2 ≠ 0 then (mtZ, (chgF m p).2.2) else (goF m p, 0)
def stpM (m : Mt) (p : Pl) : Mt := if (stpF m p).2 = 0 then (stpF m p).1 else m
def runM : List Pl → Mt → Mt
  | [], m => m
  | p :: r, m => runM r (stpM m p)
def sndP (a b : Nat) : Pl := ⟨2, (a : Int), (b : Int), (0, 0), .mk 0 [] [], ms0⟩
def sndS (a b : Nat) (x : Mt × Bool) : Mt × Bool := if (stpF x.1 (sndP a b)).2 = 0 then ((stpF x.1 (sndP a b)).1, true) else x
def rndJ (a : Nat) : List Nat → Mt × Bool → Mt × Bool
  | [], x => x
  | b :: r, x => rndJ a r (sndS a b x)
def rndI (l : List Nat) : List Nat → Mt × Bool → Mt × Bool
  | [], x => x
  | a :: r, x => rndI l r (rndJ a l x)
def wellN (m : Mt) : List Nat := nodesN (2 ^ m.vs.length - 1 - m.il)
def rndF (m : Mt) : Mt × Bool := rndI (wellN m) (wellN m) (m, false)
def clmF : Nat → Mt → Mt
  | 0, m => m
  | f + 1, m => if (rndF m).2 = true then clmF f (rndF m).1 else (rndF m).1
structure MtOK (n : Nat) (m : Mt) : Prop where
  n1 : 1 ≤ n
  n10 : n ≤ 10
  len : m.vs.length = n
  ok : ∀ k, k < n → VoOK n (nth m.vs k)
  nd : ∀ k, k < n → (nth m.vs k).nd = (k : Int)
  st : m.st < 2 ^ n
  il : m.il < 2 ^ n
  dis : m.il &&& m.st = 0
structure PlOK (n : Nat) (p : Pl) : Prop where
  kd : p.kd = 1 ∨ p.kd = 2 ∨ p.kd = 4 ∨ p.kd = 5
  fr : 0 ≤ p.fr ∧ p.fr < (n : Int)
  to : 0 ≤ p.to ∧ p.to < (n : Int)
  c : p.kd = 1 → okC p.c = true
  m : p.kd = 5 → MsOK n p.m ∧ p.m.nd = p.fr
theorem snd_ok {n a b : Nat} (ha : a < n) (hb : b < n) : PlOK n (sndP a b) :=
  ⟨.inr (.inl rfl), ⟨by simp [sndP], by simp [sndP]; omega⟩, ⟨by simp [sndP], by simp [sndP]; omega⟩, fun h => by simp [sndP] at h, fun h => by simp [sndP] at h⟩
theorem testBit_lt' {n s k : Nat} (h : s < 2 ^ n) (hk : s.testBit k = true) : k < n := by
  rcases Nat.lt_or_ge k n with q | q
  · exact q
  · rw [Nat.testBit_lt_two_pow (Nat.lt_of_lt_of_le h (Nat.pow_le_pow_right (by decide) q))] at hk; cases hk
/-- What a step does. -/
theorem stp_cases {n : Nat} {m : Mt} {p : Pl} (hm : MtOK n m) (hp : PlOK n p) (h : (stpF m p).2 = 0) :
    (stpF m p).1 = goF m p ∧ askF m p = 0 ∧ (chgF m p).2.2 = 0 := by
  unfold stpF at h ⊢
  by_cases h1 : askF m p ≠ 0
  · rw [if_pos h1] at h; exact absurd h h1
  · rw [if_neg h1] at h ⊢
    by_cases h2 : (chgF m p).2.2 ≠ 0
    · rw [if_pos h2] at h; exact absurd h h2
    · rw [if_neg h2]
      exact ⟨rfl, by simpa using h1, by simpa using h2⟩
theorem nth_setS {l : List Vo} {k : Nat} : l.set k (nth l k) = l := by
  apply List.ext_getElem
  · rw [List.length_set]
  · intro i h1 h2
    rw [List.getElem_set]
    split
    · rename_i e; subst e; exact nth_getElem l k h2
    · rfl
/-- A step changes one voter, by a move; or nobody. -/
theorem go_move {c : List Mb} {m : Mt} {p : Pl} (hm : MtOK c.length m) (hp : PlOK c.length p) (hi : InvH c m.il m.vs) (h : (stpF m p).2 = 0) :
    (goF m p).vs = m.vs ∨ ∃ k v, k < c.length ∧ Move c m.il m.vs k v ∧ (goF m p).vs = m.vs.set k (turV (nth m.vs k) v) := by
  obtain ⟨_, h1, h2⟩ := stp_cases hm hp h
  have hf := hp.fr
  have ht := hp.to
  have hfn : p.fr.toNat < c.length := by omega
  have htn : p.to.toNat < c.length := by omega
  have hask : isTo p.kd = true → p.to ≠ p.fr := fun e q => by
    unfold askF at h1
    rw [if_pos ⟨e, q⟩] at h1; cases h1
  have hgo : ((m.il.testBit p.fr.toNat != (p.kd == 5)) || gonB m p) = false := by
    unfold askF at h1
    split at h1
    · cases h1
    · cases e : ((m.il.testBit p.fr.toNat != (p.kd == 5)) || gonB m p)
      · rfl
      · rw [e, if_pos rfl] at h1; cases h1
  rw [Bool.or_eq_false_iff] at hgo
  unfold goF chgF at *
  dsimp only at h2 ⊢
  rcases hp.kd with e | e | e | e
  · rw [if_pos e] at h2 ⊢
    dsimp only at h2 ⊢
    unfold votV at h2 ⊢
    by_cases q1 : (nth m.vs p.fr.toNat).vo.any (ctrC p.c) = true ∨ (nth m.vs p.fr.toNat).ac.any (ctrC p.c) = true
    · rw [if_pos q1] at h2; cases h2
    · rw [if_neg q1] at h2 ⊢
      by_cases q2 : hasC (nth m.vs p.fr.toNat).vo p.c = true
      · rw [if_pos q2]; exact .inl nth_setS
      · rw [if_neg q2]
        exact .inr ⟨_, _, hfn, .vote (hp.c e) (any_ctr fun q => q1 (.inl q)), rfl⟩
  · rw [if_neg (by omega), if_pos e] at h2 ⊢
    dsimp only at h2 ⊢
    unfold heaV at h2 ⊢
    by_cases q1 : oldM (nth m.vs p.to.toNat).he (sayV (nth m.vs p.fr.toNat)) = true
    · rw [if_pos q1] at h2; cases h2
    · rw [if_neg q1]
      have := hask (by simp [isTo, e])
      exact .inr ⟨_, _, htn, .hear hfn (by omega), rfl⟩
  · rw [if_neg (by omega), if_neg (by omega), if_neg (by omega)]
    exact .inl nth_setS
  · rw [if_neg (by omega), if_neg (by omega), if_pos e] at h2 ⊢
    dsimp only at h2 ⊢
    unfold heaV at h2 ⊢
    obtain ⟨m1, m2⟩ := hp.m e
    by_cases q1 : oldM (nth m.vs p.to.toNat).he p.m = true
    · rw [if_pos q1] at h2; cases h2
    · rw [if_neg q1]
      have := hask (by simp [isTo, e])
      have hil : m.il.testBit p.m.nd.toNat = true := by
        rw [m2]
        have := hgo.1
        rw [e] at this
        simpa using this
      exact .inr ⟨_, _, htn, .lie m1 hil (by omega), rfl⟩
theorem InvH.step {c : List Mb} (hc : FullC c) {m : Mt} {p : Pl} (hm : MtOK c.length m) (hp : PlOK c.length p) (hi : InvH c m.il m.vs) : InvH c (stpM m p).il (stpM m p).vs := by
  unfold stpM
  by_cases h : (stpF m p).2 = 0
  · rw [if_pos h, (stp_cases hm hp h).1]
    show InvH c m.il (goF m p).vs
    rcases go_move hm hp hi h with e | ⟨k, v, h1, h2, e⟩
    · rw [e]; exact hi
    · rw [e]; exact hi.move hc h1 h2
  · rw [if_neg h]; exact hi
/-- A step keeps a meeting valid. -/
theorem hea_ok {n : Nat} (hn : n ≤ 10) {v : Vo} {m : Ms} (hv : VoOK n v) (hm : MsOK n m) (hne : m.nd ≠ v.nd) (h : (heaV v m).2 = 0) : VoOK n (heaV v m).1 ∧ (heaV v m).1.nd = v.nd ∧ (heaV v m).1.he = putM v.he m := by
  unfold heaV at h ⊢
  by_cases q1 : oldM v.he m = true
  · rw [if_pos q1] at h; cases h
  · rw [if_neg q1]
    have s := turV_spec hv (ok_hear hv hm hne) ⟨rfl, rfl, rfl, fun y hy => hy, rfl, rfl⟩
    exact ⟨s.ok, s.gr.nd, s.he⟩
theorem vot_ok {n : Nat} {v : Vo} {x : Cl} (hv : VoOK n v) (hx : okC x = true) (h : (votV v x).2 = 0) : VoOK n (votV v x).1 ∧ (votV v x).1.nd = v.nd ∧ (votV v x).1.he = v.he := by
  unfold votV at h ⊢
  by_cases q1 : v.vo.any (ctrC x) = true ∨ v.ac.any (ctrC x) = true
  · rw [if_pos q1] at h; cases h
  · rw [if_neg q1] at h ⊢
    by_cases q2 : hasC v.vo x = true
    · rw [if_pos q2]; exact ⟨hv, rfl, rfl⟩
    · rw [if_neg q2]
      have s := turV_spec hv (ok_vote hv hx (any_ctr fun q => q1 (.inl q))) ⟨rfl, rfl, rfl, fun y hy => mem_sort.2 ⟨hv.vo.ok y hy, by simp [hy]⟩, rfl, rfl⟩
      exact ⟨s.ok, s.gr.nd, s.he⟩
theorem chg_ok {n : Nat} {m : Mt} {p : Pl} (hm : MtOK n m) (hp : PlOK n p) (ha : askF m p = 0) (h : (chgF m p).2.2 = 0) :
    (0 ≤ (chgF m p).1 ∧ (chgF m p).1.toNat < n) ∧ VoOK n (chgF m p).2.1 ∧ (chgF m p).2.1.nd = (chgF m p).1 := by
  have hf := hp.fr
  have ht := hp.to
  have hn := hm.n10
  have o1 := hm.ok p.fr.toNat (by omega)
  have o2 := hm.ok p.to.toNat (by omega)
  have d1 := hm.nd p.fr.toNat (by omega)
  have d2 := hm.nd p.to.toNat (by omega)
  have hask : isTo p.kd = true → p.to ≠ p.fr := fun e q => by
    unfold askF at ha
    rw [if_pos ⟨e, q⟩] at ha; cases ha
  unfold chgF at *
  rcases hp.kd with e | e | e | e
  · rw [if_pos e] at h ⊢
    have := vot_ok o1 (hp.c e) h
    exact ⟨by dsimp only; omega, this.1, by dsimp only; rw [this.2.1]; omega⟩
  · rw [if_neg (by omega), if_pos e] at h ⊢
    have q := hask (by simp [isTo, e])
    have := hea_ok hn o2 (say_ok o1 (by omega)) (by show (nth m.vs p.fr.toNat).nd ≠ _; omega) h
    exact ⟨by dsimp only; omega, this.1, by dsimp only; rw [this.2.1]; omega⟩
  · rw [if_neg (by omega), if_neg (by omega), if_neg (by omega)]
    exact ⟨by dsimp only; omega, o1, by dsimp only; omega⟩
  · rw [if_neg (by omega), if_neg (by omega), if_pos e] at h ⊢
    have q := hask (by simp [isTo, e])
    obtain ⟨m1, m2⟩ := hp.m e
    have := hea_ok hn o2 m1 (by omega) h
    exact ⟨by dsimp only; omega, this.1, by dsimp only; rw [this.2.1]; omega⟩
theorem MtOK.go {n : Nat} {m : Mt} {p : Pl} (hm : MtOK n m) (hp : PlOK n p) (ha : askF m p = 0) (h : (chgF m p).2.2 = 0) : MtOK n (goF m p) := by
  obtain ⟨⟨q1, q2⟩, q3, q4⟩ := chg_ok hm hp ha h
  have hl := hm.len
  have hf := hp.fr
  have hn : ∀ j, nth (goF m p).vs j = if (chgF m p).1.toNat = j then (chgF m p).2.1 else nth m.vs j := fun j => nth_setI _ _ _ _ (by omega)
  have hst : (goF m p).st < 2 ^ n := by
    show (if p.kd = 4 then m.st ||| 2 ^ p.fr.toNat else m.st) < 2 ^ n
    split
    · exact Nat.or_lt_two_pow hm.st (Nat.pow_lt_pow_right (by decide) (by omega))
    · exact hm.st
  refine ⟨hm.n1, hm.n10, by show (m.vs.set _ _).length = n; rw [List.length_set]; exact hl, fun k hk => ?_, fun k hk => ?_, hst, hm.il, ?_⟩
  · rw [hn]; split
    · exact q3
    · exact hm.ok k hk
  · rw [hn]; split
    · rename_i e; rw [q4, ← e]; omega
    · exact hm.nd k hk
  · show m.il &&& (if p.kd = 4 then m.st ||| 2 ^ p.fr.toNat else m.st) = 0
    split
    · rename_i e
      have hil : m.il.testBit p.fr.toNat = false := by
        unfold askF at ha
        split at ha
        · cases ha
        · cases e2 : m.il.testBit p.fr.toNat
          · rfl
          · rw [e2, e] at ha; simp at ha
      apply Nat.eq_of_testBit_eq
      intro i
      have hd := congrArg (·.testBit i) hm.dis
      simp only [Nat.testBit_and, Nat.zero_testBit] at hd
      rw [Nat.testBit_and, Nat.testBit_or, Nat.zero_testBit]
      rcases Nat.decEq p.fr.toNat i with q | q
      · rw [Nat.testBit_two_pow_of_ne q, Bool.or_false]; exact hd
      · subst q; rw [hil]; rfl
    · exact hm.dis
theorem MtOK.step {n : Nat} {m : Mt} {p : Pl} (hm : MtOK n m) (hp : PlOK n p) : MtOK n (stpM m p) := by
  unfold stpM
  by_cases h : (stpF m p).2 = 0
  · obtain ⟨h1, h2, h3⟩ := stp_cases hm hp h
    rw [if_pos h, h1]
    exact hm.go hp h2 h3
  · rw [if_neg h]; exact hm
theorem runM_ok {c : List Mb} (hc : FullC c) : ∀ (l : List Pl) (m : Mt), (∀ p ∈ l, PlOK c.length p) → MtOK c.length m → InvH c m.il m.vs → MtOK c.length (runM l m) ∧ InvH c (runM l m).il (runM l m).vs ∧ (runM l m).il = m.il
  | [], m, _, h1, h2 => ⟨h1, h2, rfl⟩
  | p :: r, m, hp, h1, h2 => by
    rw [runM]
    have := runM_ok hc r (stpM m p) (fun q hq => hp q (by simp [hq])) (h1.step (hp p (by simp))) (h2.step hc h1 (hp p (by simp)))
    refine ⟨this.1, this.2.1, this.2.2.trans ?_⟩
    unfold stpM
    by_cases h : (stpF m p).2 = 0
    · rw [if_pos h, (stp_cases h1 (hp p (by simp)) h).1]; rfl
    · rw [if_neg h]
end Go.Proofs.YtdhogcklnehdhaaGreatDoor
namespace Go.Proofs.YtdhogcklnehdhaaGreatDoor
set_option linter.unusedSimpArgs false
set_option linter.unusedVariables false
set_option linter.unnecessarySimpa false
set_option linter.unusedSectionVars false
set_option maxRecDepth 100000
open Go Go.RowKit Go.Am Go.Proofs.Grow
def sumH : List Ms → Nat
  | [] => 0
  | m :: r => m.sq.toNat + sumH r
def sumV : List Vo → Nat
  | [] => 0
  | v :: r => sumH v.he + sumV r
theorem sumH_put : ∀ {l : List Ms} {m : Ms}, 1 ≤ m.sq → oldM l m = false → sumH l < sumH (putM l m)
  | [], m, h, _ => by simp only [putM, sumH]; omega
  | y :: r, m, h, ho => by
    unfold oldM at ho
    rw [List.any_cons, Bool.or_eq_false_iff] at ho
    obtain ⟨h1, h2⟩ := ho
    rw [putM]
    by_cases e : y.nd < m.nd
    · rw [if_pos e]
      have := sumH_put (l := r) (m := m) h h2
      simp only [sumH]; omega
    · rw [if_neg e]
      by_cases e2 : y.nd = m.nd
      · rw [if_pos e2]
        simp only [e2, decide_true, Bool.true_and, decide_eq_false_iff_not] at h1
        simp only [sumH]; omega
      · rw [if_neg e2]
        simp only [sumH]; omega
theorem sumH_le : ∀ {l : List Ms}, (∀ m ∈ l, m.sq ≤ 1000) → sumH l ≤ 1000 * l.length
  | [], _ => by simp [sumH]
  | m :: r, h => by
    have h1 := h m (by simp)
    have h2 := sumH_le (l := r) fun y hy => h y (by simp [hy])
    simp only [sumH, List.length_cons]; omega
theorem sumV_le {n : Nat} (hn : n ≤ 10) : ∀ {l : List Vo}, (∀ v ∈ l, VoOK n v) → sumV l ≤ 10000 * l.length
  | [], _ => by simp [sumV]
  | v :: r, h => by
    have h1 := h v (by simp)
    have h2 := sumV_le hn (l := r) fun y hy => h y (by simp [hy])
    have h3 := sumH_le (l := v.he) fun m hm => (h1.he m hm).1.sq1
    have h4 := h1.hlen hn
    simp only [sumV, List.length_cons]; omega
theorem sumV_set : ∀ {l : List Vo} {k : Nat} {v : Vo}, k < l.length → sumH (nth l k).he < sumH v.he → sumV l < sumV (l.set k v)
  | [], k, v, h, _ => by simp at h
  | y :: r, 0, v, _, h => by
    have e : nth (y :: r) 0 = y := rfl
    rw [e] at h
    simp only [List.set_cons_zero, sumV]; omega
  | y :: r, k + 1, v, h, h2 => by
    have e : nth (y :: r) (k + 1) = nth r k := rfl
    rw [e] at h2
    have := sumV_set (l := r) (k := k) (v := v) (by simpa using h) h2
    simp only [List.set_cons_succ, sumV]; omega
theorem mt_sum {n : Nat} {m : Mt} (h : MtOK n m) : sumV m.vs ≤ 100000 := by
  have hl := h.len
  have hn := h.n10
  have := sumV_le hn (l := m.vs) fun v hv => by
    obtain ⟨k, hk, rfl⟩ := List.mem_iff_getElem.1 hv
    rw [← nth_getElem m.vs k hk]
    exact h.ok k (by omega)
  omega
theorem stpM_ok {m : Mt} {p : Pl} (h : (stpF m p).2 = 0) : stpM m p = (stpF m p).1 := by unfold stpM; rw [if_pos h]
theorem stpM_no {m : Mt} {p : Pl} (h : (stpF m p).2 ≠ 0) : stpM m p = m := by unfold stpM; rw [if_neg h]
theorem snd_sum {n a b : Nat} {m : Mt} (hm : MtOK n m) (ha : a < n) (hb : b < n) (h : (stpF m (sndP a b)).2 = 0) : sumV m.vs < sumV (stpM m (sndP a b)).vs := by
  have hp := snd_ok ha hb
  obtain ⟨h1, h2, h3⟩ := stp_cases hm hp h
  have hl := hm.len
  have hab : a ≠ b := fun e => by
    unfold askF at h2
    rw [if_pos ⟨rfl, by show ((b : Nat) : Int) = ((a : Nat) : Int); omega⟩] at h2; cases h2
  have n1 := hm.nd a ha
  have n2 := hm.nd b hb
  rw [stpM_ok h, h1]
  have e1 : chgF m (sndP a b) = ((b : Int), heaV (nth m.vs b) (sayV (nth m.vs a))) := by
    unfold chgF sndP
    dsimp only
    rw [if_neg (by omega), if_pos rfl, Int.toNat_natCast, Int.toNat_natCast]
  rw [e1] at h3
  dsimp only at h3
  have ho : oldM (nth m.vs b).he (sayV (nth m.vs a)) = false := by
    unfold heaV at h3
    cases e : oldM (nth m.vs b).he (sayV (nth m.vs a))
    · rfl
    · rw [e, if_pos rfl] at h3; cases h3
  have ms := say_ok (hm.ok a ha) (by rw [n1]; omega)
  obtain ⟨_, _, q⟩ := hea_ok hm.n10 (hm.ok b hb) ms (by show (nth m.vs a).nd ≠ _; omega) h3
  show sumV m.vs < sumV (m.vs.set (chgF m (sndP a b)).1.toNat (chgF m (sndP a b)).2.1)
  rw [e1]
  dsimp only
  rw [Int.toNat_natCast]
  refine sumV_set (by omega) ?_
  rw [q]
  exact sumH_put ms.sq0 ho
theorem sndS_1 (a b : Nat) (x : Mt × Bool) : (sndS a b x).1 = stpM x.1 (sndP a b) := by
  unfold sndS stpM
  split <;> rfl
/-- What is kept by every message is kept by a round. -/
theorem rndJ_keep {n a : Nat} {P : Mt → Prop} (hs : ∀ m b, b < n → P m → P (stpM m (sndP a b))) : ∀ (l : List Nat) (x : Mt × Bool), (∀ b ∈ l, b < n) → P x.1 → P (rndJ a l x).1
  | [], _, _, h => h
  | b :: r, x, hl, h => by
    rw [rndJ]
    exact rndJ_keep hs r _ (fun y hy => hl y (by simp [hy])) (by rw [sndS_1]; exact hs _ _ (hl b (by simp)) h)
theorem rndI_keep {n : Nat} {P : Mt → Prop} (hs : ∀ m a b, a < n → b < n → P m → P (stpM m (sndP a b))) (w : List Nat) (hw : ∀ b ∈ w, b < n) : ∀ (l : List Nat) (x : Mt × Bool), (∀ b ∈ l, b < n) → P x.1 → P (rndI w l x).1
  | [], _, _, h => h
  | a :: r, x, hl, h => by
    rw [rndI]
    exact rndI_keep hs w hw r _ (fun y hy => hl y (by simp [hy])) (rndJ_keep (fun m b hb hm => hs m a b (hl a (by simp)) hb hm) w x hw h)
/-- A round goes on, or stands still. -/
structure RO (x y : Mt × Bool) : Prop where
  le : sumV x.1.vs ≤ sumV y.1.vs
  up : y.2 = true → x.2 = true ∨ sumV x.1.vs < sumV y.1.vs
  no : y.2 = false → y = x
theorem RO.refl (x : Mt × Bool) : RO x x := ⟨Nat.le_refl _, fun h => .inl h, fun _ => rfl⟩
theorem RO.trans {x y z : Mt × Bool} (h : RO x y) (k : RO y z) : RO x z := by
  refine ⟨Nat.le_trans h.le k.le, fun hz => ?_, fun hz => ?_⟩
  · have := h.le; have := k.le
    rcases k.up hz with q | q
    · rcases h.up q with p | p
      · exact .inl p
      · exact .inr (by omega)
    · exact .inr (by omega)
  · have e := k.no hz
    subst e
    exact h.no hz
theorem sndS_ro {n a b : Nat} {x : Mt × Bool} (hm : MtOK n x.1) (ha : a < n) (hb : b < n) : RO x (sndS a b x) := by
  unfold sndS
  by_cases h : (stpF x.1 (sndP a b)).2 = 0
  · have := snd_sum hm ha hb h
    rw [stpM_ok h] at this
    rw [if_pos h]
    exact ⟨Nat.le_of_lt this, fun _ => .inr this, fun e => by cases e⟩
  · rw [if_neg h]; exact .refl _
theorem sndS_ok {n a b : Nat} {x : Mt × Bool} (hm : MtOK n x.1) (ha : a < n) (hb : b < n) : MtOK n (sndS a b x).1 := by
  rw [sndS_1]; exact hm.step (snd_ok ha hb)
theorem rndJ_ro {n a : Nat} (ha : a < n) : ∀ (l : List Nat) (x : Mt × Bool), (∀ b ∈ l, b < n) → MtOK n x.1 → RO x (rndJ a l x) ∧ MtOK n (rndJ a l x).1 ∧ ((rndJ a l x).2 = false → ∀ b ∈ l, (stpF x.1 (sndP a b)).2 ≠ 0)
  | [], x, _, h => ⟨.refl _, h, fun _ b hb => by simp at hb⟩
  | b :: r, x, hl, h => by
    have hb := hl b (by simp)
    have h1 := sndS_ro h ha hb
    obtain ⟨k1, k2, k3⟩ := rndJ_ro ha r (sndS a b x) (fun y hy => hl y (by simp [hy])) (sndS_ok h ha hb)
    rw [rndJ]
    refine ⟨h1.trans k1, k2, fun he c hc => ?_⟩
    have e1 := k1.no he
    have e2 : (sndS a b x).2 = false := by rw [← e1]; exact he
    have e3 := h1.no e2
    rcases List.mem_cons.1 hc with rfl | hc
    · intro q
      unfold sndS at e2
      rw [if_pos q] at e2; cases e2
    · have := k3 he c hc
      rwa [e3] at this
theorem rndI_ro {n : Nat} (w : List Nat) (hw : ∀ b ∈ w, b < n) : ∀ (l : List Nat) (x : Mt × Bool), (∀ b ∈ l, b < n) → MtOK n x.1 → RO x (rndI w l x) ∧ MtOK n (rndI w l x).1 ∧ ((rndI w l x).2 = false → ∀ a ∈ l, ∀ b ∈ w, (stpF x.1 (sndP a b)).2 ≠ 0)
  | [], x, _, h => ⟨.refl _, h, fun _ b hb => by simp at hb⟩
  | a :: r, x, hl, h => by
    have ha := hl a (by simp)
    obtain ⟨h1, h2, h3⟩ := rndJ_ro ha w x hw h
    obtain ⟨k1, k2, k3⟩ := rndI_ro w hw r (rndJ a w x) (fun y hy => hl y (by simp [hy])) h2
    rw [rndI]
    refine ⟨h1.trans k1, k2, fun he c hc => ?_⟩
    have e1 := k1.no he
    have e2 : (rndJ a w x).2 = false := by rw [← e1]; exact he
    have e3 := h1.no e2
    rcases List.mem_cons.1 hc with rfl | hc
    · exact h3 e2
    · have := k3 he c hc
      rwa [e3] at this
theorem well_lt {n : Nat} {m : Mt} (h : MtOK n m) : 2 ^ m.vs.length - 1 - m.il < 1024 ∧ ∀ b ∈ wellN m, b < n := by
  have hl := h.len
  have h2 := two_le h.n10
  rw [hl]
  have hlt : 2 ^ n - 1 - m.il < 1024 := by omega
  refine ⟨hlt, fun b hb => ?_⟩
  unfold wellN at hb
  rw [hl] at hb
  have hp : 0 < 2 ^ n := Nat.pow_pos (by decide)
  exact testBit_lt' (s := 2 ^ n - 1 - m.il) (by omega) ((mem_nodes hlt).1 hb)
theorem rnd_ok {n : Nat} {m : Mt} (h : MtOK n m) : MtOK n (rndF m).1 ∧ ((rndF m).2 = true → sumV m.vs < sumV (rndF m).1.vs) ∧ ((rndF m).2 = false → (rndF m).1 = m ∧ ∀ a ∈ wellN m, ∀ b ∈ wellN m, (stpF m (sndP a b)).2 ≠ 0) := by
  have hw := (well_lt h).2
  obtain ⟨h1, h2, h3⟩ := rndI_ro (wellN m) hw (wellN m) (m, false) hw h
  refine ⟨h2, fun e => ?_, fun e => ⟨by rw [rndF, h1.no e], h3 e⟩⟩
  rcases h1.up e with q | q
  · cases q
  · exact q
/-- What a meeting of a configuration keeps: its voters go on, as they are ill and as they stopped. -/
structure MtI (c : List Mb) (il st : Nat) (m : Mt) : Prop where
  ok : MtOK c.length m
  inv : InvH c m.il m.vs
  il : m.il = il
  st : m.st = st
theorem snd_I {c : List Mb} (hc : FullC c) {il st : Nat} {m : Mt} {a b : Nat} (h : MtI c il st m) (ha : a < c.length) (hb : b < c.length) : MtI c il st (stpM m (sndP a b)) := by
  have hp := snd_ok ha hb
  refine ⟨h.ok.step hp, h.inv.step hc h.ok hp, ?_, ?_⟩
  · by_cases q : (stpF m (sndP a b)).2 = 0
    · rw [stpM_ok q, (stp_cases h.ok hp q).1]; exact h.il
    · rw [stpM_no q]; exact h.il
  · by_cases q : (stpF m (sndP a b)).2 = 0
    · rw [stpM_ok q, (stp_cases h.ok hp q).1]; exact h.st
    · rw [stpM_no q]; exact h.st
theorem rnd_I {c : List Mb} (hc : FullC c) {il st : Nat} {m : Mt} (h : MtI c il st m) : MtI c il st (rndF m).1 :=
  have hw := (well_lt h.ok).2
  rndI_keep (P := MtI c il st) (fun _ _ _ ha hb hm => snd_I hc hm ha hb) (wellN m) hw (wellN m) (m, false) hw h
/-- Whom a meeting begins with. -/
def begV (c : List Mb) (n : Nat) : List Vo := (List.range n).map fun (k : Nat) => ⟨(k : Int), 1, (nth c k).t, [], [], [], []⟩
theorem begV_len (c : List Mb) (n : Nat) : (begV c n).length = n := by simp [begV]
theorem begV_succ (c : List Mb) (n : Nat) : begV c (n + 1) = begV c n ++ [⟨(n : Int), 1, (nth c n).t, [], [], [], []⟩] := by
  unfold begV; rw [List.range_succ, List.map_append]; rfl
theorem begV_nth (c : List Mb) {n k : Nat} (h : k < n) : nth (begV c n) k = ⟨(k : Int), 1, (nth c k).t, [], [], [], []⟩ := by
  rw [nth_getElem _ _ (by rw [begV_len]; exact h)]; simp [begV]
theorem sort_nil : sortC [] = [] := by
  unfold sortC
  rw [List.filter_eq_nil_iff]
  intro x _
  simp [hasC]
theorem beg_ok {c : List Mb} (hc : FullC c) {k : Nat} (hk : k < c.length) : VoOK c.length ⟨(k : Int), 1, (nth c k).t, [], [], [], []⟩ := by
  have := hc.len
  exact ⟨by show (0 : Int) ≤ (k : Int); omega, by show (k : Int) < 10; omega, by show (1 : Int) ≤ 1; omega, by show (1 : Int) ≤ _; simp, hc.fit k hk, PlC.nil, PlC.nil, PlC.nil, rfl, rfl, fun x hx => by simp at hx, fun m hm => by simp at hm, List.Pairwise.nil⟩
theorem beg_inv {c : List Mb} (hc : FullC c) (ill : Nat) : InvH c ill (begV c c.length) := by
  refine ⟨begV_len _ _, fun k hk => ?_, fun k hk => ?_, fun k hk => ?_, fun k hk m hm => ?_, fun k hk => ?_, fun _ k hk x hx => ?_, fun k hk x hx => ?_⟩
  · rw [begV_nth c hk]; exact beg_ok hc hk
  · rw [begV_nth c hk]
  · rw [begV_nth c hk]
  · rw [begV_nth c hk] at hm; simp at hm
  · rw [begV_nth c hk]
    have e : ∀ v : Vo, v.vo = [] → v.ac = [] → v.he = [] → nxtV (viewF v) v = none := fun v h1 h2 h3 => by
      unfold nxtV knowM
      rw [h3]
      simp only [List.nil_append, catM, sayV, h1, h2]
      rw [sort_nil]; rfl
    exact e _ rfl rfl rfl
  · rw [begV_nth c hk] at hx; simp at hx
  · rw [begV_nth c hk] at hx; simp at hx
theorem beg_I {c : List Mb} (hc : FullC c) {ill : Nat} (hi : ill < 2 ^ c.length) : MtI c ill 0 ⟨begV c c.length, 0, ill⟩ := by
  have h5 := hc.len
  refine ⟨⟨hc.pos, by omega, begV_len _ _, fun k hk => ?_, fun k hk => ?_, Nat.pow_pos (by decide), hi, Nat.and_zero _⟩, beg_inv hc ill, rfl, rfl⟩
  · rw [begV_nth c hk]; exact beg_ok hc hk
  · rw [begV_nth c hk]
end Go.Proofs.YtdhogcklnehdhaaGreatDoor
namespace Go.Proofs.YtdhogcklnehdhaaGreatDoor
set_option linter.unusedSimpArgs false
set_option linter.unusedVariables false
set_option linter.unnecessarySimpa false
set_option linter.unusedSectionVars false
set_option maxRecDepth 100000
open Go Go.RowKit Go.Am Go.Proofs.Grow
theorem cntI_add (s : Int) : ∀ (l : List Int) (a b : Int), cntI s l (a + b) = cntI s l a + b
  | [], _, _ => rfl
  | x :: r, a, b => by
    rw [cntI, cntI]
    cases h : hasB s x with
    | true => rw [if_pos rfl, if_pos rfl, show a + b + 1 = (a + 1) + b by omega, cntI_add s r]
    | false => rw [if_neg (by simp), if_neg (by simp), cntI_add s r]
theorem satL_add (s : Int) : ∀ (l : List Tr) (a b : Int), satL s l (a + b) = satL s l a + b
  | [], _, _ => rfl
  | x :: r, a, b => by
    rw [satL, satL]
    cases h : satT s x with
    | true => rw [if_pos rfl, if_pos rfl, show a + b + 1 = (a + 1) + b by omega, satL_add s r]
    | false => rw [if_neg (by simp), if_neg (by simp), satL_add s r]
theorem low_max {k : Int} (h : 0 ≤ k) : lowI k 1 = max (k - 1) 0 := by unfold lowI mxI; split <;> omega
theorem delI_spec {b u w : Int} (hw : ∀ x, hasB w x = (hasB u x || hasB b x)) : ∀ (l : List Int) (k : Int) (o : List Int), 0 ≤ k → ∃ (r : Int) (m : List Int), 0 ≤ r ∧ delI b l k o = (max (k - r) 0, o ++ m) ∧ ∀ a, cntI w l a = cntI u m a + r
  | [], k, o, h => ⟨0, [], by omega, by simp [delI]; omega, fun a => by simp [cntI]⟩
  | x :: l, k, o, h => by
    cases hb : hasB b x with
    | true =>
      obtain ⟨r, m, h1, h2, h3⟩ := delI_spec hw l (lowI k 1) o (by rw [low_max h]; omega)
      refine ⟨r + 1, m, by omega, ?_, fun a => ?_⟩
      · rw [delI, hb, if_pos rfl, h2, low_max h]
        congr 1; omega
      · rw [cntI, hw, hb, Bool.or_true, if_pos rfl, h3, cntI_add]; omega
    | false =>
      obtain ⟨r, m, h1, h2, h3⟩ := delI_spec hw l k (o ++ [x]) h
      refine ⟨r, x :: m, h1, ?_, fun a => ?_⟩
      · rw [delI, hb, if_neg (by simp), h2]; simp
      · rw [cntI, cntI, hw, hb, Bool.or_false, h3]
mutual
/-- A trust after a deletion is satisfied by what, with the deleted nodes, satisfied it. -/
theorem satT_del {b u w : Int} (hw : ∀ x, hasB w x = (hasB u x || hasB b x)) (hu : validS u = true) (hv : validS w = true) : ∀ t : Tr, satT u (delT b t) = satT w t
  | .mk k ns is => by
    obtain ⟨r, m, h1, h2, h3⟩ := delI_spec hw ns (mxI k 0) [] (by unfold mxI; split <;> omega)
    obtain ⟨q, js, g1, g2, g3⟩ := satL_del hw hu hv is (max (mxI k 0 - r) 0) m [] (by omega)
    rw [delT, h2, List.nil_append]
    dsimp only
    rw [g2, List.nil_append, satT, satT, hu, hv, g3, h3, satL_add]
    have b1 := (cntI_bd u m 0).1
    have b2 := (satL_bd u js (cntI u m 0)).1
    congr 1
    rw [decide_eq_decide]
    unfold mxI
    split <;> omega
theorem satL_del {b u w : Int} (hw : ∀ x, hasB w x = (hasB u x || hasB b x)) (hu : validS u = true) (hv : validS w = true) : ∀ (l : List Tr) (k : Int) (ns : List Int) (o : List Tr), 0 ≤ k → ∃ (r : Int) (m : List Tr), 0 ≤ r ∧ delL b l k ns o = .mk (max (k - r) 0) ns (o ++ m) ∧ ∀ a, satL w l a = satL u m a + r
  | [], k, ns, o, h => ⟨0, [], by omega, by simp [delL]; omega, fun a => by simp [satL]⟩
  | t :: l, k, ns, o, h => by
    have ht := satT_del hw hu hv t
    by_cases e : (delT b t).k = 0
    · obtain ⟨r, m, h1, h2, h3⟩ := satL_del hw hu hv l (lowI k 1) ns o (by rw [low_max h]; omega)
      have hs : satT w t = true := by
        rw [← ht, satT_eq, hu, e]
        have b1 := (cntI_bd u (delT b t).ns 0).1
        have b2 := (satL_bd u (delT b t).is (cntI u (delT b t).ns 0)).1
        simp only [Bool.true_and, decide_eq_true_eq]; omega
      refine ⟨r + 1, m, by omega, ?_, fun a => ?_⟩
      · rw [delL, if_pos e, h2, low_max h]
        congr 1; omega
      · rw [satL, hs, if_pos rfl, h3, satL_add]; omega
    · obtain ⟨r, m, h1, h2, h3⟩ := satL_del hw hu hv l k ns (o ++ [delT b t]) h
      refine ⟨r, delT b t :: m, h1, ?_, fun a => ?_⟩
      · rw [delL, if_neg e, h2]; simp
      · rw [satL, satL, ht, h3]
end
theorem has_or {u b : Nat} (hu : u < 1024) (hb : b < 1024) (x : Int) : hasB ((u ||| b : Nat) : Int) x = (hasB (u : Int) x || hasB (b : Int) x) := by
  have ho := or_lt10 hu hb
  cases hn : nodeB x with
  | false => simp [hasB, hn]
  | true =>
    obtain ⟨k, rfl⟩ : ∃ k : Nat, x = (k : Int) := ⟨x.toNat, by simp [nodeB] at hn; omega⟩
    have hk : k < 10 := by simp [nodeB] at hn; omega
    rw [has_nat ho hk, has_nat hu hk, has_nat hb hk, Nat.testBit_or]
theorem sat_del {u b : Nat} (hu : u < 1024) (hb : b < 1024) (t : Tr) : satT (u : Int) (delT (b : Int) t) = satT ((u ||| b : Nat) : Int) t :=
  satT_del (fun x => has_or hu hb x) (valid_nat hu) (valid_nat (or_lt10 hu hb)) t
theorem sat_self {u k : Nat} (hu : u < 1024) (hk : k < 10) : satT (u : Int) (.mk 1 [(k : Int)] []) = u.testBit k := by
  rw [satT, valid_nat hu, Bool.true_and, satL, cntI, cntI, has_nat hu hk]
  cases u.testBit k <;> rfl
/-- Quorums despite a set: with the set they satisfy all their members. -/
theorem del_cl {c : List Mb} (hc : FullC c) {b q : Nat} (hb : b < 1024) (hq : q < 1024) : ClQ (delC c b) q ↔ ∀ k, q.testBit k = true → k < c.length ∧ b.testBit k = false ∧ satT ((q ||| b : Nat) : Int) (nth c k).t = true := by
  have h5 := hc.len
  have hd : ∀ k, (declN (delC c b)).testBit k = (decide (k < c.length) && !b.testBit k) := fun k => by
    unfold declN
    rw [declTo_bit, delTo_len]
    rcases Nat.lt_or_ge k c.length with h | h
    · rw [delTo_nth h]
      unfold delM
      cases b.testBit k with
      | true => simp
      | false => simp [hc.decl k h]
    · have e : decide (k < c.length) = false := by simp; omega
      rw [e]; simp only [Bool.false_and]
  have hs : ∀ k, k < c.length → b.testBit k = false → q.testBit k = true → satT (q : Int) (nth (delC c b) k).t = satT ((q ||| b : Nat) : Int) (nth c k).t := fun k h1 h2 h3 => by
    rw [delTo_nth h1]
    unfold delM
    rw [h2, if_neg (by simp), hc.decl k h1, if_pos rfl]
    show satT (q : Int) (dtrT b k (nth c k).t) = _
    unfold dtrT
    split
    · rename_i e
      rw [sat_self hq (by omega), h3, ← sat_del hq hb, satT_eq, valid_nat hq, e]
      have b1 := (cntI_bd q (delT b (nth c k).t).ns 0).1
      have b2 := (satL_bd q (delT b (nth c k).t).is (cntI q (delT b (nth c k).t).ns 0)).1
      symm
      simp only [Bool.true_and, decide_eq_true_eq]; omega
    · exact sat_del hq hb _
  constructor
  · intro h k hk
    obtain ⟨h1, h2⟩ := h k hk
    rw [hd] at h1
    simp only [Bool.and_eq_true, decide_eq_true_eq, Bool.not_eq_true'] at h1
    exact ⟨h1.1, h1.2, by rw [← hs k h1.1 h1.2 hk]; exact h2⟩
  · intro h k hk
    obtain ⟨h1, h2, h3⟩ := h k hk
    exact ⟨by rw [hd, h2]; simpa using h1, by rw [hs k h1 h2 hk]; exact h3⟩
/-- Who confirms has a quorum despite the ill-behaved ones that accepts. -/
theorem qc_cl {c : List Mb} (hc : FullC c) {il k : Nat} (hil : il < 1024) {A : Nat → Cl → Prop} {x : Cl} (hk : il.testBit k = false) (h : QC c il A k x) :
    ∃ q : Nat, q < 1024 ∧ q.testBit k = true ∧ ClQ (delC c il) q ∧ ∀ j, q.testBit j = true → j < c.length ∧ A j x := by
  obtain ⟨W, h1, h2, h3⟩ := h
  have hq := andn_lt10 (b := il) h1
  refine ⟨andn W il, hq, by rw [andn_bit, h2, hk]; rfl, ?_, fun j hj => ?_⟩
  · rw [del_cl hc hil hq]
    intro j hj
    rw [andn_bit] at hj
    simp only [Bool.and_eq_true, Bool.not_eq_true'] at hj
    obtain ⟨g1, g2⟩ := h3 j hj.1
    refine ⟨g1, hj.2, satT_mono h1 (or_lt10 hq hil) (fun i hi => ?_) _ (g2 hj.2).1⟩
    rw [Nat.testBit_or, andn_bit, hi]
    cases il.testBit i <;> rfl
  · rw [andn_bit] at hj
    simp only [Bool.and_eq_true, Bool.not_eq_true'] at hj
    obtain ⟨g1, g2⟩ := h3 j hj.1
    exact ⟨g1, (g2 hj.2).2⟩
/-- Where quorums meet despite the ill-behaved ones, the others do not contradict each other. -/
theorem safe_con {c : List Mb} (hc : FullC c) {il : Nat} (hil : il < 1024) (hm : MeetC (delC c il)) {vs : List Vo} (hi : InvH c il vs) {a b : Nat} (ha : a < c.length) (hb : b < c.length) (ia : il.testBit a = false) (ib : il.testBit b = false)
    {x y : Cl} (hx : x ∈ (nth vs a).co) (hy : y ∈ (nth vs b).co) : ctrC x y = false := by
  obtain ⟨p, p1, p2, p3, p4⟩ := qc_cl hc hil ia (hi.con a ha x hx)
  obtain ⟨q, q1, q2, q3, q4⟩ := qc_cl hc hil ib (hi.con b hb y hy)
  have h0 : ∀ {s k : Nat}, s.testBit k = true → s ≠ 0 := fun h e => by rw [e, Nat.zero_testBit] at h; cases h
  obtain ⟨j, j1, j2⟩ := hm p q (h0 p2) (h0 q2) p1 q1 p3 q3
  obtain ⟨hj, jx⟩ := p4 j j1
  obtain ⟨_, jy⟩ := q4 j j2
  exact cons_iff.1 (hi.ok j hj).ca x jx y jy
end Go.Proofs.YtdhogcklnehdhaaGreatDoor
namespace Go.Proofs.YtdhogcklnehdhaaGreatDoor
set_option linter.unusedSimpArgs false
set_option linter.unusedVariables false
set_option linter.unnecessarySimpa false
set_option linter.unusedSectionVars false
set_option maxRecDepth 100000
open Go Go.RowKit Go.Am Go.Proofs.Grow
def mbS (k n : Nat) : Mb := ⟨true, .mk 1 (([k, (k + 1) % n] : List Nat).map fun x : Nat => (x : Int)) []⟩
def ful0 (c : List Mb) : List Mb := if c.length < 2 then c ++ [mb0] else c
def fulT (c : List Mb) : Nat → List Mb
  | 0 => c
  | k + 1 => if (nth (fulT c k) k).decl = true then fulT c k else (fulT c k).set k (mbS k c.length)
def fulC (c : List Mb) : List Mb := fulT (ful0 c) (ful0 c).length
theorem FitM.mono {n m : Nat} (h : n ≤ m) {x : Mb} (hx : FitM n x) : FitM m x := by
  rcases hx with e | ⟨h1, h2⟩
  · exact .inl e
  · exact .inr ⟨h1, h2.mono h⟩
theorem ful0_spec {c : List Mb} {n : Nat} (h1 : 1 ≤ c.length) (hn : c.length ≤ n) (h2 : 2 ≤ n) (h : ∀ x ∈ c, FitM c.length x) : 2 ≤ (ful0 c).length ∧ (ful0 c).length ≤ n ∧ ∀ x ∈ ful0 c, FitM (ful0 c).length x := by
  unfold ful0
  by_cases e : c.length < 2
  · rw [if_pos e]
    have hl : (c ++ [mb0]).length = 2 := by simp; omega
    refine ⟨by omega, by omega, fun x hx => ?_⟩
    rcases List.mem_append.1 hx with hx | hx
    · exact (h x hx).mono (by omega)
    · obtain rfl := List.mem_singleton.1 hx
      exact .inl rfl
  · rw [if_neg e]
    exact ⟨by omega, hn, h⟩
theorem next_ne {k n : Nat} (h2 : 2 ≤ n) (hk : k < n) : k ≠ (k + 1) % n := by
  rcases Nat.lt_or_ge (k + 1) n with h | h
  · rw [Nat.mod_eq_of_lt h]; omega
  · rw [show k + 1 = n by omega, Nat.mod_self]; omega
theorem mbS_fit {k n : Nat} (h2 : 2 ≤ n) (h10 : n ≤ 10) (hk : k < n) : FitT n (mbS k n).t := by
  have hm : (k + 1) % n < n := Nat.mod_lt _ (by omega)
  exact leaf_fit (k := 1) h10 (by simp) (fun x hx => by
    simp only [List.mem_cons, List.not_mem_nil, or_false] at hx
    rcases hx with rfl | rfl
    · exact hk
    · exact hm) (by have := next_ne h2 hk; simp [this]) (by omega) (by simp)
theorem fulT_spec {c : List Mb} (h2 : 2 ≤ c.length) (h5 : c.length ≤ 5) (h : ∀ x ∈ c, FitM c.length x) : ∀ k, k ≤ c.length → (fulT c k).length = c.length ∧ (∀ j, j < c.length → FitM c.length (nth (fulT c k) j)) ∧ ∀ j, j < k → (nth (fulT c k) j).decl = true
  | 0, _ => ⟨rfl, fun j hj => h _ (nth_mem c j hj), fun j hj => by omega⟩
  | k + 1, hk => by
    obtain ⟨g1, g2, g3⟩ := fulT_spec h2 h5 h k (by omega)
    rw [fulT]
    by_cases e : (nth (fulT c k) k).decl = true
    · rw [if_pos e]
      refine ⟨g1, g2, fun j hj => ?_⟩
      rcases Nat.lt_succ_iff_lt_or_eq.1 hj with q | rfl
      · exact g3 j q
      · exact e
    · rw [if_neg e]
      have hn : ∀ j, nth ((fulT c k).set k (mbS k c.length)) j = if k = j then mbS k c.length else nth (fulT c k) j := fun j => nth_setI _ _ _ _ (by omega)
      refine ⟨by rw [List.length_set]; exact g1, fun j hj => ?_, fun j hj => ?_⟩
      · rw [hn]; split
        · exact .inr ⟨rfl, mbS_fit h2 (by omega) (by omega)⟩
        · exact g2 j hj
      · rw [hn]; split
        · rfl
        · exact g3 j (by omega)
theorem full_spec {c : List Mb} {n : Nat} (h1 : 1 ≤ c.length) (hn : c.length ≤ n) (h2 : 2 ≤ n) (h5 : n ≤ 5) (h : ∀ x ∈ c, FitM c.length x) : FullC (fulC c) ∧ 2 ≤ (fulC c).length ∧ (fulC c).length ≤ n ∧ ∀ x ∈ fulC c, FitM (fulC c).length x := by
  obtain ⟨a1, a2, a3⟩ := ful0_spec h1 hn h2 h
  obtain ⟨g1, g2, g3⟩ := fulT_spec a1 (by omega) a3 (ful0 c).length (Nat.le_refl _)
  have e : (fulC c).length = (ful0 c).length := g1
  refine ⟨⟨by omega, by omega, fun k hk => g3 k (by omega), fun k hk => ?_⟩, by omega, by omega, fun x hx => ?_⟩
  · rw [e]
    rcases g2 k (by omega) with q | ⟨_, q⟩
    · have := g3 k (by omega)
      rw [q] at this; cases this
    · exact q
  · obtain ⟨k, hk, rfl⟩ := List.mem_iff_getElem.1 hx
    rw [← nth_getElem _ k hk, e]
    exact g2 k (by omega)
/-- A drawn claim: not always a right one. -/
def pkA : List Int := [-1, 0, 7, 8]
def pkB : List Int := [-1, 0, 15, 16]
def pk13 : List Int := [1, 1, 1, 2, 2, 2, 2, 2, 2, 5, 5, 3, 4]
def clmD (s : Sc) : Cl × Sc :=
  if s.n 30 = 29 then ((nth pkA ((s.x 30).n 4).toNat, nth pkB (((s.x 30).x 4).n 4).toNat), ((s.x 30).x 4).x 4)
  else (((s.x 30).n 3, ((s.x 30).x 3).n 3), ((s.x 30).x 3).x 3)
def clsD : Nat → Sc → List Cl → List Cl × Sc
  | 0, s, o => (o, s)
  | i + 1, s, o => clsD i (clmD s).2 (o ++ [(clmD s).1])
theorem clmD_ok {s : Sc} (h : s.ok) : (clmD s).2.ok := by
  unfold clmD
  split <;> exact Sc.ok_x (Sc.ok_x (Sc.ok_x h _) _) _
theorem clsD_spec : ∀ (i : Nat) (s : Sc) (o : List Cl), s.ok → (clsD i s o).2.ok ∧ (clsD i s o).1.length = o.length + i
  | 0, s, o, h => ⟨h, rfl⟩
  | i + 1, s, o, h => by
    obtain ⟨g1, g2⟩ := clsD_spec i (clmD s).2 (o ++ [(clmD s).1]) (clmD_ok h)
    exact ⟨g1, by rw [clsD, g2]; simp; omega⟩
/-- The next liar. -/
def liaF (ill m : Nat) : Nat → Nat → Nat
  | 0, f => f
  | k + 1, f => liaF ill m k (if ill.testBit f = true then f else (f + 1) % m)
theorem liaF_lt {ill m : Nat} (hm : 0 < m) : ∀ (k f : Nat), f < m → liaF ill m k f < m
  | 0, f, h => h
  | k + 1, f, h => by
    rw [liaF]
    refine liaF_lt hm k _ ?_
    split
    · exact h
    · exact Nat.mod_lt _ hm
def othF (a b m : Nat) : Nat := if a = b then (b + 1) % m else b
theorem othF_lt {a b m : Nat} (hm : 0 < m) (h : b < m) : othF a b m < m := by
  unfold othF; split
  · exact Nat.mod_lt _ hm
  · exact h
def aloT (f : Nat) : Tr := .mk 1 (([f] : List Nat).map fun x : Nat => (x : Int)) []
theorem aloT_fit {n f : Nat} (hn : n ≤ 10) (hf : f < n) : FitT n (aloT f) :=
  leaf_fit (k := 1) hn (by simp) (fun x hx => by rw [List.mem_singleton.1 hx]; exact hf) (by simp) (by omega) (by simp)
abbrev pl0F (kd : Int) (a b : Nat) (c : Cl) : Pl := ⟨kd, (a : Int), (b : Int), c, .mk 0 [] [], ms0⟩
def liePF (s : Sc) (m i f b : Nat) : Pl × Sc :=
  let x : Cl := (s.n 2, (s.x 2).n 2)
  let s2 := (s.x 2).x 2
  let q := if s2.n 3 = 0 then clsD ((s2.x 3).n 4).toNat ((s2.x 3).x 4) [] else ([], s2.x 3)
  (⟨5, (f : Int), (othF f b m : Int), (0, 0), .mk 0 [] [], ⟨(f : Int), 2 * ((i : Int) + 1), aloT f, [x], if s2.n 3 = 0 then sortC q.1 else [x]⟩⟩, q.2)
/-- One drawn step of a script. -/
def plyF (s : Sc) (m ill i : Nat) : Pl × Sc :=
  let a := (s.n m).toNat
  let b := othF a ((s.x m).n m).toNat m
  let s2 := (s.x m).x m
  let k := nth pk13 (s2.n 13).toNat
  let s3 := s2.x 13
  if k = 1 then (pl0F 1 a b (s3.n 2, (s3.x 2).n 2), (s3.x 2).x 2)
  else if k = 2 then (pl0F 2 a b (0, 0), s3)
  else if k = 3 then (pl0F 2 a b (0, 0), s3)
  else if k = 4 then (pl0F (if s3.n 4 = 0 then 4 else 2) a b (0, 0), s3.x 4)
  else liePF s3 m i (liaF ill m m a) b
theorem okC_small {s : Sc} : okC (s.n 2, (s.x 2).n 2) = true := by
  have h1 := s.n_bd (k := 2) (by omega)
  have h2 := (s.x 2).n_bd (k := 2) (by omega)
  unfold okC
  simp only [Bool.and_eq_true, decide_eq_true_eq]
  omega
theorem lieP_spec {s : Sc} {m i f b : Nat} (hs : s.ok) (h1 : 1 ≤ m) (h5 : m ≤ 10) (hi : i < 100) (hf : f < m) (hb : b < m) : PlOK m (liePF s m i f b).1 ∧ (liePF s m i f b).2.ok := by
  have ho := othF_lt (a := f) h1 hb
  have hs2 : ((s.x 2).x 2).ok := Sc.ok_x (Sc.ok_x hs _) _
  unfold liePF
  dsimp only
  refine ⟨⟨.inr (.inr (.inr rfl)), ⟨Int.natCast_nonneg _, by dsimp only; omega⟩, ⟨Int.natCast_nonneg _, by dsimp only; omega⟩, fun e => by (cases e), fun _ => ⟨⟨Int.natCast_nonneg _, by dsimp only; omega, by dsimp only; omega, by dsimp only; omega, aloT_fit h5 hf, plc_one okC_small, ?_⟩, rfl⟩⟩, ?_⟩
  · dsimp only
    split
    · exact plc_sort _
    · exact plc_one okC_small
  · split
    · exact (clsD_spec _ _ _ (Sc.ok_x (Sc.ok_x hs2 _) _)).1
    · exact Sc.ok_x hs2 _
theorem pl0_ok {m a b : Nat} {kd : Int} {c : Cl} (hk : kd = 1 ∨ kd = 2 ∨ kd = 4) (ha : a < m) (hb : b < m) (hc : kd = 1 → okC c = true) : PlOK m (pl0F kd a b c) :=
  ⟨by rcases hk with e | e | e <;> simp [e], ⟨by dsimp only; omega, by dsimp only; omega⟩, ⟨by dsimp only; omega, by dsimp only; omega⟩, hc, fun e => by dsimp only at e; omega⟩
theorem plyF_spec {s : Sc} {m ill i : Nat} (hs : s.ok) (h1 : 1 ≤ m) (h5 : m ≤ 10) (hi : i < 100) : PlOK m (plyF s m ill i).1 ∧ (plyF s m ill i).2.ok := by
  have ba := s.n_bd (k := m) (by omega)
  have bb := (s.x m).n_bd (k := m) (by omega)
  have hs2 : ((s.x m).x m).ok := Sc.ok_x (Sc.ok_x hs _) _
  have hs3 : (((s.x m).x m).x 13).ok := Sc.ok_x hs2 _
  have ha : (s.n m).toNat < m := by omega
  have hb : othF (s.n m).toNat ((s.x m).n m).toNat m < m := othF_lt h1 (by omega)
  unfold plyF
  dsimp only
  split
  · exact ⟨pl0_ok (.inl rfl) ha hb fun _ => okC_small, Sc.ok_x (Sc.ok_x hs3 _) _⟩
  split
  · exact ⟨pl0_ok (.inr (.inl rfl)) ha hb fun e => by omega, hs3⟩
  split
  · exact ⟨pl0_ok (.inr (.inl rfl)) ha hb fun e => by omega, hs3⟩
  split
  · refine ⟨pl0_ok ?_ ha hb fun e => ?_, Sc.ok_x hs3 _⟩
    · split
      · exact .inr (.inr rfl)
      · exact .inr (.inl rfl)
    · split at e <;> omega
  · exact lieP_spec hs3 h1 h5 hi (liaF_lt h1 _ _ ha) hb
/-- A drawn script. -/
def plsF (m ill : Nat) : Nat → Sc → List Pl × Sc
  | 0, s => ([], s)
  | k + 1, s => ((plsF m ill k s).1 ++ [(plyF (plsF m ill k s).2 m ill k).1], (plyF (plsF m ill k s).2 m ill k).2)
theorem plsF_spec {m ill : Nat} {s : Sc} (hs : s.ok) (h1 : 1 ≤ m) (h5 : m ≤ 10) : ∀ k, k ≤ 100 → (plsF m ill k s).1.length = k ∧ (∀ p ∈ (plsF m ill k s).1, PlOK m p) ∧ (plsF m ill k s).2.ok
  | 0, _ => ⟨rfl, fun p hp => by simp [plsF] at hp, hs⟩
  | k + 1, hk => by
    obtain ⟨g1, g2, g3⟩ := plsF_spec (ill := ill) hs h1 h5 k (by omega)
    obtain ⟨f1, f2⟩ := plyF_spec (ill := ill) (i := k) g3 h1 h5 (by omega)
    rw [plsF]
    refine ⟨by simp [g1], fun p hp => ?_, f2⟩
    rcases List.mem_append.1 hp with hp | hp
    · exact g2 p hp
    · rw [List.mem_singleton.1 hp]; exact f1
theorem runM_snoc : ∀ (l : List Pl) (m : Mt) (p : Pl), runM (l ++ [p]) m = stpM (runM l m) p
  | [], _, _ => rfl
  | y :: r, m, p => runM_snoc r (stpM m y) p
theorem runM_take {l : List Pl} {m : Mt} {k : Nat} (h : k < l.length) : runM (l.take (k + 1)) m = stpM (runM (l.take k) m) (nth l k) := by
  rw [List.take_succ_eq_append_getElem h, runM_snoc, nth_getElem l k h]
/-- The codes of the first steps. -/
def runD (l : List Pl) (m : Mt) : Nat → List Int
  | 0 => []
  | k + 1 => runD l m k ++ [(stpF (runM (l.take k) m) (nth l k)).2]
theorem runD_len (l : List Pl) (m : Mt) : ∀ k, (runD l m k).length = k
  | 0 => rfl
  | k + 1 => by rw [runD, List.length_append, runD_len l m k]; rfl
theorem rndJ_snoc (a : Nat) : ∀ (l : List Nat) (b : Nat) (x : Mt × Bool), rndJ a (l ++ [b]) x = sndS a b (rndJ a l x)
  | [], _, _ => rfl
  | y :: r, b, x => rndJ_snoc a r b (sndS a y x)
theorem rndI_snoc (w : List Nat) : ∀ (l : List Nat) (a : Nat) (x : Mt × Bool), rndI w (l ++ [a]) x = rndJ a w (rndI w l x)
  | [], _, _ => rfl
  | y :: r, a, x => rndI_snoc w r a (rndJ y w x)
theorem FullC.fitM {c : List Mb} (hc : FullC c) : ∀ x ∈ c, FitM c.length x := fun x hx => by
  obtain ⟨k, hk, rfl⟩ := List.mem_iff_getElem.1 hx
  rw [← nth_getElem _ k hk]
  exact .inr ⟨hc.decl k hk, hc.fit k hk⟩
theorem FullC.okS {c : List Mb} (hc : FullC c) {s : Nat} (hs : s ≤ memN c) : OkS c s := fit_okS hc.len hc.fitM hs
end Go.Proofs.YtdhogcklnehdhaaGreatDoor
namespace Go.Proofs.YtdhogcklnehdhaaGreatDoor
set_option linter.unusedSimpArgs false
set_option linter.unusedVariables false
set_option linter.unnecessarySimpa false
set_option linter.unusedSectionVars false
set_option maxRecDepth 100000
open Go Go.RowKit Go.Am Go.Proofs.Grow
def lieM (f : Nat) (x : Cl) : Ms := ⟨(f : Int), 1, aloT f, [x], [x]⟩
abbrev votP (k : Nat) (x : Cl) : Pl := pl0F 1 k 0 x
abbrev lieP (f k : Nat) (x : Cl) : Pl := ⟨5, (f : Int), (k : Int), (0, 0), .mk 0 [] [], lieM f x⟩
abbrev ScS := Mt × List Pl
def tryS (p : Pl) (s : ScS) : ScS := if (stpF s.1 p).2 = 0 then ((stpF s.1 p).1, s.2 ++ [p]) else s
def cvL (x : Cl) (k : Nat) (l : List Nat) (s : ScS) : ScS := l.foldl (fun s f => tryS (lieP f k x) s) s
def cvK (x : Cl) (il : Nat) (s : ScS) (k : Nat) : ScS := cvL x k (nodesN il) (tryS (votP k x) s)
def cvV (x : Cl) (il : Nat) (l : List Nat) (s : ScS) : ScS := l.foldl (cvK x il) s
def cvT (l : List Nat) (s : ScS) (a : Nat) : ScS := l.foldl (fun s b => tryS (sndP a b) s) s
def cvR (l : List Nat) (s : ScS) : ScS := l.foldl (cvT l) s
def cnvF (q il : Nat) (x : Cl) (s : ScS) : ScS := cvR (nodesN q) (cvR (nodesN q) (cvV x il (nodesN q) s))
theorem try_1 (p : Pl) (s : ScS) : (tryS p s).1 = stpM s.1 p := by
  unfold tryS stpM; split <;> rfl
/-- What a loop does step by step, and keeps. -/
theorem fold_all {S ι : Type} {f : S → ι → S} {I : S → Prop} {G : ι → S → Prop} : ∀ (l : List ι) (s : S), (∀ i ∈ l, ∀ s, I s → I (f s i) ∧ G i (f s i)) → (∀ i j s, j ∈ l → I s → G i s → G i (f s j)) → I s → I (l.foldl f s) ∧ ∀ i, (i ∈ l ∨ G i s) → G i (l.foldl f s)
  | [], s, _, _, h => ⟨h, fun i hi => by
    rcases hi with hi | hi
    · simp at hi
    · exact hi⟩
  | j :: r, s, h1, h2, h => by
    obtain ⟨g1, g2⟩ := h1 j (by simp) s h
    obtain ⟨k1, k2⟩ := fold_all r (f s j) (fun i hi => h1 i (by simp [hi])) (fun i j s hj => h2 i j s (by simp [hj])) g1
    refine ⟨k1, fun i hi => k2 i ?_⟩
    rcases hi with hi | hi
    · rcases List.mem_cons.1 hi with rfl | hi
      · exact .inr g2
      · exact .inl hi
    · exact .inr (h2 i j s (by simp) h hi)
theorem fold_keep {S ι : Type} {f : S → ι → S} {I : S → Prop} (l : List ι) (s : S) (h1 : ∀ i ∈ l, ∀ s, I s → I (f s i)) (h : I s) : I (l.foldl f s) :=
  (fold_all (G := fun _ _ => True) l s (fun i hi s hs => ⟨h1 i hi s hs, trivial⟩) (fun _ _ _ _ _ _ => trivial) h).1
/-- All that a voter knows of is one claim. -/
structure Onl (x : Cl) (v : Vo) : Prop where
  vo : ∀ y ∈ v.vo, y = x
  ac : ∀ y ∈ v.ac, y = x
  he : ∀ m ∈ v.he, (∀ y ∈ m.vo, y = x) ∧ ∀ y ∈ m.ac, y = x
/-- All that can be confirmed is confirmed. -/
def CoC (v : Vo) : Prop := ∀ y ∈ v.ac, conN (viewF v) v.nd.toNat (accS (v.he ++ [sayV v]) y) = true → y ∈ v.co
theorem set_co {n : Nat} {v : Vo} (h : VoOK n v) : CoC (setV v) := by
  have s := setV_spec h
  obtain ⟨h1, h2⟩ := setA_like (c := viewF v) h 129
  intro y hy hc
  have e1 : viewF (setV v) = viewF v := by unfold viewF; rw [s.nd, s.t, s.he]
  have e2 : (setV v).ac = (setA (viewF v) 129 v).ac := rfl
  have e3 : (setV v).co = conL (viewF v) v.nd.toNat (v.he ++ [sayV (setA (viewF v) 129 v)]) (setA (viewF v) 129 v).ac (setA (viewF v) 129 v).co := rfl
  have e4 : sayV (setV v) = sayV (setA (viewF v) 129 v) := rfl
  rw [e3, mem_conL _ _ h1.ac.ok h1.co.ok]
  rw [e1, s.nd, s.he, e4] at hc
  exact .inr ⟨by rw [← e2]; exact hy, hc⟩
theorem tur_co {n : Nat} {b v : Vo} (h : VoOK n v) : CoC (turV b v) := by
  have s := set_co h
  unfold turV
  split
  · exact s
  · intro y hy hc
    refine s y hy ?_
    have e : ∀ (l : List Ms) (u : Vo) (q : Int), accS (l ++ [sayV { u with sq := q }]) y = accS (l ++ [sayV u]) y := fun l u q => by
      unfold accS
      rw [setM_app, setM_app]; rfl
    rw [e] at hc
    exact hc
theorem tur_onl {n : Nat} {b v : Vo} {x : Cl} (hb : VoOK n b) (hv : VoOK n v) (ht : Turn b v) (h : Onl x v) : Onl x (turV b v) := by
  have s := turV_spec hb hv ht
  refine ⟨by rw [s.vo]; exact h.vo, s.acc (· = x) h.ac fun u z _ hl hq hz => ?_, by rw [s.he]; exact h.he⟩
  unfold nxtV at hz
  obtain ⟨_, m, h1, h2⟩ := mem_know.1 (List.mem_of_find?_eq_some hz)
  rcases List.mem_append.1 h1 with h1 | h1
  · rw [hl.he] at h1
    rcases h2 with h2 | h2
    · exact (h.he m h1).1 z h2
    · exact (h.he m h1).2 z h2
  · obtain rfl := List.mem_singleton.1 h1
    rcases h2 with h2 | h2
    · exact h.vo z (by rw [← hl.vo]; exact h2)
    · exact hq z h2
/-- The state of a meeting, while the members of a set get to know one claim. -/
structure CvI (c : List Mb) (il q : Nat) (x : Cl) (vs0 : List Vo) (m : Mt) : Prop where
  I : MtI c il 0 m
  onl : ∀ k, q.testBit k = true → Onl x (nth m.vs k)
  lie : ∀ k, q.testBit k = true → ∀ y ∈ (nth m.vs k).he, il.testBit y.nd.toNat = true → y = lieM y.nd.toNat x
  cmp : ∀ k, k < c.length → CoC (nth m.vs k)
  oth : ∀ k, k < c.length → q.testBit k = false → nth m.vs k = nth vs0 k
structure CvC (c : List Mb) (il q : Nat) (x : Cl) : Prop where
  fc : FullC c
  hil : il < 2 ^ c.length
  hq : q < 2 ^ c.length
  dis : ∀ k, q.testBit k = true → il.testBit k = false
  ox : okC x = true
/-- A step that tells one voter. -/
theorem stp_eq {m : Mt} {p : Pl} (hk : p.kd ≠ 4) (ha : askF m p = 0) : stpM m p = if (chgF m p).2.2 = 0 then ⟨m.vs.set (chgF m p).1.toNat (chgF m p).2.1, m.st, m.il⟩ else m := by
  unfold stpM stpF goF
  rw [ha]
  by_cases h : (chgF m p).2.2 = 0
  · simp [h, hk]
  · simp [h]
section
variable {c : List Mb} {il q : Nat} {x : Cl} {vs0 : List Vo} {m : Mt}
theorem stp_vote (C : CvC c il q x) (h : CvI c il q x vs0 m) {k : Nat} (hk : q.testBit k = true) : stpM m (votP k x) = if (votV (nth m.vs k) x).2 = 0 then ⟨m.vs.set k (votV (nth m.vs k) x).1, m.st, m.il⟩ else m := by
  have ha : askF m (votP k x) = 0 := by
    unfold askF gonB
    have := C.dis k hk
    simp [isTo, h.I.il, h.I.st, this]
  rw [stp_eq (by simp) ha]
  have e : chgF m (votP k x) = ((k : Int), votV (nth m.vs k) x) := by
    unfold chgF
    dsimp only
    rw [if_pos rfl, Int.toNat_natCast]
  rw [e]
  rfl
theorem stp_lie (C : CvC c il q x) (h : CvI c il q x vs0 m) {k f : Nat} (hk : q.testBit k = true) (hf : il.testBit f = true) : stpM m (lieP f k x) = if (heaV (nth m.vs k) (lieM f x)).2 = 0 then ⟨m.vs.set k (heaV (nth m.vs k) (lieM f x)).1, m.st, m.il⟩ else m := by
  have hd := C.dis k hk
  have hfk : f ≠ k := fun e => by rw [e, hd] at hf; cases hf
  have ha : askF m (lieP f k x) = 0 := by
    unfold askF gonB
    dsimp only
    rw [if_neg (by omega), h.I.il, h.I.st, Int.toNat_natCast, Int.toNat_natCast, hf]
    simp [isTo, hd]
  rw [stp_eq (by simp) ha]
  have e : chgF m (lieP f k x) = ((k : Int), heaV (nth m.vs k) (lieM f x)) := by
    unfold chgF
    dsimp only
    rw [if_neg (by omega), if_neg (by omega), if_pos rfl, Int.toNat_natCast]
  rw [e]
  rfl
theorem stp_snd (C : CvC c il q x) (h : CvI c il q x vs0 m) {a b : Nat} (ha : q.testBit a = true) (hb : q.testBit b = true) : stpM m (sndP a b) = if a ≠ b ∧ (heaV (nth m.vs b) (sayV (nth m.vs a))).2 = 0 then ⟨m.vs.set b (heaV (nth m.vs b) (sayV (nth m.vs a))).1, m.st, m.il⟩ else m := by
  have da := C.dis a ha
  have db := C.dis b hb
  by_cases hab : a = b
  · rw [if_neg (fun e => e.1 hab)]
    refine stpM_no ?_
    have e1 : askF m (sndP a b) = 1 := by
      unfold askF sndP
      dsimp only
      rw [if_pos ⟨rfl, by omega⟩]
    unfold stpF
    rw [if_pos (by rw [e1]; simp)]
    show askF m (sndP a b) ≠ 0
    rw [e1]; simp
  · have h0 : askF m (sndP a b) = 0 := by
      unfold askF gonB sndP
      dsimp only
      rw [if_neg (by omega), h.I.il, h.I.st, Int.toNat_natCast, Int.toNat_natCast, da]
      simp [isTo, db]
    rw [stp_eq (by simp [sndP]) h0]
    have e : chgF m (sndP a b) = ((b : Int), heaV (nth m.vs b) (sayV (nth m.vs a))) := by
      unfold chgF sndP
      dsimp only
      rw [if_neg (by omega), if_pos rfl, Int.toNat_natCast, Int.toNat_natCast]
    rw [e]
    dsimp only
    by_cases hh : (heaV (nth m.vs b) (sayV (nth m.vs a))).2 = 0
    · rw [if_pos hh, if_pos ⟨hab, hh⟩]; rfl
    · rw [if_neg hh, if_neg (fun e => hh e.2)]
/-- What one step does to each voter. -/
structure StepK (il q : Nat) (x : Cl) (m m' : Mt) (k : Nat) : Prop where
  gr : Grows (nth m.vs k) (nth m'.vs k)
  he : ∀ y ∈ (nth m.vs k).he, ∃ z ∈ (nth m'.vs k).he, z.nd = y.nd ∧ (z = y ∨ z = lieM y.nd.toNat x ∨ (z = sayV (nth m.vs y.nd.toNat) ∧ q.testBit y.nd.toNat = true))
theorem StepK.refl {k : Nat} : StepK il q x m m k := ⟨.refl _, fun y hy => ⟨y, hy, rfl, .inl rfl⟩⟩
theorem lie_ok {n f : Nat} (hn : n ≤ 10) (hf : f < n) (hx : okC x = true) : MsOK n (lieM f x) :=
  ⟨by show (0 : Int) ≤ (f : Int); omega, by show (f : Int) < (n : Int); omega, by show (1 : Int) ≤ 1; omega, by show (1 : Int) ≤ 1000; omega, aloT_fit hn hf, plc_one hx, plc_one hx⟩
/-- One voter takes a turn. -/
theorem CvI.turn (C : CvC c il q x) (h : CvI c il q x vs0 m) {m' : Mt} {k : Nat} {v : Vo} (hI : MtI c il 0 m') (hk : q.testBit k = true) (hv : VoOK c.length v) (ht : Turn (nth m.vs k) v) (ho : Onl x v)
    (hl : ∀ y ∈ v.he, il.testBit y.nd.toNat = true → y = lieM y.nd.toNat x)
    (hh : ∀ y ∈ (nth m.vs k).he, ∃ z ∈ v.he, z.nd = y.nd ∧ (z = y ∨ z = lieM y.nd.toNat x ∨ (z = sayV (nth m.vs y.nd.toNat) ∧ q.testBit y.nd.toNat = true)))
    (hm : m'.vs = m.vs.set k (turV (nth m.vs k) v)) : CvI c il q x vs0 m' ∧ (∀ j, StepK il q x m m' j) ∧ nth m'.vs k = turV (nth m.vs k) v := by
  have hkn : k < c.length := testBit_lt' C.hq hk
  have hlen := h.I.ok.len
  have s := turV_spec (h.I.ok.ok k hkn) hv ht
  have hn : ∀ j, nth m'.vs j = if k = j then turV (nth m.vs k) v else nth m.vs j := fun j => by rw [hm]; exact nth_setI _ _ _ _ (by omega)
  refine ⟨⟨hI, fun j hj => ?_, fun j hj => ?_, fun j hj => ?_, fun j hj hq => ?_⟩, fun j => ?_, by rw [hn, if_pos rfl]⟩
  · rw [hn]; split
    · exact tur_onl (h.I.ok.ok k hkn) hv ht ho
    · exact h.onl j hj
  · rw [hn]; split
    · rw [s.he]; exact hl
    · exact h.lie j hj
  · rw [hn]; split
    · exact tur_co hv
    · exact h.cmp j hj
  · rw [hn, if_neg (fun e => by rw [e, hq] at hk; cases hk)]
    exact h.oth j hj hq
  · by_cases e : k = j
    · subst e
      have en : nth m'.vs k = turV (nth m.vs k) v := by rw [hn, if_pos rfl]
      exact ⟨by rw [en]; exact s.gr, fun y hy => by rw [en, s.he]; exact hh y hy⟩
    · have en : nth m'.vs j = nth m.vs j := by rw [hn, if_neg e]
      exact ⟨by rw [en]; exact .refl _, fun y hy => ⟨y, by rw [en]; exact hy, rfl, .inl rfl⟩⟩
theorem MtI.step {il st : Nat} (hc : FullC c) {p : Pl} (h : MtI c il st m) (hp : PlOK c.length p) (hk : p.kd ≠ 4) : MtI c il st (stpM m p) := by
  refine ⟨h.ok.step hp, h.inv.step hc h.ok hp, ?_, ?_⟩
  · by_cases e : (stpF m p).2 = 0
    · rw [stpM_ok e, (stp_cases h.ok hp e).1]; exact h.il
    · rw [stpM_no e]; exact h.il
  · by_cases e : (stpF m p).2 = 0
    · rw [stpM_ok e, (stp_cases h.ok hp e).1]
      show (if p.kd = 4 then m.st ||| 2 ^ p.fr.toNat else m.st) = st
      rw [if_neg hk]; exact h.st
    · rw [stpM_no e]; exact h.st
theorem vot_pl (C : CvC c il q x) {k : Nat} (hk : q.testBit k = true) : PlOK c.length (votP k x) :=
  pl0_ok (.inl rfl) (testBit_lt' C.hq hk) C.fc.pos fun _ => C.ox
theorem lie_pl (C : CvC c il q x) {k f : Nat} (hk : q.testBit k = true) (hf : il.testBit f = true) : PlOK c.length (lieP f k x) := by
  have hkn : k < c.length := testBit_lt' C.hq hk
  have hfn : f < c.length := testBit_lt' C.hil hf
  have h5 := C.fc.len
  exact ⟨.inr (.inr (.inr rfl)), ⟨by dsimp only; omega, by dsimp only; omega⟩, ⟨by dsimp only; omega, by dsimp only; omega⟩, fun e => by (cases e), fun _ => ⟨lie_ok (by omega) hfn C.ox, rfl⟩⟩
theorem cv_vote (C : CvC c il q x) (h : CvI c il q x vs0 m) {k : Nat} (hk : q.testBit k = true) :
    CvI c il q x vs0 (stpM m (votP k x)) ∧ (∀ j, StepK il q x m (stpM m (votP k x)) j) ∧ x ∈ (nth (stpM m (votP k x)).vs k).vo := by
  have hkn : k < c.length := testBit_lt' C.hq hk
  have hI := h.I.step C.fc (vot_pl C hk) (by simp)
  have hn : ∀ y, y = x → ctrC x y = false := fun y e => by rw [e]; exact ctr_self x
  have ok := h.I.ok.ok k hkn
  have on := h.onl k hk
  have h1 : ¬ ((nth m.vs k).vo.any (ctrC x) = true ∨ (nth m.vs k).ac.any (ctrC x) = true) := by
    rintro (e | e)
    · obtain ⟨y, y1, y2⟩ := List.any_eq_true.1 e
      rw [hn y (on.vo y y1)] at y2; cases y2
    · obtain ⟨y, y1, y2⟩ := List.any_eq_true.1 e
      rw [hn y (on.ac y y1)] at y2; cases y2
  rw [stp_vote C h hk] at hI ⊢
  unfold votV at hI ⊢
  rw [if_neg h1] at hI ⊢
  by_cases h2 : hasC (nth m.vs k).vo x = true
  · rw [if_pos h2, if_pos rfl] at hI ⊢
    have e : (⟨m.vs.set k (nth m.vs k), m.st, m.il⟩ : Mt) = m := by rw [nth_setS]
    dsimp only
    rw [e]
    exact ⟨h, fun j => .refl, by rw [nth_setS]; simpa [hasC] using h2⟩
  · rw [if_neg h2, if_pos rfl] at hI ⊢
    dsimp only at hI ⊢
    have okv := ok_vote ok C.ox (fun y hy => hn y (on.vo y hy))
    have tu : Turn (nth m.vs k) { nth m.vs k with vo := sortC ((nth m.vs k).vo ++ [x]) } := ⟨rfl, rfl, rfl, fun y hy => mem_sort.2 ⟨ok.vo.ok y hy, by simp [hy]⟩, rfl, rfl⟩
    obtain ⟨g1, g2, g3⟩ := h.turn C (v := { nth m.vs k with vo := sortC ((nth m.vs k).vo ++ [x]) }) hI hk okv tu ⟨fun y hy => by
      have := (mem_sort.1 hy).2
      rcases List.mem_append.1 this with q | q
      · exact on.vo y q
      · exact List.mem_singleton.1 q, on.ac, on.he⟩ (h.lie k hk) (fun y hy => ⟨y, hy, rfl, .inl rfl⟩) rfl
    refine ⟨g1, g2, ?_⟩
    rw [g3, (turV_spec ok okv tu).vo]
    exact mem_sort.2 ⟨C.ox, by simp⟩
/-- A message is heard. -/
theorem cv_hear (C : CvC c il q x) (h : CvI c il q x vs0 m) {m' : Mt} {k : Nat} {s : Ms} (hk : q.testBit k = true) (hs : MsOK c.length s) (hne : s.nd ≠ (k : Int)) (hon : (∀ y ∈ s.vo, y = x) ∧ ∀ y ∈ s.ac, y = x)
    (hil : il.testBit s.nd.toNat = true → s = lieM s.nd.toNat x) (hsy : s = lieM s.nd.toNat x ∨ (s = sayV (nth m.vs s.nd.toNat) ∧ q.testBit s.nd.toNat = true))
    (hI : MtI c il 0 m') (hm : m'.vs = m.vs.set k (turV (nth m.vs k) { nth m.vs k with he := putM (nth m.vs k).he s })) :
    CvI c il q x vs0 m' ∧ (∀ j, StepK il q x m m' j) ∧ s ∈ (nth m'.vs k).he := by
  have hkn : k < c.length := testBit_lt' C.hq hk
  have ok := h.I.ok.ok k hkn
  have nd := h.I.ok.nd k hkn
  have on := h.onl k hk
  have okv := ok_hear ok hs (by omega)
  have tu : Turn (nth m.vs k) { nth m.vs k with he := putM (nth m.vs k).he s } := ⟨rfl, rfl, rfl, fun y hy => hy, rfl, rfl⟩
  have mem := fun y => @putM_mem (nth m.vs k).he s y ok.asc
  obtain ⟨g1, g2, g3⟩ := h.turn C (v := { nth m.vs k with he := putM (nth m.vs k).he s }) hI hk okv tu ⟨on.vo, on.ac, fun y hy => by
      rcases (mem y).1 hy with rfl | ⟨q, _⟩
      · exact hon
      · exact on.he y q⟩ (fun y hy hy2 => by
      rcases (mem y).1 hy with rfl | ⟨q, _⟩
      · exact hil hy2
      · exact h.lie k hk y q hy2) (fun y hy => by
      by_cases e : y.nd = s.nd
      · exact ⟨s, (mem s).2 (.inl rfl), e.symm, .inr (by rw [e]; exact hsy)⟩
      · exact ⟨y, (mem y).2 (.inr ⟨hy, e⟩), rfl, .inl rfl⟩) hm
  exact ⟨g1, g2, by rw [g3, (turV_spec ok okv tu).he]; exact (mem s).2 (.inl rfl)⟩
theorem hea_two {v : Vo} {s : Ms} : (oldM v.he s = true ∧ (heaV v s).2 ≠ 0) ∨ (oldM v.he s = false ∧ heaV v s = (turV v { v with he := putM v.he s }, 0)) := by
  unfold heaV
  cases e : oldM v.he s with
  | true => exact .inl ⟨rfl, by simp⟩
  | false => exact .inr ⟨rfl, by simp⟩
theorem old_mem {l : List Ms} {s : Ms} (h : oldM l s = true) : ∃ y ∈ l, y.nd = s.nd ∧ s.sq ≤ y.sq := by
  unfold oldM at h
  obtain ⟨y, y1, y2⟩ := List.any_eq_true.1 h
  simp only [Bool.and_eq_true, decide_eq_true_eq] at y2
  exact ⟨y, y1, y2⟩
theorem cv_lie (C : CvC c il q x) (h : CvI c il q x vs0 m) {k f : Nat} (hk : q.testBit k = true) (hf : il.testBit f = true) :
    CvI c il q x vs0 (stpM m (lieP f k x)) ∧ (∀ j, StepK il q x m (stpM m (lieP f k x)) j) ∧ ∃ y ∈ (nth (stpM m (lieP f k x)).vs k).he, y.nd = (f : Int) := by
  have hfn : f < c.length := testBit_lt' C.hil hf
  have h5 := C.fc.len
  have hd := C.dis k hk
  have hfk : f ≠ k := fun e => by rw [e, hd] at hf; cases hf
  have hI := h.I.step C.fc (lie_pl C hk hf) (by simp)
  rw [stp_lie C h hk hf] at hI ⊢
  rcases @hea_two (nth m.vs k) (lieM f x) with ⟨e1, e2⟩ | ⟨e1, e2⟩
  · rw [if_neg e2]
    obtain ⟨y, y1, y2, _⟩ := old_mem e1
    exact ⟨h, fun j => .refl, y, y1, y2⟩
  · rw [e2, if_pos rfl] at hI ⊢
    dsimp only at hI ⊢
    have e : (lieM f x).nd.toNat = f := Int.toNat_natCast f
    obtain ⟨g1, g2, g3⟩ := cv_hear C h (s := lieM f x) hk (lie_ok (by omega) hfn C.ox) (by show (f : Int) ≠ (k : Int); omega) ⟨fun y hy => List.mem_singleton.1 hy, fun y hy => List.mem_singleton.1 hy⟩ (fun _ => by rw [e]) (.inl (by rw [e])) hI rfl
    exact ⟨g1, g2, _, g3, rfl⟩
/-- What one voter knows of another one. -/
def HeV (x : Cl) (m : Mt) (b a : Nat) : Prop := ∃ y ∈ (nth m.vs b).he, y.nd = (a : Int) ∧ x ∈ y.vo
def HeA (x : Cl) (m : Mt) (b a : Nat) : Prop := ∃ y ∈ (nth m.vs b).he, y.nd = (a : Int) ∧ x ∈ y.ac
theorem cv_snd (C : CvC c il q x) (h : CvI c il q x vs0 m) {a b : Nat} (ha : q.testBit a = true) (hb : q.testBit b = true) :
    CvI c il q x vs0 (stpM m (sndP a b)) ∧ (∀ j, StepK il q x m (stpM m (sndP a b)) j) ∧ (a ≠ b → (x ∈ (nth m.vs a).vo → HeV x (stpM m (sndP a b)) b a) ∧ (x ∈ (nth m.vs a).ac → HeA x (stpM m (sndP a b)) b a)) := by
  have han : a < c.length := testBit_lt' C.hq ha
  have hbn : b < c.length := testBit_lt' C.hq hb
  have hI := h.I.step C.fc (snd_ok han hbn) (by simp [sndP])
  have oka := h.I.ok.ok a han
  have na := h.I.ok.nd a han
  have on := h.onl a ha
  have e : (sayV (nth m.vs a)).nd.toNat = a := by show (nth m.vs a).nd.toNat = a; omega
  rw [stp_snd C h ha hb] at hI ⊢
  by_cases hab : a = b
  · rw [if_neg (fun e => e.1 hab)]
    exact ⟨h, fun j => .refl, fun q => absurd hab q⟩
  · rcases @hea_two (nth m.vs b) (sayV (nth m.vs a)) with ⟨e1, e2⟩ | ⟨e1, e2⟩
    · rw [if_neg (fun e => e2 e.2)]
      obtain ⟨y, y1, y2, y3⟩ := old_mem e1
      have y2 : y.nd = (nth m.vs a).nd := y2
      have y3 : (nth m.vs a).sq ≤ y.sq := y3
      have hya : y.nd.toNat = a := by omega
      have pa := h.I.inv.past b hbn y y1 (by rw [hya, h.I.il]; exact C.dis a ha)
      rw [hya] at pa
      have p1 := pa.sq
      obtain ⟨p2, p3⟩ := pa.eq (by omega)
      exact ⟨h, fun j => .refl, fun _ => ⟨fun hx => ⟨y, y1, by omega, by rw [p2]; exact hx⟩, fun hx => ⟨y, y1, by omega, by rw [p3]; exact hx⟩⟩⟩
    · rw [if_pos ⟨hab, by rw [e2]⟩, e2] at hI ⊢
      dsimp only at hI ⊢
      obtain ⟨g1, g2, g3⟩ := cv_hear C h (s := sayV (nth m.vs a)) hb (say_ok oka (by omega)) (by show (nth m.vs a).nd ≠ (b : Int); omega) ⟨on.vo, on.ac⟩ (fun q => by rw [e, C.dis a ha] at q; cases q) (.inr ⟨by rw [e], by rw [e]; exact ha⟩) hI rfl
      exact ⟨g1, g2, fun _ => ⟨fun hx => ⟨_, g3, na, hx⟩, fun hx => ⟨_, g3, na, hx⟩⟩⟩
end
end Go.Proofs.YtdhogcklnehdhaaGreatDoor
