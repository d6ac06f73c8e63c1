/- Plain law: who accepts and who confirms. No program stands here. -/
import Derived.Test.YtdhogcklnehdhaaGreatDoorQAI
import Derived.Test.YtdhogcklnehdhaaGreatDoorQAF
import Derived.Test.YtdhogcklnehdhaaGreatDoorQAA
import Derived.Test.YtdhogcklnehdhaaGreatDoorQAE
import Derived.Test.YtdhogcklnehdhaaGreatDoorQAD
import Derived.Shelf.SlSortCmp.NoneTotal
namespace Go.Proofs.YtdhogcklnehdhaaGreatDoor
set_option linter.unusedSimpArgs false
set_option linter.unusedVariables false
set_option linter.unnecessarySimpa false
set_option linter.unusedSectionVars false
set_option maxRecDepth 100000
open Go Go.RowKit Go.Am Go.Proofs.Grow
/-- A quorum has voted for a claim. -/
def QA (c : List Mb) (V : Nat → Cl → Prop) (x : Cl) : Prop := ∃ U : Nat, U ≠ 0 ∧ U < 1024 ∧ ClQ c U ∧ ∀ j, U.testBit j = true → V j x
/-- A quorum with a member in it has accepted a claim; of the ill-behaved ones nothing is known. -/
def QC (c : List Mb) (ill : Nat) (A : Nat → Cl → Prop) (k : Nat) (x : Cl) : Prop :=
  ∃ W : Nat, W < 1024 ∧ W.testBit k = true ∧ ∀ j, W.testBit j = true → j < c.length ∧ (ill.testBit j = false → satT (W : Int) (nth c j).t = true ∧ A j x)
theorem QA.mono {c : List Mb} {V V' : Nat → Cl → Prop} (h : ∀ j x, V j x → V' j x) {x : Cl} : QA c V x → QA c V' x := fun ⟨U, h1, h2, h3, h4⟩ => ⟨U, h1, h2, h3, fun j hj => h j x (h4 j hj)⟩
theorem QC.mono {c : List Mb} {ill k : Nat} {A A' : Nat → Cl → Prop} (h : ∀ j x, A j x → A' j x) {x : Cl} : QC c ill A k x → QC c ill A' k x :=
  fun ⟨W, h1, h2, h3⟩ => ⟨W, h1, h2, fun j hj => ⟨(h3 j hj).1, fun hi => ⟨((h3 j hj).2 hi).1, h j x ((h3 j hj).2 hi).2⟩⟩⟩
/-- All members are declared, with right trusts. -/
structure FullC (c : List Mb) : Prop where
  len : c.length ≤ 5
  pos : 1 ≤ c.length
  decl : ∀ k, k < c.length → (nth c k).decl = true
  fit : ∀ k, k < c.length → FitT c.length (nth c k).t
theorem FullC.bit {c : List Mb} (h : FullC c) {k : Nat} (hk : k < c.length) : (declN c).testBit k = true := by
  unfold declN; rw [declTo_bit, h.decl k hk]; simpa using hk
theorem he_lt {n : Nat} (hn : n ≤ 10) {v : Vo} (h : VoOK n v) (p : Ms → Bool) : setM p (v.he ++ [sayV v]) 0 < 1024 := by
  refine setM_lt p _ 0 (by decide) fun m hm => ?_
  rcases List.mem_append.1 hm with hm | hm
  · exact h.hb hn m hm
  · obtain rfl := List.mem_singleton.1 hm
    exact ⟨h.nd0, h.nd1⟩
/-- Whoever is blocked is blocked by somebody. -/
theorem blk_ne {n : Nat} (hn : n ≤ 10) {c : List Mb} {v : Nat} (hv : v < 10) (ht : FitT n (nth c v).t) (h : blkN c v 0 = true) : False := by
  unfold blkN at h
  have : satT (((andn 1023 0 ||| 2 ^ v : Nat)) : Int) (nth c v).t = true :=
    sat_all hn (or_lt10 (andn_lt10 (by decide)) (pow_lt hv)) ht fun k hk => by
      rw [Nat.testBit_or, andn_bit, bit_1023 (by omega), Nat.zero_testBit]; rfl
  rw [this] at h
  simp at h
theorem bit_ne {a : Nat} (h : a ≠ 0) : ∃ k, a.testBit k = true := ne_zero_bit h
/-- What can be accepted, a quorum has voted for: nobody is ill-behaved. -/
theorem acc_step {c : List Mb} (hc : FullC c) {V A : Nat → Cl → Prop} {u : Vo} {x : Cl} (hu : VoOK c.length u) (hk : u.nd < (c.length : Int)) (ht : u.t = (nth c u.nd.toNat).t) (hv : ∀ y ∈ u.vo, V u.nd.toNat y)
    (hm : ∀ m ∈ u.he, m.t = (nth c m.nd.toNat).t ∧ (∀ y ∈ m.vo, V m.nd.toNat y) ∧ ∀ y ∈ m.ac, A m.nd.toNat y) (hA : ∀ j y, A j y → QA c V y) (h : nxtV (viewF u) u = some x) : QA c V x := by
  have hl : c.length ≤ 10 := by have := hc.len; omega
  obtain ⟨_, hx, _, ha⟩ := nxt_some h
  have hnd := hu.nd0
  have hnd1 := hu.nd1
  have hacc : ∀ k, (accS (u.he ++ [sayV u]) x).testBit k = true → QA c V x := fun k hk => by
    obtain ⟨m, h1, h2, h3⟩ := mem_accS.1 hk
    rcases List.mem_append.1 h1 with h1 | h1
    · exact hA _ _ ((hm m h1).2.2 x h2)
    · obtain rfl := List.mem_singleton.1 h1
      exact absurd h2 hx
  have l1 : votS (u.he ++ [sayV u]) x < 1024 := he_lt hl hu _
  have l2 : accS (u.he ++ [sayV u]) x < 1024 := he_lt hl hu _
  simp only [accN, Bool.or_eq_true] at ha
  rcases ha with ha | ha
  · rcases Nat.decEq (accS (u.he ++ [sayV u]) x) 0 with e | e
    · obtain ⟨k, hk⟩ := bit_ne e
      exact hacc k hk
    · rw [e] at ha
      exact (blk_ne hl (by omega) (by rw [view_self hu]; exact hu.t) ha).elim
  · generalize hG : (greatN (viewF u) (votS (u.he ++ [sayV u]) x ||| accS (u.he ++ [sayV u]) x)).1 = G at *
    have hs := or_lt10 l1 l2
    have hcl : ClQ (viewF u) G := hG ▸ great_cl hs
    have hsub : ∀ k, G.testBit k = true → (votS (u.he ++ [sayV u]) x ||| accS (u.he ++ [sayV u]) x).testBit k = true := fun k hk => great_sub (hG ▸ hk)
    have hGl : G < 1024 := hG ▸ great_lt _ hs
    rcases Classical.em (∃ k, (accS (u.he ++ [sayV u]) x).testBit k = true) with ⟨k, hk⟩ | hno
    · exact hacc k hk
    · refine ⟨G, fun e => (by rw [e, Nat.zero_testBit] at ha; cases ha), hGl, fun j hj => ?_, fun j hj => ?_⟩
      · obtain ⟨d1, d2⟩ := hcl j hj
        rcases view_mem hl hu d1 with e | ⟨m, m1, m2⟩
        · subst e
          rw [view_self hu] at d2
          exact ⟨hc.bit (by omega), by rw [← ht]; exact d2⟩
        · subst m2
          rw [view_at hl hu m1] at d2
          have := (hu.he m m1).1.nd0
          have := (hu.he m m1).1.nd1
          exact ⟨hc.bit (by omega), by rw [← (hm m m1).1]; exact d2⟩
      · have := hsub j hj
        rw [Nat.testBit_or, Bool.or_eq_true] at this
        rcases this with h1 | h1
        · obtain ⟨m, m1, m2, m3⟩ := mem_votS.1 h1
          subst m3
          rcases List.mem_append.1 m1 with m1 | m1
          · exact (hm m m1).2.1 x m2
          · obtain rfl := List.mem_singleton.1 m1
            exact hv x m2
        · exact absurd ⟨j, h1⟩ hno
/-- What can be confirmed, a quorum has accepted. -/
theorem con_step {c : List Mb} (hc : FullC c) {ill : Nat} {A : Nat → Cl → Prop} {u : Vo} {x : Cl} (hu : VoOK c.length u) (hk : u.nd < (c.length : Int)) (ht : u.t = (nth c u.nd.toNat).t) (hx : x ∈ u.ac → A u.nd.toNat x)
    (hm : ∀ m ∈ u.he, ill.testBit m.nd.toNat = false → m.t = (nth c m.nd.toNat).t ∧ ∀ y ∈ m.ac, A m.nd.toNat y) (h : conN (viewF u) u.nd.toNat (accS (u.he ++ [sayV u]) x) = true) : QC c ill A u.nd.toNat x := by
  have hl : c.length ≤ 10 := by have := hc.len; omega
  have hnd := hu.nd0
  have l2 : accS (u.he ++ [sayV u]) x < 1024 := he_lt hl hu _
  unfold conN at h
  generalize hG : (greatN (viewF u) (accS (u.he ++ [sayV u]) x)).1 = G at *
  have hcl : ClQ (viewF u) G := hG ▸ great_cl l2
  have hsub : ∀ k, G.testBit k = true → (accS (u.he ++ [sayV u]) x).testBit k = true := fun k hk => great_sub (hG ▸ hk)
  have hGl : G < 1024 := hG ▸ great_lt _ l2
  refine ⟨G, hGl, h, fun j hj => ?_⟩
  obtain ⟨d1, d2⟩ := hcl j hj
  obtain ⟨m, m1, m2, m3⟩ := mem_accS.1 (hsub j hj)
  rcases List.mem_append.1 m1 with m1 | m1
  · subst m3
    rw [view_at hl hu m1] at d2
    have := (hu.he m m1).1.nd0
    have := (hu.he m m1).1.nd1
    exact ⟨by omega, fun hi => ⟨by rw [← (hm m m1 hi).1]; exact d2, (hm m m1 hi).2 x m2⟩⟩
  · obtain rfl := List.mem_singleton.1 m1
    have e : u.nd.toNat = j := m3
    subst e
    rw [view_self hu] at d2
    exact ⟨by omega, fun _ => ⟨by rw [← ht]; exact d2, hx m2⟩⟩
/-- The state of voters of a configuration, as they go on. -/
structure InvH (c : List Mb) (ill : Nat) (vs : List Vo) : Prop where
  len : vs.length = c.length
  ok : ∀ k, k < c.length → VoOK c.length (nth vs k)
  nd : ∀ k, k < c.length → (nth vs k).nd = (k : Int)
  tr : ∀ k, k < c.length → (nth vs k).t = (nth c k).t
  past : ∀ k, k < c.length → ∀ m ∈ (nth vs k).he, ill.testBit m.nd.toNat = false → Past m (nth vs m.nd.toNat)
  set : ∀ k, k < c.length → nxtV (viewF (nth vs k)) (nth vs k) = none
  acc : ill = 0 → ∀ k, k < c.length → ∀ x ∈ (nth vs k).ac, QA c (fun j y => j < c.length ∧ y ∈ (nth vs j).vo) x
  con : ∀ k, k < c.length → ∀ x ∈ (nth vs k).co, QC c ill (fun j y => y ∈ (nth vs j).ac) k x
/-- What a step does to a voter before it settles. -/
inductive Move (c : List Mb) (ill : Nat) (vs : List Vo) (k : Nat) : Vo → Prop
  | vote {x : Cl} (hx : okC x = true) (hc : ∀ y ∈ (nth vs k).vo, ctrC x y = false) : Move c ill vs k { nth vs k with vo := sortC ((nth vs k).vo ++ [x]) }
  | hear {j : Nat} (hj : j < c.length) (hn : j ≠ k) : Move c ill vs k { nth vs k with he := putM (nth vs k).he (sayV (nth vs j)) }
  | lie {m : Ms} (hm : MsOK c.length m) (hi : ill.testBit m.nd.toNat = true) (hn : m.nd ≠ (k : Int)) : Move c ill vs k { nth vs k with he := putM (nth vs k).he m }
theorem Move.spec {c : List Mb} {ill k : Nat} {vs : List Vo} {v : Vo} (h : Move c ill vs k v) (hi : InvH c ill vs) (hk : k < c.length) : VoOK c.length v ∧ Turn (nth vs k) v ∧ ∀ m ∈ v.he, ill.testBit m.nd.toNat = false → Past m (nth vs m.nd.toNat) := by
  have ok := hi.ok k hk
  cases h with
  | @vote x hx hc =>
    exact ⟨ok_vote ok hx hc, ⟨rfl, rfl, rfl, fun y hy => mem_sort.2 ⟨ok.vo.ok y hy, by simp [hy]⟩, rfl, rfl⟩, hi.past k hk⟩
  | @hear j hj hn =>
    have n1 := hi.nd j hj
    have n2 := hi.nd k hk
    have ms := say_ok (hi.ok j hj) (by rw [n1]; exact_mod_cast hj)
    refine ⟨ok_hear ok ms (by show (nth vs j).nd ≠ (nth vs k).nd; omega), ⟨rfl, rfl, rfl, fun y hy => hy, rfl, rfl⟩, fun m hm hil => ?_⟩
    rcases (putM_mem ok.asc).1 hm with rfl | ⟨h1, _⟩
    · have e : (sayV (nth vs j)).nd.toNat = j := by show (nth vs j).nd.toNat = j; omega
      rw [e]
      exact Past.say _
    · exact hi.past k hk m h1 hil
  | @lie m hm hil hn =>
    have n2 := hi.nd k hk
    refine ⟨ok_hear ok hm (by omega), ⟨rfl, rfl, rfl, fun y hy => hy, rfl, rfl⟩, fun y hy hil2 => ?_⟩
    rcases (putM_mem ok.asc).1 hy with rfl | ⟨h1, _⟩
    · rw [hil] at hil2; cases hil2
    · exact hi.past k hk y h1 hil2
theorem InvH.move {c : List Mb} (hc : FullC c) {ill k : Nat} {vs : List Vo} {v : Vo} (hi : InvH c ill vs) (hk : k < c.length) (h : Move c ill vs k v) : InvH c ill (vs.set k (turV (nth vs k) v)) := by
  obtain ⟨ok, tu, pa⟩ := h.spec hi hk
  have s := turV_spec (hi.ok k hk) ok tu
  generalize turV (nth vs k) v = w at *
  have hl := hi.len
  have hn : ∀ j, nth (vs.set k w) j = if k = j then w else nth vs j := fun j => nth_setI _ _ _ _ (by omega)
  have hg : ∀ j, Grows (nth vs j) (nth (vs.set k w) j) := fun j => by
    rw [hn]
    split
    · rename_i e; subst e; exact s.gr
    · exact .refl _
  have hw : nth (vs.set k w) k = w := by rw [hn, if_pos rfl]
  have hnd := hi.nd k hk
  have wnd : w.nd = (k : Int) := s.gr.nd.trans hnd
  have wt : w.t = (nth c k).t := s.gr.t.trans (hi.tr k hk)
  have pa2 : ∀ m ∈ w.he, ill.testBit m.nd.toNat = false → Past m (nth (vs.set k w) m.nd.toNat) := fun m hm hil => (pa m (by rw [← s.he]; exact hm) hil).grow (hg _)
  refine ⟨by rw [List.length_set]; exact hl, fun j hj => ?_, fun j hj => ?_, fun j hj => ?_, fun j hj => ?_, fun j hj => ?_, fun h0 j hj => ?_, fun j hj => ?_⟩
  · rw [hn]; split
    · exact s.ok
    · exact hi.ok j hj
  · rw [hn]; split
    · rename_i e; subst e; exact wnd
    · exact hi.nd j hj
  · rw [hn]; split
    · rename_i e; subst e; exact wt
    · exact hi.tr j hj
  · intro m hm hil
    rw [hn] at hm
    split at hm
    · exact pa2 m hm hil
    · exact (hi.past j hj m hm hil).grow (hg _)
  · rw [hn]; split
    · exact s.set
    · exact hi.set j hj
  · intro x hx
    subst h0
    have hmono : ∀ i y, (i < c.length ∧ y ∈ (nth vs i).vo) → (i < c.length ∧ y ∈ (nth (vs.set k w) i).vo) := fun i y h => ⟨h.1, (hg i).vo y h.2⟩
    rw [hn] at hx
    split at hx
    · rename_i e
      subst e
      refine s.acc (QA c fun i y => i < c.length ∧ y ∈ (nth (vs.set k w) i).vo) (fun y hy => (hi.acc rfl k hk y (by rw [← tu.ac]; exact hy)).mono hmono) (fun u y u1 u2 u3 u4 => ?_) x hx
      have und : u.nd = (k : Int) := by rw [u2.nd, tu.nd, hnd]
      have ut : u.nd.toNat = k := by rw [und]; rfl
      refine acc_step hc (A := fun i z => i < c.length ∧ z ∈ (nth vs i).ac) u1 (by omega) (by rw [ut, u2.t, tu.t]; exact hi.tr k hk) (fun z hz => ?_) (fun m hm => ?_) (fun i z hz => (hi.acc rfl i hz.1 z hz.2).mono hmono) u4
      · rw [ut]
        exact ⟨hk, by rw [hw, s.vo, ← u2.vo]; exact hz⟩
      · have m0 : m ∈ v.he := by rw [← u2.he]; exact hm
        have m1 := pa m m0 (by simp)
        have m2 := (ok.he m m0).1
        have m3 := m2.nd0
        have m4 := m2.nd1
        have m5 : m.nd.toNat < c.length := by omega
        exact ⟨m1.t.trans (hi.tr _ m5), fun z hz => ⟨m5, (hg _).vo z (m1.vo z hz)⟩, fun z hz => ⟨m5, m1.ac z hz⟩⟩
    · exact (hi.acc rfl j hj x hx).mono hmono
  · intro x hx
    have hmono : ∀ i y, y ∈ (nth vs i).ac → y ∈ (nth (vs.set k w) i).ac := fun i y h => (hg i).ac y h
    rw [hn] at hx
    split at hx
    · rename_i e
      subst e
      rcases s.new x hx with h1 | ⟨h1, h2⟩
      · exact (hi.con k hk x (by rw [← tu.co]; exact h1)).mono hmono
      · have wn : w.nd.toNat = k := by rw [wnd]; rfl
        have := con_step hc (ill := ill) (A := fun i y => y ∈ (nth (vs.set k w) i).ac) s.ok (by omega) (by rw [wn]; exact wt) (fun h => by rw [wn, hw]; exact h) (fun m hm hil => by
          have m1 := pa2 m hm hil
          have m2 := (s.ok.he m hm).1
          have m3 := m2.nd0
          have m4 := m2.nd1
          have m5 : m.nd.toNat < c.length := by omega
          refine ⟨m1.t.trans ?_, m1.ac⟩
          rw [hn]
          split
          · rename_i e; rw [← e]; exact wt
          · exact hi.tr _ m5) h2
        rw [wn] at this
        exact this
    · exact (hi.con j hj x hx).mono hmono
end Go.Proofs.YtdhogcklnehdhaaGreatDoor
/- Plain law: what all confirm, an outsider accepts. No program stands here. -/
namespace Go.Proofs.YtdhogcklnehdhaaGreatDoor
set_option linter.unusedSimpArgs false
set_option linter.unusedVariables false
set_option linter.unnecessarySimpa false
set_option linter.unusedSectionVars false
set_option maxRecDepth 100000
open Go Go.RowKit Go.Am Go.Proofs.Grow
/-- Nobody goes: nothing changes. -/
theorem delI_zero : ∀ (l : List Int) (k : Int) (o : List Int), delI 0 l k o = (k, o ++ l)
  | [], k, o => by simp [delI]
  | x :: r, k, o => by
    have h : hasB 0 x = false := by
      cases e : hasB 0 x
      · rfl
      · unfold hasB at e
        simp at e
        have hx := e.2.1
        simp [nodeB] at hx
        obtain ⟨j, rfl⟩ : ∃ j : Nat, x = (j : Int) := ⟨x.toNat, by omega⟩
        have hp := pow_lt (k := j) (by omega)
        have e2 := e.2.2
        rw [shl_nat (by omega)] at e2
        have e3 := band_nat (a := 0) (b := 2 ^ j) (by omega) (by omega)
        rw [Nat.zero_and] at e3
        exact absurd e3 e2
    rw [delI, h, if_neg (by simp), delI_zero r]
    simp
mutual
theorem delT_zero : ∀ t : Tr, levT t = 0 → delT 0 t = t
  | .mk k ns is, h => by
    obtain ⟨h1, _, h2⟩ := lev_parts h
    simp only [Tr.k, Tr.ns, Tr.is] at h1 h2
    simp only [delT]
    rw [delI_zero]
    have e : mxI k 0 = k := by unfold mxI; rw [if_neg (by omega)]
    rw [e, delL_zero is k _ [] h2]
    simp
theorem delL_zero : ∀ (l : List Tr) (k : Int) (ns : List Int) (o : List Tr), levL l = 0 → delL 0 l k ns o = .mk k ns (o ++ l)
  | [], k, ns, o, _ => by simp [delL]
  | t :: r, k, ns, o, h => by
    simp only [levL] at h
    split at h
    · rename_i h1; exact absurd h h1
    · rename_i h1
      have h0 : levT t = 0 := by omega
      have hk := (lev_parts h0).1.1
      rw [delL, delT_zero t h0, if_neg (by omega), delL_zero r k ns _ h]
      simp
end
theorem delC_zero {c : List Mb} (hc : FullC c) : delC c 0 = c := by
  apply List.ext_getElem
  · rw [delTo_len]
  · intro k h1 h2
    have h3 := delTo_nth (c := c) (s := 0) h2
    rw [nth_getElem _ k h1] at h3
    have h4 := nth_getElem c k h2
    have h5 := hc.decl k h2
    have h6 := (chk_lev (hc.fit k h2).chk).2
    have h7 := (lev_parts h6).1.1
    rw [h3, ← h4]
    unfold delM dtrT
    rw [Nat.zero_testBit, if_neg (by simp), h5, if_pos rfl, show ((0 : Nat) : Int) = 0 from rfl, delT_zero _ h6, if_neg (by omega), ← h5]
/-- The sets that the search goes through. -/
def chnN (n : Nat) : Nat → Nat → List Nat
  | 0, _ => []
  | f + 1, s => s :: match nextF s n with
    | none => []
    | some t => chnN n f t
theorem chn_all : ∀ n, n ≤ 5 → ∀ t, t < 2 ^ n → t ∈ chnN n (2 ^ n) 0 := by
  have h : ∀ n ∈ List.range 6, ∀ t ∈ List.range (2 ^ n), t ∈ chnN n (2 ^ n) 0 := by decide +kernel
  exact fun n hn t ht => h n (List.mem_range.2 (by omega)) t (List.mem_range.2 ht)
theorem fnd_chn {c : List Mb} (hl : c.length ≤ 10) : ∀ (f s : Nat), s < 2 ^ c.length → (fndN c s).1 = 0 → ∀ t ∈ chnN c.length f s, t ≠ 0 → ¬ (quoN c t = true ∧ (greatN c (andn (memN c) t)).1 ≠ 0)
  | 0, s, _, _, t, ht, _ => by simp [chnN] at ht
  | f + 1, s, hs, h, t, ht, h0 => by
    rw [fndN_eq c hl hs] at h
    have hno : t = s → ¬ (quoN c t = true ∧ (greatN c (andn (memN c) t)).1 ≠ 0) := by
      rintro rfl hq
      rw [if_pos hq] at h
      exact h0 h
    rw [chnN] at ht
    rcases List.mem_cons.1 ht with e | ht
    · exact hno e
    · cases hn : nextF s c.length with
      | none => rw [hn] at ht; simp at ht
      | some u =>
        rw [hn] at ht h
        have hu := next_some hl hs hn
        rcases Classical.em (quoN c s = true ∧ (greatN c (andn (memN c) s)).1 ≠ 0) with hq | hq
        · rw [if_pos hq] at h
          have h : s = 0 := h
          subst h
          simp [quoN] at hq
        · rw [if_neg hq] at h
          exact fnd_chn hl f u hu.1 h t ht h0
theorem cl_quo {c : List Mb} {q : Nat} (hq : q < 1024) (h0 : q ≠ 0) (h : ClQ c q) : quoN c q = true := by
  unfold quoN
  have h1 : andn q (declN c) = 0 := by
    apply Nat.eq_of_testBit_eq
    intro k
    rw [andn_bit, Nat.zero_testBit]
    cases e : q.testBit k
    · rfl
    · rw [(h k e).1]; rfl
  have h2 : unhN c q = none := unhL_none.2 fun k hk => (h k ((mem_nodes hq).1 hk)).2
  rw [h1, h2]
  simp [h0]
theorem cl_mem {c : List Mb} {q k : Nat} (h : ClQ c q) (hk : q.testBit k = true) : k < c.length := by
  have := (h k hk).1
  unfold declN at this
  rw [declTo_bit] at this
  simp only [Bool.and_eq_true, decide_eq_true_eq] at this
  exact this.1
/-- Any two quorums meet. -/
def MeetC (c : List Mb) : Prop := ∀ a b : Nat, a ≠ 0 → b ≠ 0 → a < 1024 → b < 1024 → ClQ c a → ClQ c b → ∃ k, a.testBit k = true ∧ b.testBit k = true
theorem hold_meet {c : List Mb} (h5 : c.length ≤ 5) (h : (holdF c).1 = true) : MeetC c := by
  intro a b a0 b0 a1 b1 ha hb
  have hl : c.length ≤ 10 := by omega
  have hm := mem_lt hl
  unfold holdF at h
  split at h
  · cases h
  · have h : ((fndN c 0).1 == 0) = true := h
    rw [beq_iff_eq] at h
    rcases Classical.em (∃ k, a.testBit k = true ∧ b.testBit k = true) with e | e
    · exact e
    · exfalso
      have al : a < 2 ^ c.length := by
        rcases Nat.lt_or_ge a (2 ^ c.length) with q | q
        · exact q
        · obtain ⟨i, hi, hb⟩ := Nat.exists_ge_and_testBit_of_ge_two_pow q
          have := cl_mem ha hb
          omega
      have hp : 0 < 2 ^ c.length := Nat.pow_pos (by decide)
      refine fnd_chn hl _ 0 hp h a (chn_all _ h5 a al) a0 ⟨cl_quo a1 a0 ha, fun e0 => ?_⟩
      obtain ⟨k, hk⟩ := bit_ne b0
      have := great_keep (q := b) (s := andn (memN c) a) b1 (andn_lt10 hm) hb (fun j hj => by
        rw [andn_bit, mem_bit]
        have h1 := cl_mem hb hj
        have h2 : a.testBit j = false := by
          cases e2 : a.testBit j
          · rfl
          · exact absurd ⟨j, e2, hj⟩ e
        rw [h2]
        simpa using h1) k hk
      rw [e0, Nat.zero_testBit] at this
      cases this
theorem set_of (p : Nat → Prop) : ∀ n : Nat, ∃ s : Nat, s < 2 ^ n ∧ ∀ k, s.testBit k = true ↔ k < n ∧ p k
  | 0 => ⟨0, by simp, fun k => by simp⟩
  | n + 1 => by
    obtain ⟨s, h1, h2⟩ := set_of p n
    rcases Classical.em (p n) with h | h
    · refine ⟨s ||| 2 ^ n, Nat.or_lt_two_pow (Nat.lt_of_lt_of_le h1 (Nat.pow_le_pow_right (by decide) (by omega))) (Nat.pow_lt_pow_right (by decide) (by omega)), fun k => ?_⟩
      rw [Nat.testBit_or, Bool.or_eq_true, h2]
      rcases Nat.decEq n k with e | e
      · rw [Nat.testBit_two_pow_of_ne e]
        constructor
        · rintro (q | q)
          · exact ⟨by omega, q.2⟩
          · cases q
        · rintro ⟨q1, q2⟩; exact .inl ⟨by omega, q2⟩
      · subst e
        exact ⟨fun _ => ⟨by omega, h⟩, fun _ => .inr (Nat.testBit_two_pow_self ..)⟩
    · refine ⟨s, Nat.lt_of_lt_of_le h1 (Nat.pow_le_pow_right (by decide) (by omega)), fun k => ?_⟩
      rw [h2]
      constructor
      · rintro ⟨q1, q2⟩; exact ⟨by omega, q2⟩
      · rintro ⟨q1, q2⟩
        refine ⟨?_, q2⟩
        rcases Nat.lt_or_ge k n with q | q
        · exact q
        · obtain rfl : k = n := by omega
          exact absurd q2 h
/-- Quorums never vote for what contradicts. -/
theorem qa_safe {c : List Mb} (hm : MeetC c) {vs : List Vo} (hok : ∀ k, k < c.length → VoOK c.length (nth vs k)) {x y : Cl} (hx : QA c (fun j z => j < c.length ∧ z ∈ (nth vs j).vo) x) (hy : QA c (fun j z => j < c.length ∧ z ∈ (nth vs j).vo) y) : ctrC x y = false := by
  obtain ⟨U, u1, u2, u3, u4⟩ := hx
  obtain ⟨W, w1, w2, w3, w4⟩ := hy
  obtain ⟨k, k1, k2⟩ := hm U W u1 w1 u2 w2 u3 w3
  exact cons_iff.1 (hok k (u4 k k1).1).cv x (u4 k k1).2 y (w4 k k2).2
/-- Everybody heard the last messages of all others. -/
def AllHeard (n : Nat) (vs : List Vo) : Prop := ∀ k j, k < n → j < n → j ≠ k → ∃ m ∈ (nth vs k).he, m.nd = (j : Int) ∧ (nth vs j).sq ≤ m.sq
theorem calm_all {c : List Mb} (hc : FullC c) (hm : MeetC c) {vs : List Vo} (hi : InvH c 0 vs) (hh : AllHeard c.length vs) {k : Nat} {x : Cl} (hk : k < c.length) (hx : x ∈ (nth vs k).co) : ∀ j, j < c.length → x ∈ (nth vs j).ac := by
  have hl : c.length ≤ 10 := by have := hc.len; omega
  have hlast : ∀ i j, i < c.length → j < c.length → j ≠ i → ∃ m ∈ (nth vs i).he, m.nd.toNat = j ∧ m.ac = (nth vs j).ac := fun i j h1 h2 h3 => by
    obtain ⟨m, m1, m2, m3⟩ := hh i j h1 h2 h3
    have e : m.nd.toNat = j := by omega
    have p := hi.past i h1 m m1 (by simp)
    rw [e] at p
    have := p.sq
    exact ⟨m, m1, e, (p.eq (by omega)).2⟩
  obtain ⟨W, w1, w2, w3⟩ := hi.con k hk x hx
  have wcl : ClQ c W := fun j hj => ⟨hc.bit (w3 j hj).1, ((w3 j hj).2 (by simp)).1⟩
  have hxk : x ∈ (nth vs k).ac := (hi.ok k hk).sub x hx
  have hox : okC x = true := (hi.ok k hk).ac.ok x hxk
  obtain ⟨R, r1, r2⟩ := set_of (fun j => x ∉ (nth vs j).ac) c.length
  have h2n := two_le hl
  have r10 : R < 1024 := by omega
  rcases Nat.decEq R 0 with e | e
  · exfalso
    have rcl : ClQ c R := fun j hj => by
      obtain ⟨j1, j2⟩ := (r2 j).1 hj
      refine ⟨hc.bit j1, ?_⟩
      have hjk : k ≠ j := fun e => j2 (e ▸ hxk)
      obtain ⟨m, m1, m2, m3⟩ := hlast j k j1 hk hjk
      have hv := hi.ok j j1
      have hnd := hi.nd j j1
      have htn : (nth vs j).nd.toNat = j := by omega
      have := nxt_none (hi.set j j1) (x := x) (mem_know.2 ⟨hox, m, by simp [m1], .inr (by rw [m3]; exact hxk)⟩) j2 hv.ca (fun y hy => qa_safe hm hi.ok (hi.acc rfl k hk x hxk) (hi.acc rfl j j1 y hy))
      simp only [accN, Bool.or_eq_false_iff] at this
      have hb := this.1
      rw [htn] at hb
      unfold blkN at hb
      have hself : nth (viewF (nth vs j)) j = ⟨true, (nth vs j).t⟩ := by have := view_self hv; rw [htn] at this; exact this
      have hd : (declN (viewF (nth vs j))).testBit j = true := by
        unfold declN; rw [declTo_bit, hself, viewV_len]; simp; omega
      rw [hd, hself, Bool.true_and, Bool.not_eq_false'] at hb
      dsimp only at hb
      rw [hi.tr j j1] at hb
      have hfit := hc.fit j j1
      have hS : accS ((nth vs j).he ++ [sayV (nth vs j)]) x < 1024 := he_lt hl hv _
      generalize hSe : accS ((nth vs j).he ++ [sayV (nth vs j)]) x = S at *
      have hu : andn 1023 S ||| 2 ^ j < 1024 := or_lt10 (andn_lt10 (by decide)) (pow_lt (by omega))
      generalize hue : andn 1023 S ||| 2 ^ j = u at *
      have hcg := sat_congr (u := u &&& (2 ^ c.length - 1)) hl hu (Nat.lt_of_le_of_lt Nat.and_le_left hu) hfit (fun i hi2 => by rw [Nat.testBit_and, Nat.testBit_two_pow_sub_one]; simp [hi2])
      rw [hcg] at hb
      refine satT_mono (Nat.lt_of_le_of_lt Nat.and_le_left hu) r10 (fun i hi2 => ?_) _ hb
      rw [Nat.testBit_and, Nat.testBit_two_pow_sub_one, Bool.and_eq_true, decide_eq_true_eq] at hi2
      refine (r2 i).2 ⟨hi2.2, fun hxi => ?_⟩
      have hij : i ≠ j := fun e => j2 (e ▸ hxi)
      obtain ⟨m', n1, n2, n3⟩ := hlast j i j1 hi2.2 hij
      have hSi : S.testBit i = true := by rw [← hSe]; exact mem_accS.2 ⟨m', by simp [n1], by rw [n3]; exact hxi, n2⟩
      have h3 := hi2.1
      rw [← hue, Nat.testBit_or, andn_bit, hSi, Nat.testBit_two_pow_of_ne (fun e => hij e.symm)] at h3
      simp at h3
    obtain ⟨i, i1, i2⟩ := hm W R (fun e => by rw [e, Nat.zero_testBit] at w2; cases w2) e w1 r10 wcl rcl
    exact ((r2 i).1 i2).2 ((w3 i i1).2 (by simp)).2
  · intro j hj
    rcases Classical.em (x ∈ (nth vs j).ac) with h | h
    · exact h
    · have := (r2 j).2 ⟨hj, h⟩
      rw [e, Nat.zero_testBit] at this
      cases this
/-- An outsider that has heard the first i messages. -/
structure InvO (c : List Mb) (vs : List Vo) (k i : Nat) (v : Vo) : Prop where
  ok : VoOK c.length v
  nd : v.nd = 9
  t : v.t = (nth c k).t
  vo : v.vo = []
  he : v.he = (vs.take i).map sayV
  acc : ∀ x ∈ v.ac, QA c (fun j y => j < c.length ∧ y ∈ (nth vs j).vo) x
  set : 0 < i → nxtV (viewF v) v = none
theorem putM_end : ∀ {l : List Ms} {m : Ms}, (∀ y ∈ l, y.nd < m.nd) → putM l m = l ++ [m]
  | [], m, _ => rfl
  | y :: r, m, h => by
    rw [putM, if_pos (h y (by simp)), putM_end fun z hz => h z (by simp [hz])]; rfl
theorem InvO.step {c : List Mb} (hc : FullC c) {vs : List Vo} (hi : InvH c 0 vs) {k i : Nat} {v : Vo} (ho : InvO c vs k i v) (hk : i < c.length) :
    oldM v.he (sayV (nth vs i)) = false ∧ InvO c vs k (i + 1) (turV v { v with he := putM v.he (sayV (nth vs i)) }) := by
  have hl : c.length ≤ 10 := by have := hc.len; omega
  have h5 := hc.len
  have hlen := hi.len
  have hin : ∀ m ∈ v.he, ∃ j, j < i ∧ m = sayV (nth vs j) := fun m hm => by
    rw [ho.he] at hm
    obtain ⟨u, h1, rfl⟩ := List.mem_map.1 hm
    obtain ⟨j, h2, h3⟩ := List.getElem_of_mem h1
    rw [List.length_take] at h2
    refine ⟨j, by omega, ?_⟩
    rw [List.getElem_take] at h3
    rw [nth_getElem _ j (by omega), h3]
  have hlt : ∀ m ∈ v.he, m.nd < (sayV (nth vs i)).nd := fun m hm => by
    obtain ⟨j, h1, rfl⟩ := hin m hm
    have e1 := hi.nd j (by omega)
    have e2 := hi.nd i hk
    show (nth vs j).nd < (nth vs i).nd
    omega
  have ms := say_ok (hi.ok i hk) (by rw [hi.nd i hk]; exact_mod_cast hk)
  have hne : (sayV (nth vs i)).nd ≠ v.nd := by
    have e2 := hi.nd i hk
    have := ho.nd
    show (nth vs i).nd ≠ v.nd
    omega
  refine ⟨?_, ?_⟩
  · cases e : oldM v.he (sayV (nth vs i))
    · rfl
    · unfold oldM at e
      obtain ⟨m, h1, h2⟩ := List.any_eq_true.1 e
      simp only [Bool.and_eq_true, decide_eq_true_eq] at h2
      have := hlt m h1
      omega
  · have ok2 := ok_hear ho.ok ms hne
    have tu : Turn v { v with he := putM v.he (sayV (nth vs i)) } := ⟨rfl, rfl, rfl, fun y hy => hy, rfl, rfl⟩
    have s := turV_spec ho.ok ok2 tu
    have hhe : putM v.he (sayV (nth vs i)) = (vs.take (i + 1)).map sayV := by
      rw [putM_end hlt, ho.he, List.take_succ_eq_append_getElem (by omega), List.map_append, nth_getElem _ i (by omega)]
      rfl
    refine ⟨s.ok, s.gr.nd.trans ho.nd, s.gr.t.trans ho.t, s.vo.trans ho.vo, s.he.trans hhe, ?_, fun _ => s.set⟩
    refine s.acc (QA c fun j y => j < c.length ∧ y ∈ (nth vs j).vo) ho.acc fun u x u1 u2 u3 u4 => ?_
    obtain ⟨_, hx, _, ha⟩ := nxt_some u4
    have und : u.nd = 9 := u2.nd.trans ho.nd
    have uvo : u.vo = [] := u2.vo.trans ho.vo
    have hacc : ∀ b, (accS (u.he ++ [sayV u]) x).testBit b = true → QA c (fun j y => j < c.length ∧ y ∈ (nth vs j).vo) x := fun b hb => by
      obtain ⟨m, h1, h2, h3⟩ := mem_accS.1 hb
      rcases List.mem_append.1 h1 with h1 | h1
      · have h1 : m ∈ putM v.he (sayV (nth vs i)) := by have e := u2.he; dsimp only at e; rw [← e]; exact h1
        rw [putM_end hlt] at h1
        rcases List.mem_append.1 h1 with h1 | h1
        · obtain ⟨j, j1, rfl⟩ := hin m h1
          exact hi.acc rfl j (by omega) x h2
        · obtain rfl := List.mem_singleton.1 h1
          exact hi.acc rfl i hk x h2
      · obtain rfl := List.mem_singleton.1 h1
        exact absurd h2 hx
    have l2 : accS (u.he ++ [sayV u]) x < 1024 := he_lt hl u1 _
    have l1 : votS (u.he ++ [sayV u]) x < 1024 := he_lt hl u1 _
    simp only [accN, Bool.or_eq_true] at ha
    rcases ha with ha | ha
    · rcases Nat.decEq (accS (u.he ++ [sayV u]) x) 0 with e | e
      · obtain ⟨b, hb⟩ := bit_ne e
        exact hacc b hb
      · rw [e] at ha
        exact (blk_ne hl (by omega) (by rw [view_self u1]; exact u1.t) ha).elim
    · have := great_sub ha
      rw [Nat.testBit_or, Bool.or_eq_true] at this
      rcases this with h1 | h1
      · obtain ⟨m, h1, h2, h3⟩ := mem_votS.1 h1
        rcases List.mem_append.1 h1 with h1 | h1
        · have := (u1.he m h1).2
          have := (u1.he m h1).1.nd0
          omega
        · obtain rfl := List.mem_singleton.1 h1
          rw [show (sayV u).vo = [] from uvo] at h2
          simp at h2
      · exact hacc _ h1
/-- What a member confirmed, the outsider accepts at the end. -/
theorem InvO.all {c : List Mb} (hc : FullC c) (hm : MeetC c) {vs : List Vo} (hi : InvH c 0 vs) (hh : AllHeard c.length vs) {k : Nat} {v : Vo} (hk : k < c.length) (ho : InvO c vs k c.length v) : ∀ x ∈ (nth vs k).co, x ∈ v.ac := by
  intro x hx
  have hl : c.length ≤ 10 := by have := hc.len; omega
  have h5 := hc.len
  have hlen := hi.len
  have hall := calm_all hc hm hi hh hk hx
  have hxk := hall k hk
  have hox : okC x = true := (hi.ok k hk).ac.ok x hxk
  have hmem : ∀ j, j < c.length → sayV (nth vs j) ∈ v.he := fun j hj => by
    rw [ho.he, ← hlen, List.take_length]
    refine List.mem_map.2 ⟨nth vs j, ?_, rfl⟩
    rw [nth_getElem _ j (by omega)]
    exact List.getElem_mem _
  rcases Classical.em (x ∈ v.ac) with h | h
  · exact h
  · exfalso
    have := nxt_none (ho.set (by omega)) (x := x) (mem_know.2 ⟨hox, sayV (nth vs k), by simp [hmem k hk], .inr hxk⟩) h ho.ok.ca (fun y hy => qa_safe hm hi.ok (hi.acc rfl k hk x hxk) (ho.acc y hy))
    simp only [accN, Bool.or_eq_false_iff] at this
    have hb := this.1
    have hnd := ho.nd
    have htn : v.nd.toNat = 9 := by omega
    rw [htn] at hb
    unfold blkN at hb
    have hself : nth (viewF v) 9 = ⟨true, v.t⟩ := by have := view_self ho.ok; rw [htn] at this; exact this
    have hd : (declN (viewF v)).testBit 9 = true := by
      unfold declN; rw [declTo_bit, hself, viewV_len]; simp
    rw [hd, hself, Bool.true_and, Bool.not_eq_false'] at hb
    dsimp only at hb
    have hu : andn 1023 (accS (v.he ++ [sayV v]) x) ||| 2 ^ 9 < 1024 := or_lt10 (andn_lt10 (by decide)) (pow_lt (by omega))
    have := sat_none hl hu ho.ok.t fun j hj => by
      rw [Nat.testBit_or, andn_bit, mem_accS.2 ⟨sayV (nth vs j), by simp [hmem j hj], hall j hj, by show (nth vs j).nd.toNat = j; rw [hi.nd j hj]; rfl⟩, Nat.testBit_two_pow_of_ne (by omega)]
      simp
    rw [this] at hb
    cases hb
end Go.Proofs.YtdhogcklnehdhaaGreatDoor
/- Plain law: meetings and scripts. No program stands here. -/
namespace Go.Proofs.YtdhogcklnehdhaaGreatDoor
set_option linter.unusedSimpArgs false
set_option linter.unusedVariables false
set_option linter.unnecessarySimpa false
set_option linter.unusedSectionVars false
set_option maxRecDepth 100000
open Go Go.RowKit Go.Am Go.Proofs.Grow
structure Mt where
  vs : List Vo
  st : Nat
  il : Nat
def mtZ : Mt := ⟨[], 0, 0⟩
structure Pl where
  kd : Int
  fr : Int
  to : Int
  c : Cl
  t : Tr
  m : Ms
def pl0 : Pl := ⟨0, 0, 0, (0, 0), .mk 0 [] [], ms0⟩
instance : Inhabited Pl := ⟨pl0⟩
def isTo (k : Int) : Bool := k == 2 || k == 5
def gonB (m : Mt) (p : Pl) : Bool := if isTo p.kd = true then (m.il ||| m.st).testBit p.to.toNat else m.st.testBit p.fr.toNat
def askF (m : Mt) (p : Pl) : Int :=
  if isTo p.kd = true ∧ p.to = p.fr then 1 else if ((m.il.testBit p.fr.toNat != (p.kd == 5)) || gonB m p) = true then 13 else 0
def chgF (m : Mt) (p : Pl) : Int × Vo × Int :=
  if p.kd = 1 then (p.fr, votV (nth m.vs p.fr.toNat) p.c)
  else if p.kd = 2 then (p.to, heaV (nth m.vs p.to.toNat) (sayV (nth m.vs p.fr.toNat)))
  else if p.kd = 5 then (p.to, heaV (nth m.vs p.to.toNat) p.m)
  else (p.fr, nth m.vs p.fr.toNat, 0)
def goF (m : Mt) (p : Pl) : Mt := ⟨m.vs.set (chgF m p).1.toNat (chgF m p).2.1, if p.kd = 4 then m.st ||| 2 ^ p.fr.toNat else m.st, m.il⟩
def stpF (m : Mt) (p : Pl) : Mt × Int :=
  if askF m p ≠ 0 then (mtZ, askF m p) else if (chgF m p).2.2 ≠ 0 then (mtZ, (chgF m p).2.2) else (goF m p, 0)
def stpM (m : Mt) (p : Pl) : Mt := if (stpF m p).2 = 0 then (stpF m p).1 else m
def runM : List Pl → Mt → Mt
  | [], m => m
  | p :: r, m => runM r (stpM m p)
def sndP (a b : Nat) : Pl := ⟨2, (a : Int), (b : Int), (0, 0), .mk 0 [] [], ms0⟩
def sndS (a b : Nat) (x : Mt × Bool) : Mt × Bool := if (stpF x.1 (sndP a b)).2 = 0 then ((stpF x.1 (sndP a b)).1, true) else x
def rndJ (a : Nat) : List Nat → Mt × Bool → Mt × Bool
  | [], x => x
  | b :: r, x => rndJ a r (sndS a b x)
def rndI (l : List Nat) : List Nat → Mt × Bool → Mt × Bool
  | [], x => x
  | a :: r, x => rndI l r (rndJ a l x)
def wellN (m : Mt) : List Nat := nodesN (2 ^ m.vs.length - 1 - m.il)
def rndF (m : Mt) : Mt × Bool := rndI (wellN m) (wellN m) (m, false)
def clmF : Nat → Mt → Mt
  | 0, m => m
  | f + 1, m => if (rndF m).2 = true then clmF f (rndF m).1 else (rndF m).1
structure MtOK (n : Nat) (m : Mt) : Prop where
  n1 : 1 ≤ n
  n10 : n ≤ 10
  len : m.vs.length = n
  ok : ∀ k, k < n → VoOK n (nth m.vs k)
  nd : ∀ k, k < n → (nth m.vs k).nd = (k : Int)
  st : m.st < 2 ^ n
  il : m.il < 2 ^ n
  dis : m.il &&& m.st = 0
structure PlOK (n : Nat) (p : Pl) : Prop where
  kd : p.kd = 1 ∨ p.kd = 2 ∨ p.kd = 4 ∨ p.kd = 5
  fr : 0 ≤ p.fr ∧ p.fr < (n : Int)
  to : 0 ≤ p.to ∧ p.to < (n : Int)
  c : p.kd = 1 → okC p.c = true
  m : p.kd = 5 → MsOK n p.m ∧ p.m.nd = p.fr
theorem snd_ok {n a b : Nat} (ha : a < n) (hb : b < n) : PlOK n (sndP a b) :=
  ⟨.inr (.inl rfl), ⟨by simp [sndP], by simp [sndP]; omega⟩, ⟨by simp [sndP], by simp [sndP]; omega⟩, fun h => by simp [sndP] at h, fun h => by simp [sndP] at h⟩
theorem testBit_lt' {n s k : Nat} (h : s < 2 ^ n) (hk : s.testBit k = true) : k < n := by
  rcases Nat.lt_or_ge k n with q | q
  · exact q
  · rw [Nat.testBit_lt_two_pow (Nat.lt_of_lt_of_le h (Nat.pow_le_pow_right (by decide) q))] at hk; cases hk
/-- What a step does. -/
theorem stp_cases {n : Nat} {m : Mt} {p : Pl} (hm : MtOK n m) (hp : PlOK n p) (h : (stpF m p).2 = 0) :
    (stpF m p).1 = goF m p ∧ askF m p = 0 ∧ (chgF m p).2.2 = 0 := by
  unfold stpF at h ⊢
  by_cases h1 : askF m p ≠ 0
  · rw [if_pos h1] at h; exact absurd h h1
  · rw [if_neg h1] at h ⊢
    by_cases h2 : (chgF m p).2.2 ≠ 0
    · rw [if_pos h2] at h; exact absurd h h2
    · rw [if_neg h2]
      exact ⟨rfl, by simpa using h1, by simpa using h2⟩
theorem nth_setS {l : List Vo} {k : Nat} : l.set k (nth l k) = l := by
  apply List.ext_getElem
  · rw [List.length_set]
  · intro i h1 h2
    rw [List.getElem_set]
    split
    · rename_i e; subst e; exact nth_getElem l k h2
    · rfl
/-- A step changes one voter, by a move; or nobody. -/
theorem go_move {c : List Mb} {m : Mt} {p : Pl} (hm : MtOK c.length m) (hp : PlOK c.length p) (hi : InvH c m.il m.vs) (h : (stpF m p).2 = 0) :
    (goF m p).vs = m.vs ∨ ∃ k v, k < c.length ∧ Move c m.il m.vs k v ∧ (goF m p).vs = m.vs.set k (turV (nth m.vs k) v) := by
  obtain ⟨_, h1, h2⟩ := stp_cases hm hp h
  have hf := hp.fr
  have ht := hp.to
  have hfn : p.fr.toNat < c.length := by omega
  have htn : p.to.toNat < c.length := by omega
  have hask : isTo p.kd = true → p.to ≠ p.fr := fun e q => by
    unfold askF at h1
    rw [if_pos ⟨e, q⟩] at h1; cases h1
  have hgo : ((m.il.testBit p.fr.toNat != (p.kd == 5)) || gonB m p) = false := by
    unfold askF at h1
    split at h1
    · cases h1
    · cases e : ((m.il.testBit p.fr.toNat != (p.kd == 5)) || gonB m p)
      · rfl
      · rw [e, if_pos rfl] at h1; cases h1
  rw [Bool.or_eq_false_iff] at hgo
  unfold goF chgF at *
  dsimp only at h2 ⊢
  rcases hp.kd with e | e | e | e
  · rw [if_pos e] at h2 ⊢
    dsimp only at h2 ⊢
    unfold votV at h2 ⊢
    by_cases q1 : (nth m.vs p.fr.toNat).vo.any (ctrC p.c) = true ∨ (nth m.vs p.fr.toNat).ac.any (ctrC p.c) = true
    · rw [if_pos q1] at h2; cases h2
    · rw [if_neg q1] at h2 ⊢
      by_cases q2 : hasC (nth m.vs p.fr.toNat).vo p.c = true
      · rw [if_pos q2]; exact .inl nth_setS
      · rw [if_neg q2]
        exact .inr ⟨_, _, hfn, .vote (hp.c e) (any_ctr fun q => q1 (.inl q)), rfl⟩
  · rw [if_neg (by omega), if_pos e] at h2 ⊢
    dsimp only at h2 ⊢
    unfold heaV at h2 ⊢
    by_cases q1 : oldM (nth m.vs p.to.toNat).he (sayV (nth m.vs p.fr.toNat)) = true
    · rw [if_pos q1] at h2; cases h2
    · rw [if_neg q1]
      have := hask (by simp [isTo, e])
      exact .inr ⟨_, _, htn, .hear hfn (by omega), rfl⟩
  · rw [if_neg (by omega), if_neg (by omega), if_neg (by omega)]
    exact .inl nth_setS
  · rw [if_neg (by omega), if_neg (by omega), if_pos e] at h2 ⊢
    dsimp only at h2 ⊢
    unfold heaV at h2 ⊢
    obtain ⟨m1, m2⟩ := hp.m e
    by_cases q1 : oldM (nth m.vs p.to.toNat).he p.m = true
    · rw [if_pos q1] at h2; cases h2
    · rw [if_neg q1]
      have := hask (by simp [isTo, e])
      have hil : m.il.testBit p.m.nd.toNat = true := by
        rw [m2]
        have := hgo.1
        rw [e] at this
        simpa using this
      exact .inr ⟨_, _, htn, .lie m1 hil (by omega), rfl⟩
theorem InvH.step {c : List Mb} (hc : FullC c) {m : Mt} {p : Pl} (hm : MtOK c.length m) (hp : PlOK c.length p) (hi : InvH c m.il m.vs) : InvH c (stpM m p).il (stpM m p).vs := by
  unfold stpM
  by_cases h : (stpF m p).2 = 0
  · rw [if_pos h, (stp_cases hm hp h).1]
    show InvH c m.il (goF m p).vs
    rcases go_move hm hp hi h with e | ⟨k, v, h1, h2, e⟩
    · rw [e]; exact hi
    · rw [e]; exact hi.move hc h1 h2
  · rw [if_neg h]; exact hi
/-- A step keeps a meeting valid. -/
theorem hea_ok {n : Nat} (hn : n ≤ 10) {v : Vo} {m : Ms} (hv : VoOK n v) (hm : MsOK n m) (hne : m.nd ≠ v.nd) (h : (heaV v m).2 = 0) : VoOK n (heaV v m).1 ∧ (heaV v m).1.nd = v.nd ∧ (heaV v m).1.he = putM v.he m := by
  unfold heaV at h ⊢
  by_cases q1 : oldM v.he m = true
  · rw [if_pos q1] at h; cases h
  · rw [if_neg q1]
    have s := turV_spec hv (ok_hear hv hm hne) ⟨rfl, rfl, rfl, fun y hy => hy, rfl, rfl⟩
    exact ⟨s.ok, s.gr.nd, s.he⟩
theorem vot_ok {n : Nat} {v : Vo} {x : Cl} (hv : VoOK n v) (hx : okC x = true) (h : (votV v x).2 = 0) : VoOK n (votV v x).1 ∧ (votV v x).1.nd = v.nd ∧ (votV v x).1.he = v.he := by
  unfold votV at h ⊢
  by_cases q1 : v.vo.any (ctrC x) = true ∨ v.ac.any (ctrC x) = true
  · rw [if_pos q1] at h; cases h
  · rw [if_neg q1] at h ⊢
    by_cases q2 : hasC v.vo x = true
    · rw [if_pos q2]; exact ⟨hv, rfl, rfl⟩
    · rw [if_neg q2]
      have s := turV_spec hv (ok_vote hv hx (any_ctr fun q => q1 (.inl q))) ⟨rfl, rfl, rfl, fun y hy => mem_sort.2 ⟨hv.vo.ok y hy, by simp [hy]⟩, rfl, rfl⟩
      exact ⟨s.ok, s.gr.nd, s.he⟩
theorem chg_ok {n : Nat} {m : Mt} {p : Pl} (hm : MtOK n m) (hp : PlOK n p) (ha : askF m p = 0) (h : (chgF m p).2.2 = 0) :
    (0 ≤ (chgF m p).1 ∧ (chgF m p).1.toNat < n) ∧ VoOK n (chgF m p).2.1 ∧ (chgF m p).2.1.nd = (chgF m p).1 := by
  have hf := hp.fr
  have ht := hp.to
  have hn := hm.n10
  have o1 := hm.ok p.fr.toNat (by omega)
  have o2 := hm.ok p.to.toNat (by omega)
  have d1 := hm.nd p.fr.toNat (by omega)
  have d2 := hm.nd p.to.toNat (by omega)
  have hask : isTo p.kd = true → p.to ≠ p.fr := fun e q => by
    unfold askF at ha
    rw [if_pos ⟨e, q⟩] at ha; cases ha
  unfold chgF at *
  rcases hp.kd with e | e | e | e
  · rw [if_pos e] at h ⊢
    have := vot_ok o1 (hp.c e) h
    exact ⟨by dsimp only; omega, this.1, by dsimp only; rw [this.2.1]; omega⟩
  · rw [if_neg (by omega), if_pos e] at h ⊢
    have q := hask (by simp [isTo, e])
    have := hea_ok hn o2 (say_ok o1 (by omega)) (by show (nth m.vs p.fr.toNat).nd ≠ _; omega) h
    exact ⟨by dsimp only; omega, this.1, by dsimp only; rw [this.2.1]; omega⟩
  · rw [if_neg (by omega), if_neg (by omega), if_neg (by omega)]
    exact ⟨by dsimp only; omega, o1, by dsimp only; omega⟩
  · rw [if_neg (by omega), if_neg (by omega), if_pos e] at h ⊢
    have q := hask (by simp [isTo, e])
    obtain ⟨m1, m2⟩ := hp.m e
    have := hea_ok hn o2 m1 (by omega) h
    exact ⟨by dsimp only; omega, this.1, by dsimp only; rw [this.2.1]; omega⟩
theorem MtOK.go {n : Nat} {m : Mt} {p : Pl} (hm : MtOK n m) (hp : PlOK n p) (ha : askF m p = 0) (h : (chgF m p).2.2 = 0) : MtOK n (goF m p) := by
  obtain ⟨⟨q1, q2⟩, q3, q4⟩ := chg_ok hm hp ha h
  have hl := hm.len
  have hf := hp.fr
  have hn : ∀ j, nth (goF m p).vs j = if (chgF m p).1.toNat = j then (chgF m p).2.1 else nth m.vs j := fun j => nth_setI _ _ _ _ (by omega)
  have hst : (goF m p).st < 2 ^ n := by
    show (if p.kd = 4 then m.st ||| 2 ^ p.fr.toNat else m.st) < 2 ^ n
    split
    · exact Nat.or_lt_two_pow hm.st (Nat.pow_lt_pow_right (by decide) (by omega))
    · exact hm.st
  refine ⟨hm.n1, hm.n10, by show (m.vs.set _ _).length = n; rw [List.length_set]; exact hl, fun k hk => ?_, fun k hk => ?_, hst, hm.il, ?_⟩
  · rw [hn]; split
    · exact q3
    · exact hm.ok k hk
  · rw [hn]; split
    · rename_i e; rw [q4, ← e]; omega
    · exact hm.nd k hk
  · show m.il &&& (if p.kd = 4 then m.st ||| 2 ^ p.fr.toNat else m.st) = 0
    split
    · rename_i e
      have hil : m.il.testBit p.fr.toNat = false := by
        unfold askF at ha
        split at ha
        · cases ha
        · cases e2 : m.il.testBit p.fr.toNat
          · rfl
          · rw [e2, e] at ha; simp at ha
      apply Nat.eq_of_testBit_eq
      intro i
      have hd := congrArg (·.testBit i) hm.dis
      simp only [Nat.testBit_and, Nat.zero_testBit] at hd
      rw [Nat.testBit_and, Nat.testBit_or, Nat.zero_testBit]
      rcases Nat.decEq p.fr.toNat i with q | q
      · rw [Nat.testBit_two_pow_of_ne q, Bool.or_false]; exact hd
      · subst q; rw [hil]; rfl
    · exact hm.dis
theorem MtOK.step {n : Nat} {m : Mt} {p : Pl} (hm : MtOK n m) (hp : PlOK n p) : MtOK n (stpM m p) := by
  unfold stpM
  by_cases h : (stpF m p).2 = 0
  · obtain ⟨h1, h2, h3⟩ := stp_cases hm hp h
    rw [if_pos h, h1]
    exact hm.go hp h2 h3
  · rw [if_neg h]; exact hm
theorem runM_ok {c : List Mb} (hc : FullC c) : ∀ (l : List Pl) (m : Mt), (∀ p ∈ l, PlOK c.length p) → MtOK c.length m → InvH c m.il m.vs → MtOK c.length (runM l m) ∧ InvH c (runM l m).il (runM l m).vs ∧ (runM l m).il = m.il
  | [], m, _, h1, h2 => ⟨h1, h2, rfl⟩
  | p :: r, m, hp, h1, h2 => by
    rw [runM]
    have := runM_ok hc r (stpM m p) (fun q hq => hp q (by simp [hq])) (h1.step (hp p (by simp))) (h2.step hc h1 (hp p (by simp)))
    refine ⟨this.1, this.2.1, this.2.2.trans ?_⟩
    unfold stpM
    by_cases h : (stpF m p).2 = 0
    · rw [if_pos h, (stp_cases h1 (hp p (by simp)) h).1]; rfl
    · rw [if_neg h]
end Go.Proofs.YtdhogcklnehdhaaGreatDoor
/- Contracts: claims, one by one and in lists. -/
namespace Go.Proofs.YtdhogcklnehdhaaGreatDoor
set_option linter.unusedSimpArgs false
set_option linter.unusedVariables false
set_option linter.unnecessarySimpa false
set_option linter.unusedSectionVars false
set_option maxRecDepth 100000
open Go Go.RowKit Go.Am Go.Proofs.Grow
def rC (x : Cl) : List D := [dI x.1, dI x.2]
abbrev aC (x : Cl) : AV := .agg [vI x.1, vI x.2]
abbrev lC (l : List Cl) : AV := .d (.rows 2 (l.map rC))
section
variable {o : Oper} {T : Nat → Option AV} {M : Nat → Option AO} {x y : Operand} {t' : TypeId} {a b : Cl}
theorem eqC_step (ho : o.op = .binOp .eql 86 x y t') (hx : evA T x = some (aC a)) (hy : evA T y = some (aC b)) : StepOK Tryz.prog o T M ⟨vB (decide (a = b)), [], []⟩ :=
  step_eq (us := [.int .i64 a.1, .int .i64 a.2]) (vs := [.int .i64 b.1, .int .i64 b.2]) ho hx hy rfl rfl fun x y w => by
    obtain ⟨a1, a2⟩ := a
    obtain ⟨b1, b2⟩ := b
    by_cases h1 : a1 = b1 <;> by_cases h2 : a2 = b2 <;> simp [eqGuard, go_sem, h1, h2]
theorem neC_step (ho : o.op = .binOp .neq 86 x y t') (hx : evA T x = some (aC a)) (hy : evA T y = some (aC b)) : StepOK Tryz.prog o T M ⟨vB (!decide (a = b)), [], []⟩ :=
  step_neq (us := [.int .i64 a.1, .int .i64 a.2]) (vs := [.int .i64 b.1, .int .i64 b.2]) ho hx hy rfl rfl fun x y w => by
    obtain ⟨a1, a2⟩ := a
    obtain ⟨b1, b2⟩ := b
    by_cases h1 : a1 = b1 <;> by_cases h2 : a2 = b2 <;> simp [eqGuard, go_sem, h1, h2]
end
theorem okC_m (x : Cl) : FnM Tryz.prog 164 [] [aC x] (vB (okC x)) [] := by
  refine FnM.of htb Tryz.func164 rfl rfl rfl rfl rfl fun cx hN h0 => ?_
  (repeat' (first | ((with_reducible apply WD_id); first | (refine WD_nxt htb (by exact rfl) ?_) | ((refine WD_tf (by exact rfl) (by exact rfl) ?_ ?_) <;> (intro hb; (fail_if_success (with_reducible injection hb)); rw [hb]; (try simp only [List.length_map] at hb)))) | (refine ct ?_) | (with_reducible apply WA_block)))
  all_goals refine gE (.inr rfl) rfl (congrArg vB ?_) trivial
  all_goals first | (simp_all [okC]; done) | (simp_all [okC]; intros; omega)
theorem ctrC_m (x y : Cl) : FnM Tryz.prog 132 [] [aC x, aC y] (vB (ctrC x y)) [] := by
  refine FnM.of htb Tryz.func132 rfl rfl rfl rfl rfl fun cx hN h0 => ?_
  (repeat' (first | ((with_reducible apply WD_id); first | (refine WD_nxt htb (by exact rfl) ?_) | ((refine WD_tf (by exact rfl) (by exact rfl) ?_ ?_) <;> (intro hb; (fail_if_success (with_reducible injection hb)); rw [hb]; (try simp only [List.length_map] at hb)))) | (refine ct ?_) | (with_reducible apply WA_block)))
  all_goals refine gE (.inr rfl) rfl (congrArg vB ?_) trivial
  all_goals (simp only [beq_iff_eq, beq_eq_false_iff_ne] at hb; unfold ctrC; rw [Bool.eq_iff_iff]; simp [hb])
def cmpC (x y : Cl) : Int := orI [cmpI x.1 y.1, cmpI x.2 y.2]
theorem cmpC_lt (x y : Cl) : cmpC x y < 0 ↔ ltC x y = true := by
  unfold cmpC ltC orI orI orI cmpI
  simp only [Bool.or_eq_true, Bool.and_eq_true, decide_eq_true_eq]
  (repeat' split) <;> simp_all <;> omega
theorem cmpC_m (x y : Cl) : FnM Tryz.prog 165 [] [aC x, aC y] (vI (cmpC x y)) [] := by
  refine FnM.of htb Tryz.func165 rfl rfl rfl rfl rfl fun cx hN h0 => ?_
  (repeat' (first | ((with_reducible apply WD_id); first | (refine WD_nxt htb (by exact rfl) ?_) | (refine WD_call (by exact rfl) ?_; first | (refine WD_c0 (cmp_pm _ _) ?_) | (refine WD_c0 (orN_m (l := [cmpI x.1 y.1, cmpI x.2 y.2]) ?_) ?_; (exact hyp)))) | (refine ct ?_) | (with_reducible apply WA_block)))
  exact gE (.inr rfl) rfl rfl trivial
theorem asc_prev {l : List Cl} (h : Asc l) {k : Nat} (hk : k < l.length) (h0 : 0 < k) : decide (cmpC (nth l ((k : Int) - 1).toNat) (nth l k) ≥ 0) = false := by
  have hs := h
  unfold Asc at hs
  rw [List.pairwise_iff_getElem] at hs
  have h1 := hs (k - 1) k (by omega) hk (by omega)
  rw [show ((k : Int) - 1).toNat = k - 1 by omega, nth_getElem _ _ hk, nth_getElem _ _ (show k - 1 < l.length by omega)]
  have := (cmpC_lt _ _).2 h1
  simp only [decide_eq_false_iff_not]; omega
theorem plC_m (l : List Cl) (h : PlC l) : FnM Tryz.prog 109 [] [lC l] (vB true) [] := by
  have hl := h.len
  refine FnM.of htb Tryz.func109 rfl rfl rfl rfl rfl fun cx hN h0 => ?_
  (repeat' (first | ((with_reducible apply WD_id); first | (refine WD_sum ?_) | (refine WD_nxt htb (by exact rfl) ?_) | (refine WD_idx htb ?_) | (refine WD_t (by exact rfl) (by exact rfl) (by exact known) fun hb => ?_; rw [hb]; clear hb) | (refine WD_f (by exact rfl) (by exact rfl) (by exact known) fun hb => ?_; rw [hb]; clear hb)) | (refine ct ?_) | (with_reducible apply WA_block)))
  (refine WA_forV (l.length) [7] [] (fun k => [(7, vI k)]) (fun k => []) (fun k => True) ?h0 ?_)
  case h0 => trivial
  intro k hk _
  rcases Nat.lt_or_ge k l.length with hk' | hk'
  · have t1 : decide ((k : Int) < (l.length : Int)) = true := by simp; omega
    have t2 : (!okC (nth l k)) = false := by rw [h.ok _ (nth_mem l k hk')]; rfl
    rcases Nat.eq_zero_or_pos k with h0 | h0
    · have t3 : decide ((k : Int) > 0) = false := by simp; omega
      (repeat' (first | ((with_reducible apply WD_id); first | (refine WD_sum ?_) | (refine WD_nxt htb (by exact rfl) ?_) | (refine WD_call (by exact rfl) ?_; first | (refine WD_c0 (okC_m (x := nth l k)) ?_) | (refine WD_c0 (cmpC_m _ _) ?_)) | (refine WD_idx htb ?_) | (refine WD_t (by exact rfl) (by exact rfl) (by exact known) fun hb => ?_; rw [hb]; clear hb) | (refine WD_f (by exact rfl) (by exact rfl) (by exact known) fun hb => ?_; rw [hb]; clear hb)) | (refine ct ?_) | (with_reducible apply WA_block)))
      refine ⟨hk', trivial, ?_⟩
      (exact LeV [])
    · have t3 : decide ((k : Int) > 0) = true := by simp; omega
      have t4 := asc_prev h.asc hk' h0
      (repeat' (first | ((with_reducible apply WD_id); first | (refine WD_sum ?_) | (refine WD_nxt htb (by exact rfl) ?_) | (refine WD_call (by exact rfl) ?_; first | (refine WD_c0 (okC_m (x := nth l k)) ?_) | (refine WD_c0 (cmpC_m (x := nth l ((k : Int) - 1).toNat) (y := nth l k)) ?_)) | (refine WD_idx htb ?_) | (refine WD_t (by exact rfl) (by exact rfl) (by exact known) fun hb => ?_; rw [hb]; clear hb) | (refine WD_f (by exact rfl) (by exact rfl) (by exact known) fun hb => ?_; rw [hb]; clear hb)) | (refine ct ?_) | (with_reducible apply WA_block)))
      refine ⟨hk', trivial, ?_⟩
      (exact LeV [])
  · have t1 : decide ((k : Int) < (l.length : Int)) = false := by simp; omega
    (repeat' (first | ((with_reducible apply WD_id); first | (refine WD_sum ?_) | (refine WD_nxt htb (by exact rfl) ?_) | (refine WD_idx htb ?_) | (refine WD_t (by exact rfl) (by exact rfl) (by exact known) fun hb => ?_; rw [hb]; clear hb) | (refine WD_f (by exact rfl) (by exact rfl) (by exact known) fun hb => ?_; rw [hb]; clear hb)) | (refine ct ?_) | (with_reducible apply WA_block)))
    exact gE (.inr rfl) rfl rfl trivial
theorem ixC_m (l : List Cl) (x : Cl) (hl : l.length ≤ 10000) : FnM Tryz.prog 199 [] [lC l, aC x] (vI (idxF (fun y => decide (x = y)) 0 l)) [] := by
  refine FnM.of htb Tryz.func199 rfl rfl rfl rfl rfl fun cx hN h0 => ?_
  (repeat' (first | ((with_reducible apply WD_id); first | (refine WD_sum ?_) | (refine WD_nxt htb (by exact rfl) ?_) | (refine WD_idx htb ?_)) | (refine ct ?_) | (with_reducible apply WA_block)))
  (refine WA_forV (l.length) [8] [] (fun k => [(8, vI k)]) (fun k => []) (fun k => idxF (fun y => decide (x = y)) 0 l = idxF (fun y => decide (x = y)) k (l.drop k)) ?h0 ?_)
  case h0 => rfl
  intro k hk hI
  rcases Nat.lt_or_ge k l.length with hk' | hk'
  · have t1 : decide ((k : Int) < (l.length : Int)) = true := by simp; omega
    cases hx : decide (x = nth l k) with
    | true =>
      (repeat' (first | ((with_reducible apply WD_id); first | (refine WD_sum ?_) | (refine WD_nxt htb (by exact rfl) ?_) | (refine WD_eq (eqC_step rfl rfl rfl) ?_) | (refine WD_idx htb ?_)) | (refine ct ?_) | (with_reducible apply WA_block)))
      exact gE (.inr rfl) rfl (congrArg vI (idx_hit hI hk' hx).symm) trivial
    | false =>
      (repeat' (first | ((with_reducible apply WD_id); first | (refine WD_sum ?_) | (refine WD_nxt htb (by exact rfl) ?_) | (refine WD_eq (eqC_step rfl rfl rfl) ?_) | (refine WD_idx htb ?_)) | (refine ct ?_) | (with_reducible apply WA_block)))
      refine ⟨hk', idx_miss hI hk' hx, ?_⟩
      (exact LeV [])
  · have t1 : decide ((k : Int) < (l.length : Int)) = false := by simp; omega
    (repeat' (first | ((with_reducible apply WD_id); first | (refine WD_sum ?_) | (refine WD_nxt htb (by exact rfl) ?_) | (refine WD_idx htb ?_)) | (refine ct ?_) | (with_reducible apply WA_block)))
    exact gE (.inr rfl) rfl (congrArg vI (idx_end hI hk').symm) trivial
theorem idx_dec {α : Type} [DecidableEq α] (x : α) : ∀ (l : List α) (k : Nat), decide (idxF (fun y => decide (x = y)) k l ≥ 0) = decide (x ∈ l)
  | [], k => by simp [idxF]
  | y :: r, k => by
    unfold idxF
    split
    · rename_i h
      simp only [decide_eq_true_eq] at h
      subst h
      simp
    · rename_i h
      simp only [decide_eq_true_eq] at h
      rw [idx_dec x r]
      simp [h]
theorem cntC_m (l : List Cl) (x : Cl) (hl : l.length ≤ 10000) : FnM Tryz.prog 167 [] [lC l, aC x] (vB (hasC l x)) [] := by
  refine FnM.of htb Tryz.func167 rfl rfl rfl rfl rfl fun cx hN h0 => ?_
  (repeat' (first | ((with_reducible apply WD_id); first | (refine WD_nxt htb (by exact rfl) ?_) | (refine WD_call (by exact rfl) ?_; first | (refine WD_c0 (ixC_m _ _ ?_) ?_; (exact hyp)))) | (refine ct ?_) | (with_reducible apply WA_block)))
  exact gE (.inr rfl) rfl (congrArg vB (by unfold hasC; rw [idx_dec x l 0]; congr)) trivial
theorem hasC_m (l : List Cl) (x : Cl) (hl : l.length ≤ 10000) : FnM Tryz.prog 113 [] [lC l, aC x] (vB (hasC l x)) [] := by
  refine FnM.of htb Tryz.func113 rfl rfl rfl rfl rfl fun cx hN h0 => ?_
  (repeat' (first | ((with_reducible apply WD_id); first | (refine WD_nxt htb (by exact rfl) ?_) | (refine WD_call (by exact rfl) ?_; first | (refine WD_c0 (cntC_m _ _ ?_) ?_; (exact hyp)))) | (refine ct ?_) | (with_reducible apply WA_block)))
  exact gE (.inr rfl) rfl rfl trivial
/-- Two lists, element by element. -/
def eqCs : List Cl → List Cl → Bool
  | [], [] => true
  | x :: a, y :: b => decide (x = y) && eqCs a b
  | _, _ => false
theorem eqCs_eq : ∀ (a b : List Cl), eqCs a b = decide (a = b)
  | [], [] => by simp [eqCs]
  | [], _ :: _ => by simp [eqCs]
  | _ :: _, [] => by simp [eqCs]
  | x :: a, y :: b => by
    rw [eqCs, eqCs_eq a b]
    simp only [List.cons.injEq]
    by_cases h1 : x = y <;> by_cases h2 : a = b <;> simp [h1, h2]
theorem eqCs_len : ∀ {a b : List Cl}, a.length ≠ b.length → eqCs a b = false
  | [], [], h => absurd rfl h
  | [], _ :: _, _ => rfl
  | _ :: _, [], _ => rfl
  | x :: a, y :: b, h => by rw [eqCs, eqCs_len (a := a) (b := b) (by simpa using h), Bool.and_false]
theorem eqCs_step {a b : List Cl} {k : Nat} (h : k < a.length) (h2 : k < b.length) : eqCs (a.drop k) (b.drop k) = (decide (nth a k = nth b k) && eqCs (a.drop (k + 1)) (b.drop (k + 1))) := by
  rw [drop_nth a k h, drop_nth b k h2, eqCs]
theorem eqlC_m (a b : List Cl) (ha : a.length ≤ 10000) (hb : b.length ≤ 10000) : FnM Tryz.prog 120 [] [lC a, lC b] (vB (decide (a = b))) [] := by
  rw [← eqCs_eq]
  refine FnM.of htb Tryz.func120 rfl rfl rfl rfl rfl fun cx hN h0 => ?_
  cases hq : ((a.length : Int) != (b.length : Int)) with
  | true =>
    (repeat' (first | ((with_reducible apply WD_id); first | (refine WD_sum ?_) | (refine WD_nxt htb (by exact rfl) ?_) | (refine WD_idx htb ?_)) | (refine ct ?_) | (with_reducible apply WA_block)))
    exact gE (.inr rfl) rfl (congrArg vB (eqCs_len (by simp at hq; exact_mod_cast hq)).symm) trivial
  | false =>
    have hl : a.length = b.length := by simp at hq; exact_mod_cast hq
    (repeat' (first | ((with_reducible apply WD_id); first | (refine WD_sum ?_) | (refine WD_nxt htb (by exact rfl) ?_) | (refine WD_idx htb ?_)) | (refine ct ?_) | (with_reducible apply WA_block)))
    (refine WA_forV (a.length) [13] [] (fun k => [(13, vI k)]) (fun k => []) (fun k => eqCs a b = eqCs (a.drop k) (b.drop k)) ?h0 ?_)
    case h0 => rfl
    intro k hk hI
    rcases Nat.lt_or_ge k a.length with hk' | hk'
    · have t1 : decide ((k : Int) < (a.length : Int)) = true := by simp; omega
      have hst := eqCs_step hk' (by omega : k < b.length)
      cases hx : decide (nth a k = nth b k) with
      | true =>
        have t2 : (!decide (nth a k = nth b k)) = false := by rw [hx]; rfl
        (repeat' (first | ((with_reducible apply WD_id); first | (refine WD_sum ?_) | (refine WD_nxt htb (by exact rfl) ?_) | (refine WD_eq (neC_step rfl rfl rfl) ?_) | (refine WD_idx htb ?_)) | (refine ct ?_) | (with_reducible apply WA_block)))
        refine ⟨hk', by rw [hI, hst, hx, Bool.true_and], ?_⟩
        (exact LeV [])
      | false =>
        have t2 : (!decide (nth a k = nth b k)) = true := by rw [hx]; rfl
        (repeat' (first | ((with_reducible apply WD_id); first | (refine WD_sum ?_) | (refine WD_nxt htb (by exact rfl) ?_) | (refine WD_eq (neC_step rfl rfl rfl) ?_) | (refine WD_idx htb ?_)) | (refine ct ?_) | (with_reducible apply WA_block)))
        exact gE (.inr rfl) rfl (congrArg vB (by rw [hI, hst, hx, Bool.false_and])) trivial
    · have t1 : decide ((k : Int) < (a.length : Int)) = false := by simp; omega
      (repeat' (first | ((with_reducible apply WD_id); first | (refine WD_sum ?_) | (refine WD_nxt htb (by exact rfl) ?_) | (refine WD_idx htb ?_)) | (refine ct ?_) | (with_reducible apply WA_block)))
      exact gE (.inr rfl) rfl (congrArg vB (by rw [hI, List.drop_eq_nil_of_le hk', List.drop_eq_nil_of_le (by omega)]; rfl)) trivial
end Go.Proofs.YtdhogcklnehdhaaGreatDoor
/- Contract of slices.SortFunc at claims, at any length, by the shelf. -/
namespace Go.Proofs.YtdhogcklnehdhaaGreatDoor
set_option linter.unusedSimpArgs false
set_option linter.unusedVariables false
set_option linter.unnecessarySimpa false
set_option linter.unusedSectionVars false
set_option maxRecDepth 100000
open Go Go.RowKit Go.Am Go.Proofs.Grow Go.Shelf Go.Sort
def renC : Ren := ⟨fun | 6 => 258 | 14 => 274 | 15 => 196 | 20 => 280 | 21 => 281 | 22 => 282 | 23 => 283 | 24 => 284 | 25 => 285 | 26 => 286 | 27 => 287 | 28 => 229 | 29 => 230 | 46 => 290 | 47 => 252 | 48 => 253 | 49 => 291 | 50 => 292 | 57 => 293 | n => n, fun | 0 => 0 | 3 => 3 | 4 => 4 | 5 => 5 | 9 => 9 | 22 => 46 | 24 => 86 | 25 => 184 | 39 => 158 | 45 => 228 | 46 => 229 | 50 => 109 | 53 => 235 | 55 => 237 | 66 => 247 | 70 => 251 | 76 => 273 | 77 => 121 | n => n, fun n => n⟩
theorem layC : SlLaysF0.n6 Tryz.prog renC where
  mixed := hmix
  f6 := ⟨Tryz.f258.name, by kernel_rfl, Tryz.func258.trans (congrArg some (by kernel_rfl))⟩
  f14 := ⟨Tryz.f274.name, by kernel_rfl, Tryz.func274.trans (congrArg some (by kernel_rfl))⟩
  f15 := Tryz.func196.trans (congrArg some (by kernel_rfl))
  f20 := ⟨Tryz.f280.name, by kernel_rfl, Tryz.func280.trans (congrArg some (by kernel_rfl))⟩
  f21 := ⟨Tryz.f281.name, by kernel_rfl, Tryz.func281.trans (congrArg some (by kernel_rfl))⟩
  f22 := ⟨Tryz.f282.name, by kernel_rfl, Tryz.func282.trans (congrArg some (by kernel_rfl))⟩
  f23 := ⟨Tryz.f283.name, by kernel_rfl, Tryz.func283.trans (congrArg some (by kernel_rfl))⟩
  f24 := ⟨Tryz.f284.name, by kernel_rfl, Tryz.func284.trans (congrArg some (by kernel_rfl))⟩
  f25 := ⟨Tryz.f285.name, by kernel_rfl, Tryz.func285.trans (congrArg some (by kernel_rfl))⟩
  f26 := ⟨Tryz.f286.name, by kernel_rfl, Tryz.func286.trans (congrArg some (by kernel_rfl))⟩
  f27 := ⟨Tryz.f287.name, by kernel_rfl, Tryz.func287.trans (congrArg some (by kernel_rfl))⟩
  f28 := Tryz.func229.trans (congrArg some (by kernel_rfl))
  f29 := Tryz.func230.trans (congrArg some (by kernel_rfl))
  f46 := ⟨Tryz.f290.name, by kernel_rfl, Tryz.func290.trans (congrArg some (by kernel_rfl))⟩
  f47 := Tryz.func252.trans (congrArg some (by kernel_rfl))
  f48 := Tryz.func253.trans (congrArg some (by kernel_rfl))
  f49 := ⟨Tryz.f291.name, by kernel_rfl, Tryz.func291.trans (congrArg some (by kernel_rfl))⟩
  f50 := ⟨Tryz.f292.name, by kernel_rfl, Tryz.func292.trans (congrArg some (by kernel_rfl))⟩
  f57 := ⟨Tryz.f293.name, by kernel_rfl, Tryz.func293.trans (congrArg some (by kernel_rfl))⟩
  t0 := Tryz.underlying0
  a0 := Tryz.isAgg0
  z0 := Tryz.sizeOf0
  v0 := Tryz.zeroValue0
  t3 := Tryz.underlying3
  a3 := Tryz.isAgg3
  z3 := Tryz.sizeOf3
  v3 := Tryz.zeroValue3
  t4 := Tryz.underlying4
  a4 := Tryz.isAgg4
  z4 := Tryz.sizeOf4
  v4 := Tryz.zeroValue4
  t5 := Tryz.underlying5
  a5 := Tryz.isAgg5
  z5 := Tryz.sizeOf5
  v5 := Tryz.zeroValue5
  t9 := Tryz.underlying9
  a9 := Tryz.isAgg9
  z9 := Tryz.sizeOf9
  v9 := Tryz.zeroValue9
  t22 := Tryz.underlying46
  a22 := Tryz.isAgg46
  z22 := Tryz.sizeOf46
  v22 := Tryz.zeroValue46
  t25 := Tryz.underlying184
  a25 := Tryz.isAgg184
  z25 := Tryz.sizeOf184
  v25 := Tryz.zeroValue184
  t39 := Tryz.underlying158
  a39 := Tryz.isAgg158
  z39 := Tryz.sizeOf158
  v39 := Tryz.zeroValue158
  t45 := Tryz.underlying228
  a45 := Tryz.isAgg228
  z45 := Tryz.sizeOf228
  v45 := Tryz.zeroValue228
  t46 := Tryz.underlying229
  a46 := Tryz.isAgg229
  z46 := Tryz.sizeOf229
  v46 := Tryz.zeroValue229
  t50 := Tryz.underlying109
  a50 := Tryz.isAgg109
  z50 := Tryz.sizeOf109
  v50 := Tryz.zeroValue109
  t53 := Tryz.underlying235
  a53 := Tryz.isAgg235
  z53 := Tryz.sizeOf235
  v53 := Tryz.zeroValue235
  t55 := Tryz.underlying237
  a55 := Tryz.isAgg237
  z55 := Tryz.sizeOf237
  v55 := Tryz.zeroValue237
  t66 := Tryz.underlying247
  a66 := Tryz.isAgg247
  z66 := Tryz.sizeOf247
  v66 := Tryz.zeroValue247
  t70 := Tryz.underlying251
  a70 := Tryz.isAgg251
  z70 := Tryz.sizeOf251
  v70 := Tryz.zeroValue251
  t76 := Tryz.underlying273
  a76 := Tryz.isAgg273
  z76 := Tryz.sizeOf273
  v76 := Tryz.zeroValue273
  t77 := Tryz.underlying121
  a77 := Tryz.isAgg121
  z77 := Tryz.sizeOf121
  v77 := Tryz.zeroValue121
/-- A world after draws and new blocks. -/
def Gx (w w' : World) : Prop := ∃ q os, w' = grow (w.drewN q) os
theorem Gx.refl (w : World) : Gx w w := ⟨0, #[], by rw [grow_empty]; rfl⟩
theorem Gx.alloc {w w' : World} (h : Gx w w') (o : Obj) : Gx w (w'.alloc o) := by
  obtain ⟨q, os, rfl⟩ := h
  exact ⟨q, os ++ #[o], by rw [alloc_eq_grow, grow_grow]⟩
theorem Gx.grown {w w' : World} (h : Gx w w') (n : Nat) (es : Array Obj) : Gx w (grow (w'.drewN n) es) := by
  obtain ⟨q, os, rfl⟩ := h
  exact ⟨q + n, os ++ es, by rw [← grow_grow, ← World.drewN_drewN]; rfl⟩
theorem or_two_g (x y : Int) (w : World) :
    Calls Tryz.prog 197 #[.slice (some ⟨w.heap.size, 0, none⟩) 2 2] (w.alloc (.cells #[.int .i64 x, .int .i64 y] 3)) fun e w' => e = .returned (.int .i64 (orI [x, y])) ∧ w' = w.alloc (.cells #[.int .i64 x, .int .i64 y] 3) := by
  refine (or_int w.heap.size 0 2 [x, y] _ (by simp) ?_).mono ?_
  · intro i hi
    match i, hi with
    | 0, _ => simp [atI, go_sem]
    | 1, _ => simp [atI, go_sem]
  · rintro e w' ⟨he, rfl⟩; exact ⟨he, rfl⟩
theorem cell_gd (w : World) (n : Nat) (os : Array Obj) (b o : Nat) (h : b < w.heap.size) : (grow (w.drewN n) os).cell? ⟨b, o, none⟩ = w.cell? ⟨b, o, none⟩ := by
  rw [cell?_grow _ _ _ (by exact h)]; rfl
attribute [go_sem] cell_gd
theorem quiet_gx {P : Program} {f : FuncId} {args : Array Value} {w : World} {n : Nat} {os : Array Obj} {v : Value} (h : Calls P f args (grow (w.drewN n) os) fun e w' => e = .returned v ∧ grow (w.drewN n) os = w') :
    Calls P f args (grow (w.drewN n) os) fun e w'' => e = .returned v ∧ ∃ p : GrownBy, w'' = grow (w.drewN p.n) p.os := h.mono fun _ _ ⟨he, hw⟩ => ⟨he, ⟨n, os⟩, hw.symm⟩
theorem cmpC_g (a i b j : Int) (w : World) :
    Calls Tryz.prog 165 #[.agg #[.int .i64 a, .int .i64 i], .agg #[.int .i64 b, .int .i64 j]] w fun e w' => e = .returned (.int .i64 (cmpC (a, i) (b, j))) ∧ Gx w w' := by
  go_enter Tryz.func165, Tryz.ntmps165
  go_wp2
  refine region_head (C := fun w' => ∃ p : GrownBy, w' = grow (((w.alloc _).alloc _).drewN p.n) p.os) 10 (by kernel_rfl) (by kernel_rfl) ⟨⟨1, #[]⟩, by rw [grow_empty]; rfl⟩ ?_
  simp only [List.take_succ_cons, List.take_zero, List.drop_succ_cons, List.drop_zero]
  repeat (quiet_step (first | exact quiet_gx (cmp_int _ _ _)))
  refine wpQuiet_nil ?_
  intro wq hq
  have hb : Gx w wq := by
    obtain ⟨p, rfl⟩ := hq
    exact (((Gx.refl w).alloc (.cells #[.int .i64 a, .int .i64 i] 86)).alloc (.cells #[.int .i64 b, .int .i64 j] 86)).grown p.n p.os
  clear hq
  go_wp2_with (go_at_call 197; refine (or_two_g _ _ _).mono ?_; rintro e w' ⟨rfl, rfl⟩)
  go_ret
  exact ⟨rfl, hb.alloc _⟩
def encC (x : Cl) : List Value := [.int .i64 x.1, .int .i64 x.2]
theorem lt_ordC (x y : Cl) : ltOf cmpC x y = ltC x y := by
  unfold ltOf
  cases h : ltC x y with
  | true => simpa using (cmpC_lt x y).2 h
  | false =>
    have : ¬ cmpC x y < 0 := fun e => by rw [(cmpC_lt x y).1 e] at h; cases h
    simpa using this
def srtC (l : List Cl) : List Cl := l.mergeSort fun x y => !ltC y x
theorem srtC_len (l : List Cl) : (srtC l).length = l.length := List.length_mergeSort _
theorem swo_C : SWO (ltOf cmpC) where
  irrefl x := by rw [lt_ordC]; exact ltC_irr
  trans x y z h k := by rw [lt_ordC] at *; exact ltC_tr h k
  ntrans x y z h k := by
    rw [lt_ordC] at *
    cases q : ltC x z with
    | false => rfl
    | true =>
      cases e : ltC y x with
      | true => rw [ltC_tr e q] at k; cases k
      | false =>
        have := ltC_tri h e
        subst this
        rw [q] at k; cases k
theorem sortC_w (l : List Cl) (cap blk : Nat) (w : World) (hH : HoldsK encC 2 w blk 0 l.toArray) (hblk : blk < w.heap.size) (hl : l.length ≤ 4000) :
    Calls Tryz.prog 258 #[.slice (some ⟨blk, 0, none⟩) l.length cap, .func (.func 165) #[] #[]] w fun e w' => e = .returned (.tuple #[]) ∧ ∃ n os, w' = sortWorldK encC 2 w blk 0 n (srtC l).toArray os := by
  have eg : ∀ args w, (callFunc 165 args).run Tryz.prog w = .ok (.enter 165 args) w := enters_of Tryz.func165 (by kernel_rfl) rfl
  have h := AnyQ.slices_SortFunc_total layC 2 Tryz.isAgg86 Tryz.sizeOf86 encC (fun _ => rfl) (fun x v hv => by simp [encC] at hv; rcases hv with rfl | rfl <;> rfl) cmpC swo_C 165 #[] blk 0 cap l.toArray w eg
    (fun m os dk _ x y => cmpC_g x.1 x.2 y.1 y.2 _) hH hblk (by simp; omega) (fun x y h k => by
      rw [lt_ordC] at h k
      exact ltC_tri h k)
  have e : (fun x y => !(ltOf cmpC) y x) = fun x y => !ltC y x := by funext x y; rw [lt_ordC]
  rw [e] at h
  exact h
theorem flatC_get : ∀ (l : List Cl) (t : Nat), t < l.length * 2 → (l.flatMap encC)[t]? = some ((encC (l[t / 2]!))[t % 2]!)
  | [], t, h => by simp at h
  | x :: r, 0, _ => rfl
  | x :: r, 1, _ => rfl
  | x :: r, t + 2, h => by
    have h1 : (List.flatMap encC (x :: r))[t + 2]? = (r.flatMap encC)[t]? := rfl
    rw [h1, flatC_get r t (by simp at h; omega), show (t + 2) / 2 = t / 2 + 1 by omega, show (t + 2) % 2 = t % 2 by omega]
    rfl
theorem flatC_len : ∀ l : List Cl, (l.flatMap encC).length = l.length * 2
  | [] => rfl
  | x :: r => by
    have : (List.flatMap encC (x :: r)).length = (r.flatMap encC).length + 2 := rfl
    rw [this, flatC_len r]; simp; omega
theorem rowsC_vals : ∀ l : List Cl, (l.map rC).flatten = (l.flatMap encC).map D.v
  | [] => rfl
  | x :: r => by
    rw [List.map_cons, List.flatten_cons, rowsC_vals r]; rfl
theorem vd_v {H : Nat → Prop} {w : World} {c x : Value} (h : VD H w (D.v c) x) : x = c := by
  cases h; rfl
theorem vds_vals {H : Nat → Prop} {w : World} {cs xs : List Value} (h : VDs H w (cs.map D.v) xs) : xs = cs := by
  apply List.ext_getElem?
  intro i
  have hl := h.1
  rw [List.length_map] at hl
  by_cases hi : i < cs.length
  · have h1 := h.2 i (D.v cs[i]) (xs[i]'(by omega)) (by simp [hi]) (by simp)
    rw [List.getElem?_eq_getElem hi, List.getElem?_eq_getElem (show i < xs.length by omega)]
    exact congrArg some (vd_v h1)
  · rw [List.getElem?_eq_none (by omega), List.getElem?_eq_none (by omega)]
theorem vds_of {H : Nat → Prop} {w : World} (cs : List Value) : VDs H w (cs.map D.v) cs := by
  refine ⟨by simp, fun i c v hc hv => ?_⟩
  simp only [List.getElem?_map, hv, Option.map_some] at hc
  obtain rfl := Option.some.inj hc
  exact .v _
theorem oneC_flat {l : List Cl} : ∀ u ∈ l.flatMap encC, u.oneCell' = true := by
  intro u hu
  rw [List.mem_flatMap] at hu
  obtain ⟨x, _, hx⟩ := hu
  simp [encC] at hx
  rcases hx with rfl | rfl <;> rfl
theorem rowsC_two (l : List Cl) : ∀ r ∈ l.map rC, r.length = 2 := by
  intro r hr
  rw [List.mem_map] at hr
  obtain ⟨x, _, rfl⟩ := hr
  rfl
theorem sortC_pm (l : List Cl) (hl : l.length ≤ 4000) : FnM Tryz.prog 258 [(7, .arr 86 2 (l.map rC))] [.own 7, .clo 165 []] (.tup []) [(7, .arr 86 2 ((srtC l).map rC))] := by
  intro H0 μ w vs hlen hI
  obtain ⟨v1, v2, rfl⟩ : ∃ v1 v2, vs = [v1, v2] := by
    match vs, hlen with
    | [a, b], _ => exact ⟨a, b, rfl⟩
  have h1 := hI.tm 0 _ rfl
  have h2 := hI.tm 1 _ rfl
  obtain ⟨v, xs, hμ, ⟨hx1, hx2⟩, _, hd, _⟩ := hI.ob 7 _ rfl
  rw [rowsC_vals] at hd
  obtain rfl := vds_vals hd
  change VR _ _ _ _ v1 at h1
  change VR _ _ _ _ v2 at h2
  obtain ⟨a, n, cap, rfl, h3⟩ : ∃ a n cap, v1 = .slice a n cap ∧ μ 7 = some (.slice a n cap) := by
    cases h1 with
    | own h => exact ⟨_, _, _, rfl, h⟩
  obtain rfl : v = .slice a n cap := Option.some.inj (hμ.symm.trans h3)
  obtain rfl : v2 = .func (.func 165) #[] #[] := by
    cases h2 with
    | clo hl2 _ =>
      rw [List.length_eq_zero_iff.1 hl2.symm]
  rw [List.length_map] at hx2
  have done : ∀ w', InvM ⟨w, Hot μ (lk [(7, AO.arr 86 2 (l.map rC))]), H0, 2, μ⟩ μ (lk (argT 0 [.own 7, .clo 165 []])) (lk [(7, AO.arr 86 2 ((srtC l).map rC))]) ⟨#[.slice a n cap, .func (.func 165) #[] #[]], []⟩ w' →
      ∃ v μ', Ending.returned (.tuple #[]) = Ending.returned v ∧ InvM ⟨w, Hot μ (lk [(7, AO.arr 86 2 (l.map rC))]), H0, 1, μ⟩ μ' (lk [(0, .tup [])]) (lk [(7, AO.arr 86 2 ((srtC l).map rC))]) ⟨#[v], []⟩ w' := by
    intro w' h
    refine ⟨_, μ, rfl, fun t x ht => ?_, h.ob, h.inj, h.lo, h.fr, h.free, h.hs, h.base, rfl, rfl⟩
    simp only [lk] at ht
    split at ht
    · rename_i hb
      have := Nat.eq_of_beq_eq_true hb
      subst this
      obtain rfl := Option.some.inj ht
      exact .tup (vs := []) rfl (fun i c v hc _ => by simp at hc)
    · cases ht
  rcases Nat.eq_zero_or_pos l.length with h0 | h0
  · obtain rfl : l = [] := List.length_eq_zero_iff.1 h0
    obtain rfl : n = 0 := by
      rcases hx2 with ⟨h, _⟩ | ⟨g, c, cur, h, _⟩
      · injection h with _ h _
      · injection h with _ h _
    have h := AnyF.slices_SortFunc_none layC a cap (.func (.func 165) #[] #[]) w
    refine Calls.mono h ?_
    rintro e w' ⟨rfl, rfl⟩
    have e0 : srtC [] = [] := List.length_eq_zero_iff.1 (srtC_len [])
    rw [e0] at done ⊢
    exact done _ hI
  · rcases hx2 with ⟨_, h⟩ | ⟨g, c, cur, h, _, hg, hc1, hc2, hc3, hc4⟩
    · omega
    injection h with e1 e2 e3
    subst e1 e2 e3
    have hgl : g < w.heap.size := (Array.getElem?_eq_some_iff.1 hg).1
    have hcell : ∀ t, t < l.length * 2 → cur[t]? = (l.flatMap encC)[t]? := by
      intro t ht
      rw [← hc4, List.getElem?_take_of_lt ht, Array.getElem?_toList]
    have hH : HoldsK encC 2 w g 0 l.toArray := by
      intro t ht
      rw [size_flatK, List.size_toArray] at ht
      constructor
      · simp only [World.cell?, hg, Nat.zero_add]
        rw [get_flatK _ _ _ _ (by simpa using ht)]
        simp only [Option.isSome_none, Bool.false_eq_true, if_false]
        rw [hcell t ht, flatC_get l t ht]
        simp
      · simp [World.frozen?, hg]
    refine Calls.mono (sortC_w l cap g w hH hgl hl) ?_
    rintro e w' ⟨rfl, q, os, rfl⟩
    have hsz : (srtC l).length = l.length := srtC_len l
    have hF : (Go.Sort.flatK encC 2 (srtC l).toArray).size = l.length * 2 := by simp [hsz]
    have hch : Chg (fun k => k = g) w (sortWorldK encC 2 w g 0 q (srtC l).toArray os) := by
      refine ⟨rfl, rfl, rfl, ?_, fun k hk hne => ?_⟩
      · simp [sortWorldK, grow, putRowK, putRow, mapBlock, ahead]
      · simp only [sortWorldK, grow, putRowK, putRow, mapBlock, ahead]
        rw [Array.getElem?_append_left (by simpa using hk), Array.getElem?_modify, if_neg (fun h => hne h.symm)]; rfl
    have hnew : (sortWorldK encC 2 w g 0 q (srtC l).toArray os).heap[g]? = some (.cells (putCells id 0 (Go.Sort.flatK encC 2 (srtC l).toArray) cur) 86 (0, 0)) := by
      simp only [sortWorldK, grow, putRowK, putRow, mapBlock, ahead]
      rw [Array.getElem?_append_left (by simpa using hgl), Array.getElem?_modify, if_pos rfl]
      show Option.map _ w.heap[g]? = _
      rw [hg]; rfl
    have hsize : (putCells id 0 (Go.Sort.flatK encC 2 (srtC l).toArray) cur).size = cur.size := by simp [putCells]
    have htake : (putCells id 0 (Go.Sort.flatK encC 2 (srtC l).toArray) cur).toList.take (l.length * 2) = (srtC l).flatMap encC := by
      apply List.ext_getElem?
      intro t
      by_cases ht : t < l.length * 2
      · rw [List.getElem?_take_of_lt ht, Array.getElem?_toList, putCells, Array.getElem?_mapIdx, hcell t ht, flatC_get l t ht, flatC_get _ t (by rw [hsz]; exact ht)]
        simp only [Option.map_some, hF, Nat.zero_le, true_and, Nat.zero_add, if_pos ht, Nat.sub_zero, id]
        rw [get_flatK _ _ _ _ (by simpa [hsz] using ht)]
        simp
      · rw [List.getElem?_eq_none (by rw [List.length_take]; omega), List.getElem?_eq_none (by rw [flatC_len, hsz]; omega)]
    generalize putCells id 0 (Go.Sort.flatK encC 2 (srtC l).toArray) cur = cur' at *
    generalize sortWorldK encC 2 w g 0 q (srtC l).toArray os = w' at *
    have hrl : ((srtC l).map rC).length = l.length := by rw [List.length_map, hsz]
    have hw := hI.write (g := 7) (o := .arr 86 2 (l.map rC)) (o' := .arr 86 2 ((srtC l).map rC)) rfl rfl rfl hμ rfl hch (fun H' _ _ => by
      refine ⟨_, (srtC l).flatMap encC, hμ, ⟨by rw [flatC_len, List.length_map], .inr ⟨g, cap, cur', by rw [hrl], Nat.zero_le _, hnew, by rw [hrl]; exact hc1, hc2, by rw [hsize]; exact hc3, by rw [hrl]; exact htake⟩⟩, rowsC_two _, by rw [rowsC_vals]; exact vds_of _, oneC_flat⟩)
    have e : upM (lk [(7, AO.arr 86 2 (l.map rC))]) [(7, AO.arr 86 2 ((srtC l).map rC))] = lk [(7, .arr 86 2 ((srtC l).map rC))] := by
      funext k
      by_cases hk : k = 7
      · subst hk; rw [upM_one_self]; rfl
      · rw [upM_one_other _ hk]
        have : Nat.beq 7 k = false := by
          cases hb : Nat.beq 7 k with
          | false => rfl
          | true => exact absurd (Nat.eq_of_beq_eq_true hb).symm hk
        simp [lk, this]
    rw [e] at hw
    exact done _ hw
end Go.Proofs.YtdhogcklnehdhaaGreatDoor
/- Contract of slices.Compact at claims. -/
namespace Go.Proofs.YtdhogcklnehdhaaGreatDoor
set_option linter.unusedSimpArgs false
set_option linter.unusedVariables false
set_option linter.unnecessarySimpa false
set_option linter.unusedSectionVars false
set_option maxRecDepth 100000
open Go Go.RowKit Go.Am Go.Proofs.Grow
def ddM (l : List Cl) : Nat → List Cl
  | 0 => []
  | 1 => [nth l 0]
  | n + 2 => if decide (nth l (n + 1) = nth l n) = true then ddM l (n + 1) else ddM l (n + 1) ++ [nth l (n + 1)]
/-- A list without neighbours that are equal. -/
def ddC (l : List Cl) : List Cl := ddM l l.length
theorem ddC_short {l : List Cl} (h : l.length < 2) : ddC l = l := by
  rcases l with _ | ⟨x, _ | ⟨y, r⟩⟩
  · rfl
  · rfl
  · simp at h; omega
theorem ddM_one {l : List Cl} (h : 1 ≤ l.length) : ddM l 1 = l.take 1 := by
  rcases l with _ | ⟨x, r⟩
  · simp at h
  · rfl
theorem take_nxt {l : List Cl} {k : Nat} (h : k < l.length) : l.take (k + 1) = l.take k ++ [nth l k] := by
  rw [List.take_add_one, List.getElem?_eq_getElem h, nth_getElem _ _ h]; rfl
theorem ddM_next (l : List Cl) {k : Nat} (h : 1 ≤ k) : ddM l (k + 1) = if decide (nth l k = nth l (k - 1)) = true then ddM l k else ddM l k ++ [nth l k] := by
  obtain ⟨m, rfl⟩ : ∃ m, k = m + 1 := ⟨k - 1, by omega⟩
  rfl
theorem cutC {A : List Cl} {R S : List (List D)} {j : Nat} (h : j ≤ A.length) : ((A.map rC).take j ++ R ++ S).take j = (A.take j).map rC := by
  rw [List.append_assoc, List.take_left' (by simp; omega), List.map_take]
set_option maxHeartbeats 4000000 in
theorem compC_pm (l : List Cl) (hl : l.length ≤ 4000) : FnM Tryz.prog 259 [(7, .arr 86 2 (l.map rC))] [.own 7] (.own 61) [(61, .arr 86 2 ((ddC l).map rC)), (7, .dead)] := by
  refine FnM.of htb Tryz.func259 rfl rfl rfl rfl rfl fun cx hN h0 => ?_
  by_cases h2 : l.length < 2
  · have d1 : decide ((l.length : Int) < 2) = true := by simp only [decide_eq_true_eq]; omega
    rw [ddC_short h2]
    (repeat' (first | ((with_reducible apply WD_id); first | (refine WD_sum ?_) | (refine WD_nxt htb (by exact rfl) ?_) | (refine WD_idxo htb ?_) | (refine WD_lde htb ?_) | (refine WD_ste htb ?_) | (refine WD_cut htb ?_) | (refine WD_lens htb ?_) | (refine WD_clr htb ?_) | (refine WD_ixs htb ?_)) | (refine ct ?_) | (with_reducible apply WA_block)))
    exact glV [(2, .own 61)] [(61, .arr 86 2 (l.map rC)), (7, .dead)] (Le.trans (Le_own 2 61 rfl rfl rfl) (LeV []))
  have d1 : decide ((l.length : Int) < 2) = false := by simp only [decide_eq_false_iff_not]; omega
  (repeat' (first | ((with_reducible apply WD_id); first | (refine WD_sum ?_) | (refine WD_nxt htb (by exact rfl) ?_) | (refine WD_idxo htb ?_) | (refine WD_lde htb ?_) | (refine WD_ste htb ?_) | (refine WD_cut htb ?_) | (refine WD_lens htb ?_) | (refine WD_clr htb ?_) | (refine WD_ixs htb ?_)) | (refine ct ?_) | (with_reducible apply WA_block)))
  (refine WA_anyV (α := Nat) (fun x => l.length - x) (1) [3] [] (fun x => [(3, vI x)]) (fun x => []) (fun x => 1 ≤ x ∧ x ≤ l.length ∧ ddM l x = l.take x) ?h0 ?_)
  case h0 => exact ⟨by omega, by omega, ddM_one (by omega)⟩
  rintro k ⟨k1, k2, k3⟩
  by_cases hk : k < l.length
  case neg =>
    have d2 : decide ((k : Int) < (l.length : Int)) = false := by simp only [decide_eq_false_iff_not]; omega
    have e : ddC l = l := by
      obtain rfl : k = l.length := by omega
      unfold ddC; rw [k3, List.take_length]
    rw [e]
    (repeat' (first | ((with_reducible apply WD_id); first | (refine WD_sum ?_) | (refine WD_nxt htb (by exact rfl) ?_) | (refine WD_idxo htb ?_) | (refine WD_lde htb ?_) | (refine WD_ste htb ?_) | (refine WD_cut htb ?_) | (refine WD_lens htb ?_) | (refine WD_clr htb ?_) | (refine WD_ixs htb ?_)) | (refine ct ?_) | (with_reducible apply WA_block)))
    exact glV [(2, .own 61)] [(61, .arr 86 2 (l.map rC)), (7, .dead)] (Le.trans (Le_own 2 61 rfl rfl rfl) (LeV []))
  have d2 : decide ((k : Int) < (l.length : Int)) = true := by simp only [decide_eq_true_eq]; omega
  have e : ((k : Int) - 1).toNat = k - 1 := by omega
  cases he : decide (nth l k = nth l (k - 1)) with
  | false =>
    have he' : decide (nth l k = nth l ((k : Int) - 1).toNat) = false := by rw [e]; exact he
    (repeat' (first | ((with_reducible apply WD_id); first | (refine WD_sum ?_) | (refine WD_nxt htb (by exact rfl) ?_) | (refine WD_eq (eqC_step rfl rfl rfl) ?_) | (refine WD_idxo htb ?_) | (refine WD_lde htb ?_) | (refine WD_ste htb ?_) | (refine WD_cut htb ?_) | (refine WD_lens htb ?_) | (refine WD_clr htb ?_) | (refine WD_ixs htb ?_)) | (refine ct ?_) | (with_reducible apply WA_block)))
    refine ⟨k + 1, by omega, ⟨by omega, by omega, by rw [ddM_next l k1, if_neg (by simp [he]), k3, take_nxt hk]⟩, ?_⟩
    (exact LeV [])
  | true =>
    have he' : decide (nth l k = nth l ((k : Int) - 1).toNat) = true := by rw [e]; exact he
    (repeat' (first | ((with_reducible apply WD_id); first | (refine WD_sum ?_) | (refine WD_nxt htb (by exact rfl) ?_) | (refine WD_eq (eqC_step rfl rfl rfl) ?_) | (refine WD_idxo htb ?_) | (refine WD_lde htb ?_) | (refine WD_ste htb ?_) | (refine WD_cut htb ?_) | (refine WD_lens htb ?_) | (refine WD_clr htb ?_) | (refine WD_ixs htb ?_)) | (refine ct ?_) | (with_reducible apply WA_block)))
    (refine WA_anyV (α := Nat × Nat × List Cl) (fun x => l.length - k - x.1) ((1, k, l)) [5, 3] [7] (fun x => [(5, vI x.1), (3, vI x.2.1)]) (fun x => [(7, .arr 86 2 (x.2.2.map rC))]) (fun x => (1 ≤ x.1 ∧ k + x.1 ≤ l.length ∧ x.2.2.length = l.length ∧ x.2.1 < k + x.1) ∧ x.2.2.take x.2.1 = ddM l (k + x.1) ∧ ∀ p, k + x.1 ≤ p + 1 → p < l.length → nth x.2.2 p = nth l p) ?h0 ?_)
    case h0 => exact ⟨⟨by simp, by show k + 1 ≤ l.length; omega, rfl, by simp⟩, by dsimp only; rw [ddM_next l k1, if_pos he, k3], fun p _ _ => rfl⟩
    rintro ⟨q, j, A⟩ ⟨⟨q1, q2, q3, q4⟩, q5, q6⟩
    dsimp only at q1 q2 q3 q4 q5 q6
    by_cases hq : k + q < l.length
    case neg =>
      have d3 : decide ((q : Int) < ((l.length - k : Nat) : Int)) = false := by simp only [decide_eq_false_iff_not]; omega
      have eq : k + q = l.length := by omega
      have hA : ddC l = A.take j := by unfold ddC; rw [q5, eq]
      rw [hA]
      refine WA_room 0 rfl rfl fun qq hq1 hq2 => ?_
      rw [List.length_map] at hq1
      dsimp only at hq1
      (repeat' (first | ((with_reducible apply WD_id); first | (refine WD_sum ?_) | (refine WD_nxt htb (by exact rfl) ?_) | (refine WD_idxo htb ?_) | (refine WD_lde htb ?_) | (refine WD_ste htb ?_) | (refine WD_cut htb ?_) | (refine WD_lens htb ?_) | (refine WD_clr htb ?_) | (refine WD_ixs htb ?_)) | (refine ct ?_) | (with_reducible apply WA_block)))
      simp only [Nat.zero_add, Nat.sub_zero, List.drop_zero, Option.map_some]
      exact glV [(2, .own 61)] [(61, .arr 86 2 ((A.take j).map rC)), (7, .dead)] (Le.trans (Le_hide 2 61 rfl rfl (by simp only [List.length_append, List.length_take, List.length_drop, List.length_replicate, List.length_map]; omega) (show 0 < qq by omega) rfl)
        (LeV [] (hM := ⟨⟨_, rfl, rfl, rfl, cutC (by omega)⟩, ⟨_, rfl, trivial⟩, trivial⟩)))
    have d3 : decide ((q : Int) < ((l.length - k : Nat) : Int)) = true := by simp only [decide_eq_true_eq]; omega
    have e1 : nth A (0 + k + q) = nth l (k + q) := by rw [Nat.zero_add]; exact q6 _ (by omega) hq
    have e2 : nth A (0 + k + ((q : Int) - 1).toNat) = nth l (k + q - 1) := by
      rw [show 0 + k + ((q : Int) - 1).toNat = k + q - 1 by omega]; exact q6 _ (by omega) (by omega)
    have hn := ddM_next l (k := k + q) (by omega)
    cases hb : decide (nth l (k + q) = nth l (k + q - 1)) with
    | true =>
      have hb' : (!decide (nth A (0 + k + q) = nth A (0 + k + ((q : Int) - 1).toNat))) = false := by rw [e1, e2, hb]; rfl
      rw [if_pos hb] at hn
      (repeat' (first | ((with_reducible apply WD_id); first | (refine WD_sum ?_) | (refine WD_nxt htb (by exact rfl) ?_) | (refine WD_eq (neC_step rfl rfl rfl) ?_) | (refine WD_idxo htb ?_) | (refine WD_lde htb ?_) | (refine WD_ste htb ?_) | (refine WD_cut htb ?_) | (refine WD_lens htb ?_) | (refine WD_clr htb ?_) | (refine WD_ixs htb ?_)) | (refine ct ?_) | (with_reducible apply WA_block)))
      refine ⟨(q + 1, j, A), by dsimp only; omega, ⟨⟨by dsimp only; omega, by dsimp only; omega, q3, by dsimp only; omega⟩, by dsimp only; rw [q5]; exact hn.symm, fun p hp1 hp2 => q6 p (by dsimp only at hp1; omega) hp2⟩, ?_⟩
      (exact LeV [])
    | false =>
      have hb' : (!decide (nth A (0 + k + q) = nth A (0 + k + ((q : Int) - 1).toNat))) = true := by rw [e1, e2, hb]; rfl
      rw [if_neg (by simp [hb])] at hn
      have hrow : (A.map rC).set j [dI (nth A (0 + k + q)).1, dI (nth A (0 + k + q)).2] = (A.set j (nth A (0 + k + q))).map rC := by rw [List.map_set]; rfl
      (repeat' (first | ((with_reducible apply WD_id); first | (refine WD_sum ?_) | (refine WD_nxt htb (by exact rfl) ?_) | (refine WD_eq (neC_step rfl rfl rfl) ?_) | (refine WD_idxo htb ?_) | (refine WD_lde htb ?_) | (refine WD_ste htb ?_) | (refine WD_cut htb ?_) | (refine WD_lens htb ?_) | (refine WD_clr htb ?_) | (refine WD_ixs htb ?_)) | (refine ct ?_) | (with_reducible apply WA_block)))
      refine ⟨(q + 1, j + 1, A.set j (nth A (0 + k + q))), by dsimp only; omega, ⟨⟨by dsimp only; omega, by dsimp only; omega, by simpa using q3, by dsimp only; omega⟩, ?_, fun p hp1 hp2 => ?_⟩, ?_⟩
      · dsimp only
        rw [← Nat.add_assoc, hn, ← q5, e1, take_nxt (by rw [List.length_set]; omega), List.take_set_of_le (by omega), nth_setI _ _ _ _ (by omega), if_pos rfl]
      · dsimp only at hp1 ⊢
        rw [nth_setI _ _ _ _ (by omega), if_neg (by omega)]
        exact q6 p (by omega) hp2
      (exact LeV [])
end Go.Proofs.YtdhogcklnehdhaaGreatDoor
