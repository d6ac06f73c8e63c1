import Derived.Test.YtdhogcklnehdhaaGreatDoorRAJ
import Derived.Test.YtdhogcklnehdhaaGreatDoorRAH
import Derived.Test.YtdhogcklnehdhaaGreatDoorRAE
import Derived.Test.YtdhogcklnehdhaaGreatDoorRAA
import Derived.Shelf.SlSortCmp.NoneTotal
import Derived.Test.YtdhogcklnehdhaaGreatDoorRAI
import Derived.Test.YtdhogcklnehdhaaGreatDoorRAF
import Derived.RangeFuncNested
import Derived.RangeFuncBound
import Derived.RangeFuncCalls
import Derived.RangeFuncLeaves
import Derived.Shelf.Abstract
import Derived.Shelf.RegionOpen
import Derived.WalkKit
import Derived.OwnWalkIn
import Derived.TacticsInMore
import Derived.LoopNIn
import Derived.LoopIn
namespace Go.Proofs.YtdhogcklnehdhaaGreatDoor
set_option linter.unusedSimpArgs false
set_option linter.unusedVariables false
set_option linter.unnecessarySimpa false
set_option linter.unusedSectionVars false
set_option maxRecDepth 100000
open Go Go.RowKit Go.Am Go.Proofs.Grow
section
variable {c : List Mb} {il q : Nat} {x : Cl} {vs0 : List Vo}
def Hd (m : Mt) (k f : Nat) : Prop := ∃ y ∈ (nth m.vs k).he, y.nd = (f : Int)
theorem StepK.vo {m m' : Mt} {k : Nat} (h : StepK il q x m m' k) (hx : x ∈ (nth m.vs k).vo) : x ∈ (nth m'.vs k).vo := h.gr.vo x hx
theorem StepK.ac {m m' : Mt} {k : Nat} (h : StepK il q x m m' k) (hx : x ∈ (nth m.vs k).ac) : x ∈ (nth m'.vs k).ac := h.gr.ac x hx
theorem StepK.hd {m m' : Mt} {k f : Nat} (h : StepK il q x m m' k) (hx : Hd m k f) : Hd m' k f := by
  obtain ⟨y, y1, y2⟩ := hx
  obtain ⟨z, z1, z2, _⟩ := h.he y y1
  exact ⟨z, z1, z2.trans y2⟩
theorem StepK.hev {m m' : Mt} {b a : Nat} (h : StepK il q x m m' b) (hv : ∀ k, q.testBit k = true → x ∈ (nth m.vs k).vo) (hx : HeV x m b a) : HeV x m' b a := by
  obtain ⟨y, y1, y2, y3⟩ := hx
  obtain ⟨z, z1, z2, z3⟩ := h.he y y1
  refine ⟨z, z1, z2.trans y2, ?_⟩
  rcases z3 with rfl | rfl | ⟨rfl, hk⟩
  · exact y3
  · exact List.mem_singleton.2 rfl
  · exact hv _ hk
theorem StepK.hea {m m' : Mt} {b a : Nat} (h : StepK il q x m m' b) (hv : ∀ k, q.testBit k = true → x ∈ (nth m.vs k).ac) (hx : HeA x m b a) : HeA x m' b a := by
  obtain ⟨y, y1, y2, y3⟩ := hx
  obtain ⟨z, z1, z2, z3⟩ := h.he y y1
  refine ⟨z, z1, z2.trans y2, ?_⟩
  rcases z3 with rfl | rfl | ⟨rfl, hk⟩
  · exact y3
  · exact List.mem_singleton.2 rfl
  · exact hv _ hk
/-- A voter that has voted and has heard the liars. -/
def Rdy (il : Nat) (x : Cl) (m : Mt) (k : Nat) : Prop := x ∈ (nth m.vs k).vo ∧ ∀ f, il.testBit f = true → Hd m k f
theorem Rdy.step {m m' : Mt} {k : Nat} (h : StepK il q x m m' k) (hr : Rdy il x m k) : Rdy il x m' k := ⟨h.vo hr.1, fun f hf => h.hd (hr.2 f hf)⟩
theorem il_lt (C : CvC c il q x) : il < 1024 ∧ q < 1024 := by
  have := C.fc.len
  have := two_le (n := c.length) (by omega)
  have := C.hil
  have := C.hq
  omega
/-- One voter votes, and hears all liars. -/
theorem cvK_spec (C : CvC c il q x) {k : Nat} (hk : q.testBit k = true) {s : ScS} (h : CvI c il q x vs0 s.1) :
    CvI c il q x vs0 (cvK x il s k).1 ∧ Rdy il x (cvK x il s k).1 k ∧ ∀ j, Rdy il x s.1 j → Rdy il x (cvK x il s k).1 j := by
  obtain ⟨v1, v2, v3⟩ := cv_vote C h hk
  rw [← try_1] at v1 v2 v3
  have hi := (il_lt C).1
  have stepL : ∀ f ∈ nodesN il, ∀ s : ScS, CvI c il q x vs0 s.1 → CvI c il q x vs0 (tryS (lieP f k x) s).1 ∧ (∀ j, StepK il q x s.1 (tryS (lieP f k x) s).1 j) ∧ Hd (tryS (lieP f k x) s).1 k f := fun f hf s hs => by
    rw [try_1]
    obtain ⟨a, b, d⟩ := cv_lie C hs hk ((mem_nodes hi).1 hf)
    exact ⟨a, b, d⟩
  obtain ⟨g1, g2⟩ := fold_all (f := fun s f => tryS (lieP f k x) s) (I := fun s : ScS => CvI c il q x vs0 s.1 ∧ x ∈ (nth s.1.vs k).vo) (G := fun f s => Hd s.1 k f) (nodesN il) (tryS (votP k x) s)
    (fun f hf s hs => by
      obtain ⟨a, b, d⟩ := stepL f hf s hs.1
      exact ⟨⟨a, (b k).vo hs.2⟩, d⟩)
    (fun f g s hg hs hG => by
      obtain ⟨_, b, _⟩ := stepL g hg s hs.1
      exact (b k).hd hG) ⟨v1, v3⟩
  refine ⟨g1.1, ⟨g1.2, fun f hf => g2 f (.inl ((mem_nodes hi).2 hf))⟩, fun j hj => ?_⟩
  exact (fold_keep (f := fun s f => tryS (lieP f k x) s) (I := fun s : ScS => CvI c il q x vs0 s.1 ∧ Rdy il x s.1 j) (nodesN il) (tryS (votP k x) s) (fun f hf s hs => by
    obtain ⟨a, b, _⟩ := stepL f hf s hs.1
    exact ⟨a, hs.2.step (b j)⟩) ⟨v1, hj.step (v2 j)⟩).2
theorem cvV_spec (C : CvC c il q x) {s : ScS} (h : CvI c il q x vs0 s.1) : CvI c il q x vs0 (cvV x il (nodesN q) s).1 ∧ ∀ k, q.testBit k = true → Rdy il x (cvV x il (nodesN q) s).1 k := by
  have hq := (il_lt C).2
  obtain ⟨g1, g2⟩ := fold_all (f := cvK x il) (I := fun s : ScS => CvI c il q x vs0 s.1) (G := fun k s => Rdy il x s.1 k) (nodesN q) s
    (fun k hk s hs => by
      obtain ⟨a, b, _⟩ := cvK_spec C ((mem_nodes hq).1 hk) hs
      exact ⟨a, b⟩)
    (fun i j s hj hs hG => (cvK_spec C ((mem_nodes hq).1 hj) hs).2.2 i hG) h
  exact ⟨g1, fun k hk => g2 k (.inl ((mem_nodes hq).2 hk))⟩
/-- A round in which all members of a set tell all others. -/
theorem cvR_spec (hq : q < 1024) {J : Mt → Prop} {G : Nat → Nat → Mt → Prop} (h1 : ∀ m a b, q.testBit a = true → q.testBit b = true → J m → J (stpM m (sndP a b)) ∧ G a b (stpM m (sndP a b)))
    (h2 : ∀ m a b i j, q.testBit a = true → q.testBit b = true → J m → G i j m → G i j (stpM m (sndP a b))) {s : ScS} (h : J s.1) :
    J (cvR (nodesN q) s).1 ∧ ∀ a b, q.testBit a = true → q.testBit b = true → G a b (cvR (nodesN q) s).1 := by
  have inner : ∀ a, q.testBit a = true → ∀ s : ScS, J s.1 → (J (cvT (nodesN q) s a).1 ∧ ∀ b, q.testBit b = true → G a b (cvT (nodesN q) s a).1) ∧ ∀ i j, G i j s.1 → G i j (cvT (nodesN q) s a).1 := fun a ha s hs => by
    obtain ⟨g1, g2⟩ := fold_all (f := fun s b => tryS (sndP a b) s) (I := fun s : ScS => J s.1) (G := fun b s => G a b s.1) (nodesN q) s
      (fun b hb s hs => by
        rw [try_1]; exact h1 s.1 a b ha ((mem_nodes hq).1 hb) hs)
      (fun i j s hj hs hG => by
        show G a i (tryS (sndP a j) s).1
        rw [try_1]; exact h2 s.1 a j a i ha ((mem_nodes hq).1 hj) hs hG) hs
    refine ⟨⟨g1, fun b hb => g2 b (.inl ((mem_nodes hq).2 hb))⟩, fun i j hG => ?_⟩
    exact (fold_keep (f := fun s b => tryS (sndP a b) s) (I := fun s : ScS => J s.1 ∧ G i j s.1) (nodesN q) s (fun b hb s hs => by
      rw [try_1]
      exact ⟨(h1 s.1 a b ha ((mem_nodes hq).1 hb) hs.1).1, h2 s.1 a b i j ha ((mem_nodes hq).1 hb) hs.1 hs.2⟩) ⟨hs, hG⟩).2
  obtain ⟨g1, g2⟩ := fold_all (f := cvT (nodesN q)) (I := fun s : ScS => J s.1) (G := fun a s => ∀ b, q.testBit b = true → G a b s.1) (nodesN q) s
    (fun a ha s hs => (inner a ((mem_nodes hq).1 ha) s hs).1)
    (fun i j s hj hs hG b hb => (inner j ((mem_nodes hq).1 hj) s hs).2 i b (hG b hb)) h
  exact ⟨g1, fun a b ha hb => g2 a (.inl ((mem_nodes hq).2 ha)) b hb⟩
/-- In the view of a member that has heard all, the set and the liars are a quorum. -/
theorem cv_view (C : CvC c il q x) {m : Mt} (h : CvI c il q x vs0 m) (hs : ∀ k, q.testBit k = true → satT ((q ||| il : Nat) : Int) (nth c k).t = true) {k : Nat} (hk : q.testBit k = true) (hr : ∀ f, il.testBit f = true → Hd m k f)
    (hh : ∀ j, q.testBit j = true → j ≠ k → Hd m k j) : ClQ (viewF (nth m.vs k)) (q ||| il) := by
  have hi := il_lt C
  have ho : q ||| il < 1024 := or_lt10 hi.2 hi.1
  have h5 := C.fc.len
  have hkn : k < c.length := testBit_lt' C.hq hk
  have ok := h.I.ok.ok k hkn
  have nk := h.I.ok.nd k hkn
  have tk := h.I.inv.tr k hkn
  have hnk : (nth m.vs k).nd.toNat = k := by omega
  have hd : ∀ j, j < 10 → (nth (viewF (nth m.vs k)) j).decl = true → (declN (viewF (nth m.vs k))).testBit j = true := fun j hj e => by
    unfold declN
    rw [declTo_bit, viewV_len, e]; simpa using hj
  intro j hj
  rw [Nat.testBit_or, Bool.or_eq_true] at hj
  by_cases e : j = k
  · subst e
    have e2 := view_self ok
    rw [hnk] at e2
    exact ⟨hd j (by omega) (by rw [e2]), by rw [e2]; show satT _ (nth m.vs j).t = true; rw [tk]; exact hs j hk⟩
  · obtain ⟨y, y1, y2⟩ : Hd m k j := by
      rcases hj with hj | hj
      · exact hh j hj e
      · exact hr j hj
    have hyj : y.nd.toNat = j := by omega
    have e2 := view_at (n := c.length) (by omega) ok y1
    rw [hyj] at e2
    have hj10 : j < c.length := by
      rcases hj with hj | hj
      · exact testBit_lt' C.hq hj
      · exact testBit_lt' C.hil hj
    refine ⟨hd j (by omega) (by rw [e2]), ?_⟩
    rw [e2]
    show satT _ y.t = true
    rcases hj with hj | hj
    · have pa := h.I.inv.past k hkn y y1 (by rw [hyj, h.I.il]; exact C.dis j hj)
      rw [pa.t, hyj, h.I.inv.tr j hj10]
      exact hs j hj
    · have := h.lie k hk y y1 (by rw [hyj]; exact hj)
      rw [hyj] at this
      rw [this]
      show satT _ (aloT j) = true
      unfold aloT
      rw [List.map_singleton, sat_self ho (by omega), Nat.testBit_or, hj]
      simp
theorem say_v {v : Vo} {k : Nat} (h : v.nd.toNat = k) (hx : x ∈ v.vo) : (votS (v.he ++ [sayV v]) x).testBit k = true := mem_votS.2 ⟨sayV v, by simp, hx, h⟩
theorem say_a {v : Vo} {k : Nat} (h : v.nd.toNat = k) (hx : x ∈ v.ac) : (accS (v.he ++ [sayV v]) x).testBit k = true := mem_accS.2 ⟨sayV v, by simp, hx, h⟩
/-- Who has heard that all members of the set vote, accepts. -/
theorem cv_acc (C : CvC c il q x) {m : Mt} (h : CvI c il q x vs0 m) (hs : ∀ k, q.testBit k = true → satT ((q ||| il : Nat) : Int) (nth c k).t = true) {k : Nat} (hk : q.testBit k = true) (hr : Rdy il x m k)
    (hh : ∀ j, q.testBit j = true → j ≠ k → HeV x m k j) : x ∈ (nth m.vs k).ac := by
  have hi := il_lt C
  have ho : q ||| il < 1024 := or_lt10 hi.2 hi.1
  have h5 := C.fc.len
  have hkn : k < c.length := testBit_lt' C.hq hk
  have ok := h.I.ok.ok k hkn
  have nk := h.I.ok.nd k hkn
  have hnk : (nth m.vs k).nd.toNat = k := by omega
  have cl := cv_view C h hs hk hr.2 fun j hj hn => by
    obtain ⟨y, y1, y2, _⟩ := hh j hj hn
    exact ⟨y, y1, y2⟩
  have l1 : ∀ p : Ms → Bool, setM p ((nth m.vs k).he ++ [sayV (nth m.vs k)]) 0 < 1024 := fun p => he_lt (n := c.length) (by omega) ok p
  rcases Classical.em (x ∈ (nth m.vs k).ac) with e | e
  · exact e
  · exfalso
    have hn := nxt_none (h.I.inv.set k hkn) (x := x) (mem_know.2 ⟨C.ox, sayV (nth m.vs k), by simp, .inl hr.1⟩) e ok.ca fun y hy => by
      rw [(h.onl k hk).ac y hy]; exact ctr_self x
    have hg := great_keep (c := viewF (nth m.vs k)) (q := q ||| il) (s := votS ((nth m.vs k).he ++ [sayV (nth m.vs k)]) x ||| accS ((nth m.vs k).he ++ [sayV (nth m.vs k)]) x) ho (or_lt10 (l1 _) (l1 _)) cl (fun j hj => by
      rw [Nat.testBit_or, Bool.or_eq_true]
      left
      rw [Nat.testBit_or, Bool.or_eq_true] at hj
      by_cases ejk : j = k
      · rw [ejk]; exact say_v hnk hr.1
      · rcases hj with hj | hj
        · obtain ⟨y, y1, y2, y3⟩ := hh j hj ejk
          exact mem_votS.2 ⟨y, by simp [y1], y3, by omega⟩
        · obtain ⟨y, y1, y2⟩ := hr.2 j hj
          have hyj : y.nd.toNat = j := by omega
          have := h.lie k hk y y1 (by rw [hyj]; exact hj)
          exact mem_votS.2 ⟨y, by simp [y1], by rw [this]; exact List.mem_singleton.2 rfl, hyj⟩) k (by rw [Nat.testBit_or, hk]; rfl)
    unfold accN at hn
    rw [hnk, hg, Bool.or_true] at hn
    cases hn
/-- Who has heard that all members of the set accept, confirms. -/
theorem cv_con (C : CvC c il q x) {m : Mt} (h : CvI c il q x vs0 m) (hs : ∀ k, q.testBit k = true → satT ((q ||| il : Nat) : Int) (nth c k).t = true) {k : Nat} (hk : q.testBit k = true) (hr : Rdy il x m k) (ha : x ∈ (nth m.vs k).ac)
    (hh : ∀ j, q.testBit j = true → j ≠ k → HeA x m k j) : x ∈ (nth m.vs k).co := by
  have hi := il_lt C
  have ho : q ||| il < 1024 := or_lt10 hi.2 hi.1
  have h5 := C.fc.len
  have hkn : k < c.length := testBit_lt' C.hq hk
  have ok := h.I.ok.ok k hkn
  have nk := h.I.ok.nd k hkn
  have hnk : (nth m.vs k).nd.toNat = k := by omega
  have cl := cv_view C h hs hk hr.2 fun j hj hn => by
    obtain ⟨y, y1, y2, _⟩ := hh j hj hn
    exact ⟨y, y1, y2⟩
  have l1 : ∀ p : Ms → Bool, setM p ((nth m.vs k).he ++ [sayV (nth m.vs k)]) 0 < 1024 := fun p => he_lt (n := c.length) (by omega) ok p
  refine h.cmp k hkn x ha ?_
  unfold conN
  rw [hnk]
  refine great_keep (c := viewF (nth m.vs k)) (q := q ||| il) (s := accS ((nth m.vs k).he ++ [sayV (nth m.vs k)]) x) ho (l1 _) cl (fun j hj => ?_) k (by rw [Nat.testBit_or, hk]; rfl)
  rw [Nat.testBit_or, Bool.or_eq_true] at hj
  by_cases ejk : j = k
  · rw [ejk]; exact say_a hnk ha
  · rcases hj with hj | hj
    · obtain ⟨y, y1, y2, y3⟩ := hh j hj ejk
      exact mem_accS.2 ⟨y, by simp [y1], y3, by omega⟩
    · obtain ⟨y, y1, y2⟩ := hr.2 j hj
      have hyj : y.nd.toNat = j := by omega
      have := h.lie k hk y y1 (by rw [hyj]; exact hj)
      exact mem_accS.2 ⟨y, by simp [y1], by rw [this]; exact List.mem_singleton.2 rfl, hyj⟩
/-- The members of a set that satisfies them, with the liars, confirm. -/
theorem convince (C : CvC c il q x) (hs : ∀ k, q.testBit k = true → satT ((q ||| il : Nat) : Int) (nth c k).t = true) {s : ScS} (h : CvI c il q x vs0 s.1) :
    CvI c il q x vs0 (cnvF q il x s).1 ∧ ∀ k, q.testBit k = true → x ∈ (nth (cnvF q il x s).1.vs k).co := by
  have hq := (il_lt C).2
  obtain ⟨a1, a2⟩ := cvV_spec C h
  obtain ⟨b1, b2⟩ := cvR_spec hq (J := fun m => CvI c il q x vs0 m ∧ ∀ k, q.testBit k = true → Rdy il x m k) (G := fun a b m => a ≠ b → HeV x m b a)
    (fun m a b ha hb hm => by
      obtain ⟨g1, g2, g3⟩ := cv_snd C hm.1 ha hb
      exact ⟨⟨g1, fun k hk => (hm.2 k hk).step (g2 k)⟩, fun hab => (g3 hab).1 (hm.2 a ha).1⟩)
    (fun m a b i j ha hb hm hG hij => by
      obtain ⟨_, g2, _⟩ := cv_snd C hm.1 ha hb
      exact (g2 j).hev (fun k hk => (hm.2 k hk).1) (hG hij)) (s := cvV x il (nodesN q) s) ⟨a1, a2⟩
  have b3 : ∀ k, q.testBit k = true → x ∈ (nth (cvR (nodesN q) (cvV x il (nodesN q) s)).1.vs k).ac := fun k hk =>
    cv_acc C b1.1 hs hk (b1.2 k hk) fun j hj hn => b2 j k hj hk hn
  obtain ⟨d1, d2⟩ := cvR_spec hq (J := fun m => (CvI c il q x vs0 m ∧ ∀ k, q.testBit k = true → Rdy il x m k) ∧ ∀ k, q.testBit k = true → x ∈ (nth m.vs k).ac) (G := fun a b m => a ≠ b → HeA x m b a)
    (fun m a b ha hb hm => by
      obtain ⟨g1, g2, g3⟩ := cv_snd C hm.1.1 ha hb
      exact ⟨⟨⟨g1, fun k hk => (hm.1.2 k hk).step (g2 k)⟩, fun k hk => (g2 k).ac (hm.2 k hk)⟩, fun hab => (g3 hab).2 (hm.2 a ha)⟩)
    (fun m a b i j ha hb hm hG hij => by
      obtain ⟨_, g2, _⟩ := cv_snd C hm.1.1 ha hb
      exact (g2 j).hea hm.2 (hG hij)) (s := cvR (nodesN q) (cvV x il (nodesN q) s)) ⟨b1, b3⟩
  exact ⟨d1.1.1, fun k hk => cv_con C d1.1.1 hs hk (d1.1.2 k hk) (d1.2 k hk) fun j hj hn => d2 j k hj hk hn⟩
end
theorem beg_cv {c : List Mb} (hc : FullC c) {il q : Nat} {x : Cl} (C : CvC c il q x) : CvI c il q x (begV c c.length) ⟨begV c c.length, 0, il⟩ := by
  have hk : ∀ k, q.testBit k = true → k < c.length := fun k h => testBit_lt' C.hq h
  refine ⟨beg_I hc C.hil, fun k h => ?_, fun k h y hy => ?_, fun k h y hy => ?_, fun _ _ _ => rfl⟩
  · show Onl x (nth (begV c c.length) k)
    rw [begV_nth c (hk k h)]
    exact ⟨fun y hy => by simp at hy, fun y hy => by simp at hy, fun y hy => by simp at hy⟩
  · have hy : y ∈ (nth (begV c c.length) k).he := hy
    rw [begV_nth c (hk k h)] at hy; simp at hy
  · have hy : y ∈ (nth (begV c c.length) k).ac := hy
    rw [begV_nth c h] at hy; simp at hy
def splF (c : List Mb) (il a b : Nat) : ScS := cnvF b il (0, 1) (cnvF a il (0, 0) (⟨begV c c.length, 0, il⟩, []))
/-- Two quorums apart from each other, despite the liars: a script lets them contradict each other. -/
theorem split_law {c : List Mb} (hc : FullC c) {il a b : Nat} (hil : il < 2 ^ c.length) (ha : a < 1024) (hb : b < 1024) (qa : ClQ (delC c il) a) (qb : ClQ (delC c il) b) (hab : ∀ k, a.testBit k = true → b.testBit k = false) :
    MtI c il 0 (splF c il a b).1 ∧ (∀ k, a.testBit k = true → ((0, 0) : Cl) ∈ (nth (splF c il a b).1.vs k).co) ∧ ∀ k, b.testBit k = true → ((0, 1) : Cl) ∈ (nth (splF c il a b).1.vs k).co := by
  have h5 := hc.len
  have h10 := two_le (n := c.length) (by omega)
  have hi : il < 1024 := by omega
  rw [del_cl hc hi ha] at qa
  rw [del_cl hc hi hb] at qb
  have lt2 : ∀ q : Nat, (∀ k, q.testBit k = true → k < c.length) → q < 2 ^ c.length := fun q h => by
    rcases Nat.lt_or_ge q (2 ^ c.length) with e | e
    · exact e
    · obtain ⟨i, i1, i2⟩ := Nat.exists_ge_and_testBit_of_ge_two_pow e
      have := h i i2; omega
  have Ca : CvC c il a (0, 0) := ⟨hc, hil, lt2 a fun k hk => (qa k hk).1, fun k hk => (qa k hk).2.1, by decide⟩
  have Cb : CvC c il b (0, 1) := ⟨hc, hil, lt2 b fun k hk => (qb k hk).1, fun k hk => (qb k hk).2.1, by decide⟩
  obtain ⟨g1, g2⟩ := convince Ca (fun k hk => (qa k hk).2.2) (s := (⟨begV c c.length, 0, il⟩, [])) (beg_cv hc Ca)
  have new : ∀ k, b.testBit k = true → nth (cnvF a il (0, 0) (⟨begV c c.length, 0, il⟩, [])).1.vs k = ⟨(k : Int), 1, (nth c k).t, [], [], [], []⟩ := fun k hk => by
    have hkn := (qb k hk).1
    have e : a.testBit k = false := by
      cases e : a.testBit k
      · rfl
      · rw [hab k e] at hk; cases hk
    rw [g1.oth k hkn e, begV_nth c hkn]
  have c2 : CvI c il b (0, 1) (cnvF a il (0, 0) (⟨begV c c.length, 0, il⟩, [])).1.vs (cnvF a il (0, 0) (⟨begV c c.length, 0, il⟩, [])).1 := by
    refine ⟨g1.I, fun k hk => ?_, fun k hk y hy => ?_, g1.cmp, fun _ _ _ => rfl⟩
    · rw [new k hk]
      exact ⟨fun y hy => by simp at hy, fun y hy => by simp at hy, fun y hy => by simp at hy⟩
    · rw [new k hk] at hy; simp at hy
  obtain ⟨k1, k2⟩ := convince Cb (fun k hk => (qb k hk).2.2) c2
  refine ⟨k1.I, fun k hk => ?_, k2⟩
  have := k1.oth k (qa k hk).1 (hab k hk)
  show _ ∈ (nth (cnvF b il (0, 1) (cnvF a il (0, 0) (⟨begV c c.length, 0, il⟩, []))).1.vs k).co
  rw [this]
  exact g2 k hk
/-- The script that is written: its steps lead to the meeting. -/
structure Scr (m0 : Mt) (n : Nat) (s : ScS) (N : Nat) : Prop where
  run : runM s.2 m0 = s.1
  ok : ∀ p ∈ s.2, PlOK n p
  len : s.2.length ≤ N
  il : s.1.il = m0.il
theorem stp_il (m : Mt) (p : Pl) : (stpM m p).il = m.il := by
  unfold stpM stpF
  by_cases h1 : askF m p ≠ 0
  · rw [if_pos h1]
    by_cases h2 : askF m p = 0
    · exact absurd h2 h1
    · rw [if_neg h2]
  · rw [if_neg h1]
    by_cases h2 : (chgF m p).2.2 ≠ 0
    · rw [if_pos h2]
      by_cases h3 : (chgF m p).2.2 = 0
      · exact absurd h3 h2
      · rw [if_neg h3]
    · rw [if_neg h2, if_pos rfl]; rfl
theorem try_scr {m0 : Mt} {n N : Nat} {s : ScS} {p : Pl} (h : Scr m0 n s N) (hp : PlOK n p) : Scr m0 n (tryS p s) (N + 1) := by
  have e := try_1 p s
  have hl := h.len
  have hil : (tryS p s).1.il = m0.il := by rw [e, stp_il]; exact h.il
  by_cases q : (stpF s.1 p).2 = 0
  · have e2 : tryS p s = ((stpF s.1 p).1, s.2 ++ [p]) := by unfold tryS; rw [if_pos q]
    refine ⟨by rw [e, e2]; show runM (s.2 ++ [p]) m0 = _; rw [runM_snoc, h.run], fun y hy => ?_, by rw [e2]; simp only [List.length_append, List.length_singleton]; omega, hil⟩
    rw [e2] at hy
    rcases List.mem_append.1 hy with hy | hy
    · exact h.ok y hy
    · rw [List.mem_singleton.1 hy]; exact hp
  · have e2 : tryS p s = s := by unfold tryS; rw [if_neg q]
    rw [e2]
    exact ⟨h.run, h.ok, by omega, h.il⟩
theorem fold_scr {m0 : Mt} {n d : Nat} {f : ScS → Nat → ScS} : ∀ (l : List Nat) (s : ScS) (N : Nat), (∀ i ∈ l, ∀ s N, Scr m0 n s N → Scr m0 n (f s i) (N + d)) → Scr m0 n s N → Scr m0 n (l.foldl f s) (N + d * l.length)
  | [], s, N, _, h => by simpa using h
  | i :: r, s, N, h1, h => by
    have := fold_scr r (f s i) (N + d) (fun j hj => h1 j (by simp [hj])) (h1 i (by simp) s N h)
    rw [List.foldl_cons, List.length_cons, Nat.mul_add, Nat.mul_one, show N + (d * r.length + d) = N + d + d * r.length by omega]
    exact this
theorem nodes_five {q : Nat} (h : q < 32) : (nodesN q).length ≤ 5 := by
  have : ∀ q ∈ List.range 32, (nodesN q).length ≤ 5 := by decide +kernel
  exact this q (List.mem_range.2 h)
theorem Scr.up {m0 : Mt} {n N M : Nat} {s : ScS} (h : Scr m0 n s N) (hm : N ≤ M) : Scr m0 n s M := ⟨h.run, h.ok, Nat.le_trans h.len hm, h.il⟩
theorem cvR_scr {m0 : Mt} {c : List Mb} {il q : Nat} {x : Cl} (C : CvC c il q x) {s : ScS} {N : Nat} (h : Scr m0 c.length s N) : Scr m0 c.length (cvR (nodesN q) s) (N + 25) := by
  have h5 := C.fc.len
  have hq := (il_lt C).2
  have hq5 : q < 32 := Nat.lt_of_lt_of_le C.hq (Nat.pow_le_pow_right (by decide) h5)
  have hl := nodes_five hq5
  have hn : ∀ k ∈ nodesN q, k < c.length := fun k hk => testBit_lt' C.hq ((mem_nodes hq).1 hk)
  have := fold_scr (m0 := m0) (n := c.length) (d := 5) (f := cvT (nodesN q)) (nodesN q) s N (fun a ha s N hs => by
    have := fold_scr (m0 := m0) (n := c.length) (d := 1) (f := fun s b => tryS (sndP a b) s) (nodesN q) s N (fun b hb s N hs => try_scr hs (snd_ok (hn a ha) (hn b hb))) hs
    exact this.up (by omega)) h
  exact this.up (by omega)
theorem cvV_scr {m0 : Mt} {c : List Mb} {il q : Nat} {x : Cl} (C : CvC c il q x) {s : ScS} {N : Nat} (h : Scr m0 c.length s N) : Scr m0 c.length (cvV x il (nodesN q) s) (N + 30) := by
  have h5 := C.fc.len
  have hq := il_lt C
  have hq5 : q < 32 := Nat.lt_of_lt_of_le C.hq (Nat.pow_le_pow_right (by decide) h5)
  have hi5 : il < 32 := Nat.lt_of_lt_of_le C.hil (Nat.pow_le_pow_right (by decide) h5)
  have hl := nodes_five hq5
  have hl2 := nodes_five hi5
  have := fold_scr (m0 := m0) (n := c.length) (d := 6) (f := cvK x il) (nodesN q) s N (fun k hk s N hs => by
    have hkq := (mem_nodes hq.2).1 hk
    have := fold_scr (m0 := m0) (n := c.length) (d := 1) (f := fun s f => tryS (lieP f k x) s) (nodesN il) (tryS (votP k x) s) (N + 1) (fun f hf s N hs => try_scr hs (lie_pl C hkq ((mem_nodes hq.1).1 hf))) (try_scr hs (vot_pl C hkq))
    exact this.up (by omega)) h
  exact this.up (by omega)
theorem cnv_scr {m0 : Mt} {c : List Mb} {il q : Nat} {x : Cl} (C : CvC c il q x) {s : ScS} {N : Nat} (h : Scr m0 c.length s N) : Scr m0 c.length (cnvF q il x s) (N + 80) :=
  (cvR_scr C (cvR_scr C (cvV_scr C h))).up (by omega)
end Go.Proofs.YtdhogcklnehdhaaGreatDoor
namespace Go.Proofs.YtdhogcklnehdhaaGreatDoor
set_option linter.unusedSimpArgs false
set_option linter.unusedVariables false
set_option linter.unnecessarySimpa false
set_option linter.unusedSectionVars false
set_option maxRecDepth 100000
open Go Go.RowKit Go.Am Go.Proofs.Grow
theorem delI_eq (b : Int) : ∀ (l : List Int) (k : Int) (o : List Int), 0 ≤ k → delI b l k o = (max (k - (l.countP fun x => hasB b x)) 0, o ++ l.filter fun x => !hasB b x)
  | [], k, o, h => by simp [delI]; omega
  | x :: l, k, o, h => by
    cases hb : hasB b x with
    | true =>
      rw [delI, hb, if_pos rfl, delI_eq b l _ _ (by rw [low_max h]; omega), low_max h, List.countP_cons, hb, List.filter_cons, hb]
      simp only [Bool.not_true, Bool.false_eq_true, if_false, if_true]
      congr 1; omega
    | false =>
      rw [delI, hb, if_neg (by simp), delI_eq b l _ _ h, List.countP_cons, hb, List.filter_cons, hb]
      simp
def keT (b : Int) (l : List Tr) : List Tr := (l.map (delT b)).filter fun t => decide (t.k ≠ 0)
def zeT (b : Int) (l : List Tr) : Nat := (l.map (delT b)).countP fun t => decide (t.k = 0)
theorem delL_eq (b : Int) : ∀ (l : List Tr) (k : Int) (ns : List Int) (o : List Tr), 0 ≤ k → delL b l k ns o = .mk (max (k - (zeT b l : Int)) 0) ns (o ++ keT b l)
  | [], k, ns, o, h => by simp [delL, keT, zeT]; omega
  | t :: l, k, ns, o, h => by
    unfold keT zeT
    rw [List.map_cons, List.countP_cons, List.filter_cons]
    by_cases e : (delT b t).k = 0
    · rw [delL, if_pos e, delL_eq b l _ _ _ (by rw [low_max h]; omega), low_max h]
      simp only [e, decide_true, if_true, ne_eq, not_true_eq_false, decide_false, Bool.false_eq_true, if_false]
      show Tr.mk (max (max (k - 1) 0 - (zeT b l : Int)) 0) ns (o ++ keT b l) = Tr.mk (max (k - ((zeT b l + 1 : Nat) : Int)) 0) ns (o ++ keT b l)
      congr 1; omega
    · rw [delL, if_neg e, delL_eq b l _ _ _ h]
      simp only [e, ne_eq, not_false_eq_true, decide_true, if_true, decide_false, Bool.false_eq_true, if_false, Nat.add_zero]
      show Tr.mk (max (k - (zeT b l : Int)) 0) ns (o ++ [delT b t] ++ keT b l) = Tr.mk (max (k - (zeT b l : Int)) 0) ns (o ++ delT b t :: keT b l)
      rw [List.append_assoc]; rfl
theorem delT_sp (b k : Int) (ns : List Int) (is : List Tr) : delT b (.mk k ns is) = .mk (max (max (mxI k 0 - (ns.countP fun x => hasB b x)) 0 - (zeT b is : Int)) 0) (ns.filter fun x => !hasB b x) (keT b is) := by
  have h0 : 0 ≤ mxI k 0 := by unfold mxI; split <;> omega
  rw [delT, delI_eq b ns _ _ h0]
  dsimp only
  rw [delL_eq b is _ _ _ (by omega), List.nil_append, List.nil_append]
theorem count_not {α : Type} (p : α → Bool) : ∀ l : List α, l.countP p + (l.filter fun x => !p x).length = l.length
  | [] => rfl
  | x :: r => by
    have := count_not p r
    rw [List.countP_cons, List.filter_cons]
    cases p x
    · simp only [Bool.false_eq_true, if_false, Bool.not_false, if_true, List.length_cons]; omega
    · simp only [if_true, Bool.not_true, Bool.false_eq_true, if_false, List.length_cons]; omega
theorem zeT_len (b : Int) (l : List Tr) : zeT b l + (keT b l).length = l.length := by
  have := count_not (fun t : Tr => decide (t.k = 0)) (l.map (delT b))
  rw [List.length_map] at this
  unfold zeT keT
  have e : (fun t : Tr => decide (t.k ≠ 0)) = fun t : Tr => !decide (t.k = 0) := by funext t; simp
  rw [e]; exact this
/-- Fewer nodes, smaller sets: no fault comes up. -/
theorem ofI_sub (q : Int → Bool) : ∀ (l : List Int) (a c : Nat), a < 1024 → c < 1024 → (∀ k, c.testBit k = true → a.testBit k = true) → (ofI l (a : Int)).2 = 0 → (ofI (l.filter q) (c : Int)).2 = 0
  | [], _, _, _, _, _, _ => rfl
  | x :: r, a, c, ha, hc, hs, h => by
    rw [ofI] at h
    cases hn : nodeB x with
    | false => rw [if_pos hn] at h; cases h
    | true =>
      rw [if_neg (by simp [hn])] at h
      obtain ⟨j, rfl⟩ : ∃ j : Nat, x = (j : Int) := ⟨x.toNat, by simp [nodeB] at hn; omega⟩
      have hj : j < 10 := by simp [nodeB] at hn; omega
      have hp := pow_lt (k := j) hj
      rw [has_nat ha hj] at h
      cases hb : a.testBit j with
      | true => rw [if_pos hb] at h; cases h
      | false =>
        rw [if_neg (by simp [hb]), shl_nat (by omega), bor_nat (by omega) (by omega)] at h
        have ha2 := or_lt10 ha hp
        rw [List.filter_cons]
        cases q (j : Int) with
        | false =>
          rw [if_neg (by simp)]
          refine ofI_sub q r _ c ha2 hc (fun k hk => ?_) h
          rw [Nat.testBit_or, hs k hk]; rfl
        | true =>
          rw [if_pos rfl, ofI, if_neg (by simp [hn]), has_nat hc hj]
          have hcj : c.testBit j = false := by
            cases e : c.testBit j
            · rfl
            · rw [hs j e] at hb; cases hb
          rw [if_neg (by simp [hcj]), shl_nat (by omega), bor_nat (by omega) (by omega)]
          refine ofI_sub q r _ _ ha2 (or_lt10 hc hp) (fun k hk => ?_) h
          rw [Nat.testBit_or, Bool.or_eq_true] at hk ⊢
          exact hk.imp (hs k) id
theorem lev_of {k : Int} {ns : List Int} {is : List Tr} (h1 : 1 ≤ k) (h2 : k ≤ (ns.length : Int) + (is.length : Int)) (h3 : ∀ x ∈ ns, nodeB x = true) (h4 : (ofI ns 0).2 = 0) (h5 : levL is = 0) : levT (.mk k ns is) = 0 := by
  rw [levT, if_neg (by omega)]
  have e : idxF (fun k => !nodeB k) 0 ns = -1 := idx_no h3 0
  rw [e, if_neg (by simp), if_neg (by simp [h4])]
  exact h5
theorem lev_of4 {k : Int} {ns : List Int} {is : List Tr} (h : levT (.mk k ns is) = 0) : (ofI ns 0).2 = 0 := by
  rw [levT] at h
  split at h
  · cases h
  split at h
  · cases h
  split at h
  · exact h
  · rename_i e; simpa using e
theorem levL_mem : ∀ {l : List Tr}, levL l = 0 → ∀ t ∈ l, levT t = 0
  | [], _, t, ht => by simp at ht
  | x :: r, h, t, ht => by
    rw [levL] at h
    split at h
    · rename_i e; exact absurd h e
    · rename_i e
      rcases List.mem_cons.1 ht with rfl | ht
      · simpa using e
      · exact levL_mem h t ht
mutual
theorem lev_del (b : Int) : ∀ t : Tr, levT t = 0 → (delT b t).k ≠ 0 → levT (delT b t) = 0
  | .mk k ns is, h, hk => by
    obtain ⟨⟨h1, h2⟩, h3, h4⟩ := lev_parts h
    simp only [Tr.k, Tr.ns, Tr.is] at h1 h2 h3 h4
    have h5 := lev_of4 h
    have hl := levL_del b is h4
    rw [delT_sp] at hk ⊢
    simp only [Tr.k] at hk
    have c1 := count_not (fun x => hasB b x) ns
    have c2 := zeT_len b is
    have hm : mxI k 0 = k := by unfold mxI; rw [if_neg (by omega)]
    rw [hm] at hk ⊢
    refine lev_of (by omega) (by omega) (fun x hx => h3 x ((List.mem_filter.1 hx).1)) ?_ ?_
    · have := ofI_sub (fun x => !hasB b x) ns 0 0 (by decide) (by decide) (fun k hk => hk) h5
      exact this
    · exact levL_all hl
theorem levL_del (b : Int) : ∀ l : List Tr, levL l = 0 → ∀ u ∈ keT b l, levT u = 0
  | [], _, u, hu => by simp [keT] at hu
  | t :: r, h, u, hu => by
    have ht : levT t = 0 := levL_mem h t (by simp)
    have hr : levL r = 0 := levL_all fun y hy => levL_mem h y (by simp [hy])
    have i1 := lev_del b t ht
    have i2 := levL_del b r hr
    unfold keT at hu
    rw [List.map_cons, List.filter_cons] at hu
    split at hu
    · rename_i e
      rcases List.mem_cons.1 hu with rfl | hu
      · exact i1 (by simpa using e)
      · exact i2 u hu
    · exact i2 u hu
end
theorem depL_mono : ∀ (l : List Tr) (a c : Int), a ≤ c → depL l a ≤ depL l c
  | [], _, _, h => h
  | t :: r, a, c, h => by
    rw [depL, depL]
    refine depL_mono r _ _ ?_
    unfold mxI
    split <;> split <;> omega
mutual
theorem dep_del (b : Int) : ∀ t : Tr, depT (delT b t) ≤ depT t
  | .mk k ns is => by
    have := depL_del b is 0 0 (Int.le_refl _)
    rw [delT_sp, depT, depT]
    omega
theorem depL_del (b : Int) : ∀ (l : List Tr) (a c : Int), a ≤ c → depL (keT b l) a ≤ depL l c
  | [], _, _, h => h
  | t :: r, a, c, h => by
    have i1 := dep_del b t
    unfold keT
    rw [List.map_cons, List.filter_cons, depL]
    split
    · rw [depL]
      refine depL_del b r _ _ ?_
      unfold mxI
      split <;> split <;> omega
    · refine depL_del b r _ _ ?_
      unfold mxI
      split <;> omega
end
mutual
theorem uses_del (b : Int) (p : Int → Bool) : ∀ t : Tr, usesB p t = true → usesB p (delT b t) = true
  | .mk k ns is, h => by
    rw [usesB, Bool.and_eq_true] at h
    have := usesL_del b p is h.2
    rw [delT_sp, usesB, Bool.and_eq_true]
    exact ⟨List.all_eq_true.2 fun x hx => List.all_eq_true.1 h.1 x ((List.mem_filter.1 hx).1), this⟩
theorem usesL_del (b : Int) (p : Int → Bool) : ∀ l : List Tr, usesL p l = true → usesL p (keT b l) = true
  | [], _ => rfl
  | t :: r, h => by
    rw [usesL, Bool.and_eq_true] at h
    have i1 := uses_del b p t h.1
    have i2 := usesL_del b p r h.2
    unfold keT
    rw [List.map_cons, List.filter_cons]
    split
    · rw [usesL, i1]; exact i2
    · exact i2
end
mutual
theorem use_lt {n : Nat} (hn : n ≤ 10) : ∀ t : Tr, usesB (inNn n) t = true → ∃ b : Nat, useT t = (b : Int) ∧ b < 2 ^ n
  | .mk k ns is, h => by
    rw [usesB, Bool.and_eq_true] at h
    obtain ⟨b, h1, h2⟩ := useI_lt hn ns 0 (fun x hx => by
      have := List.all_eq_true.1 h.1 x hx
      simp only [inNn, Bool.and_eq_true, decide_eq_true_eq] at this
      omega) (Nat.pow_pos (by decide))
    have h3 := usesL_lt hn is h.2
    rw [useT, show (0 : Int) = ((0 : Nat) : Int) from rfl, h1]
    exact useL_lt hn is b h3 h2
theorem usesL_lt {n : Nat} (hn : n ≤ 10) : ∀ l : List Tr, usesL (inNn n) l = true → ∀ x ∈ l, ∃ b : Nat, useT x = (b : Int) ∧ b < 2 ^ n
  | [], _, x, hx => by simp at hx
  | t :: r, h, x, hx => by
    rw [usesL, Bool.and_eq_true] at h
    rcases List.mem_cons.1 hx with e | hx
    · rw [e]; exact use_lt hn t h.1
    · exact usesL_lt hn r h.2 x hx
end
theorem del_fit {n k : Nat} {t : Tr} (hn : n ≤ 10) (hk : k < n) (b : Int) (h : FitT n t) : FitT n (dtrT b k t) := by
  unfold dtrT
  split
  · exact one_fit hn ⟨by omega, by omega⟩
  · rename_i e
    obtain ⟨s1, s2⟩ := chk_lev h.chk
    have hd := dep_del b t
    have hz := del_siz b t
    have hdt : depT t ≤ 4 := by
      have := h.chk
      unfold chkT at this
      split at this
      · cases this
      · omega
    obtain ⟨u, u1, u2⟩ := use_lt hn (delT b t) (uses_del b _ t h.uses)
    refine ⟨?_, by rw [u1]; omega⟩
    unfold chkT
    rw [if_neg (by omega)]
    exact lev_del b t s2 e
theorem del_valid {c : List Mb} (hc : FullC c) (b : Nat) : valC (delC c b) = 0 := by
  have h5 := hc.len
  refine valL_all fun x hx => ?_
  obtain ⟨k, hk, rfl⟩ := List.mem_iff_getElem.1 hx
  rw [← nth_getElem _ k hk]
  rw [delTo_len] at hk ⊢
  rw [delTo_nth hk]
  have hf : FitM c.length (delM b k (nth c k)) := by
    unfold delM
    split
    · exact .inl rfl
    · rw [if_pos (hc.decl k hk)]
      exact .inr ⟨rfl, del_fit (by omega) hk b (hc.fit k hk)⟩
  exact hf.small.2.2
end Go.Proofs.YtdhogcklnehdhaaGreatDoor
namespace Go.Proofs.YtdhogcklnehdhaaGreatDoor
set_option linter.unusedSimpArgs false
set_option linter.unusedVariables false
set_option linter.unnecessarySimpa false
set_option linter.unusedSectionVars false
set_option maxRecDepth 100000
open Go Go.RowKit Go.Am Go.Proofs.Grow
inductive Tc where
  | mk (k n : Int) (ks : List Tc)
instance : Inhabited Tc := ⟨.mk 0 0 []⟩
mutual
def rTc : Tc → List D
  | .mk k n ks => [dI k, dI n, .rows 3 (rTcs ks)]
def rTcs : List Tc → List (List D)
  | [] => []
  | t :: r => rTc t :: rTcs r
end
theorem rTcs_map : ∀ l : List Tc, rTcs l = l.map rTc
  | [] => by simp [rTcs]
  | t :: r => by rw [rTcs, rTcs_map r]; rfl
abbrev aTk (k n : Int) (ks : List Tc) : AV := .agg [vI k, vI n, .d (.rows 3 (ks.map rTc))]
def Tc.k : Tc → Int | .mk k _ _ => k
def Tc.n : Tc → Int | .mk _ n _ => n
def Tc.ks : Tc → List Tc | .mk _ _ ks => ks
abbrev aTc (t : Tc) : AV := aTk t.k t.n t.ks
theorem rTc_mk (k n : Int) (ks : List Tc) : rTc (.mk k n ks) = [dI k, dI n, .rows 3 (ks.map rTc)] := by rw [rTc, rTcs_map]
theorem rTc_eq (t : Tc) : rTc t = [dI t.k, dI t.n, .rows 3 (t.ks.map rTc)] := by cases t; exact rTc_mk _ _ _
/-- What is left without some nodes. -/
def ltN (d : List Mb) (e : Nat) : Nat := (greatN d (andn (memN d) e)).1
def nonN (d : List Mb) (r e : Nat) : Bool := ltN d e == 0 || !(andn r (ltN d e) == 0)
def aloN (d : List Mb) (r : Nat) : Bool := ltN d r == 0
def picN (d : List Mb) (r e : Nat) : Nat := nth (nodesN (andn (ltN d e) r)) 0
def proF (d : List Mb) : Nat → Nat → Nat → Tc
  | 0, _, _ => .mk 0 0 []
  | f + 1, r, e => if nonN d r e = true then .mk 1 0 [] else if aloN d r = true then .mk 2 0 [] else .mk 3 (picN d r e : Int) [proF d f r (e ||| 2 ^ picN d r e), proF d f (r ||| 2 ^ picN d r e) e]
def sizF (d : List Mb) : Nat → Nat → Nat → Int
  | 0, _, _ => 1
  | f + 1, r, e => if nonN d r e = true then 1 else if aloN d r = true then 1 else 1 + sizF d f r (e ||| 2 ^ picN d r e) + sizF d f (r ||| 2 ^ picN d r e) e
/-- How many nodes are free. -/
def freN (n r e : Nat) : Nat := (List.range n).countP fun k => !r.testBit k && !e.testBit k
theorem ltN_lt {d : List Mb} (hl : d.length ≤ 10) (e : Nat) : ltN d e < 1024 := great_lt d (andn_lt10 (mem_lt hl))
theorem sizF_bd (d : List Mb) : ∀ f r e, 1 ≤ sizF d f r e ∧ sizF d f r e ≤ 2 ^ (f + 1) - 1
  | 0, _, _ => by simp [sizF]
  | f + 1, r, e => by
    have h : (1 : Int) ≤ 2 ^ (f + 1) := by exact_mod_cast Nat.one_le_two_pow
    have e2 : (2 : Int) ^ (f + 1 + 1) = 2 * 2 ^ (f + 1) := by rw [Int.pow_succ]; omega
    rw [sizF, e2]
    split
    · omega
    split
    · omega
    · have h1 := sizF_bd d f r (e ||| 2 ^ picN d r e)
      have h2 := sizF_bd d f (r ||| 2 ^ picN d r e) e
      omega
/-- The node that is picked: it is free. -/
theorem pic_spec {d : List Mb} (hl : d.length ≤ 10) (hm : MeetC d) {r e : Nat} (hr : r < 1024) (h1 : nonN d r e = false) (h2 : aloN d r = false) :
    (nodesN (andn (ltN d e) r)).length ≠ 0 ∧ picN d r e < d.length ∧ r.testBit (picN d r e) = false ∧ e.testBit (picN d r e) = false := by
  have g1 := ltN_lt hl e
  have g2 := ltN_lt hl r
  have ha := andn_lt10 (b := r) g1
  have hmm := mem_lt hl
  unfold nonN at h1
  unfold aloN at h2
  rw [Bool.or_eq_false_iff, Bool.not_eq_false', beq_iff_eq, beq_eq_false_iff_ne] at h1
  rw [beq_eq_false_iff_ne] at h2
  have c1 : ClQ d (ltN d e) := great_cl (andn_lt10 hmm)
  have c2 : ClQ d (ltN d r) := great_cl (andn_lt10 hmm)
  have hne : andn (ltN d e) r ≠ 0 := fun h0 => by
    obtain ⟨k, k1, k2⟩ := hm (ltN d e) (ltN d r) h1.1 h2 g1 g2 c1 c2
    have k3 := sub_bit h0 k1
    have k4 := great_sub k2
    rw [andn_bit, k3] at k4
    simp at k4
  have hlen : (nodesN (andn (ltN d e) r)).length ≠ 0 := fun h0 => by
    obtain ⟨k, hk⟩ := bit_ne hne
    have := (mem_nodes ha).2 hk
    rw [List.eq_nil_of_length_eq_zero h0] at this
    simp at this
  have hin : (andn (ltN d e) r).testBit (picN d r e) = true := (mem_nodes ha).1 (nth_mem _ 0 (by omega))
  rw [andn_bit, Bool.and_eq_true, Bool.not_eq_true'] at hin
  have h5 := great_sub (c := d) (s := andn (memN d) e) hin.1
  rw [andn_bit, Bool.and_eq_true, Bool.not_eq_true', mem_bit, decide_eq_true_eq] at h5
  exact ⟨hlen, h5.1, hin.2, h5.2⟩
theorem count_lt {α : Type} (p q : α → Bool) : ∀ l : List α, (∀ x ∈ l, q x = true → p x = true) → (∃ x ∈ l, p x = true ∧ q x = false) → l.countP q < l.countP p
  | [], _, ⟨x, hx, _⟩ => by simp at hx
  | y :: r, h, ⟨x, hx, h1, h2⟩ => by
    rw [List.countP_cons, List.countP_cons]
    have hle : r.countP q ≤ r.countP p := List.countP_mono_left fun z hz hq => h z (by simp [hz]) hq
    rcases List.mem_cons.1 hx with rfl | hx
    · rw [h1, h2]; simp; omega
    · have := count_lt p q r (fun z hz => h z (by simp [hz])) ⟨x, hx, h1, h2⟩
      have hy := h y (by simp)
      cases e : q y
      · simp; split <;> omega
      · rw [hy e]; simp; omega
theorem fre_step {n r e k : Nat} (hk : k < n) (h1 : r.testBit k = false) (h2 : e.testBit k = false) : freN n r (e ||| 2 ^ k) < freN n r e ∧ freN n (r ||| 2 ^ k) e < freN n r e := by
  constructor
  · refine count_lt _ _ _ (fun x _ hq => ?_) ⟨k, List.mem_range.2 hk, by rw [h1, h2]; rfl, by rw [Nat.testBit_or, Nat.testBit_two_pow_self]; simp⟩
    rw [Nat.testBit_or] at hq
    cases a : r.testBit x <;> cases b : e.testBit x <;> simp_all
  · refine count_lt _ _ _ (fun x _ hq => ?_) ⟨k, List.mem_range.2 hk, by rw [h1, h2]; rfl, by rw [Nat.testBit_or, Nat.testBit_two_pow_self]; simp⟩
    rw [Nat.testBit_or] at hq
    cases a : r.testBit x <;> cases b : e.testBit x <;> simp_all
theorem fre_len (n r e : Nat) : freN n r e ≤ n := by
  unfold freN
  have := List.countP_le_length (p := fun k : Nat => !r.testBit k && !e.testBit k) (l := List.range n)
  rwa [List.length_range] at this
theorem non_m (d : List Mb) (r e : Nat) (hd : OkC d) (hb : r < 1024 ∧ e < 1024) : FnM Tryz.prog 123 [] [aCf d, vI (r : Int), vI (e : Int)] (vB (nonN d r e)) [] := by
  obtain ⟨hr, he⟩ := hb
  have hm := mem_lt hd.len
  have ha : andn (memN d) e < 1024 := andn_lt10 hm
  have hg := ltN_lt hd.len e
  have hg2 : andn r (ltN d e) < 1024 := andn_lt10 hr
  unfold ltN at hg hg2
  unfold nonN ltN
  generalize hG : (greatN d (andn (memN d) e)).1 = G at *
  have gr := great_m d (andn (memN d) e) hd ha
  rw [hG] at gr
  have greZ_m := gr
  by_cases h : G = 0
  · have t1 : ((G : Int) == 0) = true := by simp [h]
    refine FnM.of htb Tryz.func123 rfl rfl rfl rfl rfl fun cx hN h0 => ?_
    (repeat' (first | ((with_reducible apply WD_id); first | (refine WD_nxt htb (by exact rfl) ?_) | (refine WD_call (by exact rfl) ?_; first | (refine WD_c0 (mbsC_m _ ?_) ?_; (exact hyp)) | (refine WD_c0 (greZ_m) ?_)) | (refine WD_eq (bnotN_step rfl rfl rfl) ?_) | (refine WD_t (by exact rfl) (by exact rfl) (by exact known) fun hb => ?_; rw [hb]; clear hb) | (refine WD_f (by exact rfl) (by exact rfl) (by exact known) fun hb => ?_; rw [hb]; clear hb)) | (refine ct ?_) | (with_reducible apply WA_block)))
    exact gE (.inr rfl) rfl (congrArg vB (by simp [h])) trivial
  · have t1 : ((G : Int) == 0) = false := by rw [beq_eq_false_iff_ne]; omega
    refine FnM.of htb Tryz.func123 rfl rfl rfl rfl rfl fun cx hN h0 => ?_
    (repeat' (first | ((with_reducible apply WD_id); first | (refine WD_nxt htb (by exact rfl) ?_) | (refine WD_call (by exact rfl) ?_; first | (refine WD_c0 (mbsC_m _ ?_) ?_; (exact hyp)) | (refine WD_c0 (greZ_m) ?_)) | (refine WD_eq (bnotN_step rfl rfl rfl) ?_) | (refine WD_t (by exact rfl) (by exact rfl) (by exact known) fun hb => ?_; rw [hb]; clear hb) | (refine WD_f (by exact rfl) (by exact rfl) (by exact known) fun hb => ?_; rw [hb]; clear hb)) | (refine ct ?_) | (with_reducible apply WA_block)))
    refine gE (.inr rfl) rfl (congrArg vB ?_) trivial
    rw [show (G == 0) = false by simpa using h, Bool.false_or, Bool.eq_iff_iff, bne_iff_ne, Bool.not_eq_true', beq_eq_false_iff_ne]
    omega
theorem alo_m (d : List Mb) (r : Nat) (hd : OkC d) (hr : r < 1024) : FnM Tryz.prog 124 [] [aCf d, vI (r : Int)] (vB (aloN d r)) [] := by
  have hm := mem_lt hd.len
  have ha : andn (memN d) r < 1024 := andn_lt10 hm
  refine FnM.of htb Tryz.func124 rfl rfl rfl rfl rfl fun cx hN h0 => ?_
  (repeat' (first | ((with_reducible apply WD_id); first | (refine WD_nxt htb (by exact rfl) ?_) | (refine WD_call (by exact rfl) ?_; first | (refine WD_c0 (mbsC_m _ ?_) ?_; (exact hyp)) | (refine WD_c0 (great_m _ _ ?_ ?_) ?_; (exact hyp); (exact hyp))) | (refine WD_eq (bnotN_step rfl rfl rfl) ?_)) | (refine ct ?_) | (with_reducible apply WA_block)))
  refine gE (.inr rfl) rfl (congrArg vB ?_) trivial
  unfold aloN ltN
  rw [Bool.eq_iff_iff, beq_iff_eq, beq_iff_eq]
  omega
end Go.Proofs.YtdhogcklnehdhaaGreatDoor
namespace Go.Proofs.YtdhogcklnehdhaaGreatDoor
set_option linter.unusedSimpArgs false
set_option linter.unusedVariables false
set_option linter.unnecessarySimpa false
set_option linter.unusedSectionVars false
set_option maxRecDepth 100000
open Go Go.RowKit Go.Am Go.Proofs.Grow
def rC (x : Cl) : List D := [dI x.1, dI x.2]
abbrev aC (x : Cl) : AV := .agg [vI x.1, vI x.2]
abbrev lC (l : List Cl) : AV := .d (.rows 2 (l.map rC))
section
variable {o : Oper} {T : Nat → Option AV} {M : Nat → Option AO} {x y : Operand} {t' : TypeId} {a b : Cl}
theorem eqC_step (ho : o.op = .binOp .eql 86 x y t') (hx : evA T x = some (aC a)) (hy : evA T y = some (aC b)) : StepOK Tryz.prog o T M ⟨vB (decide (a = b)), [], []⟩ :=
  step_eq (us := [.int .i64 a.1, .int .i64 a.2]) (vs := [.int .i64 b.1, .int .i64 b.2]) ho hx hy rfl rfl fun x y w => by
    obtain ⟨a1, a2⟩ := a
    obtain ⟨b1, b2⟩ := b
    by_cases h1 : a1 = b1 <;> by_cases h2 : a2 = b2 <;> simp [eqGuard, go_sem, h1, h2]
theorem neC_step (ho : o.op = .binOp .neq 86 x y t') (hx : evA T x = some (aC a)) (hy : evA T y = some (aC b)) : StepOK Tryz.prog o T M ⟨vB (!decide (a = b)), [], []⟩ :=
  step_neq (us := [.int .i64 a.1, .int .i64 a.2]) (vs := [.int .i64 b.1, .int .i64 b.2]) ho hx hy rfl rfl fun x y w => by
    obtain ⟨a1, a2⟩ := a
    obtain ⟨b1, b2⟩ := b
    by_cases h1 : a1 = b1 <;> by_cases h2 : a2 = b2 <;> simp [eqGuard, go_sem, h1, h2]
end
theorem okC_m (x : Cl) : FnM Tryz.prog 164 [] [aC x] (vB (okC x)) [] := by
  refine FnM.of htb Tryz.func164 rfl rfl rfl rfl rfl fun cx hN h0 => ?_
  (repeat' (first | ((with_reducible apply WD_id); first | (refine WD_nxt htb (by exact rfl) ?_) | ((refine WD_tf (by exact rfl) (by exact rfl) ?_ ?_) <;> (intro hb; (fail_if_success (with_reducible injection hb)); rw [hb]; (try simp only [List.length_map] at hb)))) | (refine ct ?_) | (with_reducible apply WA_block)))
  all_goals refine gE (.inr rfl) rfl (congrArg vB ?_) trivial
  all_goals first | (simp_all [okC]; done) | (simp_all [okC]; intros; omega)
theorem ctrC_m (x y : Cl) : FnM Tryz.prog 132 [] [aC x, aC y] (vB (ctrC x y)) [] := by
  refine FnM.of htb Tryz.func132 rfl rfl rfl rfl rfl fun cx hN h0 => ?_
  (repeat' (first | ((with_reducible apply WD_id); first | (refine WD_nxt htb (by exact rfl) ?_) | ((refine WD_tf (by exact rfl) (by exact rfl) ?_ ?_) <;> (intro hb; (fail_if_success (with_reducible injection hb)); rw [hb]; (try simp only [List.length_map] at hb)))) | (refine ct ?_) | (with_reducible apply WA_block)))
  all_goals refine gE (.inr rfl) rfl (congrArg vB ?_) trivial
  all_goals (simp only [beq_iff_eq, beq_eq_false_iff_ne] at hb; unfold ctrC; rw [Bool.eq_iff_iff]; simp [hb])
def cmpC (x y : Cl) : Int := orI [cmpI x.1 y.1, cmpI x.2 y.2]
theorem cmpC_lt (x y : Cl) : cmpC x y < 0 ↔ ltC x y = true := by
  unfold cmpC ltC orI orI orI cmpI
  simp only [Bool.or_eq_true, Bool.and_eq_true, decide_eq_true_eq]
  (repeat' split) <;> simp_all <;> omega
theorem cmpC_m (x y : Cl) : FnM Tryz.prog 165 [] [aC x, aC y] (vI (cmpC x y)) [] := by
  refine FnM.of htb Tryz.func165 rfl rfl rfl rfl rfl fun cx hN h0 => ?_
  (repeat' (first | ((with_reducible apply WD_id); first | (refine WD_nxt htb (by exact rfl) ?_) | (refine WD_call (by exact rfl) ?_; first | (refine WD_c0 (cmp_pm _ _) ?_) | (refine WD_c0 (orN_m (l := [cmpI x.1 y.1, cmpI x.2 y.2]) ?_) ?_; (exact hyp)))) | (refine ct ?_) | (with_reducible apply WA_block)))
  exact gE (.inr rfl) rfl rfl trivial
theorem asc_prev {l : List Cl} (h : Asc l) {k : Nat} (hk : k < l.length) (h0 : 0 < k) : decide (cmpC (nth l ((k : Int) - 1).toNat) (nth l k) ≥ 0) = false := by
  have hs := h
  unfold Asc at hs
  rw [List.pairwise_iff_getElem] at hs
  have h1 := hs (k - 1) k (by omega) hk (by omega)
  rw [show ((k : Int) - 1).toNat = k - 1 by omega, nth_getElem _ _ hk, nth_getElem _ _ (show k - 1 < l.length by omega)]
  have := (cmpC_lt _ _).2 h1
  simp only [decide_eq_false_iff_not]; omega
theorem plC_m (l : List Cl) (h : PlC l) : FnM Tryz.prog 109 [] [lC l] (vB true) [] := by
  have hl := h.len
  refine FnM.of htb Tryz.func109 rfl rfl rfl rfl rfl fun cx hN h0 => ?_
  (repeat' (first | ((with_reducible apply WD_id); first | (refine WD_sum ?_) | (refine WD_nxt htb (by exact rfl) ?_) | (refine WD_idx htb ?_) | (refine WD_t (by exact rfl) (by exact rfl) (by exact known) fun hb => ?_; rw [hb]; clear hb) | (refine WD_f (by exact rfl) (by exact rfl) (by exact known) fun hb => ?_; rw [hb]; clear hb)) | (refine ct ?_) | (with_reducible apply WA_block)))
  (refine WA_forV (l.length) [7] [] (fun k => [(7, vI k)]) (fun k => []) (fun k => True) ?h0 ?_)
  case h0 => trivial
  intro k hk _
  rcases Nat.lt_or_ge k l.length with hk' | hk'
  · have t1 : decide ((k : Int) < (l.length : Int)) = true := by simp; omega
    have t2 : (!okC (nth l k)) = false := by rw [h.ok _ (nth_mem l k hk')]; rfl
    rcases Nat.eq_zero_or_pos k with h0 | h0
    · have t3 : decide ((k : Int) > 0) = false := by simp; omega
      (repeat' (first | ((with_reducible apply WD_id); first | (refine WD_sum ?_) | (refine WD_nxt htb (by exact rfl) ?_) | (refine WD_call (by exact rfl) ?_; first | (refine WD_c0 (okC_m (x := nth l k)) ?_) | (refine WD_c0 (cmpC_m _ _) ?_)) | (refine WD_idx htb ?_) | (refine WD_t (by exact rfl) (by exact rfl) (by exact known) fun hb => ?_; rw [hb]; clear hb) | (refine WD_f (by exact rfl) (by exact rfl) (by exact known) fun hb => ?_; rw [hb]; clear hb)) | (refine ct ?_) | (with_reducible apply WA_block)))
      refine ⟨hk', trivial, ?_⟩
      (exact LeV [])
    · have t3 : decide ((k : Int) > 0) = true := by simp; omega
      have t4 := asc_prev h.asc hk' h0
      (repeat' (first | ((with_reducible apply WD_id); first | (refine WD_sum ?_) | (refine WD_nxt htb (by exact rfl) ?_) | (refine WD_call (by exact rfl) ?_; first | (refine WD_c0 (okC_m (x := nth l k)) ?_) | (refine WD_c0 (cmpC_m (x := nth l ((k : Int) - 1).toNat) (y := nth l k)) ?_)) | (refine WD_idx htb ?_) | (refine WD_t (by exact rfl) (by exact rfl) (by exact known) fun hb => ?_; rw [hb]; clear hb) | (refine WD_f (by exact rfl) (by exact rfl) (by exact known) fun hb => ?_; rw [hb]; clear hb)) | (refine ct ?_) | (with_reducible apply WA_block)))
      refine ⟨hk', trivial, ?_⟩
      (exact LeV [])
  · have t1 : decide ((k : Int) < (l.length : Int)) = false := by simp; omega
    (repeat' (first | ((with_reducible apply WD_id); first | (refine WD_sum ?_) | (refine WD_nxt htb (by exact rfl) ?_) | (refine WD_idx htb ?_) | (refine WD_t (by exact rfl) (by exact rfl) (by exact known) fun hb => ?_; rw [hb]; clear hb) | (refine WD_f (by exact rfl) (by exact rfl) (by exact known) fun hb => ?_; rw [hb]; clear hb)) | (refine ct ?_) | (with_reducible apply WA_block)))
    exact gE (.inr rfl) rfl rfl trivial
theorem ixC_m (l : List Cl) (x : Cl) (hl : l.length ≤ 10000) : FnM Tryz.prog 199 [] [lC l, aC x] (vI (idxF (fun y => decide (x = y)) 0 l)) [] := by
  refine FnM.of htb Tryz.func199 rfl rfl rfl rfl rfl fun cx hN h0 => ?_
  (repeat' (first | ((with_reducible apply WD_id); first | (refine WD_sum ?_) | (refine WD_nxt htb (by exact rfl) ?_) | (refine WD_idx htb ?_)) | (refine ct ?_) | (with_reducible apply WA_block)))
  (refine WA_forV (l.length) [8] [] (fun k => [(8, vI k)]) (fun k => []) (fun k => idxF (fun y => decide (x = y)) 0 l = idxF (fun y => decide (x = y)) k (l.drop k)) ?h0 ?_)
  case h0 => rfl
  intro k hk hI
  rcases Nat.lt_or_ge k l.length with hk' | hk'
  · have t1 : decide ((k : Int) < (l.length : Int)) = true := by simp; omega
    cases hx : decide (x = nth l k) with
    | true =>
      (repeat' (first | ((with_reducible apply WD_id); first | (refine WD_sum ?_) | (refine WD_nxt htb (by exact rfl) ?_) | (refine WD_eq (eqC_step rfl rfl rfl) ?_) | (refine WD_idx htb ?_)) | (refine ct ?_) | (with_reducible apply WA_block)))
      exact gE (.inr rfl) rfl (congrArg vI (idx_hit hI hk' hx).symm) trivial
    | false =>
      (repeat' (first | ((with_reducible apply WD_id); first | (refine WD_sum ?_) | (refine WD_nxt htb (by exact rfl) ?_) | (refine WD_eq (eqC_step rfl rfl rfl) ?_) | (refine WD_idx htb ?_)) | (refine ct ?_) | (with_reducible apply WA_block)))
      refine ⟨hk', idx_miss hI hk' hx, ?_⟩
      (exact LeV [])
  · have t1 : decide ((k : Int) < (l.length : Int)) = false := by simp; omega
    (repeat' (first | ((with_reducible apply WD_id); first | (refine WD_sum ?_) | (refine WD_nxt htb (by exact rfl) ?_) | (refine WD_idx htb ?_)) | (refine ct ?_) | (with_reducible apply WA_block)))
    exact gE (.inr rfl) rfl (congrArg vI (idx_end hI hk').symm) trivial
theorem idx_dec {α : Type} [DecidableEq α] (x : α) : ∀ (l : List α) (k : Nat), decide (idxF (fun y => decide (x = y)) k l ≥ 0) = decide (x ∈ l)
  | [], k => by simp [idxF]
  | y :: r, k => by
    unfold idxF
    split
    · rename_i h
      simp only [decide_eq_true_eq] at h
      subst h
      simp
    · rename_i h
      simp only [decide_eq_true_eq] at h
      rw [idx_dec x r]
      simp [h]
theorem cntC_m (l : List Cl) (x : Cl) (hl : l.length ≤ 10000) : FnM Tryz.prog 167 [] [lC l, aC x] (vB (hasC l x)) [] := by
  refine FnM.of htb Tryz.func167 rfl rfl rfl rfl rfl fun cx hN h0 => ?_
  (repeat' (first | ((with_reducible apply WD_id); first | (refine WD_nxt htb (by exact rfl) ?_) | (refine WD_call (by exact rfl) ?_; first | (refine WD_c0 (ixC_m _ _ ?_) ?_; (exact hyp)))) | (refine ct ?_) | (with_reducible apply WA_block)))
  exact gE (.inr rfl) rfl (congrArg vB (by unfold hasC; rw [idx_dec x l 0]; congr)) trivial
theorem hasC_m (l : List Cl) (x : Cl) (hl : l.length ≤ 10000) : FnM Tryz.prog 113 [] [lC l, aC x] (vB (hasC l x)) [] := by
  refine FnM.of htb Tryz.func113 rfl rfl rfl rfl rfl fun cx hN h0 => ?_
  (repeat' (first | ((with_reducible apply WD_id); first | (refine WD_nxt htb (by exact rfl) ?_) | (refine WD_call (by exact rfl) ?_; first | (refine WD_c0 (cntC_m _ _ ?_) ?_; (exact hyp)))) | (refine ct ?_) | (with_reducible apply WA_block)))
  exact gE (.inr rfl) rfl rfl trivial
/-- Two lists, element by element. -/
def eqCs : List Cl → List Cl → Bool
  | [], [] => true
  | x :: a, y :: b => decide (x = y) && eqCs a b
  | _, _ => false
theorem eqCs_eq : ∀ (a b : List Cl), eqCs a b = decide (a = b)
  | [], [] => by simp [eqCs]
  | [], _ :: _ => by simp [eqCs]
  | _ :: _, [] => by simp [eqCs]
  | x :: a, y :: b => by
    rw [eqCs, eqCs_eq a b]
    simp only [List.cons.injEq]
    by_cases h1 : x = y <;> by_cases h2 : a = b <;> simp [h1, h2]
theorem eqCs_len : ∀ {a b : List Cl}, a.length ≠ b.length → eqCs a b = false
  | [], [], h => absurd rfl h
  | [], _ :: _, _ => rfl
  | _ :: _, [], _ => rfl
  | x :: a, y :: b, h => by rw [eqCs, eqCs_len (a := a) (b := b) (by simpa using h), Bool.and_false]
theorem eqCs_step {a b : List Cl} {k : Nat} (h : k < a.length) (h2 : k < b.length) : eqCs (a.drop k) (b.drop k) = (decide (nth a k = nth b k) && eqCs (a.drop (k + 1)) (b.drop (k + 1))) := by
  rw [drop_nth a k h, drop_nth b k h2, eqCs]
theorem eqlC_m (a b : List Cl) (ha : a.length ≤ 10000) (hb : b.length ≤ 10000) : FnM Tryz.prog 120 [] [lC a, lC b] (vB (decide (a = b))) [] := by
  rw [← eqCs_eq]
  refine FnM.of htb Tryz.func120 rfl rfl rfl rfl rfl fun cx hN h0 => ?_
  cases hq : ((a.length : Int) != (b.length : Int)) with
  | true =>
    (repeat' (first | ((with_reducible apply WD_id); first | (refine WD_sum ?_) | (refine WD_nxt htb (by exact rfl) ?_) | (refine WD_idx htb ?_)) | (refine ct ?_) | (with_reducible apply WA_block)))
    exact gE (.inr rfl) rfl (congrArg vB (eqCs_len (by simp at hq; exact_mod_cast hq)).symm) trivial
  | false =>
    have hl : a.length = b.length := by simp at hq; exact_mod_cast hq
    (repeat' (first | ((with_reducible apply WD_id); first | (refine WD_sum ?_) | (refine WD_nxt htb (by exact rfl) ?_) | (refine WD_idx htb ?_)) | (refine ct ?_) | (with_reducible apply WA_block)))
    (refine WA_forV (a.length) [13] [] (fun k => [(13, vI k)]) (fun k => []) (fun k => eqCs a b = eqCs (a.drop k) (b.drop k)) ?h0 ?_)
    case h0 => rfl
    intro k hk hI
    rcases Nat.lt_or_ge k a.length with hk' | hk'
    · have t1 : decide ((k : Int) < (a.length : Int)) = true := by simp; omega
      have hst := eqCs_step hk' (by omega : k < b.length)
      cases hx : decide (nth a k = nth b k) with
      | true =>
        have t2 : (!decide (nth a k = nth b k)) = false := by rw [hx]; rfl
        (repeat' (first | ((with_reducible apply WD_id); first | (refine WD_sum ?_) | (refine WD_nxt htb (by exact rfl) ?_) | (refine WD_eq (neC_step rfl rfl rfl) ?_) | (refine WD_idx htb ?_)) | (refine ct ?_) | (with_reducible apply WA_block)))
        refine ⟨hk', by rw [hI, hst, hx, Bool.true_and], ?_⟩
        (exact LeV [])
      | false =>
        have t2 : (!decide (nth a k = nth b k)) = true := by rw [hx]; rfl
        (repeat' (first | ((with_reducible apply WD_id); first | (refine WD_sum ?_) | (refine WD_nxt htb (by exact rfl) ?_) | (refine WD_eq (neC_step rfl rfl rfl) ?_) | (refine WD_idx htb ?_)) | (refine ct ?_) | (with_reducible apply WA_block)))
        exact gE (.inr rfl) rfl (congrArg vB (by rw [hI, hst, hx, Bool.false_and])) trivial
    · have t1 : decide ((k : Int) < (a.length : Int)) = false := by simp; omega
      (repeat' (first | ((with_reducible apply WD_id); first | (refine WD_sum ?_) | (refine WD_nxt htb (by exact rfl) ?_) | (refine WD_idx htb ?_)) | (refine ct ?_) | (with_reducible apply WA_block)))
      exact gE (.inr rfl) rfl (congrArg vB (by rw [hI, List.drop_eq_nil_of_le hk', List.drop_eq_nil_of_le (by omega)]; rfl)) trivial
end Go.Proofs.YtdhogcklnehdhaaGreatDoor
namespace Go.Proofs.YtdhogcklnehdhaaGreatDoor
set_option linter.unusedSimpArgs false
set_option linter.unusedVariables false
set_option linter.unnecessarySimpa false
set_option linter.unusedSectionVars false
set_option maxRecDepth 100000
open Go Go.RowKit Go.Am Go.Proofs.Grow Go.Shelf Go.Sort
def renC : Ren := ⟨fun | 6 => 258 | 14 => 274 | 15 => 196 | 20 => 280 | 21 => 281 | 22 => 282 | 23 => 283 | 24 => 284 | 25 => 285 | 26 => 286 | 27 => 287 | 28 => 229 | 29 => 230 | 46 => 290 | 47 => 252 | 48 => 253 | 49 => 291 | 50 => 292 | 57 => 293 | n => n, fun | 0 => 0 | 3 => 3 | 4 => 4 | 5 => 5 | 9 => 9 | 22 => 46 | 24 => 86 | 25 => 184 | 39 => 158 | 45 => 228 | 46 => 229 | 50 => 109 | 53 => 235 | 55 => 237 | 66 => 247 | 70 => 251 | 76 => 273 | 77 => 121 | n => n, fun n => n⟩
theorem layC : SlLaysF0.n6 Tryz.prog renC where
  mixed := hmix
  f6 := ⟨Tryz.f258.name, by kernel_rfl, Tryz.func258.trans (congrArg some (by kernel_rfl))⟩
  f14 := ⟨Tryz.f274.name, by kernel_rfl, Tryz.func274.trans (congrArg some (by kernel_rfl))⟩
  f15 := Tryz.func196.trans (congrArg some (by kernel_rfl))
  f20 := ⟨Tryz.f280.name, by kernel_rfl, Tryz.func280.trans (congrArg some (by kernel_rfl))⟩
  f21 := ⟨Tryz.f281.name, by kernel_rfl, Tryz.func281.trans (congrArg some (by kernel_rfl))⟩
  f22 := ⟨Tryz.f282.name, by kernel_rfl, Tryz.func282.trans (congrArg some (by kernel_rfl))⟩
  f23 := ⟨Tryz.f283.name, by kernel_rfl, Tryz.func283.trans (congrArg some (by kernel_rfl))⟩
  f24 := ⟨Tryz.f284.name, by kernel_rfl, Tryz.func284.trans (congrArg some (by kernel_rfl))⟩
  f25 := ⟨Tryz.f285.name, by kernel_rfl, Tryz.func285.trans (congrArg some (by kernel_rfl))⟩
  f26 := ⟨Tryz.f286.name, by kernel_rfl, Tryz.func286.trans (congrArg some (by kernel_rfl))⟩
  f27 := ⟨Tryz.f287.name, by kernel_rfl, Tryz.func287.trans (congrArg some (by kernel_rfl))⟩
  f28 := Tryz.func229.trans (congrArg some (by kernel_rfl))
  f29 := Tryz.func230.trans (congrArg some (by kernel_rfl))
  f46 := ⟨Tryz.f290.name, by kernel_rfl, Tryz.func290.trans (congrArg some (by kernel_rfl))⟩
  f47 := Tryz.func252.trans (congrArg some (by kernel_rfl))
  f48 := Tryz.func253.trans (congrArg some (by kernel_rfl))
  f49 := ⟨Tryz.f291.name, by kernel_rfl, Tryz.func291.trans (congrArg some (by kernel_rfl))⟩
  f50 := ⟨Tryz.f292.name, by kernel_rfl, Tryz.func292.trans (congrArg some (by kernel_rfl))⟩
  f57 := ⟨Tryz.f293.name, by kernel_rfl, Tryz.func293.trans (congrArg some (by kernel_rfl))⟩
  t0 := Tryz.underlying0
  a0 := Tryz.isAgg0
  z0 := Tryz.sizeOf0
  v0 := Tryz.zeroValue0
  t3 := Tryz.underlying3
  a3 := Tryz.isAgg3
  z3 := Tryz.sizeOf3
  v3 := Tryz.zeroValue3
  t4 := Tryz.underlying4
  a4 := Tryz.isAgg4
  z4 := Tryz.sizeOf4
  v4 := Tryz.zeroValue4
  t5 := Tryz.underlying5
  a5 := Tryz.isAgg5
  z5 := Tryz.sizeOf5
  v5 := Tryz.zeroValue5
  t9 := Tryz.underlying9
  a9 := Tryz.isAgg9
  z9 := Tryz.sizeOf9
  v9 := Tryz.zeroValue9
  t22 := Tryz.underlying46
  a22 := Tryz.isAgg46
  z22 := Tryz.sizeOf46
  v22 := Tryz.zeroValue46
  t25 := Tryz.underlying184
  a25 := Tryz.isAgg184
  z25 := Tryz.sizeOf184
  v25 := Tryz.zeroValue184
  t39 := Tryz.underlying158
  a39 := Tryz.isAgg158
  z39 := Tryz.sizeOf158
  v39 := Tryz.zeroValue158
  t45 := Tryz.underlying228
  a45 := Tryz.isAgg228
  z45 := Tryz.sizeOf228
  v45 := Tryz.zeroValue228
  t46 := Tryz.underlying229
  a46 := Tryz.isAgg229
  z46 := Tryz.sizeOf229
  v46 := Tryz.zeroValue229
  t50 := Tryz.underlying109
  a50 := Tryz.isAgg109
  z50 := Tryz.sizeOf109
  v50 := Tryz.zeroValue109
  t53 := Tryz.underlying235
  a53 := Tryz.isAgg235
  z53 := Tryz.sizeOf235
  v53 := Tryz.zeroValue235
  t55 := Tryz.underlying237
  a55 := Tryz.isAgg237
  z55 := Tryz.sizeOf237
  v55 := Tryz.zeroValue237
  t66 := Tryz.underlying247
  a66 := Tryz.isAgg247
  z66 := Tryz.sizeOf247
  v66 := Tryz.zeroValue247
  t70 := Tryz.underlying251
  a70 := Tryz.isAgg251
  z70 := Tryz.sizeOf251
  v70 := Tryz.zeroValue251
  t76 := Tryz.underlying273
  a76 := Tryz.isAgg273
  z76 := Tryz.sizeOf273
  v76 := Tryz.zeroValue273
  t77 := Tryz.underlying121
  a77 := Tryz.isAgg121
  z77 := Tryz.sizeOf121
  v77 := Tryz.zeroValue121
/-- A world after draws and new blocks. -/
def Gx (w w' : World) : Prop := ∃ q os, w' = grow (w.drewN q) os
theorem Gx.refl (w : World) : Gx w w := ⟨0, #[], by rw [grow_empty]; rfl⟩
theorem Gx.alloc {w w' : World} (h : Gx w w') (o : Obj) : Gx w (w'.alloc o) := by
  obtain ⟨q, os, rfl⟩ := h
  exact ⟨q, os ++ #[o], by rw [alloc_eq_grow, grow_grow]⟩
theorem Gx.grown {w w' : World} (h : Gx w w') (n : Nat) (es : Array Obj) : Gx w (grow (w'.drewN n) es) := by
  obtain ⟨q, os, rfl⟩ := h
  exact ⟨q + n, os ++ es, by rw [← grow_grow, ← World.drewN_drewN]; rfl⟩
theorem or_two_g (x y : Int) (w : World) :
    Calls Tryz.prog 197 #[.slice (some ⟨w.heap.size, 0, none⟩) 2 2] (w.alloc (.cells #[.int .i64 x, .int .i64 y] 3)) fun e w' => e = .returned (.int .i64 (orI [x, y])) ∧ w' = w.alloc (.cells #[.int .i64 x, .int .i64 y] 3) := by
  refine (or_int w.heap.size 0 2 [x, y] _ (by simp) ?_).mono ?_
  · intro i hi
    match i, hi with
    | 0, _ => simp [atI, go_sem]
    | 1, _ => simp [atI, go_sem]
  · rintro e w' ⟨he, rfl⟩; exact ⟨he, rfl⟩
theorem cell_gd (w : World) (n : Nat) (os : Array Obj) (b o : Nat) (h : b < w.heap.size) : (grow (w.drewN n) os).cell? ⟨b, o, none⟩ = w.cell? ⟨b, o, none⟩ := by
  rw [cell?_grow _ _ _ (by exact h)]; rfl
attribute [go_sem] cell_gd
theorem quiet_gx {P : Program} {f : FuncId} {args : Array Value} {w : World} {n : Nat} {os : Array Obj} {v : Value} (h : Calls P f args (grow (w.drewN n) os) fun e w' => e = .returned v ∧ grow (w.drewN n) os = w') :
    Calls P f args (grow (w.drewN n) os) fun e w'' => e = .returned v ∧ ∃ p : GrownBy, w'' = grow (w.drewN p.n) p.os := h.mono fun _ _ ⟨he, hw⟩ => ⟨he, ⟨n, os⟩, hw.symm⟩
theorem cmpC_g (a i b j : Int) (w : World) :
    Calls Tryz.prog 165 #[.agg #[.int .i64 a, .int .i64 i], .agg #[.int .i64 b, .int .i64 j]] w fun e w' => e = .returned (.int .i64 (cmpC (a, i) (b, j))) ∧ Gx w w' := by
  go_enter Tryz.func165, Tryz.ntmps165
  go_wp2
  refine region_head (C := fun w' => ∃ p : GrownBy, w' = grow (((w.alloc _).alloc _).drewN p.n) p.os) 10 (by kernel_rfl) (by kernel_rfl) ⟨⟨1, #[]⟩, by rw [grow_empty]; rfl⟩ ?_
  simp only [List.take_succ_cons, List.take_zero, List.drop_succ_cons, List.drop_zero]
  repeat (quiet_step (first | exact quiet_gx (cmp_int _ _ _)))
  refine wpQuiet_nil ?_
  intro wq hq
  have hb : Gx w wq := by
    obtain ⟨p, rfl⟩ := hq
    exact (((Gx.refl w).alloc (.cells #[.int .i64 a, .int .i64 i] 86)).alloc (.cells #[.int .i64 b, .int .i64 j] 86)).grown p.n p.os
  clear hq
  go_wp2_with (go_at_call 197; refine (or_two_g _ _ _).mono ?_; rintro e w' ⟨rfl, rfl⟩)
  go_ret
  exact ⟨rfl, hb.alloc _⟩
def encC (x : Cl) : List Value := [.int .i64 x.1, .int .i64 x.2]
theorem lt_ordC (x y : Cl) : ltOf cmpC x y = ltC x y := by
  unfold ltOf
  cases h : ltC x y with
  | true => simpa using (cmpC_lt x y).2 h
  | false =>
    have : ¬ cmpC x y < 0 := fun e => by rw [(cmpC_lt x y).1 e] at h; cases h
    simpa using this
def srtC (l : List Cl) : List Cl := l.mergeSort fun x y => !ltC y x
theorem srtC_len (l : List Cl) : (srtC l).length = l.length := List.length_mergeSort _
theorem swo_C : SWO (ltOf cmpC) where
  irrefl x := by rw [lt_ordC]; exact ltC_irr
  trans x y z h k := by rw [lt_ordC] at *; exact ltC_tr h k
  ntrans x y z h k := by
    rw [lt_ordC] at *
    cases q : ltC x z with
    | false => rfl
    | true =>
      cases e : ltC y x with
      | true => rw [ltC_tr e q] at k; cases k
      | false =>
        have := ltC_tri h e
        subst this
        rw [q] at k; cases k
theorem sortC_w (l : List Cl) (cap blk : Nat) (w : World) (hH : HoldsK encC 2 w blk 0 l.toArray) (hblk : blk < w.heap.size) (hl : l.length ≤ 4000) :
    Calls Tryz.prog 258 #[.slice (some ⟨blk, 0, none⟩) l.length cap, .func (.func 165) #[] #[]] w fun e w' => e = .returned (.tuple #[]) ∧ ∃ n os, w' = sortWorldK encC 2 w blk 0 n (srtC l).toArray os := by
  have eg : ∀ args w, (callFunc 165 args).run Tryz.prog w = .ok (.enter 165 args) w := enters_of Tryz.func165 (by kernel_rfl) rfl
  have h := AnyQ.slices_SortFunc_total layC 2 Tryz.isAgg86 Tryz.sizeOf86 encC (fun _ => rfl) (fun x v hv => by simp [encC] at hv; rcases hv with rfl | rfl <;> rfl) cmpC swo_C 165 #[] blk 0 cap l.toArray w eg
    (fun m os dk _ x y => cmpC_g x.1 x.2 y.1 y.2 _) hH hblk (by simp; omega) (fun x y h k => by
      rw [lt_ordC] at h k
      exact ltC_tri h k)
  have e : (fun x y => !(ltOf cmpC) y x) = fun x y => !ltC y x := by funext x y; rw [lt_ordC]
  rw [e] at h
  exact h
theorem flatC_get : ∀ (l : List Cl) (t : Nat), t < l.length * 2 → (l.flatMap encC)[t]? = some ((encC (l[t / 2]!))[t % 2]!)
  | [], t, h => by simp at h
  | x :: r, 0, _ => rfl
  | x :: r, 1, _ => rfl
  | x :: r, t + 2, h => by
    have h1 : (List.flatMap encC (x :: r))[t + 2]? = (r.flatMap encC)[t]? := rfl
    rw [h1, flatC_get r t (by simp at h; omega), show (t + 2) / 2 = t / 2 + 1 by omega, show (t + 2) % 2 = t % 2 by omega]
    rfl
theorem flatC_len : ∀ l : List Cl, (l.flatMap encC).length = l.length * 2
  | [] => rfl
  | x :: r => by
    have : (List.flatMap encC (x :: r)).length = (r.flatMap encC).length + 2 := rfl
    rw [this, flatC_len r]; simp; omega
theorem rowsC_vals : ∀ l : List Cl, (l.map rC).flatten = (l.flatMap encC).map D.v
  | [] => rfl
  | x :: r => by
    rw [List.map_cons, List.flatten_cons, rowsC_vals r]; rfl
theorem vd_v {H : Nat → Prop} {w : World} {c x : Value} (h : VD H w (D.v c) x) : x = c := by
  cases h; rfl
theorem vds_vals {H : Nat → Prop} {w : World} {cs xs : List Value} (h : VDs H w (cs.map D.v) xs) : xs = cs := by
  apply List.ext_getElem?
  intro i
  have hl := h.1
  rw [List.length_map] at hl
  by_cases hi : i < cs.length
  · have h1 := h.2 i (D.v cs[i]) (xs[i]'(by omega)) (by simp [hi]) (by simp)
    rw [List.getElem?_eq_getElem hi, List.getElem?_eq_getElem (show i < xs.length by omega)]
    exact congrArg some (vd_v h1)
  · rw [List.getElem?_eq_none (by omega), List.getElem?_eq_none (by omega)]
theorem vds_of {H : Nat → Prop} {w : World} (cs : List Value) : VDs H w (cs.map D.v) cs := by
  refine ⟨by simp, fun i c v hc hv => ?_⟩
  simp only [List.getElem?_map, hv, Option.map_some] at hc
  obtain rfl := Option.some.inj hc
  exact .v _
theorem oneC_flat {l : List Cl} : ∀ u ∈ l.flatMap encC, u.oneCell' = true := by
  intro u hu
  rw [List.mem_flatMap] at hu
  obtain ⟨x, _, hx⟩ := hu
  simp [encC] at hx
  rcases hx with rfl | rfl <;> rfl
theorem rowsC_two (l : List Cl) : ∀ r ∈ l.map rC, r.length = 2 := by
  intro r hr
  rw [List.mem_map] at hr
  obtain ⟨x, _, rfl⟩ := hr
  rfl
theorem sortC_pm (l : List Cl) (hl : l.length ≤ 4000) : FnM Tryz.prog 258 [(7, .arr 86 2 (l.map rC))] [.own 7, .clo 165 []] (.tup []) [(7, .arr 86 2 ((srtC l).map rC))] := by
  intro H0 μ w vs hlen hI
  obtain ⟨v1, v2, rfl⟩ : ∃ v1 v2, vs = [v1, v2] := by
    match vs, hlen with
    | [a, b], _ => exact ⟨a, b, rfl⟩
  have h1 := hI.tm 0 _ rfl
  have h2 := hI.tm 1 _ rfl
  obtain ⟨v, xs, hμ, ⟨hx1, hx2⟩, _, hd, _⟩ := hI.ob 7 _ rfl
  rw [rowsC_vals] at hd
  obtain rfl := vds_vals hd
  change VR _ _ _ _ v1 at h1
  change VR _ _ _ _ v2 at h2
  obtain ⟨a, n, cap, rfl, h3⟩ : ∃ a n cap, v1 = .slice a n cap ∧ μ 7 = some (.slice a n cap) := by
    cases h1 with
    | own h => exact ⟨_, _, _, rfl, h⟩
  obtain rfl : v = .slice a n cap := Option.some.inj (hμ.symm.trans h3)
  obtain rfl : v2 = .func (.func 165) #[] #[] := by
    cases h2 with
    | clo hl2 _ =>
      rw [List.length_eq_zero_iff.1 hl2.symm]
  rw [List.length_map] at hx2
  have done : ∀ w', InvM ⟨w, Hot μ (lk [(7, AO.arr 86 2 (l.map rC))]), H0, 2, μ⟩ μ (lk (argT 0 [.own 7, .clo 165 []])) (lk [(7, AO.arr 86 2 ((srtC l).map rC))]) ⟨#[.slice a n cap, .func (.func 165) #[] #[]], []⟩ w' →
      ∃ v μ', Ending.returned (.tuple #[]) = Ending.returned v ∧ InvM ⟨w, Hot μ (lk [(7, AO.arr 86 2 (l.map rC))]), H0, 1, μ⟩ μ' (lk [(0, .tup [])]) (lk [(7, AO.arr 86 2 ((srtC l).map rC))]) ⟨#[v], []⟩ w' := by
    intro w' h
    refine ⟨_, μ, rfl, fun t x ht => ?_, h.ob, h.inj, h.lo, h.fr, h.free, h.hs, h.base, rfl, rfl⟩
    simp only [lk] at ht
    split at ht
    · rename_i hb
      have := Nat.eq_of_beq_eq_true hb
      subst this
      obtain rfl := Option.some.inj ht
      exact .tup (vs := []) rfl (fun i c v hc _ => by simp at hc)
    · cases ht
  rcases Nat.eq_zero_or_pos l.length with h0 | h0
  · obtain rfl : l = [] := List.length_eq_zero_iff.1 h0
    obtain rfl : n = 0 := by
      rcases hx2 with ⟨h, _⟩ | ⟨g, c, cur, h, _⟩
      · injection h with _ h _
      · injection h with _ h _
    have h := AnyF.slices_SortFunc_none layC a cap (.func (.func 165) #[] #[]) w
    refine Calls.mono h ?_
    rintro e w' ⟨rfl, rfl⟩
    have e0 : srtC [] = [] := List.length_eq_zero_iff.1 (srtC_len [])
    rw [e0] at done ⊢
    exact done _ hI
  · rcases hx2 with ⟨_, h⟩ | ⟨g, c, cur, h, _, hg, hc1, hc2, hc3, hc4⟩
    · omega
    injection h with e1 e2 e3
    subst e1 e2 e3
    have hgl : g < w.heap.size := (Array.getElem?_eq_some_iff.1 hg).1
    have hcell : ∀ t, t < l.length * 2 → cur[t]? = (l.flatMap encC)[t]? := by
      intro t ht
      rw [← hc4, List.getElem?_take_of_lt ht, Array.getElem?_toList]
    have hH : HoldsK encC 2 w g 0 l.toArray := by
      intro t ht
      rw [size_flatK, List.size_toArray] at ht
      constructor
      · simp only [World.cell?, hg, Nat.zero_add]
        rw [get_flatK _ _ _ _ (by simpa using ht)]
        simp only [Option.isSome_none, Bool.false_eq_true, if_false]
        rw [hcell t ht, flatC_get l t ht]
        simp
      · simp [World.frozen?, hg]
    refine Calls.mono (sortC_w l cap g w hH hgl hl) ?_
    rintro e w' ⟨rfl, q, os, rfl⟩
    have hsz : (srtC l).length = l.length := srtC_len l
    have hF : (Go.Sort.flatK encC 2 (srtC l).toArray).size = l.length * 2 := by simp [hsz]
    have hch : Chg (fun k => k = g) w (sortWorldK encC 2 w g 0 q (srtC l).toArray os) := by
      refine ⟨rfl, rfl, rfl, ?_, fun k hk hne => ?_⟩
      · simp [sortWorldK, grow, putRowK, putRow, mapBlock, ahead]
      · simp only [sortWorldK, grow, putRowK, putRow, mapBlock, ahead]
        rw [Array.getElem?_append_left (by simpa using hk), Array.getElem?_modify, if_neg (fun h => hne h.symm)]; rfl
    have hnew : (sortWorldK encC 2 w g 0 q (srtC l).toArray os).heap[g]? = some (.cells (putCells id 0 (Go.Sort.flatK encC 2 (srtC l).toArray) cur) 86 (0, 0)) := by
      simp only [sortWorldK, grow, putRowK, putRow, mapBlock, ahead]
      rw [Array.getElem?_append_left (by simpa using hgl), Array.getElem?_modify, if_pos rfl]
      show Option.map _ w.heap[g]? = _
      rw [hg]; rfl
    have hsize : (putCells id 0 (Go.Sort.flatK encC 2 (srtC l).toArray) cur).size = cur.size := by simp [putCells]
    have htake : (putCells id 0 (Go.Sort.flatK encC 2 (srtC l).toArray) cur).toList.take (l.length * 2) = (srtC l).flatMap encC := by
      apply List.ext_getElem?
      intro t
      by_cases ht : t < l.length * 2
      · rw [List.getElem?_take_of_lt ht, Array.getElem?_toList, putCells, Array.getElem?_mapIdx, hcell t ht, flatC_get l t ht, flatC_get _ t (by rw [hsz]; exact ht)]
        simp only [Option.map_some, hF, Nat.zero_le, true_and, Nat.zero_add, if_pos ht, Nat.sub_zero, id]
        rw [get_flatK _ _ _ _ (by simpa [hsz] using ht)]
        simp
      · rw [List.getElem?_eq_none (by rw [List.length_take]; omega), List.getElem?_eq_none (by rw [flatC_len, hsz]; omega)]
    generalize putCells id 0 (Go.Sort.flatK encC 2 (srtC l).toArray) cur = cur' at *
    generalize sortWorldK encC 2 w g 0 q (srtC l).toArray os = w' at *
    have hrl : ((srtC l).map rC).length = l.length := by rw [List.length_map, hsz]
    have hw := hI.write (g := 7) (o := .arr 86 2 (l.map rC)) (o' := .arr 86 2 ((srtC l).map rC)) rfl rfl rfl hμ rfl hch (fun H' _ _ => by
      refine ⟨_, (srtC l).flatMap encC, hμ, ⟨by rw [flatC_len, List.length_map], .inr ⟨g, cap, cur', by rw [hrl], Nat.zero_le _, hnew, by rw [hrl]; exact hc1, hc2, by rw [hsize]; exact hc3, by rw [hrl]; exact htake⟩⟩, rowsC_two _, by rw [rowsC_vals]; exact vds_of _, oneC_flat⟩)
    have e : upM (lk [(7, AO.arr 86 2 (l.map rC))]) [(7, AO.arr 86 2 ((srtC l).map rC))] = lk [(7, .arr 86 2 ((srtC l).map rC))] := by
      funext k
      by_cases hk : k = 7
      · subst hk; rw [upM_one_self]; rfl
      · rw [upM_one_other _ hk]
        have : Nat.beq 7 k = false := by
          cases hb : Nat.beq 7 k with
          | false => rfl
          | true => exact absurd (Nat.eq_of_beq_eq_true hb).symm hk
        simp [lk, this]
    rw [e] at hw
    exact done _ hw
end Go.Proofs.YtdhogcklnehdhaaGreatDoor
namespace Go.Proofs.YtdhogcklnehdhaaGreatDoor
set_option linter.unusedSimpArgs false
set_option linter.unusedVariables false
set_option linter.unnecessarySimpa false
set_option linter.unusedSectionVars false
set_option maxRecDepth 100000
open Go Go.RowKit Go.Am Go.Proofs.Grow
def ddM (l : List Cl) : Nat → List Cl
  | 0 => []
  | 1 => [nth l 0]
  | n + 2 => if decide (nth l (n + 1) = nth l n) = true then ddM l (n + 1) else ddM l (n + 1) ++ [nth l (n + 1)]
/-- A list without neighbours that are equal. -/
def ddC (l : List Cl) : List Cl := ddM l l.length
theorem ddC_short {l : List Cl} (h : l.length < 2) : ddC l = l := by
  rcases l with _ | ⟨x, _ | ⟨y, r⟩⟩
  · rfl
  · rfl
  · simp at h; omega
theorem ddM_one {l : List Cl} (h : 1 ≤ l.length) : ddM l 1 = l.take 1 := by
  rcases l with _ | ⟨x, r⟩
  · simp at h
  · rfl
theorem take_nxt {l : List Cl} {k : Nat} (h : k < l.length) : l.take (k + 1) = l.take k ++ [nth l k] := by
  rw [List.take_add_one, List.getElem?_eq_getElem h, nth_getElem _ _ h]; rfl
theorem ddM_next (l : List Cl) {k : Nat} (h : 1 ≤ k) : ddM l (k + 1) = if decide (nth l k = nth l (k - 1)) = true then ddM l k else ddM l k ++ [nth l k] := by
  obtain ⟨m, rfl⟩ : ∃ m, k = m + 1 := ⟨k - 1, by omega⟩
  rfl
theorem cutC {A : List Cl} {R S : List (List D)} {j : Nat} (h : j ≤ A.length) : ((A.map rC).take j ++ R ++ S).take j = (A.take j).map rC := by
  rw [List.append_assoc, List.take_left' (by simp; omega), List.map_take]
set_option maxHeartbeats 4000000 in
theorem compC_pm (l : List Cl) (hl : l.length ≤ 4000) : FnM Tryz.prog 259 [(7, .arr 86 2 (l.map rC))] [.own 7] (.own 61) [(61, .arr 86 2 ((ddC l).map rC)), (7, .dead)] := by
  refine FnM.of htb Tryz.func259 rfl rfl rfl rfl rfl fun cx hN h0 => ?_
  by_cases h2 : l.length < 2
  · have d1 : decide ((l.length : Int) < 2) = true := by simp only [decide_eq_true_eq]; omega
    rw [ddC_short h2]
    (repeat' (first | ((with_reducible apply WD_id); first | (refine WD_sum ?_) | (refine WD_nxt htb (by exact rfl) ?_) | (refine WD_idxo htb ?_) | (refine WD_lde htb ?_) | (refine WD_ste htb ?_) | (refine WD_cut htb ?_) | (refine WD_lens htb ?_) | (refine WD_clr htb ?_) | (refine WD_ixs htb ?_)) | (refine ct ?_) | (with_reducible apply WA_block)))
    exact glV [(2, .own 61)] [(61, .arr 86 2 (l.map rC)), (7, .dead)] (Le.trans (Le_own 2 61 rfl rfl rfl) (LeV []))
  have d1 : decide ((l.length : Int) < 2) = false := by simp only [decide_eq_false_iff_not]; omega
  (repeat' (first | ((with_reducible apply WD_id); first | (refine WD_sum ?_) | (refine WD_nxt htb (by exact rfl) ?_) | (refine WD_idxo htb ?_) | (refine WD_lde htb ?_) | (refine WD_ste htb ?_) | (refine WD_cut htb ?_) | (refine WD_lens htb ?_) | (refine WD_clr htb ?_) | (refine WD_ixs htb ?_)) | (refine ct ?_) | (with_reducible apply WA_block)))
  (refine WA_anyV (α := Nat) (fun x => l.length - x) (1) [3] [] (fun x => [(3, vI x)]) (fun x => []) (fun x => 1 ≤ x ∧ x ≤ l.length ∧ ddM l x = l.take x) ?h0 ?_)
  case h0 => exact ⟨by omega, by omega, ddM_one (by omega)⟩
  rintro k ⟨k1, k2, k3⟩
  by_cases hk : k < l.length
  case neg =>
    have d2 : decide ((k : Int) < (l.length : Int)) = false := by simp only [decide_eq_false_iff_not]; omega
    have e : ddC l = l := by
      obtain rfl : k = l.length := by omega
      unfold ddC; rw [k3, List.take_length]
    rw [e]
    (repeat' (first | ((with_reducible apply WD_id); first | (refine WD_sum ?_) | (refine WD_nxt htb (by exact rfl) ?_) | (refine WD_idxo htb ?_) | (refine WD_lde htb ?_) | (refine WD_ste htb ?_) | (refine WD_cut htb ?_) | (refine WD_lens htb ?_) | (refine WD_clr htb ?_) | (refine WD_ixs htb ?_)) | (refine ct ?_) | (with_reducible apply WA_block)))
    exact glV [(2, .own 61)] [(61, .arr 86 2 (l.map rC)), (7, .dead)] (Le.trans (Le_own 2 61 rfl rfl rfl) (LeV []))
  have d2 : decide ((k : Int) < (l.length : Int)) = true := by simp only [decide_eq_true_eq]; omega
  have e : ((k : Int) - 1).toNat = k - 1 := by omega
  cases he : decide (nth l k = nth l (k - 1)) with
  | false =>
    have he' : decide (nth l k = nth l ((k : Int) - 1).toNat) = false := by rw [e]; exact he
    (repeat' (first | ((with_reducible apply WD_id); first | (refine WD_sum ?_) | (refine WD_nxt htb (by exact rfl) ?_) | (refine WD_eq (eqC_step rfl rfl rfl) ?_) | (refine WD_idxo htb ?_) | (refine WD_lde htb ?_) | (refine WD_ste htb ?_) | (refine WD_cut htb ?_) | (refine WD_lens htb ?_) | (refine WD_clr htb ?_) | (refine WD_ixs htb ?_)) | (refine ct ?_) | (with_reducible apply WA_block)))
    refine ⟨k + 1, by omega, ⟨by omega, by omega, by rw [ddM_next l k1, if_neg (by simp [he]), k3, take_nxt hk]⟩, ?_⟩
    (exact LeV [])
  | true =>
    have he' : decide (nth l k = nth l ((k : Int) - 1).toNat) = true := by rw [e]; exact he
    (repeat' (first | ((with_reducible apply WD_id); first | (refine WD_sum ?_) | (refine WD_nxt htb (by exact rfl) ?_) | (refine WD_eq (eqC_step rfl rfl rfl) ?_) | (refine WD_idxo htb ?_) | (refine WD_lde htb ?_) | (refine WD_ste htb ?_) | (refine WD_cut htb ?_) | (refine WD_lens htb ?_) | (refine WD_clr htb ?_) | (refine WD_ixs htb ?_)) | (refine ct ?_) | (with_reducible apply WA_block)))
    (refine WA_anyV (α := Nat × Nat × List Cl) (fun x => l.length - k - x.1) ((1, k, l)) [5, 3] [7] (fun x => [(5, vI x.1), (3, vI x.2.1)]) (fun x => [(7, .arr 86 2 (x.2.2.map rC))]) (fun x => (1 ≤ x.1 ∧ k + x.1 ≤ l.length ∧ x.2.2.length = l.length ∧ x.2.1 < k + x.1) ∧ x.2.2.take x.2.1 = ddM l (k + x.1) ∧ ∀ p, k + x.1 ≤ p + 1 → p < l.length → nth x.2.2 p = nth l p) ?h0 ?_)
    case h0 => exact ⟨⟨by simp, by show k + 1 ≤ l.length; omega, rfl, by simp⟩, by dsimp only; rw [ddM_next l k1, if_pos he, k3], fun p _ _ => rfl⟩
    rintro ⟨q, j, A⟩ ⟨⟨q1, q2, q3, q4⟩, q5, q6⟩
    dsimp only at q1 q2 q3 q4 q5 q6
    by_cases hq : k + q < l.length
    case neg =>
      have d3 : decide ((q : Int) < ((l.length - k : Nat) : Int)) = false := by simp only [decide_eq_false_iff_not]; omega
      have eq : k + q = l.length := by omega
      have hA : ddC l = A.take j := by unfold ddC; rw [q5, eq]
      rw [hA]
      refine WA_room 0 rfl rfl fun qq hq1 hq2 => ?_
      rw [List.length_map] at hq1
      dsimp only at hq1
      (repeat' (first | ((with_reducible apply WD_id); first | (refine WD_sum ?_) | (refine WD_nxt htb (by exact rfl) ?_) | (refine WD_idxo htb ?_) | (refine WD_lde htb ?_) | (refine WD_ste htb ?_) | (refine WD_cut htb ?_) | (refine WD_lens htb ?_) | (refine WD_clr htb ?_) | (refine WD_ixs htb ?_)) | (refine ct ?_) | (with_reducible apply WA_block)))
      simp only [Nat.zero_add, Nat.sub_zero, List.drop_zero, Option.map_some]
      exact glV [(2, .own 61)] [(61, .arr 86 2 ((A.take j).map rC)), (7, .dead)] (Le.trans (Le_hide 2 61 rfl rfl (by simp only [List.length_append, List.length_take, List.length_drop, List.length_replicate, List.length_map]; omega) (show 0 < qq by omega) rfl)
        (LeV [] (hM := ⟨⟨_, rfl, rfl, rfl, cutC (by omega)⟩, ⟨_, rfl, trivial⟩, trivial⟩)))
    have d3 : decide ((q : Int) < ((l.length - k : Nat) : Int)) = true := by simp only [decide_eq_true_eq]; omega
    have e1 : nth A (0 + k + q) = nth l (k + q) := by rw [Nat.zero_add]; exact q6 _ (by omega) hq
    have e2 : nth A (0 + k + ((q : Int) - 1).toNat) = nth l (k + q - 1) := by
      rw [show 0 + k + ((q : Int) - 1).toNat = k + q - 1 by omega]; exact q6 _ (by omega) (by omega)
    have hn := ddM_next l (k := k + q) (by omega)
    cases hb : decide (nth l (k + q) = nth l (k + q - 1)) with
    | true =>
      have hb' : (!decide (nth A (0 + k + q) = nth A (0 + k + ((q : Int) - 1).toNat))) = false := by rw [e1, e2, hb]; rfl
      rw [if_pos hb] at hn
      (repeat' (first | ((with_reducible apply WD_id); first | (refine WD_sum ?_) | (refine WD_nxt htb (by exact rfl) ?_) | (refine WD_eq (neC_step rfl rfl rfl) ?_) | (refine WD_idxo htb ?_) | (refine WD_lde htb ?_) | (refine WD_ste htb ?_) | (refine WD_cut htb ?_) | (refine WD_lens htb ?_) | (refine WD_clr htb ?_) | (refine WD_ixs htb ?_)) | (refine ct ?_) | (with_reducible apply WA_block)))
      refine ⟨(q + 1, j, A), by dsimp only; omega, ⟨⟨by dsimp only; omega, by dsimp only; omega, q3, by dsimp only; omega⟩, by dsimp only; rw [q5]; exact hn.symm, fun p hp1 hp2 => q6 p (by dsimp only at hp1; omega) hp2⟩, ?_⟩
      (exact LeV [])
    | false =>
      have hb' : (!decide (nth A (0 + k + q) = nth A (0 + k + ((q : Int) - 1).toNat))) = true := by rw [e1, e2, hb]; rfl
      rw [if_neg (by simp [hb])] at hn
      have hrow : (A.map rC).set j [dI (nth A (0 + k + q)).1, dI (nth A (0 + k + q)).2] = (A.set j (nth A (0 + k + q))).map rC := by rw [List.map_set]; rfl
      (repeat' (first | ((with_reducible apply WD_id); first | (refine WD_sum ?_) | (refine WD_nxt htb (by exact rfl) ?_) | (refine WD_eq (neC_step rfl rfl rfl) ?_) | (refine WD_idxo htb ?_) | (refine WD_lde htb ?_) | (refine WD_ste htb ?_) | (refine WD_cut htb ?_) | (refine WD_lens htb ?_) | (refine WD_clr htb ?_) | (refine WD_ixs htb ?_)) | (refine ct ?_) | (with_reducible apply WA_block)))
      refine ⟨(q + 1, j + 1, A.set j (nth A (0 + k + q))), by dsimp only; omega, ⟨⟨by dsimp only; omega, by dsimp only; omega, by simpa using q3, by dsimp only; omega⟩, ?_, fun p hp1 hp2 => ?_⟩, ?_⟩
      · dsimp only
        rw [← Nat.add_assoc, hn, ← q5, e1, take_nxt (by rw [List.length_set]; omega), List.take_set_of_le (by omega), nth_setI _ _ _ _ (by omega), if_pos rfl]
      · dsimp only at hp1 ⊢
        rw [nth_setI _ _ _ _ (by omega), if_neg (by omega)]
        exact q6 p (by omega) hp2
      (exact LeV [])
end Go.Proofs.YtdhogcklnehdhaaGreatDoor
namespace Go.Proofs.YtdhogcklnehdhaaGreatDoor
set_option linter.unusedSimpArgs false
set_option linter.unusedVariables false
set_option linter.unnecessarySimpa false
set_option linter.unusedSectionVars false
set_option maxRecDepth 100000
open Go Go.RowKit Go.Am Go.Proofs.Grow Go.Shelf
abbrev noB : Nat → Prop := fun _ => False
abbrev noM : Nat → Option Value := fun _ => none
attribute [local go_sem] Oper.semAt_some
end Go.Proofs.YtdhogcklnehdhaaGreatDoor
/- Contracts: a trust implies itself. -/
namespace Go.Proofs.YtdhogcklnehdhaaGreatDoor
set_option linter.unusedSimpArgs false
set_option linter.unusedVariables false
set_option linter.unnecessarySimpa false
set_option linter.unusedSectionVars false
set_option maxRecDepth 100000
open Go Go.RowKit Go.Am Go.Proofs.Grow Go.Shelf
theorem keeps_below {w W : World} (h : Below w.heap.size w W) : Keeps noB noB w W := fun b hb _ => ⟨id, Nat.lt_of_lt_of_le hb h.size, h.block b hb⟩
abbrev IsRp (w : World) (t : Tr) (v : Value) : Prop := VR noB noM w (.rp (rTp t)) v
theorem IsRp.below {w W : World} {t : Tr} {v : Value} (h : IsRp w t v) (hb : Below w.heap.size w W) : IsRp W t v := h.mono (fun _ => true) rfl (fun _ _ _ h => h) (keeps_below hb)
attribute [local go_sem] Oper.semAt_some
end Go.Proofs.YtdhogcklnehdhaaGreatDoor
/- Contracts: a trust implies itself. -/
namespace Go.Proofs.YtdhogcklnehdhaaGreatDoor
set_option linter.unusedSimpArgs false
set_option linter.unusedVariables false
set_option linter.unnecessarySimpa false
set_option linter.unusedSectionVars false
set_option maxRecDepth 100000
open Go Go.RowKit Go.Am Go.Proofs.Grow
end Go.Proofs.YtdhogcklnehdhaaGreatDoor
