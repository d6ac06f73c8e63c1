/- Plain laws of the statements on networks. No program stands here. -/
import Derived.Test.YtbfafljcclfeaaaGreatDoorNtA
namespace Go.Proofs.YtbfafljcclfeaaaGreatDoor
set_option linter.unusedSimpArgs false
set_option linter.unusedVariables false
set_option linter.unnecessarySimpa false
set_option linter.unusedSectionVars false
set_option maxRecDepth 100000
open Go Go.RowKit Go.Proofs.Grow Go.Sort

theorem apart_none {n : Net} (h : n.parts = []) (a b : Int) : apartB n a b = false := by
  unfold apartB
  rw [if_pos]
  exact .inr (.inr (.inl (by simp [sideF, h, idxF])))
theorem dueF_right {n : Net} (h : RightN n) (now : Int) : dueF n now = ((n.pars.take (posQ (dueQ now) n.pars)).filter (fun x => !apartB n x.src x.dst), ⟨n.pars.drop (posQ (dueQ now) n.pars), n.next, n.parts, n.dels⟩) := by
  unfold dueF
  rw [if_neg (by simp [chkN_iff.2 h])]
theorem sendF_same {n : Net} (h : RightN n) (a slot now : Int) : sendF n a a slot now = (net0, 5) := by
  unfold sendF
  rw [if_neg (by simp [chkN_iff.2 h]), if_pos (.inr (.inr rfl))]
theorem sendF_put {n : Net} (h : RightN n) {a b now : Int} (slot : Int) (ha : 0 ≤ a ∧ a < 10) (hb : 0 ≤ b ∧ b < 10) (hab : ¬ a = b) (hn : 0 ≤ now ∧ now ≤ 200) (hd : 0 ≤ delayF n a b ∧ delayF n a b ≤ 20) (hl : n.pars.length < 4000) (h1 : n.next < 1000000000) :
    sendF n a b slot now = (putN n ⟨now + delayF n a b, a, b, n.next, slot⟩, 0) ∧ RightN (putN n ⟨now + delayF n a b, a, b, n.next, slot⟩) := by
  refine ⟨?_, right_put h ⟨ha, hb, hab, by dsimp only; omega, by have := h.n0; dsimp only; omega⟩ rfl hl h1⟩
  unfold sendF
  rw [if_neg (by simp [chkN_iff.2 h]), if_neg (by simp [nodeB, hab]; omega), if_neg (by omega), if_neg (by omega)]
theorem putN_mem {n : Net} {x y : Pcl} (h : y ∈ (putN n x).pars) : y = x ∨ y ∈ n.pars := by
  unfold putN at h
  dsimp only at h
  rcases List.mem_append.1 h with q | q
  · exact .inr (List.mem_of_mem_take q)
  · rcases List.mem_cons.1 q with q | q
    · exact .inl q
    · exact .inr (List.mem_of_mem_drop q)
theorem putN_len (n : Net) (x : Pcl) : (putN n x).pars.length = n.pars.length + 1 := by
  have := posQ_le (lessQ x) n.pars
  unfold putN
  simp only [List.length_append, List.length_cons, List.length_take, List.length_drop]; omega

/-- What NetworkKeeps' loops keep. -/
structure KeepI (T : Prop) (B : Int) (n : Net) (sent got lost : Int) : Prop where
  r : RightN n
  d : n.dels = []
  p : n.parts = [] ∨ n.parts = [3, 12]
  due : ∀ x ∈ n.pars, x.due ≤ 14
  late : T → n.pars = []
  sum : sent = got + lost + n.pars.length
  g0 : 0 ≤ got
  l0 : 0 ≤ lost
  nx : n.next ≤ B
  sB : sent ≤ B
theorem KeepI.mono {T T' : Prop} {B B' : Int} {n : Net} {sent got lost : Int} (h : KeepI T B n sent got lost) (ht : T' → T) (hb : B ≤ B') : KeepI T' B' n sent got lost :=
  ⟨h.r, h.d, h.p, h.due, fun t => h.late (ht t), h.sum, h.g0, h.l0, by have := h.nx; omega, by have := h.sB; omega⟩
theorem parts312 : partsB [3, 12] = true := by decide +kernel
theorem keep_zero : KeepI (15 ≤ (0 : Int)) 0 net0 0 0 0 := by
  refine ⟨⟨?_, ?_, ?_, ?_, ?_, ?_, ?_⟩, rfl, .inl rfl, ?_, ?_, rfl, ?_, ?_, ?_, ?_⟩ <;> first | (simp [net0]; done) | (simp [net0, partsB, partsN, delsB, idxF]; done) | omega
theorem keep_part {T : Prop} {B : Int} {n : Net} {sent got lost : Int} (h : KeepI T B n sent got lost) : partF n [3, 12] = (⟨n.pars, n.next, [3, 12], n.dels⟩, 0) ∧ KeepI T B ⟨n.pars, n.next, [3, 12], n.dels⟩ sent got lost := by
  refine ⟨?_, ⟨h.r.len, h.r.n0, h.r.n1, parts312, h.r.dels, h.r.each, h.r.srt⟩, h.d, .inr rfl, h.due, h.late, h.sum, h.g0, h.l0, h.nx, h.sB⟩
  unfold partF
  rw [if_neg (by simp [chkN_iff.2 h.r]), if_neg (by simp [parts312])]
theorem keep_heal {T : Prop} {B : Int} {n : Net} {sent got lost : Int} (h : KeepI T B n sent got lost) : KeepI T B (healF n) sent got lost :=
  ⟨⟨h.r.len, h.r.n0, h.r.n1, by simp [healF, partsB, partsN], by simp [healF, delsB, idxF], h.r.each, h.r.srt⟩, rfl, .inl rfl, h.due, h.late, h.sum, h.g0, h.l0, h.nx, h.sB⟩
theorem keep_due {T : Prop} {B now : Int} {n : Net} {sent got lost : Int} (h : KeepI T B n sent got lost) :
    ∃ out m, dueF n now = (out, m) ∧ out.length ≤ n.pars.length ∧ m.pars.length ≤ n.pars.length ∧ KeepI (14 ≤ now) B m sent (got + out.length) (lost + n.pars.length - m.pars.length - out.length) := by
  refine ⟨_, _, dueF_right h.r now, ?_, ?_, ?_⟩
  · exact Nat.le_trans (List.length_filter_le _ _) (by rw [List.length_take]; omega)
  · simp only [List.length_drop]; omega
  have hf : ((n.pars.take (posQ (dueQ now) n.pars)).filter (fun x => !apartB n x.src x.dst)).length ≤ posQ (dueQ now) n.pars := Nat.le_trans (List.length_filter_le _ _) (by rw [List.length_take]; omega)
  have hp := posQ_le (dueQ now) n.pars
  have hall : 14 ≤ now → posQ (dueQ now) n.pars = n.pars.length := fun ht => posQ_all fun x hx => by
    have := h.due x hx
    simp only [dueQ, decide_eq_true_eq]; omega
  generalize ((n.pars.take (posQ (dueQ now) n.pars)).filter (fun x => !apartB n x.src x.dst)).length = q at *
  have hr := right_rest h.r (posQ (dueQ now) n.pars)
  have hs := h.sum
  have hg := h.g0
  have hl := h.l0
  generalize posQ (dueQ now) n.pars = p at *
  refine ⟨hr, h.d, h.p, fun x hx => h.due x (List.mem_of_mem_drop hx), fun ht => ?_, ?_, ?_, ?_, h.nx, h.sB⟩
  · dsimp only; rw [hall ht]; simp
  · dsimp only; rw [List.length_drop]; omega
  · omega
  · dsimp only; rw [List.length_drop]; omega
theorem keep_send {B now : Int} {n : Net} {sent got lost : Int} (h : KeepI (14 ≤ now) B n sent got lost) (h0 : 0 ≤ now) (h1 : now < 14) (hB : B ≤ 1000) {a b : Int} (ha : 0 ≤ a ∧ a ≤ 3) (hb : 0 ≤ b ∧ b ≤ 3) :
    ∃ m e, sendF n a b 0 now = (m, e) ∧ ((e = 5 ∧ a = b) ∨ (e = 0 ∧ m.next = n.next + 1 ∧ KeepI (14 ≤ now) (B + 1) m (sent + 1) got lost)) := by
  by_cases hab : a = b
  · subst hab
    exact ⟨_, _, sendF_same h.r a 0 now, .inl ⟨rfl, rfl⟩⟩
  have hd : delayF n a b = 1 := by unfold delayF; rw [if_pos (by simp [h.d])]
  have hl : (n.pars.length : Int) ≤ B := by
    have := h.sum; have := h.g0; have := h.l0; have := h.sB; omega
  have hn := h.nx
  obtain ⟨e1, e2⟩ := sendF_put h.r 0 (a := a) (b := b) (now := now) (by omega) (by omega) hab (by omega) (by omega) (by omega) (by omega)
  refine ⟨_, _, e1, .inr ⟨rfl, rfl, e2, h.d, h.p, fun x hx => ?_, fun ht => by omega, ?_, h.g0, h.l0, by have := h.nx; show n.next + 1 ≤ B + 1; omega, by have := h.sB; omega⟩⟩
  · rcases putN_mem hx with rfl | hx
    · dsimp only; omega
    · exact h.due x hx
  · rw [putN_len]; have := h.sum; omega
theorem keep_end {B : Int} {n : Net} {sent got lost : Int} (h : KeepI (15 ≤ (20 : Int)) B n sent got lost) : ∃ out m, dueF n 100 = (out, m) ∧ m.pars = [] ∧ sent = got + lost ∧ 0 ≤ lost ∧ n.pars = [] := by
  have hp := h.late (by decide)
  refine ⟨_, _, dueF_right h.r 100, by simp [hp], by have := h.sum; rw [hp] at this; simpa using this, h.l0, hp⟩

/-- What NetworkOrder's loops keep. -/
structure OrdI (lo hi d : Int) (n : Net) (sent got : Int) : Prop where
  r : RightN n
  p : n.parts = []
  dl : delayF n 0 1 = d
  nx : n.next = sent
  g0 : 0 ≤ got
  sum : sent = got + n.pars.length
  el : ∀ i, i < n.pars.length → (nth n.pars i).slot = got + i + 1 ∧ (nth n.pars i).src = 0 ∧ (nth n.pars i).dst = 1 ∧ lo ≤ (nth n.pars i).due ∧ (nth n.pars i).due ≤ hi ∧ (nth n.pars i).due ≤ 14 + d
theorem nth_take {α : Type} [Inhabited α] {l : List α} {p i : Nat} (h : i < (l.take p).length) : nth (l.take p) i = nth l i := by
  have h2 : i < l.length := by rw [List.length_take] at h; omega
  rw [nth_getElem _ i h, nth_getElem _ i h2, List.getElem_take]
theorem nth_drop {α : Type} [Inhabited α] {l : List α} {p i : Nat} (h : i < (l.drop p).length) : nth (l.drop p) i = nth l (p + i) := by
  have h2 : p + i < l.length := by rw [List.length_drop] at h; omega
  rw [nth_getElem _ i h, nth_getElem _ _ h2, List.getElem_drop]
theorem ord_due {now hi d : Int} {n : Net} {sent got : Int} (h : OrdI now hi d n sent got) : ∃ out m, dueF n now = (out, m) ∧ out.length ≤ n.pars.length ∧ (∀ i, i < out.length → (nth out i).slot = got + i + 1 ∧ (nth out i).due = now ∧ (nth out i).src = 0 ∧ (nth out i).dst = 1) ∧
    OrdI (now + 1) hi d m sent (got + out.length) := by
  have hm := dueQ_mono (now := now) h.r.srt
  have hi1 := @posQ_iff (dueQ now) n.pars hm
  have hp := posQ_le (dueQ now) n.pars
  have hf : (n.pars.take (posQ (dueQ now) n.pars)).filter (fun x => !apartB n x.src x.dst) = n.pars.take (posQ (dueQ now) n.pars) := by
    rw [List.filter_eq_self]
    intro x _
    rw [apart_none h.p]; rfl
  refine ⟨_, _, dueF_right h.r now, ?_⟩
  rw [hf]
  have hr := right_rest h.r (posQ (dueQ now) n.pars)
  have hlen : (n.pars.take (posQ (dueQ now) n.pars)).length = posQ (dueQ now) n.pars := by rw [List.length_take]; omega
  refine ⟨by omega, fun i hi => ?_, hr, h.p, h.dl, h.nx, by have := h.g0; omega, ?_, fun i hi => ?_⟩
  · rw [nth_take hi]
    obtain ⟨q1, q2, q3, q4, _⟩ := h.el i (by omega)
    have q5 := (hi1 i (by omega)).2 (by omega)
    simp only [dueQ, decide_eq_true_eq] at q5
    exact ⟨q1, by omega, q2, q3⟩
  · rw [hlen]; dsimp only; rw [List.length_drop]; have := h.sum; omega
  · dsimp only at hi ⊢
    rw [nth_drop hi, hlen]
    have hi2 : posQ (dueQ now) n.pars + i < n.pars.length := by rw [List.length_drop] at hi; omega
    obtain ⟨q1, q2, q3, q4, q5⟩ := h.el _ hi2
    have q6 : ¬ (dueQ now (nth n.pars (posQ (dueQ now) n.pars + i)) = true) := fun q => by have := (hi1 _ hi2).1 q; omega
    simp only [dueQ, decide_eq_true_eq] at q6
    refine ⟨by rw [q1]; omega, q2, q3, by omega, q5⟩
theorem ord_send {now d : Int} {n : Net} {sent got : Int} (h : OrdI (now + 1) (now + d) d n sent got) (h0 : 0 ≤ now) (h1 : now < 15) (d0 : 1 ≤ d) (d1 : d ≤ 8) (hs : sent ≤ 1000) :
    ∃ m, sendF n 0 1 (sent + 1) now = (m, 0) ∧ OrdI (now + 1) (now + d) d m (sent + 1) got := by
  have hd := h.dl
  have hn := h.nx
  have hsum := h.sum
  have hg := h.g0
  obtain ⟨e1, e2⟩ := sendF_put h.r (sent + 1) (a := 0) (b := 1) (now := now) (by omega) (by omega) (by omega) (by omega) (by omega) (by omega) (by omega)
  refine ⟨_, e1, ?_⟩
  have hall : posQ (lessQ ⟨now + delayF n 0 1, 0, 1, n.next, sent + 1⟩) n.pars = n.pars.length := by
    refine posQ_all fun y hy => ?_
    simp only [lessQ, decide_eq_true_eq]
    rw [cmpPc_lt]
    obtain ⟨p, hp, rfl⟩ := mem_nth hy
    obtain ⟨q1, q2, q3, q4, q5, q6⟩ := h.el p hp
    have q7 := (h.r.each _ hy).num
    unfold ltPc
    dsimp only
    omega
  have hpars : (putN n ⟨now + delayF n 0 1, 0, 1, n.next, sent + 1⟩).pars = n.pars ++ [⟨now + delayF n 0 1, 0, 1, n.next, sent + 1⟩] := by
    unfold putN
    rw [hall]; simp
  refine ⟨e2, h.p, h.dl, by show n.next + 1 = sent + 1; omega, hg, by rw [putN_len]; omega, fun i hi => ?_⟩
  rw [putN_len] at hi
  rw [hpars]
  by_cases hin : i < n.pars.length
  · have e : nth (n.pars ++ [⟨now + delayF n 0 1, 0, 1, n.next, sent + 1⟩]) i = nth n.pars i := by
      rw [nth_getElem _ i (by simp; omega), nth_getElem _ i hin, List.getElem_append_left hin]
    rw [e]; exact h.el i hin
  · obtain rfl : i = n.pars.length := by omega
    have e : nth (n.pars ++ [⟨now + delayF n 0 1, 0, 1, n.next, sent + 1⟩]) n.pars.length = (⟨now + delayF n 0 1, 0, 1, n.next, sent + 1⟩ : Pcl) := by
      rw [nth_getElem _ _ (by simp)]; simp
    rw [e]
    dsimp only
    omega
theorem ord_next {now d : Int} {n : Net} {sent got : Int} (h : OrdI (now + 1) (now + d) d n sent got) : OrdI (now + 1) (now + 1 + d) d n sent got :=
  ⟨h.r, h.p, h.dl, h.nx, h.g0, h.sum, fun i hi => by obtain ⟨q1, q2, q3, q4, q5, q6⟩ := h.el i hi; exact ⟨q1, q2, q3, q4, by omega, q6⟩⟩
theorem ord_end {hi d : Int} {n : Net} {sent got : Int} (h : OrdI 25 hi d n sent got) (d1 : d ≤ 8) : n.pars = [] ∧ sent = got := by
  have h0 : n.pars.length = 0 := by
    refine Classical.byContradiction fun hn => ?_
    obtain ⟨q1, q2, q3, q4, q5, q6⟩ := h.el 0 (by omega)
    omega
  exact ⟨List.eq_nil_of_length_eq_zero h0, by have := h.sum; omega⟩
def delB (d : Int) : Bool := delsB ((List.replicate 100 0).set 1 d) && (nth ((List.replicate 100 (0 : Int)).set 1 d) 1 == d)
theorem delB_all : ∀ d : Nat, d < 8 → delB ((d : Int) + 1) = true := by decide +kernel
theorem ord_zero {d : Int} (d0 : 1 ≤ d) (d1 : d ≤ 8) : ∃ n, delay0 net0 0 1 d = (n, 0) ∧ OrdI 0 (0 + d) d n 0 0 ∧ n.pars = [] ∧ n.dels.length = 100 := by
  have hc : chkN net0 = true := by decide +kernel
  refine ⟨⟨[], 0, [], (List.replicate 100 0).set 1 d⟩, ?_, ?_, rfl, by simp⟩
  · unfold delay0
    rw [if_neg (by simp [hc]), if_neg (by simp [nodeB]), if_neg (by omega)]
    rfl
  have hb := delB_all (d - 1).toNat (by omega)
  rw [show (((d - 1).toNat : Nat) : Int) + 1 = d by omega] at hb
  unfold delB at hb
  simp only [Bool.and_eq_true, beq_iff_eq] at hb
  refine ⟨⟨by simp, by simp, by simp, by simp [partsB, partsN], hb.1, by simp, by simp⟩, rfl, ?_, rfl, Int.le_refl _, rfl, fun i hi => by simp at hi⟩
  unfold delayF
  rw [if_neg (by simp)]
  rw [show ((0 : Int) * 10 + 1).toNat = 1 from rfl]
  dsimp only
  rw [hb.2]; omega

def bnotI (a b : Int) : Int := IntKind.i64.wrap ((BitVec.ofInt 64 a &&& ~~~ BitVec.ofInt 64 b).toNat : Int)
def bitI (l x : Int) : Int := bandI (l.fdiv (2 ^ (min x.toNat 64))) 1
def partsOK (l x y : Int) : Bool := partsB [l, bnotI 63 l] && ((apartB ⟨[], 0, [l, bnotI 63 l], []⟩ x y == !(bitI l x == bitI l y)) && (apartB ⟨[], 0, [l, bnotI 63 l], []⟩ x y == apartB ⟨[], 0, [l, bnotI 63 l], []⟩ y x))
theorem partsOK_all : ∀ l : Nat, l < 62 → ∀ x : Nat, x < 6 → ∀ y : Nat, y < 6 → partsOK ((l : Int) + 1) x y = true := by decide +kernel
theorem parts_law {l x y : Int} (l0 : 1 ≤ l) (l1 : l ≤ 62) (x0 : 0 ≤ x) (x1 : x < 6) (y0 : 0 ≤ y) (y1 : y < 6) :
    ∃ n b, partF net0 [l, bnotI 63 l] = (n, 0) ∧ apartB n x y = b ∧ apartB n y x = b ∧ (!(bitI l x == bitI l y)) = b ∧ n.pars = [] ∧ n.parts.length = 2 ∧ n.dels = [] ∧ n.next = 0 ∧ RightN n ∧
      (¬ x = y → ∃ m p rest q none, sendF n x y 0 5 = (m, 0) ∧ dueF m 6 = (p, rest) ∧ dueF (healF m) 6 = (q, none) ∧ (decide (p.length = 0)) = b ∧ rest.pars = [] ∧ q.length = 1 ∧ none.pars = [] ∧ m.pars.length = 1 ∧ m.parts.length = 2 ∧ m.dels = [] ∧ RightN m ∧ RightN (healF m)) := by
  have hb := partsOK_all (l - 1).toNat (by omega) x.toNat (by omega) y.toNat (by omega)
  rw [show (((l - 1).toNat : Nat) : Int) + 1 = l by omega, show ((x.toNat : Nat) : Int) = x by omega, show ((y.toNat : Nat) : Int) = y by omega] at hb
  unfold partsOK at hb
  simp only [Bool.and_eq_true, beq_iff_eq] at hb
  obtain ⟨h1, h2, h3⟩ := hb
  have hc : chkN net0 = true := by decide +kernel
  have hr : RightN ⟨[], 0, [l, bnotI 63 l], []⟩ := ⟨by simp, by simp, by simp, h1, by simp [delsB, idxF], by simp, by simp⟩
  refine ⟨⟨[], 0, [l, bnotI 63 l], []⟩, apartB ⟨[], 0, [l, bnotI 63 l], []⟩ x y, ?_, rfl, h3.symm, h2.symm, rfl, rfl, rfl, rfl, hr, fun hxy => ?_⟩
  · unfold partF
    rw [if_neg (by simp [hc]), if_neg (by simp [h1])]
    rfl
  have hd : delayF ⟨[], 0, [l, bnotI 63 l], []⟩ x y = 1 := if_pos rfl
  obtain ⟨e1, e2⟩ := sendF_put hr 0 (a := x) (b := y) (now := 5) (by omega) (by omega) hxy (by omega) (by rw [hd]; omega) (by simp) (by simp)
  rw [hd] at e1 e2
  have hm : putN ⟨[], 0, [l, bnotI 63 l], []⟩ ⟨5 + 1, x, y, 0, 0⟩ = ⟨[⟨6, x, y, 0, 0⟩], 1, [l, bnotI 63 l], []⟩ := rfl
  dsimp only at e1 e2
  rw [hm] at e1 e2
  have hh : RightN (healF ⟨[⟨6, x, y, 0, 0⟩], 1, [l, bnotI 63 l], []⟩) := ⟨e2.len, e2.n0, e2.n1, by simp [healF, partsB, partsN], by simp [healF, delsB, idxF], e2.each, e2.srt⟩
  have hp : posQ (dueQ 6) [⟨6, x, y, 0, 0⟩] = 1 := rfl
  refine ⟨_, _, _, _, _, e1, dueF_right e2 6, dueF_right hh 6, ?_, ?_, ?_, ?_, rfl, rfl, rfl, e2, hh⟩
  · dsimp only
    rw [hp]
    have ha : apartB ⟨[⟨6, x, y, 0, 0⟩], 1, [l, bnotI 63 l], []⟩ x y = apartB ⟨[], 0, [l, bnotI 63 l], []⟩ x y := rfl
    cases hb2 : apartB ⟨[], 0, [l, bnotI 63 l], []⟩ x y with
    | true => rw [hb2] at ha; simp [ha]
    | false => rw [hb2] at ha; simp [ha]
  · rfl
  · show (List.filter (fun z : Pcl => !apartB (healF ⟨[⟨6, x, y, 0, 0⟩], 1, [l, bnotI 63 l], []⟩) z.src z.dst) (List.take (posQ (dueQ 6) [⟨6, x, y, 0, 0⟩]) [⟨6, x, y, 0, 0⟩])).length = 1
    rw [hp]
    have ha : apartB (healF (⟨[(⟨6, x, y, 0, 0⟩ : Pcl)], 1, [l, bnotI 63 l], []⟩ : Net)) x y = false := apart_none rfl x y
    simp [ha]
  · rfl
end Go.Proofs.YtbfafljcclfeaaaGreatDoor
