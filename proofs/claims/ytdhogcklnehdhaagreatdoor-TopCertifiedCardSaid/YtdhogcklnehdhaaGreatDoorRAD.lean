import Derived.Test.YtdhogcklnehdhaaGreatDoorRAC
import Derived.Lib.Overlaps
import Derived.Lib.AppendZerosOnto
import Derived.Test.YtdhogcklnehdhaaGreatDoorProg
import Derived.Test.YtdhogcklnehdhaaGreatDoorRAA
namespace Go.Am
set_option linter.unusedSimpArgs false
set_option linter.unusedVariables false
set_option linter.unnecessarySimpa false
set_option linter.unusedSectionVars false
set_option maxRecDepth 100000
open Go Go.RowKit Go.Proofs.Grow
def mkO (ty sz : Nat) (c : Option Nat) (rs : List (List D)) : AO := match c with
  | none => .arr ty sz rs
  | some k => .buf ty sz k rs
theorem mkO_live (ty sz : Nat) (c : Option Nat) (rs : List (List D)) : (mkO ty sz c rs).live = true := by cases c <;> rfl
section
variable {cx : Cx} {μ : Nat → Option Value} {T : Nat → Option AV} {M : Nat → Option AO} {a : Act} {w w2 : World}
/-- What such an object lies as. -/
theorem InvM.cells (h : InvM cx μ T M a w) {g ty sz : Nat} {c : Option Nat} {rs : List (List D)} (hg : M g = some (mkO ty sz c rs)) : ∃ ad m cap xs, μ g = some (.slice ad m cap) ∧ xs.length = rs.length * sz ∧ rs.length ≤ cap ∧ cap ≤ maxLen ∧ (ad = none → cap = 0) ∧
    (∀ p, ad = some p → ∃ b cur, p = ⟨b, 0, none⟩ ∧ w.heap[b]? = some (.cells cur ty (0, 0)) ∧ cur.size = cap * sz ∧ cur.toList.take (rs.length * sz) = xs) ∧ (∀ r ∈ rs, r.length = sz) ∧ VDs (Ht cx μ M) w rs.flatten xs ∧ (∀ u ∈ xs, u.oneCell' = true) ∧ (∀ k, c = some k → cap = k) ∧ (c = none → m = rs.length) := by
  have ho := h.ob g _ hg
  cases c with
  | none =>
    obtain ⟨v, xs, h1, ⟨h2, h3⟩, h4, h5, h6⟩ := ho
    rcases h3 with ⟨rfl, h0⟩ | ⟨b, cap, cur, rfl, _, q2, q3, q4, q5, q6⟩
    · exact ⟨none, 0, 0, xs, h1, h2, by omega, by simp [maxLen], fun _ => rfl, fun p hp => (by cases hp), h4, h5, h6, fun k hk => (by cases hk), fun _ => h0.symm⟩
    · exact ⟨_, _, cap, xs, h1, h2, q3, q4, fun e => (by cases e), fun p hp => (by obtain rfl := Option.some.inj hp; exact ⟨b, cur, rfl, q2, q5, q6⟩), h4, h5, h6, fun k hk => (by cases hk), fun _ => rfl⟩
  | some k =>
    obtain ⟨ad, m, xs, h1, h2, h3, h4, h5, h6, h7, h8, h9⟩ := ho
    exact ⟨ad, m, k, xs, h1, h2, h3, h4, h5, h6, h7, h8, h9, fun k' hk => Option.some.inj hk, fun e => by cases e⟩
theorem InvM.back (h : InvM cx μ T M a w) {H' : Nat → Prop} {μ' : Nat → Option Value} {w2 : World} {g ty sz : Nat} {c : Option Nat} {rs : List (List D)} {ad : Option Addr} {m cap : Nat} {ys : List Value} (h1 : μ' g = some (.slice ad m cap)) (h2 : ys.length = rs.length * sz) (h3 : rs.length ≤ cap) (h4 : cap ≤ maxLen) (h5 : ad = none → cap = 0)
    (h6 : ∀ p, ad = some p → ∃ b cur, p = ⟨b, 0, none⟩ ∧ w2.heap[b]? = some (.cells cur ty (0, 0)) ∧ cur.size = cap * sz ∧ cur.toList.take (rs.length * sz) = ys) (h7 : ∀ r ∈ rs, r.length = sz) (h8 : VDs H' w2 rs.flatten ys) (h9 : ∀ u ∈ ys, u.oneCell' = true)
    (hc : ∀ k, c = some k → cap = k) (hm : c = none → m = rs.length) : OR H' μ' w2 g (mkO ty sz c rs) := by
  cases c with
  | none =>
    obtain rfl := hm rfl
    refine ⟨_, ys, h1, ⟨h2, ?_⟩, h7, h8, h9⟩
    cases ad with
    | none =>
      have hz := h5 rfl
      have : rs.length = 0 := by omega
      exact .inl ⟨by rw [this, hz], this⟩
    | some p =>
      obtain ⟨b, cur, rfl, q1, q2, q3⟩ := h6 p rfl
      exact .inr ⟨b, cap, cur, rfl, Nat.zero_le _, q1, h3, h4, q2, q3⟩
  | some k =>
    obtain rfl := hc k rfl
    exact ⟨ad, m, ys, h1, h2, h3, h4, h5, h6, h7, h8, h9⟩
/-- A slice that is a part of an object, or the whole. -/
inductive Part (rs : List (List D)) : AV → Nat → Nat → Nat → Nat → Option Nat → Prop
  | own {g sz : Nat} : Part rs (.own g) g sz 0 rs.length none
  | sl {g sz lo n : Nat} {c : Option Nat} : Part rs (.sl g sz lo n c) g sz lo n c
theorem Part.lies (h : InvM cx μ T M a w) {g ty sz lo n : Nat} {c c' : Option Nat} {rs : List (List D)} {y : AV} {v : Value} {H : Nat → Prop} (hp : Part rs y g sz lo n c) (hg : M g = some (mkO ty sz c' rs)) (hown : ∀ g, y = .own g → c' = none) (hv : VR H μ w y v) :
    ∃ p k ad m cap, v = .slice p n k ∧ μ g = some (.slice ad m cap) ∧ k + lo ≤ cap ∧ n ≤ k ∧ (∀ q, c = some q → k = q) ∧ (p = ad.map (·.add (lo * sz)) ∨ (k = 0 ∧ p.isSome = ad.isSome)) := by
  cases hp with
  | own =>
    cases hv with
    | @own _ p m cap hb =>
      obtain rfl := hown g rfl
      obtain ⟨ad, m', cap', xs, q1, _, q3, _, _, _, _, _, _, _, q10⟩ := h.cells hg
      rw [q1] at hb
      obtain ⟨rfl, rfl, rfl⟩ : ad = p ∧ m' = m ∧ cap' = cap := by simpa using hb
      obtain rfl := q10 rfl
      refine ⟨ad, cap', ad, _, cap', rfl, q1, by omega, q3, fun q hq => (by cases hq), .inl ?_⟩
      cases ad <;> simp [Addr.add]
  | sl =>
    cases hv with
    | sl hb hk hn hc ha => exact ⟨_, _, _, _, _, rfl, hb, hk, hn, hc, ha⟩
end
section
variable {P : Program} {tbl : List (Nat × TI)} {o : Oper} {T : Nat → Option AV} {M : Nat → Option AO}
theorem run_cut (htb : TOK P tbl) {t e : TypeId} {i j : TI} (ht : lk tbl t = some i) (hs : i.isS = true) (he : i.el = some e) (hj : lk tbl e = some j) {lo hi mx : Option Value} {n cap a b c : Nat} (ad : Option Addr) (hlo : bdV lo 0 a) (hhi : bdV hi n b) (hmx : bdV mx cap c) (hm : mx = none ∨ hi.isSome = true) (hab : a ≤ b) (hb : b ≤ c) (hn : c ≤ cap) (w : World) :
    (Instr.sliceAt t (.slice ad n cap) lo hi mx).run P w = .ok (.slice (if c = a then ad else ad.map (·.add (a * j.size))) (b - a) (c - a)) w := by
  have h := slice_desc (htb _ _ ht) hs he
  have hz := run_size (P := P) (w := w) (htb _ _ hj)
  have h1 : (b : Int) ≤ (cap : Int) := by omega
  have h2 : (a : Int) ≤ (b : Int) := by omega
  have h3 : (a : Int) ≤ (cap : Int) := by omega
  have h7 : (c : Int) ≤ (cap : Int) := by omega
  have h8 : (b : Int) ≤ (c : Int) := by omega
  have h4 : b ≤ cap := by omega
  have h5 : ¬ c < b := by omega
  have h6 : ¬ b < a := by omega
  have h9 : ¬ cap < c := by omega
  have h10 : ¬ cap < b := by omega
  rcases hlo with ⟨rfl, rfl⟩ | ⟨k, rfl⟩ <;> rcases hhi with ⟨rfl, rfl⟩ | ⟨k', rfl⟩ <;> rcases hmx with ⟨rfl, rfl⟩ | ⟨k2, rfl⟩ <;> simp at hm <;>
    simp [Instr.sliceAt, Instr.slice, Instr.sliceBounds, Instr.sliceBound, asIntOf, run_underlying h, hz, h1, h2, h3, hab, h4, h5, h6, h7, h8, h9, h10, hb, hn]
theorem add_map (ad : Option Addr) (x y : Nat) : (ad.map (·.add x)).map (·.add y) = ad.map (·.add (x + y)) := by
  cases ad with
  | none => rfl
  | some z =>
    simp only [Option.map_some, Option.some.injEq]
    obtain ⟨bb, oo, sp⟩ := z
    unfold Addr.add
    by_cases hx : x = 0 <;> by_cases hy : y = 0 <;> simp [hx, hy, Nat.add_assoc]
theorem cut_addr {ad p : Option Addr} {l0 a k m sz : Nat} (q5 : p = ad.map (·.add (l0 * sz)) ∨ (k = 0 ∧ p.isSome = ad.isSome)) (hm : m ≤ k) (ha : a ≤ m) :
    (if m = a then p else p.map (·.add (a * sz))) = ad.map (·.add ((l0 + a) * sz)) ∨ (m - a = 0 ∧ (if m = a then p else p.map (·.add (a * sz))).isSome = ad.isSome) := by
  rcases q5 with rfl | ⟨rfl, q5⟩
  · by_cases e : m = a
    · rw [if_pos e]; exact .inr ⟨by omega, by simp⟩
    · rw [if_neg e, add_map, Nat.add_mul]; exact .inl rfl
  · rw [if_pos (by omega)]; exact .inr ⟨by omega, q5⟩
theorem bd_ev {x : Option Operand} {d n : Nat} {cx : Cx} {μ : Nat → Option Value} {T' : Nat → Option AV} {M' : Nat → Option AO} {ac : Act} {w : World} (h : InvM cx μ T' M' ac w) (hT : ∀ t ∈ opTs o, T' t = T t) (hx : ∀ y, x = some y → y ∈ o.op.operands.toList) (hb : bdA T x d n) : bdV (x.map ac.eval) d n := by
  rcases hb with ⟨rfl, rfl⟩ | ⟨y, k, rfl, hy⟩
  · exact .inl ⟨rfl, rfl⟩
  · exact .inr ⟨k, by simp [(h.ev (x := y) hT (hx y rfl) hy).val]⟩
/-- A part of a slice. -/
theorem step_cut (htb : TOK P tbl) {ty e ety : TypeId} {x : Operand} {lo hi : Option Operand} {i j : TI} {g sz l0 n a b : Nat} {c c' c2 : Option Nat} {y : AV} {rs : List (List D)} (ho : o.op = .slice ty x lo hi none) (ht : lk tbl ty = some i) (hs : i.isS = true) (he : i.el = some e) (hj : lk tbl e = some j) (hsz : j.size = sz)
    (hx : evA T x = some y) (hp : Part rs y g sz l0 n c) (hg : M g = some (mkO ety sz c' rs)) (hown : ∀ g', y = .own g' → c' = none) (hlo : bdA T lo 0 a) (hhi : bdA T hi n b) (hb : b ≤ n ∨ ∃ q, c = some q ∧ b ≤ q) (hab : a ≤ b) (hc2 : c2 = c.map (· - a)) :
    StepOK P o T M ⟨.sl g sz (l0 + a) (b - a) c2, [g], []⟩ :=
  step_read [g] fun cx μ T' M' ac w h hT hM => by
    subst hsz
    subst hc2
    rw [← hM g (by simp)] at hg
    have h1 := h.ev (x := x) hT (by simp [ho, Op.operands]) hx
    have hl := bd_ev h hT (fun y e => by subst e; simp [ho, Op.operands]) hlo
    have hh := bd_ev h hT (fun y e => by subst e; simp [ho, Op.operands]) hhi
    obtain ⟨p, k, ad, m', cap, hv, q1, q2, q3, q4, q5⟩ := hp.lies h hg hown h1
    have hbk : b ≤ k := by
      rcases hb with hb | ⟨q, hq, hb⟩
      · omega
      · rw [q4 q hq]; exact hb
    refine ⟨.slice (if k = a then p else p.map (·.add (a * j.size))) (b - a) (k - a), ?_, .sl q1 (k := k - a) (by omega) (by omega) (fun q hq => ?_) (cut_addr q5 (Nat.le_refl _) (by omega))⟩
    · simp only [execOp, ho, hv, Option.map_none, Sem.run_bind, run_cut htb ht hs he hj p hl hh (.inl ⟨rfl, rfl⟩) (.inl rfl) hab hbk (Nat.le_refl _), Result.andThen_ok, Sem.run_pure]
    · cases c with
      | none => cases hq
      | some z => rw [q4 z rfl]; simpa using hq
theorem step_cut3 (htb : TOK P tbl) {ty e ety : TypeId} {x z : Operand} {lo hi : Option Operand} {i j : TI} {g sz l0 n a b m : Nat} {k0 : IntKind} {c c' : Option Nat} {y : AV} {rs : List (List D)} (ho : o.op = .slice ty x lo hi (some z)) (ht : lk tbl ty = some i) (hs : i.isS = true) (he : i.el = some e) (hj : lk tbl e = some j) (hsz : j.size = sz)
    (hx : evA T x = some y) (hp : Part rs y g sz l0 n c) (hg : M g = some (mkO ety sz c' rs)) (hown : ∀ g', y = .own g' → c' = none) (hlo : bdA T lo 0 a) (hi2 : hi.isSome = true) (hhi : bdA T hi n b) (hz : evA T z = some (.d (.v (.int k0 (m : Int))))) (hab : a ≤ b) (hbm : b ≤ m) (hmn : m ≤ n) :
    StepOK P o T M ⟨.sl g sz (l0 + a) (b - a) none, [g], []⟩ :=
  step_read [g] fun cx μ T' M' ac w h hT hM => by
    subst hsz
    rw [← hM g (by simp)] at hg
    have h1 := h.ev (x := x) hT (by simp [ho, Op.operands]) hx
    have hl := bd_ev h hT (fun y e => by subst e; simp [ho, Op.operands]) hlo
    have hh := bd_ev h hT (fun y e => by subst e; simp [ho, Op.operands]) hhi
    obtain ⟨p, k, ad, m', cap, hv, q1, q2, q3, q4, q5⟩ := hp.lies h hg hown h1
    have hm : bdV (some (ac.eval z)) k m := .inr ⟨k0, by rw [(h.ev (x := z) hT (by simp [ho, Op.operands]) hz).val]⟩
    refine ⟨.slice (if m = a then p else p.map (·.add (a * j.size))) (b - a) (m - a), ?_, .sl q1 (k := m - a) (by omega) (by omega) (fun q hq => by cases hq) (cut_addr q5 (by omega) (by omega))⟩
    simp only [execOp, ho, hv, Option.map_some, Sem.run_bind, run_cut htb ht hs he hj p hl hh hm (.inr (by simpa using hi2)) hab hbm (by omega), Result.andThen_ok, Sem.run_pure]
theorem step_len_sl (htb : TOK P tbl) {ty e : TypeId} {x : Operand} {i : TI} {g sz lo n : Nat} {c : Option Nat} (ho : o.op = .call { callee := .builtin .len, args := #[x], argTypes := #[ty] }) (ht : lk tbl ty = some i) (hs : i.isS = true) (he : i.el = some e)
    (hx : evA T x = some (.sl g sz lo n c)) : StepOK P o T M ⟨.d (.v (.int .i64 (n : Int))), [], []⟩ :=
  step_read [] fun cx μ T' M' a w h hT hM => by
    have h1 := h.ev (x := x) hT (by simp [ho, Op.operands, Call.operands]) hx
    have hd := slice_desc (htb _ _ ht) hs he
    generalize hv : a.eval x = v at h1
    cases h1 with
    | sl => exact ⟨_, run_len ho hv (by simp [Builtin.len_, run_underlying hd, goInt]), .d (.v _)⟩
theorem step_cap_sl (htb : TOK P tbl) {ty e : TypeId} {x : Operand} {i : TI} {g sz lo n c : Nat} (ho : o.op = .call { callee := .builtin .cap, args := #[x], argTypes := #[ty] }) (ht : lk tbl ty = some i) (hs : i.isS = true) (he : i.el = some e)
    (hx : evA T x = some (.sl g sz lo n (some c))) : StepOK P o T M ⟨.d (.v (.int .i64 (c : Int))), [], []⟩ :=
  step_read [] fun cx μ T' M' a w h hT hM => by
    have h1 := h.ev (x := x) hT (by simp [ho, Op.operands, Call.operands]) hx
    have hd := slice_desc (htb _ _ ht) hs he
    generalize hv : a.eval x = v at h1
    cases h1 with
    | sl hb hk hn hc ha =>
      obtain rfl := hc c rfl
      exact ⟨_, by simp [execOp, ho, resolve, invoke, builtin, hv, Builtin.cap_, run_underlying hd, goInt], .d (.v _)⟩
/-- Rows written over others, or behind them. -/
theorem splice_len {rs rs2 : List (List D)} {lo : Nat} (h : lo ≤ rs.length) : (rs.take lo ++ rs2 ++ rs.drop (lo + rs2.length)).length = max rs.length (lo + rs2.length) := by
  simp only [List.length_append, List.length_take, List.length_drop]; omega
theorem flat_take {sz : Nat} {rs : List (List D)} (hs : ∀ r ∈ rs, r.length = sz) (k : Nat) (hk : k ≤ rs.length) : (rs.take k).flatten = rs.flatten.take (k * sz) := by
  have h1 : rs.flatten = (rs.take k).flatten ++ (rs.drop k).flatten := by rw [← List.flatten_append, List.take_append_drop]
  have h2 : (rs.take k).flatten.length = k * sz := by
    rw [flat_len (sz := sz) fun r hr => hs r (List.mem_of_mem_take hr), List.length_take, Nat.min_eq_left hk]
  rw [h1, ← h2, List.take_left']
  rfl
theorem flat_drop {sz : Nat} {rs : List (List D)} (hs : ∀ r ∈ rs, r.length = sz) (k : Nat) : (rs.drop k).flatten = rs.flatten.drop (k * sz) := by
  rcases Nat.le_total k rs.length with hk | hk
  · have h1 : rs.flatten = (rs.take k).flatten ++ (rs.drop k).flatten := by rw [← List.flatten_append, List.take_append_drop]
    have h2 : (rs.take k).flatten.length = k * sz := by
      rw [flat_len (sz := sz) fun r hr => hs r (List.mem_of_mem_take hr), List.length_take, Nat.min_eq_left hk]
    rw [h1, ← h2, List.drop_left']
    rfl
  · have : rs.length * sz ≤ k * sz := Nat.mul_le_mul_right _ hk
    rw [List.drop_eq_nil_of_le hk, List.drop_eq_nil_of_le (by rw [flat_len hs]; exact this)]
    rfl
theorem splice_take {α : Type} (L N : List α) {a q : Nat} (h1 : a ≤ q) (h2 : q ≤ L.length) (h3 : a + N.length ≤ L.length) :
    (L.take a ++ N ++ L.drop (a + N.length)).take (max q (a + N.length)) = (L.take q).take a ++ N ++ (L.take q).drop (a + N.length) := by
  have e1 : max q (a + N.length) = a + N.length + (q - (a + N.length)) := by omega
  have e2 : (L.take a ++ N).length = a + N.length := by simp only [List.length_append, List.length_take]; omega
  rw [e1, List.take_append, e2, Nat.add_sub_cancel_left, List.take_of_length_le (by omega), List.take_take, Nat.min_eq_left h1, List.drop_take]
theorem InvM.splice {cx : Cx} {μ : Nat → Option Value} {T' : Nat → Option AV} {M' : Nat → Option AO} {a : Act} {w : World} (h : InvM cx μ T' M' a w) {g ty sz lo : Nat} {c : Option Nat} {rs rs2 : List (List D)} (hg : M' g = some (mkO ty sz c rs)) {b m cap : Nat} {cur : Array Value} (hv : μ g = some (.slice (some ⟨b, 0, none⟩) m cap))
    (hcur : w.heap[b]? = some (.cells cur ty (0, 0))) (hsz : cur.size = cap * sz) (hlo : lo ≤ rs.length) (hfit : lo + rs2.length ≤ cap) (hno : c = none → lo + rs2.length ≤ rs.length) {news : List Value} (n1 : news.length = rs2.length * sz) (n2 : ∀ r ∈ rs2, r.length = sz) (n3 : VDs (Ht cx μ M') w rs2.flatten news) (n4 : ∀ u ∈ news, u.oneCell' = true) :
    InvM cx μ T' (upM M' [(g, mkO ty sz c (rs.take lo ++ rs2 ++ rs.drop (lo + rs2.length)))]) a (w.setRow b (cur.toList.take (lo * sz) ++ news ++ cur.toList.drop (lo * sz + news.length)).toArray) := by
  obtain ⟨ad, m', cap', xs, q1, q2, q3, q4, q5, q6, q7, q8, q9, q10, q11⟩ := h.cells hg
  rw [q1] at hv
  obtain ⟨rfl, rfl, rfl⟩ : ad = some ⟨b, 0, none⟩ ∧ m' = m ∧ cap' = cap := by simpa using hv
  obtain ⟨b', cur', e1, e2, e3, e4⟩ := q6 _ rfl
  obtain rfl : b = b' := by simpa using e1
  rw [hcur] at e2
  obtain rfl : cur = cur' := by simpa using e2
  have hl1 : lo * sz ≤ rs.length * sz := Nat.mul_le_mul_right _ hlo
  have hl2 : lo * sz + news.length ≤ cap' * sz := by rw [n1, ← Nat.add_mul]; exact Nat.mul_le_mul_right _ hfit
  have hl3 : rs.length * sz ≤ cap' * sz := Nat.mul_le_mul_right _ q3
  have hcl : cur.toList.length = cap' * sz := by simpa using hsz
  have hlen := splice_len (rs2 := rs2) hlo
  let ys : List Value := xs.take (lo * sz) ++ news ++ xs.drop (lo * sz + news.length)
  have hyl : ys.length = (rs.take lo ++ rs2 ++ rs.drop (lo + rs2.length)).length * sz := by
    rw [hlen]
    simp only [ys, List.length_append, List.length_take, List.length_drop, q2, n1]
    rcases Nat.le_total rs.length (lo + rs2.length) with hle | hle
    · have : rs.length * sz ≤ (lo + rs2.length) * sz := Nat.mul_le_mul_right _ hle
      rw [Nat.max_eq_right hle]
      rw [Nat.add_mul] at this ⊢
      omega
    · have : (lo + rs2.length) * sz ≤ rs.length * sz := Nat.mul_le_mul_right _ hle
      rw [Nat.max_eq_left hle]
      rw [Nat.add_mul] at this
      omega
  refine h.write hg (mkO_live _ _ _ _) (mkO_live _ _ _ _) q1 rfl (chg_setRow w b _) fun H' hk hH => h.back q1 hyl (by rw [hlen]; omega) q4 (fun e => by cases e) (fun p hp => ?_) (fun r hr => ?_) ?_ (fun u hu => ?_) q10 (fun e => by rw [hlen, q11 e]; have := hno e; omega)
  · obtain rfl := Option.some.inj hp
    refine ⟨b, _, rfl, setRow_heap w b _ _ _ _ hcur, ?_, ?_⟩
    · simp only [List.size_toArray, List.length_append, List.length_take, List.length_drop, hcl]; omega
    · have e5 : xs = cur.toList.take (rs.length * sz) := e4.symm
      have e6 : (rs.take lo ++ rs2 ++ rs.drop (lo + rs2.length)).length * sz = max (rs.length * sz) (lo * sz + news.length) := by
        rw [hlen, n1, ← Nat.add_mul]
        rcases Nat.le_total rs.length (lo + rs2.length) with hle | hle
        · rw [Nat.max_eq_right hle, Nat.max_eq_right (Nat.mul_le_mul_right _ hle)]
        · rw [Nat.max_eq_left hle, Nat.max_eq_left (Nat.mul_le_mul_right _ hle)]
      rw [e6]
      simp only [ys, e5]
      exact splice_take _ _ hl1 (by rw [hcl]; exact hl3) (by rw [hcl]; exact hl2)
  · rcases List.mem_append.1 hr with hr | hr
    · rcases List.mem_append.1 hr with hr | hr
      · exact q7 r (List.mem_of_mem_take hr)
      · exact n2 r hr
    · exact q7 r (List.mem_of_mem_drop hr)
  · have e6 : (rs.take lo ++ rs2 ++ rs.drop (lo + rs2.length)).flatten = rs.flatten.take (lo * sz) ++ rs2.flatten ++ rs.flatten.drop (lo * sz + news.length) := by
      rw [List.flatten_append, List.flatten_append, flat_take q7 _ hlo, flat_drop q7, n1, Nat.add_mul]
    rw [e6]
    have hold := VDs.vrs (μ := μ) q8
    have hnew := VDs.vrs (μ := μ) n3
    refine VRs.vds (μ := μ) ?_
    simp only [List.map_append, List.map_take, List.map_drop, ys]
    exact (((hold.take _).append hnew).append (hold.drop _)).grow (fun _ _ hk => hk) hk
  · simp only [ys, List.mem_append] at hu
    rcases hu with (hu | hu) | hu
    · exact q9 u (List.mem_of_mem_take hu)
    · exact n4 u hu
    · exact q9 u (List.mem_of_mem_drop hu)
/-- What is copied or appended: n elements, the first of which are known rows. -/
inductive SrcP (T : Nat → Option AV) (M : Nat → Option AO) (e : TypeId) (sz : Nat) (x : Operand) : List Nat → Nat → List (List D) → Prop
  | src {L : List Nat} {rs : List (List D)} (h : Src T M e sz x L rs) : SrcP T M e sz x L rs.length rs
  | part {g lo n : Nat} {c c' : Option Nat} {rs : List (List D)} (k : Nat) (h : evA T x = some (.sl g sz lo n c)) (hg : M g = some (mkO e sz c' rs)) (hk : k ≤ n) (hl : lo + k ≤ rs.length) : SrcP T M e sz x [g] n ((rs.drop lo).take k)
theorem srcP_parts {e : TypeId} {sz : Nat} {x : Operand} {L : List Nat} {n : Nat} {rs2 : List (List D)} (hsrc : SrcP T M e sz x L n rs2) (hpos : 0 < sz) {cx : Cx} {μ : Nat → Option Value} {T' : Nat → Option AV} {M' : Nat → Option AO} {a : Act} {w : World} (h : InvM cx μ T' M' a w)
    (hT : ∀ t ∈ opTs o, T' t = T t) (hx : x ∈ o.op.operands.toList) (hM : ∀ g ∈ L, M' g = M g) : ∃ ad cap news, a.eval x = .slice ad n cap ∧ (ad = none → n = 0 ∧ cap = 0) ∧ rs2.length ≤ n ∧ news.length = rs2.length * sz ∧ (∀ p, ad = some p → ∀ (k : Nat) (u : Value), news[k]? = some u → w.cell? (p.add k) = some u) ∧
      (∀ r ∈ rs2, r.length = sz) ∧ VDs (Ht cx μ M') w rs2.flatten news ∧ ∀ u ∈ news, u.oneCell' = true := by
  cases hsrc with
  | src hs =>
    obtain ⟨ad, cap, news, n1, n2, n3, n4, n5, n6, n7⟩ := src_parts (o := o) hs hpos h hT hx hM
    exact ⟨ad, cap, news, n1, n2, Nat.le_refl _, n3, n4, n5, n6, n7⟩
  | @part g lo _ c c' rs k hv hg hk hl =>
    rw [← hM g (by simp)] at hg
    have h1 := h.ev hT hx hv
    obtain ⟨p, k0, ad, m', cap, hv, q1, q2, q3, q4, q5⟩ := Part.sl.lies (rs := rs) h hg (fun g' e => by cases e) h1
    obtain ⟨ad', m2, cap2, xs, r1, r2, r3, r4, r5, r6, r7, r8, r9, _⟩ := h.cells hg
    rw [q1] at r1
    obtain ⟨rfl, rfl, rfl⟩ : ad = ad' ∧ m' = m2 ∧ cap = cap2 := by simpa using r1
    have hlen : ((rs.drop lo).take k).length = k := by simp only [List.length_take, List.length_drop]; omega
    have hfl : ((rs.drop lo).take k).flatten = (rs.flatten.drop (lo * sz)).take (k * sz) := by
      rw [flat_take (sz := sz) (fun r hr => r7 r (List.mem_of_mem_drop hr)) k (by simp only [List.length_drop]; omega), flat_drop r7]
    have hle : (lo + k) * sz ≤ rs.length * sz := Nat.mul_le_mul_right _ hl
    refine ⟨p, k0, (xs.drop (lo * sz)).take (k * sz), hv, fun hp => ?_, by rw [hlen]; exact hk, ?_, fun p' hp k' u hu => ?_, fun r hr => r7 r (List.mem_of_mem_drop (List.mem_of_mem_take hr)), ?_, fun u hu => r9 u (List.mem_of_mem_drop (List.mem_of_mem_take hu))⟩
    · have : k0 = 0 := by
        rcases q5 with q5 | ⟨q5, _⟩
        · rw [hp] at q5
          have := r5 (by cases ad with
            | none => rfl
            | some z => cases q5)
          omega
        · exact q5
      exact ⟨by omega, this⟩
    · rw [hlen, List.length_take, List.length_drop, r2, Nat.add_mul] at *
      omega
    · have hk' : k' < k * sz := by
        have := (List.getElem?_eq_some_iff.1 hu).1
        simp only [List.length_take] at this
        omega
      have hne : k ≠ 0 := by rintro rfl; simp at hk'
      rcases q5 with q5 | ⟨q5, _⟩
      · cases ad with
        | none => rw [hp] at q5; cases q5
        | some z =>
          obtain ⟨b, cur, rfl, c1, c2, c3⟩ := r6 z rfl
          rw [hp] at q5
          obtain rfl : p' = _ := Option.some.inj q5
          rw [List.getElem?_take_of_lt hk', List.getElem?_drop, ← c3, List.getElem?_take_of_lt (by rw [Nat.add_mul] at hle; omega)] at hu
          have ea : ((⟨b, 0, none⟩ : Addr).add (lo * sz)).add k' = ⟨b, lo * sz + k', none⟩ := by
            unfold Addr.add
            by_cases hx : lo * sz = 0 <;> by_cases hy : k' = 0 <;> simp [hx, hy]
          rw [ea]
          simpa [World.cell?, c1] using hu
      · omega
    · rw [hfl]
      refine VRs.vds (μ := μ) ?_
      rw [List.map_take, List.map_drop]
      exact ((VDs.vrs (μ := μ) r8).drop _).take _
theorem run_copy_rows {w : World} {dT sT ty elem : TypeId} {z : Nat} (hu : P.underlying dT = some (.slice elem)) (hz : ∀ w, (sizeOf elem).run P w = .ok z w) {g o dLen dCap : Nat} {a : Option Addr} {sLen sCap : Nat} {cur : Array Value} {t : TypeId} {cs : List Value}
    (hg : w.heap[g]? = some (.cells cur t (0, 0))) (ha : a = none → Nat.min sLen dLen = 0) (hn : cs.length = Nat.min sLen dLen * z) (hsrc : ∀ p, a = some p → ∀ (j : Nat) (v : Value), cs[j]? = some v → w.cell? (p.add j) = some v) (hfit : o + cs.length ≤ cur.size) (h1 : ∀ v ∈ cs, v.oneCell' = true) :
    (Builtin.copy_ #[dT, sT] ty #[.slice (some ⟨g, o, none⟩) dLen dCap, .slice a sLen sCap]).run P w = .ok (goInt (Nat.min sLen dLen)) (w.setRow g (cur.toList.take o ++ cs ++ cur.toList.drop (o + cs.length)).toArray) := by
  have hst := run_storeCells_at P g o t cs 0 cur w hg (by simpa using hfit) h1
  cases a with
  | none =>
    have h0 := ha rfl
    obtain rfl : cs = [] := List.eq_nil_of_length_eq_zero (by rw [hn, h0, Nat.zero_mul])
    simp at hst
    simp [Builtin.copy_, run_underlying hu, Builtin.lenOf, Builtin.firstCells, hz, storeCells, setRow_self w g cur t (0, 0) hg]
  | some p =>
    have hl := run_loadCells_list (P := P) w p cs (hsrc p rfl)
    simp [Builtin.copy_, run_underlying hu, Builtin.lenOf, Builtin.firstCells, hz, ← hn, hl, hst]
theorem run_copy_none' {w : World} {dT sT ty elem : TypeId} {z : Nat} (hu : P.underlying dT = some (.slice elem)) (hz : ∀ w, (sizeOf elem).run P w = .ok z w) {d a : Option Addr} {dLen dCap sLen sCap : Nat} (h0 : Nat.min sLen dLen = 0) :
    (Builtin.copy_ #[dT, sT] ty #[.slice d dLen dCap, .slice a sLen sCap]).run P w = .ok (goInt 0) w := by
  have hl : ∀ p, (loadCells p 0).run P w = .ok #[] w := fun p => by simpa using run_loadCells_list (P := P) w p [] (by simp)
  cases d <;> cases a <;> simp [Builtin.copy_, run_underlying hu, Builtin.lenOf, Builtin.firstCells, hz, h0, hl, storeCells]
theorem upM_same {M : Nat → Option AO} {g : Nat} {o : AO} (h : M g = some o) : upM M [(g, o)] = M := by
  funext k
  by_cases e : k = g
  · subst e; rw [upM_one_self, h]
  · rw [upM_one_other _ e]
/-- The part of an object that is written. -/
theorem Part.place {cx : Cx} {μ : Nat → Option Value} {T' : Nat → Option AV} {M' : Nat → Option AO} {a : Act} {w : World} (h : InvM cx μ T' M' a w) {g ety sz lo n : Nat} {c c' : Option Nat} {rs : List (List D)} {y : AV} {v : Value} {H : Nat → Prop} (hp : Part rs y g sz lo n c) (hg : M' g = some (mkO ety sz c' rs)) (hown : ∀ g, y = .own g → c' = none) (hv : VR H μ w y v) (hn : 0 < n ∨ ∃ q, c = some q ∧ 0 < q) :
    ∃ b k m cap cur, v = .slice (some ⟨b, lo * sz, none⟩) n k ∧ μ g = some (.slice (some ⟨b, 0, none⟩) m cap) ∧ w.heap[b]? = some (.cells cur ety (0, 0)) ∧ cur.size = cap * sz ∧ k + lo ≤ cap ∧ n ≤ k ∧ (∀ q, c = some q → k = q) := by
  obtain ⟨p, k, ad, m', cap, rfl, q1, q2, q3, q4, q5⟩ := hp.lies h hg hown hv
  have hk0 : 0 < k := by
    rcases hn with hn | ⟨q, hq, hn⟩
    · omega
    · rw [q4 q hq]; exact hn
  obtain ⟨ad', m2, cap2, xs, r1, r2, r3, r4, r5, r6, _⟩ := h.cells hg
  rw [q1] at r1
  obtain ⟨rfl, rfl, rfl⟩ : ad = ad' ∧ m' = m2 ∧ cap = cap2 := by simpa using r1
  cases ad with
  | none => have := r5 rfl; omega
  | some z =>
    obtain ⟨b, cur, rfl, c1, c2, _⟩ := r6 z rfl
    rcases q5 with rfl | ⟨q5, _⟩
    · refine ⟨b, k, m', cap, cur, ?_, q1, c1, c2, q2, q3, q4⟩
      have ea : (⟨b, 0, none⟩ : Addr).add (lo * sz) = ⟨b, lo * sz, none⟩ := by
        unfold Addr.add
        by_cases hx : lo * sz = 0 <;> simp [hx]
      rw [Option.map_some, ea]
    · omega
/-- A copy. -/
theorem step_copy (htb : TOK P tbl) {s x : Operand} {t e : TypeId} {i j : TI} {g sz lo nd n2 : Nat} {c c' : Option Nat} {y : AV} {L : List Nat} {rs rs2 : List (List D)} (ho : o.op = .call { callee := .builtin .copy, args := #[s, x], argTypes := #[t, t] }) (ht : lk tbl t = some i) (hs : i.isS = true) (he : i.el = some e) (hj : lk tbl e = some j)
    (hpos : Nat.blt 0 j.size = true) (hsz : j.size = sz) (hsv : evA T s = some y) (hp : Part rs y g sz lo nd c) (hg : M g = some (mkO e sz c' rs)) (hown : ∀ g', y = .own g' → c' = none) (hsrc : SrcP T M e sz x L n2 rs2) (hk : min n2 nd = rs2.length) (hlo : lo ≤ rs.length) (hno : c' = none → lo + rs2.length ≤ rs.length) :
    StepOK P o T M ⟨.d (.v (.int .i64 (rs2.length : Int))), g :: L, [(g, mkO e sz c' (rs.take lo ++ rs2 ++ rs.drop (lo + rs2.length)))]⟩ :=
  step_any (by intro p hp; simp at hp; rw [hp]; simp) fun cx μ T' M' a w h hT hM => by
    subst hsz
    rw [← hM g (by simp)] at hg
    have hpos : 0 < j.size := Nat.le_of_ble_eq_true hpos
    have hd := slice_desc (htb _ _ ht) hs he
    have hz : ∀ w, (sizeOf e).run P w = .ok j.size w := fun w => run_size (htb _ _ hj)
    have h1 := h.ev (x := s) hT (by simp [ho, Op.operands, Call.operands]) hsv
    obtain ⟨ad, cap, news, n1, n2', n0, n3, n4, n5, n6, n7⟩ := srcP_parts (o := o) hsrc hpos h hT (by simp [ho, Op.operands, Call.operands]) (fun k hk => hM k (by simp [hk]))
    rcases Nat.eq_zero_or_pos rs2.length with hz2 | hz2
    · obtain rfl := List.eq_nil_of_length_eq_zero hz2
      obtain ⟨p, k, ad', m', cap', hv, _⟩ := hp.lies h hg hown h1
      have e1 : rs.take lo ++ [] ++ rs.drop (lo + ([] : List (List D)).length) = rs := by simp
      rw [e1, upM_same hg]
      refine ⟨goInt 0, w, μ, ?_, h, .d (.v _)⟩
      simp only [execOp, ho, resolve, invoke, builtin, Sem.run_bind, Sem.run_pure, Result.andThen_ok, List.map_toArray, List.map_cons, List.map_nil, n1, hv, run_copy_none' hd hz (show Nat.min n2 nd = 0 from hk)]
    · obtain ⟨b, k, m', cap', cur, hv, q1, q2, q3, q4, q5, q6⟩ := hp.place h hg hown h1 (.inl (by omega))
      have hf : lo + rs2.length ≤ cap' := by omega
      have hfs : lo * j.size + news.length ≤ cur.size := by rw [n3, q3, ← Nat.add_mul]; exact Nat.mul_le_mul_right _ hf
      have hI := h.splice hg q1 q2 q3 hlo hf hno n3 n5 n6 n7
      refine ⟨goInt (Nat.min n2 nd), _, μ, ?_, hI, by rw [show Nat.min n2 nd = rs2.length from hk]; exact .d (.v _)⟩
      simp only [execOp, ho, resolve, invoke, builtin, Sem.run_bind, Sem.run_pure, Result.andThen_ok, List.map_toArray, List.map_cons, List.map_nil, n1, hv,
        run_copy_rows hd hz q2 (fun e => by have := (n2' e).1; show min n2 nd = 0; omega) (by rw [n3, show Nat.min n2 nd = rs2.length from hk]) n4 hfs n7]
end
section
variable {P : Program} {tbl : List (Nat × TI)} {o : Oper} {T : Nat → Option AV} {M : Nat → Option AO}
theorem zeros_flat (z : Array Value) (n : Nat) : (List.replicate n (z.toList.map D.v)).flatten = (Builtin.zeroCells z n).toList.map D.v := by
  have hs : ∀ r ∈ List.replicate n (z.toList.map D.v), r.length = z.size := by
    intro r hr
    rw [(List.mem_replicate.1 hr).2]; simp
  have hl := flat_len hs
  rw [List.length_replicate] at hl
  refine List.ext_getElem? fun k => ?_
  by_cases hk : k < n * z.size
  · have hz : 0 < z.size := Nat.pos_of_ne_zero (by intro e; rw [e] at hk; simp at hk)
    have h1 : k / z.size < n := (Nat.div_lt_iff_lt_mul hz).2 hk
    have h2 : k % z.size < z.size := Nat.mod_lt _ hz
    have e := flat_get hs (i := k / z.size) (j := k % z.size) (r := z.toList.map D.v) (c := .v z[k % z.size]) (by simp [h1]) (by simp [h2])
    rw [show k / z.size * z.size + k % z.size = k by rw [Nat.mul_comm]; exact Nat.div_add_mod _ _] at e
    rw [e]
    simp [Builtin.zeroCells, hk, h2]
  · rw [List.getElem?_eq_none (by omega), List.getElem?_eq_none (by simp [size_zeroCells]; omega)]
theorem zeros_vds {H : Nat → Prop} {w : World} (z : Array Value) (n : Nat) : VDs H w (List.replicate n (z.toList.map D.v)).flatten (Builtin.zeroCells z n).toList := by
  rw [zeros_flat]
  refine ⟨by simp, fun i c v hc hv => ?_⟩
  rw [List.getElem?_map, hv] at hc
  obtain rfl : D.v v = c := by simpa using hc
  exact .v v
theorem zeros_one {z : Array Value} (h : z.toList.all Value.oneCell' = true) (n : Nat) : ∀ u ∈ (Builtin.zeroCells z n).toList, u.oneCell' = true := by
  intro u hu
  have : D.v u ∈ (Builtin.zeroCells z n).toList.map D.v := List.mem_map_of_mem hu
  rw [← zeros_flat] at this
  obtain ⟨l, hl, hu⟩ := List.mem_flatten.1 this
  rw [(List.mem_replicate.1 hl).2] at hu
  obtain ⟨y, hy, e⟩ := List.mem_map.1 hu
  obtain rfl : y = u := by simpa using e
  exact List.all_eq_true.1 h y hy
theorem run_append_in {w : World} {t ty e : TypeId} {z : Nat} (hu : P.underlying t = some (.slice e)) (hz : ∀ w, (sizeOf e).run P w = .ok z w) {b off sLen sCap : Nat} {cur : Array Value} {ct : TypeId} (hg : w.heap[b]? = some (.cells cur ct (0, 0))) {a : Option Addr} {m c : Nat} {news : List Value} (ha : a = none → m = 0) (hl : news.length = m * z)
    (hsrc : ∀ p, a = some p → ∀ (j : Nat) (v : Value), news[j]? = some v → w.cell? (p.add j) = some v) (h1 : ∀ v ∈ news, v.oneCell' = true) (hroom : sLen + m ≤ sCap) (hfit : off + sLen * z + news.length ≤ cur.size) :
    (Builtin.append_ #[t, t] ty #[.slice (some ⟨b, off, none⟩) sLen sCap, .slice a m c]).run P w = .ok (.slice (some ⟨b, off, none⟩) (sLen + m) sCap) (w.setRow b (cur.toList.take (off + sLen * z) ++ news ++ cur.toList.drop (off + sLen * z + news.length)).toArray) := by
  have hst := run_storeCells_at P b (off + sLen * z) ct news 0 cur w hg (by simpa using hfit) h1
  have ea : (⟨b, off, none⟩ : Addr).add (sLen * z) = ⟨b, off + sLen * z, none⟩ := by
    unfold Addr.add
    by_cases hx : sLen * z = 0 <;> simp [hx]
  cases a with
  | none =>
    obtain rfl := ha rfl
    obtain rfl : news = [] := List.eq_nil_of_length_eq_zero (by rw [hl, Nat.zero_mul])
    have hr : sLen ≤ sCap := hroom
    simp [Builtin.append_, run_underlying hu, Builtin.lenOf, Builtin.firstCells, hz, storeCells, setRow_self w b cur ct (0, 0) hg, hr]
  | some p =>
    have hld := run_loadCells_list (P := P) w p news (hsrc p rfl)
    simp [Builtin.append_, run_underlying hu, Builtin.lenOf, Builtin.firstCells, hz, ← hl, hld, hst, hroom, ea]
theorem run_append_in_none {w : World} {t ty e : TypeId} {z : Nat} (hu : P.underlying t = some (.slice e)) (hz : ∀ w, (sizeOf e).run P w = .ok z w) {d a : Option Addr} {sLen sCap c : Nat} (hroom : sLen ≤ sCap) :
    (Builtin.append_ #[t, t] ty #[.slice d sLen sCap, .slice a 0 c]).run P w = .ok (.slice d sLen sCap) w := by
  have hl : ∀ p, (loadCells p 0).run P w = .ok #[] w := fun p => by simpa using run_loadCells_list (P := P) w p [] (by simp)
  cases d <;> cases a <;> simp [Builtin.append_, run_underlying hu, Builtin.lenOf, Builtin.firstCells, hz, hl, storeCells, hroom]
/-- An append that finds room. -/
theorem step_app_in (htb : TOK P tbl) {s x : Operand} {t e : TypeId} {i j : TI} {g sz lo n n2 q : Nat} {c' : Option Nat} {L : List Nat} {rs rs2 : List (List D)} (ho : o.op = .call { callee := .builtin .append, args := #[s, x], argTypes := #[t, t] }) (ht : lk tbl t = some i) (hs : i.isS = true) (he : i.el = some e) (hj : lk tbl e = some j)
    (hpos : Nat.blt 0 j.size = true) (hsz : j.size = sz) (hsv : evA T s = some (.sl g sz lo n (some q))) (hg : M g = some (mkO e sz c' rs)) (hsrc : SrcP T M e sz x L n2 rs2) (hk : n2 = rs2.length) (hroom : n + n2 ≤ q) (hlo : lo + n ≤ rs.length) (hno : c' = none → lo + n + n2 ≤ rs.length) :
    StepOK P o T M ⟨.sl g sz lo (n + rs2.length) (some q), g :: L, [(g, mkO e sz c' (rs.take (lo + n) ++ rs2 ++ rs.drop (lo + n + rs2.length)))]⟩ :=
  step_any (by intro p hp; simp at hp; rw [hp]; simp) fun cx μ T' M' a w h hT hM => by
    subst hsz
    subst hk
    rw [← hM g (by simp)] at hg
    have hpos : 0 < j.size := Nat.le_of_ble_eq_true hpos
    have hd := slice_desc (htb _ _ ht) hs he
    have hz : ∀ w, (sizeOf e).run P w = .ok j.size w := fun w => run_size (htb _ _ hj)
    have h1 := h.ev (x := s) hT (by simp [ho, Op.operands, Call.operands]) hsv
    obtain ⟨ad, cap, news, n1, n2', n0, n3, n4, n5, n6, n7⟩ := srcP_parts (o := o) hsrc hpos h hT (by simp [ho, Op.operands, Call.operands]) (fun k hk => hM k (by simp [hk]))
    rcases Nat.eq_zero_or_pos rs2.length with hz2 | hz2
    · obtain rfl := List.eq_nil_of_length_eq_zero hz2
      obtain ⟨p, k, ad', m', cap', hv, q1, q2, q3, q4, q5⟩ := Part.sl.lies (rs := rs) h hg (fun g' e => by cases e) h1
      obtain rfl := q4 q rfl
      have e1 : rs.take (lo + n) ++ [] ++ rs.drop (lo + n + ([] : List (List D)).length) = rs := by simp
      rw [e1, upM_same hg]
      refine ⟨.slice p n k, w, μ, ?_, h, .sl q1 q2 q3 (fun q hq => by simpa using hq) q5⟩
      simp only [execOp, ho, resolve, invoke, builtin, Sem.run_bind, Sem.run_pure, Result.andThen_ok, List.map_toArray, List.map_cons, List.map_nil, n1, hv, List.length_nil, run_append_in_none hd hz q3]
    · obtain ⟨b, k, m', cap', cur, hv, q1, q2, q3, q4, q5, q6⟩ := Part.sl.place (rs := rs) h hg (fun g' e => by cases e) h1 (.inr ⟨q, rfl, by omega⟩)
      obtain rfl := q6 q rfl
      have hf : lo + n + rs2.length ≤ cap' := by omega
      have hfs : (lo + n) * j.size + news.length ≤ cur.size := by rw [n3, q3, ← Nat.add_mul]; exact Nat.mul_le_mul_right _ hf
      have hI := h.splice hg q1 q2 q3 hlo hf hno n3 n5 n6 n7
      have hrun := run_append_in (ty := o.type) (c := cap) hd hz q2 (fun e => (n2' e).1) n3 n4 n7 hroom (off := lo * j.size) (by rw [← Nat.add_mul]; exact hfs)
      rw [← Nat.add_mul] at hrun
      refine ⟨.slice (some ⟨b, lo * j.size, none⟩) (n + rs2.length) k, _, μ, ?_, hI, .sl q1 q4 hroom (fun q hq => by simpa using hq) (.inl ?_)⟩
      · simp only [execOp, ho, resolve, invoke, builtin, Sem.run_bind, Sem.run_pure, Result.andThen_ok, List.map_toArray, List.map_cons, List.map_nil, n1, hv, hrun]
      · have ea : (⟨b, 0, none⟩ : Addr).add (lo * j.size) = ⟨b, lo * j.size, none⟩ := by
          unfold Addr.add
          by_cases hx : lo * j.size = 0 <;> simp [hx]
        rw [Option.map_some, ea]
/-- Zeros behind a part, where there is no room for them. -/
theorem step_app_zeros (htb : TOK P tbl) (d : Nat) {s x : Operand} {t tn e : TypeId} {i j jn : TI} {kn kq : IntKind} {g sz lo n q m : Nat} {c' : Option Nat} {rs : List (List D)} (ho : o.op = .call { callee := .builtin .append, args := #[s, x], argTypes := #[t, tn] }) (ht : lk tbl t = some i) (hs : i.isS = true) (he : i.el = some e) (hj : lk tbl e = some j)
    (htn : lk tbl tn = some jn) (hkn : jn.ik = some kn) (hpos : Nat.blt 0 j.size = true) (hzl : Nat.beq j.zero.length j.size = true) (hone : j.zero.all Value.oneCell' = true) (hsz : j.size = sz) (hsv : evA T s = some (.sl g sz lo n (some q))) (hg : M g = some (mkO e sz c' rs)) (hln : lo + n ≤ rs.length) {qv : Int} (hx : evA T x = some (.d (.v (.int kq qv)))) (hq : qv = (m : Int))
    (hm : 0 < m) (hgr : q < n + m) (hg' : M d = none) (hb : (n + m) * j.bytes ≤ 140737488355328) (h63 : n + m ≤ maxLen) : StepOK P o T M ⟨.own d, [d, g], [(d, .arr e sz ((rs.drop lo).take n ++ List.replicate m (j.zero.map .v)))]⟩ :=
  step_any (by intro p hp; simp at hp; rw [hp]; simp) fun cx μ T' M' a w h hT hM => by
    subst hsz
    subst hq
    have hg2 := hg
    rw [← hM g (by simp)] at hg
    rw [← hM d (by simp)] at hg'
    have hpos : 0 < j.size := Nat.le_of_ble_eq_true hpos
    have hd := slice_desc (htb _ _ ht) hs he
    have hi := int_desc (htb _ _ htn) hkn
    obtain ⟨info, dd, z, k1, k2, k3, k4, k5, k6, _⟩ := ti_parts (htb _ _ hj)
    have hzs : z.cells.size = j.size := by rw [k6]; simpa using Nat.eq_of_beq_eq_true hzl
    have hzt : z.cells.toList = j.zero := by rw [k6]
    have h1 := h.ev (x := s) hT (by simp [ho, Op.operands, Call.operands]) hsv
    have h2 := (h.ev (x := x) hT (by simp [ho, Op.operands, Call.operands]) hx).val
    obtain ⟨ad, cap, olds, n1, n2, n0, n3, n4, n5, n6, n7⟩ := srcP_parts (o := o) (x := s) (SrcP.part n hsv hg2 (Nat.le_refl _) hln) hpos h hT (by simp [ho, Op.operands, Call.operands]) (fun k hk => hM k (by simp at hk; simp [hk]))
    obtain ⟨p, k, ad', m', cap', hv, q1, q2, q3, q4, q5⟩ := Part.sl.lies (rs := rs) h hg (fun g' e => by cases e) h1
    obtain rfl := q4 q rfl
    rw [n1] at hv
    obtain ⟨rfl, rfl⟩ : ad = p ∧ cap = k := by simpa using hv
    have hlen : ((rs.drop lo).take n).length = n := by simp only [List.length_take, List.length_drop]; omega
    rw [hlen] at n3
    have hold : (Builtin.firstCells info.size n (.slice ad n cap)).run P w.drew = .ok olds.toArray w.drew := by
      rw [k4]
      cases ad with
      | none =>
        obtain ⟨rfl, _⟩ := n2 rfl
        obtain rfl : olds = [] := List.eq_nil_of_length_eq_zero (by rw [n3, Nat.zero_mul])
        simp [Builtin.firstCells]
      | some pp =>
        have := run_loadCells_list (P := P) w.drew pp olds (fun j v hv => by simpa using n4 pp rfl j v hv)
        rw [n3] at this
        simpa [Builtin.firstCells] using this
    have h63' : ((n + m : Nat) : Int) ≤ 9223372036854775807 := by simp only [maxLen] at h63; omega
    have hmb : m * info.bytes ≤ 281474976710656 := by
      have : m * j.bytes ≤ (n + m) * j.bytes := Nat.mul_le_mul_right _ (by omega)
      rw [k5]; omega
    have hrun := Lib.run_append_grow_zeros (P := P) w t tn o.type e info z kq kn hd hi k1 k3 ad n cap olds hold m hm (by rw [k4]; exact hpos) hgr h63' hmb (growslice_fits hgr (by rw [k5]; exact hb))
    have hch : Chg (fun _ => False) w (w.drew.alloc (.cells (olds.toArray ++ Builtin.zeroCells z.cells m ++ Builtin.zeroCells z.cells (grownCap w (n + m) cap e - (n + m))) e)) := ⟨rfl, rfl, rfl, by simp, fun k hk _ => heap_alloc_old w.drew _ hk⟩
    have hge := grownCap_ge w (n + m) cap e
    refine ⟨_, _, upμ μ d (.slice (some ⟨w.heap.size, 0, none⟩) (n + m) (grownCap w (n + m) cap e)), ?_, h.new hg' hch rfl (fun b hb => ?_) (fun H' hk _ => ⟨_, olds ++ (Builtin.zeroCells z.cells m).toList, upμ_self _ _, ?_, fun r hr => ?_, ?_, fun u hu => ?_⟩), .own (upμ_self _ _)⟩
    · simp only [execOp, ho, resolve, invoke, builtin, Sem.run_bind, Sem.run_pure, Result.andThen_ok, List.map_toArray, List.map_cons, List.map_nil, n1, h2, hrun]
    · obtain rfl : w.heap.size = b := by simpa [blkOf] using hb
      exact ⟨Nat.le_refl _, by simp⟩
    · have hl : ((rs.drop lo).take n ++ List.replicate m (j.zero.map D.v)).length = n + m := by rw [List.length_append, hlen, List.length_replicate]
      rw [hl]
      refine ⟨by simp [n3, size_zeroCells, hzs, Nat.add_mul], .inr ⟨_, _, _, rfl, Nat.zero_le _, heap_alloc_new _ _, hge, grownCap_le_maxLen w _ _ e h63, ?_, ?_⟩⟩
      · simp only [Array.size_append, List.size_toArray, size_zeroCells, hzs, n3, ← Nat.add_mul]
        rw [show n + m + (grownCap w (n + m) cap e - (n + m)) = grownCap w (n + m) cap e by omega]
      · rw [Array.toList_append, Array.toList_append, List.take_left']
        simp [n3, size_zeroCells, hzs, Nat.add_mul]
    · rcases List.mem_append.1 hr with q | q
      · exact n5 r q
      · rw [(List.mem_replicate.1 q).2, List.length_map]; exact Nat.eq_of_beq_eq_true hzl
    · rw [List.flatten_append, ← hzt]
      refine VRs.vds (μ := μ) ?_
      rw [List.map_append]
      exact (VDs.vrs (n6.mono hk)).append (VDs.vrs (zeros_vds _ _))
    · rcases List.mem_append.1 hu with q | q
      · exact n7 u q
      · exact zeros_one (by rw [hzt]; exact hone) m u q
/-- Rows made zero. -/
theorem step_clear (htb : TOK P tbl) {x : Operand} {t e : TypeId} {i j : TI} {g sz lo n : Nat} {c c' : Option Nat} {rs : List (List D)} (ho : o.op = .call { callee := .builtin .clear, args := #[x], argTypes := #[t] }) (ht : lk tbl t = some i) (hs : i.isS = true) (he : i.el = some e) (hj : lk tbl e = some j)
    (hpos : Nat.blt 0 j.size = true) (hzl : Nat.beq j.zero.length j.size = true) (hone : j.zero.all Value.oneCell' = true) (hsz : j.size = sz) (hx : evA T x = some (.sl g sz lo n c)) (hg : M g = some (mkO e sz c' rs)) (hlo : lo + n ≤ rs.length) :
    StepOK P o T M ⟨.tup [], [g], [(g, mkO e sz c' (rs.take lo ++ List.replicate n (j.zero.map .v) ++ rs.drop (lo + n)))]⟩ :=
  step_any (by intro p hp; simp at hp; rw [hp]; simp) fun cx μ T' M' a w h hT hM => by
    subst hsz
    rw [← hM g (by simp)] at hg
    have hpos : 0 < j.size := Nat.le_of_ble_eq_true hpos
    have hd := slice_desc (htb _ _ ht) hs he
    obtain ⟨z, hzr, hzc⟩ := run_zero (w := w) (htb _ _ hj)
    have hzs : z.cells.size = j.size := by rw [hzc]; simpa using Nat.eq_of_beq_eq_true hzl
    have hzt : z.cells.toList = j.zero := by rw [hzc]
    have h1 := h.ev (x := x) hT (by simp [ho, Op.operands, Call.operands]) hx
    rcases Nat.eq_zero_or_pos n with rfl | hn
    · obtain ⟨p, k, ad', m', cap', hv, _⟩ := Part.sl.lies (rs := rs) h hg (fun g' e => by cases e) h1
      have e1 : rs.take lo ++ List.replicate 0 (j.zero.map D.v) ++ rs.drop (lo + 0) = rs := by simp
      rw [e1, upM_same hg]
      refine ⟨.tuple #[], w, μ, ?_, h, .tup (vs := []) rfl (by simp)⟩
      cases p <;> simp [execOp, ho, resolve, invoke, builtin, hv, Builtin.clear_, run_underlying hd]
    · obtain ⟨b, k, m', cap', cur, hv, q1, q2, q3, q4, q5, q6⟩ := Part.sl.place (rs := rs) h hg (fun g' e => by cases e) h1 (.inl hn)
      have hzl2 : (Builtin.zeroCells z.cells n).toList.length = (List.replicate n (j.zero.map D.v)).length * j.size := by simp [size_zeroCells, hzs]
      have hI := h.splice (lo := lo) hg q1 q2 q3 (rs2 := List.replicate n (j.zero.map D.v)) (news := (Builtin.zeroCells z.cells n).toList) (by omega) (by rw [List.length_replicate]; omega) (fun _ => by rw [List.length_replicate]; exact hlo) hzl2
        (fun r hr => by rw [(List.mem_replicate.1 hr).2, List.length_map]; exact Nat.eq_of_beq_eq_true hzl) (by rw [← hzt]; exact zeros_vds _ _) (zeros_one (by rw [hzt]; exact hone) n)
      rw [List.length_replicate] at hI
      have hfs : lo * j.size + (Builtin.zeroCells z.cells n).toList.length ≤ cur.size := by rw [hzl2, List.length_replicate, q3, ← Nat.add_mul]; exact Nat.mul_le_mul_right _ (by omega)
      have hst := run_storeCells_at P b (lo * j.size) e (Builtin.zeroCells z.cells n).toList 0 cur w q2 (by simpa using hfs) (zeros_one (by rw [hzt]; exact hone) n)
      refine ⟨.tuple #[], _, μ, ?_, hI, .tup (vs := []) rfl (by simp)⟩
      cases n with
      | zero => omega
      | succ n => simp only [Nat.add_zero] at hst; simp [execOp, ho, resolve, invoke, builtin, hv, Builtin.clear_, run_underlying hd, hzr, hst]
/-- Two slices of the call's own lie apart. -/
theorem step_overlaps (htb : TOK P tbl) {f : FuncId} {fn : Func} {x y : Operand} {t tR e : TypeId} {i j : TI} {gx g sz lo n : Nat} {c c' : Option Nat} {rs rs2 : List (List D)} (ho : o.op = .call { callee := .value (.func f), args := #[x, y], argTypes := #[t, t] }) (hf : P.funcs[f]? = some fn) (hname : (fn.name == "runtime.NumGoroutine") = false)
    (hb : fn.body.isNone = true) (hn : Extern.findNext fn = none) (hfd : Extern.find fn = some (Extern.SlicesOverlaps.overlaps #[t, t] #[tR])) (ht : lk tbl t = some i) (hs : i.isS = true) (he : i.el = some e) (hj : lk tbl e = some j) (hpos : Nat.blt 0 j.size = true) (hsz : j.size = sz)
    (hx : evA T x = some (.own gx)) (hgx : M gx = some (.arr e sz rs2)) (hy : evA T y = some (.sl g sz lo n c)) (hg : M g = some (mkO e sz c' rs)) (hne : Nat.beq gx g = false) (hln : 0 < n) (hl2 : 0 < rs2.length) : StepOK P o T M ⟨.d (.v (.bool false)), [gx, g], []⟩ :=
  step_read [gx, g] fun cx μ T' M' a w h hT hM => by
    subst hsz
    rw [← hM g (by simp)] at hg
    rw [← hM gx (by simp)] at hgx
    have hpos : 0 < j.size := Nat.le_of_ble_eq_true hpos
    have hd := slice_desc (htb _ _ ht) hs he
    have h1 := h.ev (x := y) hT (by simp [ho, Op.operands, Call.operands]) hy
    have h2 := h.ev (x := x) hT (by simp [ho, Op.operands, Call.operands]) hx
    obtain ⟨b, k, m', cap', cur, hv, q1, q2, q3, q4, q5, q6⟩ := Part.sl.place (rs := rs) h hg (fun g' e => by cases e) h1 (.inl hln)
    obtain ⟨v, xs, r1, ⟨r2, r3⟩, _⟩ := h.ob gx _ hgx
    rcases r3 with ⟨_, r3⟩ | ⟨bx, capx, curx, rfl, _, s1, s2, s3, s4, s5⟩
    · omega
    generalize hvx : a.eval x = vx at h2
    cases h2 with
    | @own _ p2 m2 c2 hbx =>
      rw [r1] at hbx
      obtain ⟨rfl, rfl, rfl⟩ : some ⟨bx, 0, none⟩ = p2 ∧ rs2.length = m2 ∧ capx = c2 := by simpa using hbx
      have hbne : bx ≠ b := fun e => by
        subst e
        have := h.inj gx g _ _ _ _ bx hgx rfl hg (mkO_live _ _ _ _) r1 q1 rfl rfl
        subst this
        simp at hne
      refine ⟨.bool false, ?_, .d (.v _)⟩
      have hcz : cur.size ≠ 0 := by
        rw [q3]
        exact Nat.ne_of_gt (Nat.mul_pos (by omega) hpos)
      have hov := Lib.run_overlaps_apart (P := P) w t tR e hd j.size (fun w => run_size (htb _ _ hj)) ⟨bx, 0, none⟩ ⟨b, lo * j.size, none⟩ rs2.length capx n k hbne e e curx.size cur.size (by simp [World.shape?, s1]) (by simp [World.shape?, q2]) hcz (by simp [World.frozen?, s1]) (by simp [World.frozen?, s1])
      have hcf := run_callFunc_extern hf hname hb hn hfd #[.slice (some ⟨bx, 0, none⟩) rs2.length capx, .slice (some ⟨b, lo * j.size, none⟩) n k] w
      rw [hov] at hcf
      have ef : a.eval (.func f) = .func (.func f) #[] #[] := rfl
      simp [execOp, ho, resolve, invoke, Deferred.ofValue, hv, hvx, ef, hcf]
end
section
variable {P : Program} {cx : Cx} {Q : Exit → St → Prop} {T : List (Nat × AV)} {M : List (Nat × AO)}
/-- An object is looked at in another way. -/
theorem InvM.swap {cx : Cx} {μ : Nat → Option Value} {T' : Nat → Option AV} {M' : Nat → Option AO} {a : Act} {w : World} (h : InvM cx μ T' M' a w) {g : Nat} {o o' : AO} (hg : M' g = some o) (hl : o.live = true) (hl' : o'.live = true) (hor : ∀ H', Keeps (Ht cx μ M') H' w w → OR H' μ w g o') : InvM cx μ T' (upM M' [(g, o')]) a w := by
  have hold : ∀ k q, upM M' [(g, o')] k = some q → q.live = true → ∃ q', M' k = some q' ∧ q'.live = true := by
    intro k q h1 h2
    by_cases e : k = g
    · subst e; exact ⟨_, hg, hl⟩
    · rw [upM_one_other _ e] at h1; exact ⟨q, h1, h2⟩
  have hhot : ∀ b, Hot μ (upM M' [(g, o')]) b → Hot μ M' b := by
    rintro b ⟨k, q, u, h1, h2, h3, h4⟩
    obtain ⟨q', h1', h2'⟩ := hold k q h1 h2
    exact ⟨k, q', u, h1', h2', h3, h4⟩
  refine h.next (Chg.refl (fun _ => False) w) (fun _ hb => hb.elim) (fun _ _ hk => hk) (fun b hb => .inl (hhot b hb)) (fun k q hk => ?_) ?_ (fun k hk => ?_)
  · by_cases e : k = g
    · subst e
      rw [upM_one_self] at hk
      obtain rfl := Option.some.inj hk
      exact .inr (hor _ (h.keeps (Chg.refl (fun _ => False) w) (fun _ hb => hb.elim) fun b hb => .inl (hhot b hb)))
    · rw [upM_one_other _ e] at hk
      exact .inl ⟨hk, fun _ _ _ _ _ hb => hb⟩
  · intro k k' q q' u u' b h1 h2 h3 h4 h5 h6 h7 h8
    obtain ⟨p, p1, p2⟩ := hold k q h1 h2
    obtain ⟨p', p1', p2'⟩ := hold k' q' h3 h4
    exact h.inj k k' p p' u u' b p1 p2 p1' p2' h5 h6 h7 h8
  · by_cases e : k = g
    · subst e; rw [upM_one_self] at hk; cases hk
    · rw [upM_one_other _ e] at hk; exact h.free k hk
theorem InvM.slot {cx : Cx} {μ : Nat → Option Value} {M' : Nat → Option AO} {a : Act} {w : World} {t : Nat} {y : AV} (h : InvM cx μ (lk T) M' a w) (hv : VR (Ht cx μ M') μ w y (a.tmps.getD t undef)) : InvM cx μ (lk ((t, y) :: T)) M' a w := by
  refine ⟨fun k x hk => ?_, h.ob, h.inj, h.lo, h.fr, h.free, h.hs, h.base, h.sz, h.df⟩
  rw [lk_cons] at hk
  simp only at hk
  by_cases e : t = k
  · subst e
    rw [if_pos rfl] at hk
    obtain rfl := Option.some.inj hk
    exact hv
  · rw [if_neg e] at hk; exact h.tm k x hk
/-- The room of a slice is named. -/
theorem WA_room {c : Code} (t : Nat) {g ty sz : Nat} {rs : List (List D)} (ht : lk T t = some (.own g)) (hg : lk M g = some (.arr ty sz rs))
    (k : ∀ q, rs.length ≤ q → q ≤ maxLen → WA P cx c Q ⟨(t, .sl g sz 0 rs.length (some q)) :: T, (g, .buf ty sz q rs) :: M⟩) : WA P cx c Q ⟨T, M⟩ := by
  rintro a w ⟨μ, h⟩
  have hg' : lk M g = some (mkO ty sz none rs) := hg
  obtain ⟨ad, m, cap, xs, q1, q2, q3, q4, q5, q6, q7, q8, q9, q10, q11⟩ := h.cells hg'
  have hm := q11 rfl
  subst hm
  refine k cap q3 q4 a w ⟨μ, ?_⟩
  have h2 := h.swap (o' := .buf ty sz cap rs) hg rfl rfl fun H' hk => ⟨ad, _, xs, q1, q2, q3, q4, q5, q6, q7, q8.mono hk, q9⟩
  rw [upM_cons] at h2
  refine h2.slot ?_
  have hv := h.tm t _ ht
  generalize a.tmps.getD t undef = v at hv
  cases hv with
  | @own _ p m2 c2 hb =>
    rw [q1] at hb
    obtain ⟨rfl, rfl, rfl⟩ : ad = p ∧ rs.length = m2 ∧ cap = c2 := by simpa using hb
    refine .sl q1 (by omega) q3 (fun q hq => by simpa using hq) (.inl ?_)
    cases ad <;> simp [Addr.add]
/-- The first rows of a slice are a slice of the call's own. -/
theorem Le_hide (t g' : Nat) {g ty sz n q : Nat} {rs : List (List D)} (ht : lk T t = some (.sl g sz 0 n (some q))) (hg : lk M g = some (.buf ty sz q rs)) (hn : n ≤ rs.length) (hq : 0 < q) (hg' : lk M g' = none) : Le cx ⟨T, M⟩ ⟨(t, .own g') :: T, (g', .arr ty sz (rs.take n)) :: (g, .dead) :: M⟩ := by
  rintro a w ⟨μ, h⟩
  have hg2 : lk M g = some (mkO ty sz (some q) rs) := hg
  obtain ⟨ad, m, cap, xs, q1, q2, q3, q4, q5, q6, q7, q8, q9, q10, q11⟩ := h.cells hg2
  obtain rfl := q10 q rfl
  have hv := h.tm t _ ht
  generalize hvv : a.tmps.getD t undef = v at hv
  cases hv with
  | @sl _ _ _ _ _ ad2 p m2 cap2 k2 hb hk hnk hc ha =>
    rw [q1] at hb
    obtain ⟨rfl, rfl, rfl⟩ : ad = ad2 ∧ m = m2 ∧ cap = cap2 := by simpa using hb
    obtain rfl := hc cap rfl
    cases ad with
    | none => have := q5 rfl; omega
    | some z =>
      obtain ⟨b, cur, rfl, c1, c2, c3⟩ := q6 z rfl
      have hp : p = some ⟨b, 0, none⟩ := by
        rcases ha with rfl | ⟨e, _⟩
        · simp [Addr.add]
        · omega
      subst hp
      have hle : n * sz ≤ rs.length * sz := Nat.mul_le_mul_right _ hn
      have hlt : (rs.take n).length = n := by rw [List.length_take]; omega
      have h2 := h.append (w2 := w) (g' := g') (rs' := rs.take n) (v' := .slice (some ⟨b, 0, none⟩) n k2) (ys := xs.take (n * sz)) hg rfl q1 hg' (Chg.refl _ _) (fun b' hb' => .inl hb')
        ⟨by rw [hlt, List.length_take]; omega, .inr ⟨b, k2, cur, by rw [hlt], Nat.zero_le _, c1, by omega, q4, c2, by rw [hlt, ← c3, List.take_take, Nat.min_eq_left hle]⟩⟩ (fun r hr => q7 r (List.mem_of_mem_take hr)) (fun u hu => q9 u (List.mem_of_mem_take hu))
        (fun H' hk => by
          rw [flat_take q7 _ hn]
          refine VRs.vds (μ := μ) ?_
          rw [List.map_take]
          exact (VDs.vrs (q8.mono hk)).take _)
      have e2 : upM (lk M) [(g', .arr ty sz (rs.take n)), (g, .dead)] = lk ((g', .arr ty sz (rs.take n)) :: (g, .dead) :: M) := by
        funext x
        simp only [upM, lk]
        cases Nat.beq g' x <;> cases Nat.beq g x <;> rfl
      rw [e2] at h2
      refine ⟨_, h2.slot ?_⟩
      rw [hvv]
      exact .own (upμ_self _ _)
end
end Go.Am
namespace Go.Proofs.YtdhogcklnehdhaaGreatDoor
set_option linter.unusedSimpArgs false
set_option linter.unusedVariables false
set_option linter.unnecessarySimpa false
set_option linter.unusedSectionVars false
set_option maxRecDepth 100000
open Go Go.RowKit Go.Am
def tbl : List (Nat × TI) := [(2, ⟨false, 1, 8, [(.int .i64 0)], [], false, none, 0, some .i64⟩),
  (3, ⟨false, 1, 8, [(.int .i64 0)], [], false, none, 0, some .i64⟩),
  (4, ⟨false, 1, 1, [(.bool false)], [], false, none, 0, none⟩),
  (5, ⟨false, 1, 1, [(.int .u8 0)], [], false, none, 0, some .u8⟩),
  (6, ⟨false, 1, 1, [(.int .u8 0)], [], false, none, 0, some .u8⟩),
  (7, ⟨true, 4, 24, [(.int .i64 0), (.int .i64 0), (.bool false), (.int .u8 0)], [(0, 2), (1, 3), (2, 4), (3, 6)], false, none, 0, none⟩),
  (8, ⟨true, 4, 24, [(.int .i64 0), (.int .i64 0), (.bool false), (.int .u8 0)], [(0, 2), (1, 3), (2, 4), (3, 6)], false, none, 0, none⟩),
  (9, ⟨false, 1, 16, [(.string ⟨#[]⟩)], [], false, none, 0, none⟩),
  (10, ⟨false, 1, 16, [(.string ⟨#[]⟩)], [], false, none, 0, none⟩),
  (11, ⟨false, 1, 16, [(.string ⟨#[]⟩)], [], false, none, 0, none⟩),
  (12, ⟨false, 1, 8, [(.int .u64 0)], [], false, none, 0, some .u64⟩),
  (13, ⟨true, 2, 24, [(.string ⟨#[]⟩), (.int .u64 0)], [(0, 9), (1, 12)], false, none, 0, none⟩),
  (14, ⟨true, 2, 24, [(.string ⟨#[]⟩), (.int .u64 0)], [(0, 9), (1, 12)], false, none, 0, none⟩),
  (15, ⟨false, 1, 8, [(.pointer none)], [], false, none, 0, none⟩),
  (16, ⟨false, 1, 8, [(.pointer none)], [], false, none, 0, none⟩),
  (17, ⟨false, 1, 8, [(.pointer none)], [], false, none, 0, none⟩),
  (18, ⟨true, 1, 8, [(.pointer none)], [(0, 17)], false, none, 0, none⟩),
  (19, ⟨true, 1, 8, [(.pointer none)], [(0, 17)], false, none, 0, none⟩),
  (21, ⟨false, 1, 4, [(.int .i32 0)], [], false, none, 0, some .i32⟩),
  (22, ⟨false, 1, 24, [(.slice none 0 0)], [], true, some 3, 0, none⟩),
  (23, ⟨false, 1, 8, [(.pointer none)], [], false, none, 0, none⟩),
  (25, ⟨false, 1, 24, [(.slice none 0 0)], [], true, some 53, 0, none⟩),
  (26, ⟨true, 1, 24, [(.slice none 0 0)], [(0, 25)], false, none, 0, none⟩),
  (27, ⟨true, 1, 24, [(.slice none 0 0)], [(0, 25)], false, none, 0, none⟩),
  (29, ⟨false, 1, 8, [(.int .i64 0)], [], false, none, 0, some .i64⟩),
  (32, ⟨false, 1, 24, [(.slice none 0 0)], [], true, some 49, 0, none⟩),
  (33, ⟨true, 3, 40, [(.slice none 0 0), (.int .i64 0), (.int .i64 0)], [(0, 32), (1, 3), (2, 3)], false, none, 0, none⟩),
  (34, ⟨true, 3, 40, [(.slice none 0 0), (.int .i64 0), (.int .i64 0)], [(0, 32), (1, 3), (2, 3)], false, none, 0, none⟩),
  (35, ⟨false, 1, 24, [(.slice none 0 0)], [], true, some 29, 0, none⟩),
  (38, ⟨false, 1, 24, [(.slice none 0 0)], [], true, some 88, 0, none⟩),
  (43, ⟨false, 1, 24, [(.slice none 0 0)], [], true, some 45, 0, none⟩),
  (44, ⟨true, 3, 56, [(.int .i64 0), (.slice none 0 0), (.slice none 0 0)], [(0, 3), (1, 22), (2, 43)], false, none, 0, none⟩),
  (45, ⟨true, 3, 56, [(.int .i64 0), (.slice none 0 0), (.slice none 0 0)], [(0, 3), (1, 22), (2, 43)], false, none, 0, none⟩),
  (46, ⟨false, 1, 24, [(.slice none 0 0)], [], true, some 86, 0, none⟩),
  (47, ⟨false, 1, 24, [(.slice none 0 0)], [], true, some 56, 0, none⟩),
  (48, ⟨true, 9, 168, [(.int .i64 0), (.int .i64 0), (.int .i64 0), (.slice none 0 0), (.slice none 0 0), (.slice none 0 0), (.slice none 0 0), (.slice none 0 0), (.slice none 0 0)], [(0, 3), (1, 3), (2, 45), (5, 46), (6, 46), (7, 46), (8, 47)], false, none, 0, none⟩),
  (49, ⟨true, 9, 168, [(.int .i64 0), (.int .i64 0), (.int .i64 0), (.slice none 0 0), (.slice none 0 0), (.slice none 0 0), (.slice none 0 0), (.slice none 0 0), (.slice none 0 0)], [(0, 3), (1, 3), (2, 45), (5, 46), (6, 46), (7, 46), (8, 47)], false, none, 0, none⟩),
  (52, ⟨true, 4, 64, [(.bool false), (.int .i64 0), (.slice none 0 0), (.slice none 0 0)], [(0, 4), (1, 45)], false, none, 0, none⟩),
  (53, ⟨true, 4, 64, [(.bool false), (.int .i64 0), (.slice none 0 0), (.slice none 0 0)], [(0, 4), (1, 45)], false, none, 0, none⟩),
  (55, ⟨true, 7, 120, [(.int .i64 0), (.int .i64 0), (.int .i64 0), (.slice none 0 0), (.slice none 0 0), (.slice none 0 0), (.slice none 0 0)], [(0, 3), (1, 3), (2, 45), (5, 46), (6, 46)], false, none, 0, none⟩),
  (56, ⟨true, 7, 120, [(.int .i64 0), (.int .i64 0), (.int .i64 0), (.slice none 0 0), (.slice none 0 0), (.slice none 0 0), (.slice none 0 0)], [(0, 3), (1, 3), (2, 45), (5, 46), (6, 46)], false, none, 0, none⟩),
  (63, ⟨false, 1, 24, [(.slice none 0 0)], [], true, some 65, 0, none⟩),
  (64, ⟨true, 3, 40, [(.int .i64 0), (.int .i64 0), (.slice none 0 0)], [(0, 3), (1, 3), (2, 63)], false, none, 0, none⟩),
  (65, ⟨true, 3, 40, [(.int .i64 0), (.int .i64 0), (.slice none 0 0)], [(0, 3), (1, 3), (2, 63)], false, none, 0, none⟩),
  (79, ⟨true, 2, 32, [(.slice none 0 0), (.int .i64 0)], [(0, 22), (1, 3)], false, none, 0, none⟩),
  (80, ⟨true, 2, 32, [(.slice none 0 0), (.int .i64 0)], [(0, 22), (1, 3)], false, none, 0, none⟩),
  (85, ⟨true, 2, 16, [(.int .i64 0), (.int .i64 0)], [(0, 3), (1, 3)], false, none, 0, none⟩),
  (86, ⟨true, 2, 16, [(.int .i64 0), (.int .i64 0)], [(0, 3), (1, 3)], false, none, 0, none⟩),
  (87, ⟨true, 15, 216, [(.int .i64 0), (.int .i64 0), (.int .i64 0), (.int .i64 0), (.int .i64 0), (.int .i64 0), (.slice none 0 0), (.slice none 0 0), (.int .i64 0), (.int .i64 0), (.int .i64 0), (.slice none 0 0), (.slice none 0 0), (.slice none 0 0), (.slice none 0 0)], [(0, 3), (1, 3), (2, 3), (3, 86), (5, 45), (8, 56)], false, none, 0, none⟩),
  (88, ⟨true, 15, 216, [(.int .i64 0), (.int .i64 0), (.int .i64 0), (.int .i64 0), (.int .i64 0), (.int .i64 0), (.slice none 0 0), (.slice none 0 0), (.int .i64 0), (.int .i64 0), (.int .i64 0), (.slice none 0 0), (.slice none 0 0), (.slice none 0 0), (.slice none 0 0)], [(0, 3), (1, 3), (2, 3), (3, 86), (5, 45), (8, 56)], false, none, 0, none⟩),
  (125, ⟨false, 1, 8, [(.pointer none)], [], false, none, 0, none⟩),
  (126, ⟨true, 4, 64, [(.slice none 0 0), (.int .i64 0), (.int .i64 0), (.slice none 0 0)], [(0, 34), (3, 38)], false, none, 0, none⟩),
  (127, ⟨true, 4, 64, [(.slice none 0 0), (.int .i64 0), (.int .i64 0), (.slice none 0 0)], [(0, 34), (3, 38)], false, none, 0, none⟩),
  (147, ⟨false, 1, 24, [(.slice none 0 0)], [], true, some 9, 0, none⟩),
  (158, ⟨false, 1, 8, [(.int .u64 0)], [], false, none, 0, some .u64⟩),
  (199, ⟨false, 1, 8, [(.pointer none)], [], false, none, 0, none⟩),
  (200, ⟨true, 3, 40, [(.string ⟨#[]⟩), (.string ⟨#[]⟩), (.int .i64 0)], [(0, 9), (1, 9), (2, 3)], false, none, 0, none⟩),
  (201, ⟨true, 3, 40, [(.string ⟨#[]⟩), (.string ⟨#[]⟩), (.int .i64 0)], [(0, 9), (1, 9), (2, 3)], false, none, 0, none⟩),
  (228, ⟨false, 1, 8, [(.int .i64 0)], [], false, none, 0, some .i64⟩),
  (235, ⟨false, 1, 4, [(.int .u32 0)], [], false, none, 0, some .u32⟩),
  (237, ⟨false, 1, 8, [(.int .u64 0)], [], false, none, 0, some .u64⟩),
  (241, ⟨true, 24, 24, [(.int .u8 0), (.int .u8 0), (.int .u8 0), (.int .u8 0), (.int .u8 0), (.int .u8 0), (.int .u8 0), (.int .u8 0), (.int .u8 0), (.int .u8 0), (.int .u8 0), (.int .u8 0), (.int .u8 0), (.int .u8 0), (.int .u8 0), (.int .u8 0), (.int .u8 0), (.int .u8 0), (.int .u8 0), (.int .u8 0), (.int .u8 0), (.int .u8 0), (.int .u8 0), (.int .u8 0)], [], false, some 5, 24, none⟩),
  (243, ⟨false, 1, 24, [(.slice none 0 0)], [], true, some 5, 0, none⟩),
  (247, ⟨false, 1, 8, [(.int .u64 0)], [], false, none, 0, some .u64⟩),
  (251, ⟨false, 1, 8, [(.pointer none)], [], false, none, 0, none⟩),
  (255, ⟨false, 1, 24, [(.slice none 0 0)], [], true, some 46, 0, none⟩),
  (259, ⟨true, 2, 2, [(.int .u8 0), (.int .u8 0)], [(0, 5), (1, 5)], false, none, 0, none⟩),
  (260, ⟨true, 2, 2, [(.int .u8 0), (.int .u8 0)], [(0, 5), (1, 5)], false, none, 0, none⟩),
  (261, ⟨true, 32, 32, [(.int .u8 0), (.int .u8 0), (.int .u8 0), (.int .u8 0), (.int .u8 0), (.int .u8 0), (.int .u8 0), (.int .u8 0), (.int .u8 0), (.int .u8 0), (.int .u8 0), (.int .u8 0), (.int .u8 0), (.int .u8 0), (.int .u8 0), (.int .u8 0), (.int .u8 0), (.int .u8 0), (.int .u8 0), (.int .u8 0), (.int .u8 0), (.int .u8 0), (.int .u8 0), (.int .u8 0), (.int .u8 0), (.int .u8 0), (.int .u8 0), (.int .u8 0), (.int .u8 0), (.int .u8 0), (.int .u8 0), (.int .u8 0)], [], false, some 260, 16, none⟩),
  (265, ⟨true, 20, 160, [(.int .u64 0), (.int .u64 0), (.int .u64 0), (.int .u64 0), (.int .u64 0), (.int .u64 0), (.int .u64 0), (.int .u64 0), (.int .u64 0), (.int .u64 0), (.int .u64 0), (.int .u64 0), (.int .u64 0), (.int .u64 0), (.int .u64 0), (.int .u64 0), (.int .u64 0), (.int .u64 0), (.int .u64 0), (.int .u64 0)], [], false, some 237, 20, none⟩),
  (267, ⟨false, 1, 8, [(.int .i64 0)], [], false, none, 0, some .i64⟩),
  (270, ⟨false, 1, 8, [(.pointer none)], [], false, none, 0, none⟩),
  (273, ⟨false, 1, 8, [(.pointer none)], [], false, none, 0, none⟩),
  (279, ⟨true, 3, 48, [(.string ⟨#[]⟩), (.string ⟨#[]⟩), .nilIface], [(0, 9), (1, 9), (2, 223)], false, none, 0, none⟩),
  (280, ⟨true, 3, 48, [(.string ⟨#[]⟩), (.string ⟨#[]⟩), .nilIface], [(0, 9), (1, 9), (2, 223)], false, none, 0, none⟩),
  (287, ⟨true, 32, 32, [(.int .u8 0), (.int .u8 0), (.int .u8 0), (.int .u8 0), (.int .u8 0), (.int .u8 0), (.int .u8 0), (.int .u8 0), (.int .u8 0), (.int .u8 0), (.int .u8 0), (.int .u8 0), (.int .u8 0), (.int .u8 0), (.int .u8 0), (.int .u8 0), (.int .u8 0), (.int .u8 0), (.int .u8 0), (.int .u8 0), (.int .u8 0), (.int .u8 0), (.int .u8 0), (.int .u8 0), (.int .u8 0), (.int .u8 0), (.int .u8 0), (.int .u8 0), (.int .u8 0), (.int .u8 0), (.int .u8 0), (.int .u8 0)], [], false, some 5, 32, none⟩),
  (290, ⟨false, 1, 8, [(.pointer none)], [], false, none, 0, none⟩),
  (291, ⟨false, 1, 8, [(.pointer none)], [], false, none, 0, none⟩),
  (292, ⟨true, 1, 16, [(.string ⟨#[]⟩)], [(0, 9)], false, none, 0, none⟩),
  (293, ⟨true, 1, 16, [(.string ⟨#[]⟩)], [(0, 9)], false, none, 0, none⟩),
  (298, ⟨true, 4, 40, [(.pointer none), (.pointer none), (.pointer none), (.string ⟨#[]⟩)], [(0, 17), (1, 17), (2, 17), (3, 9)], false, none, 0, none⟩),
  (299, ⟨true, 4, 40, [(.pointer none), (.pointer none), (.pointer none), (.string ⟨#[]⟩)], [(0, 17), (1, 17), (2, 17), (3, 9)], false, none, 0, none⟩),
  (304, ⟨false, 1, 1, [(.int .u8 0)], [], false, none, 0, some .u8⟩),
  (305, ⟨false, 1, 1, [(.int .u8 0)], [], false, none, 0, some .u8⟩),
  (307, ⟨false, 1, 4, [(.int .i32 0)], [], false, none, 0, some .i32⟩),
  (308, ⟨false, 1, 4, [(.int .i32 0)], [], false, none, 0, some .i32⟩),
  (309, ⟨true, 11, 48, [(.int .u64 0), (.int .u64 0), (.int .u32 0), (.int .u8 0), (.int .u8 0), (.int .u8 0), (.int .u8 0), .nilFunc, (.pointer none), (.int .i32 0), (.int .i32 0)], [(0, 12), (1, 12), (2, 235), (3, 304), (4, 5), (5, 5), (6, 305), (7, 306), (8, 290), (9, 307), (10, 308)], false, none, 0, none⟩),
  (310, ⟨true, 11, 48, [(.int .u64 0), (.int .u64 0), (.int .u32 0), (.int .u8 0), (.int .u8 0), (.int .u8 0), (.int .u8 0), .nilFunc, (.pointer none), (.int .i32 0), (.int .i32 0)], [(0, 12), (1, 12), (2, 235), (3, 304), (4, 5), (5, 5), (6, 305), (7, 306), (8, 290), (9, 307), (10, 308)], false, none, 0, none⟩)]
theorem htb : TOK Tryz.prog tbl := TOK_of (by kernel_rfl)
theorem hmix : Tryz.prog.follows .mixedOrders = true := by kernel_rfl
end Go.Proofs.YtdhogcklnehdhaaGreatDoor
namespace Go.Proofs.YtdhogcklnehdhaaGreatDoor
set_option linter.unusedSimpArgs false
set_option linter.unusedVariables false
set_option linter.unnecessarySimpa false
set_option linter.unusedSectionVars false
set_option maxRecDepth 100000
open Go Go.RowKit Go.Am Go.Proofs.Grow
abbrev vI (n : Int) : AV := .d (.v (.int .i64 n))
abbrev vB (b : Bool) : AV := .d (.v (.bool b))
abbrev dI (n : Int) : D := .v (.int .i64 n)
abbrev dS (u : ByteArray) : D := .v (.string u)
def rI (n : Int) : List D := [dI n]
def rA (x : Acc) : List D := [dI x.id, dI x.bal, dI x.seq]
def rL (x : Lin) : List D := [dI x.acc, dS x.code, dI x.iss, dI x.bal, dI x.lim]
def rO (x : Off) : List D := [dI x.id, dI x.seller, dS x.sc, dI x.si, dS x.bc, dI x.bi, dI x.amt, dI x.num, dI x.den]
abbrev lI (l : List Int) : AV := .d (.rows 1 (l.map rI))
theorem cmp_pm (a b : Int) : FnM Tryz.prog 50 [] [vI a, vI b] (vI (cmpI a b)) [] := FnM.wrap' rfl rfl fun w => cmp_int a b w
end Go.Proofs.YtdhogcklnehdhaaGreatDoor
namespace Go.Am
set_option linter.unusedSimpArgs false
set_option linter.unusedVariables false
set_option linter.unnecessarySimpa false
set_option linter.unusedSectionVars false
set_option maxRecDepth 100000
open Go Go.RowKit Go.Proofs.Grow
theorem hyp {p : Prop} (h : p := by first | with_reducible assumption | omega | (exact by decide) | (focus (simp only [List.length_cons, List.length_nil]; omega)) | (simp only [decide_eq_true_eq, decide_eq_false_iff_not, List.length_map] at *; omega)) : p := h
theorem num {p : Prop} (h : p := by first | with_reducible assumption | omega | (simp only [decide_eq_true_eq, decide_eq_false_iff_not, List.length_map] at *; omega)) : p := h
theorem len {p : Prop} (h : p := by first | omega | (focus (simp [maxLen]; done)) | (focus (simp [maxLen]; omega)) | (focus (simp [maxLen] at *; omega))) : p := h
theorem nat_q {q : Int} {n : Nat} (h : q = (n : Int) := by first | exact rfl | exact (Int.toNat_of_nonneg num).symm) : q = (n : Int) := h
theorem cvs0 {M : Nat → Option AO} {cs ds : List AV} (h : Cvs M cs ds := by (repeat (first | exact Cvs.nil | (refine Cvs.cons ?_ ?_; (first | exact Cv.refl _ | exact Cv.own rfl | exact Cv.nil)))); (first | done | exact Cvs.nil)) : Cvs M cs ds := h
theorem cvs {M : Nat → Option AO} {cs ds : List AV} (h : Cvs M cs ds := by (repeat (first | exact Cvs.nil | (refine Cvs.cons ?_ ?_; (first | exact Cv.refl _ | exact Cv.own rfl | exact Cv.nil | exact Cv.aggs cvs0)))); (first | done | exact Cvs.nil)) : Cvs M cs ds := h
theorem subM {M : Nat → Option AO} {L : List (Nat × AO)} (h : SubM M L := by (repeat (first | exact trivial | refine ⟨rfl, ?_⟩)); (first | done | exact trivial)) : SubM M L := h
section
variable {P : Program} {tbl : List (Nat × TI)} {ops r : List Oper} {o : Oper} {fin : List (List Nat × List Nat) → List (Nat × AV) → List (Nat × AO) → Prop} {acc : List (List Nat × List Nat)} {T : List (Nat × AV)} {M : List (Nat × AO)}
theorem WD_id (h : WD P ops fin (o :: r) acc T M) : WD P ops fin (o :: r) acc T M := h
def isVC (o : Oper) : Bool := match o.op with
  | .call { callee := .value _, .. } => true
  | _ => false
theorem WD_unk (h : gd ops T o = none) (k : WD P ops fin (o :: r) acc T M) : WD P ops fin (o :: r) acc T M := k
theorem WD_call (h : isVC o = true) (k : WD P ops fin (o :: r) acc T M) : WD P ops fin (o :: r) acc T M := k
theorem WD_c0 {d : Tmp} {fo : Operand} {args : Array Operand} {tys : Array TypeId} {f : FuncId} {caps xs ys : List AV} {res : AV} (hfn : FnM P f [] ys res []) (k : WD P ops fin r ((AV.idls (xs ++ caps), []) :: acc) ((d, res) :: T) M)
    (ho : o.op = .call { callee := .value fo, args := args, argTypes := tys } := by exact rfl) (hfo : evA (lk T) fo = some (.clo f caps) := by exact rfl) (hg : gd ops T o = some true := by exact rfl) (hd : o.dst = some d := by exact rfl) (hxs : evs (lk T) args.toList = some xs := by exact rfl)
    (hcv : Cvs (fun _ => none) (xs ++ caps) ys ∨ (Cvs (lk M) (xs ++ caps) ys ∧ res.noRows = true) := by first | exact Or.inl cvs | exact Or.inr ⟨cvs, rfl⟩) (hc : callB P f = some (false, false) := by kernel_rfl) (hoy : AV.oks (fun _ => false) ys = true := by exact rfl) (hor : res.ok (fun _ => false) = true := by exact rfl) :
    WD P ops fin (o :: r) acc T M := WD_dv hg hd (call0 ho hfo hxs hfn hc hoy hor hcv) k
theorem WD_cM {d : Tmp} {fo : Operand} {args : Array Operand} {tys : Array TypeId} {f : FuncId} {caps xs ys : List AV} {res : AV} {Mi Mo : List (Nat × AO)} (hfn : FnM P f Mi ys res Mo) (k : WD P ops fin r ((Mo.map (·.1) ++ AV.idls (xs ++ caps), Mo.map (·.1)) :: acc) ((d, res) :: T) (Mo ++ M))
    (ho : o.op = .call { callee := .value fo, args := args, argTypes := tys } := by exact rfl) (hfo : evA (lk T) fo = some (.clo f caps) := by exact rfl) (hg : gd ops T o = some true := by exact rfl) (hd : o.dst = some d := by exact rfl) (hxs : evs (lk T) args.toList = some xs := by exact rfl)
    (hcv : Cvs (fun _ => none) (xs ++ caps) ys ∨ (Cvs (mx (lk M) Mi) (xs ++ caps) ys ∧ res.noRows = true ∧ PlainL Mo) := by first | exact Or.inl cvs | exact Or.inr ⟨cvs, rfl, plainL⟩) (hc : callB P f = some (false, false) := by kernel_rfl) (hMi : SubM (lk M) Mi := by exact subM) (hsub : keysIn Mi Mo = true := by exact rfl)
    (hfr : freshIn (lk M) Mi Mo = true := by exact rfl) (hoy : AV.oks (keyIn Mi) ys = true := by exact rfl) (homi : (Mi.all fun p => p.2.ok (keyIn Mi)) = true := by exact rfl) (hor : AV.ok (keyIn Mo) res = true := by exact rfl) (homo : (Mo.all fun p => p.2.ok (keyIn Mo)) = true := by exact rfl) :
    WD P ops fin (o :: r) acc T M := WD_do hg hd (step_call_core ho hfo hxs hfn hc hMi hsub hfr hoy homi hor homo hcv) k
theorem WD_sum {d : Tmp} {op : BinOp} {t t' : TypeId} {x y : Operand} {a b q : Int} (k : WD P ops fin r (([], []) :: acc) ((d, .d (.v (.int .i64 q))) :: T) M) (ho : o.op = .binOp op t x y t' := by exact rfl)
    (hr : (op = .add ∧ q = a + b) ∨ (op = .sub ∧ q = a - b) ∨ (op = .mul ∧ q = a * b) := by first | exact .inl ⟨rfl, rfl⟩ | exact .inr (.inl ⟨rfl, rfl⟩) | exact .inr (.inr ⟨rfl, rfl⟩))
    (hg : gd ops T o = some true := by exact rfl) (hd : o.dst = some d := by exact rfl) (hx : evA (lk T) x = some (.d (.v (.int .i64 a))) := by exact rfl) (hy : evA (lk T) y = some (.d (.v (.int .i64 b))) := by exact rfl)
    (h1 : -9223372036854775808 ≤ q := by exact num) (h2 : q ≤ 9223372036854775807 := by exact num) : WD P ops fin (o :: r) acc T M := WD_dv hg hd (step_sum ho hx hy hr h1 h2) k
theorem WD_rem {d : Tmp} {t t' : TypeId} {x y : Operand} {kk : IntKind} {a b : Int} (k : WD P ops fin r (([], []) :: acc) ((d, .d (.v (.int kk (a.tmod b)))) :: T) M) (ho : o.op = .binOp .rem t x y t' := by exact rfl)
    (hg : gd ops T o = some true := by exact rfl) (hd : o.dst = some d := by exact rfl) (hx : evA (lk T) x = some (.d (.v (.int kk a))) := by exact rfl) (hy : evA (lk T) y = some (.d (.v (.int kk b))) := by exact rfl) (hb : b ≠ 0 := by exact num) : WD P ops fin (o :: r) acc T M := WD_dv hg hd (step_rem ho hx hy hb) k
theorem WD_quo {d : Tmp} {t t' : TypeId} {x y : Operand} {kk : IntKind} {a b : Int} (k : WD P ops fin r (([], []) :: acc) ((d, .d (.v (.int kk (kk.wrap (a.tdiv b))))) :: T) M) (ho : o.op = .binOp .quo t x y t' := by exact rfl)
    (hg : gd ops T o = some true := by exact rfl) (hd : o.dst = some d := by exact rfl) (hx : evA (lk T) x = some (.d (.v (.int kk a))) := by exact rfl) (hy : evA (lk T) y = some (.d (.v (.int kk b))) := by exact rfl) (hb : b ≠ 0 := by exact num) : WD P ops fin (o :: r) acc T M := WD_dv hg hd (step_quo ho hx hy hb) k
theorem WD_idx (htb : TOK P tbl) {d : Tmp} {ty e : TypeId} {x y : Operand} {i j : TI} {sz n : Nat} {kk : IntKind} {q : Int} {rs : List (List D)} {row : List D} (k : WD P ops fin r (([], []) :: acc) ((d, .rp row) :: T) M) (ho : o.op = .indexAddr ty x y := by exact rfl)
    (hg : gd ops T o = some true := by exact rfl) (hd : o.dst = some d := by exact rfl) (ht : lk tbl ty = some i := by exact rfl) (hs : i.isS = true := by exact rfl) (he : i.el = some e := by exact rfl) (hj : lk tbl e = some j := by exact rfl) (hsz : j.size = sz := by exact rfl)
    (hx : evA (lk T) x = some (.d (.rows sz rs)) := by exact rfl) (hy : evA (lk T) y = some (.d (.v (.int kk q))) := by exact rfl) (hq : q = (n : Int) := by exact nat_q) (hr : rs[n]? = some row := by exact rowGet _ _ num) : WD P ops fin (o :: r) acc T M :=
  WD_dv hg hd (step_index_rows htb ho ht hs he hj hsz hx hy hq hr) k
theorem WD_idxo (htb : TOK P tbl) {d : Tmp} {ty e ety : TypeId} {x y : Operand} {i j : TI} {g sz n : Nat} {kk : IntKind} {q : Int} {rs : List (List D)} (k : WD P ops fin r (([g], []) :: acc) ((d, .elt g sz n 0) :: T) M) (ho : o.op = .indexAddr ty x y := by exact rfl)
    (hg : gd ops T o = some true := by exact rfl) (hd : o.dst = some d := by exact rfl) (ht : lk tbl ty = some i := by exact rfl) (hs : i.isS = true := by exact rfl) (he : i.el = some e := by exact rfl) (hj : lk tbl e = some j := by exact rfl) (hsz : j.size = sz := by exact rfl)
    (hx : evA (lk T) x = some (.own g) := by exact rfl) (hM : lk M g = some (.arr ety sz rs) := by exact rfl) (hy : evA (lk T) y = some (.d (.v (.int kk q))) := by exact rfl) (hq : q = (n : Int) := by exact nat_q) (hn : n < rs.length := by exact len) : WD P ops fin (o :: r) acc T M :=
  WD_dv hg hd (step_index_own htb ho ht hs he hj hsz hx hM hy hq hn) k
theorem row_of {rs : List (List D)} {n : Nat} {row : List D} (h : rs[n]? = some row := by first | exact rowGet _ _ num | exact List.getElem?_set_self (by simp; omega)) : rs[n]? = some row := h
theorem WD_lde1 (htb : TOK P tbl) {d : Tmp} {ty ety : TypeId} {x : Operand} {g sz n off : Nat} {rs : List (List D)} {row : List D} {c : D} {i : TI} (k : WD P ops fin r (([g], []) :: acc) ((d, .d c) :: T) M) (ho : o.op = .load ty x := by exact rfl)
    (hg : gd ops T o = some true := by exact rfl) (hd : o.dst = some d := by exact rfl) (ht : lk tbl ty = some i := by exact rfl) (ha : i.agg = false := by exact rfl) (hx : evA (lk T) x = some (.elt g sz n off) := by exact rfl) (hM : lk M g = some (.arr ety sz rs) := by exact rfl) (hr : rs[n]? = some row := by exact row_of) (hc : row[off]? = some c := by exact rfl) :
    WD P ops fin (o :: r) acc T M := WD_dv hg hd (step_load_elt_one htb ho ht ha hx hM hr hc) k
theorem WD_lde (htb : TOK P tbl) {d : Tmp} {ty ety : TypeId} {x : Operand} {g sz n off : Nat} {rs : List (List D)} {row ds : List D} {es : List AV} {i : TI} (k : WD P ops fin r (([g], []) :: acc) ((d, .agg es) :: T) M) (ho : o.op = .load ty x := by exact rfl)
    (hg : gd ops T o = some true := by exact rfl) (hd : o.dst = some d := by exact rfl) (ht : lk tbl ty = some i := by exact rfl) (ha : i.agg = true := by exact rfl) (hx : evA (lk T) x = some (.elt g sz n off) := by exact rfl) (hM : lk M g = some (.arr ety sz rs) := by exact rfl) (hr : rs[n]? = some row := by exact row_of) (hs : sub row off i.size = some ds := by exact rfl) (he : avs ds = some es := by exact rfl) :
    WD P ops fin (o :: r) acc T M := WD_dv hg hd (go_load_elt_agg htb ho ht ha hx hM hr hs he) k
theorem WD_ste (htb : TOK P tbl) {ty ety : TypeId} {x y : Operand} {g sz n off : Nat} {rs : List (List D)} {row ds new : List D} {z : AV} {i : TI} (k : WD P ops fin r (([g], [g]) :: acc) T ((g, .arr ety sz (rs.set n new)) :: M)) (ho : o.op = .store ty x y := by exact rfl)
    (hgd : gd ops T o = some true := by exact rfl) (hd : o.dst = none := by exact rfl) (ht : lk tbl ty = some i := by exact rfl) (hx : evA (lk T) x = some (.elt g sz n off) := by exact rfl) (hy : evA (lk T) y = some z := by exact rfl) (hf : flat z = true := by exact rfl) (hds : dsO (cellsOf z) = some ds := by exact rfl)
    (hM : lk M g = some (.arr ety sz rs) := by exact rfl) (hr : rs[n]? = some row := by exact row_of) (hl : Nat.beq ds.length i.size = true := by exact rfl) (hs : spl row off ds = some new := by exact rfl) : WD P ops fin (o :: r) acc T M := WD_dn hgd hd (go_store_elt htb ho ht hx hy hf hds hM hr hl hs) k
theorem srcx {T : Nat → Option AV} {M : Nat → Option AO} {e : TypeId} {sz : Nat} {x : Operand} {L : List Nat} {rs : List (List D)} (h : Src T M e sz x L rs := by first | exact Src.rows rfl | exact Src.own rfl rfl | exact Src.nil rfl | exact Src.nilS rfl) : Src T M e sz x L rs := h
theorem WD_ap (htb : TOK P tbl) {d : Tmp} {s x : Operand} {t e : TypeId} {i j : TI} {g : Nat} {L : List Nat} {rs rs2 : List (List D)} (k : WD P ops fin r (([d, g] ++ L, [d, g]) :: acc) ((d, .own d) :: T) ((d, .arr e j.size (rs ++ rs2)) :: (g, .dead) :: M))
    (ho : o.op = .call { callee := .builtin .append, args := #[s, x], argTypes := #[t, t] } := by exact rfl) (hgu : gd ops T o = some true := by exact rfl) (hd : o.dst = some d := by exact rfl) (ht : lk tbl t = some i := by exact rfl) (hs : i.isS = true := by exact rfl) (he : i.el = some e := by exact rfl) (hj : lk tbl e = some j := by exact rfl)
    (hpos : Nat.blt 0 j.size = true := by exact rfl) (hzl : Nat.beq j.zero.length j.size = true := by exact rfl) (hsv : evA (lk T) s = some (.own g) := by exact rfl) (hg : lk M g = some (.arr e j.size rs) := by exact rfl) (hsrc : Src (lk T) (lk M) e j.size x L rs2 := by exact srcx) (hg' : lk M d = none := by exact rfl)
    (hb : (rs.length + rs2.length) * j.bytes ≤ 140737488355328 := by exact len) (h63 : rs.length + rs2.length ≤ maxLen := by exact len) : WD P ops fin (o :: r) acc T M := WD_app htb hgu hd ho ht hs he hj hpos hzl hsv hg hsrc hg' hb h63 k
theorem WD_ap0 (htb : TOK P tbl) {d : Tmp} {s x : Operand} {t e : TypeId} {i j : TI} {L : List Nat} {rs2 : List (List D)} (k : WD P ops fin r (([d] ++ L, [d]) :: acc) ((d, .own d) :: T) ((d, .arr e j.size rs2) :: M))
    (ho : o.op = .call { callee := .builtin .append, args := #[s, x], argTypes := #[t, t] } := by exact rfl) (hgu : gd ops T o = some true := by exact rfl) (hd : o.dst = some d := by exact rfl) (ht : lk tbl t = some i := by exact rfl) (hs : i.isS = true := by exact rfl) (he : i.el = some e := by exact rfl) (hj : lk tbl e = some j := by exact rfl)
    (hpos : Nat.blt 0 j.size = true := by exact rfl) (hzl : Nat.beq j.zero.length j.size = true := by exact rfl) (hsv : evA (lk T) s = some (.d (.v (.slice none 0 0))) := by exact rfl) (hsrc : Src (lk T) (lk M) e j.size x L rs2 := by exact srcx) (hg' : lk M d = none := by exact rfl)
    (hb : rs2.length * j.bytes ≤ 140737488355328 := by exact len) (h63 : rs2.length ≤ maxLen := by exact len) : WD P ops fin (o :: r) acc T M := WD_app0 htb hgu hd ho ht hs he hj hpos hzl hsv hsrc hg' hb h63 k
theorem WD_nil (htb : TOK P tbl) {d : Tmp} {t t' : TypeId} {x y : Operand} {a : Option Addr} {n c : Nat} {i : TI} {e : TypeId} (k : WD P ops fin r (([], []) :: acc) ((d, .d (.v (.bool a.isNone))) :: T) M) (ho : o.op = .binOp .eql t x y t' := by exact rfl)
    (hg : gd ops T o = some true := by exact rfl) (hd : o.dst = some d := by exact rfl) (ht : lk tbl t = some i := by exact rfl) (hs : i.isS = true := by exact rfl) (he : i.el = some e := by exact rfl) (hx : evA (lk T) x = some (.d (.v (.slice a n c))) := by exact rfl) (hy : evA (lk T) y = some (.d (.v (.slice none 0 0))) := by exact rfl) :
    WD P ops fin (o :: r) acc T M := WD_dv hg hd (step_isnil htb ho ht hs he hx hy) k
theorem WD_nilr (htb : TOK P tbl) {d : Tmp} {t t' : TypeId} {x y : Operand} {sz : Nat} {row : List D} {rs : List (List D)} {i : TI} {e : TypeId} (k : WD P ops fin r (([], []) :: acc) ((d, .d (.v (.bool false))) :: T) M) (ho : o.op = .binOp .eql t x y t' := by exact rfl)
    (hg : gd ops T o = some true := by exact rfl) (hd : o.dst = some d := by exact rfl) (ht : lk tbl t = some i := by exact rfl) (hs : i.isS = true := by exact rfl) (he : i.el = some e := by exact rfl) (hx : evA (lk T) x = some (.d (.rows sz (row :: rs))) := by exact rfl) (hy : evA (lk T) y = some (.d (.v (.slice none 0 0))) := by exact rfl) :
    WD P ops fin (o :: r) acc T M := WD_dv hg hd (step_isnil_rows htb ho ht hs he hx hy) k
theorem bdx {T : Nat → Option AV} {x : Option Operand} {d n : Nat} (h : bdA T x d n := by first | exact Or.inl ⟨rfl, rfl⟩ | exact Or.inr ⟨_, _, rfl, rfl⟩ | exact bdA_q rfl num) : bdA T x d n := h
theorem WD_slc (htb : TOK P tbl) {dd : Tmp} {ty e : TypeId} {x : Operand} {lo hi : Option Operand} {i j : TI} {sz a b : Nat} {rs : List (List D)} (k : WD P ops fin r (([], []) :: acc) ((dd, .d (.rows sz ((rs.take b).drop a))) :: T) M) (ho : o.op = .slice ty x lo hi none := by exact rfl)
    (hg : gd ops T o = some true := by exact rfl) (hd : o.dst = some dd := by exact rfl) (ht : lk tbl ty = some i := by exact rfl) (hs : i.isS = true := by exact rfl) (he : i.el = some e := by exact rfl) (hj : lk tbl e = some j := by exact rfl) (hsz : j.size = sz := by exact rfl)
    (hx : evA (lk T) x = some (.d (.rows sz rs)) := by exact rfl) (hlo : bdA (lk T) lo 0 a := by exact bdx) (hhi : bdA (lk T) hi rs.length b := by exact bdx) (hab : a ≤ b := by exact len) (hb : b ≤ rs.length := by exact len) : WD P ops fin (o :: r) acc T M := WD_dv hg hd (step_slice htb ho ht hs he hj hsz hx hlo hhi hab hb) k
theorem WD_ixa (htb : TOK P tbl) {d : Tmp} {ty e : TypeId} {x y : Operand} {i j : TI} {n : Nat} {kk : IntKind} {q : Int} {cs ds : List AV} (k : WD P ops fin r (([], []) :: acc) ((d, .agg ds) :: T) M) (ho : o.op = .index ty x y := by exact rfl)
    (hg : gd ops T o = some true := by exact rfl) (hd : o.dst = some d := by exact rfl) (ht : lk tbl ty = some i := by exact rfl) (ha : i.agg = true := by exact rfl) (he : i.el = some e := by exact rfl) (hj : lk tbl e = some j := by exact rfl) (hja : j.agg = true := by exact rfl) (hx : evA (lk T) x = some (.agg cs) := by exact rfl)
    (hy : evA (lk T) y = some (.d (.v (.int kk q))) := by exact rfl) (hq : q = (n : Int) := by first | exact rfl | exact (Int.toNat_of_nonneg (by decide)).symm) (hn : Nat.blt n i.len = true := by exact rfl) (hs : sub cs (n * j.size) j.size = some ds := by exact rfl) : WD P ops fin (o :: r) acc T M := WD_dv hg hd (go_index_agg htb ho ht ha he hj hja hx hy hq hn hs) k
theorem WD_ix1 (htb : TOK P tbl) {d : Tmp} {ty e : TypeId} {x y : Operand} {i j : TI} {n : Nat} {kk : IntKind} {q : Int} {cs : List AV} {c : AV} (k : WD P ops fin r (([], []) :: acc) ((d, c) :: T) M) (ho : o.op = .index ty x y := by exact rfl)
    (hg : gd ops T o = some true := by exact rfl) (hd : o.dst = some d := by exact rfl) (ht : lk tbl ty = some i := by exact rfl) (ha : i.agg = true := by exact rfl) (he : i.el = some e := by exact rfl) (hj : lk tbl e = some j := by exact rfl) (hja : j.agg = false := by exact rfl) (hx : evA (lk T) x = some (.agg cs) := by exact rfl)
    (hy : evA (lk T) y = some (.d (.v (.int kk q))) := by exact rfl) (hq : q = (n : Int) := by first | exact rfl | exact (Int.toNat_of_nonneg (by decide)).symm) (hn : Nat.blt n i.len = true := by exact rfl) (hc : cs[n * j.size]? = some c := by exact rfl) : WD P ops fin (o :: r) acc T M := WD_dv hg hd (go_index_one htb ho ht ha he hj hja hx hy hq hn hc) k
theorem WD_eq {d : Tmp} {v : AV} (h : StepOK P o (lk T) (lk M) ⟨v, [], []⟩) (k : WD P ops fin r (([], []) :: acc) ((d, v) :: T) M) (hg : gd ops T o = some true := by exact rfl) (hd : o.dst = some d := by exact rfl) : WD P ops fin (o :: r) acc T M := WD_dv hg hd h k
theorem known {b c : Bool} (h : b = c := by first | with_reducible assumption | (simp only [List.length_map]; with_reducible assumption)) : b = c := h
end
theorem cvx {M : Nat → Option AO} {x y : AV} (h : Cv M x y := by first | exact Cv.refl _ | exact Cv.own rfl | exact Cv.nil | exact Cv.int (by omega) | exact Cv.aggs cvs | (focus (refine Cv.ownE rfl ?_; simp [rI, rA, rL, rO, dI, dS]; done)) | (focus (refine Cv.eq ?_; simp; done)) | exact Cv.refl _) : Cv M x y := h
theorem cvl {M : Nat → Option AO} {cs ds : List AV} (h : Cvs M cs ds := by (repeat (first | exact Cvs.nil | refine Cvs.cons cvx ?_)); (first | done | exact Cvs.nil)) : Cvs M cs ds := h
theorem LeV {cx : Cx} {s : St} {Mi : List (Nat × AO)} (R : List (Nat × Nat)) {T' : List (Nat × AV)} {M' : List (Nat × AO)} (h0 : ∀ g u, cx.μ0 g = some u → keyIn Mi g = true := by assumption)
    (hT : VT (lk s.T) (gone s.M R M') R (keyIn M') T' := by (repeat (first | exact trivial | refine ⟨⟨_, rfl, cvx⟩, rfl, ?_⟩)); (first | done | exact trivial))
    (hM : VM (lk s.M) (gone s.M R M') R (keyIn M') M' := by (repeat (first | exact trivial | (refine ⟨⟨_, rfl, ?_⟩, ?_⟩; (first | exact trivial | exact ⟨rfl, rfl, rfl⟩ | (focus (refine ⟨rfl, rfl, ?_⟩; (first | assumption | (simp [rI, rA, rL, rO, dI, dS]; done)))) | exact ⟨rfl, cvl, rfl⟩)))); (first | done | exact trivial))
    (hi : injB R M' = true := by rfl) (hb : baseB Mi R M' = true := by rfl) : Le cx s ⟨T', M'⟩ := Le_view Mi h0 R hT hM hi hb
section
variable {P : Program} {tbl : List (Nat × TI)} {cx : Cx} {Q : Exit → St → Prop} {T : List (Nat × AV)} {M : List (Nat × AO)}
theorem WA_forV {c : Code} (n : Nat) (t g : List Nat) (u : Nat → List (Nat × AV)) (v : Nat → List (Nat × AO)) (I : Nat → Prop) {T' : Nat → List (Nat × AV)} {M' : Nat → List (Nat × AO)} (h0 : I 0)
    (round : ∀ k, k ≤ n → I k → WA P cx c (thn (fun s' => k < n ∧ I (k + 1) ∧ Le cx s' ⟨T' (k + 1), M' (k + 1)⟩) Q) ⟨T' k, M' k⟩)
    (hT : ∀ k, T' k = u k ++ dels t T := by (intro k; (first | (simp only [dels, del, argT, Sc.box, List.cons_append, List.nil_append, Nat.reduceBEq, Nat.reduceAdd]; rfl) | (simp only [dels, del, argT, List.cons_append, List.nil_append, Nat.reduceBEq, Nat.reduceAdd]; rfl))))
    (hM : ∀ k, M' k = v k ++ dels g M := by (intro k; (first | (simp only [dels, del, argT, Sc.box, List.cons_append, List.nil_append, Nat.reduceBEq, Nat.reduceAdd]; rfl) | (simp only [dels, del, argT, List.cons_append, List.nil_append, Nat.reduceBEq, Nat.reduceAdd]; rfl))))
    (hl : Le cx ⟨T, M⟩ ⟨T' 0, M' 0⟩ := by exact LeV []) : WA P cx (.loop c) Q ⟨T, M⟩ := WA_for n t g u v I hT hM hl h0 round
theorem WA_anyV {α : Type} {c : Code} (m : α → Nat) (x0 : α) (t g : List Nat) (u : α → List (Nat × AV)) (v : α → List (Nat × AO)) (I : α → Prop) {T' : α → List (Nat × AV)} {M' : α → List (Nat × AO)} (h0 : I x0)
    (round : ∀ x, I x → WA P cx c (thn (fun s' => ∃ y, m y < m x ∧ I y ∧ Le cx s' ⟨T' y, M' y⟩) Q) ⟨T' x, M' x⟩)
    (hT : ∀ k, T' k = u k ++ dels t T := by (intro k; (first | (simp only [dels, del, argT, Sc.box, List.cons_append, List.nil_append, Nat.reduceBEq, Nat.reduceAdd]; rfl) | (simp only [dels, del, argT, List.cons_append, List.nil_append, Nat.reduceBEq, Nat.reduceAdd]; rfl))))
    (hM : ∀ k, M' k = v k ++ dels g M := by (intro k; (first | (simp only [dels, del, argT, Sc.box, List.cons_append, List.nil_append, Nat.reduceBEq, Nat.reduceAdd]; rfl) | (simp only [dels, del, argT, List.cons_append, List.nil_append, Nat.reduceBEq, Nat.reduceAdd]; rfl))))
    (hl : Le cx ⟨T, M⟩ ⟨T' x0, M' x0⟩ := by exact LeV []) : WA P cx (.loop c) Q ⟨T, M⟩ := WA_any m x0 t g u v I hT hM hl h0 round
theorem glV {fn : Func} {res : AV} {Mo : List (Nat × AO)} {e : Exit} {s : St} (T' : List (Nat × AV)) (M' : List (Nat × AO)) {ys : List AV} (hl : Le cx s ⟨T', M'⟩) (he : e = .normal ∨ e = .ret := by exact .inr rfl) (hr : resAll tbl (lk T') (lk M') fn.results.toList = some ys := by exact rfl)
    (hy : tupOf ys = res := by exact rfl) (hM : SubM (lk M') Mo := by exact subM) : Ret tbl fn res Mo cx e s := gL he hl hr hy hM
end
end Go.Am
