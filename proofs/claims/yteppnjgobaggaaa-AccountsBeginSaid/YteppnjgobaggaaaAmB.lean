/- Nothing is claimed here: slices that are built, cut, appended to; other views of a run. -/
import Derived.Test.YteppnjgobaggaaaAmA
namespace Go.Am
set_option linter.unusedSimpArgs false
set_option linter.unusedVariables false
set_option linter.unnecessarySimpa false
set_option linter.unusedSectionVars false
set_option maxRecDepth 100000
open Go Go.RowKit Go.Proofs.Grow

theorem flat_inv {sz : Nat} (hpos : 0 < sz) {rs : List (List D)} (hs : ∀ r ∈ rs, r.length = sz) {k : Nat} {c : D} (h : rs.flatten[k]? = some c) : ∃ r, rs[k / sz]? = some r ∧ r[k % sz]? = some c := by
  have hk : k < rs.length * sz := by rw [← flat_len hs]; exact (List.getElem?_eq_some_iff.1 h).1
  have hd : k / sz < rs.length := (Nat.div_lt_iff_lt_mul hpos).2 hk
  have hr : rs[k / sz]? = some rs[k / sz] := by simp [hd]
  have hl : (rs[k / sz]).length = sz := hs _ (List.getElem_mem hd)
  have hm : k % sz < (rs[k / sz]).length := by rw [hl]; exact Nat.mod_lt _ hpos
  have hc : (rs[k / sz])[k % sz]? = some (rs[k / sz])[k % sz] := by simp [hm]
  have := flat_get hs hr hc
  rw [Nat.mul_comm, Nat.div_add_mod, h] at this
  obtain rfl := Option.some.inj this
  exact ⟨_, hr, hc⟩
/-- What data that is a slice lies as. -/
theorem VD.parts {H : Nat → Prop} {w : World} {sz : Nat} {rs : List (List D)} {u : Value} (h : VD H w (.rows sz rs) u) (hpos : 0 < sz) : ∃ a cap, u = .slice a rs.length cap ∧ (a = none → rs = [] ∧ cap = 0) ∧ rs.length ≤ cap ∧ rs.length ≤ maxLen ∧ (∀ r ∈ rs, r.length = sz) ∧
    ∀ ad, a = some ad → ∃ news : List Value, news.length = rs.length * sz ∧ (∀ (j : Nat) (v : Value), news[j]? = some v → w.cell? (ad.add j) = some v) ∧ VDs H w rs.flatten news ∧ ∀ u ∈ news, u.oneCell' = true := by
  cases h with
  | nil sz a cap hc => exact ⟨a, cap, rfl, fun e => ⟨rfl, hc e⟩, Nat.zero_le _, Nat.zero_le _, by simp, fun ad _ => ⟨[], by simp, by simp, ⟨rfl, by simp⟩, by simp⟩⟩
  | rows _ _ b off cap vs hne hcap hlen hb hlt hsz hcell hone hval =>
    have hs : ∀ r ∈ rs, r.length = sz := by
      intro r hr
      obtain ⟨i, hi⟩ := List.mem_iff_getElem?.1 hr
      exact hsz i r hi
    refine ⟨_, cap, rfl, fun e => (by cases e), hcap, hlen, hs, fun ad hd => ?_⟩
    obtain rfl := Option.some.inj hd
    let news : List Value := (List.range (rs.length * sz)).map fun k => vs (k / sz) (k % sz)
    have hget : ∀ (j : Nat) (v : Value), news[j]? = some v → ∃ c, rs.flatten[j]? = some c ∧ v = vs (j / sz) (j % sz) ∧ ∃ r, rs[j / sz]? = some r ∧ r[j % sz]? = some c := by
      intro j v hv
      have hj : j < rs.length * sz := by
        have := (List.getElem?_eq_some_iff.1 hv).1
        simpa [news] using this
      have hc : rs.flatten[j]? = some (rs.flatten[j]'(by rw [flat_len hs]; exact hj)) := by rw [List.getElem?_eq_getElem]
      obtain ⟨r, h1, h2⟩ := flat_inv hpos hs hc
      refine ⟨_, hc, ?_, r, h1, h2⟩
      simp only [news, List.getElem?_map, List.getElem?_range hj, Option.map_some, Option.some.injEq] at hv
      exact hv.symm
    refine ⟨news, by simp [news], fun j v hv => ?_, ⟨by rw [flat_len hs]; simp [news], fun j c v hc hv => ?_⟩, fun u hu => ?_⟩
    · obtain ⟨c, h1, rfl, r, h2, h3⟩ := hget j v hv
      have := hcell _ _ _ _ h2 h3
      rw [addr_add, ← this]
      congr 2
      have := Nat.div_add_mod j sz
      rw [Nat.mul_comm] at this
      omega
    · obtain ⟨c', h1, rfl, r, h2, h3⟩ := hget j v hv
      rw [hc] at h1
      obtain rfl := Option.some.inj h1
      exact hval _ _ _ _ h2 h3
    · obtain ⟨j, hj⟩ := List.mem_iff_getElem?.1 hu
      obtain ⟨c, h1, rfl, r, h2, h3⟩ := hget j u hj
      exact hone _ _ _ _ h2 h3
/-- What an own slice lies as, where it is read. -/
theorem own_parts {w : World} {e : TypeId} {sz : Nat} {v : Value} {n : Nat} {xs : List Value} (h : w.ownsRow 0 e sz v n xs) : ∃ a cap, v = .slice a n cap ∧ (a = none → n = 0 ∧ cap = 0) ∧ ∀ ad, a = some ad → (∀ (j : Nat) (u : Value), xs[j]? = some u → w.cell? (ad.add j) = some u) := by
  rcases h.2 with ⟨rfl, rfl⟩ | ⟨g, cap, cur, rfl, _, hg, _⟩
  · exact ⟨none, 0, rfl, fun _ => ⟨rfl, rfl⟩, fun ad hd => by cases hd⟩
  · exact ⟨_, cap, rfl, fun e => (by cases e), fun ad hd => by
      obtain rfl := Option.some.inj hd
      exact h.cells (g := g) rfl⟩

def chunkD (sz : Nat) : Nat → List AV → Option (List (List D))
  | 0, [] => some []
  | 0, _ :: _ => none
  | n + 1, cs => match takeO cs sz, dropO cs sz with
    | some r, some q => match dsO r, chunkD sz n q with
      | some d, some ds => some (d :: ds)
      | _, _ => none
    | _, _ => none
theorem chunkD_spec {sz : Nat} : ∀ {n : Nat} {cs : List AV} {rs : List (List D)}, chunkD sz n cs = some rs → cs = rs.flatten.map AV.d ∧ rs.length = n ∧ ∀ r ∈ rs, r.length = sz
  | 0, [], rs, h => by
    obtain rfl : [] = rs := by simpa [chunkD] using h
    exact ⟨rfl, rfl, by simp⟩
  | 0, _ :: _, rs, h => by simp [chunkD] at h
  | n + 1, cs, rs, h => by
    simp only [chunkD] at h
    split at h
    · rename_i r q h1 h2
      split at h
      · rename_i d ds h3 h4
        obtain rfl := Option.some.inj h
        obtain ⟨e1, e2, e3⟩ := chunkD_spec h4
        obtain ⟨t1, t2⟩ := takeO_spec h1
        obtain ⟨d1, d2⟩ := dropO_spec h2
        have hr := dsO_spec h3
        have hdl : d.length = sz := by
          have := congrArg List.length hr
          rw [t1] at this
          simp at this; omega
        refine ⟨?_, by simp [e2], fun r hr => ?_⟩
        · rw [List.flatten_cons, List.map_append, ← hr, ← e1, t1, d1, List.take_append_drop]
        · rcases List.mem_cons.1 hr with rfl | hr
          · exact hdl
          · exact e3 r hr
      · cases h
    · cases h

section
variable {P : Program} {tbl : List (Nat × TI)} {o : Oper} {T : Nat → Option AV} {M : Nat → Option AO}
def zeroR (zs : List Value) (n : Nat) : List AV := (List.range n).map fun i => .d (.v (zs.toArray[i % zs.toArray.size]!))
theorem go_buildSlice (htb : TOK P tbl) (g : Nat) {ty e : TypeId} {len : Nat} {parts : Array (Nat × Operand)} {i j : TI} {ps : List (Nat × AV)} {cs : List AV} {rs : List (List D)} (ho : o.op = .buildSlice ty len parts) (ht : lk tbl ty = some i) (hs : i.isS = true) (he : i.el = some e) (hj : lk tbl e = some j)
    (hpos : Nat.blt 0 j.size = true) (hlen : Nat.ble (len * j.size) 16777216 = true) (hone : j.zero.all Value.oneCell' = true) (hzl : Nat.beq j.zero.length j.size = true) (hp : evP T parts.toList = some ps) (hf : fillA (fun k => some (k * j.size, j.size)) (zeroR j.zero (len * j.size)) ps = some cs) (hc : chunkD j.size len cs = some rs) (hg : M g = none) :
    StepOK P o T M ⟨.own g, [g], [(g, .arr e j.size rs)]⟩ :=
  step_any mem_self fun cx μ T' M' a w h hT hM => by
    rw [← hM g (by simp)] at hg
    have hd := slice_desc (htb _ _ ht) hs he
    have hpos : 0 < j.size := Nat.le_of_ble_eq_true hpos
    have hlen := Nat.le_of_ble_eq_true hlen
    have hzl := Nat.eq_of_beq_eq_true hzl
    obtain ⟨z, hzr, hzc⟩ := run_zero (w := w) (htb _ _ hj)
    obtain ⟨hl, hrel⟩ := parts_rel (o := o) h hT (parts := parts) (fun p hp => by rw [ho]; simp only [Op.operands]; simpa using ⟨p.1, by simpa using hp⟩) hp
    have hz0 : VRs (Ht cx μ M') μ w (zeroR j.zero (len * j.size)) ((Array.range (len * j.size)).map (j.zero.toArray[· % j.zero.toArray.size]!)).toList := by
      refine ⟨by simp [zeroR], fun i c v hc hv => ?_⟩
      have hi : i < len * j.size := by
        have := (List.getElem?_eq_some_iff.1 hc).1
        simpa [zeroR] using this
      have e1 : c = .d (.v (j.zero.toArray[i % j.zero.toArray.size]!)) := by
        simp only [zeroR, List.getElem?_map, List.getElem?_range hi, Option.map_some, Option.some.injEq] at hc
        exact hc.symm
      have e2 : v = j.zero.toArray[i % j.zero.toArray.size]! := by
        simp [hi] at hv
        simp [hv]
      rw [e1, e2]
      exact .d (.v _)
    have hzone : ∀ u ∈ (Array.range (len * j.size)).map (j.zero.toArray[· % j.zero.toArray.size]!), u.oneCell' = true := by
      intro u hu
      obtain ⟨k, _, rfl⟩ := Array.mem_map.1 hu
      have hk : k % j.zero.toArray.size < j.zero.length := by simp [hzl]; exact Nat.mod_lt _ hpos
      have : j.zero.toArray[k % j.zero.toArray.size]! = j.zero[k % j.zero.toArray.size] := by
        rw [getElem!_pos (h := by simpa using hk)]
        simp
      rw [this]
      exact List.all_eq_true.1 hone _ (List.getElem_mem hk)
    obtain ⟨cur', q1, q2, q3, q4⟩ := fill_ok (pl' := fun k => some (k * j.size, j.size)) (fun k p hk => hk) hz0 hl hrel hf hzone
    obtain ⟨c1, c2, c3⟩ := chunkD_spec hc
    have hcs : cur'.size = len * j.size := by rw [q4]; simp
    have hmap : len * j.size = 0 → (Array.range (len * j.size)).map ((#[] : Array Value)[· % (#[] : Array Value).size]!) = (Array.range (len * j.size)).map (j.zero.toArray[· % j.zero.toArray.size]!) := by
      intro h0; rw [h0]; simp
    refine ⟨.slice (some ⟨w.heap.size, 0, none⟩) len len, w.alloc (.cells cur' e), upμ μ g (.slice (some ⟨w.heap.size, 0, none⟩) len len), ?_, ?_, .own (upμ_self _ _)⟩
    · simp only [execOp, ho, Instr.buildSlice, Sem.run_bind, run_underlying hd, Result.andThen_ok, run_size (htb _ _ hj)]
      rw [if_neg (by omega)]
      by_cases h0 : len * j.size = 0
      · rw [if_pos h0]
        simp only [Sem.run_bind, Sem.run_pure, Result.andThen_ok, hmap h0, q1]
        simp [newRow]
      · rw [if_neg h0]
        simp only [Sem.run_bind, hzr, Sem.run_pure, Result.andThen_ok, hzc, q1]
        simp [newRow]
    · refine h.new hg (chg_alloc w _) rfl (fun b hb => ?_) fun H' hk hH => ⟨_, cur'.toList, upμ_self _ _, ⟨by rw [c2]; simpa using hcs, .inr ⟨w.heap.size, len, cur', by rw [c2], Nat.zero_le _, heap_alloc_new w _, by omega, ?_, hcs, by rw [c2]; rw [List.take_of_length_le (by rw [Array.length_toList]; omega)]⟩⟩, c3, ?_, fun u hu => q3 u (by simpa using hu)⟩
      · obtain rfl : w.heap.size = b := by simpa [blkOf] using hb
        exact ⟨Nat.le_refl _, by simp⟩
      · have : len ≤ len * j.size := Nat.le_mul_of_pos_right len hpos
        unfold maxLen; omega
      · rw [c1] at q2
        exact (VRs.vds (q2.grow (μ' := μ) (fun _ _ hk => hk) hk))

/-- The same, seen as what nobody will write. -/
theorem go_buildRows (htb : TOK P tbl) {ty e : TypeId} {len : Nat} {parts : Array (Nat × Operand)} {i j : TI} {ps : List (Nat × AV)} {cs : List AV} {rs : List (List D)} (ho : o.op = .buildSlice ty len parts) (ht : lk tbl ty = some i) (hs : i.isS = true) (he : i.el = some e) (hj : lk tbl e = some j)
    (hpos : Nat.blt 0 j.size = true) (hlen : Nat.ble (len * j.size) 16777216 = true) (hone : j.zero.all Value.oneCell' = true) (hzl : Nat.beq j.zero.length j.size = true) (hp : evP T parts.toList = some ps) (hf : fillA (fun k => some (k * j.size, j.size)) (zeroR j.zero (len * j.size)) ps = some cs) (hc : chunkD j.size len cs = some rs) :
    StepOK P o T M ⟨.d (.rows j.size rs), [], []⟩ :=
  step_any (by simp) fun cx μ T' M' a w h hT hM => by
    have hd := slice_desc (htb _ _ ht) hs he
    have hpos : 0 < j.size := Nat.le_of_ble_eq_true hpos
    have hlen := Nat.le_of_ble_eq_true hlen
    have hzl := Nat.eq_of_beq_eq_true hzl
    obtain ⟨z, hzr, hzc⟩ := run_zero (w := w) (htb _ _ hj)
    obtain ⟨hl, hrel⟩ := parts_rel (o := o) h hT (parts := parts) (fun p hp => by rw [ho]; simp only [Op.operands]; simpa using ⟨p.1, by simpa using hp⟩) hp
    have hz0 : VRs (Ht cx μ M') μ w (zeroR j.zero (len * j.size)) ((Array.range (len * j.size)).map (j.zero.toArray[· % j.zero.toArray.size]!)).toList := by
      refine ⟨by simp [zeroR], fun i c v hc hv => ?_⟩
      have hi : i < len * j.size := by
        have := (List.getElem?_eq_some_iff.1 hc).1
        simpa [zeroR] using this
      have e1 : c = .d (.v (j.zero.toArray[i % j.zero.toArray.size]!)) := by
        simp only [zeroR, List.getElem?_map, List.getElem?_range hi, Option.map_some, Option.some.injEq] at hc
        exact hc.symm
      have e2 : v = j.zero.toArray[i % j.zero.toArray.size]! := by
        simp [hi] at hv
        simp [hv]
      rw [e1, e2]
      exact .d (.v _)
    have hzone : ∀ u ∈ (Array.range (len * j.size)).map (j.zero.toArray[· % j.zero.toArray.size]!), u.oneCell' = true := by
      intro u hu
      obtain ⟨k, _, rfl⟩ := Array.mem_map.1 hu
      have hk : k % j.zero.toArray.size < j.zero.length := by simp [hzl]; exact Nat.mod_lt _ hpos
      have : j.zero.toArray[k % j.zero.toArray.size]! = j.zero[k % j.zero.toArray.size] := by
        rw [getElem!_pos (h := by simpa using hk)]
        simp
      rw [this]
      exact List.all_eq_true.1 hone _ (List.getElem_mem hk)
    obtain ⟨cur', q1, q2, q3, q4⟩ := fill_ok (pl' := fun k => some (k * j.size, j.size)) (fun k p hk => hk) hz0 hl hrel hf hzone
    obtain ⟨c1, c2, c3⟩ := chunkD_spec hc
    have hcs : cur'.size = len * j.size := by rw [q4]; simp
    have hmap : len * j.size = 0 → (Array.range (len * j.size)).map ((#[] : Array Value)[· % (#[] : Array Value).size]!) = (Array.range (len * j.size)).map (j.zero.toArray[· % j.zero.toArray.size]!) := by
      intro h0; rw [h0]; simp
    refine ⟨.slice (some ⟨w.heap.size, 0, none⟩) len len, w.alloc (.cells cur' e), μ, ?_, ?_, ?_⟩
    · simp only [execOp, ho, Instr.buildSlice, Sem.run_bind, run_underlying hd, Result.andThen_ok, run_size (htb _ _ hj)]
      rw [if_neg (by omega)]
      by_cases h0 : len * j.size = 0
      · rw [if_pos h0]
        simp only [Sem.run_bind, Sem.run_pure, Result.andThen_ok, hmap h0, q1]
        simp [newRow]
      · rw [if_neg h0]
        simp only [Sem.run_bind, hzr, Sem.run_pure, Result.andThen_ok, hzc, q1]
        simp [newRow]
    · show InvM cx μ T' M' a _
      exact h.next (B := fun _ => False) (chg_alloc w _) (fun _ hb => hb.elim) (fun _ _ hk => hk) (fun _ hb => .inl hb) (fun g o hg => .inl ⟨hg, fun _ _ _ _ _ hb => hb⟩) h.inj h.free
    · show VR (Ht cx μ M') μ _ _ _
      rw [c1] at q2
      have hrl : rs.length = len := c2
      by_cases h0 : rs = []
      · subst h0
        obtain rfl : 0 = len := by simpa using hrl
        exact .d (.nil _ _ _ fun e => by cases e)
      · have hHt : ¬ Ht cx μ M' w.heap.size := by
          rintro (q | q)
          · have := (h.hs _ q).1
            have := h.fr.size
            omega
          · have := (h.lo _ q).1; omega
        have hkp : Keeps (Ht cx μ M') (Ht cx μ M') w (w.alloc (.cells cur' e)) := h.keeps (B := fun _ => False) (chg_alloc w _) (fun _ hb => hb.elim) (fun _ hb => .inl hb)
        have hcell : ∀ (k : Nat) (c : D), rs.flatten[k]? = some c → ∃ v, cur'[k]? = some v ∧ VD (Ht cx μ M') w c v := by
          intro k c hk
          have hl : rs.flatten.length = cur'.toList.length := by have := q2.1; rwa [List.length_map] at this
          have hlt : k < cur'.toList.length := by rw [← hl]; exact (List.getElem?_eq_some_iff.1 hk).1
          have hv : cur'.toList[k]? = some cur'.toList[k] := by rw [List.getElem?_eq_getElem]
          have := q2.2 k (.d c) _ (by rw [List.getElem?_map, hk]; rfl) hv
          cases this with
          | d hd2 => exact ⟨_, by simpa using hv, hd2⟩
        rw [← hrl]
        refine .d (.rows j.size rs w.heap.size 0 rs.length (fun i jj => (cur'[i * j.size + jj]?).getD undef) h0 (Nat.le_refl _) ?_ hHt (by simp) (fun i r hr => c3 r (List.mem_of_getElem? hr)) (fun i r jj c hr hcc => ?_) (fun i r jj c hr hcc => ?_) (fun i r jj c hr hcc => ?_))
        · rw [hrl]; have : len ≤ len * j.size := Nat.le_mul_of_pos_right len hpos
          unfold maxLen; omega
        · obtain ⟨v, hv, _⟩ := hcell _ c (flat_get c3 hr hcc)
          rw [hv, Nat.zero_add]
          simp only [World.cell?, heap_alloc_new w, hv, Option.getD_some]
          simp [hv]
        · obtain ⟨v, hv, _⟩ := hcell _ c (flat_get c3 hr hcc)
          rw [hv]
          exact q3 v (Array.mem_of_getElem? hv)
        · obtain ⟨v, hv, hd2⟩ := hcell _ c (flat_get c3 hr hcc)
          rw [hv]
          exact hd2.mono hkp

/-- Appending, as a run. -/
theorem run_app {w : World} {t e : TypeId} {i j : TI} (htb : TOK P tbl) (ht : lk tbl t = some i) (hs : i.isS = true) (he : i.el = some e) (hj : lk tbl e = some j) (hpos : 0 < j.size) (hzl : j.zero.length = j.size) (ty : TypeId)
    {v : Value} {n : Nat} {xs : List Value} (hown : w.ownsRow 0 e j.size v n xs) {a : Option Addr} {m c : Nat} (hn0 : a = none → m = 0 ∧ c = 0) {news : List Value} (hl : news.length = m * j.size) (hnews : ∀ ad, a = some ad → ∀ (k : Nat) (u : Value), news[k]? = some u → w.cell? (ad.add k) = some u) (h1 : ∀ u ∈ news, u.oneCell' = true)
    (h63 : n + m ≤ maxLen) (hbytes : (n + m) * j.bytes ≤ 140737488355328) :
    ∃ v' w2, (Builtin.append_ #[t, t] ty #[v, .slice a m c]).run P w = .ok v' w2 ∧ w2.ownsRow 0 e j.size v' (n + m) (xs ++ news) ∧ Chg (fun k => blkOf v = some k) w w2 ∧ (∀ b, blkOf v' = some b → blkOf v = some b ∨ (w.heap.size ≤ b ∧ b < w2.heap.size)) := by
  have hd := slice_desc (htb _ _ ht) hs he
  obtain ⟨info, d, z, k1, k2, k3, k4, k5, k6, _⟩ := ti_parts (htb _ _ hj)
  have hzs : z.cells.size = j.size := by rw [k6]; simpa using hzl
  cases a with
  | none =>
    obtain ⟨rfl, rfl⟩ := hn0 rfl
    obtain rfl : news = [] := List.eq_nil_of_length_eq_zero (by simpa using hl)
    exact ⟨v, w, run_append_owned_none (P := P) (w := w) 0 t ty e info j.size hd k1 v n xs hown, by simpa using hown, Chg.refl _ _, fun b hb => .inl hb⟩
  | some ad =>
    obtain ⟨v', w', hr, q1, q2, q3⟩ := run_append_own (P := P) w 0 t ty e info z j.size j.bytes hd k1 k3 k4 k5 hzs hpos v n xs hown ad m c news hl (hnews ad rfl) h1 h63 hbytes (Nat.zero_le _)
    have hblk : ∀ u : Value, u.ownBlock = blkOf u ∨ (∃ p, u = .pointer p) := by
      intro u
      cases u <;> first | exact .inl rfl | exact .inr ⟨_, rfl⟩ | (rename_i a _ _; cases a <;> exact .inl rfl)
    have hvb : v.ownBlock = blkOf v := by
      rcases hown.2 with ⟨rfl, _⟩ | ⟨g, cap, cur, rfl, _⟩ <;> rfl
    refine ⟨v', w', hr, q1, ⟨q2.os, q2.tape, q2.output, q2.size, fun k hk hb => q2.block k hk fun e => hb (by rw [← hvb]; exact e.symm)⟩, fun b hb => ?_⟩
    rcases hown.2 with ⟨rfl, rfl⟩ | ⟨g, cap, cur, rfl, _, hg, hnc, hcm, hcs, htake⟩
    · right
      obtain ⟨v2, w2, hr2, p1, p2, p3⟩ := run_append_own (P := P) w w.heap.size t ty e info z j.size j.bytes hd k1 k3 k4 k5 hzs hpos (.slice none 0 0) 0 xs (by
        obtain rfl : xs = [] := List.eq_nil_of_length_eq_zero (by simpa using hown.1)
        exact World.ownsRow_nil w _ e j.size) ad m c news hl (hnews ad rfl) h1 h63 hbytes (Nat.le_refl _)
      rw [hr] at hr2
      cases hr2
      have hb2 : v'.ownBlock = some b := by
        rcases q1.2 with ⟨rfl, _⟩ | ⟨g, cap, cur, rfl, _⟩
        · simp [blkOf] at hb
        · exact hb
      exact p1.lt b hb2
    · have hnl : xs.length = n * j.size := hown.1
      by_cases hroom : n + m ≤ cap
      · have hfit : n * j.size + news.length ≤ cur.size := by rw [hl, hcs, ← Nat.add_mul]; exact Nat.mul_le_mul_right _ hroom
        have hr2 := run_append_room (P := P) w t ty e info hd k1 g n cap cur hg ad m c news (by rw [k4]; exact hl) (hnews ad rfl) h1 hroom (by rw [k4]; exact hfit)
        rw [hr] at hr2
        simp only [Result.ok.injEq] at hr2
        obtain ⟨rfl, _⟩ := hr2
        exact .inl hb
      · have holds : ∀ (k : Nat) (u : Value), xs[k]? = some u → w.cell? ((⟨g, 0, none⟩ : Addr).add k) = some u := hown.cells (g := g) rfl
        have h63' : ((n + m : Nat) : Int) ≤ 9223372036854775807 := by simp only [maxLen] at h63; omega
        have hr2 := run_append_grow (P := P) w t ty e info z hd k1 k3 ⟨g, 0, none⟩ n cap xs (by rw [k4]; exact hnl) holds ad m c news (by rw [k4]; exact hl) (hnews ad rfl) (by omega) h63' (growslice_fits (by omega) (by rw [k5]; exact hbytes))
        rw [hr] at hr2
        simp only [Result.ok.injEq] at hr2
        obtain ⟨rfl, rfl⟩ := hr2
        obtain rfl : w.heap.size = b := by simpa [blkOf] using hb
        exact .inr ⟨Nat.le_refl _, by simp⟩

theorem upM_two {g k : Nat} {x y : AO} (hgk : g ≠ k) : upM M [(g, x), (k, y)] g = some x ∧ upM M [(g, x), (k, y)] k = some y ∧ ∀ j, j ≠ g → j ≠ k → upM M [(g, x), (k, y)] j = M j := by
  have b1 : ∀ a b : Nat, a ≠ b → Nat.beq a b = false := fun a b hab => by
    cases hb : Nat.beq a b
    · rfl
    · exact absurd (Nat.eq_of_beq_eq_true hb) hab
  refine ⟨by simp [upM, lk], by simp [upM, lk, b1 g k hgk], fun j h1 h2 => by simp [upM, lk, b1 g j (Ne.symm h1), b1 k j (Ne.symm h2)]⟩
/-- An own slice is appended to: the old one is given up. -/
theorem InvM.append {cx : Cx} {μ : Nat → Option Value} {T' : Nat → Option AV} {M' : Nat → Option AO} {a : Act} {w w2 : World} (h : InvM cx μ T' M' a w) {g g' : Nat} {e : TypeId} {sz : Nat} {rs rs' : List (List D)} {v v' : Value} {ys : List Value} (hg : M' g = some (.arr e sz rs)) (hv : μ g = some v) (hg' : M' g' = none)
    (hch : Chg (fun k => blkOf v = some k) w w2) (hblk : ∀ b, blkOf v' = some b → blkOf v = some b ∨ (w.heap.size ≤ b ∧ b < w2.heap.size)) (hown : w2.ownsRow 0 e sz v' rs'.length ys) (hlen : ∀ r ∈ rs', r.length = sz) (hone : ∀ u ∈ ys, u.oneCell' = true)
    (hval : ∀ H', Keeps (Ht cx μ M') H' w w2 → VDs H' w2 rs'.flatten ys) : InvM cx (upμ μ g' v') T' (upM M' [(g', .arr e sz rs'), (g, .dead)]) a w2 := by
  have hne : g' ≠ g := fun e => by rw [e, hg] at hg'; cases hg'
  obtain ⟨u1, u2, u3⟩ := upM_two (M := M') (x := .arr e sz rs') (y := .dead) hne
  have hμ := upμ_old (v := v') (h.free g' hg')
  have hgen : ∀ k, k ≠ g' → upμ μ g' v' k = μ k := fun k hk => by simp [upμ, hk]
  have hgb : ∀ b, blkOf v = some b → Hot μ M' b := fun b hb => ⟨g, _, v, hg, rfl, hv, hb⟩
  have hhot : ∀ b, Hot (upμ μ g' v') (upM M' [(g', .arr e sz rs'), (g, .dead)]) b → Hot μ M' b ∨ (w.heap.size ≤ b ∧ b < w2.heap.size) := by
    rintro b ⟨k, q, u, q1, q2, q3, q4⟩
    by_cases e1 : k = g'
    · subst e1
      rw [upμ_self] at q3
      obtain rfl := Option.some.inj q3
      exact (hblk b q4).imp (hgb b) id
    · by_cases e2 : k = g
      · subst e2; rw [u2] at q1; obtain rfl := Option.some.inj q1; cases q2
      · rw [u3 k e1 e2] at q1
        rw [hgen k e1] at q3
        exact .inl ⟨k, q, u, q1, q2, q3, q4⟩
  refine h.next hch hgb hμ hhot (fun k q hk => ?_) ?_ (fun k hk => ?_)
  · by_cases e1 : k = g'
    · subst e1
      rw [u1] at hk
      obtain rfl := Option.some.inj hk
      exact .inr ⟨v', ys, upμ_self _ _, hown, hlen, hval _ (h.keeps hch hgb fun b hb => (hhot b hb).imp id (·.1)), hone⟩
    · by_cases e2 : k = g
      · subst e2; rw [u2] at hk; obtain rfl := Option.some.inj hk; exact .inr trivial
      · rw [u3 k e1 e2] at hk
        exact .inl ⟨hk, fun hl u b hu hb hvb => e2 (h.inj k g q _ u v b hk hl hg rfl hu hv hb hvb)⟩
  · intro k k' q q' u u' b q1 q2 q3 q4 q5 q6 q7 q8
    have old : ∀ k q u, k ≠ g' → upM M' [(g', .arr e sz rs'), (g, .dead)] k = some q → q.live = true → upμ μ g' v' k = some u → k ≠ g ∧ M' k = some q ∧ μ k = some u := by
      intro k q u e1 r1 r2 r3
      have e2 : k ≠ g := fun e2 => by subst e2; rw [u2] at r1; obtain rfl := Option.some.inj r1; cases r2
      rw [u3 k e1 e2] at r1
      rw [hgen k e1] at r3
      exact ⟨e2, r1, r3⟩
    have mix : ∀ k q u, k ≠ g' → upM M' [(g', .arr e sz rs'), (g, .dead)] k = some q → q.live = true → upμ μ g' v' k = some u → blkOf u = some b → blkOf v' = some b → False := by
      intro k q u e1 r1 r2 r3 r4 r5
      obtain ⟨e2, r1, r3⟩ := old k q u e1 r1 r2 r3
      rcases hblk b r5 with r | ⟨r, _⟩
      · exact e2 (h.inj k g q _ u v b r1 r2 hg rfl r3 hv r4 r)
      · have := (h.lo b ⟨k, q, u, r1, r2, r3, r4⟩).1
        omega
    by_cases e1 : k = g' <;> by_cases e1' : k' = g'
    · rw [e1, e1']
    · subst e1
      rw [upμ_self] at q5
      obtain rfl := Option.some.inj q5
      exact (mix k' q' u' e1' q3 q4 q6 q8 q7).elim
    · subst e1'
      rw [upμ_self] at q6
      obtain rfl := Option.some.inj q6
      exact (mix k q u e1 q1 q2 q5 q7 q8).elim
    · obtain ⟨_, r1, r2⟩ := old k q u e1 q1 q2 q5
      obtain ⟨_, r1', r2'⟩ := old k' q' u' e1' q3 q4 q6
      exact h.inj k k' q q' u u' b r1 q2 r1' q4 r2 r2' q7 q8
  · by_cases e1 : k = g'
    · subst e1; rw [u1] at hk; cases hk
    · by_cases e2 : k = g
      · subst e2; rw [u2] at hk; cases hk
      · rw [u3 k e1 e2] at hk; rw [hgen k e1]; exact h.free k hk

/-- What is appended: data, an own slice, nothing. -/
inductive Src (T : Nat → Option AV) (M : Nat → Option AO) (e : TypeId) (sz : Nat) (x : Operand) : List Nat → List (List D) → Prop
  | rows {rs : List (List D)} (h : evA T x = some (.d (.rows sz rs))) : Src T M e sz x [] rs
  | own {g : Nat} {rs : List (List D)} (h : evA T x = some (.own g)) (hg : M g = some (.arr e sz rs)) : Src T M e sz x [g] rs
  | nil (h : evA T x = some (.d (.v (.slice none 0 0)))) : Src T M e sz x [] []
  | nilS {ad : Addr} {cap : Nat} (h : evA T x = some (.d (.v (.slice (some ad) 0 cap)))) : Src T M e sz x [] []
theorem src_parts {e : TypeId} {sz : Nat} {x : Operand} {L : List Nat} {rs : List (List D)} (hsrc : Src T M e sz x L rs) (hpos : 0 < sz) {cx : Cx} {μ : Nat → Option Value} {T' : Nat → Option AV} {M' : Nat → Option AO} {a : Act} {w : World} (h : InvM cx μ T' M' a w)
    (hT : ∀ t ∈ opTs o, T' t = T t) (hx : x ∈ o.op.operands.toList) (hM : ∀ g ∈ L, M' g = M g) : ∃ ad cap news, a.eval x = .slice ad rs.length cap ∧ (ad = none → rs.length = 0 ∧ cap = 0) ∧ news.length = rs.length * sz ∧ (∀ p, ad = some p → ∀ (k : Nat) (u : Value), news[k]? = some u → w.cell? (p.add k) = some u) ∧
      (∀ r ∈ rs, r.length = sz) ∧ VDs (Ht cx μ M') w rs.flatten news ∧ ∀ u ∈ news, u.oneCell' = true := by
  cases hsrc with
  | rows hr =>
    have h1 := h.ev hT hx hr
    generalize a.eval x = v at h1
    cases h1 with
    | d h1 =>
      obtain ⟨ad, cap, rfl, q1, q2, q3, q4, q5⟩ := h1.parts hpos
      cases ad with
      | none =>
        obtain ⟨rfl, rfl⟩ := q1 rfl
        exact ⟨none, 0, [], rfl, fun _ => ⟨rfl, rfl⟩, by simp, fun p hp => by simp at hp, by simp, ⟨rfl, by simp⟩, by simp⟩
      | some p =>
        obtain ⟨news, n1, n2, n3, n4⟩ := q5 p rfl
        exact ⟨some p, cap, news, rfl, fun e => (by cases e), n1, fun p' hp => by obtain rfl := Option.some.inj hp; exact n2, q4, n3, n4⟩
  | @own g _ hr hg =>
    rw [← hM g (by simp)] at hg
    have h1 := h.ev hT hx hr
    obtain ⟨u, xs, g1, g2, g3, g4, g5⟩ := h.ob g _ hg
    obtain ⟨ad, cap, rfl, p1, p2⟩ := own_parts g2
    generalize a.eval x = v at h1
    cases h1 with
    | @own _ ad' n' cap' hb =>
      rw [g1] at hb
      obtain ⟨rfl, rfl, rfl⟩ : ad = ad' ∧ rs.length = n' ∧ cap = cap' := by simpa using hb
      exact ⟨ad, cap, xs, rfl, p1, g2.1, p2, g3, g4, g5⟩
  | nil hr =>
    exact ⟨none, 0, [], (h.ev hT hx hr).val, fun _ => ⟨rfl, rfl⟩, by simp, fun p hp => (by cases hp), by simp, ⟨rfl, by simp⟩, by simp⟩
  | @nilS ad cap hr =>
    exact ⟨some ad, cap, [], (h.ev hT hx hr).val, fun e => (by cases e), by simp, fun p hp k u hk => (by simp at hk), by simp, ⟨rfl, by simp⟩, by simp⟩

theorem go_append (htb : TOK P tbl) (g' : Nat) {s x : Operand} {t e : TypeId} {i j : TI} {g : Nat} {L : List Nat} {rs rs2 : List (List D)} (ho : o.op = .call { callee := .builtin .append, args := #[s, x], argTypes := #[t, t] }) (ht : lk tbl t = some i) (hs : i.isS = true) (he : i.el = some e) (hj : lk tbl e = some j)
    (hpos : Nat.blt 0 j.size = true) (hzl : Nat.beq j.zero.length j.size = true) (hsv : evA T s = some (.own g)) (hg : M g = some (.arr e j.size rs)) (hsrc : Src T M e j.size x L rs2) (hg' : M g' = none) (hb : (rs.length + rs2.length) * j.bytes ≤ 140737488355328) (h63 : rs.length + rs2.length ≤ maxLen) :
    StepOK P o T M ⟨.own g', [g', g] ++ L, [(g', .arr e j.size (rs ++ rs2)), (g, .dead)]⟩ :=
  step_any (by intro p hp; simp at hp; rcases hp with rfl | rfl <;> simp) fun cx μ T' M' a w h hT hM => by
    rw [← hM g (by simp)] at hg
    rw [← hM g' (by simp)] at hg'
    have hpos : 0 < j.size := Nat.le_of_ble_eq_true hpos
    have hzl := Nat.eq_of_beq_eq_true hzl
    obtain ⟨u, xs, g1, g2, g3, g4, g5⟩ := h.ob g _ hg
    have hsu : a.eval s = u := by
      have h1 := h.ev (x := s) hT (by simp [ho, Op.operands, Call.operands]) hsv
      generalize a.eval s = v at h1
      cases h1 with
      | own hb => rw [g1] at hb; exact (Option.some.inj hb).symm
    obtain ⟨ad, cap, news, n1, n2, n3, n4, n5, n6, n7⟩ := src_parts (o := o) hsrc hpos h hT (by simp [ho, Op.operands, Call.operands]) (fun k hk => hM k (by simp [hk]))
    obtain ⟨v', w2, r1, r2, r3, r4⟩ := run_app htb ht hs he hj hpos hzl o.type g2 n2 n3 n4 n7 h63 hb
    refine ⟨v', w2, upμ μ g' v', ?_, h.append hg g1 hg' r3 r4 (by rw [List.length_append]; exact r2) (fun r hr => ?_) (fun u hu => ?_) fun H' hk => ?_, ?_⟩
    · simp only [execOp, ho, resolve, invoke, builtin, Sem.run_bind, Sem.run_pure, Result.andThen_ok, List.map_toArray, List.map_cons, List.map_nil, hsu, n1, r1]
    · rcases List.mem_append.1 hr with q | q
      · exact g3 r q
      · exact n5 r q
    · rcases List.mem_append.1 hu with q | q
      · exact g5 u q
      · exact n7 u q
    · rw [List.flatten_append]
      refine VRs.vds (μ := μ) ?_
      rw [List.map_append]
      exact (VDs.vrs (g4.mono hk)).append (VDs.vrs (n6.mono hk))
    · rcases r2.2 with ⟨rfl, _⟩ | ⟨_, _, _, rfl, _⟩ <;> exact .own (upμ_self _ _)
theorem go_append_nil (htb : TOK P tbl) (g' : Nat) {s x : Operand} {t e : TypeId} {i j : TI} {L : List Nat} {rs2 : List (List D)} (ho : o.op = .call { callee := .builtin .append, args := #[s, x], argTypes := #[t, t] }) (ht : lk tbl t = some i) (hs : i.isS = true) (he : i.el = some e) (hj : lk tbl e = some j)
    (hpos : Nat.blt 0 j.size = true) (hzl : Nat.beq j.zero.length j.size = true) (hsv : evA T s = some (.d (.v (.slice none 0 0)))) (hsrc : Src T M e j.size x L rs2) (hg' : M g' = none) (hb : rs2.length * j.bytes ≤ 140737488355328) (h63 : rs2.length ≤ maxLen) :
    StepOK P o T M ⟨.own g', [g'] ++ L, [(g', .arr e j.size rs2)]⟩ :=
  step_any (by intro p hp; simp at hp; rw [hp]; simp) fun cx μ T' M' a w h hT hM => by
    rw [← hM g' (by simp)] at hg'
    have hpos : 0 < j.size := Nat.le_of_ble_eq_true hpos
    have hzl := Nat.eq_of_beq_eq_true hzl
    have hsu := (h.ev (x := s) hT (by simp [ho, Op.operands, Call.operands]) hsv).val
    obtain ⟨ad, cap, news, n1, n2, n3, n4, n5, n6, n7⟩ := src_parts (o := o) hsrc hpos h hT (by simp [ho, Op.operands, Call.operands]) (fun k hk => hM k (by simp [hk]))
    obtain ⟨v', w2, r1, r2, r3, r4⟩ := run_app htb ht hs he hj hpos hzl o.type (World.ownsRow_nil w 0 e j.size) n2 n3 n4 n7 (by omega) (by rw [Nat.zero_add]; exact hb)
    rw [Nat.zero_add, List.nil_append] at r2
    refine ⟨v', w2, upμ μ g' v', ?_, h.new hg' (r3.weaken fun k _ hk => by cases hk) rfl (fun b hb => ?_) fun H' hk _ => ⟨v', news, upμ_self _ _, r2, n5, n6.mono hk, n7⟩, ?_⟩
    · simp only [execOp, ho, resolve, invoke, builtin, Sem.run_bind, Sem.run_pure, Result.andThen_ok, List.map_toArray, List.map_cons, List.map_nil, hsu, n1, r1]
    · rcases r4 b hb with q | q
      · cases q
      · exact q
    · rcases r2.2 with ⟨rfl, _⟩ | ⟨_, _, _, rfl, _⟩ <;> exact .own (upμ_self _ _)
end
end Go.Am
