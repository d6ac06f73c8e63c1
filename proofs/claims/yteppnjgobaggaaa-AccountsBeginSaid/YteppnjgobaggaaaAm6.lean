/- Nothing is claimed here: the operations on memory, beside their abstract view. -/
import Derived.Test.YteppnjgobaggaaaAm5
namespace Go.Am
set_option linter.unusedSimpArgs false
set_option linter.unusedVariables false
set_option linter.unnecessarySimpa false
set_option linter.unusedSectionVars false
set_option maxRecDepth 100000
open Go Go.RowKit Go.Proofs.Grow

section
variable {H : Nat → Prop} {μ : Nat → Option Value} {w : World}
theorem VDs.vrs {cs : List D} {vs : List Value} (h : VDs H w cs vs) : VRs H μ w (cs.map AV.d) vs :=
  ⟨by simpa using h.1, fun i c v hc hv => by
    rw [List.getElem?_map] at hc
    cases hq : cs[i]? with
    | none => rw [hq] at hc; cases hc
    | some q =>
      rw [hq] at hc
      obtain rfl : AV.d q = c := by simpa using hc
      exact .d (h.2 i q v hq hv)⟩
theorem VRs.vds {cs : List D} {vs : List Value} (h : VRs H μ w (cs.map AV.d) vs) : VDs H w cs vs :=
  ⟨by simpa using h.1, fun i c v hc hv => by
    have := h.2 i (.d c) v (by simp [hc]) hv
    cases this with | d h => exact h⟩
theorem InvM.box {cx : Cx} {T : Nat → Option AV} {M : Nat → Option AO} {a : Act} (h : InvM cx μ T M a w) {g : Nat} {ty : TypeId} {cs : List AV} (hg : M g = some (.box ty cs)) {off : Nat} {v : Value} (hv : VR H μ w (.ptr g off) v) :
    ∃ b vs, v = .pointer (some ⟨b, off, none⟩) ∧ μ g = some (.pointer (some ⟨b, 0, none⟩)) ∧ w.heap[b]? = some (.cells vs.toArray ty (0, 0)) ∧ VRs (Ht cx μ M) μ w cs vs := by
  obtain ⟨b, vs, h1, h2, h3⟩ := h.ob g _ hg
  cases hv with
  | @ptr _ b' _ hb =>
    rw [h1] at hb
    obtain rfl : b = b' := by simpa using hb
    exact ⟨b, vs, rfl, h1, h2, h3⟩
theorem cell_box {b : Nat} {vs : List Value} {ty : TypeId} {fr : Nat × Nat} (h : w.heap[b]? = some (.cells vs.toArray ty fr)) (i : Nat) : w.cell? ⟨b, i, none⟩ = vs[i]? := by
  simp [World.cell?, h]
/-- Where an element of an own slice lies. -/
theorem InvM.elt {cx : Cx} {T : Nat → Option AV} {M : Nat → Option AO} {a : Act} (h : InvM cx μ T M a w) {g : Nat} {ty : TypeId} {sz : Nat} {rs : List (List D)} (hg : M g = some (.arr ty sz rs)) {i off : Nat} {v : Value} (hv : VR H μ w (.elt g sz i off) v) :
    ∃ b cap cur xs, v = .pointer (some ⟨b, i * sz + off, none⟩) ∧ μ g = some (.slice (some ⟨b, 0, none⟩) rs.length cap) ∧ w.heap[b]? = some (.cells cur ty (0, 0)) ∧ rs.length ≤ cap ∧ cap ≤ maxLen ∧ cur.size = cap * sz ∧ cur.toList.take (rs.length * sz) = xs ∧ xs.length = rs.length * sz ∧
      (∀ r ∈ rs, r.length = sz) ∧ VDs (Ht cx μ M) w rs.flatten xs ∧ ∀ u ∈ xs, u.oneCell' = true := by
  obtain ⟨u, xs, h1, ⟨h2, h3⟩, h4, h5⟩ := h.ob g _ hg
  cases hv with
  | @elt _ b n cap _ _ _ hb =>
    rw [h1] at hb
    obtain rfl : u = .slice (some ⟨b, 0, none⟩) n cap := by simpa using hb
    rcases h3 with ⟨q, _⟩ | ⟨c, cap', cur, q, _, q2, q3, q4, q5, q6⟩
    · cases q
    · simp only [Value.slice.injEq, Option.some.injEq, Addr.mk.injEq] at q
      obtain ⟨⟨rfl, _⟩, rfl, rfl⟩ := q
      exact ⟨b, cap, cur, xs, rfl, h1, q2, q3, q4, q5, q6, h2, h4, h5⟩
theorem flat_get {sz : Nat} : ∀ {rs : List (List D)} {i j : Nat} {r : List D} {c : D}, (∀ r ∈ rs, r.length = sz) → rs[i]? = some r → r[j]? = some c → rs.flatten[i * sz + j]? = some c
  | [], i, j, r, c, _, h, _ => by simp at h
  | x :: rs, i, j, r, c, hs, h, hj => by
    have hx : x.length = sz := hs x (by simp)
    cases i with
    | zero =>
      obtain rfl : x = r := by simpa using h
      simp only [List.flatten_cons, Nat.zero_mul, Nat.zero_add]
      rw [List.getElem?_append_left (List.getElem?_eq_some_iff.1 hj).1]; exact hj
    | succ i =>
      simp only [List.flatten_cons]
      rw [List.getElem?_append_right (by rw [hx, Nat.add_mul]; omega), hx, show (i + 1) * sz + j - sz = i * sz + j by rw [Nat.add_mul]; omega]
      exact flat_get (fun r hr => hs r (by simp [hr])) (by simpa using h) hj
theorem flat_len {sz : Nat} : ∀ {rs : List (List D)}, (∀ r ∈ rs, r.length = sz) → rs.flatten.length = rs.length * sz
  | [], _ => by simp
  | x :: rs, hs => by
    simp only [List.flatten_cons, List.length_append, List.length_cons]
    rw [flat_len (fun r hr => hs r (by simp [hr])), hs x (by simp), Nat.add_mul]; omega
end

section
variable {P : Program} {tbl : List (Nat × TI)} {o : Oper} {T : Nat → Option AV} {M : Nat → Option AO}

theorem run_loadOp {ρ : Operand → Value} {ty : TypeId} {x : Operand} {ad : Addr} {v : Value} {w : World} (ho : o.op = .load ty x) (hx : ρ x = .pointer (some ad)) (hr : (loadVar ty ad).run P w = .ok v w) : (execOp ρ o).run P w = .ok (.value v) w := by
  simp [execOp, ho, hx, Instr.loadAt, Instr.sureAddr, hr]
/-- A variable of the call's own is read, whole. -/
theorem step_load_agg (htb : TOK P tbl) {ty bty : TypeId} {x : Operand} {g off : Nat} {cs : List AV} {i : TI} (ho : o.op = .load ty x) (ht : lk tbl ty = some i) (ha : i.agg = true) (hx : evA T x = some (.ptr g off)) (hg : M g = some (.box bty cs)) (hl : Nat.ble (off + i.size) cs.length = true) :
    StepOK P o T M ⟨.agg ((cs.drop off).take i.size), [g], []⟩ :=
  step_read [g] fun cx μ T' M' a w h hT hM => by
    rw [← hM g (by simp)] at hg
    obtain ⟨b, vs, h1, h2, h3, h4⟩ := h.box hg (h.ev (x := x) hT (by simp [ho, Op.operands]) hx)
    have hle := Nat.le_of_ble_eq_true hl
    have hsub : VRs (Ht cx μ M') μ w ((cs.drop off).take i.size) ((vs.drop off).take i.size) := (h4.drop off).take i.size
    have hlen : ((vs.drop off).take i.size).length = i.size := by
      have := h4.1
      simp; omega
    refine ⟨_, run_loadOp ho h1 (run_loadAgg (htb _ _ ht) ha hlen fun j v hv => ?_), .agg hsub.1 hsub.2⟩
    rw [cell_box h3]
    rw [List.getElem?_take] at hv
    split at hv
    · rw [List.getElem?_drop] at hv; exact hv
    · cases hv
theorem step_load_one (htb : TOK P tbl) {ty bty : TypeId} {x : Operand} {g off : Nat} {cs : List AV} {i : TI} {c : AV} (ho : o.op = .load ty x) (ht : lk tbl ty = some i) (ha : i.agg = false) (hx : evA T x = some (.ptr g off)) (hg : M g = some (.box bty cs)) (hc : cs[off]? = some c) :
    StepOK P o T M ⟨c, [g], []⟩ :=
  step_read [g] fun cx μ T' M' a w h hT hM => by
    rw [← hM g (by simp)] at hg
    obtain ⟨b, vs, h1, h2, h3, h4⟩ := h.box hg (h.ev (x := x) hT (by simp [ho, Op.operands]) hx)
    obtain ⟨v, hv, hr⟩ := h4.get hc
    exact ⟨v, run_loadOp ho h1 (run_loadOne (htb _ _ ht) ha (by rw [cell_box h3]; exact hv)), hr⟩
/-- Data that is not written is read. -/
theorem step_load_rp_agg (htb : TOK P tbl) {ty : TypeId} {x : Operand} {cs : List D} {i : TI} (ho : o.op = .load ty x) (ht : lk tbl ty = some i) (ha : i.agg = true) (hx : evA T x = some (.rp cs)) (hl : Nat.ble i.size cs.length = true) :
    StepOK P o T M ⟨.agg ((cs.take i.size).map AV.d), [], []⟩ :=
  step_read [] fun cx μ T' M' a w h hT hM => by
    have h1 := h.ev (x := x) hT (by simp [ho, Op.operands]) hx
    have hle := Nat.le_of_ble_eq_true hl
    generalize hv : a.eval x = v at h1
    cases h1 with
    | @rp _ b off vs hb hlt hcell hval =>
      have hlen : ((List.range i.size).map vs).length = i.size := by simp
      refine ⟨.agg ((List.range i.size).map vs).toArray, run_loadOp ho hv (run_loadAgg (htb _ _ ht) ha hlen fun j v hv => ?_), .agg (by simp; omega) fun j c v hc hv => ?_⟩
      · rw [List.getElem?_map] at hv
        have hj : j < i.size := by
          refine Classical.byContradiction fun hn => ?_
          rw [List.getElem?_eq_none (by simpa using hn)] at hv; cases hv
        obtain rfl : vs j = v := by simpa [List.getElem?_range hj] using hv
        exact hcell j cs[j] (by simp [show j < cs.length by omega])
      · rw [List.getElem?_map] at hv hc
        have hj : j < i.size := by
          refine Classical.byContradiction fun hn => ?_
          rw [List.getElem?_eq_none (l := List.range i.size) (by simpa using hn)] at hv; cases hv
        obtain rfl : vs j = v := by simpa [List.getElem?_range hj] using hv
        rw [List.getElem?_take_of_lt hj] at hc
        have hjl : j < cs.length := by omega
        obtain rfl : AV.d cs[j] = c := by simpa [hjl] using hc
        exact .d (hval j cs[j] (by simp [hjl]))
theorem step_load_rp_one (htb : TOK P tbl) {ty : TypeId} {x : Operand} {c : D} {cs : List D} {i : TI} (ho : o.op = .load ty x) (ht : lk tbl ty = some i) (ha : i.agg = false) (hx : evA T x = some (.rp (c :: cs))) :
    StepOK P o T M ⟨.d c, [], []⟩ :=
  step_read [] fun cx μ T' M' a w h hT hM => by
    have h1 := h.ev (x := x) hT (by simp [ho, Op.operands]) hx
    generalize hv : a.eval x = v at h1
    cases h1 with
    | @rp _ b off vs hb hlt hcell hval =>
      exact ⟨vs 0, run_loadOp ho hv (run_loadOne (htb _ _ ht) ha (by simpa using hcell 0 c rfl)), .d (hval 0 c rfl)⟩
/-- An element of an own slice is read. -/
theorem step_load_elt_agg (htb : TOK P tbl) {ty ety : TypeId} {x : Operand} {g sz n off : Nat} {rs : List (List D)} {row : List D} {i : TI} (ho : o.op = .load ty x) (ht : lk tbl ty = some i) (ha : i.agg = true) (hx : evA T x = some (.elt g sz n off)) (hg : M g = some (.arr ety sz rs)) (hr : rs[n]? = some row)
    (hl : Nat.ble (off + i.size) row.length = true) : StepOK P o T M ⟨.agg (((row.drop off).take i.size).map AV.d), [g], []⟩ :=
  step_read [g] fun cx μ T' M' a w h hT hM => by
    rw [← hM g (by simp)] at hg
    obtain ⟨b, cap, cur, xs, h1, h2, h3, h4, h5, h6, h7, h8, h9, h10, h11⟩ := h.elt hg (h.ev (x := x) hT (by simp [ho, Op.operands]) hx)
    have hle := Nat.le_of_ble_eq_true hl
    have hrl : row.length = sz := h9 row (List.mem_of_getElem? hr)
    have hget : ∀ j, j < i.size → ∃ c v, row[off + j]? = some c ∧ xs[n * sz + (off + j)]? = some v ∧ VD (Ht cx μ M') w c v ∧ w.cell? ⟨b, n * sz + off + j, none⟩ = some v := by
      intro j hj
      have hjl : off + j < row.length := by omega
      have hc : row[off + j]? = some row[off + j] := by simp [hjl]
      have hf := flat_get h9 hr hc
      have hlt : n * sz + (off + j) < xs.length := by rw [← h10.1]; exact (List.getElem?_eq_some_iff.1 hf).1
      obtain ⟨u, hv⟩ : ∃ u, xs[n * sz + (off + j)]? = some u := ⟨xs[n * sz + (off + j)], by simp [hlt]⟩
      refine ⟨_, u, hc, hv, h10.2 _ _ _ hf hv, ?_⟩
      rw [← h7, List.getElem?_take] at hv
      split at hv
      · simp only [World.cell?, h3]
        rw [show n * sz + off + j = n * sz + (off + j) by omega]
        simpa using hv
      · cases hv
    let vs : List Value := (List.range i.size).map fun j => (w.cell? ⟨b, n * sz + off + j, none⟩).getD undef
    have hvs : vs.length = i.size := by simp [vs]
    refine ⟨.agg vs.toArray, run_loadOp ho h1 (run_loadAgg (htb _ _ ht) ha hvs fun j v hv => ?_), .agg (by simp [vs]; omega) fun j c v hc hv => ?_⟩
    · have hj : j < i.size := by rw [← hvs]; exact (List.getElem?_eq_some_iff.1 hv).1
      obtain ⟨c, u, q1, q2, q3, q4⟩ := hget j hj
      have : vs[j]? = some ((w.cell? ⟨b, n * sz + off + j, none⟩).getD undef) := by simp [vs, hj]
      rw [this, q4] at hv
      rw [q4]; simpa using hv
    · have hj : j < i.size := by rw [← hvs]; exact (List.getElem?_eq_some_iff.1 hv).1
      obtain ⟨c', u, q1, q2, q3, q4⟩ := hget j hj
      have : vs[j]? = some ((w.cell? ⟨b, n * sz + off + j, none⟩).getD undef) := by simp [vs, hj]
      rw [this, q4] at hv
      obtain rfl : u = v := by simpa using hv
      rw [List.getElem?_map, List.getElem?_take_of_lt hj, List.getElem?_drop, q1] at hc
      obtain rfl : AV.d c' = c := by simpa using hc
      exact .d q3
theorem step_load_elt_one (htb : TOK P tbl) {ty ety : TypeId} {x : Operand} {g sz n off : Nat} {rs : List (List D)} {row : List D} {c : D} {i : TI} (ho : o.op = .load ty x) (ht : lk tbl ty = some i) (ha : i.agg = false) (hx : evA T x = some (.elt g sz n off)) (hg : M g = some (.arr ety sz rs)) (hr : rs[n]? = some row)
    (hc : row[off]? = some c) : StepOK P o T M ⟨.d c, [g], []⟩ :=
  step_read [g] fun cx μ T' M' a w h hT hM => by
    rw [← hM g (by simp)] at hg
    obtain ⟨b, cap, cur, xs, h1, h2, h3, h4, h5, h6, h7, h8, h9, h10, h11⟩ := h.elt hg (h.ev (x := x) hT (by simp [ho, Op.operands]) hx)
    have hf := flat_get h9 hr hc
    have hlt : n * sz + off < xs.length := by rw [← h10.1]; exact (List.getElem?_eq_some_iff.1 hf).1
    obtain ⟨u, hv⟩ : ∃ u, xs[n * sz + off]? = some u := ⟨xs[n * sz + off], by simp [hlt]⟩
    refine ⟨u, run_loadOp ho h1 (run_loadOne (htb _ _ ht) ha ?_), .d (h10.2 _ _ _ hf hv)⟩
    rw [← h7, List.getElem?_take] at hv
    split at hv
    · simp only [World.cell?, h3]
      simpa using hv
    · cases hv

theorem step_fieldAddr (htb : TOK P tbl) {ty ft : TypeId} {x : Operand} {f off : Nat} {i j : TI} {y z : AV} (ho : o.op = .fieldAddr ty x f) (ht : lk tbl ty = some i) (ha : i.agg = true) (he : i.el = none) (hf : i.fs[f]? = some (off, ft)) (hj : lk tbl ft = some j) (hs : Nat.beq j.size 0 = false) (hx : evA T x = some y)
    (hz : (match y with
      | .ptr g q => some (.ptr g (q + off))
      | .elt g sz n q => some (.elt g sz n (q + off))
      | .rp cs => some (.rp (cs.drop off))
      | _ => none) = some z) : StepOK P o T M ⟨z, [], []⟩ :=
  step_read [] fun cx μ T' M' a w h hT hM => by
    have h1 := h.ev (x := x) hT (by simp [ho, Op.operands]) hx
    obtain ⟨fs, hd, hfs⟩ := struct_desc (htb _ _ ht) ha he
    rw [hfs, List.getElem?_map] at hf
    cases hq : fs.toList[f]? with
    | none => rw [hq] at hf; cases hf
    | some q =>
      rw [hq] at hf
      simp only [Option.map_some, Option.some.injEq, Prod.mk.injEq] at hf
      obtain ⟨rfl, rfl⟩ := hf
      have hq2 : fs[f]? = some q := by simpa using hq
      have hs2 : j.size ≠ 0 := fun e => by rw [e] at hs; cases hs
      have run : ∀ (b p : Nat), a.eval x = .pointer (some ⟨b, p, none⟩) → (execOp a.eval o).run P w = .ok (.value (.pointer (some ⟨b, p + q.offset, none⟩))) w := by
        intro b p hv
        simp [execOp, ho, hv, Instr.fieldAt, run_underlying hd, hq2, Instr.sureAddr, fieldPlace, run_size (htb _ _ hj), hs2, addr_add]
      generalize hv : a.eval x = v at h1
      cases h1 with
      | @ptr g b p hb => obtain rfl := Option.some.inj hz; exact ⟨_, run b p hv, .ptr hb⟩
      | @elt g b n cap sz k p hb => obtain rfl := Option.some.inj hz; exact ⟨_, run b _ hv, by rw [Nat.add_assoc]; exact .elt hb⟩
      | @rp cs b p vs hb hlt hcell hval =>
        obtain rfl := Option.some.inj hz
        refine ⟨_, run b p hv, .rp (fun k => vs (q.offset + k)) hb hlt (fun k c hc => ?_) (fun k c hc => ?_)⟩
        · rw [List.getElem?_drop] at hc; rw [Nat.add_assoc]; exact hcell _ c hc
        · rw [List.getElem?_drop] at hc; exact hval _ c hc
      | _ => cases hz
theorem step_field_one (htb : TOK P tbl) {ty ft : TypeId} {x : Operand} {f off : Nat} {i j : TI} {cs : List AV} {c : AV} (ho : o.op = .field ty x f) (ht : lk tbl ty = some i) (ha : i.agg = true) (he : i.el = none) (hf : i.fs[f]? = some (off, ft)) (hj : lk tbl ft = some j) (hs : j.agg = false) (hx : evA T x = some (.agg cs)) (hc : cs[off]? = some c) :
    StepOK P o T M ⟨c, [], []⟩ :=
  step_read [] fun cx μ T' M' a w h hT hM => by
    have h1 := h.ev (x := x) hT (by simp [ho, Op.operands]) hx
    obtain ⟨fs, hd, hfs⟩ := struct_desc (htb _ _ ht) ha he
    rw [hfs, List.getElem?_map] at hf
    cases hq : fs.toList[f]? with
    | none => rw [hq] at hf; cases hf
    | some q =>
      rw [hq] at hf
      simp only [Option.map_some, Option.some.injEq, Prod.mk.injEq] at hf
      obtain ⟨rfl, rfl⟩ := hf
      have hq2 : fs[f]? = some q := by simpa using hq
      generalize hv : a.eval x = v at h1
      cases h1 with
      | @agg _ vs hl h1 =>
        obtain ⟨u, hu, hr⟩ := VRs.get ⟨hl, h1⟩ hc
        exact ⟨u, by simp [execOp, ho, hv, Instr.field, run_underlying hd, hq2, asAgg, part, run_agg (htb _ _ hj), hs, hu], hr⟩
theorem step_field_agg (htb : TOK P tbl) {ty ft : TypeId} {x : Operand} {f off : Nat} {i j : TI} {cs : List AV} (ho : o.op = .field ty x f) (ht : lk tbl ty = some i) (ha : i.agg = true) (he : i.el = none) (hf : i.fs[f]? = some (off, ft)) (hj : lk tbl ft = some j) (hs : j.agg = true) (hx : evA T x = some (.agg cs)) :
    StepOK P o T M ⟨.agg ((cs.drop off).take j.size), [], []⟩ :=
  step_read [] fun cx μ T' M' a w h hT hM => by
    have h1 := h.ev (x := x) hT (by simp [ho, Op.operands]) hx
    obtain ⟨fs, hd, hfs⟩ := struct_desc (htb _ _ ht) ha he
    rw [hfs, List.getElem?_map] at hf
    cases hq : fs.toList[f]? with
    | none => rw [hq] at hf; cases hf
    | some q =>
      rw [hq] at hf
      simp only [Option.map_some, Option.some.injEq, Prod.mk.injEq] at hf
      obtain ⟨rfl, rfl⟩ := hf
      have hq2 : fs[f]? = some q := by simpa using hq
      generalize hv : a.eval x = v at h1
      cases h1 with
      | @agg _ vs hl h1 =>
        have hsub : VRs (Ht cx μ M') μ w ((cs.drop q.offset).take j.size) ((vs.drop q.offset).take j.size) := (VRs.drop ⟨hl, h1⟩ q.offset).take j.size
        have he : vs.toArray.extract q.offset (q.offset + j.size) = ((vs.drop q.offset).take j.size).toArray := by
          apply Array.toList_inj.1
          simp [List.take_drop, Nat.add_comm]
        exact ⟨.agg ((vs.drop q.offset).take j.size).toArray, by simp only [execOp, ho, hv, Instr.field, Sem.run_bind, run_underlying hd, Result.andThen_ok, hq2, asAgg, part, run_agg (htb _ _ hj), hs, if_true, run_size (htb _ _ hj), Sem.run_pure, he], .agg hsub.1 hsub.2⟩

theorem run_indexSlice {ty e : TypeId} {i j : TI} (htb : TOK P tbl) (ht : lk tbl ty = some i) (hs : i.isS = true) (he : i.el = some e) (hj : lk tbl e = some j) {b off n len cap : Nat} {k : IntKind} (hn : n < len) (w : World) :
    (Instr.indexAt ty (.slice (some ⟨b, off, none⟩) len cap) (.int k (n : Int))).run P w = .ok (.pointer (some ⟨b, off + n * j.size, none⟩)) w := by
  have hd := slice_desc (htb _ _ ht) hs he
  unfold Instr.indexAt
  have h1 : (0 : Int) ≤ (n : Int) ∧ (n : Int) < (len : Int) := by omega
  simp [asIntOf, run_underlying hd, hn, run_size (htb _ _ hj), addr_add]
theorem step_index_rows (htb : TOK P tbl) {ty e : TypeId} {x y : Operand} {i j : TI} {sz n : Nat} {k : IntKind} {q : Int} {rs : List (List D)} {row : List D} (ho : o.op = .indexAddr ty x y) (ht : lk tbl ty = some i) (hs : i.isS = true) (he : i.el = some e) (hj : lk tbl e = some j) (hsz : j.size = sz)
    (hx : evA T x = some (.d (.rows sz rs))) (hy : evA T y = some (.d (.v (.int k q)))) (hq : q = (n : Int)) (hr : rs[n]? = some row) : StepOK P o T M ⟨.rp row, [], []⟩ :=
  step_read [] fun cx μ T' M' a w h hT hM => by
    subst hq
    subst hsz
    have h1 := h.ev (x := x) hT (by simp [ho, Op.operands]) hx
    have h2 := (h.ev (x := y) hT (by simp [ho, Op.operands]) hy).val
    generalize hv : a.eval x = v at h1
    cases h1 with
    | d h1 =>
      cases h1 with
      | nil => simp at hr
      | rows _ _ b off cap vs hne hcap hlen hb hlt hsz2 hcell hone hval =>
        have hn : n < rs.length := (List.getElem?_eq_some_iff.1 hr).1
        refine ⟨.pointer (some ⟨b, off + n * j.size, none⟩), by simp only [execOp, ho, hv, h2, Sem.run_bind, run_indexSlice htb ht hs he hj hn, Result.andThen_ok, Sem.run_pure], .rp (fun jj => vs n jj) hb hlt (fun jj c hc => ?_) (fun jj c hc => hval n row jj c hr hc)⟩
        exact hcell n row jj c hr hc
theorem step_index_own (htb : TOK P tbl) {ty e ety : TypeId} {x y : Operand} {i j : TI} {g sz n : Nat} {k : IntKind} {q : Int} {rs : List (List D)} (ho : o.op = .indexAddr ty x y) (ht : lk tbl ty = some i) (hs : i.isS = true) (he : i.el = some e) (hj : lk tbl e = some j) (hsz : j.size = sz)
    (hx : evA T x = some (.own g)) (hg : M g = some (.arr ety sz rs)) (hy : evA T y = some (.d (.v (.int k q)))) (hq : q = (n : Int)) (hn : n < rs.length) : StepOK P o T M ⟨.elt g sz n 0, [g], []⟩ :=
  step_read [g] fun cx μ T' M' a w h hT hM => by
    subst hq
    subst hsz
    rw [← hM g (by simp)] at hg
    have h1 := h.ev (x := x) hT (by simp [ho, Op.operands]) hx
    have h2 := (h.ev (x := y) hT (by simp [ho, Op.operands]) hy).val
    obtain ⟨u, xs, g1, ⟨g2, g3⟩, g4, g5⟩ := h.ob g _ hg
    generalize hv : a.eval x = v at h1
    cases h1 with
    | @own _ ad len cap hb =>
      rw [g1] at hb
      obtain rfl : u = .slice ad len cap := by simpa using hb
      rcases g3 with ⟨q, q0⟩ | ⟨c, cap', cur, q, _, q2, q3, q4, q5, q6⟩
      · omega
      · simp only [Value.slice.injEq] at q
        obtain ⟨rfl, rfl, rfl⟩ := q
        exact ⟨.pointer (some ⟨c, n * j.size + 0, none⟩), by simp only [execOp, ho, hv, h2, Sem.run_bind, run_indexSlice htb ht hs he hj hn, Result.andThen_ok, Sem.run_pure, Nat.zero_add, Nat.add_zero], .elt g1⟩
/-- An array that is a variable. -/
theorem step_index_arr (htb : TOK P tbl) {ty e : TypeId} {x y : Operand} {i j : TI} {g off n : Nat} {k : IntKind} (ho : o.op = .indexAddr ty x y) (ht : lk tbl ty = some i) (ha : i.agg = true) (he : i.el = some e) (hj : lk tbl e = some j)
    (hx : evA T x = some (.ptr g off)) (hy : evA T y = some (.d (.v (.int k (n : Int))))) (hn : Nat.blt n i.len = true) : StepOK P o T M ⟨.ptr g (off + n * j.size), [], []⟩ :=
  step_read [] fun cx μ T' M' a w h hT hM => by
    have h1 := h.ev (x := x) hT (by simp [ho, Op.operands]) hx
    have h2 := (h.ev (x := y) hT (by simp [ho, Op.operands]) hy).val
    have hd := arr_desc (htb _ _ ht) ha he
    have hlt : n < i.len := Nat.le_of_ble_eq_true hn
    generalize hv : a.eval x = v at h1
    cases h1 with
    | @ptr _ b _ hb =>
      refine ⟨.pointer (some ⟨b, off + n * j.size, none⟩), ?_, .ptr hb⟩
      simp [execOp, ho, hv, h2, Instr.indexAt, asIntOf, run_underlying hd, Instr.sureAddr, hlt, run_size (htb _ _ hj), addr_add]
/-- An array that is a value. -/
theorem step_index_agg (htb : TOK P tbl) {ty e : TypeId} {x y : Operand} {i j : TI} {n : Nat} {k : IntKind} {cs : List AV} (ho : o.op = .index ty x y) (ht : lk tbl ty = some i) (ha : i.agg = true) (he : i.el = some e) (hj : lk tbl e = some j) (hja : j.agg = true)
    (hx : evA T x = some (.agg cs)) (hy : evA T y = some (.d (.v (.int k (n : Int))))) (hn : Nat.blt n i.len = true) : StepOK P o T M ⟨.agg ((cs.drop (n * j.size)).take j.size), [], []⟩ :=
  step_read [] fun cx μ T' M' a w h hT hM => by
    have h1 := h.ev (x := x) hT (by simp [ho, Op.operands]) hx
    have h2 := (h.ev (x := y) hT (by simp [ho, Op.operands]) hy).val
    have hd := arr_desc (htb _ _ ht) ha he
    have hlt : n < i.len := Nat.le_of_ble_eq_true hn
    generalize hv : a.eval x = v at h1
    cases h1 with
    | @agg _ vs hl h1 =>
      have hsub : VRs (Ht cx μ M') μ w ((cs.drop (n * j.size)).take j.size) ((vs.drop (n * j.size)).take j.size) := (VRs.drop ⟨hl, h1⟩ _).take j.size
      have he2 : vs.toArray.extract (n * j.size) (n * j.size + j.size) = ((vs.drop (n * j.size)).take j.size).toArray := by
        apply Array.toList_inj.1
        simp [List.take_drop, Nat.add_comm]
      refine ⟨.agg ((vs.drop (n * j.size)).take j.size).toArray, ?_, .agg hsub.1 hsub.2⟩
      rw [← he2]
      simp [execOp, ho, hv, h2, Instr.index, asIntOf, run_underlying hd, hlt, part, run_agg (htb _ _ hj), hja, run_size (htb _ _ hj)]
theorem step_index_one (htb : TOK P tbl) {ty e : TypeId} {x y : Operand} {i j : TI} {n : Nat} {k : IntKind} {cs : List AV} {c : AV} (ho : o.op = .index ty x y) (ht : lk tbl ty = some i) (ha : i.agg = true) (he : i.el = some e) (hj : lk tbl e = some j) (hja : j.agg = false)
    (hx : evA T x = some (.agg cs)) (hy : evA T y = some (.d (.v (.int k (n : Int))))) (hn : Nat.blt n i.len = true) (hc : cs[n * j.size]? = some c) : StepOK P o T M ⟨c, [], []⟩ :=
  step_read [] fun cx μ T' M' a w h hT hM => by
    have h1 := h.ev (x := x) hT (by simp [ho, Op.operands]) hx
    have h2 := (h.ev (x := y) hT (by simp [ho, Op.operands]) hy).val
    have hd := arr_desc (htb _ _ ht) ha he
    have hlt : n < i.len := Nat.le_of_ble_eq_true hn
    generalize hv : a.eval x = v at h1
    cases h1 with
    | @agg _ vs hl h1 =>
      obtain ⟨u, hu, hr⟩ := VRs.get ⟨hl, h1⟩ hc
      refine ⟨u, ?_, hr⟩
      simp [execOp, ho, hv, h2, Instr.index, asIntOf, run_underlying hd, hlt, part, run_agg (htb _ _ hj), hja, run_size (htb _ _ hj), hu]

theorem run_len {ty : TypeId} {w : World} {x : Operand} {ρ : Operand → Value} {v : Value} {r : Value} (ho : o.op = .call { callee := .builtin .len, args := #[x], argTypes := #[ty] }) (hx : ρ x = v) (hr : (Builtin.len_ #[ty] o.type #[v]).run P w = .ok r w) : (execOp ρ o).run P w = .ok (.value r) w := by
  simp [execOp, ho, resolve, invoke, builtin, hx, hr]
theorem step_len_rows (htb : TOK P tbl) {ty e : TypeId} {x : Operand} {i : TI} {sz : Nat} {rs : List (List D)} (ho : o.op = .call { callee := .builtin .len, args := #[x], argTypes := #[ty] }) (ht : lk tbl ty = some i) (hs : i.isS = true) (he : i.el = some e)
    (hx : evA T x = some (.d (.rows sz rs))) : StepOK P o T M ⟨.d (.v (.int .i64 (rs.length : Int))), [], []⟩ :=
  step_read [] fun cx μ T' M' a w h hT hM => by
    have h1 := h.ev (x := x) hT (by simp [ho, Op.operands, Call.operands]) hx
    have hd := slice_desc (htb _ _ ht) hs he
    generalize hv : a.eval x = v at h1
    cases h1 with
    | d h1 => cases h1 <;> exact ⟨_, run_len ho hv (by simp [Builtin.len_, run_underlying hd, goInt]), .d (.v _)⟩
theorem step_len_nil (htb : TOK P tbl) {ty e : TypeId} {x : Operand} {i : TI} (ho : o.op = .call { callee := .builtin .len, args := #[x], argTypes := #[ty] }) (ht : lk tbl ty = some i) (hs : i.isS = true) (he : i.el = some e)
    (hx : evA T x = some (.d (.v (.slice none 0 0)))) : StepOK P o T M ⟨.d (.v (.int .i64 0)), [], []⟩ :=
  step_read [] fun cx μ T' M' a w h hT hM => by
    have h1 := (h.ev (x := x) hT (by simp [ho, Op.operands, Call.operands]) hx).val
    have hd := slice_desc (htb _ _ ht) hs he
    exact ⟨_, run_len ho h1 (by simp [Builtin.len_, run_underlying hd, goInt]), .d (.v _)⟩
theorem step_len_own (htb : TOK P tbl) {ty e ety : TypeId} {x : Operand} {i : TI} {g sz : Nat} {rs : List (List D)} (ho : o.op = .call { callee := .builtin .len, args := #[x], argTypes := #[ty] }) (ht : lk tbl ty = some i) (hs : i.isS = true) (he : i.el = some e)
    (hx : evA T x = some (.own g)) (hg : M g = some (.arr ety sz rs)) : StepOK P o T M ⟨.d (.v (.int .i64 (rs.length : Int))), [g], []⟩ :=
  step_read [g] fun cx μ T' M' a w h hT hM => by
    rw [← hM g (by simp)] at hg
    have h1 := h.ev (x := x) hT (by simp [ho, Op.operands, Call.operands]) hx
    have hd := slice_desc (htb _ _ ht) hs he
    obtain ⟨u, xs, g1, ⟨g2, g3⟩, g4, g5⟩ := h.ob g _ hg
    generalize hv : a.eval x = v at h1
    cases h1 with
    | @own _ ad len cap hb =>
      rw [g1] at hb
      obtain rfl : u = .slice ad len cap := by simpa using hb
      have hl : len = rs.length := by
        rcases g3 with ⟨q, q0⟩ | ⟨c, cap', cur, q, _, q2, q3, q4, q5, q6⟩
        · simp at q; rw [q.2.1, q0]
        · simp only [Value.slice.injEq] at q; exact q.2.1
      subst hl
      exact ⟨_, run_len ho hv (by simp [Builtin.len_, run_underlying hd, goInt]), .d (.v _)⟩
theorem step_len_str (htb : TOK P tbl) {ty : TypeId} {x : Operand} {s : ByteArray} (ho : o.op = .call { callee := .builtin .len, args := #[x], argTypes := #[ty] }) (hd : P.underlying ty = some .string)
    (hx : evA T x = some (.d (.v (.string s)))) : StepOK P o T M ⟨.d (.v (.int .i64 (s.size : Int))), [], []⟩ :=
  step_read [] fun cx μ T' M' a w h hT hM => by
    have h1 := (h.ev (x := x) hT (by simp [ho, Op.operands, Call.operands]) hx).val
    exact ⟨_, run_len ho h1 (by simp [Builtin.len_, run_underlying hd, goInt]), .d (.v _)⟩
theorem step_min {t1 t2 : TypeId} {x y : Operand} {k : IntKind} {a b : Int} (ho : o.op = .call { callee := .builtin .min, args := #[x, y], argTypes := #[t1, t2] }) (hx : evA T x = some (.d (.v (.int k a)))) (hy : evA T y = some (.d (.v (.int k b)))) :
    StepOK P o T M ⟨.d (.v (.int k (if b < a then b else a))), [], []⟩ :=
  step_read [] fun cx μ T' M' ac w h hT hM => by
    have h1 := (h.ev (x := x) hT (by simp [ho, Op.operands, Call.operands]) hx).val
    have h2 := (h.ev (x := y) hT (by simp [ho, Op.operands, Call.operands]) hy).val
    exact ⟨_, by simp [execOp, ho, resolve, invoke, builtin, h1, h2, Builtin.min_, Builtin.min2], .d (.v _)⟩
theorem step_max {t1 t2 : TypeId} {x y : Operand} {k : IntKind} {a b : Int} (ho : o.op = .call { callee := .builtin .max, args := #[x, y], argTypes := #[t1, t2] }) (hx : evA T x = some (.d (.v (.int k a)))) (hy : evA T y = some (.d (.v (.int k b)))) :
    StepOK P o T M ⟨.d (.v (.int k (if b > a then b else a))), [], []⟩ :=
  step_read [] fun cx μ T' M' ac w h hT hM => by
    have h1 := (h.ev (x := x) hT (by simp [ho, Op.operands, Call.operands]) hx).val
    have h2 := (h.ev (x := y) hT (by simp [ho, Op.operands, Call.operands]) hy).val
    exact ⟨_, by simp [execOp, ho, resolve, invoke, builtin, h1, h2, Builtin.max_, Builtin.max2], .d (.v _)⟩
end
end Go.Am
