/- Nothing is claimed here: the operations that make or write memory, beside their abstract view. -/
import Derived.Test.YteppnjgobaggaaaAm6
namespace Go.Am
set_option linter.unusedSimpArgs false
set_option linter.unusedVariables false
set_option linter.unnecessarySimpa false
set_option linter.unusedSectionVars false
set_option maxRecDepth 100000
open Go Go.RowKit Go.Proofs.Grow

section
variable {P : Program} {tbl : List (Nat × TI)} {o : Oper} {T : Nat → Option AV} {M : Nat → Option AO}

theorem chg_alloc (w : World) (x : Obj) : Chg (fun _ => False) w (w.alloc x) := ⟨rfl, rfl, rfl, by simp, fun k hk _ => heap_alloc_old w x hk⟩
theorem InvM.newBox {cx : Cx} {μ : Nat → Option Value} {T' : Nat → Option AV} {M' : Nat → Option AO} {a : Act} {w : World} (h : InvM cx μ T' M' a w) {g : Nat} (hg : M' g = none) (ty : TypeId) {cs : List AV} {vs : List Value} (hv : VRs (Ht cx μ M') μ w cs vs) :
    InvM cx (upμ μ g (.pointer (some ⟨w.heap.size, 0, none⟩))) T' (upM M' [(g, .box ty cs)]) a (w.alloc (.cells vs.toArray ty)) := by
  refine h.new hg (chg_alloc w _) rfl (fun b hb => ?_) fun H' hk hH => ⟨w.heap.size, vs, upμ_self _ _, heap_alloc_new w _, hv.grow (upμ_old (h.free g hg)) hk⟩
  obtain rfl : w.heap.size = b := by simpa [blkOf] using hb
  exact ⟨Nat.le_refl _, by simp⟩
theorem zero_vrs (H : Nat → Prop) (μ : Nat → Option Value) (w : World) (zs : List Value) : VRs H μ w (zs.map fun z => .d (.v z)) zs :=
  ⟨by simp, fun i c v hc hv => by
    rw [List.getElem?_map, hv] at hc
    obtain rfl : AV.d (.v v) = c := by simpa using hc
    exact .d (.v v)⟩
theorem mem_self {g : Nat} {x : AO} : ∀ p ∈ [(g, x)], p.1 ∈ [g] := by
  intro p hp
  obtain rfl : p = (g, x) := by simpa using hp
  simp
theorem step_alloc (htb : TOK P tbl) (g : Nat) {ty : TypeId} {i : TI} (ho : o.op = .alloc ty) (ht : lk tbl ty = some i) (hg : M g = none) : StepOK P o T M ⟨.ptr g 0, [g], [(g, .box ty (i.zero.map fun z => .d (.v z)))]⟩ :=
  step_any mem_self fun cx μ T' M' a w h hT hM => by
    rw [← hM g (by simp)] at hg
    obtain ⟨z, hz, hc⟩ := run_zero (w := w) (htb _ _ ht)
    refine ⟨.pointer (some ⟨w.heap.size, 0, none⟩), w.alloc (.cells i.zero.toArray ty), _, ?_, h.newBox hg ty (zero_vrs _ μ w i.zero), .ptr (upμ_self _ _)⟩
    simp [execOp, ho, Instr.alloc, hz, newVar, newRow, hc]
theorem step_box (g : Nat) {ty : TypeId} {x : Operand} {y : AV} (ho : o.op = .box ty x) (hx : evA T x = some y) (hf : flat y = true) (hg : M g = none) : StepOK P o T M ⟨.ptr g 0, [g], [(g, .box ty (cellsOf y))]⟩ :=
  step_any mem_self fun cx μ T' M' a w h hT hM => by
    rw [← hM g (by simp)] at hg
    obtain ⟨vs, h1, h2, h3⟩ := flat_cells (h.ev (x := x) hT (by simp [ho, Op.operands]) hx) hf
    refine ⟨.pointer (some ⟨w.heap.size, 0, none⟩), w.alloc (.cells vs.toArray ty), _, ?_, h.newBox hg ty h2, .ptr (upμ_self _ _)⟩
    simp [execOp, ho, Instr.box, newVar, newRow, h1]

theorem run_storeOp {ρ : Operand → Value} {ty : TypeId} {x y : Operand} {ad : Addr} {v : Value} {w w2 : World} (ho : o.op = .store ty x y) (hx : ρ x = .pointer (some ad)) (hy : ρ y = v) (hr : (storeVar ty ad v).run P w = .ok () w2) : (execOp ρ o).run P w = .ok .skip w2 := by
  simp [execOp, ho, hx, hy, Instr.storeAt, Instr.sureAddr, hr]
theorem run_storeAll {b off : Nat} {ty bty : TypeId} {i : TI} {cur vs : List Value} {v : Value} {w : World} (ht : tiOf P ty = some i) (hc : w.heap[b]? = some (.cells cur.toArray bty (0, 0))) (hv : v.cells = vs.toArray) (h1 : ∀ u ∈ vs, u.oneCell' = true) (hl : vs.length = i.size) (hle : off + vs.length ≤ cur.length) :
    (storeVar ty ⟨b, off, none⟩ v).run P w = .ok () (w.setRow b (cur.take off ++ vs ++ cur.drop (off + vs.length)).toArray) := by
  have := run_storeCells_at P b off bty vs 0 cur.toArray w hc (by simpa using hle) h1
  simp only [Nat.add_zero] at this
  unfold storeVar
  rw [Sem.run_bind, run_size ht]
  simp only [Result.andThen_ok, hv]
  rw [if_neg (by simp [hl])]
  exact this
theorem chg_setRow (w : World) (b : Nat) (c : Array Value) : Chg (fun k => k = b) w (w.setRow b c) :=
  ⟨rfl, rfl, rfl, by simp [World.setRow], fun k _ hk => setRow_other w b k c hk⟩
/-- A variable of the call's own is written. -/
theorem step_store (htb : TOK P tbl) {ty bty : TypeId} {x y : Operand} {g off : Nat} {cs : List AV} {z : AV} {i : TI} (ho : o.op = .store ty x y) (ht : lk tbl ty = some i) (hx : evA T x = some (.ptr g off)) (hy : evA T y = some z) (hf : flat z = true) (hg : M g = some (.box bty cs)) (hl : (cellsOf z).length = i.size)
    (hle : Nat.ble (off + i.size) cs.length = true) : StepOK P o T M ⟨.d (.v undef), [g], [(g, .box bty (cs.take off ++ cellsOf z ++ cs.drop (off + i.size)))]⟩ :=
  step_skip mem_self fun cx μ T' M' a w h hT hM => by
    rw [← hM g (by simp)] at hg
    obtain ⟨b, vs, h1, h2, h3, h4⟩ := h.box hg (h.ev (x := x) hT (by simp [ho, Op.operands]) hx)
    obtain ⟨us, k1, k2, k3⟩ := flat_cells (h.ev (x := y) hT (by simp [ho, Op.operands]) hy) hf
    have hul : us.length = i.size := by rw [← k2.1]; exact hl
    have hle := Nat.le_of_ble_eq_true hle
    have hvl : vs.length = cs.length := h4.1.symm
    refine ⟨w.setRow b (vs.take off ++ us ++ vs.drop (off + i.size)).toArray, μ, run_storeOp ho h1 rfl (by have := run_storeAll (off := off) (htb _ _ ht) h3 k1 k3 hul (by omega); rwa [hul] at this), ?_⟩
    refine h.write hg rfl rfl h2 rfl (chg_setRow w b _) fun H' hk hH => ⟨b, vs.take off ++ us ++ vs.drop (off + i.size), h2, setRow_heap w b _ _ _ _ h3, ?_⟩
    exact (((h4.take off).append k2).append (h4.drop (off + i.size))).grow (fun _ _ hk => hk) hk

def unD : AV → Option D
  | .d c => some c
  | _ => none
theorem map_d {cs : List AV} {ds : List D} (h : cs.map unD = ds.map some) : cs = ds.map AV.d := by
  induction cs generalizing ds with
  | nil => cases ds with
    | nil => rfl
    | cons d r => simp at h
  | cons c cs ih =>
    cases ds with
    | nil => simp at h
    | cons d r =>
      simp only [List.map_cons, List.cons.injEq] at h
      rw [List.map_cons, ← ih h.2]
      cases c <;> simp [unD] at h
      rw [h.1]
theorem flat_set {sz : Nat} : ∀ {rs : List (List D)} {n : Nat} {row new : List D}, (∀ r ∈ rs, r.length = sz) → rs[n]? = some row → new.length = sz → (rs.set n new).flatten = rs.flatten.take (n * sz) ++ new ++ rs.flatten.drop (n * sz + sz)
  | [], n, row, new, _, h, _ => by simp at h
  | x :: rs, n, row, new, hs, h, hn => by
    have hx : x.length = sz := hs x (by simp)
    cases n with
    | zero =>
      simp only [List.set_cons_zero, List.flatten_cons, Nat.zero_mul, List.take_zero, List.nil_append, Nat.zero_add]
      rw [List.drop_append_of_le_length (by omega), List.drop_of_length_le (by omega), List.nil_append]
    | succ n =>
      simp only [List.set_cons_succ, List.flatten_cons]
      rw [flat_set (fun r hr => hs r (by simp [hr])) (by simpa using h) hn]
      rw [List.take_append, List.drop_append]
      rw [List.take_of_length_le (l := x) (by rw [hx, Nat.add_mul]; omega), List.drop_of_length_le (l := x) (by rw [hx, Nat.add_mul]; omega)]
      rw [show (n + 1) * sz - x.length = n * sz by rw [hx, Nat.add_mul]; omega, show (n + 1) * sz + sz - x.length = n * sz + sz by rw [hx, Nat.add_mul]; omega]
      simp
/-- An element of an own slice is written, or some of its cells. -/
theorem step_store_elt (htb : TOK P tbl) {ty ety : TypeId} {x y : Operand} {g sz n off : Nat} {rs : List (List D)} {row ds : List D} {z : AV} {i : TI} (ho : o.op = .store ty x y) (ht : lk tbl ty = some i) (hx : evA T x = some (.elt g sz n off)) (hy : evA T y = some z) (hf : flat z = true) (hd : (cellsOf z).map unD = ds.map some)
    (hg : M g = some (.arr ety sz rs)) (hr : rs[n]? = some row) (hl : ds.length = i.size) (hle : Nat.ble (off + i.size) row.length = true) : StepOK P o T M ⟨.d (.v undef), [g], [(g, .arr ety sz (rs.set n (row.take off ++ ds ++ row.drop (off + i.size))))]⟩ :=
  step_skip mem_self fun cx μ T' M' a w h hT hM => by
    rw [← hM g (by simp)] at hg
    obtain ⟨b, cap, cur, xs, h1, h2, h3, h4, h5, h6, h7, h8, h9, h10, h11⟩ := h.elt hg (h.ev (x := x) hT (by simp [ho, Op.operands]) hx)
    obtain ⟨us, k1, k2, k3⟩ := flat_cells (h.ev (x := y) hT (by simp [ho, Op.operands]) hy) hf
    have hle := Nat.le_of_ble_eq_true hle
    have hrl : row.length = sz := h9 row (List.mem_of_getElem? hr)
    have hn : n < rs.length := (List.getElem?_eq_some_iff.1 hr).1
    rw [map_d hd] at k2
    have k2 := VRs.vds k2
    have hul : us.length = i.size := by rw [← k2.1]; exact hl
    have hns : n * sz + sz ≤ rs.length * sz := by
      have : (n + 1) * sz ≤ rs.length * sz := Nat.mul_le_mul_right _ hn
      rw [Nat.add_mul] at this; omega
    have hcs : rs.length * sz ≤ cap * sz := Nat.mul_le_mul_right _ h4
    have hcl : cur.toList.length = cap * sz := by simpa using h6
    have h3' : w.heap[b]? = some (.cells cur.toList.toArray ety (0, 0)) := by simpa using h3
    have hnl : (row.take off ++ ds ++ row.drop (off + i.size)).length = sz := by simp; omega
    refine ⟨w.setRow b (cur.toList.take (n * sz + off) ++ us ++ cur.toList.drop (n * sz + off + i.size)).toArray, μ, run_storeOp ho h1 rfl (by have := run_storeAll (off := n * sz + off) (htb _ _ ht) h3' k1 k3 hul (by omega); rwa [hul] at this), ?_⟩
    refine h.write hg rfl rfl h2 rfl (chg_setRow w b _) fun H' hk hH => ?_
    have hflat := flat_set h9 hr hnl
    have hfl : rs.flatten.length = rs.length * sz := flat_len h9
    let ys : List Value := xs.take (n * sz + off) ++ us ++ xs.drop (n * sz + off + i.size)
    have hxl : xs.length = rs.length * sz := h8
    have hyl : ys.length = rs.length * sz := by simp only [ys, List.length_append, List.length_take, List.length_drop]; omega
    refine ⟨.slice (some ⟨b, 0, none⟩) rs.length cap, ys, h2, ⟨by simpa using hyl, .inr ⟨b, cap, _, by simp, Nat.zero_le _, setRow_heap w b _ _ _ _ h3, by simpa using h4, h5, ?_, ?_⟩⟩, ?_, ?_, ?_⟩
    · simp only [List.size_toArray, List.length_append, List.length_take, List.length_drop, hcl]; omega
    · simp only [List.length_set, ys]
      rw [← h7]
      rw [List.take_append, List.take_append, List.take_take, List.take_take]
      simp only [List.length_append, List.length_take, hcl]
      rw [Nat.min_eq_right (by omega : n * sz + off ≤ rs.length * sz), Nat.min_eq_left (by omega : n * sz + off ≤ rs.length * sz)]
      rw [List.take_of_length_le (l := us) (by omega)]
      congr 1
      rw [List.take_drop]
      congr 2
      omega
    · intro r hr2
      rcases List.mem_or_eq_of_mem_set hr2 with q | q
      · exact h9 r q
      · rw [q]; exact hnl
    · have hfe : (rs.set n (row.take off ++ ds ++ row.drop (off + i.size))).flatten = rs.flatten.take (n * sz + off) ++ ds ++ rs.flatten.drop (n * sz + off + i.size) := by
        rw [hflat]
        have hrow : row = (rs.flatten.drop (n * sz)).take sz := by
          refine List.ext_getElem? fun j => ?_
          rw [List.getElem?_take, List.getElem?_drop]
          by_cases hj : j < sz
          · rw [if_pos hj]
            have hjr : row[j]? = some (row[j]'(by omega)) := by simp [show j < row.length by omega]
            rw [flat_get h9 hr hjr, hjr]
          · rw [if_neg hj, List.getElem?_eq_none (by omega)]
        have e1 : row.take off = (rs.flatten.drop (n * sz)).take off := by rw [hrow, List.take_take, Nat.min_eq_left (by omega)]
        have e2 : row.drop (off + i.size) = (rs.flatten.drop (n * sz + off + i.size)).take (sz - (off + i.size)) := by
          rw [hrow, List.drop_take, List.drop_drop]
          congr 2
          omega
        rw [e1, e2]
        have e3 : rs.flatten.take (n * sz + off) = rs.flatten.take (n * sz) ++ (rs.flatten.drop (n * sz)).take off := by rw [List.take_add]
        have e4 : rs.flatten.drop (n * sz + off + i.size) = (rs.flatten.drop (n * sz + off + i.size)).take (sz - (off + i.size)) ++ rs.flatten.drop (n * sz + sz) := by
          conv => lhs; rw [← List.take_append_drop (sz - (off + i.size)) (rs.flatten.drop (n * sz + off + i.size))]
          rw [List.drop_drop]
          congr 2
          omega
        rw [e3]
        generalize rs.flatten.drop (n * sz + off + i.size) = X at *
        conv => rhs; rw [e4]
        simp
      rw [hfe]
      have hold := VDs.vrs (μ := μ) h10
      have hnew := VDs.vrs (μ := μ) k2
      refine VRs.vds (μ := μ) ?_
      simp only [List.map_append, List.map_take, List.map_drop, ys]
      exact (((hold.take _).append hnew).append (hold.drop _)).grow (fun _ _ hk => hk) hk
    · intro u hu
      simp only [ys, List.mem_append] at hu
      rcases hu with (hu | hu) | hu
      · exact h11 u (List.mem_of_mem_take hu)
      · exact k3 u hu
      · exact h11 u (List.mem_of_mem_drop hu)
end
end Go.Am
