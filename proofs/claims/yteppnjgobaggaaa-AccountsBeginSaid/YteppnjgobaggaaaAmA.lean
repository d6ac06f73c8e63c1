/- Nothing is claimed here: structs and slices that are built, slices of slices, appending; the forms of the rules that give written-out lists. -/
import Derived.Test.YteppnjgobaggaaaAm9
namespace Go.Am
set_option linter.unusedSimpArgs false
set_option linter.unusedVariables false
set_option linter.unnecessarySimpa false
set_option linter.unusedSectionVars false
set_option maxRecDepth 100000
open Go Go.RowKit Go.Proofs.Grow

section
variable {α : Type}
def takeO : List α → Nat → Option (List α)
  | _, 0 => some []
  | x :: l, n + 1 => match takeO l n with
    | some r => some (x :: r)
    | none => none
  | [], _ + 1 => none
def dropO : List α → Nat → Option (List α)
  | l, 0 => some l
  | _ :: l, n + 1 => dropO l n
  | [], _ + 1 => none
def spl : List α → Nat → List α → Option (List α)
  | cs, 0, [] => some cs
  | _ :: cs, 0, x :: xs => match spl cs 0 xs with
    | some r => some (x :: r)
    | none => none
  | c :: cs, n + 1, xs => match spl cs n xs with
    | some r => some (c :: r)
    | none => none
  | [], 0, _ :: _ => none
  | [], _ + 1, _ => none
theorem takeO_spec : ∀ {l : List α} {n : Nat} {r : List α}, takeO l n = some r → r = l.take n ∧ n ≤ l.length
  | l, 0, r, h => by simp [takeO] at h; subst h; simp
  | x :: l, n + 1, r, h => by
    simp only [takeO] at h
    split at h
    · rename_i q hq
      obtain rfl := Option.some.inj h
      obtain ⟨h1, h2⟩ := takeO_spec hq
      exact ⟨by rw [h1]; simp, by simp; omega⟩
    · cases h
  | [], n + 1, r, h => by simp [takeO] at h
theorem dropO_spec : ∀ {l : List α} {n : Nat} {r : List α}, dropO l n = some r → r = l.drop n ∧ n ≤ l.length
  | l, 0, r, h => by simp [dropO] at h; subst h; simp
  | x :: l, n + 1, r, h => by
    obtain ⟨h1, h2⟩ := dropO_spec (l := l) h
    exact ⟨by rw [h1]; simp, by simp; omega⟩
  | [], n + 1, r, h => by simp [dropO] at h
theorem spl_spec : ∀ {l : List α} {n : Nat} {xs r : List α}, spl l n xs = some r → r = l.take n ++ xs ++ l.drop (n + xs.length) ∧ n + xs.length ≤ l.length
  | l, 0, [], r, h => by simp [spl] at h; subst h; simp
  | c :: l, 0, x :: xs, r, h => by
    simp only [spl] at h
    split at h
    · rename_i q hq
      obtain rfl := Option.some.inj h
      obtain ⟨h1, h2⟩ := spl_spec hq
      refine ⟨by rw [h1]; simp, by simp; omega⟩
    · cases h
  | c :: l, n + 1, xs, r, h => by
    simp only [spl] at h
    split at h
    · rename_i q hq
      obtain rfl := Option.some.inj h
      obtain ⟨h1, h2⟩ := spl_spec hq
      refine ⟨by rw [h1]; simp [show n + 1 + xs.length = (n + xs.length) + 1 by omega], by simp; omega⟩
    · cases h
  | [], 0, _ :: _, r, h => by simp [spl] at h
  | [], n + 1, xs, r, h => by simp [spl] at h
def sub (l : List α) (k n : Nat) : Option (List α) := match dropO l k with
  | some q => takeO q n
  | none => none
theorem sub_spec {l : List α} {k n : Nat} {r : List α} (h : sub l k n = some r) : r = (l.drop k).take n ∧ k + n ≤ l.length ∧ r.length = n := by
  unfold sub at h
  split at h
  · rename_i q hq
    obtain ⟨h1, h2⟩ := dropO_spec hq
    obtain ⟨h3, h4⟩ := takeO_spec h
    subst h1
    simp at h4
    exact ⟨h3, by omega, by rw [h3]; simp; omega⟩
  · cases h
end
def avs : List D → Option (List AV)
  | [] => some []
  | x :: r => match avs r with
    | some q => some (.d x :: q)
    | none => none
theorem avs_spec : ∀ {l : List D} {r : List AV}, avs l = some r → r = l.map AV.d
  | [], r, h => by simp [avs] at h; subst h; rfl
  | x :: l, r, h => by
    simp only [avs] at h
    split at h
    · rename_i q hq
      obtain rfl := Option.some.inj h
      rw [avs_spec hq]; rfl
    · cases h
def dsO : List AV → Option (List D)
  | [] => some []
  | .d x :: r => match dsO r with
    | some q => some (x :: q)
    | none => none
  | _ => none
theorem dsO_spec : ∀ {l : List AV} {r : List D}, dsO l = some r → l = r.map AV.d
  | [], r, h => by simp [dsO] at h; subst h; rfl
  | x :: l, r, h => by
    cases x with
    | d x =>
      simp only [dsO] at h
      split at h
      · rename_i q hq
        obtain rfl := Option.some.inj h
        rw [dsO_spec hq]; rfl
      · cases h
    | _ => simp [dsO] at h
theorem dsO_un {l : List AV} {r : List D} (h : dsO l = some r) : l.map unD = r.map some := by
  rw [dsO_spec h]; simp [unD]
def zeroA : List Value → Option (List AV)
  | [] => some []
  | x :: r => match zeroA r with
    | some q => some (.d (.v x) :: q)
    | none => none
theorem zeroA_spec : ∀ {l : List Value} {r : List AV}, zeroA l = some r → r = l.map fun z => .d (.v z)
  | [], r, h => by simp [zeroA] at h; subst h; rfl
  | x :: l, r, h => by
    simp only [zeroA] at h
    split at h
    · rename_i q hq
      obtain rfl := Option.some.inj h
      rw [zeroA_spec hq]; rfl
    · cases h

section
variable {P : Program} {tbl : List (Nat × TI)} {o : Oper} {T : Nat → Option AV} {M : Nat → Option AO}
theorem go_load_agg (htb : TOK P tbl) {ty bty : TypeId} {x : Operand} {g off : Nat} {cs ds : List AV} {i : TI} (ho : o.op = .load ty x) (ht : lk tbl ty = some i) (ha : i.agg = true) (hx : evA T x = some (.ptr g off)) (hg : M g = some (.box bty cs)) (hs : sub cs off i.size = some ds) : StepOK P o T M ⟨.agg ds, [g], []⟩ := by
  obtain ⟨h1, h2, _⟩ := sub_spec hs
  rw [h1]
  exact step_load_agg htb ho ht ha hx hg (Nat.ble_eq ▸ h2)
theorem go_load_rp_agg (htb : TOK P tbl) {ty : TypeId} {x : Operand} {cs ds : List D} {es : List AV} {i : TI} (ho : o.op = .load ty x) (ht : lk tbl ty = some i) (ha : i.agg = true) (hx : evA T x = some (.rp cs)) (hs : takeO cs i.size = some ds) (he : avs ds = some es) : StepOK P o T M ⟨.agg es, [], []⟩ := by
  obtain ⟨h1, h2⟩ := takeO_spec hs
  rw [avs_spec he, h1]
  exact step_load_rp_agg htb ho ht ha hx (Nat.ble_eq ▸ h2)
theorem go_load_elt_agg (htb : TOK P tbl) {ty ety : TypeId} {x : Operand} {g sz n off : Nat} {rs : List (List D)} {row ds : List D} {es : List AV} {i : TI} (ho : o.op = .load ty x) (ht : lk tbl ty = some i) (ha : i.agg = true) (hx : evA T x = some (.elt g sz n off)) (hg : M g = some (.arr ety sz rs)) (hr : rs[n]? = some row)
    (hs : sub row off i.size = some ds) (he : avs ds = some es) : StepOK P o T M ⟨.agg es, [g], []⟩ := by
  obtain ⟨h1, h2, _⟩ := sub_spec hs
  rw [avs_spec he, h1]
  exact step_load_elt_agg htb ho ht ha hx hg hr (Nat.ble_eq ▸ h2)
theorem go_load_elt_one (htb : TOK P tbl) {ty ety : TypeId} {x : Operand} {g sz n off : Nat} {rs : List (List D)} {row : List D} {c : D} {i : TI} (ho : o.op = .load ty x) (ht : lk tbl ty = some i) (ha : i.agg = false) (hx : evA T x = some (.elt g sz n off)) (hg : M g = some (.arr ety sz rs)) (hr : rs[n]? = some row)
    (hc : row[off]? = some c) : StepOK P o T M ⟨.d c, [g], []⟩ := step_load_elt_one htb ho ht ha hx hg hr hc
def faddr (y : AV) (off : Nat) : Option AV := match y with
  | .ptr g q => some (.ptr g (q + off))
  | .elt g sz n q => some (.elt g sz n (q + off))
  | .rp cs => match dropO cs off with
    | some r => some (.rp r)
    | none => none
  | _ => none
theorem go_fieldAddr (htb : TOK P tbl) {ty ft : TypeId} {x : Operand} {f off : Nat} {i j : TI} {y z : AV} (ho : o.op = .fieldAddr ty x f) (ht : lk tbl ty = some i) (ha : i.agg = true) (he : i.el = none) (hf : i.fs[f]? = some (off, ft)) (hj : lk tbl ft = some j) (hs : Nat.beq j.size 0 = false) (hx : evA T x = some y)
    (hz : faddr y off = some z) : StepOK P o T M ⟨z, [], []⟩ := by
  refine step_fieldAddr htb ho ht ha he hf hj hs hx ?_
  unfold faddr at hz
  cases y with
  | ptr g q => exact hz
  | elt g sz n q => exact hz
  | rp cs =>
    simp only at hz ⊢
    split at hz
    · rename_i r hr
      rw [← (dropO_spec hr).1]; exact hz
    · cases hz
  | _ => simp at hz
theorem go_field_agg (htb : TOK P tbl) {ty ft : TypeId} {x : Operand} {f off : Nat} {i j : TI} {cs ds : List AV} (ho : o.op = .field ty x f) (ht : lk tbl ty = some i) (ha : i.agg = true) (he : i.el = none) (hf : i.fs[f]? = some (off, ft)) (hj : lk tbl ft = some j) (hs : j.agg = true) (hx : evA T x = some (.agg cs)) (hd : sub cs off j.size = some ds) :
    StepOK P o T M ⟨.agg ds, [], []⟩ := by
  rw [(sub_spec hd).1]
  exact step_field_agg htb ho ht ha he hf hj hs hx
theorem go_index_agg (htb : TOK P tbl) {ty e : TypeId} {x y : Operand} {i j : TI} {n : Nat} {k : IntKind} {q : Int} {cs ds : List AV} (ho : o.op = .index ty x y) (ht : lk tbl ty = some i) (ha : i.agg = true) (he : i.el = some e) (hj : lk tbl e = some j) (hja : j.agg = true)
    (hx : evA T x = some (.agg cs)) (hy : evA T y = some (.d (.v (.int k q)))) (hq : q = (n : Int)) (hn : Nat.blt n i.len = true) (hd : sub cs (n * j.size) j.size = some ds) : StepOK P o T M ⟨.agg ds, [], []⟩ := by
  subst hq
  rw [(sub_spec hd).1]
  exact step_index_agg htb ho ht ha he hj hja hx hy hn
theorem go_index_one (htb : TOK P tbl) {ty e : TypeId} {x y : Operand} {i j : TI} {n : Nat} {k : IntKind} {q : Int} {cs : List AV} {c : AV} (ho : o.op = .index ty x y) (ht : lk tbl ty = some i) (ha : i.agg = true) (he : i.el = some e) (hj : lk tbl e = some j) (hja : j.agg = false)
    (hx : evA T x = some (.agg cs)) (hy : evA T y = some (.d (.v (.int k q)))) (hq : q = (n : Int)) (hn : Nat.blt n i.len = true) (hc : cs[n * j.size]? = some c) : StepOK P o T M ⟨c, [], []⟩ := by
  subst hq
  exact step_index_one htb ho ht ha he hj hja hx hy hn hc
theorem go_store (htb : TOK P tbl) {ty bty : TypeId} {x y : Operand} {g off : Nat} {cs ds : List AV} {z : AV} {i : TI} (ho : o.op = .store ty x y) (ht : lk tbl ty = some i) (hx : evA T x = some (.ptr g off)) (hy : evA T y = some z) (hf : flat z = true) (hg : M g = some (.box bty cs)) (hl : Nat.beq (cellsOf z).length i.size = true)
    (hs : spl cs off (cellsOf z) = some ds) : StepOK P o T M ⟨.d (.v undef), [g], [(g, .box bty ds)]⟩ := by
  obtain ⟨h1, h2⟩ := spl_spec hs
  have hl := Nat.eq_of_beq_eq_true hl
  rw [hl] at h1 h2
  rw [h1]
  exact step_store htb ho ht hx hy hf hg hl (Nat.ble_eq ▸ h2)
theorem go_store_elt (htb : TOK P tbl) {ty ety : TypeId} {x y : Operand} {g sz n off : Nat} {rs : List (List D)} {row ds new : List D} {z : AV} {i : TI} (ho : o.op = .store ty x y) (ht : lk tbl ty = some i) (hx : evA T x = some (.elt g sz n off)) (hy : evA T y = some z) (hf : flat z = true) (hd : dsO (cellsOf z) = some ds)
    (hg : M g = some (.arr ety sz rs)) (hr : rs[n]? = some row) (hl : Nat.beq ds.length i.size = true) (hs : spl row off ds = some new) : StepOK P o T M ⟨.d (.v undef), [g], [(g, .arr ety sz (rs.set n new))]⟩ := by
  obtain ⟨h1, h2⟩ := spl_spec hs
  have hl := Nat.eq_of_beq_eq_true hl
  rw [hl] at h1 h2
  rw [h1]
  exact step_store_elt htb ho ht hx hy hf (dsO_un hd) hg hr hl (Nat.ble_eq ▸ h2)
theorem go_alloc (htb : TOK P tbl) (g : Nat) {ty : TypeId} {i : TI} {cs : List AV} (ho : o.op = .alloc ty) (ht : lk tbl ty = some i) (hg : M g = none) (hz : zeroA i.zero = some cs) : StepOK P o T M ⟨.ptr g 0, [g], [(g, .box ty cs)]⟩ := by
  rw [zeroA_spec hz]
  exact step_alloc htb g ho ht hg

/-- Structs that are built. -/
def fillA (pl : Nat → Option (Nat × Nat)) : List AV → List (Nat × AV) → Option (List AV)
  | cs, [] => some cs
  | cs, (k, x) :: r => match pl k with
    | some (off, n) => match flat x && Nat.beq (cellsOf x).length n with
      | true => match spl cs off (cellsOf x) with
        | some cs' => fillA pl cs' r
        | none => none
      | false => none
    | none => none
def evP (T : Nat → Option AV) : List (Nat × Operand) → Option (List (Nat × AV))
  | [] => some []
  | (k, x) :: r => match evA T x, evP T r with
    | some y, some ys => some ((k, y) :: ys)
    | _, _ => none
def plS (tbl : List (Nat × TI)) (fs : List (Nat × TypeId)) (k : Nat) : Option (Nat × Nat) := match fs[k]? with
  | some p => match lk tbl p.2 with
    | some j => some (p.1, j.size)
    | none => none
  | none => none
theorem fold_set (off : Nat) : ∀ (vs : List Value) (k : Nat) (cells : Array Value), off + k + vs.length ≤ cells.size → ((vs.zipIdx k).foldl (fun cs p => cs.setIfInBounds (off + p.2) p.1) cells).toList = cells.toList.take (off + k) ++ vs ++ cells.toList.drop (off + k + vs.length)
  | [], k, cells, _ => by simp
  | v :: r, k, cells, h => by
    simp only [List.zipIdx_cons, List.foldl_cons, List.length_cons] at h ⊢
    rw [fold_set off r (k + 1) _ (by simp; omega)]
    simp only [Array.toList_setIfInBounds]
    have hl : off + k < cells.toList.length := by simp; omega
    rw [show off + (k + 1) = off + k + 1 by omega, List.take_add_one, List.getElem?_set_self hl, List.take_set_of_le (by omega), List.drop_set_of_lt (by omega)]
    simp [show off + k + 1 + r.length = off + k + (r.length + 1) by omega]
theorem fill_ok {H : Nat → Prop} {μ : Nat → Option Value} {w : World} {pl pl' : Nat → Option (Nat × Nat)} (hpl : ∀ k p, pl k = some p → pl' k = some p) : ∀ {ps : List (Nat × AV)} {vs : List (Nat × Value)} {cs cs' : List AV} {cur : Array Value},
    VRs H μ w cs cur.toList → ps.length = vs.length → (∀ (i : Nat) (p : Nat × AV) (v : Nat × Value), ps[i]? = some p → vs[i]? = some v → p.1 = v.1 ∧ VR H μ w p.2 v.2) → fillA pl cs ps = some cs' → (∀ u ∈ cur, u.oneCell' = true) →
    ∃ cur', Instr.fill pl' cur vs = some cur' ∧ VRs H μ w cs' cur'.toList ∧ (∀ u ∈ cur', u.oneCell' = true) ∧ cur'.size = cur.size
  | [], vs, cs, cs', cur, hc, hl, hv, hf, h1 => by
    obtain rfl : vs = [] := List.eq_nil_of_length_eq_zero (by simpa using hl.symm)
    obtain rfl := Option.some.inj hf
    exact ⟨cur, rfl, hc, h1, rfl⟩
  | (k, x) :: r, [], cs, cs', cur, hc, hl, hv, hf, h1 => by simp at hl
  | (k, x) :: r, (k2, v) :: vs, cs, cs', cur, hc, hl, hv, hf, h1 => by
    obtain ⟨e, hx⟩ := hv 0 _ _ rfl rfl
    simp only at e hx
    subst e
    simp only [fillA] at hf
    cases hp : pl k with
    | none => rw [hp] at hf; cases hf
    | some p =>
      rw [hp] at hf
      obtain ⟨off, n⟩ := p
      simp only at hf
      cases hb : (flat x && Nat.beq (cellsOf x).length n) with
      | false => rw [hb] at hf; cases hf
      | true =>
        rw [hb] at hf
        simp only [Bool.and_eq_true] at hb
        cases hs : spl cs off (cellsOf x) with
        | none => rw [hs] at hf; cases hf
        | some c2 =>
          rw [hs] at hf
          simp only at hf
          obtain ⟨us, u1, u2, u3⟩ := flat_cells hx hb.1
          have hn := Nat.eq_of_beq_eq_true hb.2
          obtain ⟨s1, s2⟩ := spl_spec hs
          have hul : us.length = n := by rw [← u2.1]; exact hn
          have hcl : cs.length = cur.size := by rw [hc.1]; simp
          have hcells : v.cells.size = n := by rw [u1]; simpa using hul
          have hfold : (v.cells.zipIdx.foldl (fun cs p => cs.setIfInBounds (off + p.2) p.1) cur).toList = cur.toList.take off ++ us ++ cur.toList.drop (off + us.length) := by
            rw [u1]
            have := fold_set off us 0 cur (by omega)
            simpa using this
          obtain ⟨cur', q1, q2, q3, q4⟩ := fill_ok hpl (ps := r) (vs := vs) (cs := c2) (cs' := cs') (cur := v.cells.zipIdx.foldl (fun cs p => cs.setIfInBounds (off + p.2) p.1) cur) (by
            rw [hfold, s1]
            have hul2 : us.length = (cellsOf x).length := by rw [hul, hn]
            rw [hul2]
            exact ((hc.take off).append u2).append (hc.drop _)) (by simpa using hl) (fun i p v hp hv2 => hv (i + 1) p v (by simpa using hp) (by simpa using hv2)) hf (by
            intro u hu
            have hu : u ∈ cur.toList.take off ++ us ++ cur.toList.drop (off + us.length) := by rw [← hfold]; simpa using hu
            simp only [List.mem_append] at hu
            rcases hu with (hu | hu) | hu
            · exact h1 u (by simpa using List.mem_of_mem_take hu)
            · exact u3 u hu
            · exact h1 u (by simpa using List.mem_of_mem_drop hu))
          refine ⟨cur', ?_, q2, q3, ?_⟩
          · unfold Instr.fill
            rw [hpl k _ hp]
            simp only
            rw [if_neg (by rw [hcells]; simp; omega)]
            exact q1
          · rw [q4]
            have := congrArg List.length hfold
            rw [Array.length_toList] at this
            rw [this]
            simp; omega
theorem evP_get {T : Nat → Option AV} : ∀ {l : List (Nat × Operand)} {ps : List (Nat × AV)}, evP T l = some ps → l.length = ps.length ∧ ∀ (i : Nat) (x : Nat × Operand) (y : Nat × AV), l[i]? = some x → ps[i]? = some y → x.1 = y.1 ∧ evA T x.2 = some y.2
  | [], ps, h => by
    obtain rfl : [] = ps := by simpa [evP] using h
    exact ⟨rfl, fun i x y hx => by simp at hx⟩
  | (k, x) :: r, ps, h => by
    simp only [evP] at h
    split at h
    · rename_i y ys hy hys
      obtain rfl := Option.some.inj h
      obtain ⟨h1, h2⟩ := evP_get hys
      exact ⟨by simp [h1], fun i z u hz hu => by
        cases i with
        | zero => obtain rfl : (k, x) = z := by simpa using hz
                  obtain rfl : (k, y) = u := by simpa using hu
                  exact ⟨rfl, hy⟩
        | succ i => exact h2 i z u (by simpa using hz) (by simpa using hu)⟩
    · cases h
theorem run_places (htb : TOK P tbl) {w : World} : ∀ (fs : List Field), ((fs.map fun f => (f.offset, f.type)).all fun p => (lk tbl p.2).isSome) = true → ∃ ps, (fs.mapM fun f => do pure (f.offset, ← sizeOf f.type) : Sem (List (Nat × Nat))).run P w = .ok ps w ∧ ∀ k p, plS tbl (fs.map fun f => (f.offset, f.type)) k = some p → ps[k]? = some p
  | [], _ => ⟨[], by simp, fun k p h => by simp [plS] at h⟩
  | f :: r, h => by
    simp only [List.map_cons, List.all_cons, Bool.and_eq_true] at h
    obtain ⟨j, hj⟩ := Option.isSome_iff_exists.1 h.1
    obtain ⟨ps, h1, h2⟩ := run_places htb (w := w) r h.2
    refine ⟨(f.offset, j.size) :: ps, ?_, fun k p hp => ?_⟩
    · rw [List.mapM_cons]
      simp only [Sem.run_bind, run_size (htb _ _ hj), Result.andThen_ok, Sem.run_pure]
      erw [h1]
      simp
    · cases k with
      | zero =>
        simp only [List.map_cons, plS, List.getElem?_cons_zero, hj] at hp
        simpa using hp
      | succ k => simp only [List.map_cons, plS, List.getElem?_cons_succ] at hp ⊢; exact h2 k p hp
theorem parts_rel {cx : Cx} {μ : Nat → Option Value} {T' : Nat → Option AV} {M' : Nat → Option AO} {a : Act} {w : World} (h : InvM cx μ T' M' a w) (hT : ∀ t ∈ opTs o, T' t = T t) {parts : Array (Nat × Operand)} (hmem : ∀ p ∈ parts.toList, p.2 ∈ o.op.operands.toList) {ps : List (Nat × AV)} (hp : evP T parts.toList = some ps) :
    ps.length = ((parts.map fun p => (p.1, a.eval p.2)).toList).length ∧ ∀ (i : Nat) (p : Nat × AV) (v : Nat × Value), ps[i]? = some p → (parts.map fun p => (p.1, a.eval p.2)).toList[i]? = some v → p.1 = v.1 ∧ VR (Ht cx μ M') μ w p.2 v.2 := by
  obtain ⟨h1, h2⟩ := evP_get hp
  refine ⟨by simpa using h1.symm, fun i p v hpi hv => ?_⟩
  rw [Array.toList_map, List.getElem?_map] at hv
  cases hq : parts.toList[i]? with
  | none => rw [hq] at hv; cases hv
  | some q =>
    rw [hq] at hv
    obtain rfl : (q.1, a.eval q.2) = v := by simpa using hv
    obtain ⟨k1, k2⟩ := h2 i q p hq hpi
    exact ⟨k1.symm, h.ev hT (hmem q (List.mem_of_getElem? hq)) k2⟩
theorem go_build (htb : TOK P tbl) {ty : TypeId} {parts : Array (Nat × Operand)} {i : TI} {ps : List (Nat × AV)} {zs cs : List AV} (ho : o.op = .build ty parts) (ht : lk tbl ty = some i) (ha : i.agg = true) (he : i.el = none) (hall : (i.fs.all fun p => (lk tbl p.2).isSome) = true) (hone : i.zero.all Value.oneCell' = true)
    (hp : evP T parts.toList = some ps) (hz : zeroA i.zero = some zs) (hf : fillA (plS tbl i.fs) zs ps = some cs) : StepOK P o T M ⟨.agg cs, [], []⟩ :=
  step_read [] fun cx μ T' M' a w h hT hM => by
    obtain ⟨fs, hd, hfs⟩ := struct_desc (htb _ _ ht) ha he
    obtain ⟨z, hzr, hzc⟩ := run_zero (w := w) (htb _ _ ht)
    rw [hfs] at hall
    obtain ⟨pl, hpl1, hpl2⟩ := run_places htb (w := w) fs.toList hall
    have hpl1' : (fs.mapM fun f => do pure (f.offset, ← sizeOf f.type) : Sem (Array (Nat × Nat))).run P w = .ok pl.toArray w := by
      rw [Array.mapM_eq_mapM_toList]
      simp only [Sem.run_map, hpl1]
      rfl
    obtain ⟨hl, hrel⟩ := parts_rel (o := o) h hT (parts := parts) (fun p hp => by rw [ho]; simp only [Op.operands]; simpa using ⟨p.1, by simpa using hp⟩) hp
    have hzs : VRs (Ht cx μ M') μ w zs (i.zero.toArray).toList := by rw [zeroA_spec hz]; exact zero_vrs _ μ w i.zero
    rw [hfs] at hf
    obtain ⟨cur', q1, q2, q3, _⟩ := fill_ok (pl' := (pl.toArray[·]?)) (fun k p hk => by simpa using hpl2 k p hk) hzs hl hrel hf (fun u hu => List.all_eq_true.1 hone u (by simpa using hu))
    refine ⟨.agg cur', ?_, ?_⟩
    · simp only [execOp, ho, Instr.build, Sem.run_bind, hzr, Result.andThen_ok, run_underlying hd]
      erw [hpl1']
      simp only [Result.andThen_ok, hzc, q1, Sem.run_pure]
    · have := VR.agg q2.1 q2.2
      simpa using this
theorem go_build_arr (htb : TOK P tbl) {ty e : TypeId} {parts : Array (Nat × Operand)} {i j : TI} {ps : List (Nat × AV)} {zs cs : List AV} (ho : o.op = .build ty parts) (ht : lk tbl ty = some i) (ha : i.agg = true) (he : i.el = some e) (hj : lk tbl e = some j) (hone : i.zero.all Value.oneCell' = true)
    (hp : evP T parts.toList = some ps) (hz : zeroA i.zero = some zs) (hf : fillA (fun k => some (k * j.size, j.size)) zs ps = some cs) : StepOK P o T M ⟨.agg cs, [], []⟩ :=
  step_read [] fun cx μ T' M' a w h hT hM => by
    have hd := arr_desc (htb _ _ ht) ha he
    obtain ⟨z, hzr, hzc⟩ := run_zero (w := w) (htb _ _ ht)
    obtain ⟨hl, hrel⟩ := parts_rel (o := o) h hT (parts := parts) (fun p hp => by rw [ho]; simp only [Op.operands]; simpa using ⟨p.1, by simpa using hp⟩) hp
    have hzs : VRs (Ht cx μ M') μ w zs (i.zero.toArray).toList := by rw [zeroA_spec hz]; exact zero_vrs _ μ w i.zero
    obtain ⟨cur', q1, q2, q3, _⟩ := fill_ok (pl' := fun k => some (k * j.size, j.size)) (fun k p hk => hk) hzs hl hrel hf (fun u hu => List.all_eq_true.1 hone u (by simpa using hu))
    refine ⟨.agg cur', ?_, ?_⟩
    · simp only [execOp, ho, Instr.build, Sem.run_bind, hzr, Result.andThen_ok, run_underlying hd, run_size (htb _ _ hj), hzc, q1, Sem.run_pure]
    · have := VR.agg q2.1 q2.2
      simpa using this
end
end Go.Am
