/- Nothing is claimed here: one function that tells what an operation does in the abstract view, where this hangs on no unknown test. -/
import Derived.Test.YteppnjgobaggaaaAmE
namespace Go.Am
set_option linter.unusedSimpArgs false
set_option linter.unusedVariables false
set_option linter.unnecessarySimpa false
set_option linter.unusedSectionVars false
set_option maxRecDepth 100000
open Go Go.RowKit Go.Proofs.Grow

section
variable (tbl : List (Nat × TI)) (T : Nat → Option AV) (M : Nat → Option AO)
def opLoad (ty : TypeId) (x : Operand) : Option En := match lk tbl ty, evA T x with
  | some i, some (.ptr g off) => match M g with
    | some (.box _ cs) => match i.agg with
      | true => match sub cs off i.size with
        | some ds => some ⟨.agg ds, [g], []⟩
        | none => none
      | false => match cs[off]? with
        | some c => some ⟨c, [g], []⟩
        | none => none
    | _ => none
  | some i, some (.rp cs) => match i.agg with
    | true => match takeO cs i.size with
      | some ds => match avs ds with
        | some es => some ⟨.agg es, [], []⟩
        | none => none
      | none => none
    | false => match cs with
      | c :: _ => some ⟨.d c, [], []⟩
      | [] => none
  | _, _ => none
def opMove (x : Operand) : Option En := match evA T x with
  | some y => some ⟨y, [], []⟩
  | none => none
def opPick (c x y : Operand) : Option En := match evA T c with
  | some (.d (.v (.bool true))) => match evA T x with
    | some u => some ⟨u, [], []⟩
    | none => none
  | some (.d (.v (.bool false))) => match evA T y with
    | some u => some ⟨u, [], []⟩
    | none => none
  | _ => none
def opField (ty : TypeId) (x : Operand) (f : Nat) : Option En := match lk tbl ty, evA T x with
  | some i, some (.agg cs) => match i.agg, i.el, i.fs[f]? with
    | true, none, some p => match lk tbl p.2 with
      | some j => match j.agg with
        | true => match sub cs p.1 j.size with
          | some ds => some ⟨.agg ds, [], []⟩
          | none => none
        | false => match cs[p.1]? with
          | some c => some ⟨c, [], []⟩
          | none => none
      | none => none
    | _, _, _ => none
  | _, _ => none
def opFieldAddr (ty : TypeId) (x : Operand) (f : Nat) : Option En := match lk tbl ty, evA T x with
  | some i, some y => match i.agg, i.el, i.fs[f]? with
    | true, none, some p => match lk tbl p.2 with
      | some j => match Nat.beq j.size 0, faddr y p.1 with
        | false, some z => some ⟨z, [], []⟩
        | _, _ => none
      | none => none
    | _, _, _ => none
  | _, _ => none
def opBin (op : BinOp) (x y : Operand) : Option En := match evA T x, evA T y with
  | some (.d (.v (.int k a))), some (.d (.v (.int k' b))) => match decide (k = k'), intOp op k a b with
    | true, some r => some ⟨.d (.v r), [], []⟩
    | _, _ => none
  | some (.d (.v (.string a))), some (.d (.v (.string b))) => match strOp op a b with
    | some r => some ⟨.d (.v r), [], []⟩
    | none => none
  | _, _ => none
def opUn (op : UnOp) (x : Operand) : Option En := match op, evA T x with
  | .not, some (.d (.v (.bool b))) => some ⟨.d (.v (.bool !b)), [], []⟩
  | .neg, some (.d (.v (.int k n))) => some ⟨.d (.v (.int k (k.wrap (0 - n)))), [], []⟩
  | _, _ => none
def opConv (s d : TypeId) (x : Operand) : Option En := match lk tbl s, lk tbl d, evA T x with
  | some _, some j, some (.d (.v (.int _ n))) => match j.ik with
    | some k' => some ⟨.d (.v (.int k' (k'.wrap n))), [], []⟩
    | none => none
  | _, _, _ => none
def opExtract (x : Operand) (n : Nat) : Option En := match evA T x with
  | some (.tup cs) => match cs[n]? with
    | some c => some ⟨c, [], []⟩
    | none => none
  | _ => none
def opNil (x : Operand) : Option En := match evA T x with
  | some (.ptr g off) => some ⟨.ptr g off, [], []⟩
  | some (.elt g sz i off) => some ⟨.elt g sz i off, [], []⟩
  | some (.rp cs) => some ⟨.rp cs, [], []⟩
  | some (.clo f cs) => some ⟨.clo f cs, [], []⟩
  | _ => none
def opFunc (fn : Fn) (first cap : Array Operand) : Option En := match fn, first.toList, evs T cap.toList with
  | .func f, [], some ys => some ⟨.clo f ys, [], []⟩
  | _, _, _ => none
def opBox (dst : Option Tmp) (ty : TypeId) (x : Operand) : Option En := match dst, evA T x with
  | some d, some y => match flat y, M d with
    | true, none => match cellsOf y with
      | cs => some ⟨.ptr d 0, [d], [(d, .box ty cs)]⟩
    | _, _ => none
  | _, _ => none
def opAlloc (dst : Option Tmp) (ty : TypeId) : Option En := match dst, lk tbl ty with
  | some d, some i => match M d, zeroA i.zero with
    | none, some cs => some ⟨.ptr d 0, [d], [(d, .box ty cs)]⟩
    | _, _ => none
  | _, _ => none
def opStore (ty : TypeId) (x y : Operand) : Option En := match lk tbl ty, evA T x, evA T y with
  | some i, some (.ptr g off), some z => match M g, flat z, Nat.beq (cellsOf z).length i.size with
    | some (.box bty cs), true, true => match spl cs off (cellsOf z) with
      | some ds => some ⟨.d (.v undef), [g], [(g, .box bty ds)]⟩
      | none => none
    | _, _, _ => none
  | _, _, _ => none
def opBuild (ty : TypeId) (parts : Array (Nat × Operand)) : Option En := match lk tbl ty with
  | some i => match i.agg, i.fs.all (fun p => (lk tbl p.2).isSome), i.zero.all Value.oneCell' with
    | true, true, true => match evP T parts.toList, zeroA i.zero, i.el with
      | some ps, some zs, none => match fillA (plS tbl i.fs) zs ps with
        | some cs => some ⟨.agg cs, [], []⟩
        | none => none
      | some ps, some zs, some e => match lk tbl e with
        | some j => match fillA (fun k => some (k * j.size, j.size)) zs ps with
          | some cs => some ⟨.agg cs, [], []⟩
          | none => none
        | none => none
      | _, _, _ => none
    | _, _, _ => none
  | none => none
def opBuildSlice (dst : Option Tmp) (ty : TypeId) (len : Nat) (parts : Array (Nat × Operand)) : Option En := match dst, lk tbl ty with
  | some d, some i => match i.isS, i.el, M d with
    | true, some e, none => match lk tbl e with
      | some j => match Nat.blt 0 j.size, Nat.ble (len * j.size) 16777216, j.zero.all Value.oneCell', Nat.beq j.zero.length j.size with
        | true, true, true, true => match evP T parts.toList with
          | some ps => match fillA (fun k => some (k * j.size, j.size)) (zeroR j.zero (len * j.size)) ps with
            | some cs => match chunkD j.size len cs with
              | some rs => match Nat.beq len 0 with
                | true => some ⟨.own d, [d], [(d, .arr e j.size rs)]⟩
                | false => some ⟨.d (.rows j.size rs), [], []⟩
              | none => none
            | none => none
          | none => none
        | _, _, _, _ => none
      | none => none
    | _, _, _ => none
  | _, _ => none
def opLen (ty : TypeId) (x : Operand) : Option En := match lk tbl ty with
  | some i => match i.isS, i.el, evA T x with
    | true, some _, some (.d (.rows _ rs)) => some ⟨.d (.v (.int .i64 (rs.length : Int))), [], []⟩
    | true, some _, some (.own g) => match M g with
      | some (.arr _ _ rs) => some ⟨.d (.v (.int .i64 (rs.length : Int))), [g], []⟩
      | _ => none
    | true, some _, some (.d (.v (.slice none 0 0))) => some ⟨.d (.v (.int .i64 0)), [], []⟩
    | _, _, _ => none
  | none => none
def opMM (mn : Bool) (x y : Operand) : Option En := match mn, evA T x, evA T y with
  | true, some (.d (.v (.int k a))), some (.d (.v (.int k' b))) => match decide (k = k') with
    | true => some ⟨.d (.v (.int k (if b < a then b else a))), [], []⟩
    | false => none
  | false, some (.d (.v (.int k a))), some (.d (.v (.int k' b))) => match decide (k = k') with
    | true => some ⟨.d (.v (.int k (if b > a then b else a))), [], []⟩
    | false => none
  | _, _, _ => none
def opBuiltin (b : Builtin) (args : Array Operand) (tys : Array TypeId) : Option En := match b, args.toList, tys.toList with
  | .len, [x], [t] => opLen tbl T M t x
  | .min, [x, y], [_, _] => opMM T true x y
  | .max, [x, y], [_, _] => opMM T false x y
  | _, _, _ => none
/-- What an operation does. -/
def opA (o : Oper) : Option En := match o.op with
  | .move x => opMove T x
  | .assign x => opMove T x
  | .load ty x => opLoad tbl T M ty x
  | .binOp op _ x y _ => opBin T op x y
  | .unOp op _ x => opUn T op x
  | .pick c x y => opPick T c x y
  | .field ty x f => opField tbl T ty x f
  | .fieldAddr ty x f => opFieldAddr tbl T ty x f
  | .convert s d x => opConv tbl T s d x
  | .extract x n => opExtract T x n
  | .nilCheck x => opNil T x
  | .makeFunc fn first cap => opFunc T fn first cap
  | .box ty x => opBox T M o.dst ty x
  | .alloc ty => opAlloc tbl M o.dst ty
  | .store ty x y => opStore tbl T M ty x y
  | .build ty ps => opBuild tbl T ty ps
  | .buildSlice ty n ps => opBuildSlice tbl T M o.dst ty n ps
  | .call { callee := .builtin b, args := args, argTypes := tys } => opBuiltin tbl T M b args tys
  | _ => none
end

section
variable {P : Program} {tbl : List (Nat × TI)} {o : Oper} {T : Nat → Option AV} {M : Nat → Option AO} {e : En}
theorem list1 {α : Type} {a : Array α} {x : α} (h : a.toList = [x]) : a = #[x] := by apply Array.toList_inj.1; simpa using h
theorem list2 {α : Type} {a : Array α} {x y : α} (h : a.toList = [x, y]) : a = #[x, y] := by apply Array.toList_inj.1; simpa using h
theorem list0 {α : Type} {a : Array α} (h : a.toList = []) : a = #[] := by apply Array.toList_inj.1; simpa using h
theorem evs_map {T : Nat → Option AV} : ∀ {l : List Operand} {xs : List AV}, evs T l = some xs → l.map (evA T) = xs.map some
  | [], xs, h => by obtain rfl : [] = xs := by simpa [evs] using h
                    rfl
  | x :: r, xs, h => by
    simp only [evs] at h
    split at h
    · rename_i y ys hy hys
      obtain rfl := Option.some.inj h
      simp [hy, evs_map hys]
    · cases h
theorem opA_sound (htb : TOK P tbl) (h : opA tbl T M o = some e) : StepOK P o T M e := by
  unfold opA at h
  split at h
  case h_1 x ho =>
    unfold opMove at h; split at h
    · rename_i y hy; obtain rfl := Option.some.inj h; exact step_move ho hy
    · cases h
  case h_2 x ho =>
    unfold opMove at h; split at h
    · rename_i y hy; obtain rfl := Option.some.inj h; exact step_assign ho hy
    · cases h
  case h_3 ty x ho =>
    unfold opLoad at h
    split at h
    · rename_i i g off ht hx
      split at h
      · rename_i bty cs hg
        split at h
        · rename_i ha
          split at h
          · rename_i ds hs; obtain rfl := Option.some.inj h; exact go_load_agg htb ho ht ha hx hg hs
          · cases h
        · rename_i ha
          split at h
          · rename_i c hc; obtain rfl := Option.some.inj h; exact step_load_one htb ho ht ha hx hg hc
          · cases h
      · cases h
    · rename_i i cs ht hx
      split at h
      · rename_i ha
        split at h
        · rename_i ds hs
          split at h
          · rename_i es he; obtain rfl := Option.some.inj h; exact go_load_rp_agg htb ho ht ha hx hs he
          · cases h
        · cases h
      · rename_i ha
        split at h
        · rename_i c r; obtain rfl := Option.some.inj h; exact step_load_rp_one htb ho ht ha hx
        · cases h
    · cases h
  case h_4 op t x y t' ho =>
    unfold opBin at h
    split at h
    · rename_i k a k' b hx hy
      split at h
      · rename_i r hk hr
        obtain rfl := Option.some.inj h
        have := of_decide_eq_true hk
        subst this
        exact step_int ho hx hy hr
      · cases h
    · rename_i a b hx hy
      split at h
      · rename_i r hr; obtain rfl := Option.some.inj h; exact step_str ho hx hy hr
      · cases h
    · cases h
  case h_5 op t x ho =>
    unfold opUn at h
    split at h
    · rename_i b hx; obtain rfl := Option.some.inj h; exact step_not ho hx
    · rename_i k n hx; obtain rfl := Option.some.inj h; exact step_neg ho hx
    · cases h
  case h_6 c x y ho =>
    unfold opPick at h
    split at h
    · rename_i hc
      split at h
      · rename_i u hu; obtain rfl := Option.some.inj h; exact step_pick_t ho hc rfl hu
      · cases h
    · rename_i hc
      split at h
      · rename_i u hu; obtain rfl := Option.some.inj h; exact step_pick_f ho hc rfl hu
      · cases h
    · cases h
  case h_7 ty x f ho =>
    unfold opField at h
    split at h
    · rename_i i cs ht hx
      split at h
      · rename_i p ha he hf
        split at h
        · rename_i j hj
          split at h
          · rename_i hja
            split at h
            · rename_i ds hs; obtain rfl := Option.some.inj h; exact go_field_agg htb ho ht ha he hf hj hja hx hs
            · cases h
          · rename_i hja
            split at h
            · rename_i c hc; obtain rfl := Option.some.inj h; exact step_field_one htb ho ht ha he hf hj hja hx hc
            · cases h
        · cases h
      · cases h
    · cases h
  case h_8 ty x f ho =>
    unfold opFieldAddr at h
    split at h
    · rename_i i y ht hx
      split at h
      · rename_i p ha he hf
        split at h
        · rename_i j hj
          split at h
          · rename_i z hs hz; obtain rfl := Option.some.inj h; exact go_fieldAddr htb ho ht ha he hf hj hs hx hz
          · cases h
        · cases h
      · cases h
    · cases h
  case h_9 s d x ho =>
    unfold opConv at h
    split at h
    · rename_i i j k n hs hd hx
      split at h
      · rename_i k' hk; obtain rfl := Option.some.inj h; exact step_conv htb ho hs hd hk hx
      · cases h
    · cases h
  case h_10 x n ho =>
    unfold opExtract at h
    split at h
    · rename_i cs hx
      split at h
      · rename_i c hc; obtain rfl := Option.some.inj h; exact step_extract ho hx hc
      · cases h
    · cases h
  case h_11 x ho =>
    unfold opNil at h
    split at h <;> first | (rename_i hx; obtain rfl := Option.some.inj h; exact step_nilcheck ho hx rfl) | cases h
  case h_12 fn first cap ho =>
    unfold opFunc at h
    split at h
    · rename_i f ys hf hy; obtain rfl := Option.some.inj h; exact step_func ho (list0 hf) (evs_map hy)
    · cases h
  case h_13 ty x ho =>
    unfold opBox at h
    split at h
    · rename_i d y hd hx
      split at h
      · rename_i hf hg
        obtain rfl := Option.some.inj h
        exact step_box d ho hx hf hg
      · cases h
    · cases h
  case h_14 ty ho =>
    unfold opAlloc at h
    split at h
    · rename_i d i hd ht
      split at h
      · rename_i cs hg hz; obtain rfl := Option.some.inj h; exact go_alloc htb d ho ht hg hz
      · cases h
    · cases h
  case h_15 ty x y ho =>
    unfold opStore at h
    split at h
    · rename_i i g off z ht hx hy
      split at h
      · rename_i bty cs hg hf hl
        split at h
        · rename_i ds hs; obtain rfl := Option.some.inj h; exact go_store htb ho ht hx hy hf hg hl hs
        · cases h
      · cases h
    · cases h
  case h_16 ty ps ho =>
    unfold opBuild at h
    split at h
    · rename_i i ht
      split at h
      · rename_i ha hall hone
        split at h
        · rename_i qs zs hp hz he
          split at h
          · rename_i cs hf; obtain rfl := Option.some.inj h; exact go_build htb ho ht ha he hall hone hp hz hf
          · cases h
        · rename_i qs zs e2 hp hz he
          split at h
          · rename_i j hj
            split at h
            · rename_i cs hf; obtain rfl := Option.some.inj h; exact go_build_arr htb ho ht ha he hj hone hp hz hf
            · cases h
          · cases h
        · cases h
      · cases h
    · cases h
  case h_17 ty n ps ho =>
    unfold opBuildSlice at h
    split at h
    · rename_i d i hd ht
      split at h
      · rename_i e2 hs he hg
        split at h
        · rename_i j hj
          split at h
          · rename_i h1 h2 h3 h4
            split at h
            · rename_i qs hp
              split at h
              · rename_i cs hf
                split at h
                · rename_i rs hc
                  split at h
                  · obtain rfl := Option.some.inj h; exact go_buildSlice htb d ho ht hs he hj h1 h2 h3 h4 hp hf hc hg
                  · obtain rfl := Option.some.inj h; exact go_buildRows htb ho ht hs he hj h1 h2 h3 h4 hp hf hc
                · cases h
              · cases h
            · cases h
          · cases h
        · cases h
      · cases h
    · cases h
  case h_18 b args tys ho =>
    unfold opBuiltin at h
    split at h
    · rename_i x t ha ht2
      rw [list1 ha, list1 ht2] at ho
      unfold opLen at h
      split at h
      · rename_i i ht
        split at h
        · rename_i hs he hx; obtain rfl := Option.some.inj h; exact step_len_rows htb ho ht hs he hx
        · rename_i g hs he hx
          split at h
          · rename_i hg; obtain rfl := Option.some.inj h; exact step_len_own htb ho ht hs he hx hg
          · cases h
        · rename_i hs he hx; obtain rfl := Option.some.inj h; exact step_len_nil htb ho ht hs he hx
        · cases h
      · cases h
    · rename_i x y t1 t2 ha ht2
      rw [list2 ha, list2 ht2] at ho
      unfold opMM at h
      split at h
      · rename_i k a k' b hx hy
        split at h
        · rename_i hk
          obtain rfl := Option.some.inj h
          have := of_decide_eq_true hk
          subst this
          exact step_min ho hx hy
        · cases h
      · rename_i hm _ _; cases hm
      · cases h
    · rename_i x y t1 t2 ha ht2
      rw [list2 ha, list2 ht2] at ho
      unfold opMM at h
      split at h
      · rename_i hm _ _; cases hm
      · rename_i k a k' b hx hy
        split at h
        · rename_i hk
          obtain rfl := Option.some.inj h
          have := of_decide_eq_true hk
          subst this
          exact step_max ho hx hy
        · cases h
      · cases h
    · cases h
  case h_19 => cases h
end

/-- How the view goes on behind an operation. -/
def nxt (tbl : List (Nat × TI)) (ops : List Oper) (o : Oper) (acc : List (List Nat × List Nat)) (T : List (Nat × AV)) (M : List (Nat × AO)) : Option (List (List Nat × List Nat) × List (Nat × AV) × List (Nat × AO)) :=
  match (match o.guard with
    | none => some true
    | some (j, want) => match ops[j]? with
      | some q => match q.dst with
        | some tj => match lk T tj with
          | some (.d (.v (.bool true))) => some want
          | some (.d (.v (.bool false))) => some (!want)
          | some (.d (.v (.tuple _))) => some false
          | _ => none
        | none => none
      | none => none : Option Bool) with
  | some true => match opA tbl (lk T) (lk M) o with
    | some ⟨v, tch, []⟩ => match o.dst with
      | some d => some ((tch, []) :: acc, (d, v) :: T, M)
      | none => some ((tch, []) :: acc, T, M)
    | some ⟨v, tch, [(g, x)]⟩ => match o.dst with
      | some d => some ((tch, [g]) :: acc, (d, v) :: T, (g, x) :: M)
      | none => some ((tch, [g]) :: acc, T, (g, x) :: M)
    | _ => none
  | some false => match o.dst with
    | some d => some (([], []) :: acc, (d, .d (.v undef)) :: T, M)
    | none => some (([], []) :: acc, T, M)
  | none => none
theorem WD_nxt {P : Program} {tbl : List (Nat × TI)} {ops r : List Oper} {o : Oper} {fin : List (List Nat × List Nat) → List (Nat × AV) → List (Nat × AO) → Prop} {acc acc' : List (List Nat × List Nat)} {T T' : List (Nat × AV)} {M M' : List (Nat × AO)} (htb : TOK P tbl) (h : nxt tbl ops o acc T M = some (acc', T', M'))
    (k : WD P ops fin r acc' T' M') : WD P ops fin (o :: r) acc T M := by
  unfold nxt at h
  split at h
  · rename_i hgu
    have hG : ∀ e, StepOK P o (lk T) (lk M) e → StepG P ops o (lk T) (lk M) e := by
      intro e he
      split at hgu
      · rename_i hg; exact .inl ⟨hg, he⟩
      · rename_i j want hg
        split at hgu
        · rename_i q hq
          split at hgu
          · rename_i tj hqd
            split at hgu
            · rename_i hb
              exact .inr (.inl ⟨j, want, q, tj, true, hg, hq, hqd, hb, .inl ⟨(Option.some.inj hgu).symm, he⟩⟩)
            · rename_i hb
              refine .inr (.inl ⟨j, want, q, tj, false, hg, hq, hqd, hb, .inl ⟨?_, he⟩⟩)
              have := Option.some.inj hgu
              cases want <;> simp_all
            · cases hgu
            · cases hgu
          · cases hgu
        · cases hgu
    split at h
    · rename_i v tch ho
      have hs := opA_sound (P := P) htb ho
      split at h
      · rename_i d hd
        simp only [Option.some.injEq, Prod.mk.injEq] at h
        obtain ⟨rfl, rfl, rfl⟩ := h
        exact ⟨_, ⟨hG _ hs, hs.1⟩, by rw [hd]; exact k⟩
      · rename_i hd
        simp only [Option.some.injEq, Prod.mk.injEq] at h
        obtain ⟨rfl, rfl, rfl⟩ := h
        exact ⟨_, ⟨hG _ hs, hs.1⟩, by rw [hd]; exact k⟩
    · rename_i v tch g x ho
      have hs := opA_sound (P := P) htb ho
      split at h
      · rename_i d hd
        simp only [Option.some.injEq, Prod.mk.injEq] at h
        obtain ⟨rfl, rfl, rfl⟩ := h
        exact ⟨_, ⟨hG _ hs, hs.1⟩, by rw [hd]; exact k⟩
      · rename_i hd
        simp only [Option.some.injEq, Prod.mk.injEq] at h
        obtain ⟨rfl, rfl, rfl⟩ := h
        exact ⟨_, ⟨hG _ hs, hs.1⟩, by rw [hd]; exact k⟩
    · cases h
  · rename_i hgu
    have hG : StepG P ops o (lk T) (lk M) ⟨.d (.v undef), [], []⟩ := by
      split at hgu
      · cases hgu
      · rename_i j want hg
        split at hgu
        · rename_i q hq
          split at hgu
          · rename_i tj hqd
            split at hgu
            · rename_i hb
              refine .inr (.inl ⟨j, want, q, tj, true, hg, hq, hqd, hb, .inr ⟨?_, rfl⟩⟩)
              have := Option.some.inj hgu
              cases want <;> simp_all
            · rename_i hb
              refine .inr (.inl ⟨j, want, q, tj, false, hg, hq, hqd, hb, .inr ⟨?_, rfl⟩⟩)
              have := Option.some.inj hgu
              cases want <;> simp_all
            · rename_i vs hb
              exact .inr (.inr ⟨j, want, q, tj, vs, hg, hq, hqd, hb, rfl⟩)
            · cases hgu
          · cases hgu
        · cases hgu
    split at h
    · rename_i d hd
      simp only [Option.some.injEq, Prod.mk.injEq] at h
      obtain ⟨rfl, rfl, rfl⟩ := h
      exact ⟨_, ⟨hG, by simp⟩, by rw [hd]; exact k⟩
    · rename_i hd
      simp only [Option.some.injEq, Prod.mk.injEq] at h
      obtain ⟨rfl, rfl, rfl⟩ := h
      exact ⟨_, ⟨hG, by simp⟩, by rw [hd]; exact k⟩
  · cases h
end Go.Am
