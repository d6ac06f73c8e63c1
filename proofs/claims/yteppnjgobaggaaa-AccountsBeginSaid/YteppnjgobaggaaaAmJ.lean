/- Nothing is claimed here: a slice beside nil, and an empty slice seen as what it is. -/
import Derived.Test.YteppnjgobaggaaaAmI
namespace Go.Am
set_option linter.unusedSimpArgs false
set_option linter.unusedVariables false
set_option linter.unnecessarySimpa false
set_option linter.unusedSectionVars false
set_option maxRecDepth 100000
open Go Go.RowKit Go.Proofs.Grow

section
variable {P : Program} {tbl : List (Nat × TI)} {o : Oper} {T : Nat → Option AV} {M : Nat → Option AO}
theorem run_eqnil (w : World) (d : Nat) (t e : TypeId) (a : Option Addr) (l c : Nat) (h : P.underlying t = some (.slice e)) : (Op.equalIn (d + 1) t (.slice a l c) (.slice none 0 0)).run P w = .ok a.isNone w := by
  cases a <;> simp [Op.equalIn, run_underlying h]
theorem run_isnil (htb : TOK P tbl) {t : TypeId} {i : TI} (ht : lk tbl t = some i) (hs : i.isS = true) {e : TypeId} (he : i.el = some e) (a : Option Addr) (n c : Nat) (x y : Operand) (w : World) :
    (do eqGuard .eql t x y (.slice a n c) (.slice none 0 0); binOp .eql t (.slice a n c) (.slice none 0 0)).run P w = .ok (.bool a.isNone) w := by
  have h := slice_desc (htb _ _ ht) hs he
  have h1 : (Op.equal t (.slice a n c) (.slice none 0 0)).run P w = .ok a.isNone w := run_eqnil w 9999 t e a n c h
  simp [eqGuard, binOp, h1]
theorem step_isnil (htb : TOK P tbl) {t t' : TypeId} {x y : Operand} {a : Option Addr} {n c : Nat} {i : TI} {e : TypeId} (ho : o.op = .binOp .eql t x y t') (ht : lk tbl t = some i) (hs : i.isS = true) (he : i.el = some e) (hx : evA T x = some (.d (.v (.slice a n c)))) (hy : evA T y = some (.d (.v (.slice none 0 0)))) : StepOK P o T M ⟨.d (.v (.bool a.isNone)), [], []⟩ :=
  step_read [] fun cx μ T' M' ac w h hT _ => by
    have h1 := (h.ev (x := x) hT (by simp [ho, Op.operands]) hx).val
    have h2 := (h.ev (x := y) hT (by simp [ho, Op.operands]) hy).val
    refine ⟨.bool a.isNone, ?_, .d (.v _)⟩
    simp only [execOp, ho, h1, h2]
    rw [Sem.run_bind, run_isnil htb ht hs he a n c x y w]
    simp
theorem step_isnil_rows (htb : TOK P tbl) {t t' : TypeId} {x y : Operand} {sz : Nat} {r : List D} {rs : List (List D)} {i : TI} {e : TypeId} (ho : o.op = .binOp .eql t x y t') (ht : lk tbl t = some i) (hs : i.isS = true) (he : i.el = some e) (hx : evA T x = some (.d (.rows sz (r :: rs)))) (hy : evA T y = some (.d (.v (.slice none 0 0)))) : StepOK P o T M ⟨.d (.v (.bool false)), [], []⟩ :=
  step_read [] fun cx μ T' M' ac w h hT _ => by
    have h1 := h.ev (x := x) hT (by simp [ho, Op.operands]) hx
    have h2 := (h.ev (x := y) hT (by simp [ho, Op.operands]) hy).val
    refine ⟨.bool false, ?_, .d (.v _)⟩
    generalize hu : ac.eval x = u at h1
    cases h1 with
    | d h1 =>
      cases h1 with
      | rows =>
        simp only [execOp, ho, hu, h2]
        rw [Sem.run_bind, run_isnil htb ht hs he _ _ _ x y w]
        simp
end
section
variable {P : Program} {tbl : List (Nat × TI)} {ops r : List Oper} {o : Oper} {fin : List (List Nat × List Nat) → List (Nat × AV) → List (Nat × AO) → Prop} {acc : List (List Nat × List Nat)} {T : List (Nat × AV)} {M : List (Nat × AO)}
/-- An append: the new slice is named by its slot. -/
theorem WD_app {d : Tmp} (htb : TOK P tbl) {s x : Operand} {t e : TypeId} {i j : TI} {g : Nat} {L : List Nat} {rs rs2 : List (List D)} (hgu : gd ops T o = some true) (hd : o.dst = some d) (ho : o.op = .call { callee := .builtin .append, args := #[s, x], argTypes := #[t, t] }) (ht : lk tbl t = some i) (hs : i.isS = true) (he : i.el = some e) (hj : lk tbl e = some j)
    (hpos : Nat.blt 0 j.size = true) (hzl : Nat.beq j.zero.length j.size = true) (hsv : evA (lk T) s = some (.own g)) (hg : lk M g = some (.arr e j.size rs)) (hsrc : Src (lk T) (lk M) e j.size x L rs2) (hg' : lk M d = none) (hb : (rs.length + rs2.length) * j.bytes ≤ 140737488355328) (h63 : rs.length + rs2.length ≤ maxLen)
    (k : WD P ops fin r (([d, g] ++ L, [d, g]) :: acc) ((d, .own d) :: T) ((d, .arr e j.size (rs ++ rs2)) :: (g, .dead) :: M)) : WD P ops fin (o :: r) acc T M :=
  WD_do hgu hd (go_append htb d ho ht hs he hj hpos hzl hsv hg hsrc hg' hb h63) k
/-- One to a nil slice. -/
theorem WD_app0 {d : Tmp} (htb : TOK P tbl) {s x : Operand} {t e : TypeId} {i j : TI} {L : List Nat} {rs2 : List (List D)} (hgu : gd ops T o = some true) (hd : o.dst = some d) (ho : o.op = .call { callee := .builtin .append, args := #[s, x], argTypes := #[t, t] }) (ht : lk tbl t = some i) (hs : i.isS = true) (he : i.el = some e) (hj : lk tbl e = some j)
    (hpos : Nat.blt 0 j.size = true) (hzl : Nat.beq j.zero.length j.size = true) (hsv : evA (lk T) s = some (.d (.v (.slice none 0 0)))) (hsrc : Src (lk T) (lk M) e j.size x L rs2) (hg' : lk M d = none) (hb : rs2.length * j.bytes ≤ 140737488355328) (h63 : rs2.length ≤ maxLen)
    (k : WD P ops fin r (([d] ++ L, [d]) :: acc) ((d, .own d) :: T) ((d, .arr e j.size rs2) :: M)) : WD P ops fin (o :: r) acc T M :=
  WD_do hgu hd (go_append_nil htb d ho ht hs he hj hpos hzl hsv hsrc hg' hb h63) k
end
theorem FnM.nil_cases {P : Program} {f : FuncId} {Mi : List (Nat × AO)} {args : List AV} {res : AV} {Mo : List (Nat × AO)} (k : Nat) {sz : Nat} (hk : args[k]? = some (.d (.rows sz [])))
    (h0 : FnM P f Mi (args.set k (.d (.v (.slice none 0 0)))) res Mo) (h1 : ∀ ad cap, FnM P f Mi (args.set k (.d (.v (.slice (some ad) 0 cap)))) res Mo) : FnM P f Mi args res Mo := by
  intro H0 μ w vs hl hI
  have key : ∀ {l : List AV} {n t : Nat} {x : AV}, l[t]? = some x → lk (argT n l) (n + t) = some x := by
    intro l
    induction l with
    | nil => intro n t x h; simp at h
    | cons y r ih =>
      intro n t x h
      cases t with
      | zero => obtain rfl : y = x := by simpa using h
                simp [argT, lk]
      | succ t =>
        have hb : Nat.beq n (n + (t + 1)) = false := by
          cases hb : Nat.beq n (n + (t + 1))
          · rfl
          · have := Nat.eq_of_beq_eq_true hb; omega
        simp only [argT, lk, hb]
        have := ih (n := n + 1) (t := t) (by simpa using h)
        rwa [show n + 1 + t = n + (t + 1) by omega] at this
  have hv := hI.tm k _ (by have := key (n := 0) hk; rwa [Nat.zero_add] at this)
  have main : ∀ u, (vs.toArray.getD k undef) = u → FnM P f Mi (args.set k (.d (.v u))) res Mo → Calls P f vs.toArray w fun e w' => ∃ v μ', e = .returned v ∧ InvM ⟨w, Hot μ (lk Mi), H0, 1, μ⟩ μ' (lk [(0, res)]) (lk Mo) ⟨#[v], []⟩ w' := by
    intro u hu hf
    refine hf H0 μ w vs (by simpa using hl) ⟨fun t x ht => ?_, hI.ob, hI.inj, hI.lo, hI.fr, hI.free, hI.hs, hI.base, hI.sz, hI.df⟩
    obtain ⟨_, hx⟩ := argT_lk ht
    rw [Nat.sub_zero] at hx
    by_cases htk : t = k
    · subst htk
      have hlt : t < args.length := (List.getElem?_eq_some_iff.1 hk).1
      have : x = .d (.v u) := by simpa [hlt] using hx.symm
      subst this
      show VR _ _ _ _ (vs.toArray.getD t undef)
      rw [hu]; exact .d (.v _)
    · rw [List.getElem?_set_ne (fun e => htk e.symm)] at hx
      exact hI.tm t x (by have := key (n := 0) hx; rwa [Nat.zero_add] at this)
  generalize hu : (vs.toArray.getD k undef) = u at hv
  cases hv with
  | d hv =>
    cases hv with
    | nil _ a cap hc =>
      cases a with
      | none => obtain rfl := hc rfl; exact main _ hu h0
      | some ad => exact main _ hu (h1 ad cap)
    | rows _ _ _ _ _ _ hne => exact absurd rfl hne
end Go.Am
