/- Nothing is claimed here: a call that meets a contract; a contract out of the function's code. -/
import Derived.Test.YteppnjgobaggaaaAm8
namespace Go.Am
set_option linter.unusedSimpArgs false
set_option linter.unusedVariables false
set_option linter.unnecessarySimpa false
set_option linter.unusedSectionVars false
set_option maxRecDepth 100000
open Go Go.RowKit Go.Proofs.Grow

def evs (T : Nat → Option AV) : List Operand → Option (List AV)
  | [] => some []
  | x :: r => match evA T x, evs T r with
    | some y, some ys => some (y :: ys)
    | _, _ => none
theorem evs_get {T : Nat → Option AV} : ∀ {l : List Operand} {xs : List AV}, evs T l = some xs → l.length = xs.length ∧ ∀ (i : Nat) (x : Operand) (y : AV), l[i]? = some x → xs[i]? = some y → evA T x = some y
  | [], xs, h => by
    obtain rfl : [] = xs := by simpa [evs] using h
    exact ⟨rfl, fun i x y hx => by simp at hx⟩
  | x :: r, xs, h => by
    simp only [evs] at h
    split at h
    · rename_i y ys hy hys
      obtain rfl := Option.some.inj h
      obtain ⟨h1, h2⟩ := evs_get hys
      exact ⟨by simp [h1], fun i z u hz hu => by
        cases i with
        | zero => obtain rfl : x = z := by simpa using hz
                  obtain rfl : y = u := by simpa using hu
                  exact hy
        | succ i => exact h2 i z u (by simpa using hz) (by simpa using hu)⟩
    · cases h
def callB (P : Program) (f : FuncId) : Option (Bool × Bool) := (P.funcs[f]?).map fun fn => (fn.name == "runtime.NumGoroutine", fn.body.isNone)
theorem run_callFunc {P : Program} {f : FuncId} (h : callB P f = some (false, false)) (args : Array Value) (w : World) : (callFunc f args).run P w = .ok (.enter f args) w := by
  unfold callB at h
  cases hf : P.funcs[f]? with
  | none => rw [hf] at h; cases h
  | some fn =>
    rw [hf] at h
    simp only [Option.map_some, Option.some.injEq, Prod.mk.injEq] at h
    have h1 : fn.name ≠ "runtime.NumGoroutine" := by simpa using h.1
    have h2 : fn.body ≠ none := fun e => by rw [e] at h; simp at h
    unfold callFunc
    simp [hf, h1, h2]
def mx (M : Nat → Option AO) (Mi : List (Nat × AO)) : Nat → Option AO := fun g => match lk Mi g with
  | some _ => none
  | none => M g

section
variable {P : Program} {o : Oper} {T : Nat → Option AV} {M : Nat → Option AO}
theorem step_call_core {fo : Operand} {args : Array Operand} {tys : Array TypeId} {f : FuncId} {caps xs ys : List AV} {res : AV} {Mi Mo : List (Nat × AO)}
    (ho : o.op = .call { callee := .value fo, args := args, argTypes := tys }) (hfo : evA T fo = some (.clo f caps)) (hxs : evs T args.toList = some xs) (hfn : FnM P f Mi ys res Mo) (hc : callB P f = some (false, false))
    (hMi : SubM M Mi) (hsub : keysIn Mi Mo = true) (hfr : freshIn M Mi Mo = true) (hoy : AV.oks (keyIn Mi) ys = true) (homi : (Mi.all fun p => p.2.ok (keyIn Mi)) = true) (hor : AV.ok (keyIn Mo) res = true) (homo : (Mo.all fun p => p.2.ok (keyIn Mo)) = true)
    (hcv : Cvs (fun _ => none) (xs ++ caps) ys ∨ (Cvs (mx M Mi) (xs ++ caps) ys ∧ res.noRows = true ∧ PlainL Mo)) : StepOK P o T M ⟨res, Mo.map (·.1) ++ AV.idls (xs ++ caps), Mo⟩ := by
  refine ⟨fun p hp => List.mem_append_left _ (List.mem_map.2 ⟨p, hp, rfl⟩), fun cx T' M' a w hd hT hM ⟨μ, hI⟩ => ?_⟩
  have hmo : ∀ p ∈ Mo, M' p.1 = M p.1 := fun p hp => hM _ (List.mem_append_left _ (List.mem_map.2 ⟨p, hp, rfl⟩))
  have hmi : ∀ p ∈ Mi, M' p.1 = M p.1 := by
    intro p hp
    have h1 : keyIn Mo p.1 = true := List.all_eq_true.1 hsub p hp
    have h2 : p.1 ∈ Mo.map (·.1) := lk_mem (by unfold keyIn at h1; split at h1; · rename_i q hq; rw [hq]; rfl
                                               · cases h1)
    exact hM _ (List.mem_append_left _ h2)
  have hSub := SubM_lk (SubM_congr hMi hmi)
  have hfr' := freshIn_congr hfr hmo
  -- the values
  have hcl := hI.ev (x := fo) hT (by simp [ho, Op.operands, Call.operands]) hfo
  obtain ⟨hl1, hev⟩ := evs_get hxs
  generalize hfv : a.eval fo = fv at hcl
  cases hcl with
  | @clo _ _ cvs hcl1 hcl2 =>
    have hargs : VRs (Ht cx μ M') μ w (xs ++ caps) ((args.map a.eval).toList ++ cvs) := by
      refine VRs.append ⟨by simp [← hl1], fun i c v hc hv => ?_⟩ ⟨hcl1, hcl2⟩
      rw [Array.toList_map, List.getElem?_map] at hv
      cases hq : args.toList[i]? with
      | none => rw [hq] at hv; cases hv
      | some q =>
        rw [hq] at hv
        obtain rfl : a.eval q = v := by simpa using hv
        have hq2 : args[i]? = some q := by simpa using hq
        exact hI.ev hT (by rw [ho]; simp [Op.operands, Call.operands]; exact .inr (Array.mem_of_getElem? hq2)) (hev i q c hq hc)
    have hrun : (execOp a.eval o).run P w = .ok (.enter f ((args.map a.eval).toList ++ cvs).toArray) w := by
      have e : ((args.map a.eval).toList ++ cvs).toArray = args.map a.eval ++ cvs.toArray := by simp
      rw [e]
      simp [execOp, ho, resolve, Deferred.ofValue, hfv, invoke, run_callFunc hc]
    generalize (args.map a.eval).toList ++ cvs = vs at hargs hrun
    have main : ∀ (H0 : Nat → Prop), (∀ b, H0 b → Ht cx μ M' b) → (∀ b, H0 b → ¬ Hot μ (lk Mi) b) → VRs (fun b => H0 b ∨ Hot μ (lk Mi) b) μ w ys vs →
        ((∀ b, Ht cx μ M' b → ¬ Hot μ (lk Mi) b → H0 b) ∨ (res.noRows = true ∧ PlainL Mo)) → GivesF P o a w (fun v w2 => Inv cx (upT T' o.dst res) (upM M' Mo) (a.put o.dst v) w2) := by
      intro H0 h1 h2 hv hal
      have hen := hI.enter hSub H0 h1 h2 hv hoy homi
      unfold GivesF
      rw [hrun]
      refine (hfn H0 (resK μ Mi) w vs hv.1.symm hen).mono ?_
      rintro e w' ⟨v, μ', rfl, hout⟩
      obtain ⟨k1, k2⟩ := hI.leave hSub hsub hfr' hout hor homo hal
      exact ⟨v, rfl, _, k1.put k2 hd⟩
    rcases hcv with hcv | ⟨hcv, hn1, hn2⟩
    · refine main (fun b => Ht cx μ M' b ∧ ¬ Hot μ (lk Mi) b) (fun b hb => hb.1) (fun b hb => hb.2) ⟨by rw [← hcv.1]; exact hargs.1, fun i y v hy hv => ?_⟩ (.inl fun b hb hn => ⟨hb, hn⟩)
      have hi : i < (xs ++ caps).length := by rw [hcv.1]; exact (List.getElem?_eq_some_iff.1 hy).1
      have hx : (xs ++ caps)[i]? = some (xs ++ caps)[i] := by rw [List.getElem?_eq_getElem hi]
      refine hI.coe (Mx := fun _ => none) (fun g o h => by cases h) (fun b hb => ?_) (fun g o u b h => by cases h) (hcv.2 i _ y hx hy) (hargs.2 i _ v hx hv)
      rcases hb with hb | hb
      · exact hb.1
      · exact .inr (hot_sub hSub hb)
    · have hids : ∀ g ∈ AV.idls (xs ++ caps), mx M' Mi g = mx M Mi g := by
        intro g hg
        unfold mx
        rw [hM g (List.mem_append_right _ hg)]
      have hcv := hcv.local hids
      refine main (fun b => False) (fun b hb => hb.elim) (fun b hb => hb.elim) ⟨by rw [← hcv.1]; exact hargs.1, fun i y v hy hv => ?_⟩ (.inr ⟨hn1, hn2⟩)
      have hi : i < (xs ++ caps).length := by rw [hcv.1]; exact (List.getElem?_eq_some_iff.1 hy).1
      have hx : (xs ++ caps)[i]? = some (xs ++ caps)[i] := by rw [List.getElem?_eq_getElem hi]
      have hmx : ∀ g o, mx M' Mi g = some o → M' g = some o ∧ lk Mi g = none := by
        intro g o h
        unfold mx at h
        split at h
        · cases h
        · rename_i hn; exact ⟨h, hn⟩
      refine hI.coe (Mx := mx M' Mi) (fun g o h => (hmx g o h).1) (fun b hb => ?_) (fun g o u b h hl hu hb hq => ?_) (hcv.2 i _ y hx hy) (hargs.2 i _ v hx hv)
      · rcases hb with hb | hb
        · exact hb.elim
        · exact .inr (hot_sub hSub hb)
      · rcases hq with hq | ⟨k, p, x, r1, r2, r3, r4⟩
        · exact hq
        · have := hI.inj k g p o x u b (hSub k p r1) r2 (hmx g o h).1 hl r3 hu r4 hb
          subst this
          rw [(hmx k o h).2] at r1; cases r1
end

/-- What a function's results are seen as. -/
def resOne (tbl : List (Nat × TI)) (T : Nat → Option AV) (M : Nat → Option AO) : ResultVar → Option AV
  | .tmp t => T t
  | .cell a ty => match T a with
    | some (.ptr g off) => match M g with
      | some (.box _ cs) => match lk tbl ty with
        | some i => match i.agg with
          | true => match Nat.ble (off + i.size) cs.length with
            | true => some (.agg ((cs.drop off).take i.size))
            | false => none
          | false => cs[off]?
        | none => none
      | _ => none
    | _ => none
def resAll (tbl : List (Nat × TI)) (T : Nat → Option AV) (M : Nat → Option AO) : List ResultVar → Option (List AV)
  | [] => some []
  | x :: r => match resOne tbl T M x, resAll tbl T M r with
    | some y, some ys => some (y :: ys)
    | _, _ => none
def tupOf : List AV → AV
  | [x] => x
  | l => .tup l

section
variable {P : Program} {tbl : List (Nat × TI)} {cx : Cx} {μ : Nat → Option Value} {T : Nat → Option AV} {M : Nat → Option AO} {a : Act} {w : World}
def resRun (tmps : Array Value) : ResultVar → Sem Value
  | .tmp t => pure (tmps.getD t undef)
  | .cell a t => do loadVar t (← asAddr (tmps.getD a undef))
theorem InvM.res1 (htb : TOK P tbl) (h : InvM cx μ T M a w) {x : ResultVar} {y : AV} (hx : resOne tbl T M x = some y) : ∃ v, (resRun a.tmps x).run P w = .ok v w ∧ VR (Ht cx μ M) μ w y v := by
  cases x with
  | tmp t => exact ⟨_, rfl, h.tm t y hx⟩
  | cell ad ty =>
    simp only [resOne] at hx
    cases hT : T ad with
    | none => rw [hT] at hx; cases hx
    | some p =>
      rw [hT] at hx
      cases p with
      | ptr g off =>
        simp only at hx
        cases hg : M g with
        | none => rw [hg] at hx; cases hx
        | some ob =>
          rw [hg] at hx
          cases ob with
          | box bty cs =>
            simp only at hx
            cases ht : lk tbl ty with
            | none => rw [ht] at hx; cases hx
            | some i =>
              rw [ht] at hx
              simp only at hx
              obtain ⟨b, vs, h1, h2, h3, h4⟩ := h.box hg (h.tm ad _ hT)
              cases ha : i.agg with
              | true =>
                rw [ha] at hx
                simp only at hx
                cases hl : Nat.ble (off + i.size) cs.length with
                | false => rw [hl] at hx; cases hx
                | true =>
                  rw [hl] at hx
                  obtain rfl := Option.some.inj hx
                  have hle := Nat.le_of_ble_eq_true hl
                  have hsub : VRs (Ht cx μ M) μ w ((cs.drop off).take i.size) ((vs.drop off).take i.size) := (h4.drop off).take i.size
                  have hlen : ((vs.drop off).take i.size).length = i.size := by
                    have := h4.1
                    simp; omega
                  refine ⟨_, ?_, .agg hsub.1 hsub.2⟩
                  simp only [resRun, Sem.run_bind, h1, asAddr, Sem.run_pure, Result.andThen_ok]
                  refine run_loadAgg (htb _ _ ht) ha hlen fun j v hv => ?_
                  rw [cell_box h3]
                  rw [List.getElem?_take] at hv
                  split at hv
                  · rw [List.getElem?_drop] at hv; exact hv
                  · cases hv
              | false =>
                rw [ha] at hx
                simp only at hx
                obtain ⟨v, hv, hr⟩ := h4.get hx
                refine ⟨v, ?_, hr⟩
                simp only [resRun, Sem.run_bind, h1, asAddr, Sem.run_pure, Result.andThen_ok]
                exact run_loadOne (htb _ _ ht) ha (by rw [cell_box h3]; exact hv)
          | _ => simp at hx
      | _ => simp at hx
theorem InvM.resL (htb : TOK P tbl) (h : InvM cx μ T M a w) : ∀ {l : List ResultVar} {ys : List AV}, resAll tbl T M l = some ys → ∃ vs, (l.mapM (resRun a.tmps)).run P w = .ok vs w ∧ VRs (Ht cx μ M) μ w ys vs
  | [], ys, hy => by
    obtain rfl : [] = ys := by simpa [resAll] using hy
    exact ⟨[], by simp, VRs.nil⟩
  | x :: r, ys, hy => by
    simp only [resAll] at hy
    split at hy
    · rename_i y zs h1 h2
      obtain rfl := Option.some.inj hy
      obtain ⟨v, q1, q2⟩ := h.res1 htb h1
      obtain ⟨vs, q3, q4⟩ := h.resL htb h2
      exact ⟨v :: vs, by simp [List.mapM_cons, q1, q3], VRs.cons q2 q4⟩
    · cases hy
theorem InvM.results (htb : TOK P tbl) (h : InvM cx μ T M a w) {fn : Func} {ys : List AV} (hy : resAll tbl T M fn.results.toList = some ys) : ∃ v, (results fn a.tmps).run P w = .ok v w ∧ VR (Ht cx μ M) μ w (tupOf ys) v := by
  obtain ⟨vs, h1, h2⟩ := h.resL htb hy
  have hrun : (fn.results.mapM (resRun a.tmps)).run P w = .ok vs.toArray w := by
    rw [Array.mapM_eq_mapM_toList]
    simp [h1]
  have hfun : (fun x : ResultVar => match x with
    | .tmp t => (pure (a.tmps.getD t undef) : Sem Value)
    | .cell ad t => do loadVar t (← asAddr (a.tmps.getD ad undef))) = resRun a.tmps := by
    funext x; cases x <;> rfl
  by_cases hs : vs.length = 1
  · match vs, hs, h2, hrun with
    | [v], _, h2, hrun =>
      obtain ⟨hl, h2⟩ := h2
      match ys, hl, h2 with
      | [y], _, h2 =>
        refine ⟨v, ?_, h2 0 y v rfl rfl⟩
        unfold Go.results
        simp only [Sem.run_bind]
        erw [hfun]
        rw [hrun]
        simp
  · refine ⟨.tuple vs.toArray, ?_, ?_⟩
    · unfold Go.results
      simp only [Sem.run_bind]
      erw [hfun]
      rw [hrun]
      simp [hs]
    · have : tupOf ys = .tup ys := by
        have hl : ys.length ≠ 1 := by rw [h2.1]; exact hs
        match ys, hl with
        | [], _ => rfl
        | [_], hl => exact absurd rfl hl
        | _ :: _ :: _, _ => rfl
      rw [this]
      exact .tup h2.1 h2.2

/-- What must hold at the end of a function. -/
def Ret (tbl : List (Nat × TI)) (fn : Func) (res : AV) (Mo : List (Nat × AO)) (cx : Cx) (e : Exit) (s : St) : Prop :=
  (e = .normal ∨ e = .ret) ∧ ∃ s' ys, Le cx s s' ∧ resAll tbl (lk s'.T) (lk s'.M) fn.results.toList = some ys ∧ tupOf ys = res ∧ SubM (lk s'.M) Mo

/-- Only some objects are told further. -/
theorem InvM.narrow {v : Value} {res : AV} {n : Nat} {w0 : World} {S H0 : Nat → Prop} {μ0 : Nat → Option Value} {N : Nat} (h : InvM ⟨w0, S, H0, N, μ0⟩ μ T M a w) {Mo : List (Nat × AO)} (hMo : ∀ g o, lk Mo g = some o → M g = some o) (hv : VR (Ht ⟨w0, S, H0, N, μ0⟩ μ M) μ w res v)
    (hor : AV.ok (keyIn Mo) res = true) (hom : (Mo.all fun p => p.2.ok (keyIn Mo)) = true) (hb0 : ∀ g u, μ0 g = some u → keyIn Mo g = true) : InvM ⟨w0, S, H0, 1, μ0⟩ (resK μ Mo) (lk [(0, res)]) (lk Mo) ⟨#[v], []⟩ w := by
  have hk : Keeps (Ht ⟨w0, S, H0, N, μ0⟩ μ M) (Ht ⟨w0, S, H0, 1, μ0⟩ (resK μ Mo) (lk Mo)) w w := fun b hb hn => ⟨fun k => by
    rcases k with k | k
    · exact hn (.inl k)
    · exact hn (.inr (hot_sub hMo (Hot_resK.1 k))), hb, rfl⟩
  have hμ : ∀ j u, keyIn Mo j = true → μ j = some u → resK μ Mo j = some u := fun j u hj hu => by unfold resK; rw [if_pos hj]; exact hu
  refine ⟨fun t x ht => ?_, fun g o hg => ?_, fun g g' o o' v v' b q1 q2 q3 q4 q5 q6 q7 q8 => ?_, fun b hb => ?_, h.fr, fun g hg => ?_, h.hs, fun g u hu => ?_, rfl, rfl⟩
  · simp only [lk] at ht
    split at ht
    · rename_i hb
      have := Nat.eq_of_beq_eq_true hb
      subst this
      obtain rfl := Option.some.inj ht
      exact hv.mono (keyIn Mo) hor hμ hk
    · cases ht
  · obtain ⟨p, hp, hpo⟩ := lk_pair hg
    exact (h.ob g o (hMo g o hg)).mono' (keyIn Mo) (by rw [← hpo]; exact List.all_eq_true.1 hom p hp) (fun u hu => hμ g u (by unfold keyIn; rw [hg]) hu) hμ hk (fun _ _ _ _ _ => rfl)
  · exact h.inj g g' o o' v v' b (hMo g o q1) q2 (hMo g' o' q3) q4 (resK_some q5) (resK_some q6) q7 q8
  · exact h.lo b (hot_sub hMo (Hot_resK.1 hb))
  · unfold resK; rw [if_neg]; rw [keyIn_none.2 hg]; simp
  · exact hμ g u (hb0 g u hu) (h.base g u hu)

theorem FnM.of (htb : TOK P tbl) {f : FuncId} {fn : Func} {c : Code} {Mi : List (Nat × AO)} {args : List AV} {res : AV} {Mo : List (Nat × AO)} (hf : P.funcs[f]? = some fn) (hb : fn.body = some c) (hn : Nat.ble args.length fn.ntmps = true)
    (hsub : keysIn Mi Mo = true) (hor : AV.ok (keyIn Mo) res = true) (hom : (Mo.all fun p => p.2.ok (keyIn Mo)) = true) (h : ∀ cx : Cx, cx.N = fn.ntmps → (∀ g u, cx.μ0 g = some u → keyIn Mi g = true) → WA P cx c (Ret tbl fn res Mo cx) ⟨argT 0 args, Mi⟩) : FnM P f Mi args res Mo := by
  intro H0 μ w vs hl hI
  have hle := Nat.le_of_ble_eq_true hn
  refine calls_of_wp hf hb ?_
  have hsz : vs.toArray.size = vs.length := by simp
  have hstart : InvS ⟨w, Hot μ (lk Mi), H0, fn.ntmps, μ⟩ ⟨argT 0 args, Mi⟩ { tmps := vs.toArray ++ Array.replicate (fn.ntmps - vs.toArray.size) undef, defers := [] } w := by
    refine ⟨μ, fun t x ht => ?_, hI.ob, hI.inj, hI.lo, hI.fr, hI.free, hI.hs, hI.base, by simp; omega, rfl⟩
    obtain ⟨_, hx⟩ := argT_lk ht
    have hlt : t < vs.length := by
      have := (List.getElem?_eq_some_iff.1 hx).1
      omega
    have h1 := hI.tm t x ht
    have e : (vs.toArray ++ Array.replicate (fn.ntmps - vs.toArray.size) undef).getD t undef = vs.toArray.getD t undef := by
      simp [hlt, Array.getElem?_append]
    show VR _ _ _ x ((vs.toArray ++ Array.replicate (fn.ntmps - vs.toArray.size) undef).getD t undef)
    rw [e]; exact h1
  have h0 : ∀ g u, μ g = some u → keyIn Mi g = true := fun g u hu => by
    cases e : keyIn Mi g
    · have := hI.free g (keyIn_none.1 e)
      rw [this] at hu; cases hu
    · rfl
  refine wp_mono (h ⟨w, Hot μ (lk Mi), H0, fn.ntmps, μ⟩ rfl h0 _ w hstart) ?_
  rintro e a' w' ⟨s, ⟨he, s', ys, hLe, hres, rfl, hMo⟩, hs⟩
  obtain ⟨μ', hI'⟩ := hLe a' w' hs
  obtain ⟨v, hv1, hv2⟩ := hI'.results htb hres
  have hfin : a'.defers = [] ∧ ∃ v, (results fn a'.tmps).run P w' = .ok v w' ∧ ∃ v_1 μ'_1, Ending.returned v = .returned v_1 ∧ InvM ⟨w, Hot μ (lk Mi), H0, 1, μ⟩ μ'_1 (lk [(0, tupOf ys)]) (lk Mo) ⟨#[v_1], []⟩ w' := by
    refine ⟨hI'.df, v, hv1, v, resK μ' Mo, rfl, hI'.narrow (n := 1) (SubM_lk hMo) hv2 hor hom fun g u hu => ?_⟩
    cases e : keyIn Mi g
    · have := hI.free g (keyIn_none.1 e)
      rw [this] at hu; cases hu
    · exact keysIn_spec hsub e
  rcases he with rfl | rfl
  · exact hfin
  · exact hfin
end
end Go.Am
