import Derived.Test.YtdhogcklnehdhaaGreatDoorRAH
import Derived.Test.YtdhogcklnehdhaaGreatDoorRAK
import Derived.Shelf.Spec.SlicesGrow
import Derived.Maps.OwnSet
import Derived.WalkKit
import Derived.Test.YtdhogcklnehdhaaGreatDoorRAE
import Derived.Test.YtdhogcklnehdhaaGreatDoorRAI
import Derived.Test.YtdhogcklnehdhaaGreatDoorRAF
import Derived.Deep.OwnRows
namespace Go.Am
set_option linter.unusedSimpArgs false
set_option linter.unusedVariables false
set_option linter.unnecessarySimpa false
set_option linter.unusedSectionVars false
set_option maxRecDepth 100000
open Go Go.RowKit Go.Proofs.Grow
noncomputable def eqBs : List UInt8 → List UInt8 → Bool
  | [], [] => true
  | a :: r, b :: s => Nat.beq a.toNat b.toNat && eqBs r s
  | _, _ => false
theorem eqBs_spec : ∀ {a b : List UInt8}, eqBs a b = true → a = b
  | [], [], _ => rfl
  | [], _ :: _, h => by cases h
  | _ :: _, [], h => by cases h
  | a :: r, b :: s, h => by
    simp only [eqBs, Bool.and_eq_true] at h
    rw [eqBs_spec h.2, UInt8.toNat_inj.1 (Nat.eq_of_beq_eq_true h.1)]
noncomputable def eqVl (x y : Value) : Bool := match x, y with
  | .int .i64 (.ofNat a), .int .i64 (.ofNat b) => Nat.beq a b
  | .bool true, .bool true => true
  | .bool false, .bool false => true
  | .slice none 0 0, .slice none 0 0 => true
  | .string a, .string b => eqBs a.data.toList b.data.toList
  | _, _ => false
theorem eqVl_spec {x y : Value} (h : eqVl x y = true) : x = y := by
  unfold eqVl at h
  split at h
  · rw [Nat.eq_of_beq_eq_true h]
  · rfl
  · rfl
  · rfl
  · rename_i a b
    have := eqBs_spec h
    obtain ⟨⟨a⟩⟩ := a
    obtain ⟨⟨b⟩⟩ := b
    have : a = b := this
    rw [this]
  · cases h
mutual
noncomputable def eqD : D → D → Bool
  | .v x, y => match y with
    | .v y => eqVl x y
    | _ => false
  | .rows sz rs, y => match y with
    | .rows sz' rs' => Nat.beq sz sz' && eqRs rs rs'
    | _ => false
noncomputable def eqR : List D → List D → Bool
  | [], y => match y with
    | [] => true
    | _ => false
  | d :: r, y => match y with
    | e :: s => eqD d e && eqR r s
    | _ => false
noncomputable def eqRs : List (List D) → List (List D) → Bool
  | [], y => match y with
    | [] => true
    | _ => false
  | d :: r, y => match y with
    | e :: s => eqR d e && eqRs r s
    | _ => false
end
mutual
theorem eqD_spec : ∀ {x y : D}, eqD x y = true → x = y
  | .v x, y, h => by
    unfold eqD at h
    split at h
    · rw [eqVl_spec h]
    · cases h
  | .rows sz rs, y, h => by
    unfold eqD at h
    split at h
    · simp only [Bool.and_eq_true] at h
      rw [Nat.eq_of_beq_eq_true h.1, eqRs_spec h.2]
    · cases h
theorem eqR_spec : ∀ {x y : List D}, eqR x y = true → x = y
  | [], y, h => by
    unfold eqR at h
    split at h
    · rfl
    · cases h
  | d :: r, y, h => by
    unfold eqR at h
    split at h
    · simp only [Bool.and_eq_true] at h
      rw [eqD_spec h.1, eqR_spec h.2]
    · cases h
theorem eqRs_spec : ∀ {x y : List (List D)}, eqRs x y = true → x = y
  | [], y, h => by
    unfold eqRs at h
    split at h
    · rfl
    · cases h
  | d :: r, y, h => by
    unfold eqRs at h
    split at h
    · simp only [Bool.and_eq_true] at h
      rw [eqR_spec h.1, eqRs_spec h.2]
    · cases h
end
mutual
noncomputable def eqA : AV → AV → Bool
  | .d x, y => match y with
    | .d y => eqD x y
    | _ => false
  | .agg cs, y => match y with
    | .agg ds => eqAs cs ds
    | _ => false
  | .tup cs, y => match y with
    | .tup ds => eqAs cs ds
    | _ => false
  | .own g, y => match y with
    | .own h => Nat.beq g h
    | _ => false
  | _, _ => false
noncomputable def eqAs : List AV → List AV → Bool
  | [], y => match y with
    | [] => true
    | _ => false
  | d :: r, y => match y with
    | e :: s => eqA d e && eqAs r s
    | _ => false
end
mutual
theorem eqA_spec : ∀ {x y : AV}, eqA x y = true → x = y
  | .d x, y, h => by
    unfold eqA at h
    split at h
    · rw [eqD_spec h]
    · cases h
  | .agg cs, y, h => by
    unfold eqA at h
    split at h
    · rw [eqAs_spec h]
    · cases h
  | .tup cs, y, h => by
    unfold eqA at h
    split at h
    · rw [eqAs_spec h]
    · cases h
  | .ptr _ _, _, h => by unfold eqA at h; cases h
  | .elt _ _ _ _, _, h => by unfold eqA at h; cases h
  | .own g, y, h => by
    unfold eqA at h
    split at h
    · rw [Nat.eq_of_beq_eq_true h]
    · cases h
  | .rp _, _, h => by unfold eqA at h; cases h
  | .sl _ _ _ _ _, _, h => by unfold eqA at h; cases h
  | .clo _ _, _, h => by unfold eqA at h; cases h
theorem eqAs_spec : ∀ {x y : List AV}, eqAs x y = true → x = y
  | [], y, h => by
    unfold eqAs at h
    split at h
    · rfl
    · cases h
  | d :: r, y, h => by
    unfold eqAs at h
    split at h
    · simp only [Bool.and_eq_true] at h
      rw [eqA_spec h.1, eqAs_spec h.2]
    · cases h
end
noncomputable def eqO (x y : AO) : Bool := match x, y with
  | .box a cs, .box b ds => Nat.beq a b && eqAs cs ds
  | .arr a s rs, .arr b s' rs' => Nat.beq a b && (Nat.beq s s' && eqRs rs rs')
  | .dead, .dead => true
  | _, _ => false
theorem eqO_spec {x y : AO} (h : eqO x y = true) : x = y := by
  unfold eqO at h
  split at h
  · simp only [Bool.and_eq_true] at h
    rw [Nat.eq_of_beq_eq_true h.1, eqAs_spec h.2]
  · simp only [Bool.and_eq_true] at h
    rw [Nat.eq_of_beq_eq_true h.1, Nat.eq_of_beq_eq_true h.2.1, eqRs_spec h.2.2]
  · rfl
  · cases h
noncomputable def eqM : List (Nat × AO) → List (Nat × AO) → Bool
  | [], [] => true
  | p :: r, q :: s => Nat.beq p.1 q.1 && (eqO p.2 q.2 && eqM r s)
  | _, _ => false
theorem eqM_spec : ∀ {x y : List (Nat × AO)}, eqM x y = true → x = y
  | [], [], _ => rfl
  | [], _ :: _, h => by cases h
  | _ :: _, [], h => by cases h
  | (a, o) :: r, (b, u) :: s, h => by
    simp only [eqM, Bool.and_eq_true] at h
    have := Nat.eq_of_beq_eq_true h.1
    rw [this, eqO_spec h.2.1, eqM_spec h.2.2]
/-- Calls with their results. -/
abbrev Res := AV × List (Nat × AO)
abbrev Tbl := List (Nat × List (List AV × Res))
noncomputable def lkE : List (List AV × Res) → List AV → Option Res
  | [], _ => none
  | p :: r, xs => match eqAs p.1 xs with
    | true => some p.2
    | false => lkE r xs
noncomputable def lkF : Tbl → Nat → List AV → Option Res
  | [], _, _ => none
  | p :: r, f, xs => match Nat.beq p.1 f with
    | true => match lkE p.2 xs with
      | some v => some v
      | none => lkF r f xs
    | false => lkF r f xs
def EntOK (P : Program) (f : Nat) (l : List (List AV × Res)) : Prop := ∀ e ∈ l, FnM P f [] e.1 e.2.1 e.2.2
def TblOK (P : Program) (t : Tbl) : Prop := ∀ p ∈ t, EntOK P p.1 p.2
theorem lkE_spec : ∀ {l : List (List AV × Res)} {xs : List AV} {v : Res}, lkE l xs = some v → (xs, v) ∈ l
  | [], _, _, h => by cases h
  | p :: r, xs, v, h => by
    unfold lkE at h
    split at h
    · rename_i he
      obtain rfl := Option.some.inj h
      rw [← eqAs_spec he]
      exact List.mem_cons_self
    · exact List.mem_cons_of_mem _ (lkE_spec h)
theorem lkF_spec {P : Program} : ∀ {t : Tbl} {f : Nat} {xs : List AV} {v : Res}, TblOK P t → lkF t f xs = some v → FnM P f [] xs v.1 v.2
  | [], _, _, _, _, h => by cases h
  | p :: r, f, xs, v, ho, h => by
    unfold lkF at h
    split at h
    · rename_i hb
      split at h
      · rename_i u hu
        obtain rfl := Option.some.inj h
        rw [← Nat.eq_of_beq_eq_true hb]
        exact ho p List.mem_cons_self _ (lkE_spec hu)
      · exact lkF_spec (fun q hq => ho q (List.mem_cons_of_mem _ hq)) h
    · exact lkF_spec (fun q hq => ho q (List.mem_cons_of_mem _ hq)) h
theorem EntOK.nil (P : Program) (f : Nat) : EntOK P f [] := fun p hp => by cases hp
theorem EntOK.cons {P : Program} {f : Nat} {xs : List AV} {v : Res} {l : List (List AV × Res)} (h : FnM P f [] xs v.1 v.2) (k : EntOK P f l) : EntOK P f ((xs, v) :: l) := fun p hp => by
  rcases List.mem_cons.1 hp with rfl | hp
  · exact h
  · exact k p hp
theorem TblOK.nil (P : Program) : TblOK P [] := fun p hp => by cases hp
theorem TblOK.cons {P : Program} {f : Nat} {l : List (List AV × Res)} {t : Tbl} (h : EntOK P f l) (k : TblOK P t) : TblOK P ((f, l) :: t) := fun p hp => by
  rcases List.mem_cons.1 hp with rfl | hp
  · exact h
  · exact k p hp
theorem TblOK.append {P : Program} {s t : Tbl} (h : TblOK P s) (k : TblOK P t) : TblOK P (s ++ t) := fun p hp => by
  rcases List.mem_append.1 hp with hp | hp
  · exact h p hp
  · exact k p hp
noncomputable def okE (x : Rn (AV × List (Nat × AO) × Nat)) (v : Res) : Bool := match x with
  | .ok (r, Mo, _) => eqA r v.1 && eqM Mo v.2
  | _ => false
theorem okE_fn {cf : Cfg} (hc : CfgOK cf) {k : Nat} {f : FuncId} {ys : List AV} {n : Nat} {v : Res} (h : okE (runF cf k f [] ys n) v = true) : FnM cf.P f [] ys v.1 v.2 := by
  unfold okE at h
  split at h
  · rename_i r Mo n' hr
    rw [Bool.and_eq_true] at h
    rw [← eqA_spec h.1, ← eqM_spec h.2]
    exact runF_ok hc k _ _ _ _ _ _ _ hr
  · cases h
end Go.Am
/- Contracts: claims that are consistent; slices.Grow at a nil slice of claims. -/
namespace Go.Proofs.YtdhogcklnehdhaaGreatDoor
set_option linter.unusedSimpArgs false
set_option linter.unusedVariables false
set_option linter.unnecessarySimpa false
set_option linter.unusedSectionVars false
set_option maxRecDepth 100000
open Go Go.RowKit Go.Am Go.Proofs.Grow Go.Shelf Go.Maps
theorem kint : Keyed Tryz.prog 3 := int_keyed Tryz.underlying3
theorem zint (w : World) : (zeroValue 3).run Tryz.prog w = .ok (.int .i64 0) w := by kernel_rfl
set_option maxRecDepth 100000 in
theorem cons_none (a : Option Addr) (cap : Nat) (w : World) : Calls Tryz.prog 110 #[.slice a 0 cap] w fun e w' => e = .returned (.bool true) ∧ Below w.heap.size w w' := by
  have hmm := @run_makeMap Tryz.prog
  go_enter Tryz.func110, Tryz.ntmps110
  go_wp2
  refine wp_loop_rounds 1 ?_
  rw [rounds_succ]
  go_wp2
  go_ret
  exact ⟨rfl, (Below.refl _ _).alloc (Nat.le_refl _) _⟩
set_option maxRecDepth 100000 in
theorem cons_one (b off cap : Nat) (w : World) (hb : b < w.heap.size) (h0 : w.cell? ⟨b, off, none⟩ = some (.int .i64 1)) (h1 : w.cell? ⟨b, off + 1, none⟩ = some (.int .i64 1)) :
    Calls Tryz.prog 110 #[.slice (some ⟨b, off, none⟩) 1 cap] w fun e w' => e = .returned (.bool true) ∧ Below w.heap.size w w' := by
  have hmm := @run_makeMap Tryz.prog
  go_enter Tryz.func110, Tryz.ntmps110
  go_wp2
  refine wp_loop_rounds 2 ?_
  rw [rounds_succ]
  have hown := (World.ownsMap_made w Tryz.prog 3 (plainElem (H := Unit) Tryz.prog 3)).alloc
  have hkey : keyOf Tryz.prog 3 (.int .i64 1) = some (.int .i64 1) := keyOf_int_mk Tryz.underlying3 (by decide)
  go_wp2_with (first
    | (at_lookup; refine wpList_lookup_own_ok_int _ rfl _ _ 185 rfl 3 3 .i64 kint Tryz.underlying185 Tryz.underlying3 (zint _) w.heap.size 0 _ rfl (hown _) _ _ rfl hkey ?_; intro c hat hwc)
    | (at_mapUpdate; refine wpList_mapUpdate_own _ rfl _ _ _ 185 rfl 3 3 kint Tryz.underlying185 _ w.heap.size 0 _ rfl (hown _) (by unfold maxLen; omega) _ _ _ rfl rfl hkey _ [] (plainElem_int Tryz.underlying3 (by decide)) ?_; intro w1 hown1 hgrow1)
    | go_in)
  rw [rounds_succ]
  go_wp2
  go_ret
  exact ⟨rfl, (((Below.refl _ _).alloc (Nat.le_refl _) _).alloc (by simp) _).grown hgrow1 (by simp; omega) (fun j hj => by cases hj; exact Nat.le_refl _)⟩
theorem fnm_pure {f : FuncId} {ys : List AV} {b : Bool} (h : ∀ (H : Nat → Prop) (μ : Nat → Option Value) (w : World) (vs : List Value), VRs H μ w ys vs → Calls Tryz.prog f vs.toArray w fun e w' => e = .returned (.bool b) ∧ Below w.heap.size w w') : FnM Tryz.prog f [] ys (vB b) [] := by
  intro H0 μ w vs hl hI
  refine (h _ _ w vs (args_vrs hl hI)).mono ?_
  rintro e w' ⟨rfl, hb⟩
  refine ⟨_, μ, rfl, ?_⟩
  have hno : ∀ b, ¬ Hot μ (lk ([] : List (Nat × AO))) b := by rintro b ⟨g, o, v, h1, _⟩; simp [lk] at h1
  refine ⟨fun u x hu => ?_, fun g o hg => by simp [lk] at hg, hI.inj, fun b hh => (hno b hh).elim, ⟨hb.os, hb.tape, hb.output, hb.size, fun k hk _ => hb.block k hk⟩, hI.free, hI.hs, hI.base, rfl, rfl⟩
  simp only [lk] at hu
  split at hu
  · rename_i hbq
    cases hu
    have := Nat.eq_of_beq_eq_true hbq
    subst this
    exact .d (.v _)
  · cases hu
/-- No claim, or the same one. -/
theorem cons0_m : FnM Tryz.prog 110 [] [.d (.v (.slice none 0 0))] (vB true) [] := fnm_pure fun H μ w vs hv => by
  have := hv.eq_vals (us := [.slice none 0 0]) rfl
  subst this
  exact cons_none none 0 w
theorem cons1_m : FnM Tryz.prog 110 [] [.d (.rows 2 [])] (vB true) [] := fnm_pure fun H μ w vs hv => by
  match vs, hv.1 with
  | [v], _ =>
    have h0 := hv.2 0 _ _ rfl rfl
    have h0' : VR H μ w (.d (.rows 2 [])) v := h0
    cases h0' with
    | d h => cases h with
      | nil sz a cap hc => exact cons_none a cap w
      | rows sz rs b off cap vs hne hcap hlen hb hlt hsz hcell hone hval => exact absurd rfl hne
theorem cons2_m : FnM Tryz.prog 110 [] [.d (.rows 2 [[.v (.int .i64 1), .v (.int .i64 1)]])] (vB true) [] := fnm_pure fun H μ w vs hv => by
  match vs, hv.1 with
  | [v], _ =>
    have h0 := hv.2 0 _ _ rfl rfl
    have h0' : VR H μ w (.d (.rows 2 [[.v (.int .i64 1), .v (.int .i64 1)]])) v := h0
    cases h0' with
    | d h => cases h with
      | rows sz rs b off cap vs hne hcap hlen hb hlt hsz hcell hone hval =>
        have a0 := hcell 0 _ 0 _ rfl rfl
        have a1 := hcell 0 _ 1 _ rfl rfl
        have b0 := hval 0 _ 0 _ rfl rfl
        have b1 := hval 0 _ 1 _ rfl rfl
        generalize vs 0 0 = x0 at *
        generalize vs 0 1 = x1 at *
        cases b0 with
        | v => cases b1 with
          | v => exact cons_one b off cap w hlt (by simpa using a0) (by simpa using a1)
def renG : Ren := { f := fun k => if k = 4 then 260 else k, t := fun k => if k = 22 then 46 else if k = 25 then 86 else k, g := fun k => k }
theorem layG : Lays8.n4 Tryz.prog renG where
  mixed := hmix
  f4 := ⟨Tryz.f260.name, by kernel_rfl, by kernel_rfl⟩
  t0 := by kernel_rfl
  a0 := fun w => rfl
  z0 := fun w => rfl
  v0 := fun w => rfl
  t3 := by kernel_rfl
  a3 := fun w => rfl
  z3 := fun w => rfl
  v3 := fun w => rfl
  t4 := by kernel_rfl
  a4 := fun w => rfl
  z4 := fun w => rfl
  v4 := fun w => rfl
  t9 := by kernel_rfl
  a9 := fun w => rfl
  z9 := fun w => rfl
  v9 := fun w => rfl
  t20 := by kernel_rfl
  a20 := fun w => rfl
  z20 := fun w => rfl
  v20 := fun w => rfl
  t22 := by kernel_rfl
  a22 := fun w => rfl
  z22 := fun w => rfl
  v22 := fun w => rfl
theorem inf_ex : ∃ i0, Tryz.prog.info? 86 = some i0 ∧ i0.size = 2 ∧ i0.bytes = 16 ∧ i0.zero = some (.agg #[.int .i64 0, .int .i64 0]) := by
  have h : (Tryz.prog.info? 86).isSome = true := by kernel_rfl
  have h1 : (Tryz.prog.info? 86).map TypeInfo.size = some 2 := by kernel_rfl
  have h2 : (Tryz.prog.info? 86).map TypeInfo.bytes = some 16 := by kernel_rfl
  have h3 : (Tryz.prog.info? 86).map TypeInfo.zero = some (some (.agg #[.int .i64 0, .int .i64 0])) := by kernel_rfl
  obtain ⟨i0, hi⟩ := Option.isSome_iff_exists.1 h
  rw [hi] at h1 h2 h3
  exact ⟨i0, hi, Option.some.inj h1, Option.some.inj h2, Option.some.inj h3⟩
theorem grow_w (n : Nat) (w : World) (n0 : 0 < n) (n1 : n ≤ 1000) : Calls Tryz.prog 260 #[.slice none 0 0, .int .i64 n] w fun e w' =>
    ∃ c cur, e = .returned (.slice (some ⟨w.heap.size, 0, none⟩) 0 c) ∧ w' = w.drew.alloc (.cells cur 86) ∧ cur.size = c * 2 ∧ c ≤ maxLen := by
  obtain ⟨i0, hi, hs, hb, hz⟩ := inf_ex
  have h := Any8.slices_Grow_grow layG i0 _ hi hz (by rw [hs]; decide) none 0 0 n [] w (Nat.le_refl _) (by omega) (by rw [hb]; omega) (by omega) (by simp) (fun _ => rfl) (fun a ha => by cases ha)
  refine h.mono fun e w' ⟨h1, h2⟩ => ⟨_, _, h1, h2, ?_, ?_⟩
  · have hg := grownCap_ge w (0 + n) 0 (renG.t 25)
    generalize grownCap w (0 + n) 0 (renG.t 25) = G at *
    have hc2 : (Value.agg #[.int .i64 0, .int .i64 0]).cells.size = 2 := by rfl
    simp [Builtin.zeroCells]
    rw [hc2]; omega
  · exact grownCap_le_maxLen w (0 + n) 0 (renG.t 25) (by unfold maxLen; omega)
theorem grow_ob (c : Nat) (cur : Array Value) (w : World) (hc : cur.size = c * 2) (hm : c ≤ maxLen) {H : Nat → Prop} {μ : Nat → Option Value} {g : Nat} (hμ : μ g = some (.slice (some ⟨w.heap.size, 0, none⟩) 0 c)) : OR H μ (w.drew.alloc (.cells cur 86)) g (.arr 86 2 []) := by
  refine ⟨_, [], hμ, ⟨rfl, .inr ⟨w.heap.size, c, cur, rfl, Nat.zero_le _, ?_, Nat.zero_le _, hm, hc, by simp⟩⟩, by simp, ?_, by simp⟩
  · exact heap_alloc_new w.drew _
  · exact ⟨rfl, by simp⟩
theorem grow_pm (g n : Nat) (n0 : 0 < n) (n1 : n ≤ 1000) : FnM Tryz.prog 260 [] [.d (.v (.slice none 0 0)), vI n] (.own g) [(g, .arr 86 2 [])] := by
  intro H0 μ w vs hl hI
  have hv := (args_vrs hl hI).eq_vals (us := [.slice none 0 0, .int .i64 n]) rfl
  subst hv
  refine (grow_w n w n0 n1).mono ?_
  rintro e w' ⟨c, cur, rfl, rfl, hc, hm⟩
  have hch : Chg (fun _ => False) w (w.drew.alloc (.cells cur 86)) := ⟨rfl, rfl, rfl, by simp, fun k hk _ => heap_alloc_old w.drew _ hk⟩
  have h2 := hI.new (w2 := w.drew.alloc (.cells cur 86)) (g := g) (o := .arr 86 2 []) (v := .slice (some ⟨w.heap.size, 0, none⟩) 0 c) rfl hch rfl (fun b hb => by obtain rfl := Option.some.inj hb; simp) (fun H' _ _ => grow_ob c cur w hc hm (upμ_self _ _))
  have e : upM (lk []) [(g, AO.arr 86 2 [])] = lk [(g, .arr 86 2 [])] := upM_cons
  rw [e] at h2
  refine ⟨_, _, rfl, fun t x ht => ?_, h2.ob, h2.inj, h2.lo, h2.fr, h2.free, h2.hs, h2.base, rfl, rfl⟩
  simp only [lk] at ht
  split at ht
  · rename_i hb
    have := Nat.eq_of_beq_eq_true hb
    subst this
    obtain rfl := Option.some.inj ht
    exact .own (upμ_self _ _)
  · cases ht
end Go.Proofs.YtdhogcklnehdhaaGreatDoor
/- Reckoned calls: trusts in two of three nodes; the meetings of the script. -/
namespace Go.Proofs.YtdhogcklnehdhaaGreatDoor
set_option linter.unusedSimpArgs false
set_option linter.unusedVariables false
set_option linter.unnecessarySimpa false
set_option linter.unusedSectionVars false
set_option maxRecDepth 100000
open Go Go.RowKit Go.Am Go.Proofs.Grow
def xn (n : Nat) : D := .v (.int .i64 (Int.ofNat n))
def xl : D := .v (.slice none 0 0)
def xT : D := .v (.bool true)
def xF : D := .v (.bool false)
def xv (n : Nat) : AV := .d (xn n)
/-- Two of three. -/
def xTr : AV := .agg [.d (xn 2), .d (.rows 1 [[xn 0], [xn 1], [xn 2]]), .d xl]
/-- A message is sent. -/
def xsd (f t : Nat) : AV := .agg [xv 2, xv f, xv t, xv 0, xv 0, xv 0, .d xl, .d xl, xv 0, xv 0, xv 0, .d xl, .d xl, .d xl, .d xl]
def tS : Tbl := [(110, [([.d xl], (.d xT, [])), ([.d (.rows 2 [])], (.d xT, [])), ([.d (.rows 2 [[xn 1, xn 1]])], (.d xT, []))])]
theorem tS_ok : TblOK Tryz.prog tS := .cons (.cons cons0_m (.cons cons1_m (.cons cons2_m (.nil _ _)))) (.nil _)
noncomputable def ktS (f : FuncId) (xs : List AV) (g : Nat) : Option Res := match Nat.beq f 260 with
  | true => match xs with
    | [.d (.v (.slice none 0 0)), .d (.v (.int .i64 (.ofNat n)))] => match Nat.blt 0 n && Nat.ble n 1000 with
      | true => some (.own g, [(g, .arr 86 2 [])])
      | false => none
    | _ => none
  | false => lkF tS f xs
theorem ktS_ok {f : FuncId} {xs : List AV} {g : Nat} {r : Res} (h : ktS f xs g = some r) : FnM Tryz.prog f [] xs r.1 r.2 := by
  unfold ktS at h
  split at h
  · rename_i hf
    have := Nat.eq_of_beq_eq_true hf; subst this
    split at h
    · rename_i n
      split at h
      · rename_i hb
        rw [Bool.and_eq_true] at hb
        obtain rfl := Option.some.inj h
        exact grow_pm g n (Nat.le_of_ble_eq_true hb.1) (Nat.le_of_ble_eq_true hb.2)
      · cases h
    · cases h
  · exact lkF_spec tS_ok h
noncomputable def ktX (t : Tbl) (f : FuncId) (xs : List AV) (g : Nat) : Option Res := match ktS f xs g with
  | some r => some r
  | none => lkF t f xs
noncomputable def cfX (t : Tbl) : Cfg := { P := Tryz.prog, tt := ttT, fs := fsT.get, kt := ktX t, pol := fun _ => true }
theorem cfX_ok {t : Tbl} (ht : TblOK Tryz.prog t) : CfgOK (cfX t) := ⟨mixT, ttT_ok, ttT_ord, fun f fn h => BT.good_get fsT_good f fn h, fun f xs g res Mo h => by
  have h' : ktX t f xs g = some (res, Mo) := h
  unfold ktX at h'
  split at h'
  · rename_i r hr
    obtain rfl := Option.some.inj h'
    exact ktS_ok hr
  · exact lkF_spec ht h'⟩
theorem e59_0 : okE (runF (cfX []) 60 179 [] [xTr, xv 0] 0) (.d xF, []) = true := by kernel_rfl
theorem e59_1 : okE (runF (cfX []) 60 179 [] [xTr, xv 1] 0) (.d xF, []) = true := by kernel_rfl
theorem e59_2 : okE (runF (cfX []) 60 179 [] [xTr, xv 2] 0) (.d xF, []) = true := by kernel_rfl
theorem e59_3 : okE (runF (cfX []) 60 179 [] [xTr, xv 3] 0) (.d xT, []) = true := by kernel_rfl
theorem e59_4 : okE (runF (cfX []) 60 179 [] [xTr, xv 4] 0) (.d xF, []) = true := by kernel_rfl
theorem e59_5 : okE (runF (cfX []) 60 179 [] [xTr, xv 5] 0) (.d xT, []) = true := by kernel_rfl
theorem e59_6 : okE (runF (cfX []) 60 179 [] [xTr, xv 6] 0) (.d xT, []) = true := by kernel_rfl
theorem e59_7 : okE (runF (cfX []) 60 179 [] [xTr, xv 7] 0) (.d xT, []) = true := by kernel_rfl
theorem e59_1016 : okE (runF (cfX []) 60 179 [] [xTr, xv 1016] 0) (.d xF, []) = true := by kernel_rfl
theorem e59_1017 : okE (runF (cfX []) 60 179 [] [xTr, xv 1017] 0) (.d xF, []) = true := by kernel_rfl
theorem e59_1018 : okE (runF (cfX []) 60 179 [] [xTr, xv 1018] 0) (.d xF, []) = true := by kernel_rfl
theorem e59_1019 : okE (runF (cfX []) 60 179 [] [xTr, xv 1019] 0) (.d xT, []) = true := by kernel_rfl
theorem e59_1020 : okE (runF (cfX []) 60 179 [] [xTr, xv 1020] 0) (.d xF, []) = true := by kernel_rfl
theorem e59_1021 : okE (runF (cfX []) 60 179 [] [xTr, xv 1021] 0) (.d xT, []) = true := by kernel_rfl
theorem e59_1022 : okE (runF (cfX []) 60 179 [] [xTr, xv 1022] 0) (.d xT, []) = true := by kernel_rfl
theorem e59_1023 : okE (runF (cfX []) 60 179 [] [xTr, xv 1023] 0) (.d xT, []) = true := by kernel_rfl
theorem e93 : okE (runF (cfX []) 60 44 [] [xTr] 0) (xv 0, []) = true := by kernel_rfl
theorem e94 : okE (runF (cfX []) 60 147 [] [xTr] 0) (xv 7, []) = true := by kernel_rfl
theorem e193 : okE (runF (cfX []) 60 119 [] [xTr, xTr] 0) (.d xT, []) = true := by kernel_rfl
def t0 : Tbl := [(179, [([xTr, xv 0], (.d xF, [])), ([xTr, xv 1], (.d xF, [])), ([xTr, xv 2], (.d xF, [])), ([xTr, xv 3], (.d xT, [])), ([xTr, xv 4], (.d xF, [])), ([xTr, xv 5], (.d xT, [])), ([xTr, xv 6], (.d xT, [])), ([xTr, xv 7], (.d xT, [])), ([xTr, xv 1016], (.d xF, [])), ([xTr, xv 1017], (.d xF, [])), ([xTr, xv 1018], (.d xF, [])), ([xTr, xv 1019], (.d xT, [])), ([xTr, xv 1020], (.d xF, [])), ([xTr, xv 1021], (.d xT, [])), ([xTr, xv 1022], (.d xT, [])), ([xTr, xv 1023], (.d xT, []))]), (44, [([xTr], (xv 0, []))]), (147, [([xTr], (xv 7, []))]), (119, [([xTr, xTr], (.d xT, []))])]
theorem t0_ok : TblOK Tryz.prog t0 := .cons (.cons (okE_fn (cfX_ok (.nil _)) e59_0) (.cons (okE_fn (cfX_ok (.nil _)) e59_1) (.cons (okE_fn (cfX_ok (.nil _)) e59_2) (.cons (okE_fn (cfX_ok (.nil _)) e59_3) (.cons (okE_fn (cfX_ok (.nil _)) e59_4) (.cons (okE_fn (cfX_ok (.nil _)) e59_5) (.cons (okE_fn (cfX_ok (.nil _)) e59_6) (.cons (okE_fn (cfX_ok (.nil _)) e59_7) (.cons (okE_fn (cfX_ok (.nil _)) e59_1016) (.cons (okE_fn (cfX_ok (.nil _)) e59_1017) (.cons (okE_fn (cfX_ok (.nil _)) e59_1018) (.cons (okE_fn (cfX_ok (.nil _)) e59_1019) (.cons (okE_fn (cfX_ok (.nil _)) e59_1020) (.cons (okE_fn (cfX_ok (.nil _)) e59_1021) (.cons (okE_fn (cfX_ok (.nil _)) e59_1022) (.cons (okE_fn (cfX_ok (.nil _)) e59_1023) (.nil _ _))))))))))))))))) (.cons (.cons (okE_fn (cfX_ok (.nil _)) e93) (.nil _ _)) (.cons (.cons (okE_fn (cfX_ok (.nil _)) e94) (.nil _ _)) (.cons (.cons (okE_fn (cfX_ok (.nil _)) e193) (.nil _ _)) (.nil _))))
def mt0 : AV := .agg [.d (.rows 9 [[xn 0, xn 2, xn 2, .rows 1 [[xn 0], [xn 1], [xn 2]], xl, .rows 2 [[xn 1, xn 1]], xl, xl, xl], [xn 1, xn 1, xn 2, .rows 1 [[xn 0], [xn 1], [xn 2]], xl, xl, xl, xl, xl], [xn 2, xn 2, xn 2, .rows 1 [[xn 0], [xn 1], [xn 2]], xl, .rows 2 [[xn 1, xn 1]], xl, xl, xl]]), .d (xn 0), .d (xn 0)]
def mt1 : AV := .agg [.d (.rows 9 [[xn 0, xn 2, xn 2, .rows 1 [[xn 0], [xn 1], [xn 2]], xl, .rows 2 [[xn 1, xn 1]], xl, xl, xl], [xn 1, xn 1, xn 2, .rows 1 [[xn 0], [xn 1], [xn 2]], xl, xl, xl, xl, .rows 7 [[xn 0, xn 2, xn 2, .rows 1 [[xn 0], [xn 1], [xn 2]], xl, .rows 2 [[xn 1, xn 1]], xl]]], [xn 2, xn 2, xn 2, .rows 1 [[xn 0], [xn 1], [xn 2]], xl, .rows 2 [[xn 1, xn 1]], xl, xl, xl]]), .d (xn 0), .d (xn 0)]
def mt2 : AV := .agg [.d (.rows 9 [[xn 0, xn 2, xn 2, .rows 1 [[xn 0], [xn 1], [xn 2]], xl, .rows 2 [[xn 1, xn 1]], xl, xl, xl], [xn 1, xn 1, xn 2, .rows 1 [[xn 0], [xn 1], [xn 2]], xl, xl, xl, xl, .rows 7 [[xn 0, xn 2, xn 2, .rows 1 [[xn 0], [xn 1], [xn 2]], xl, .rows 2 [[xn 1, xn 1]], xl]]], [xn 2, xn 3, xn 2, .rows 1 [[xn 0], [xn 1], [xn 2]], xl, .rows 2 [[xn 1, xn 1]], .rows 2 [[xn 1, xn 1]], xl, .rows 7 [[xn 0, xn 2, xn 2, .rows 1 [[xn 0], [xn 1], [xn 2]], xl, .rows 2 [[xn 1, xn 1]], xl]]]]), .d (xn 0), .d (xn 0)]
def mt3 : AV := .agg [.d (.rows 9 [[xn 0, xn 2, xn 2, .rows 1 [[xn 0], [xn 1], [xn 2]], xl, .rows 2 [[xn 1, xn 1]], xl, xl, .rows 7 [[xn 1, xn 1, xn 2, .rows 1 [[xn 0], [xn 1], [xn 2]], xl, xl, xl]]], [xn 1, xn 1, xn 2, .rows 1 [[xn 0], [xn 1], [xn 2]], xl, xl, xl, xl, .rows 7 [[xn 0, xn 2, xn 2, .rows 1 [[xn 0], [xn 1], [xn 2]], xl, .rows 2 [[xn 1, xn 1]], xl]]], [xn 2, xn 3, xn 2, .rows 1 [[xn 0], [xn 1], [xn 2]], xl, .rows 2 [[xn 1, xn 1]], .rows 2 [[xn 1, xn 1]], xl, .rows 7 [[xn 0, xn 2, xn 2, .rows 1 [[xn 0], [xn 1], [xn 2]], xl, .rows 2 [[xn 1, xn 1]], xl]]]]), .d (xn 0), .d (xn 0)]
def mt4 : AV := .agg [.d (.rows 9 [[xn 0, xn 2, xn 2, .rows 1 [[xn 0], [xn 1], [xn 2]], xl, .rows 2 [[xn 1, xn 1]], xl, xl, .rows 7 [[xn 1, xn 1, xn 2, .rows 1 [[xn 0], [xn 1], [xn 2]], xl, xl, xl]]], [xn 1, xn 1, xn 2, .rows 1 [[xn 0], [xn 1], [xn 2]], xl, xl, xl, xl, .rows 7 [[xn 0, xn 2, xn 2, .rows 1 [[xn 0], [xn 1], [xn 2]], xl, .rows 2 [[xn 1, xn 1]], xl]]], [xn 2, xn 3, xn 2, .rows 1 [[xn 0], [xn 1], [xn 2]], xl, .rows 2 [[xn 1, xn 1]], .rows 2 [[xn 1, xn 1]], xl, .rows 7 [[xn 0, xn 2, xn 2, .rows 1 [[xn 0], [xn 1], [xn 2]], xl, .rows 2 [[xn 1, xn 1]], xl], [xn 1, xn 1, xn 2, .rows 1 [[xn 0], [xn 1], [xn 2]], xl, xl, xl]]]]), .d (xn 0), .d (xn 0)]
def mt5 : AV := .agg [.d (.rows 9 [[xn 0, xn 3, xn 2, .rows 1 [[xn 0], [xn 1], [xn 2]], xl, .rows 2 [[xn 1, xn 1]], .rows 2 [[xn 1, xn 1]], .rows 2 [[xn 1, xn 1]], .rows 7 [[xn 1, xn 1, xn 2, .rows 1 [[xn 0], [xn 1], [xn 2]], xl, xl, xl], [xn 2, xn 3, xn 2, .rows 1 [[xn 0], [xn 1], [xn 2]], xl, .rows 2 [[xn 1, xn 1]], .rows 2 [[xn 1, xn 1]]]]], [xn 1, xn 1, xn 2, .rows 1 [[xn 0], [xn 1], [xn 2]], xl, xl, xl, xl, .rows 7 [[xn 0, xn 2, xn 2, .rows 1 [[xn 0], [xn 1], [xn 2]], xl, .rows 2 [[xn 1, xn 1]], xl]]], [xn 2, xn 3, xn 2, .rows 1 [[xn 0], [xn 1], [xn 2]], xl, .rows 2 [[xn 1, xn 1]], .rows 2 [[xn 1, xn 1]], xl, .rows 7 [[xn 0, xn 2, xn 2, .rows 1 [[xn 0], [xn 1], [xn 2]], xl, .rows 2 [[xn 1, xn 1]], xl], [xn 1, xn 1, xn 2, .rows 1 [[xn 0], [xn 1], [xn 2]], xl, xl, xl]]]]), .d (xn 0), .d (xn 0)]
def mt6 : AV := .agg [.d (.rows 9 [[xn 0, xn 3, xn 2, .rows 1 [[xn 0], [xn 1], [xn 2]], xl, .rows 2 [[xn 1, xn 1]], .rows 2 [[xn 1, xn 1]], .rows 2 [[xn 1, xn 1]], .rows 7 [[xn 1, xn 1, xn 2, .rows 1 [[xn 0], [xn 1], [xn 2]], xl, xl, xl], [xn 2, xn 3, xn 2, .rows 1 [[xn 0], [xn 1], [xn 2]], xl, .rows 2 [[xn 1, xn 1]], .rows 2 [[xn 1, xn 1]]]]], [xn 1, xn 1, xn 2, .rows 1 [[xn 0], [xn 1], [xn 2]], xl, xl, xl, xl, .rows 7 [[xn 0, xn 2, xn 2, .rows 1 [[xn 0], [xn 1], [xn 2]], xl, .rows 2 [[xn 1, xn 1]], xl], [xn 2, xn 3, xn 2, .rows 1 [[xn 0], [xn 1], [xn 2]], xl, .rows 2 [[xn 1, xn 1]], .rows 2 [[xn 1, xn 1]]]]], [xn 2, xn 3, xn 2, .rows 1 [[xn 0], [xn 1], [xn 2]], xl, .rows 2 [[xn 1, xn 1]], .rows 2 [[xn 1, xn 1]], xl, .rows 7 [[xn 0, xn 2, xn 2, .rows 1 [[xn 0], [xn 1], [xn 2]], xl, .rows 2 [[xn 1, xn 1]], xl], [xn 1, xn 1, xn 2, .rows 1 [[xn 0], [xn 1], [xn 2]], xl, xl, xl]]]]), .d (xn 0), .d (xn 0)]
def mt7 : AV := .agg [.d (.rows 9 [[xn 0, xn 3, xn 2, .rows 1 [[xn 0], [xn 1], [xn 2]], xl, .rows 2 [[xn 1, xn 1]], .rows 2 [[xn 1, xn 1]], .rows 2 [[xn 1, xn 1]], .rows 7 [[xn 1, xn 1, xn 2, .rows 1 [[xn 0], [xn 1], [xn 2]], xl, xl, xl], [xn 2, xn 3, xn 2, .rows 1 [[xn 0], [xn 1], [xn 2]], xl, .rows 2 [[xn 1, xn 1]], .rows 2 [[xn 1, xn 1]]]]], [xn 1, xn 2, xn 2, .rows 1 [[xn 0], [xn 1], [xn 2]], xl, xl, .rows 2 [[xn 1, xn 1]], .rows 2 [[xn 1, xn 1]], .rows 7 [[xn 0, xn 3, xn 2, .rows 1 [[xn 0], [xn 1], [xn 2]], xl, .rows 2 [[xn 1, xn 1]], .rows 2 [[xn 1, xn 1]]], [xn 2, xn 3, xn 2, .rows 1 [[xn 0], [xn 1], [xn 2]], xl, .rows 2 [[xn 1, xn 1]], .rows 2 [[xn 1, xn 1]]]]], [xn 2, xn 3, xn 2, .rows 1 [[xn 0], [xn 1], [xn 2]], xl, .rows 2 [[xn 1, xn 1]], .rows 2 [[xn 1, xn 1]], xl, .rows 7 [[xn 0, xn 2, xn 2, .rows 1 [[xn 0], [xn 1], [xn 2]], xl, .rows 2 [[xn 1, xn 1]], xl], [xn 1, xn 1, xn 2, .rows 1 [[xn 0], [xn 1], [xn 2]], xl, xl, xl]]]]), .d (xn 0), .d (xn 0)]
def mt8 : AV := .agg [.d (.rows 9 [[xn 0, xn 3, xn 2, .rows 1 [[xn 0], [xn 1], [xn 2]], xl, .rows 2 [[xn 1, xn 1]], .rows 2 [[xn 1, xn 1]], .rows 2 [[xn 1, xn 1]], .rows 7 [[xn 1, xn 1, xn 2, .rows 1 [[xn 0], [xn 1], [xn 2]], xl, xl, xl], [xn 2, xn 3, xn 2, .rows 1 [[xn 0], [xn 1], [xn 2]], xl, .rows 2 [[xn 1, xn 1]], .rows 2 [[xn 1, xn 1]]]]], [xn 1, xn 2, xn 2, .rows 1 [[xn 0], [xn 1], [xn 2]], xl, xl, .rows 2 [[xn 1, xn 1]], .rows 2 [[xn 1, xn 1]], .rows 7 [[xn 0, xn 3, xn 2, .rows 1 [[xn 0], [xn 1], [xn 2]], xl, .rows 2 [[xn 1, xn 1]], .rows 2 [[xn 1, xn 1]]], [xn 2, xn 3, xn 2, .rows 1 [[xn 0], [xn 1], [xn 2]], xl, .rows 2 [[xn 1, xn 1]], .rows 2 [[xn 1, xn 1]]]]], [xn 2, xn 3, xn 2, .rows 1 [[xn 0], [xn 1], [xn 2]], xl, .rows 2 [[xn 1, xn 1]], .rows 2 [[xn 1, xn 1]], .rows 2 [[xn 1, xn 1]], .rows 7 [[xn 0, xn 3, xn 2, .rows 1 [[xn 0], [xn 1], [xn 2]], xl, .rows 2 [[xn 1, xn 1]], .rows 2 [[xn 1, xn 1]]], [xn 1, xn 1, xn 2, .rows 1 [[xn 0], [xn 1], [xn 2]], xl, xl, xl]]]]), .d (xn 0), .d (xn 0)]
def mt9 : AV := .agg [.d (.rows 9 [[xn 0, xn 3, xn 2, .rows 1 [[xn 0], [xn 1], [xn 2]], xl, .rows 2 [[xn 1, xn 1]], .rows 2 [[xn 1, xn 1]], .rows 2 [[xn 1, xn 1]], .rows 7 [[xn 1, xn 2, xn 2, .rows 1 [[xn 0], [xn 1], [xn 2]], xl, xl, .rows 2 [[xn 1, xn 1]]], [xn 2, xn 3, xn 2, .rows 1 [[xn 0], [xn 1], [xn 2]], xl, .rows 2 [[xn 1, xn 1]], .rows 2 [[xn 1, xn 1]]]]], [xn 1, xn 2, xn 2, .rows 1 [[xn 0], [xn 1], [xn 2]], xl, xl, .rows 2 [[xn 1, xn 1]], .rows 2 [[xn 1, xn 1]], .rows 7 [[xn 0, xn 3, xn 2, .rows 1 [[xn 0], [xn 1], [xn 2]], xl, .rows 2 [[xn 1, xn 1]], .rows 2 [[xn 1, xn 1]]], [xn 2, xn 3, xn 2, .rows 1 [[xn 0], [xn 1], [xn 2]], xl, .rows 2 [[xn 1, xn 1]], .rows 2 [[xn 1, xn 1]]]]], [xn 2, xn 3, xn 2, .rows 1 [[xn 0], [xn 1], [xn 2]], xl, .rows 2 [[xn 1, xn 1]], .rows 2 [[xn 1, xn 1]], .rows 2 [[xn 1, xn 1]], .rows 7 [[xn 0, xn 3, xn 2, .rows 1 [[xn 0], [xn 1], [xn 2]], xl, .rows 2 [[xn 1, xn 1]], .rows 2 [[xn 1, xn 1]]], [xn 1, xn 1, xn 2, .rows 1 [[xn 0], [xn 1], [xn 2]], xl, xl, xl]]]]), .d (xn 0), .d (xn 0)]
def mt10 : AV := .agg [.d (.rows 9 [[xn 0, xn 3, xn 2, .rows 1 [[xn 0], [xn 1], [xn 2]], xl, .rows 2 [[xn 1, xn 1]], .rows 2 [[xn 1, xn 1]], .rows 2 [[xn 1, xn 1]], .rows 7 [[xn 1, xn 2, xn 2, .rows 1 [[xn 0], [xn 1], [xn 2]], xl, xl, .rows 2 [[xn 1, xn 1]]], [xn 2, xn 3, xn 2, .rows 1 [[xn 0], [xn 1], [xn 2]], xl, .rows 2 [[xn 1, xn 1]], .rows 2 [[xn 1, xn 1]]]]], [xn 1, xn 2, xn 2, .rows 1 [[xn 0], [xn 1], [xn 2]], xl, xl, .rows 2 [[xn 1, xn 1]], .rows 2 [[xn 1, xn 1]], .rows 7 [[xn 0, xn 3, xn 2, .rows 1 [[xn 0], [xn 1], [xn 2]], xl, .rows 2 [[xn 1, xn 1]], .rows 2 [[xn 1, xn 1]]], [xn 2, xn 3, xn 2, .rows 1 [[xn 0], [xn 1], [xn 2]], xl, .rows 2 [[xn 1, xn 1]], .rows 2 [[xn 1, xn 1]]]]], [xn 2, xn 3, xn 2, .rows 1 [[xn 0], [xn 1], [xn 2]], xl, .rows 2 [[xn 1, xn 1]], .rows 2 [[xn 1, xn 1]], .rows 2 [[xn 1, xn 1]], .rows 7 [[xn 0, xn 3, xn 2, .rows 1 [[xn 0], [xn 1], [xn 2]], xl, .rows 2 [[xn 1, xn 1]], .rows 2 [[xn 1, xn 1]]], [xn 1, xn 2, xn 2, .rows 1 [[xn 0], [xn 1], [xn 2]], xl, xl, .rows 2 [[xn 1, xn 1]]]]]]), .d (xn 0), .d (xn 0)]
end Go.Proofs.YtdhogcklnehdhaaGreatDoor
namespace Go.Proofs.YtdhogcklnehdhaaGreatDoor
set_option linter.unusedSimpArgs false
set_option linter.unusedVariables false
set_option linter.unnecessarySimpa false
set_option linter.unusedSectionVars false
set_option maxRecDepth 100000
open Go Go.RowKit Go.Am Go.Proofs.Grow Go.Shelf Go.Maps
/-- What the map holds behind the first k claims. -/
structure InvD (l : List Cl) (k : Nat) (D : DataW Unit) : Prop where
  map : IsMap D
  has : ∀ t : Int, Maps.has D (.int .i64 t) = true → ∃ j, j < k ∧ (nth l j).1 = t
  at' : ∀ j, j < k → Maps.has D (.int .i64 (nth l j).1) = true ∧ D.atKey (.int .i64 (nth l j).1) (.lit (.int .i64 0)) = .lit (.int .i64 (nth l j).2)
theorem InvD.step {l : List Cl} {k : Nat} {D : DataW Unit} (h : InvD l k D) (hs : Maps.has D (.int .i64 (nth l k).1) = true → D.atKey (.int .i64 (nth l k).1) (.lit (.int .i64 0)) = .lit (.int .i64 (nth l k).2)) :
    InvD l (k + 1) (D.put (.int .i64 (nth l k).1) (.lit (.int .i64 (nth l k).2))) := by
  refine ⟨h.map.put _ _, fun t ht => ?_, fun j hj => ?_⟩
  · rcases Classical.em (t = (nth l k).1) with e | e
    · exact ⟨k, by omega, e.symm⟩
    · rw [has_put_other (by simpa using e)] at ht
      obtain ⟨j, h1, h2⟩ := h.has t ht
      exact ⟨j, by omega, h2⟩
  · rcases Classical.em ((nth l j).1 = (nth l k).1) with e | e
    · rw [e, has_put_same h.map (k := .int .i64 (nth l k).1) trivial, atKey_put_same h.map (k := .int .i64 (nth l k).1) trivial]
      refine ⟨rfl, ?_⟩
      rcases Nat.lt_or_ge j k with hjk | hjk
      · obtain ⟨a1, a2⟩ := h.at' j hjk
        rw [e] at a1 a2
        exact (hs a1).symm.trans a2
      · obtain rfl : j = k := by omega
        rfl
    · have hjk : j < k := by
        rcases Nat.lt_or_ge j k with hjk | hjk
        · exact hjk
        · obtain rfl : j = k := by omega
          exact absurd rfl e
      rw [has_put_other (by simpa using e), atKey_put_other (by simpa using e)]
      exact h.at' j hjk
theorem InvD.end' {l : List Cl} {D : DataW Unit} (h : InvD l l.length D) : consC l = true := by
  rw [cons_iff]
  intro x hx y hy
  obtain ⟨i, hi, rfl⟩ := List.getElem_of_mem hx
  obtain ⟨j, hj, rfl⟩ := List.getElem_of_mem hy
  rw [← nth_getElem l i hi, ← nth_getElem l j hj]
  have a := h.at' i hi
  have b := h.at' j hj
  cases e : ctrC (nth l i) (nth l j)
  · rfl
  · simp only [ctrC, Bool.and_eq_true, decide_eq_true_eq] at e
    rw [e.1] at a
    have := a.2.symm.trans b.2
    simp at this
    exact absurd this e.2
set_option maxRecDepth 100000 in
set_option maxHeartbeats 4000000 in
theorem cons_any (l : List Cl) (hl : l.length ≤ 4000) (ho : ∀ x ∈ l, okC x = true) (b off cap : Nat) (w : World) (hb : b < w.heap.size)
    (hc : ∀ j, j < l.length → w.cell? ⟨b, off + j * 2, none⟩ = some (.int .i64 (nth l j).1) ∧ w.cell? ⟨b, off + j * 2 + 1, none⟩ = some (.int .i64 (nth l j).2)) :
    Calls Tryz.prog 110 #[.slice (some ⟨b, off, none⟩) l.length cap] w fun e w' => e = .returned (.bool (consC l)) ∧ Below w.heap.size w w' := by
  have hmm := @run_makeMap Tryz.prog
  go_enter Tryz.func110, Tryz.ntmps110
  go_wp2
  go_loopw [11] (fun i wr => ∃ k : Nat, k ≤ l.length ∧ i = .int .i64 k ∧ ∃ D : DataW Unit, wr.ownsMap Tryz.prog 3 (plainElem Tryz.prog 3) w.heap.size k D ∧ Below w.heap.size w wr ∧ Hid (InvD l k D))
    (fun i _ => l.length - (intOf i).toNat)
  case atStart => exact ⟨0, Nat.zero_le _, rfl, _, World.ownsMap_made _ _ _ _, (Below.refl _ _).alloc (Nat.le_refl _) _, Lib.hid ⟨isMap_empty, fun t ht => (by cases ht), fun j hj => (by omega)⟩⟩
  case round =>
    obtain ⟨k, hk, rfl, D, hown, hnx, hI⟩ := hrel
    rcases Nat.lt_or_ge k l.length with hlt | hge
    · have h0 : wr.cell? ⟨b, off + k * 2, none⟩ = some (.int .i64 (nth l k).1) := (hnx.cell (by exact hb)).trans (hc k hlt).1
      have h1 : wr.cell? ⟨b, off + k * 2 + 1, none⟩ = some (.int .i64 (nth l k).2) := (hnx.cell (by exact hb)).trans (hc k hlt).2
      have hok := ho _ (nth_mem l k hlt)
      simp only [okC, Bool.and_eq_true, decide_eq_true_eq] at hok
      have m1 : IntKind.i64.min = -9223372036854775808 := by decide
      have m2 : IntKind.i64.max = 9223372036854775807 := by decide
      have hw1 : (Lit.int .i64 (nth l k).1).wf = true := by simp [Lit.wf, m1, m2]; omega
      have hw2 : (Lit.int .i64 (nth l k).2).wf = true := by simp [Lit.wf, m1, m2]; omega
      have hkey : keyOf Tryz.prog 3 (.int .i64 (nth l k).1) = some (.int .i64 (nth l k).1) := keyOf_int_mk Tryz.underlying3 hw1
      have hsz := hnx.size
      have d1 : decide ((k : Int) < (l.length : Int)) = true := by simp; omega
      cases hh : Maps.has D (.int .i64 (nth l k).1) with
      | false =>
        have hI2 := Lib.hid (hI.out.step (fun e => by rw [hh] at e; cases e))
        clear hI
        go_wp2_with (first
          | (at_lookup; refine wpList_lookup_own_ok_int _ rfl _ _ 185 rfl 3 3 .i64 kint Tryz.underlying185 Tryz.underlying3 (zint _) w.heap.size k _ rfl (hown.alloc _) _ _ rfl hkey ?_; intro c hat hwc)
          | (at_mapUpdate; refine wpList_mapUpdate_own _ rfl _ _ _ 185 rfl 3 3 kint Tryz.underlying185 _ w.heap.size k _ rfl (hown.alloc _) (by unfold maxLen; omega) _ _ _ rfl rfl hkey _ [] (plainElem_int Tryz.underlying3 hw2) ?_; intro w1 hown1 hgrow1)
          | go_in)
        go_roundw
        case rel => exact ⟨k + 1, by omega, by go_num, _, hown1, (hnx.alloc (by omega) _).grown hgrow1 (by simp; omega) (fun j hj => by cases hj; exact Nat.le_refl _), hI2⟩
        case measure => simp [intOf]; omega
      | true =>
        obtain ⟨j, hj, hjt⟩ := hI.out.has _ hh
        have hat0 := (hI.out.at' j hj).2
        rw [hjt] at hat0
        cases hne : ((nth l j).2 != (nth l k).2) with
        | true =>
          have hcf : consC l = false := by
            cases e : consC l
            · rfl
            · have := cons_iff.1 e _ (nth_mem l j (by omega)) _ (nth_mem l k hlt)
              simp only [ctrC, Bool.and_eq_false_iff, decide_eq_false_iff_not] at this
              simp at hne
              exact absurd this (by simp [hjt, hne])
          clear hI
          go_wp2_with (first
            | (at_lookup; refine wpList_lookup_own_ok_int _ rfl _ _ 185 rfl 3 3 .i64 kint Tryz.underlying185 Tryz.underlying3 (zint _) w.heap.size k _ rfl (hown.alloc _) _ _ rfl hkey ?_; intro c hat hwc; rw [hh]; obtain rfl : (nth l j).2 = c := by have := hat0.symm.trans hat; simpa using this)
            | go_in)
          go_ret
          exact ⟨by rw [hcf]; rfl, hnx.alloc (by omega) _⟩
        | false =>
          have hI2 := Lib.hid (hI.out.step (fun _ => by simp at hne; rw [← hne]; exact hat0))
          clear hI
          go_wp2_with (first
            | (at_lookup; refine wpList_lookup_own_ok_int _ rfl _ _ 185 rfl 3 3 .i64 kint Tryz.underlying185 Tryz.underlying3 (zint _) w.heap.size k _ rfl (hown.alloc _) _ _ rfl hkey ?_; intro c hat hwc; rw [hh]; obtain rfl : (nth l j).2 = c := by have := hat0.symm.trans hat; simpa using this)
            | (at_mapUpdate; refine wpList_mapUpdate_own _ rfl _ _ _ 185 rfl 3 3 kint Tryz.underlying185 _ w.heap.size k _ rfl (hown.alloc _) (by unfold maxLen; omega) _ _ _ rfl rfl hkey _ [] (plainElem_int Tryz.underlying3 hw2) ?_; intro w1 hown1 hgrow1)
            | go_in)
          go_roundw
          case rel => exact ⟨k + 1, by omega, by go_num, _, hown1, (hnx.alloc (by omega) _).grown hgrow1 (by simp; omega) (fun j hj => by cases hj; exact Nat.le_refl _), hI2⟩
          case measure => simp [intOf]; omega
    · have he : consC l = true := by
        obtain rfl : k = l.length := by omega
        exact hI.out.end'
      have d1 : decide ((k : Int) < (l.length : Int)) = false := by simp; omega
      go_wp2
      go_ret
      exact ⟨by rw [he]; rfl, hnx⟩
theorem vd_v' {H : Nat → Prop} {w : World} {c x : Value} (h : VD H w (D.v c) x) : x = c := by
  cases h; rfl
theorem consC_m (l : List Cl) (hl : l.length ≤ 4000) (ho : ∀ x ∈ l, okC x = true) : FnM Tryz.prog 110 [] [lC l] (vB (consC l)) [] := fnm_pure fun H μ w vs hv => by
  match vs, hv.1 with
  | [v], _ =>
    have h0 := hv.2 0 _ _ rfl rfl
    have h0' : VR H μ w (.d (.rows 2 (l.map rC))) v := h0
    cases h0' with
    | d h =>
      generalize hR : l.map rC = R at h
      cases h with
      | nil sz a cap hc =>
        have hl0 : l = [] := by simpa using hR
        subst hl0
        exact cons_none a cap w
      | rows sz rs b off cap vs hne hcap hlen hb hlt hsz hcell hone hval =>
        subst hR
        rw [List.length_map]
        refine cons_any l hl ho b off cap w hlt fun j hj => ?_
        have hr : (l.map rC)[j]? = some (rC (nth l j)) := by rw [List.getElem?_map, List.getElem?_eq_getElem hj, nth_getElem l j hj]; rfl
        have a0 := hcell j _ 0 _ hr rfl
        have a1 := hcell j _ 1 _ hr rfl
        have b0 := hval j _ 0 _ hr rfl
        have b1 := hval j _ 1 _ hr rfl
        rw [vd_v' b0] at a0
        rw [vd_v' b1] at a1
        exact ⟨a0, a1⟩
end Go.Proofs.YtdhogcklnehdhaaGreatDoor
namespace Go.Proofs.YtdhogcklnehdhaaGreatDoor
set_option linter.unusedSimpArgs false
set_option linter.unusedVariables false
set_option linter.unnecessarySimpa false
set_option linter.unusedSectionVars false
set_option maxRecDepth 100000
open Go Go.RowKit Go.Am Go.Proofs.Grow
abbrev rCs (l : List Cl) : List D := [.rows 2 (l.map rC)]
theorem growCZ_w (w : World) : Calls Tryz.prog 260 #[.slice none 0 0, .int .i64 0] w fun e w' => e = .returned (.slice none 0 0) ∧ w = w' := by
  go_enter Tryz.func260, Tryz.ntmps260
  go_wp2
  go_ret
  exact ⟨rfl, rfl⟩
theorem growCZ_m : FnM Tryz.prog 260 [] [.d (.v (.slice none 0 0)), vI 0] (.d (.v (.slice none 0 0))) [] := FnM.wrap' rfl rfl fun w => growCZ_w w
def preC (a b : List Cl) : Nat → List (List D)
  | 0 => []
  | 1 => a.map rC
  | _ => (a ++ b).map rC
def szC (a b : List Cl) : Nat → Int
  | 0 => 0
  | 1 => (a.length : Int)
  | _ => (a.length : Int) + (b.length : Int)
set_option maxHeartbeats 2000000 in
theorem concC_m (a b : List Cl) (hl : a.length ≤ 400 ∧ b.length ≤ 400) : FnM Tryz.prog 234 [] [.d (.rows 1 ([a, b].map rCs))] (.own 8) [(8, .arr 86 2 ((a ++ b).map rC))] := by
  refine FnM.of htb Tryz.func234 rfl rfl rfl rfl rfl fun cx hN h0 => ?_
  have hn3 : [a, b].length = 2 := rfl
  have n0 : (nth [a, b] 0).length = a.length := rfl
  have n1 : (nth [a, b] 1).length = b.length := rfl
  have pl0 : (preC a b 0).length = 0 := rfl
  have pl1 : (preC a b 1).length = a.length := by simp [preC]
  have z01 : szC a b (0 + 1) = (a.length : Int) := rfl
  have z12 : szC a b (1 + 1) = (a.length : Int) + (b.length : Int) := rfl
  have z0 : szC a b 0 = 0 := rfl
  have z1 : szC a b 1 = (a.length : Int) := rfl
  have z2 : szC a b 2 = (a.length : Int) + (b.length : Int) := rfl
  (repeat' (first | ((with_reducible apply WD_id); first | (refine WD_sum ?_) | (refine WD_nxt htb (by exact rfl) ?_) | (refine WD_idx htb ?_) | (refine WD_ap htb ?_)) | (refine ct ?_) | (with_reducible apply WA_block)))
  (refine WA_forV (2) [11, 3] [] (fun k => [(11, vI k), (3, vI (szC a b k))]) (fun k => []) (fun k => True) ?h0 ?_)
  case h0 => trivial
  intro k hk _
  obtain rfl | rfl | rfl : k = 0 ∨ k = 1 ∨ k = 2 := by omega
  · have t1 : decide (((0 : Nat) : Int) < 2) = true := by decide
    have t2 : decide (szC a b 0 + ((nth [a, b] 0).length : Int) < 0) = false := by simp only [decide_eq_false_iff_not]; omega
    (repeat' (first | ((with_reducible apply WD_id); first | (refine WD_sum ?_) | (refine WD_nxt htb (by exact rfl) ?_) | (refine WD_idx htb ?_) | (refine WD_ap htb ?_)) | (refine ct ?_) | (with_reducible apply WA_block)))
    refine ⟨by omega, trivial, ?_⟩
    (exact LeV [])
  · have t1 : decide (((1 : Nat) : Int) < 2) = true := by decide
    have t2 : decide (szC a b 1 + ((nth [a, b] 1).length : Int) < 0) = false := by simp only [decide_eq_false_iff_not]; omega
    (repeat' (first | ((with_reducible apply WD_id); first | (refine WD_sum ?_) | (refine WD_nxt htb (by exact rfl) ?_) | (refine WD_idx htb ?_) | (refine WD_ap htb ?_)) | (refine ct ?_) | (with_reducible apply WA_block)))
    refine ⟨by omega, trivial, ?_⟩
    (exact LeV [])
  · have t1 : decide (((2 : Nat) : Int) < 2) = false := by decide
    rcases Nat.lt_or_ge 0 (a.length + b.length) with h0' | h0'
    · have grwCN_m := grow_pm 24 (a.length + b.length) h0' (by omega)
      rw [show (((a.length + b.length : Nat) : Int)) = szC a b 2 by rw [z2]; omega] at grwCN_m
      (repeat' (first | ((with_reducible apply WD_id); first | (refine WD_sum ?_) | (refine WD_nxt htb (by exact rfl) ?_) | (refine WD_call (by exact rfl) ?_; first | (refine WD_cM (grwCN_m) ?_)) | (refine WD_idx htb ?_) | (refine WD_ap htb ?_)) | (refine ct ?_) | (with_reducible apply WA_block)))
      (refine WA_forV (2) [27, 6, 24] [24] (fun k => [(27, vI k), (6, .own 24)]) (fun k => [(24, .arr 86 2 (preC a b k))]) (fun k => True) ?h0 ?_)
      case h0 => trivial
      intro k hk2 _
      obtain rfl | rfl | rfl : k = 0 ∨ k = 1 ∨ k = 2 := by omega
      · have t3 : decide (((0 : Nat) : Int) < 2) = true := by decide
        (repeat' (first | ((with_reducible apply WD_id); first | (refine WD_sum ?_) | (refine WD_nxt htb (by exact rfl) ?_) | (refine WD_idx htb ?_) | (refine WD_ap htb ?_)) | (refine ct ?_) | (with_reducible apply WA_block)))
        refine ⟨by omega, trivial, ?_⟩
        (exact LeV [(24, 33)])
      · have t3 : decide (((1 : Nat) : Int) < 2) = true := by decide
        (repeat' (first | ((with_reducible apply WD_id); first | (refine WD_sum ?_) | (refine WD_nxt htb (by exact rfl) ?_) | (refine WD_idx htb ?_) | (refine WD_ap htb ?_)) | (refine ct ?_) | (with_reducible apply WA_block)))
        refine ⟨by omega, trivial, ?_⟩
        rw [show preC a b (1 + 1) = a.map rC ++ b.map rC from List.map_append]
        (exact LeV [(24, 33)])
      · (repeat' (first | ((with_reducible apply WD_id); first | (refine WD_sum ?_) | (refine WD_nxt htb (by exact rfl) ?_) | (refine WD_idx htb ?_) | (refine WD_ap htb ?_)) | (refine ct ?_) | (with_reducible apply WA_block)))
        refine gL (.inr rfl) (T' := [(2, .own 8)]) (M' := [(8, .arr 86 2 ((a ++ b).map rC))]) ?_ rfl rfl ⟨rfl, trivial⟩
        (exact LeV [(8, 24)])
    · have grwCZ_m := growCZ_m
      rw [show (0 : Int) = szC a b 2 by rw [z2]; omega] at grwCZ_m
      (repeat' (first | ((with_reducible apply WD_id); first | (refine WD_sum ?_) | (refine WD_nxt htb (by exact rfl) ?_) | (refine WD_call (by exact rfl) ?_; first | (refine WD_c0 (grwCZ_m) ?_)) | (refine WD_idx htb ?_) | (refine WD_ap htb ?_)) | (refine ct ?_) | (with_reducible apply WA_block)))
      refine WA_le (Le_nilT 24 6 86 2 rfl rfl) ?_
      (refine WA_forV (2) [27, 6, 24] [24] (fun k => [(27, vI k), (6, .own 24)]) (fun k => [(24, .arr 86 2 (preC a b k))]) (fun k => True) ?h0 ?_)
      case h0 => trivial
      intro k hk2 _
      obtain rfl | rfl | rfl : k = 0 ∨ k = 1 ∨ k = 2 := by omega
      · have t3 : decide (((0 : Nat) : Int) < 2) = true := by decide
        (repeat' (first | ((with_reducible apply WD_id); first | (refine WD_sum ?_) | (refine WD_nxt htb (by exact rfl) ?_) | (refine WD_idx htb ?_) | (refine WD_ap htb ?_)) | (refine ct ?_) | (with_reducible apply WA_block)))
        refine ⟨by omega, trivial, ?_⟩
        (exact LeV [(24, 33)])
      · have t3 : decide (((1 : Nat) : Int) < 2) = true := by decide
        (repeat' (first | ((with_reducible apply WD_id); first | (refine WD_sum ?_) | (refine WD_nxt htb (by exact rfl) ?_) | (refine WD_idx htb ?_) | (refine WD_ap htb ?_)) | (refine ct ?_) | (with_reducible apply WA_block)))
        refine ⟨by omega, trivial, ?_⟩
        rw [show preC a b (1 + 1) = a.map rC ++ b.map rC from List.map_append]
        (exact LeV [(24, 33)])
      · (repeat' (first | ((with_reducible apply WD_id); first | (refine WD_sum ?_) | (refine WD_nxt htb (by exact rfl) ?_) | (refine WD_idx htb ?_) | (refine WD_ap htb ?_)) | (refine ct ?_) | (with_reducible apply WA_block)))
        refine gL (.inr rfl) (T' := [(2, .own 8)]) (M' := [(8, .arr 86 2 ((a ++ b).map rC))]) ?_ rfl rfl ⟨rfl, trivial⟩
        (exact LeV [(8, 24)])
theorem cloC_m (l : List Cl) (hl : l.length ≤ 4000) : FnM Tryz.prog 91 [] [lC l] (lC l) [] := by
  cases l with
  | nil =>
    refine FnM.nil_cases 0 rfl ?_ fun ad cap => ?_
    all_goals
      refine FnM.of htb Tryz.func91 rfl rfl rfl rfl rfl fun cx hN h0 => ?_
      (repeat' (first | ((with_reducible apply WD_id); first | (refine WD_nxt htb (by exact rfl) ?_) | (refine WD_ap htb ?_) | (refine WD_nil htb ?_) | (refine WD_nilr htb ?_)) | (refine ct ?_) | (with_reducible apply WA_block)))
      (exact glV [(2, lC [])] [] (LeV []))
  | cons x r =>
    refine FnM.of htb Tryz.func91 rfl rfl rfl rfl rfl fun cx hN h0 => ?_
    (repeat' (first | ((with_reducible apply WD_id); first | (refine WD_nxt htb (by exact rfl) ?_) | (refine WD_ap htb ?_) | (refine WD_nil htb ?_) | (refine WD_nilr htb ?_)) | (refine ct ?_) | (with_reducible apply WA_block)))
    (exact glV [(2, lC (x :: r))] [] (LeV []))
theorem cloCO_m (l : List Cl) (hl : l.length ≤ 4000) : FnM Tryz.prog 91 [] [lC l] (.own 7) [(7, .arr 86 2 (l.map rC))] := by
  cases l with
  | nil =>
    refine FnM.nil_cases 0 rfl ?_ fun ad cap => ?_
    all_goals
      refine FnM.of htb Tryz.func91 rfl rfl rfl rfl rfl fun cx hN h0 => ?_
      (repeat' (first | ((with_reducible apply WD_id); first | (refine WD_nxt htb (by exact rfl) ?_) | (refine WD_ap htb ?_) | (refine WD_nil htb ?_) | (refine WD_nilr htb ?_)) | (refine ct ?_) | (with_reducible apply WA_block)))
    · exact gL (.inr rfl) (Le_nilT 7 2 86 2 rfl rfl) rfl rfl ⟨rfl, trivial⟩
    · refine gL (.inr rfl) (T' := [(2, .own 7)]) (M' := [(7, .arr 86 2 [])]) ?_ rfl rfl ⟨rfl, trivial⟩
      (exact LeV [])
  | cons x r =>
    refine FnM.of htb Tryz.func91 rfl rfl rfl rfl rfl fun cx hN h0 => ?_
    (repeat' (first | ((with_reducible apply WD_id); first | (refine WD_nxt htb (by exact rfl) ?_) | (refine WD_ap htb ?_) | (refine WD_nil htb ?_) | (refine WD_nilr htb ?_)) | (refine ct ?_) | (with_reducible apply WA_block)))
    refine gL (.inr rfl) (T' := [(2, .own 7)]) (M' := [(7, .arr 86 2 ((x :: r).map rC))]) ?_ rfl rfl ⟨rfl, trivial⟩
    (exact LeV [])
theorem srt1_m (x : Cl) : FnM Tryz.prog 257 [] [aC x] (vB (!okC x)) [] := by
  refine FnM.of htb Tryz.func257 rfl rfl rfl rfl rfl fun cx hN h0 => ?_
  (repeat' (first | ((with_reducible apply WD_id); first | (refine WD_nxt htb (by exact rfl) ?_) | (refine WD_call (by exact rfl) ?_; first | (refine WD_c0 (okC_m _) ?_))) | (refine ct ?_) | (with_reducible apply WA_block)))
  exact gE (.inr rfl) rfl rfl trivial
theorem ix1C_m (l : List Cl) (hl : l.length ≤ 4000) (ho : ∀ x ∈ l, okC x = true) : FnM Tryz.prog 166 [(7, .arr 86 2 (l.map rC))] [.own 7, .clo 257 []] (vI (-1)) [(7, .arr 86 2 (l.map rC))] := by
  refine FnM.of htb Tryz.func166 rfl rfl rfl rfl rfl fun cx hN h0 => ?_
  (repeat' (first | ((with_reducible apply WD_id); first | (refine WD_sum ?_) | (refine WD_nxt htb (by exact rfl) ?_) | (refine WD_idxo htb ?_) | (refine WD_lde htb ?_)) | (refine ct ?_) | (with_reducible apply WA_block)))
  (refine WA_forV (l.length) [8] [] (fun k => [(8, vI k)]) (fun k => []) (fun k => True) ?h0 ?_)
  case h0 => trivial
  intro k hk _
  rcases Nat.lt_or_ge k l.length with hk' | hk'
  · have t1 : decide ((k : Int) < (l.length : Int)) = true := by simp; omega
    have t2 : (!okC (nth l k)) = false := by rw [ho _ (nth_mem l k hk')]; rfl
    (repeat' (first | ((with_reducible apply WD_id); first | (refine WD_sum ?_) | (refine WD_nxt htb (by exact rfl) ?_) | (refine WD_call (by exact rfl) ?_; first | (refine WD_c0 (srt1_m (x := nth l k)) ?_)) | (refine WD_idxo htb ?_) | (refine WD_lde htb ?_)) | (refine ct ?_) | (with_reducible apply WA_block)))
    refine ⟨hk', trivial, ?_⟩
    (exact LeV [])
  · have t1 : decide ((k : Int) < (l.length : Int)) = false := by simp; omega
    (repeat' (first | ((with_reducible apply WD_id); first | (refine WD_sum ?_) | (refine WD_nxt htb (by exact rfl) ?_) | (refine WD_idxo htb ?_) | (refine WD_lde htb ?_)) | (refine ct ?_) | (with_reducible apply WA_block)))
    exact gE (.inr rfl) rfl rfl ⟨rfl, trivial⟩
theorem delC_pm (l : List Cl) (hl : l.length ≤ 4000) (ho : ∀ x ∈ l, okC x = true) : FnM Tryz.prog 256 [(7, .arr 86 2 (l.map rC))] [.own 7, .clo 257 []] (.own 7) [(7, .arr 86 2 (l.map rC))] := by
  refine FnM.of htb Tryz.func256 rfl rfl rfl rfl rfl fun cx hN h0 => ?_
  (repeat' (first | ((with_reducible apply WD_id); first | (refine WD_nxt htb (by exact rfl) ?_) | (refine WD_call (by exact rfl) ?_; first | (refine WD_cM (ix1C_m _ ?_ ?_) ?_; (exact hyp); (exact hyp)))) | (refine ct ?_) | (with_reducible apply WA_block)))
  exact gE (.inr rfl) rfl rfl ⟨rfl, trivial⟩
/-- What is sorted, without doubles. -/
theorem srtC_le (l : List Cl) : (srtC l).Pairwise fun x y => ltC y x = false := by
  have h := List.pairwise_mergeSort (le := fun x y => !ltC y x) (fun a b c h1 h2 => by
    simp only [Bool.not_eq_true'] at *
    cases e : ltC c a with
    | false => rfl
    | true =>
      cases f : ltC a b with
      | true => rw [ltC_tr e f] at h2; cases h2
      | false =>
        have := ltC_tri f h1
        subst this
        rw [e] at h2; cases h2) (fun a b => by
    cases e : ltC b a with
    | false => simp
    | true => simp [ltC_as e]) l
  exact h.imp fun h => by simpa using h
theorem ddM_spec {l : List Cl} (h : l.Pairwise fun x y => ltC y x = false) : ∀ n, n + 1 ≤ l.length → Asc (ddM l (n + 1)) ∧ (∀ x, x ∈ ddM l (n + 1) ↔ x ∈ l.take (n + 1)) ∧ ∀ x ∈ ddM l (n + 1), x = nth l n ∨ ltC x (nth l n) = true
  | 0, hn => by
    rw [show l.take 1 = [nth l 0] by rw [take_nxt (by omega)]; simp]
    exact ⟨by simp [Asc, ddM], by simp [ddM], by simp [ddM]⟩
  | n + 1, hn => by
    obtain ⟨h1, h2, h3⟩ := ddM_spec h n (by omega)
    have hle : ltC (nth l (n + 1)) (nth l n) = false := by
      rw [List.pairwise_iff_getElem] at h
      rw [nth_getElem l _ (by omega), nth_getElem l n (by omega)]
      exact h n (n + 1) (by omega) (by omega) (by omega)
    rw [take_nxt (show n + 1 < l.length by omega), ddM_next l (k := n + 1) (by omega)]
    rcases Classical.em (nth l (n + 1) = nth l n) with e | e
    · rw [if_pos (by simpa using e)]
      refine ⟨h1, fun x => ?_, fun x hx => ?_⟩
      · rw [h2, List.mem_append, List.mem_singleton, e]
        constructor
        · exact .inl
        · rintro (q | rfl)
          · exact q
          · rw [take_nxt (show n < l.length by omega)]; simp
      · rw [e]; exact h3 x hx
    · rw [if_neg (by simpa using e)]
      have hlt : ltC (nth l n) (nth l (n + 1)) = true := by
        cases q : ltC (nth l n) (nth l (n + 1)) with
        | true => rfl
        | false => exact absurd (ltC_tri hle q) e
      have hlt2 : ∀ x ∈ ddM l (n + 1), ltC x (nth l (n + 1)) = true := fun x hx => by
        rcases h3 x hx with rfl | q
        · exact hlt
        · exact ltC_tr q hlt
      refine ⟨?_, fun x => by rw [List.mem_append, List.mem_append, h2], fun x hx => ?_⟩
      · unfold Asc
        rw [List.pairwise_append]
        exact ⟨h1, by simp, fun a ha b hb => by obtain rfl := List.mem_singleton.1 hb; exact hlt2 a ha⟩
      · rcases List.mem_append.1 hx with q | q
        · exact .inr (hlt2 x q)
        · exact .inl (List.mem_singleton.1 q)
theorem dd_srt {l : List Cl} (ho : ∀ x ∈ l, okC x = true) : ddC (srtC l) = sortC l := by
  have hm : ∀ x, x ∈ srtC l ↔ x ∈ l := fun x => (List.mergeSort_perm l _).mem_iff
  rcases Nat.eq_zero_or_pos (srtC l).length with h0 | h0
  · have e : srtC l = [] := List.length_eq_zero_iff.1 h0
    have e2 : l = [] := List.length_eq_zero_iff.1 (by rw [← srtC_len]; exact h0)
    rw [e, e2]; rfl
  · obtain ⟨n, hn⟩ : ∃ n, (srtC l).length = n + 1 := ⟨(srtC l).length - 1, by omega⟩
    obtain ⟨h1, h2, _⟩ := ddM_spec (srtC_le l) n (by omega)
    unfold ddC
    rw [hn]
    refine asc_ext h1 (asc_sort l) fun x => ?_
    rw [h2, mem_sort, ← hn, List.take_length, hm]
    exact ⟨fun h => ⟨ho x h, h⟩, fun h => h.2⟩
theorem sortedCO_m (l : List Cl) (hl : l.length ≤ 4000) (ho : ∀ x ∈ l, okC x = true) : FnM Tryz.prog 231 [(8, .arr 86 2 (l.map rC))] [.own 8] (lC (sortC l)) [(8, .dead)] := by
  rw [← dd_srt ho]
  have hsl := srtC_len l
  refine FnM.of htb Tryz.func231 rfl rfl rfl rfl rfl fun cx hN h0 => ?_
  refine WA_le (s' := ⟨[(0, lC l)], [(8, .dead)]⟩) (Le.trans (Le_own 0 61 rfl rfl rfl) (LeV [])) ?_
  (repeat' (first | ((with_reducible apply WD_id); first | (refine WD_nxt htb (by exact rfl) ?_) | (refine WD_call (by exact rfl) ?_; first | (refine WD_cM (cloCO_m _ ?_) ?_; (exact hyp)) | (refine WD_cM (delC_pm (l := l) ?_ ?_) ?_; (exact hyp); (exact hyp)) | (refine WD_cM (sortC_pm (l := l) ?_) ?_; (exact hyp)) | (refine WD_cM (compC_pm (l := srtC l) ?_) ?_; (exact hyp)))) | (refine ct ?_) | (with_reducible apply WA_block)))
  refine gL (.inr rfl) (T' := [(2, lC (ddC (srtC l)))]) (M' := [(8, .dead)]) ?_ rfl rfl ⟨rfl, trivial⟩
  (exact LeV [])
theorem uniC_m (a b : List Cl) (hl : a.length ≤ 400 ∧ b.length ≤ 400) (ha : ∀ x ∈ a, okC x = true) (hb : ∀ x ∈ b, okC x = true) : FnM Tryz.prog 205 [] [lC a, lC b] (lC (sortC (a ++ b))) [] := by
  have ho : ∀ x ∈ a ++ b, okC x = true := fun x hx => by
    rcases List.mem_append.1 hx with h | h
    · exact ha x h
    · exact hb x h
  have hl2 : (a ++ b).length ≤ 4000 := by rw [List.length_append]; omega
  refine FnM.of htb Tryz.func205 rfl rfl rfl rfl rfl fun cx hN h0 => ?_
  (repeat' (first | ((with_reducible apply WD_id); first | (refine WD_nxt htb (by exact rfl) ?_) | (refine WD_call (by exact rfl) ?_; first | (refine WD_cM (concC_m (a := a) (b := b) ?_) ?_; (exact hyp)) | (refine WD_cM (sortedCO_m (l := a ++ b) ?_ ?_) ?_; (exact hyp); (exact hyp)))) | (refine ct ?_) | (with_reducible apply WA_block)))
  exact gE (.inr rfl) rfl rfl trivial
theorem putC_m (a : List Cl) (x : Cl) (hl : a.length ≤ 400) (ha : ∀ x ∈ a, okC x = true) (hx : okC x = true) : FnM Tryz.prog 171 [] [lC a, aC x] (lC (sortC (a ++ [x]))) [] := by
  have hb : ∀ y ∈ [x], okC y = true := fun y hy => by rw [List.mem_singleton.1 hy]; exact hx
  have hl2 : a.length ≤ 400 ∧ [x].length ≤ 400 := ⟨hl, by simp⟩
  refine FnM.of htb Tryz.func171 rfl rfl rfl rfl rfl fun cx hN h0 => ?_
  (repeat' (first | ((with_reducible apply WD_id); first | (refine WD_nxt htb (by exact rfl) ?_) | (refine WD_call (by exact rfl) ?_; first | (refine WD_c0 (uniC_m (a := a) (b := [x]) ?_ ?_ ?_) ?_; (exact hyp); (exact hyp); (exact hyp)))) | (refine ct ?_) | (with_reducible apply WA_block)))
  exact gE (.inr rfl) rfl rfl trivial
end Go.Proofs.YtdhogcklnehdhaaGreatDoor
namespace Go.Proofs.YtdhogcklnehdhaaGreatDoor
set_option linter.unusedSimpArgs false
set_option linter.unusedVariables false
set_option linter.unnecessarySimpa false
set_option linter.unusedSectionVars false
set_option maxRecDepth 100000
open Go Go.RowKit Go.Am Go.Proofs.Grow
section
variable {P : Program} {tbl : List (Nat × TI)} {o : Oper} {T : Nat → Option AV} {M : Nat → Option AO}
theorem made4 (z0 z1 z2 z3 : Value) : (madeCells #[z0, z1, z2, z3] 40).toList = (List.replicate 10 [z0, z1, z2, z3]).flatten := by
  apply List.ext_getElem?
  intro k
  by_cases hk : k < 40
  · obtain h | h | h | h | h | h | h | h | h | h | h | h | h | h | h | h | h | h | h | h | h | h | h | h | h | h | h | h | h | h | h | h | h | h | h | h | h | h | h | h : k = 0 ∨ k = 1 ∨ k = 2 ∨ k = 3 ∨ k = 4 ∨ k = 5 ∨ k = 6 ∨ k = 7 ∨ k = 8 ∨ k = 9 ∨ k = 10 ∨ k = 11 ∨ k = 12 ∨ k = 13 ∨ k = 14 ∨ k = 15 ∨ k = 16 ∨ k = 17 ∨ k = 18 ∨ k = 19 ∨ k = 20 ∨ k = 21 ∨ k = 22 ∨ k = 23 ∨ k = 24 ∨ k = 25 ∨ k = 26 ∨ k = 27 ∨ k = 28 ∨ k = 29 ∨ k = 30 ∨ k = 31 ∨ k = 32 ∨ k = 33 ∨ k = 34 ∨ k = 35 ∨ k = 36 ∨ k = 37 ∨ k = 38 ∨ k = 39 := by omega
    all_goals (subst h; simp [madeCells])
  · rw [List.getElem?_eq_none (by simp [madeCells]; omega), List.getElem?_eq_none (by simp; omega)]
/-- make of ten elements of four cells. -/
theorem step_mk4 (htb : TOK P tbl) (g : Nat) {ty e : TypeId} {x y : Operand} {i j : TI} {kl kc : IntKind} {z0 z1 z2 z3 : Value} (ho : o.op = .makeSlice ty x y) (ht : lk tbl ty = some i) (hs : i.isS = true) (he : i.el = some e) (hj : lk tbl e = some j) (hsz : j.size = 4) (hz : j.zero = [z0, z1, z2, z3])
    (h1 : ∀ u ∈ [z0, z1, z2, z3], u.oneCell' = true) (hx : evA T x = some (.d (.v (.int kl 10)))) (hy : evA T y = some (.d (.v (.int kc 10)))) (hb : j.bytes * 10 ≤ 281474976710656) (hg : M g = none) :
    StepOK P o T M ⟨.own g, [g], [(g, .arr e 4 (List.replicate 10 [.v z0, .v z1, .v z2, .v z3]))]⟩ :=
  step_any mem_self fun cx μ T' M' a w h hT hM => by
    rw [← hM g (by simp)] at hg
    have hd := slice_desc (htb _ _ ht) hs he
    obtain ⟨info, ds, z, q1, q2, q3, q4, q5, q6, _⟩ := ti_parts (htb _ _ hj)
    have h2 := (h.ev (x := x) hT (by simp [ho, Op.operands]) hx).val
    have h3 := (h.ev (x := y) hT (by simp [ho, Op.operands]) hy).val
    have hb2 : (info.bytes : Int) * ((10 : Nat) : Int) ≤ 281474976710656 := by
      have : ((info.bytes * 10 : Nat) : Int) ≤ 281474976710656 := by rw [q5]; omega
      rwa [Int.natCast_mul] at this
    have hr := run_make (P := P) w ty e info z hd q1 q3 kl kc 10 10 (by omega) (Int.le_refl _) hb2 (by omega)
    simp only [Int.toNat_natCast, q4, hsz, q6, hz] at hr
    have hxs := made4 z0 z1 z2 z3
    have hsize : (madeCells #[z0, z1, z2, z3] 40).size = 40 := by simp [madeCells]
    refine ⟨.slice (some ⟨w.heap.size, 0, none⟩) 10 10, w.alloc (.cells (madeCells #[z0, z1, z2, z3] 40) e), upμ μ g (.slice (some ⟨w.heap.size, 0, none⟩) 10 10), ?_, ?_, .own (upμ_self _ _)⟩
    · simp only [execOp, ho, h2, h3, Sem.run_bind, hr, Result.andThen_ok, Sem.run_pure]; rfl
    · refine h.new hg (chg_alloc w _) rfl (fun b hb => ?_) fun H' hk hH => ⟨_, (List.replicate 10 [z0, z1, z2, z3]).flatten, upμ_self _ _, ⟨by simp, .inr ⟨w.heap.size, 10, madeCells #[z0, z1, z2, z3] 40, by simp, Nat.zero_le _, heap_alloc_new w _, by simp, by unfold maxLen; omega, by rw [hsize], by rw [← hxs, List.take_of_length_le (by simp [hsize])]⟩⟩, fun r hr => by rw [List.eq_of_mem_replicate hr]; rfl, ?_, fun u hu => ?_⟩
      · obtain rfl := Option.some.inj hb
        simp
      · exact vds_of (H := H') (w := w.alloc (.cells (madeCells #[z0, z1, z2, z3] 40) e)) (List.replicate 10 [z0, z1, z2, z3]).flatten
      · obtain ⟨l, hl, hu⟩ := List.mem_flatten.1 hu
        rw [List.eq_of_mem_replicate hl] at hu
        exact h1 u hu
end
section
variable {P : Program} {tbl : List (Nat × TI)} {ops r : List Oper} {o : Oper} {fin : List (List Nat × List Nat) → List (Nat × AV) → List (Nat × AO) → Prop} {acc : List (List Nat × List Nat)} {T : List (Nat × AV)} {M : List (Nat × AO)}
theorem WD_mk4 (htb : TOK P tbl) {d : Tmp} {ty e : TypeId} {x y : Operand} {i j : TI} {kl kc : IntKind} {z0 z1 z2 z3 : Value} (k : WD P ops fin r (([d], [d]) :: acc) ((d, .own d) :: T) ((d, .arr e 4 (List.replicate 10 [.v z0, .v z1, .v z2, .v z3])) :: M)) (ho : o.op = .makeSlice ty x y := by exact rfl) (hgu : gd ops T o = some true := by exact rfl) (hd : o.dst = some d := by exact rfl)
    (ht : lk tbl ty = some i := by exact rfl) (hs : i.isS = true := by exact rfl) (he : i.el = some e := by exact rfl) (hj : lk tbl e = some j := by exact rfl) (hsz : j.size = 4 := by exact rfl) (hz : j.zero = [z0, z1, z2, z3] := by exact rfl) (h1 : ∀ u ∈ [z0, z1, z2, z3], u.oneCell' = true := by decide)
    (hx : evA (lk T) x = some (.d (.v (.int kl 10))) := by exact rfl) (hy : evA (lk T) y = some (.d (.v (.int kc 10))) := by exact rfl) (hb : j.bytes * 10 ≤ 281474976710656 := by decide) (hg : lk M d = none := by exact rfl) : WD P ops fin (o :: r) acc T M :=
  WD_do hgu hd (step_mk4 htb d ho ht hs he hj hsz hz h1 hx hy hb hg) k
end
/-- All rows of a slice of the call's own, their nil slices read as empty ones. -/
theorem Le_normR {cx : Cx} {T : List (Nat × AV)} {M : List (Nat × AO)} (g : Nat) {ty sz : Nat} {rs rs' : List (List D)} (hg : lk M g = some (.arr ty sz rs)) (hl : rs'.length = rs.length) (hz : ∀ r ∈ rs', r.length = sz) (h : DNs rs.flatten rs'.flatten) : Le cx ⟨T, M⟩ ⟨T, (g, .arr ty sz rs') :: M⟩ := by
  rintro a w ⟨μ, hI⟩
  refine ⟨μ, ?_⟩
  rw [← show upM (lk M) [(g, AO.arr ty sz rs')] = lk ((g, .arr ty sz rs') :: M) from upM_cons]
  refine hI.swap hg rfl rfl fun H' hk => ?_
  obtain ⟨v, xs, g1, g2, g3, g4, g5⟩ := hI.ob g _ hg
  exact ⟨v, xs, g1, by rw [hl]; exact g2, hz, (g4.mono hk).norm h, g5⟩
theorem rep4_dn : ∀ n : Nat, DNs (List.replicate n [D.v (.bool false), D.v (.int .i64 0), D.v (.slice none 0 0), D.v (.slice none 0 0)]).flatten ((List.replicate n mb0).map rMb).flatten
  | 0 => DNs.nil
  | n + 1 => by
    rw [List.replicate_succ, List.replicate_succ, List.flatten_cons, List.map_cons, List.flatten_cons]
    exact DNs.append (DNs.cons (.refl _) (DNs.cons (.refl _) (DNs.cons (.nil 1) (DNs.cons (.nil 3) DNs.nil)))) (rep4_dn n)
theorem Le_mk4 {cx : Cx} {T : List (Nat × AV)} {M : List (Nat × AO)} (g : Nat) {ty : Nat} (hg : lk M g = some (.arr ty 4 (List.replicate 10 [D.v (.bool false), D.v (.int .i64 0), D.v (.slice none 0 0), D.v (.slice none 0 0)]))) : Le cx ⟨T, M⟩ ⟨T, (g, .arr ty 4 ((List.replicate 10 mb0).map rMb)) :: M⟩ :=
  Le_normR g hg (by simp) (fun r hr => by obtain ⟨x, _, rfl⟩ := List.mem_map.1 hr; rfl) (rep4_dn 10)
end Go.Proofs.YtdhogcklnehdhaaGreatDoor
namespace Go.Proofs.YtdhogcklnehdhaaGreatDoor
set_option linter.unusedSimpArgs false
set_option linter.unusedVariables false
set_option linter.unnecessarySimpa false
set_option linter.unusedSectionVars false
set_option maxRecDepth 100000
open Go Go.RowKit Go.Am Go.Proofs.Grow
theorem cloNv_m (l : List Int) (hl : l.length ≤ 1000) : FnM Tryz.prog 108 [] [lI l] (lI l) [] := by
  cases l with
  | nil =>
    refine FnM.nil_cases 0 rfl ?_ fun ad cap => ?_
    all_goals
      refine FnM.of htb Tryz.func108 rfl rfl rfl rfl rfl fun cx hN h0 => ?_
      (repeat' (first | ((with_reducible apply WD_id); first | (refine WD_nxt htb (by exact rfl) ?_) | (refine WD_ap htb ?_) | (refine WD_nil htb ?_) | (refine WD_nilr htb ?_)) | (refine ct ?_) | (with_reducible apply WA_block)))
      (exact glV [(2, lI [])] [] (LeV []))
  | cons x r =>
    refine FnM.of htb Tryz.func108 rfl rfl rfl rfl rfl fun cx hN h0 => ?_
    (repeat' (first | ((with_reducible apply WD_id); first | (refine WD_nxt htb (by exact rfl) ?_) | (refine WD_ap htb ?_) | (refine WD_nil htb ?_) | (refine WD_nilr htb ?_)) | (refine ct ?_) | (with_reducible apply WA_block)))
    (exact glV [(2, lI (x :: r))] [] (LeV []))
theorem vtr_g : ∀ (d : Nat) (t : Tr) (hd : hT t ≤ d) (hs : sizT t ≤ 1000), FnM Tryz.prog 45 [] [aTr t] (aTr t) [] := by
  intro d
  induction d with
  | zero => intro t hd; cases t; simp [hT] at hd
  | succ d ih =>
    intro t hd hs
    have hl := siz_len t
    have vtrR_m : ∀ (x : Tr) (hx : hT x ≤ d ∧ sizT x ≤ 1000), FnM Tryz.prog 45 [] [aTr x] (aTr x) [] := fun x hx => ih x hx.1 hx.2
    show FnM _ _ _ [.agg [vI t.k, lI t.ns, .d (.rows 3 (t.is.map rTr))]] (.agg [vI t.k, lI t.ns, .d (.rows 3 (t.is.map rTr))]) _
    rw [rTr_p]
    refine FnM.of htb Tryz.func45 rfl rfl rfl rfl rfl fun cx hN h0 => ?_
    (repeat' (first | ((with_reducible apply WD_id); first | (refine WD_sum ?_) | (refine WD_nxt htb (by exact rfl) ?_) | (refine WD_call (by exact rfl) ?_; first | (refine WD_c0 (cloNv_m _ ?_) ?_; (exact hyp))) | (refine WD_idx htb ?_) | (refine WD_ap htb ?_)) | (refine ct ?_) | (with_reducible apply WA_block)))
    refine WA_le (Le_nilM 61 3 2 45 3 rfl rfl rfl rfl) ?_
    (refine WA_forV (t.is.length) [15] [3, 61] (fun k => [(15, vI k)]) (fun k => [(3, .box 45 [vI t.k, lI t.ns, .own 61]), (61, .arr 45 3 ((t.is.take k).map rTp))]) (fun k => True) ?h0 ?_)
    case h0 => trivial
    intro k hk _
    have hlk : (t.is.take k).length ≤ k := by rw [List.length_take]; omega
    rcases Nat.lt_or_ge k t.is.length with hk' | hk'
    · have t1 : decide ((k : Int) < (t.is.length : Int)) = true := by simp; omega
      have hm := nth_mem t.is k hk'
      have hx : hT (nth t.is k) ≤ d ∧ sizT (nth t.is k) ≤ 1000 := by have := hT_mem hm; have := siz_mem hm; omega
      have hw : (t.is.take (k + 1)) = t.is.take k ++ [nth t.is k] := by rw [List.take_succ_eq_append_getElem hk', nth_getElem _ _ hk']
      (repeat' (first | ((with_reducible apply WD_id); first | (refine WD_sum ?_) | (refine WD_nxt htb (by exact rfl) ?_) | (refine WD_call (by exact rfl) ?_; first | (refine WD_c0 (vtrR_m _ ?_) ?_; (exact hyp))) | (refine WD_idx htb ?_) | (refine WD_ap htb ?_)) | (refine ct ?_) | (with_reducible apply WA_block)))
      refine ⟨hk', trivial, ?_⟩
      rw [hw, List.map_append, List.map_cons, List.map_nil]
      (exact LeV [(61, 24)])
    · have t1 : decide ((k : Int) < (t.is.length : Int)) = false := by simp; omega
      have e1 : t.is.take k = t.is := take_all hk'
      rw [e1]
      (repeat' (first | ((with_reducible apply WD_id); first | (refine WD_sum ?_) | (refine WD_nxt htb (by exact rfl) ?_) | (refine WD_idx htb ?_) | (refine WD_ap htb ?_)) | (refine ct ?_) | (with_reducible apply WA_block)))
      (exact glV [(2, .ptr 2 0)] [(2, .box 45 [vI t.k, lI t.ns, .d (.rows 3 (t.is.map rTp))])] (LeV []))
theorem vtr_m (t : Tr) (hs : sizT t ≤ 1000) : FnM Tryz.prog 45 [] [aTr t] (aTr t) [] := vtr_g _ t (Nat.le_refl _) hs
theorem atr_g : ∀ (d : Nat) (t : Tr) (hd : hT t ≤ d) (hs : sizT t ≤ 1000), FnM Tryz.prog 90 [] [aTr t] (aTr t) [] := by
  intro d
  induction d with
  | zero => intro t hd; cases t; simp [hT] at hd
  | succ d ih =>
    intro t hd hs
    have hl := siz_len t
    have atrR_m : ∀ (x : Tr) (hx : hT x ≤ d ∧ sizT x ≤ 1000), FnM Tryz.prog 90 [] [aTr x] (aTr x) [] := fun x hx => ih x hx.1 hx.2
    show FnM _ _ _ [.agg [vI t.k, lI t.ns, .d (.rows 3 (t.is.map rTr))]] (.agg [vI t.k, lI t.ns, .d (.rows 3 (t.is.map rTr))]) _
    rw [rTr_p]
    refine FnM.of htb Tryz.func90 rfl rfl rfl rfl rfl fun cx hN h0 => ?_
    (repeat' (first | ((with_reducible apply WD_id); first | (refine WD_sum ?_) | (refine WD_nxt htb (by exact rfl) ?_) | (refine WD_call (by exact rfl) ?_; first | (refine WD_c0 (cloNv_m _ ?_) ?_; (exact hyp))) | (refine WD_idx htb ?_) | (refine WD_ap htb ?_)) | (refine ct ?_) | (with_reducible apply WA_block)))
    refine WA_le (Le_nilM 61 3 2 45 3 rfl rfl rfl rfl) ?_
    (refine WA_forV (t.is.length) [15] [3, 61] (fun k => [(15, vI k)]) (fun k => [(3, .box 45 [vI t.k, lI t.ns, .own 61]), (61, .arr 45 3 ((t.is.take k).map rTp))]) (fun k => True) ?h0 ?_)
    case h0 => trivial
    intro k hk _
    have hlk : (t.is.take k).length ≤ k := by rw [List.length_take]; omega
    rcases Nat.lt_or_ge k t.is.length with hk' | hk'
    · have t1 : decide ((k : Int) < (t.is.length : Int)) = true := by simp; omega
      have hm := nth_mem t.is k hk'
      have hx : hT (nth t.is k) ≤ d ∧ sizT (nth t.is k) ≤ 1000 := by have := hT_mem hm; have := siz_mem hm; omega
      have hw : (t.is.take (k + 1)) = t.is.take k ++ [nth t.is k] := by rw [List.take_succ_eq_append_getElem hk', nth_getElem _ _ hk']
      (repeat' (first | ((with_reducible apply WD_id); first | (refine WD_sum ?_) | (refine WD_nxt htb (by exact rfl) ?_) | (refine WD_call (by exact rfl) ?_; first | (refine WD_c0 (atrR_m _ ?_) ?_; (exact hyp))) | (refine WD_idx htb ?_) | (refine WD_ap htb ?_)) | (refine ct ?_) | (with_reducible apply WA_block)))
      refine ⟨hk', trivial, ?_⟩
      rw [hw, List.map_append, List.map_cons, List.map_nil]
      (exact LeV [(61, 24)])
    · have t1 : decide ((k : Int) < (t.is.length : Int)) = false := by simp; omega
      have e1 : t.is.take k = t.is := take_all hk'
      rw [e1]
      (repeat' (first | ((with_reducible apply WD_id); first | (refine WD_sum ?_) | (refine WD_nxt htb (by exact rfl) ?_) | (refine WD_idx htb ?_) | (refine WD_ap htb ?_)) | (refine ct ?_) | (with_reducible apply WA_block)))
      (exact glV [(2, .ptr 2 0)] [(2, .box 45 [vI t.k, lI t.ns, .d (.rows 3 (t.is.map rTp))])] (LeV []))
theorem atr_m (t : Tr) (hs : sizT t ≤ 1000) : FnM Tryz.prog 90 [] [aTr t] (aTr t) [] := atr_g _ t (Nat.le_refl _) hs
theorem fcp_g : ∀ (d : Nat) (t : Tr) (hd : hT t ≤ d) (hs : sizT t ≤ 1000), FnM Tryz.prog 201 [] [aTr t] (aTr t) [] := by
  intro d
  induction d with
  | zero => intro t hd; cases t; simp [hT] at hd
  | succ d ih =>
    intro t hd hs
    have hl := siz_len t
    have fcpR_m : ∀ (x : Tr) (hx : hT x ≤ d ∧ sizT x ≤ 1000), FnM Tryz.prog 201 [] [aTr x] (aTr x) [] := fun x hx => ih x hx.1 hx.2
    show FnM _ _ _ [.agg [vI t.k, lI t.ns, .d (.rows 3 (t.is.map rTr))]] (.agg [vI t.k, lI t.ns, .d (.rows 3 (t.is.map rTr))]) _
    rw [rTr_p]
    refine FnM.of htb Tryz.func201 rfl rfl rfl rfl rfl fun cx hN h0 => ?_
    (repeat' (first | ((with_reducible apply WD_id); first | (refine WD_sum ?_) | (refine WD_nxt htb (by exact rfl) ?_) | (refine WD_idx htb ?_) | (refine WD_ap htb ?_) | (refine WD_ap0 htb ?_)) | (refine ct ?_) | (with_reducible apply WA_block)))
    refine WA_le (Le_nilM 61 3 2 45 3 rfl rfl rfl rfl) ?_
    (refine WA_forV (t.is.length) [15] [3, 10, 61] (fun k => [(15, vI k)]) (fun k => [(3, .box 45 [vI t.k, .own 10, .own 61]), (10, .arr 3 1 (t.ns.map rI)), (61, .arr 45 3 ((t.is.take k).map rTp))]) (fun k => True) ?h0 ?_)
    case h0 => trivial
    intro k hk _
    have hlk : (t.is.take k).length ≤ k := by rw [List.length_take]; omega
    rcases Nat.lt_or_ge k t.is.length with hk' | hk'
    · have t1 : decide ((k : Int) < (t.is.length : Int)) = true := by simp; omega
      have hm := nth_mem t.is k hk'
      have hx : hT (nth t.is k) ≤ d ∧ sizT (nth t.is k) ≤ 1000 := by have := hT_mem hm; have := siz_mem hm; omega
      have hw : (t.is.take (k + 1)) = t.is.take k ++ [nth t.is k] := by rw [List.take_succ_eq_append_getElem hk', nth_getElem _ _ hk']
      (repeat' (first | ((with_reducible apply WD_id); first | (refine WD_sum ?_) | (refine WD_nxt htb (by exact rfl) ?_) | (refine WD_call (by exact rfl) ?_; first | (refine WD_c0 (fcpR_m _ ?_) ?_; (exact hyp))) | (refine WD_idx htb ?_) | (refine WD_ap htb ?_) | (refine WD_ap0 htb ?_)) | (refine ct ?_) | (with_reducible apply WA_block)))
      refine ⟨hk', trivial, ?_⟩
      rw [hw, List.map_append, List.map_cons, List.map_nil]
      (exact LeV [(61, 24)])
    · have t1 : decide ((k : Int) < (t.is.length : Int)) = false := by simp; omega
      have e1 : t.is.take k = t.is := take_all hk'
      rw [e1]
      (repeat' (first | ((with_reducible apply WD_id); first | (refine WD_sum ?_) | (refine WD_nxt htb (by exact rfl) ?_) | (refine WD_idx htb ?_) | (refine WD_ap htb ?_) | (refine WD_ap0 htb ?_)) | (refine ct ?_) | (with_reducible apply WA_block)))
      (exact glV [(2, .ptr 2 0)] [(2, .box 45 [vI t.k, lI t.ns, .d (.rows 3 (t.is.map rTp))])] (LeV []))
theorem fcp_m (t : Tr) (hs : sizT t ≤ 1000) : FnM Tryz.prog 201 [] [aTr t] (aTr t) [] := fcp_g _ t (Nat.le_refl _) hs
def rMs (m : Ms) : List D := [dI m.nd, dI m.sq, dI m.t.k, .rows 1 (m.t.ns.map rI), .rows 3 (m.t.is.map rTr), .rows 2 (m.vo.map rC), .rows 2 (m.ac.map rC)]
abbrev aMs (m : Ms) : AV := .agg [vI m.nd, vI m.sq, vI m.t.k, lI m.t.ns, lTr m.t.is, lC m.vo, lC m.ac]
abbrev lMs (l : List Ms) : AV := .d (.rows 7 (l.map rMs))
theorem MsOK.facts {n : Nat} (hn : n ≤ 10) {m : Ms} (h : MsOK n m) : (decide (m.nd ≥ 0) = true ∧ decide (m.nd < 10) = true) ∧ decide (m.sq ≥ 1) = true ∧ (chkT m.t == 0) = true ∧ sizT m.t ≤ 1000 := by
  have h0 := h.nd0; have h1 := h.nd1; have h2 := h.sq0; have h3 := h.t.chk; have h4 := h.t.siz
  exact ⟨⟨by simpa using h0, by simp; omega⟩, by simpa using h2, by simp [h3], by omega⟩
theorem fnode_m (k : Int) (h : 0 ≤ k ∧ k < 10) : FnM Tryz.prog 114 [] [vI k] (vB true) [] := by
  have t1 : decide (k ≥ 0) = true := by simpa using h.1
  have t2 : decide (k < 10) = true := by simpa using h.2
  refine FnM.of htb Tryz.func114 rfl rfl rfl rfl rfl fun cx hN h0 => ?_
  (repeat' (first | ((with_reducible apply WD_id); first | (refine WD_nxt htb (by exact rfl) ?_) | (refine WD_t (by exact rfl) (by exact rfl) (by exact known) fun hb => ?_; rw [hb]; clear hb)) | (refine ct ?_) | (with_reducible apply WA_block)))
  exact gE (.inr rfl) rfl (congrArg vB t2) trivial
theorem fpl_m (m : Ms) (h : MsOK 10 m) : FnM Tryz.prog 47 [] [aMs m] (vB true) [] := by
  obtain ⟨⟨q1, q2⟩, q3, q4, q5⟩ := h.facts (Nat.le_refl _)
  have h0 := h.nd0
  have h1 := h.nd1
  have hnd : 0 ≤ m.nd ∧ m.nd < 10 := ⟨h0, by omega⟩
  have hvo := h.vo
  have hac := h.ac
  have chkW_m := chk3_m m.t q5
  refine FnM.of htb Tryz.func47 rfl rfl rfl rfl rfl fun cx hN h0 => ?_
  (repeat' (first | ((with_reducible apply WD_id); first | (refine WD_nxt htb (by exact rfl) ?_) | (refine WD_call (by exact rfl) ?_; first | (refine WD_c0 (fnode_m _ ?_) ?_; (exact hyp)) | (refine WD_c0 (chkW_m) ?_) | (refine WD_c0 (plC_m _ ?_) ?_; (exact hyp))) | (refine WD_t (by exact rfl) (by exact rfl) (by exact known) fun hb => ?_; rw [hb]; clear hb)) | (refine ct ?_) | (with_reducible apply WA_block)))
  exact gE (.inr rfl) rfl rfl trivial
theorem viewL_app : ∀ (l r : List Ms) (c : List Mb), viewL (l ++ r) c = viewL r (viewL l c)
  | [], r, c => rfl
  | m :: l, r, c => by rw [List.cons_append, viewL, viewL, viewL_app l]
def viewK (l : List Ms) (k : Nat) : List Mb := viewL (l.take k) (List.replicate 10 mb0)
theorem viewK_len (l : List Ms) (k : Nat) : (viewK l k).length = 10 := by unfold viewK; rw [viewL_len, List.length_replicate]
theorem viewK_step {l : List Ms} {k : Nat} (h : k < l.length) : viewK l (k + 1) = (viewK l k).set (nth l k).nd.toNat ⟨true, (nth l k).t⟩ := by
  unfold viewK
  rw [List.take_succ_eq_append_getElem h, viewL_app, viewL, viewL, nth_getElem l k h]
theorem set_rMb (c : List Mb) (i : Nat) (m : Mb) : (c.map rMb).set i (rMb m) = (c.set i m).map rMb := by rw [List.map_set]
set_option maxHeartbeats 2000000 in
theorem view_m (v : Vo) (h : VoOK 10 v) : FnM Tryz.prog 169 [] [vI v.nd, aTr v.t, lMs v.he] (aCf (viewV v.nd v.t v.he)) [] := by
  have hnd0 := h.nd0
  have hnd1 := h.nd1
  have hnd : 0 ≤ v.nd ∧ v.nd < 10 := ⟨hnd0, hnd1⟩
  have hhl := h.hlen (Nat.le_refl _)
  have hts : sizT v.t ≤ 1000 := by have := h.t.siz; omega
  have hch : (chkT v.t == 0) = true := by simp [h.t.chk]
  have chkW_m := chk3_m v.t hts
  refine FnM.of htb Tryz.func169 rfl rfl rfl rfl rfl fun cx hN h0 => ?_
  (repeat' (first | ((with_reducible apply WD_id); first | (refine WD_sum ?_) | (refine WD_nxt htb (by exact rfl) ?_) | (refine WD_idx htb ?_) | (refine WD_idxo htb ?_) | (refine WD_ste htb ?_) | (refine WD_t (by exact rfl) (by exact rfl) (by exact known) fun hb => ?_; rw [hb]; clear hb)) | (refine ct ?_) | (with_reducible apply WA_block)))
  refine WD_mk4 htb ?_
  (repeat' (first | ((with_reducible apply WD_id); first | (refine WD_sum ?_) | (refine WD_nxt htb (by exact rfl) ?_) | (refine WD_idx htb ?_) | (refine WD_idxo htb ?_) | (refine WD_ste htb ?_) | (refine WD_t (by exact rfl) (by exact rfl) (by exact known) fun hb => ?_; rw [hb]; clear hb)) | (refine ct ?_) | (with_reducible apply WA_block)))
  refine WA_le (Le_mk4 10 rfl) ?_
  (refine WA_forV (v.he.length) [14, 10, 11] [7, 10] (fun k => [(14, vI k)]) (fun k => [(7, .box 27 [.own 10]), (10, .arr 53 4 ((viewK v.he k).map rMb))]) (fun k => True) ?h0 ?_)
  case h0 => trivial
  intro k hk _
  have hvl := viewK_len v.he k
  rcases Nat.lt_or_ge k v.he.length with hk' | hk'
  · have t1 : decide ((k : Int) < (v.he.length : Int)) = true := by simp; omega
    obtain ⟨hm, hne⟩ := h.he _ (nth_mem v.he k hk')
    have m0 := hm.nd0
    have m1 := hm.nd1
    have t2 : ((nth v.he k).nd != v.nd) = true := by simpa using hne
    have hms : sizT (nth v.he k).t ≤ 1000 := by have := hm.t.siz; omega
    have hrow : ((viewK v.he k).map rMb).set (nth v.he k).nd.toNat [.v (.bool true), dI (nth v.he k).t.k, .rows 1 ((nth v.he k).t.ns.map rI), .rows 3 ((nth v.he k).t.is.map rTr)] = (viewK v.he (k + 1)).map rMb := by rw [viewK_step hk', List.map_set]; rfl
    (repeat' (first | ((with_reducible apply WD_id); first | (refine WD_sum ?_) | (refine WD_nxt htb (by exact rfl) ?_) | (refine WD_call (by exact rfl) ?_; first | (refine WD_c0 (fpl_m (m := nth v.he k) ?_) ?_; (exact hyp)) | (refine WD_c0 (fcp_m _ ?_) ?_; (exact hyp))) | (refine WD_idx htb ?_) | (refine WD_idxo htb ?_) | (refine WD_ste htb ?_) | (refine WD_t (by exact rfl) (by exact rfl) (by exact known) fun hb => ?_; rw [hb]; clear hb)) | (refine ct ?_) | (with_reducible apply WA_block)))
    refine ⟨hk', trivial, ?_⟩
    (exact LeV [])
  · have t1 : decide ((k : Int) < (v.he.length : Int)) = false := by simp; omega
    have e : viewV v.nd v.t v.he = (viewK v.he k).set v.nd.toNat ⟨true, v.t⟩ := by unfold viewV viewK; rw [List.take_of_length_le hk']
    have hrow : ((viewK v.he k).map rMb).set v.nd.toNat [.v (.bool true), dI v.t.k, .rows 1 (v.t.ns.map rI), .rows 3 (v.t.is.map rTr)] = (viewV v.nd v.t v.he).map rMb := by rw [e, List.map_set]; rfl
    (repeat' (first | ((with_reducible apply WD_id); first | (refine WD_sum ?_) | (refine WD_nxt htb (by exact rfl) ?_) | (refine WD_call (by exact rfl) ?_; first | (refine WD_c0 (fnode_m _ ?_) ?_; (exact hyp)) | (refine WD_c0 (chkW_m) ?_) | (refine WD_c0 (fcp_m _ ?_) ?_; (exact hyp))) | (refine WD_idx htb ?_) | (refine WD_idxo htb ?_) | (refine WD_ste htb ?_) | (refine WD_t (by exact rfl) (by exact rfl) (by exact known) fun hb => ?_; rw [hb]; clear hb)) | (refine ct ?_) | (with_reducible apply WA_block)))
    rw [hrow]
    (exact glV [(6, .ptr 6 0)] [(6, .box 27 [lMb (viewV v.nd v.t v.he)])] (LeV []))
theorem setM_step {p : Ms → Bool} {l : List Ms} {k a : Nat} (h : k < l.length) : setM p (l.drop k) a = setM p (l.drop (k + 1)) (if p (nth l k) = true then a ||| 2 ^ (nth l k).nd.toNat else a) := by
  rw [drop_nth l k h, setM]
theorem vot1_m (m : Ms) : FnM Tryz.prog 233 [] [aMs m] (lC m.vo) [] := by
  refine FnM.of htb Tryz.func233 rfl rfl rfl rfl rfl fun cx hN h0 => ?_
  (repeat' (first | ((with_reducible apply WD_id); first | (refine WD_nxt htb (by exact rfl) ?_)) | (refine ct ?_) | (with_reducible apply WA_block)))
  exact gE (.inr rfl) rfl rfl trivial
set_option maxHeartbeats 1000000 in
theorem vots_m (l : List Ms) (w0 : Cl) (hl : l.length ≤ 1000) (h : ∀ m ∈ l, MsOK 10 m) : FnM Tryz.prog 206 [] [lMs l, aC w0, .clo 233 []] (vI (votS l w0 : Int)) [] := by
  refine FnM.of htb Tryz.func206 rfl rfl rfl rfl rfl fun cx hN h0 => ?_
  (repeat' (first | ((with_reducible apply WD_id); first | (refine WD_sum ?_) | (refine WD_nxt htb (by exact rfl) ?_) | (refine WD_idx htb ?_)) | (refine ct ?_) | (with_reducible apply WA_block)))
  (refine WA_anyV (α := Nat × Nat) (fun x => l.length - x.1) ((0, 0)) [12, 7] [] (fun x => [(12, vI x.1), (7, vI (x.2 : Int))]) (fun x => []) (fun x => x.1 ≤ l.length ∧ x.2 < 1024 ∧ votS l w0 = setM (fun m => hasC m.vo w0) (l.drop x.1) x.2) ?h0 ?_)
  case h0 => exact ⟨Nat.zero_le _, by decide, rfl⟩
  rintro ⟨k, a⟩ ⟨hk, ha, hI⟩
  dsimp only at hk ha hI ⊢
  rcases Nat.lt_or_ge k l.length with hk' | hk'
  · have t1 : decide ((k : Int) < (l.length : Int)) = true := by simp; omega
    have hm := h _ (nth_mem l k hk')
    have m0 := hm.nd0
    have m1 := hm.nd1
    obtain ⟨d, hd⟩ : ∃ d : Nat, (nth l k).nd = (d : Int) := ⟨(nth l k).nd.toNat, by omega⟩
    have hd2 : d ≤ 61 := by omega
    have hp := pow_lt (k := d) (by omega)
    have hlt := or_lt10 ha hp
    have hcl : (nth l k).vo.length ≤ 10000 := by have := hm.vo.len; omega
    have hdn : (nth l k).nd.toNat = d := by omega
    have fplQ := fpl_m (nth l k) hm
    rw [setM_step hk'] at hI
    cases hc : hasC (nth l k).vo w0 with
    | true =>
      rw [hc, if_pos rfl, hdn] at hI
      (repeat' (first | ((with_reducible apply WD_id); first | (refine WD_sum ?_) | (refine WD_nxt htb (by exact rfl) ?_) | (refine WD_call (by exact rfl) ?_; first | (refine WD_c0 (fpl_m (m := nth l k) ?_) ?_; (exact hyp)) | (refine WD_c0 (vot1_m (m := nth l k)) ?_) | (refine WD_c0 (hasC_m _ _ ?_) ?_; (exact hyp))) | (refine WD_idx htb ?_)) | (refine ct ?_) | (with_reducible apply WA_block)))
      rw [hd]
      (repeat' (first | ((with_reducible apply WD_id); first | (refine WD_sum ?_) | (refine WD_nxt htb (by exact rfl) ?_) | (refine WD_eq (shlN_step rfl rfl rfl) ?_) | (refine WD_eq (borN_step rfl rfl rfl) ?_) | (refine WD_idx htb ?_)) | (refine ct ?_) | (with_reducible apply WA_block)))
      refine ⟨(k + 1, a ||| 2 ^ d), by dsimp only; omega, ⟨by dsimp only; omega, hlt, hI⟩, ?_⟩
      (exact LeV [])
    | false =>
      rw [hc, if_neg (by simp)] at hI
      (repeat' (first | ((with_reducible apply WD_id); first | (refine WD_sum ?_) | (refine WD_nxt htb (by exact rfl) ?_) | (refine WD_call (by exact rfl) ?_; first | (refine WD_c0 (fpl_m (m := nth l k) ?_) ?_; (exact hyp)) | (refine WD_c0 (vot1_m (m := nth l k)) ?_) | (refine WD_c0 (hasC_m _ _ ?_) ?_; (exact hyp))) | (refine WD_idx htb ?_)) | (refine ct ?_) | (with_reducible apply WA_block)))
      refine ⟨(k + 1, a), by dsimp only; omega, ⟨by dsimp only; omega, ha, hI⟩, ?_⟩
      (exact LeV [])
  · have t1 : decide ((k : Int) < (l.length : Int)) = false := by simp; omega
    rw [List.drop_eq_nil_of_le hk', setM] at hI
    rw [hI]
    (repeat' (first | ((with_reducible apply WD_id); first | (refine WD_sum ?_) | (refine WD_nxt htb (by exact rfl) ?_) | (refine WD_idx htb ?_)) | (refine ct ?_) | (with_reducible apply WA_block)))
    exact gE (.inr rfl) rfl rfl trivial
theorem vot_m (l : List Ms) (w0 : Cl) (hl : l.length ≤ 1000) (h : ∀ m ∈ l, MsOK 10 m) : FnM Tryz.prog 204 [] [lMs l, aC w0] (vI (votS l w0 : Int)) [] := by
  refine FnM.of htb Tryz.func204 rfl rfl rfl rfl rfl fun cx hN h0 => ?_
  (repeat' (first | ((with_reducible apply WD_id); first | (refine WD_nxt htb (by exact rfl) ?_) | (refine WD_call (by exact rfl) ?_; first | (refine WD_c0 (vots_m _ _ ?_ ?_) ?_; (exact hyp); (exact hyp)))) | (refine ct ?_) | (with_reducible apply WA_block)))
  exact gE (.inr rfl) rfl rfl trivial
theorem acp1_m (m : Ms) : FnM Tryz.prog 207 [] [aMs m] (lC m.ac) [] := by
  refine FnM.of htb Tryz.func207 rfl rfl rfl rfl rfl fun cx hN h0 => ?_
  (repeat' (first | ((with_reducible apply WD_id); first | (refine WD_nxt htb (by exact rfl) ?_)) | (refine ct ?_) | (with_reducible apply WA_block)))
  exact gE (.inr rfl) rfl rfl trivial
set_option maxHeartbeats 1000000 in
theorem acps_m (l : List Ms) (w0 : Cl) (hl : l.length ≤ 1000) (h : ∀ m ∈ l, MsOK 10 m) : FnM Tryz.prog 206 [] [lMs l, aC w0, .clo 207 []] (vI (accS l w0 : Int)) [] := by
  refine FnM.of htb Tryz.func206 rfl rfl rfl rfl rfl fun cx hN h0 => ?_
  (repeat' (first | ((with_reducible apply WD_id); first | (refine WD_sum ?_) | (refine WD_nxt htb (by exact rfl) ?_) | (refine WD_idx htb ?_)) | (refine ct ?_) | (with_reducible apply WA_block)))
  (refine WA_anyV (α := Nat × Nat) (fun x => l.length - x.1) ((0, 0)) [12, 7] [] (fun x => [(12, vI x.1), (7, vI (x.2 : Int))]) (fun x => []) (fun x => x.1 ≤ l.length ∧ x.2 < 1024 ∧ accS l w0 = setM (fun m => hasC m.ac w0) (l.drop x.1) x.2) ?h0 ?_)
  case h0 => exact ⟨Nat.zero_le _, by decide, rfl⟩
  rintro ⟨k, a⟩ ⟨hk, ha, hI⟩
  dsimp only at hk ha hI ⊢
  rcases Nat.lt_or_ge k l.length with hk' | hk'
  · have t1 : decide ((k : Int) < (l.length : Int)) = true := by simp; omega
    have hm := h _ (nth_mem l k hk')
    have m0 := hm.nd0
    have m1 := hm.nd1
    obtain ⟨d, hd⟩ : ∃ d : Nat, (nth l k).nd = (d : Int) := ⟨(nth l k).nd.toNat, by omega⟩
    have hd2 : d ≤ 61 := by omega
    have hp := pow_lt (k := d) (by omega)
    have hlt := or_lt10 ha hp
    have hcl : (nth l k).ac.length ≤ 10000 := by have := hm.ac.len; omega
    have hdn : (nth l k).nd.toNat = d := by omega
    have fplQ := fpl_m (nth l k) hm
    rw [setM_step hk'] at hI
    cases hc : hasC (nth l k).ac w0 with
    | true =>
      rw [hc, if_pos rfl, hdn] at hI
      (repeat' (first | ((with_reducible apply WD_id); first | (refine WD_sum ?_) | (refine WD_nxt htb (by exact rfl) ?_) | (refine WD_call (by exact rfl) ?_; first | (refine WD_c0 (fpl_m (m := nth l k) ?_) ?_; (exact hyp)) | (refine WD_c0 (acp1_m (m := nth l k)) ?_) | (refine WD_c0 (hasC_m _ _ ?_) ?_; (exact hyp))) | (refine WD_idx htb ?_)) | (refine ct ?_) | (with_reducible apply WA_block)))
      rw [hd]
      (repeat' (first | ((with_reducible apply WD_id); first | (refine WD_sum ?_) | (refine WD_nxt htb (by exact rfl) ?_) | (refine WD_eq (shlN_step rfl rfl rfl) ?_) | (refine WD_eq (borN_step rfl rfl rfl) ?_) | (refine WD_idx htb ?_)) | (refine ct ?_) | (with_reducible apply WA_block)))
      refine ⟨(k + 1, a ||| 2 ^ d), by dsimp only; omega, ⟨by dsimp only; omega, hlt, hI⟩, ?_⟩
      (exact LeV [])
    | false =>
      rw [hc, if_neg (by simp)] at hI
      (repeat' (first | ((with_reducible apply WD_id); first | (refine WD_sum ?_) | (refine WD_nxt htb (by exact rfl) ?_) | (refine WD_call (by exact rfl) ?_; first | (refine WD_c0 (fpl_m (m := nth l k) ?_) ?_; (exact hyp)) | (refine WD_c0 (acp1_m (m := nth l k)) ?_) | (refine WD_c0 (hasC_m _ _ ?_) ?_; (exact hyp))) | (refine WD_idx htb ?_)) | (refine ct ?_) | (with_reducible apply WA_block)))
      refine ⟨(k + 1, a), by dsimp only; omega, ⟨by dsimp only; omega, ha, hI⟩, ?_⟩
      (exact LeV [])
  · have t1 : decide ((k : Int) < (l.length : Int)) = false := by simp; omega
    rw [List.drop_eq_nil_of_le hk', setM] at hI
    rw [hI]
    (repeat' (first | ((with_reducible apply WD_id); first | (refine WD_sum ?_) | (refine WD_nxt htb (by exact rfl) ?_) | (refine WD_idx htb ?_)) | (refine ct ?_) | (with_reducible apply WA_block)))
    exact gE (.inr rfl) rfl rfl trivial
theorem acp_m (l : List Ms) (w0 : Cl) (hl : l.length ≤ 1000) (h : ∀ m ∈ l, MsOK 10 m) : FnM Tryz.prog 173 [] [lMs l, aC w0] (vI (accS l w0 : Int)) [] := by
  refine FnM.of htb Tryz.func173 rfl rfl rfl rfl rfl fun cx hN h0 => ?_
  (repeat' (first | ((with_reducible apply WD_id); first | (refine WD_nxt htb (by exact rfl) ?_) | (refine WD_call (by exact rfl) ?_; first | (refine WD_c0 (acps_m _ _ ?_ ?_) ?_; (exact hyp); (exact hyp)))) | (refine ct ?_) | (with_reducible apply WA_block)))
  exact gE (.inr rfl) rfl rfl trivial
theorem okC_view {n : Nat} (hn : n ≤ 10) {v : Vo} (h : VoOK n v) : OkC (viewV v.nd v.t v.he) := by
  refine ⟨by rw [viewV_len]; exact Nat.le_refl _, fun k hk => ?_⟩
  have := h.nd0
  have := h.nd1
  have hl : (viewL v.he (List.replicate 10 mb0)).length = 10 := by rw [viewL_len, List.length_replicate]
  have hts := h.t.siz
  unfold viewV
  rw [nth_setI _ _ _ _ (by omega)]
  split
  · show sizT v.t ≤ 1000
    omega
  · rcases viewL_mem v.he (List.replicate 10 mb0) k (by rw [List.length_replicate]) (h.hb hn) with e | ⟨m, h1, _, e⟩
    · rw [e, nth_rep]; decide
    · rw [e]
      have := (h.he m h1).1.t.siz
      show sizT m.t ≤ 1000
      omega
theorem con_m (c : List Mb) (v a : Nat) (hc : OkC c) (hv : v < 10) (ha : a < 1024) : FnM Tryz.prog 172 [] [aCf c, vI (v : Int), vI (a : Int)] (vB (conN c v a)) [] := by
  have hg := great_lt c ha
  have hh := has_nat hg hv
  refine FnM.of htb Tryz.func172 rfl rfl rfl rfl rfl fun cx hN h0 => ?_
  (repeat' (first | ((with_reducible apply WD_id); first | (refine WD_nxt htb (by exact rfl) ?_) | (refine WD_call (by exact rfl) ?_; first | (refine WD_c0 (great_m _ _ ?_ ?_) ?_; (exact hyp); (exact hyp)) | (refine WD_c0 (has_m _ _) ?_))) | (refine ct ?_) | (with_reducible apply WA_block)))
  exact gE (.inr rfl) rfl (congrArg vB hh) trivial
end Go.Proofs.YtdhogcklnehdhaaGreatDoor
