/- Contracts: the sets in their order, as an iterator; the first set of which something is true. -/
import Derived.Test.YtkjpnmodlmlhdaaGreatDoorQAF
import Derived.Test.YtkjpnmodlmlhdaaGreatDoorQAH
import Derived.RangeFuncNested
import Derived.RangeFuncBound
import Derived.RangeFuncCalls
import Derived.RangeFuncLeaves
import Derived.Shelf.Abstract
import Derived.Shelf.RegionOpen
import Derived.WalkKit
import Derived.OwnWalkIn
import Derived.TacticsInMore
import Derived.LoopNIn
import Derived.LoopIn
import Derived.Shelf.Spec.SlicesGrow
import Derived.Maps.OwnSet
import Derived.Test.YtkjpnmodlmlhdaaGreatDoorRows
import Derived.Test.YtkjpnmodlmlhdaaGreatDoorTie
import Derived.Test.YtkjpnmodlmlhdaaGreatDoorCards
import Derived.Test.YtkjpnmodlmlhdaaGreatDoorQAS
import Derived.ProofKit
import Derived.OpenShut
import Derived.ShutString
import Derived.ChangeOld
import Derived.Below
import Derived.Lay
import Derived.LaidOnce
import Derived.SevenTiedAt
namespace Go.Proofs.YtkjpnmodlmlhdaaGreatDoor
set_option linter.unusedSimpArgs false
set_option linter.unusedVariables false
set_option linter.unnecessarySimpa false
set_option linter.unusedSectionVars false
set_option maxRecDepth 100000
open Go Go.RowKit Go.Am Go.Proofs.Grow Go.Shelf
attribute [local go_sem] Oper.semAt_some
end Go.Proofs.YtkjpnmodlmlhdaaGreatDoor
/- Nothing is claimed here: calls that were reckoned are taken as contracts of further reckonings. -/
namespace Go.Am
set_option linter.unusedSimpArgs false
set_option linter.unusedVariables false
set_option linter.unnecessarySimpa false
set_option linter.unusedSectionVars false
set_option maxRecDepth 100000
open Go Go.RowKit Go.Proofs.Grow
noncomputable def eqBs : List UInt8 → List UInt8 → Bool
  | [], [] => true
  | a :: r, b :: s => Nat.beq a.toNat b.toNat && eqBs r s
  | _, _ => false
theorem eqBs_spec : ∀ {a b : List UInt8}, eqBs a b = true → a = b
  | [], [], _ => rfl
  | [], _ :: _, h => by cases h
  | _ :: _, [], h => by cases h
  | a :: r, b :: s, h => by
    simp only [eqBs, Bool.and_eq_true] at h
    rw [eqBs_spec h.2, UInt8.toNat_inj.1 (Nat.eq_of_beq_eq_true h.1)]
noncomputable def eqVl (x y : Value) : Bool := match x, y with
  | .int .i64 (.ofNat a), .int .i64 (.ofNat b) => Nat.beq a b
  | .bool true, .bool true => true
  | .bool false, .bool false => true
  | .slice none 0 0, .slice none 0 0 => true
  | .string a, .string b => eqBs a.data.toList b.data.toList
  | _, _ => false
theorem eqVl_spec {x y : Value} (h : eqVl x y = true) : x = y := by
  unfold eqVl at h
  split at h
  · rw [Nat.eq_of_beq_eq_true h]
  · rfl
  · rfl
  · rfl
  · rename_i a b
    have := eqBs_spec h
    obtain ⟨⟨a⟩⟩ := a
    obtain ⟨⟨b⟩⟩ := b
    have : a = b := this
    rw [this]
  · cases h
mutual
noncomputable def eqD : D → D → Bool
  | .v x, y => match y with
    | .v y => eqVl x y
    | _ => false
  | .rows sz rs, y => match y with
    | .rows sz' rs' => Nat.beq sz sz' && eqRs rs rs'
    | _ => false
noncomputable def eqR : List D → List D → Bool
  | [], y => match y with
    | [] => true
    | _ => false
  | d :: r, y => match y with
    | e :: s => eqD d e && eqR r s
    | _ => false
noncomputable def eqRs : List (List D) → List (List D) → Bool
  | [], y => match y with
    | [] => true
    | _ => false
  | d :: r, y => match y with
    | e :: s => eqR d e && eqRs r s
    | _ => false
end
mutual
theorem eqD_spec : ∀ {x y : D}, eqD x y = true → x = y
  | .v x, y, h => by
    unfold eqD at h
    split at h
    · rw [eqVl_spec h]
    · cases h
  | .rows sz rs, y, h => by
    unfold eqD at h
    split at h
    · simp only [Bool.and_eq_true] at h
      rw [Nat.eq_of_beq_eq_true h.1, eqRs_spec h.2]
    · cases h
theorem eqR_spec : ∀ {x y : List D}, eqR x y = true → x = y
  | [], y, h => by
    unfold eqR at h
    split at h
    · rfl
    · cases h
  | d :: r, y, h => by
    unfold eqR at h
    split at h
    · simp only [Bool.and_eq_true] at h
      rw [eqD_spec h.1, eqR_spec h.2]
    · cases h
theorem eqRs_spec : ∀ {x y : List (List D)}, eqRs x y = true → x = y
  | [], y, h => by
    unfold eqRs at h
    split at h
    · rfl
    · cases h
  | d :: r, y, h => by
    unfold eqRs at h
    split at h
    · simp only [Bool.and_eq_true] at h
      rw [eqR_spec h.1, eqRs_spec h.2]
    · cases h
end
mutual
noncomputable def eqA : AV → AV → Bool
  | .d x, y => match y with
    | .d y => eqD x y
    | _ => false
  | .agg cs, y => match y with
    | .agg ds => eqAs cs ds
    | _ => false
  | .tup cs, y => match y with
    | .tup ds => eqAs cs ds
    | _ => false
  | .own g, y => match y with
    | .own h => Nat.beq g h
    | _ => false
  | _, _ => false
noncomputable def eqAs : List AV → List AV → Bool
  | [], y => match y with
    | [] => true
    | _ => false
  | d :: r, y => match y with
    | e :: s => eqA d e && eqAs r s
    | _ => false
end
mutual
theorem eqA_spec : ∀ {x y : AV}, eqA x y = true → x = y
  | .d x, y, h => by
    unfold eqA at h
    split at h
    · rw [eqD_spec h]
    · cases h
  | .agg cs, y, h => by
    unfold eqA at h
    split at h
    · rw [eqAs_spec h]
    · cases h
  | .tup cs, y, h => by
    unfold eqA at h
    split at h
    · rw [eqAs_spec h]
    · cases h
  | .ptr _ _, _, h => by unfold eqA at h; cases h
  | .elt _ _ _ _, _, h => by unfold eqA at h; cases h
  | .own g, y, h => by
    unfold eqA at h
    split at h
    · rw [Nat.eq_of_beq_eq_true h]
    · cases h
  | .rp _, _, h => by unfold eqA at h; cases h
  | .sl _ _ _ _ _, _, h => by unfold eqA at h; cases h
  | .clo _ _, _, h => by unfold eqA at h; cases h
theorem eqAs_spec : ∀ {x y : List AV}, eqAs x y = true → x = y
  | [], y, h => by
    unfold eqAs at h
    split at h
    · rfl
    · cases h
  | d :: r, y, h => by
    unfold eqAs at h
    split at h
    · simp only [Bool.and_eq_true] at h
      rw [eqA_spec h.1, eqAs_spec h.2]
    · cases h
end
noncomputable def eqO (x y : AO) : Bool := match x, y with
  | .box a cs, .box b ds => Nat.beq a b && eqAs cs ds
  | .arr a s rs, .arr b s' rs' => Nat.beq a b && (Nat.beq s s' && eqRs rs rs')
  | .dead, .dead => true
  | _, _ => false
theorem eqO_spec {x y : AO} (h : eqO x y = true) : x = y := by
  unfold eqO at h
  split at h
  · simp only [Bool.and_eq_true] at h
    rw [Nat.eq_of_beq_eq_true h.1, eqAs_spec h.2]
  · simp only [Bool.and_eq_true] at h
    rw [Nat.eq_of_beq_eq_true h.1, Nat.eq_of_beq_eq_true h.2.1, eqRs_spec h.2.2]
  · rfl
  · cases h
noncomputable def eqM : List (Nat × AO) → List (Nat × AO) → Bool
  | [], [] => true
  | p :: r, q :: s => Nat.beq p.1 q.1 && (eqO p.2 q.2 && eqM r s)
  | _, _ => false
theorem eqM_spec : ∀ {x y : List (Nat × AO)}, eqM x y = true → x = y
  | [], [], _ => rfl
  | [], _ :: _, h => by cases h
  | _ :: _, [], h => by cases h
  | (a, o) :: r, (b, u) :: s, h => by
    simp only [eqM, Bool.and_eq_true] at h
    have := Nat.eq_of_beq_eq_true h.1
    rw [this, eqO_spec h.2.1, eqM_spec h.2.2]
/-- Calls with their results. -/
abbrev Res := AV × List (Nat × AO)
abbrev Tbl := List (Nat × List (List AV × Res))
noncomputable def lkE : List (List AV × Res) → List AV → Option Res
  | [], _ => none
  | p :: r, xs => match eqAs p.1 xs with
    | true => some p.2
    | false => lkE r xs
noncomputable def lkF : Tbl → Nat → List AV → Option Res
  | [], _, _ => none
  | p :: r, f, xs => match Nat.beq p.1 f with
    | true => match lkE p.2 xs with
      | some v => some v
      | none => lkF r f xs
    | false => lkF r f xs
def EntOK (P : Program) (f : Nat) (l : List (List AV × Res)) : Prop := ∀ e ∈ l, FnM P f [] e.1 e.2.1 e.2.2
def TblOK (P : Program) (t : Tbl) : Prop := ∀ p ∈ t, EntOK P p.1 p.2
theorem lkE_spec : ∀ {l : List (List AV × Res)} {xs : List AV} {v : Res}, lkE l xs = some v → (xs, v) ∈ l
  | [], _, _, h => by cases h
  | p :: r, xs, v, h => by
    unfold lkE at h
    split at h
    · rename_i he
      obtain rfl := Option.some.inj h
      rw [← eqAs_spec he]
      exact List.mem_cons_self
    · exact List.mem_cons_of_mem _ (lkE_spec h)
theorem lkF_spec {P : Program} : ∀ {t : Tbl} {f : Nat} {xs : List AV} {v : Res}, TblOK P t → lkF t f xs = some v → FnM P f [] xs v.1 v.2
  | [], _, _, _, _, h => by cases h
  | p :: r, f, xs, v, ho, h => by
    unfold lkF at h
    split at h
    · rename_i hb
      split at h
      · rename_i u hu
        obtain rfl := Option.some.inj h
        rw [← Nat.eq_of_beq_eq_true hb]
        exact ho p List.mem_cons_self _ (lkE_spec hu)
      · exact lkF_spec (fun q hq => ho q (List.mem_cons_of_mem _ hq)) h
    · exact lkF_spec (fun q hq => ho q (List.mem_cons_of_mem _ hq)) h
theorem EntOK.nil (P : Program) (f : Nat) : EntOK P f [] := fun p hp => by cases hp
theorem EntOK.cons {P : Program} {f : Nat} {xs : List AV} {v : Res} {l : List (List AV × Res)} (h : FnM P f [] xs v.1 v.2) (k : EntOK P f l) : EntOK P f ((xs, v) :: l) := fun p hp => by
  rcases List.mem_cons.1 hp with rfl | hp
  · exact h
  · exact k p hp
theorem TblOK.nil (P : Program) : TblOK P [] := fun p hp => by cases hp
theorem TblOK.cons {P : Program} {f : Nat} {l : List (List AV × Res)} {t : Tbl} (h : EntOK P f l) (k : TblOK P t) : TblOK P ((f, l) :: t) := fun p hp => by
  rcases List.mem_cons.1 hp with rfl | hp
  · exact h
  · exact k p hp
noncomputable def okE (x : Rn (AV × List (Nat × AO) × Nat)) (v : Res) : Bool := match x with
  | .ok (r, Mo, _) => eqA r v.1 && eqM Mo v.2
  | _ => false
theorem okE_fn {cf : Cfg} (hc : CfgOK cf) {k : Nat} {f : FuncId} {ys : List AV} {n : Nat} {v : Res} (h : okE (runF cf k f [] ys n) v = true) : FnM cf.P f [] ys v.1 v.2 := by
  unfold okE at h
  split at h
  · rename_i r Mo n' hr
    rw [Bool.and_eq_true] at h
    rw [← eqA_spec h.1, ← eqM_spec h.2]
    exact runF_ok hc k _ _ _ _ _ _ _ hr
  · cases h
end Go.Am
/- Contracts: claims that are consistent; slices.Grow at a nil slice of claims. -/
namespace Go.Proofs.YtkjpnmodlmlhdaaGreatDoor
set_option linter.unusedSimpArgs false
set_option linter.unusedVariables false
set_option linter.unnecessarySimpa false
set_option linter.unusedSectionVars false
set_option maxRecDepth 100000
open Go Go.RowKit Go.Am Go.Proofs.Grow Go.Shelf Go.Maps
theorem kint : Keyed Tryz.prog 3 := int_keyed Tryz.underlying3
theorem zint (w : World) : (zeroValue 3).run Tryz.prog w = .ok (.int .i64 0) w := by kernel_rfl
set_option maxRecDepth 100000 in
theorem cons_none (a : Option Addr) (cap : Nat) (w : World) : Calls Tryz.prog 165 #[.slice a 0 cap] w fun e w' => e = .returned (.bool true) ∧ Below w.heap.size w w' := by
  have hmm := @run_makeMap Tryz.prog
  go_enter Tryz.func165, Tryz.ntmps165
  go_wp2
  refine wp_loop_rounds 1 ?_
  rw [rounds_succ]
  go_wp2
  go_ret
  exact ⟨rfl, (Below.refl _ _).alloc (Nat.le_refl _) _⟩
set_option maxRecDepth 100000 in
theorem cons_one (b off cap : Nat) (w : World) (hb : b < w.heap.size) (h0 : w.cell? ⟨b, off, none⟩ = some (.int .i64 1)) (h1 : w.cell? ⟨b, off + 1, none⟩ = some (.int .i64 1)) :
    Calls Tryz.prog 165 #[.slice (some ⟨b, off, none⟩) 1 cap] w fun e w' => e = .returned (.bool true) ∧ Below w.heap.size w w' := by
  have hmm := @run_makeMap Tryz.prog
  go_enter Tryz.func165, Tryz.ntmps165
  go_wp2
  refine wp_loop_rounds 2 ?_
  rw [rounds_succ]
  have hown := (World.ownsMap_made w Tryz.prog 3 (plainElem (H := Unit) Tryz.prog 3)).alloc
  have hkey : keyOf Tryz.prog 3 (.int .i64 1) = some (.int .i64 1) := keyOf_int_mk Tryz.underlying3 (by decide)
  go_wp2_with (first
    | (at_lookup; refine wpList_lookup_own_ok_int _ rfl _ _ 250 rfl 3 3 .i64 kint Tryz.underlying250 Tryz.underlying3 (zint _) w.heap.size 0 _ rfl (hown _) _ _ rfl hkey ?_; intro c hat hwc)
    | (at_mapUpdate; refine wpList_mapUpdate_own _ rfl _ _ _ 250 rfl 3 3 kint Tryz.underlying250 _ w.heap.size 0 _ rfl (hown _) (by unfold maxLen; omega) _ _ _ rfl rfl hkey _ [] (plainElem_int Tryz.underlying3 (by decide)) ?_; intro w1 hown1 hgrow1)
    | go_in)
  rw [rounds_succ]
  go_wp2
  go_ret
  exact ⟨rfl, (((Below.refl _ _).alloc (Nat.le_refl _) _).alloc (by simp) _).grown hgrow1 (by simp; omega) (fun j hj => by cases hj; exact Nat.le_refl _)⟩
theorem fnm_pure {f : FuncId} {ys : List AV} {b : Bool} (h : ∀ (H : Nat → Prop) (μ : Nat → Option Value) (w : World) (vs : List Value), VRs H μ w ys vs → Calls Tryz.prog f vs.toArray w fun e w' => e = .returned (.bool b) ∧ Below w.heap.size w w') : FnM Tryz.prog f [] ys (vB b) [] := by
  intro H0 μ w vs hl hI
  refine (h _ _ w vs (args_vrs hl hI)).mono ?_
  rintro e w' ⟨rfl, hb⟩
  refine ⟨_, μ, rfl, ?_⟩
  have hno : ∀ b, ¬ Hot μ (lk ([] : List (Nat × AO))) b := by rintro b ⟨g, o, v, h1, _⟩; simp [lk] at h1
  refine ⟨fun u x hu => ?_, fun g o hg => by simp [lk] at hg, hI.inj, fun b hh => (hno b hh).elim, ⟨hb.os, hb.tape, hb.output, hb.size, fun k hk _ => hb.block k hk⟩, hI.free, hI.hs, hI.base, rfl, rfl⟩
  simp only [lk] at hu
  split at hu
  · rename_i hbq
    cases hu
    have := Nat.eq_of_beq_eq_true hbq
    subst this
    exact .d (.v _)
  · cases hu
/-- No claim, or the same one. -/
theorem cons0_m : FnM Tryz.prog 165 [] [.d (.v (.slice none 0 0))] (vB true) [] := fnm_pure fun H μ w vs hv => by
  have := hv.eq_vals (us := [.slice none 0 0]) rfl
  subst this
  exact cons_none none 0 w
theorem cons1_m : FnM Tryz.prog 165 [] [.d (.rows 2 [])] (vB true) [] := fnm_pure fun H μ w vs hv => by
  match vs, hv.1 with
  | [v], _ =>
    have h0 := hv.2 0 _ _ rfl rfl
    have h0' : VR H μ w (.d (.rows 2 [])) v := h0
    cases h0' with
    | d h => cases h with
      | nil sz a cap hc => exact cons_none a cap w
      | rows sz rs b off cap vs hne hcap hlen hb hlt hsz hcell hone hval => exact absurd rfl hne
theorem cons2_m : FnM Tryz.prog 165 [] [.d (.rows 2 [[.v (.int .i64 1), .v (.int .i64 1)]])] (vB true) [] := fnm_pure fun H μ w vs hv => by
  match vs, hv.1 with
  | [v], _ =>
    have h0 := hv.2 0 _ _ rfl rfl
    have h0' : VR H μ w (.d (.rows 2 [[.v (.int .i64 1), .v (.int .i64 1)]])) v := h0
    cases h0' with
    | d h => cases h with
      | rows sz rs b off cap vs hne hcap hlen hb hlt hsz hcell hone hval =>
        have a0 := hcell 0 _ 0 _ rfl rfl
        have a1 := hcell 0 _ 1 _ rfl rfl
        have b0 := hval 0 _ 0 _ rfl rfl
        have b1 := hval 0 _ 1 _ rfl rfl
        generalize vs 0 0 = x0 at *
        generalize vs 0 1 = x1 at *
        cases b0 with
        | v => cases b1 with
          | v => exact cons_one b off cap w hlt (by simpa using a0) (by simpa using a1)
def renG : Ren := { f := fun k => if k = 4 then 268 else k, t := fun k => if k = 22 then 104 else if k = 25 then 97 else k, g := fun k => k }
theorem layG : Lays8.n4 Tryz.prog renG where
  mixed := hmix
  f4 := ⟨Tryz.f268.name, by kernel_rfl, by kernel_rfl⟩
  t0 := by kernel_rfl
  a0 := fun w => rfl
  z0 := fun w => rfl
  v0 := fun w => rfl
  t3 := by kernel_rfl
  a3 := fun w => rfl
  z3 := fun w => rfl
  v3 := fun w => rfl
  t4 := by kernel_rfl
  a4 := fun w => rfl
  z4 := fun w => rfl
  v4 := fun w => rfl
  t9 := by kernel_rfl
  a9 := fun w => rfl
  z9 := fun w => rfl
  v9 := fun w => rfl
  t20 := by kernel_rfl
  a20 := fun w => rfl
  z20 := fun w => rfl
  v20 := fun w => rfl
  t22 := by kernel_rfl
  a22 := fun w => rfl
  z22 := fun w => rfl
  v22 := fun w => rfl
theorem inf_ex : ∃ i0, Tryz.prog.info? 97 = some i0 ∧ i0.size = 2 ∧ i0.bytes = 16 ∧ i0.zero = some (.agg #[.int .i64 0, .int .i64 0]) := by
  have h : (Tryz.prog.info? 97).isSome = true := by kernel_rfl
  have h1 : (Tryz.prog.info? 97).map TypeInfo.size = some 2 := by kernel_rfl
  have h2 : (Tryz.prog.info? 97).map TypeInfo.bytes = some 16 := by kernel_rfl
  have h3 : (Tryz.prog.info? 97).map TypeInfo.zero = some (some (.agg #[.int .i64 0, .int .i64 0])) := by kernel_rfl
  obtain ⟨i0, hi⟩ := Option.isSome_iff_exists.1 h
  rw [hi] at h1 h2 h3
  exact ⟨i0, hi, Option.some.inj h1, Option.some.inj h2, Option.some.inj h3⟩
theorem grow_w (n : Nat) (w : World) (n0 : 0 < n) (n1 : n ≤ 1000) : Calls Tryz.prog 268 #[.slice none 0 0, .int .i64 n] w fun e w' =>
    ∃ c cur, e = .returned (.slice (some ⟨w.heap.size, 0, none⟩) 0 c) ∧ w' = w.drew.alloc (.cells cur 97) ∧ cur.size = c * 2 ∧ c ≤ maxLen := by
  obtain ⟨i0, hi, hs, hb, hz⟩ := inf_ex
  have h := Any8.slices_Grow_grow layG i0 _ hi hz (by rw [hs]; decide) none 0 0 n [] w (Nat.le_refl _) (by omega) (by rw [hb]; omega) (by omega) (by simp) (fun _ => rfl) (fun a ha => by cases ha)
  refine h.mono fun e w' ⟨h1, h2⟩ => ⟨_, _, h1, h2, ?_, ?_⟩
  · have hg := grownCap_ge w (0 + n) 0 (renG.t 25)
    generalize grownCap w (0 + n) 0 (renG.t 25) = G at *
    have hc2 : (Value.agg #[.int .i64 0, .int .i64 0]).cells.size = 2 := by rfl
    simp [Builtin.zeroCells]
    rw [hc2]; omega
  · exact grownCap_le_maxLen w (0 + n) 0 (renG.t 25) (by unfold maxLen; omega)
theorem grow_ob (c : Nat) (cur : Array Value) (w : World) (hc : cur.size = c * 2) (hm : c ≤ maxLen) {H : Nat → Prop} {μ : Nat → Option Value} {g : Nat} (hμ : μ g = some (.slice (some ⟨w.heap.size, 0, none⟩) 0 c)) : OR H μ (w.drew.alloc (.cells cur 97)) g (.arr 97 2 []) := by
  refine ⟨_, [], hμ, ⟨rfl, .inr ⟨w.heap.size, c, cur, rfl, Nat.zero_le _, ?_, Nat.zero_le _, hm, hc, by simp⟩⟩, by simp, ?_, by simp⟩
  · exact heap_alloc_new w.drew _
  · exact ⟨rfl, by simp⟩
theorem grow_pm (g n : Nat) (n0 : 0 < n) (n1 : n ≤ 1000) : FnM Tryz.prog 268 [] [.d (.v (.slice none 0 0)), vI n] (.own g) [(g, .arr 97 2 [])] := by
  intro H0 μ w vs hl hI
  have hv := (args_vrs hl hI).eq_vals (us := [.slice none 0 0, .int .i64 n]) rfl
  subst hv
  refine (grow_w n w n0 n1).mono ?_
  rintro e w' ⟨c, cur, rfl, rfl, hc, hm⟩
  have hch : Chg (fun _ => False) w (w.drew.alloc (.cells cur 97)) := ⟨rfl, rfl, rfl, by simp, fun k hk _ => heap_alloc_old w.drew _ hk⟩
  have h2 := hI.new (w2 := w.drew.alloc (.cells cur 97)) (g := g) (o := .arr 97 2 []) (v := .slice (some ⟨w.heap.size, 0, none⟩) 0 c) rfl hch rfl (fun b hb => by obtain rfl := Option.some.inj hb; simp) (fun H' _ _ => grow_ob c cur w hc hm (upμ_self _ _))
  have e : upM (lk []) [(g, AO.arr 97 2 [])] = lk [(g, .arr 97 2 [])] := upM_cons
  rw [e] at h2
  refine ⟨_, _, rfl, fun t x ht => ?_, h2.ob, h2.inj, h2.lo, h2.fr, h2.free, h2.hs, h2.base, rfl, rfl⟩
  simp only [lk] at ht
  split at ht
  · rename_i hb
    have := Nat.eq_of_beq_eq_true hb
    subst this
    obtain rfl := Option.some.inj ht
    exact .own (upμ_self _ _)
  · cases ht
end Go.Proofs.YtkjpnmodlmlhdaaGreatDoor
/- Reckoned calls: trusts in two of three nodes; the meetings of the script. -/
namespace Go.Proofs.YtkjpnmodlmlhdaaGreatDoor
set_option linter.unusedSimpArgs false
set_option linter.unusedVariables false
set_option linter.unnecessarySimpa false
set_option linter.unusedSectionVars false
set_option maxRecDepth 100000
open Go Go.RowKit Go.Am Go.Proofs.Grow
def xn (n : Nat) : D := .v (.int .i64 (Int.ofNat n))
def xl : D := .v (.slice none 0 0)
def xT : D := .v (.bool true)
def xF : D := .v (.bool false)
def xv (n : Nat) : AV := .d (xn n)
/-- Two of three. -/
def xTr : AV := .agg [.d (xn 2), .d (.rows 1 [[xn 0], [xn 1], [xn 2]]), .d xl]
/-- A message is sent. -/
def xsd (f t : Nat) : AV := .agg [xv 2, xv f, xv t, xv 0, xv 0, xv 0, .d xl, .d xl, xv 0, xv 0, xv 0, .d xl, .d xl, .d xl, .d xl]
def tS : Tbl := [(165, [([.d xl], (.d xT, [])), ([.d (.rows 2 [])], (.d xT, [])), ([.d (.rows 2 [[xn 1, xn 1]])], (.d xT, []))])]
theorem tS_ok : TblOK Tryz.prog tS := .cons (.cons cons0_m (.cons cons1_m (.cons cons2_m (.nil _ _)))) (.nil _)
noncomputable def ktS (f : FuncId) (xs : List AV) (g : Nat) : Option Res := match Nat.beq f 268 with
  | true => match xs with
    | [.d (.v (.slice none 0 0)), .d (.v (.int .i64 (.ofNat n)))] => match Nat.blt 0 n && Nat.ble n 1000 with
      | true => some (.own g, [(g, .arr 97 2 [])])
      | false => none
    | _ => none
  | false => lkF tS f xs
theorem ktS_ok {f : FuncId} {xs : List AV} {g : Nat} {r : Res} (h : ktS f xs g = some r) : FnM Tryz.prog f [] xs r.1 r.2 := by
  unfold ktS at h
  split at h
  · rename_i hf
    have := Nat.eq_of_beq_eq_true hf; subst this
    split at h
    · rename_i n
      split at h
      · rename_i hb
        rw [Bool.and_eq_true] at hb
        obtain rfl := Option.some.inj h
        exact grow_pm g n (Nat.le_of_ble_eq_true hb.1) (Nat.le_of_ble_eq_true hb.2)
      · cases h
    · cases h
  · exact lkF_spec tS_ok h
noncomputable def ktX (t : Tbl) (f : FuncId) (xs : List AV) (g : Nat) : Option Res := match ktS f xs g with
  | some r => some r
  | none => lkF t f xs
noncomputable def cfX (t : Tbl) : Cfg := { P := Tryz.prog, tt := ttT, fs := fsT.get, kt := ktX t, pol := fun _ => true }
theorem cfX_ok {t : Tbl} (ht : TblOK Tryz.prog t) : CfgOK (cfX t) := ⟨mixT, ttT_ok, ttT_ord, fun f fn h => BT.good_get fsT_good f fn h, fun f xs g res Mo h => by
  have h' : ktX t f xs g = some (res, Mo) := h
  unfold ktX at h'
  split at h'
  · rename_i r hr
    obtain rfl := Option.some.inj h'
    exact ktS_ok hr
  · exact lkF_spec ht h'⟩
theorem e59_0 : okE (runF (cfX []) 60 191 [] [xTr, xv 0] 0) (.d xF, []) = true := by kernel_rfl
theorem e59_1 : okE (runF (cfX []) 60 191 [] [xTr, xv 1] 0) (.d xF, []) = true := by kernel_rfl
theorem e59_2 : okE (runF (cfX []) 60 191 [] [xTr, xv 2] 0) (.d xF, []) = true := by kernel_rfl
theorem e59_3 : okE (runF (cfX []) 60 191 [] [xTr, xv 3] 0) (.d xT, []) = true := by kernel_rfl
theorem e59_4 : okE (runF (cfX []) 60 191 [] [xTr, xv 4] 0) (.d xF, []) = true := by kernel_rfl
theorem e59_5 : okE (runF (cfX []) 60 191 [] [xTr, xv 5] 0) (.d xT, []) = true := by kernel_rfl
theorem e59_6 : okE (runF (cfX []) 60 191 [] [xTr, xv 6] 0) (.d xT, []) = true := by kernel_rfl
theorem e59_7 : okE (runF (cfX []) 60 191 [] [xTr, xv 7] 0) (.d xT, []) = true := by kernel_rfl
theorem e59_1016 : okE (runF (cfX []) 60 191 [] [xTr, xv 1016] 0) (.d xF, []) = true := by kernel_rfl
theorem e59_1017 : okE (runF (cfX []) 60 191 [] [xTr, xv 1017] 0) (.d xF, []) = true := by kernel_rfl
theorem e59_1018 : okE (runF (cfX []) 60 191 [] [xTr, xv 1018] 0) (.d xF, []) = true := by kernel_rfl
theorem e59_1019 : okE (runF (cfX []) 60 191 [] [xTr, xv 1019] 0) (.d xT, []) = true := by kernel_rfl
theorem e59_1020 : okE (runF (cfX []) 60 191 [] [xTr, xv 1020] 0) (.d xF, []) = true := by kernel_rfl
theorem e59_1021 : okE (runF (cfX []) 60 191 [] [xTr, xv 1021] 0) (.d xT, []) = true := by kernel_rfl
theorem e59_1022 : okE (runF (cfX []) 60 191 [] [xTr, xv 1022] 0) (.d xT, []) = true := by kernel_rfl
theorem e59_1023 : okE (runF (cfX []) 60 191 [] [xTr, xv 1023] 0) (.d xT, []) = true := by kernel_rfl
theorem e93 : okE (runF (cfX []) 60 87 [] [xTr] 0) (xv 0, []) = true := by kernel_rfl
theorem e94 : okE (runF (cfX []) 60 30 [] [xTr] 0) (xv 7, []) = true := by kernel_rfl
theorem e193 : okE (runF (cfX []) 60 44 [] [xTr, xTr] 0) (.d xT, []) = true := by kernel_rfl
def t0 : Tbl := [(191, [([xTr, xv 0], (.d xF, [])), ([xTr, xv 1], (.d xF, [])), ([xTr, xv 2], (.d xF, [])), ([xTr, xv 3], (.d xT, [])), ([xTr, xv 4], (.d xF, [])), ([xTr, xv 5], (.d xT, [])), ([xTr, xv 6], (.d xT, [])), ([xTr, xv 7], (.d xT, [])), ([xTr, xv 1016], (.d xF, [])), ([xTr, xv 1017], (.d xF, [])), ([xTr, xv 1018], (.d xF, [])), ([xTr, xv 1019], (.d xT, [])), ([xTr, xv 1020], (.d xF, [])), ([xTr, xv 1021], (.d xT, [])), ([xTr, xv 1022], (.d xT, [])), ([xTr, xv 1023], (.d xT, []))]), (87, [([xTr], (xv 0, []))]), (30, [([xTr], (xv 7, []))]), (44, [([xTr, xTr], (.d xT, []))])]
theorem t0_ok : TblOK Tryz.prog t0 := .cons (.cons (okE_fn (cfX_ok (.nil _)) e59_0) (.cons (okE_fn (cfX_ok (.nil _)) e59_1) (.cons (okE_fn (cfX_ok (.nil _)) e59_2) (.cons (okE_fn (cfX_ok (.nil _)) e59_3) (.cons (okE_fn (cfX_ok (.nil _)) e59_4) (.cons (okE_fn (cfX_ok (.nil _)) e59_5) (.cons (okE_fn (cfX_ok (.nil _)) e59_6) (.cons (okE_fn (cfX_ok (.nil _)) e59_7) (.cons (okE_fn (cfX_ok (.nil _)) e59_1016) (.cons (okE_fn (cfX_ok (.nil _)) e59_1017) (.cons (okE_fn (cfX_ok (.nil _)) e59_1018) (.cons (okE_fn (cfX_ok (.nil _)) e59_1019) (.cons (okE_fn (cfX_ok (.nil _)) e59_1020) (.cons (okE_fn (cfX_ok (.nil _)) e59_1021) (.cons (okE_fn (cfX_ok (.nil _)) e59_1022) (.cons (okE_fn (cfX_ok (.nil _)) e59_1023) (.nil _ _))))))))))))))))) (.cons (.cons (okE_fn (cfX_ok (.nil _)) e93) (.nil _ _)) (.cons (.cons (okE_fn (cfX_ok (.nil _)) e94) (.nil _ _)) (.cons (.cons (okE_fn (cfX_ok (.nil _)) e193) (.nil _ _)) (.nil _))))
def mt0 : AV := .agg [.d (.rows 9 [[xn 0, xn 2, xn 2, .rows 1 [[xn 0], [xn 1], [xn 2]], xl, .rows 2 [[xn 1, xn 1]], xl, xl, xl], [xn 1, xn 1, xn 2, .rows 1 [[xn 0], [xn 1], [xn 2]], xl, xl, xl, xl, xl], [xn 2, xn 2, xn 2, .rows 1 [[xn 0], [xn 1], [xn 2]], xl, .rows 2 [[xn 1, xn 1]], xl, xl, xl]]), .d (xn 0), .d (xn 0)]
def mt1 : AV := .agg [.d (.rows 9 [[xn 0, xn 2, xn 2, .rows 1 [[xn 0], [xn 1], [xn 2]], xl, .rows 2 [[xn 1, xn 1]], xl, xl, xl], [xn 1, xn 1, xn 2, .rows 1 [[xn 0], [xn 1], [xn 2]], xl, xl, xl, xl, .rows 7 [[xn 0, xn 2, xn 2, .rows 1 [[xn 0], [xn 1], [xn 2]], xl, .rows 2 [[xn 1, xn 1]], xl]]], [xn 2, xn 2, xn 2, .rows 1 [[xn 0], [xn 1], [xn 2]], xl, .rows 2 [[xn 1, xn 1]], xl, xl, xl]]), .d (xn 0), .d (xn 0)]
def mt2 : AV := .agg [.d (.rows 9 [[xn 0, xn 2, xn 2, .rows 1 [[xn 0], [xn 1], [xn 2]], xl, .rows 2 [[xn 1, xn 1]], xl, xl, xl], [xn 1, xn 1, xn 2, .rows 1 [[xn 0], [xn 1], [xn 2]], xl, xl, xl, xl, .rows 7 [[xn 0, xn 2, xn 2, .rows 1 [[xn 0], [xn 1], [xn 2]], xl, .rows 2 [[xn 1, xn 1]], xl]]], [xn 2, xn 3, xn 2, .rows 1 [[xn 0], [xn 1], [xn 2]], xl, .rows 2 [[xn 1, xn 1]], .rows 2 [[xn 1, xn 1]], xl, .rows 7 [[xn 0, xn 2, xn 2, .rows 1 [[xn 0], [xn 1], [xn 2]], xl, .rows 2 [[xn 1, xn 1]], xl]]]]), .d (xn 0), .d (xn 0)]
def mt3 : AV := .agg [.d (.rows 9 [[xn 0, xn 2, xn 2, .rows 1 [[xn 0], [xn 1], [xn 2]], xl, .rows 2 [[xn 1, xn 1]], xl, xl, .rows 7 [[xn 1, xn 1, xn 2, .rows 1 [[xn 0], [xn 1], [xn 2]], xl, xl, xl]]], [xn 1, xn 1, xn 2, .rows 1 [[xn 0], [xn 1], [xn 2]], xl, xl, xl, xl, .rows 7 [[xn 0, xn 2, xn 2, .rows 1 [[xn 0], [xn 1], [xn 2]], xl, .rows 2 [[xn 1, xn 1]], xl]]], [xn 2, xn 3, xn 2, .rows 1 [[xn 0], [xn 1], [xn 2]], xl, .rows 2 [[xn 1, xn 1]], .rows 2 [[xn 1, xn 1]], xl, .rows 7 [[xn 0, xn 2, xn 2, .rows 1 [[xn 0], [xn 1], [xn 2]], xl, .rows 2 [[xn 1, xn 1]], xl]]]]), .d (xn 0), .d (xn 0)]
def mt4 : AV := .agg [.d (.rows 9 [[xn 0, xn 2, xn 2, .rows 1 [[xn 0], [xn 1], [xn 2]], xl, .rows 2 [[xn 1, xn 1]], xl, xl, .rows 7 [[xn 1, xn 1, xn 2, .rows 1 [[xn 0], [xn 1], [xn 2]], xl, xl, xl]]], [xn 1, xn 1, xn 2, .rows 1 [[xn 0], [xn 1], [xn 2]], xl, xl, xl, xl, .rows 7 [[xn 0, xn 2, xn 2, .rows 1 [[xn 0], [xn 1], [xn 2]], xl, .rows 2 [[xn 1, xn 1]], xl]]], [xn 2, xn 3, xn 2, .rows 1 [[xn 0], [xn 1], [xn 2]], xl, .rows 2 [[xn 1, xn 1]], .rows 2 [[xn 1, xn 1]], xl, .rows 7 [[xn 0, xn 2, xn 2, .rows 1 [[xn 0], [xn 1], [xn 2]], xl, .rows 2 [[xn 1, xn 1]], xl], [xn 1, xn 1, xn 2, .rows 1 [[xn 0], [xn 1], [xn 2]], xl, xl, xl]]]]), .d (xn 0), .d (xn 0)]
def mt5 : AV := .agg [.d (.rows 9 [[xn 0, xn 3, xn 2, .rows 1 [[xn 0], [xn 1], [xn 2]], xl, .rows 2 [[xn 1, xn 1]], .rows 2 [[xn 1, xn 1]], .rows 2 [[xn 1, xn 1]], .rows 7 [[xn 1, xn 1, xn 2, .rows 1 [[xn 0], [xn 1], [xn 2]], xl, xl, xl], [xn 2, xn 3, xn 2, .rows 1 [[xn 0], [xn 1], [xn 2]], xl, .rows 2 [[xn 1, xn 1]], .rows 2 [[xn 1, xn 1]]]]], [xn 1, xn 1, xn 2, .rows 1 [[xn 0], [xn 1], [xn 2]], xl, xl, xl, xl, .rows 7 [[xn 0, xn 2, xn 2, .rows 1 [[xn 0], [xn 1], [xn 2]], xl, .rows 2 [[xn 1, xn 1]], xl]]], [xn 2, xn 3, xn 2, .rows 1 [[xn 0], [xn 1], [xn 2]], xl, .rows 2 [[xn 1, xn 1]], .rows 2 [[xn 1, xn 1]], xl, .rows 7 [[xn 0, xn 2, xn 2, .rows 1 [[xn 0], [xn 1], [xn 2]], xl, .rows 2 [[xn 1, xn 1]], xl], [xn 1, xn 1, xn 2, .rows 1 [[xn 0], [xn 1], [xn 2]], xl, xl, xl]]]]), .d (xn 0), .d (xn 0)]
def mt6 : AV := .agg [.d (.rows 9 [[xn 0, xn 3, xn 2, .rows 1 [[xn 0], [xn 1], [xn 2]], xl, .rows 2 [[xn 1, xn 1]], .rows 2 [[xn 1, xn 1]], .rows 2 [[xn 1, xn 1]], .rows 7 [[xn 1, xn 1, xn 2, .rows 1 [[xn 0], [xn 1], [xn 2]], xl, xl, xl], [xn 2, xn 3, xn 2, .rows 1 [[xn 0], [xn 1], [xn 2]], xl, .rows 2 [[xn 1, xn 1]], .rows 2 [[xn 1, xn 1]]]]], [xn 1, xn 1, xn 2, .rows 1 [[xn 0], [xn 1], [xn 2]], xl, xl, xl, xl, .rows 7 [[xn 0, xn 2, xn 2, .rows 1 [[xn 0], [xn 1], [xn 2]], xl, .rows 2 [[xn 1, xn 1]], xl], [xn 2, xn 3, xn 2, .rows 1 [[xn 0], [xn 1], [xn 2]], xl, .rows 2 [[xn 1, xn 1]], .rows 2 [[xn 1, xn 1]]]]], [xn 2, xn 3, xn 2, .rows 1 [[xn 0], [xn 1], [xn 2]], xl, .rows 2 [[xn 1, xn 1]], .rows 2 [[xn 1, xn 1]], xl, .rows 7 [[xn 0, xn 2, xn 2, .rows 1 [[xn 0], [xn 1], [xn 2]], xl, .rows 2 [[xn 1, xn 1]], xl], [xn 1, xn 1, xn 2, .rows 1 [[xn 0], [xn 1], [xn 2]], xl, xl, xl]]]]), .d (xn 0), .d (xn 0)]
def mt7 : AV := .agg [.d (.rows 9 [[xn 0, xn 3, xn 2, .rows 1 [[xn 0], [xn 1], [xn 2]], xl, .rows 2 [[xn 1, xn 1]], .rows 2 [[xn 1, xn 1]], .rows 2 [[xn 1, xn 1]], .rows 7 [[xn 1, xn 1, xn 2, .rows 1 [[xn 0], [xn 1], [xn 2]], xl, xl, xl], [xn 2, xn 3, xn 2, .rows 1 [[xn 0], [xn 1], [xn 2]], xl, .rows 2 [[xn 1, xn 1]], .rows 2 [[xn 1, xn 1]]]]], [xn 1, xn 2, xn 2, .rows 1 [[xn 0], [xn 1], [xn 2]], xl, xl, .rows 2 [[xn 1, xn 1]], .rows 2 [[xn 1, xn 1]], .rows 7 [[xn 0, xn 3, xn 2, .rows 1 [[xn 0], [xn 1], [xn 2]], xl, .rows 2 [[xn 1, xn 1]], .rows 2 [[xn 1, xn 1]]], [xn 2, xn 3, xn 2, .rows 1 [[xn 0], [xn 1], [xn 2]], xl, .rows 2 [[xn 1, xn 1]], .rows 2 [[xn 1, xn 1]]]]], [xn 2, xn 3, xn 2, .rows 1 [[xn 0], [xn 1], [xn 2]], xl, .rows 2 [[xn 1, xn 1]], .rows 2 [[xn 1, xn 1]], xl, .rows 7 [[xn 0, xn 2, xn 2, .rows 1 [[xn 0], [xn 1], [xn 2]], xl, .rows 2 [[xn 1, xn 1]], xl], [xn 1, xn 1, xn 2, .rows 1 [[xn 0], [xn 1], [xn 2]], xl, xl, xl]]]]), .d (xn 0), .d (xn 0)]
def mt8 : AV := .agg [.d (.rows 9 [[xn 0, xn 3, xn 2, .rows 1 [[xn 0], [xn 1], [xn 2]], xl, .rows 2 [[xn 1, xn 1]], .rows 2 [[xn 1, xn 1]], .rows 2 [[xn 1, xn 1]], .rows 7 [[xn 1, xn 1, xn 2, .rows 1 [[xn 0], [xn 1], [xn 2]], xl, xl, xl], [xn 2, xn 3, xn 2, .rows 1 [[xn 0], [xn 1], [xn 2]], xl, .rows 2 [[xn 1, xn 1]], .rows 2 [[xn 1, xn 1]]]]], [xn 1, xn 2, xn 2, .rows 1 [[xn 0], [xn 1], [xn 2]], xl, xl, .rows 2 [[xn 1, xn 1]], .rows 2 [[xn 1, xn 1]], .rows 7 [[xn 0, xn 3, xn 2, .rows 1 [[xn 0], [xn 1], [xn 2]], xl, .rows 2 [[xn 1, xn 1]], .rows 2 [[xn 1, xn 1]]], [xn 2, xn 3, xn 2, .rows 1 [[xn 0], [xn 1], [xn 2]], xl, .rows 2 [[xn 1, xn 1]], .rows 2 [[xn 1, xn 1]]]]], [xn 2, xn 3, xn 2, .rows 1 [[xn 0], [xn 1], [xn 2]], xl, .rows 2 [[xn 1, xn 1]], .rows 2 [[xn 1, xn 1]], .rows 2 [[xn 1, xn 1]], .rows 7 [[xn 0, xn 3, xn 2, .rows 1 [[xn 0], [xn 1], [xn 2]], xl, .rows 2 [[xn 1, xn 1]], .rows 2 [[xn 1, xn 1]]], [xn 1, xn 1, xn 2, .rows 1 [[xn 0], [xn 1], [xn 2]], xl, xl, xl]]]]), .d (xn 0), .d (xn 0)]
def mt9 : AV := .agg [.d (.rows 9 [[xn 0, xn 3, xn 2, .rows 1 [[xn 0], [xn 1], [xn 2]], xl, .rows 2 [[xn 1, xn 1]], .rows 2 [[xn 1, xn 1]], .rows 2 [[xn 1, xn 1]], .rows 7 [[xn 1, xn 2, xn 2, .rows 1 [[xn 0], [xn 1], [xn 2]], xl, xl, .rows 2 [[xn 1, xn 1]]], [xn 2, xn 3, xn 2, .rows 1 [[xn 0], [xn 1], [xn 2]], xl, .rows 2 [[xn 1, xn 1]], .rows 2 [[xn 1, xn 1]]]]], [xn 1, xn 2, xn 2, .rows 1 [[xn 0], [xn 1], [xn 2]], xl, xl, .rows 2 [[xn 1, xn 1]], .rows 2 [[xn 1, xn 1]], .rows 7 [[xn 0, xn 3, xn 2, .rows 1 [[xn 0], [xn 1], [xn 2]], xl, .rows 2 [[xn 1, xn 1]], .rows 2 [[xn 1, xn 1]]], [xn 2, xn 3, xn 2, .rows 1 [[xn 0], [xn 1], [xn 2]], xl, .rows 2 [[xn 1, xn 1]], .rows 2 [[xn 1, xn 1]]]]], [xn 2, xn 3, xn 2, .rows 1 [[xn 0], [xn 1], [xn 2]], xl, .rows 2 [[xn 1, xn 1]], .rows 2 [[xn 1, xn 1]], .rows 2 [[xn 1, xn 1]], .rows 7 [[xn 0, xn 3, xn 2, .rows 1 [[xn 0], [xn 1], [xn 2]], xl, .rows 2 [[xn 1, xn 1]], .rows 2 [[xn 1, xn 1]]], [xn 1, xn 1, xn 2, .rows 1 [[xn 0], [xn 1], [xn 2]], xl, xl, xl]]]]), .d (xn 0), .d (xn 0)]
def mt10 : AV := .agg [.d (.rows 9 [[xn 0, xn 3, xn 2, .rows 1 [[xn 0], [xn 1], [xn 2]], xl, .rows 2 [[xn 1, xn 1]], .rows 2 [[xn 1, xn 1]], .rows 2 [[xn 1, xn 1]], .rows 7 [[xn 1, xn 2, xn 2, .rows 1 [[xn 0], [xn 1], [xn 2]], xl, xl, .rows 2 [[xn 1, xn 1]]], [xn 2, xn 3, xn 2, .rows 1 [[xn 0], [xn 1], [xn 2]], xl, .rows 2 [[xn 1, xn 1]], .rows 2 [[xn 1, xn 1]]]]], [xn 1, xn 2, xn 2, .rows 1 [[xn 0], [xn 1], [xn 2]], xl, xl, .rows 2 [[xn 1, xn 1]], .rows 2 [[xn 1, xn 1]], .rows 7 [[xn 0, xn 3, xn 2, .rows 1 [[xn 0], [xn 1], [xn 2]], xl, .rows 2 [[xn 1, xn 1]], .rows 2 [[xn 1, xn 1]]], [xn 2, xn 3, xn 2, .rows 1 [[xn 0], [xn 1], [xn 2]], xl, .rows 2 [[xn 1, xn 1]], .rows 2 [[xn 1, xn 1]]]]], [xn 2, xn 3, xn 2, .rows 1 [[xn 0], [xn 1], [xn 2]], xl, .rows 2 [[xn 1, xn 1]], .rows 2 [[xn 1, xn 1]], .rows 2 [[xn 1, xn 1]], .rows 7 [[xn 0, xn 3, xn 2, .rows 1 [[xn 0], [xn 1], [xn 2]], xl, .rows 2 [[xn 1, xn 1]], .rows 2 [[xn 1, xn 1]]], [xn 1, xn 2, xn 2, .rows 1 [[xn 0], [xn 1], [xn 2]], xl, xl, .rows 2 [[xn 1, xn 1]]]]]]), .d (xn 0), .d (xn 0)]
end Go.Proofs.YtkjpnmodlmlhdaaGreatDoor
/- Reckoned calls: the configuration is read; its minimal quorums. -/
namespace Go.Proofs.YtkjpnmodlmlhdaaGreatDoor
set_option linter.unusedSimpArgs false
set_option linter.unusedVariables false
set_option linter.unnecessarySimpa false
set_option linter.unusedSectionVars false
set_option maxRecDepth 100000
open Go Go.RowKit Go.Am Go.Proofs.Grow
def xsrc : AV := .d (.v (.string ⟨#[48, 58, 32, 50, 32, 111, 102, 32, 40, 48, 44, 32, 49, 44, 32, 50, 41, 10, 49, 58, 32, 50, 32, 111, 102, 32, 40, 48, 44, 32, 49, 44, 32, 50, 41, 10, 50, 58, 32, 50, 32, 111, 102, 32, 40, 48, 44, 32, 49, 44, 32, 50, 41, 10]⟩))
def xmem : List D := [xT, xn 2, .rows 1 [[xn 0], [xn 1], [xn 2]], xl]
def xc3 : AV := .agg [.d (.rows 4 [xmem, xmem, xmem])]
theorem e36 : okE (runF (cfX t0) 60 45 [] [xsrc] 0) (.tup [xc3, xv 0, xv 0], []) = true := by kernel_rfl
theorem e37 : okE (runF (cfX t0) 60 18 [] [xc3] 0) (.tup [.own 5168, xv 0], [(5168, .arr 3 1 [[xn 3], [xn 5], [xn 6]])]) = true := by kernel_rfl
end Go.Proofs.YtkjpnmodlmlhdaaGreatDoor
/- Reckoned calls: steps of the meeting. -/
namespace Go.Proofs.YtkjpnmodlmlhdaaGreatDoor
set_option linter.unusedSimpArgs false
set_option linter.unusedVariables false
set_option linter.unnecessarySimpa false
set_option linter.unusedSectionVars false
set_option maxRecDepth 100000
open Go Go.RowKit Go.Am Go.Proofs.Grow
theorem st0_00 : okE (runF (cfX t0) 60 77 [] [mt0, xsd 0 0] 0) (.tup [.agg [.d (xl), .d (xn 0), .d (xn 0)], xv 1], []) = true := by kernel_rfl
theorem st0_01 : okE (runF (cfX t0) 60 77 [] [mt0, xsd 0 1] 0) (.tup [mt1, xv 0], []) = true := by kernel_rfl
theorem st1_02 : okE (runF (cfX t0) 60 77 [] [mt1, xsd 0 2] 0) (.tup [mt2, xv 0], []) = true := by kernel_rfl
end Go.Proofs.YtkjpnmodlmlhdaaGreatDoor
/- Reckoned calls: steps of the meeting. -/
namespace Go.Proofs.YtkjpnmodlmlhdaaGreatDoor
set_option linter.unusedSimpArgs false
set_option linter.unusedVariables false
set_option linter.unnecessarySimpa false
set_option linter.unusedSectionVars false
set_option maxRecDepth 100000
open Go Go.RowKit Go.Am Go.Proofs.Grow
theorem st2_10 : okE (runF (cfX t0) 60 77 [] [mt2, xsd 1 0] 0) (.tup [mt3, xv 0], []) = true := by kernel_rfl
theorem st3_11 : okE (runF (cfX t0) 60 77 [] [mt3, xsd 1 1] 0) (.tup [.agg [.d (xl), .d (xn 0), .d (xn 0)], xv 1], []) = true := by kernel_rfl
theorem st3_12 : okE (runF (cfX t0) 60 77 [] [mt3, xsd 1 2] 0) (.tup [mt4, xv 0], []) = true := by kernel_rfl
end Go.Proofs.YtkjpnmodlmlhdaaGreatDoor
/- Reckoned calls: steps of the meeting. -/
namespace Go.Proofs.YtkjpnmodlmlhdaaGreatDoor
set_option linter.unusedSimpArgs false
set_option linter.unusedVariables false
set_option linter.unnecessarySimpa false
set_option linter.unusedSectionVars false
set_option maxRecDepth 100000
open Go Go.RowKit Go.Am Go.Proofs.Grow
theorem st4_20 : okE (runF (cfX t0) 60 77 [] [mt4, xsd 2 0] 0) (.tup [mt5, xv 0], []) = true := by kernel_rfl
theorem st5_21 : okE (runF (cfX t0) 60 77 [] [mt5, xsd 2 1] 0) (.tup [mt6, xv 0], []) = true := by kernel_rfl
theorem st6_22 : okE (runF (cfX t0) 60 77 [] [mt6, xsd 2 2] 0) (.tup [.agg [.d (xl), .d (xn 0), .d (xn 0)], xv 1], []) = true := by kernel_rfl
theorem st6_00 : okE (runF (cfX t0) 60 77 [] [mt6, xsd 0 0] 0) (.tup [.agg [.d (xl), .d (xn 0), .d (xn 0)], xv 1], []) = true := by kernel_rfl
end Go.Proofs.YtkjpnmodlmlhdaaGreatDoor
/- Reckoned calls: steps of the meeting. -/
namespace Go.Proofs.YtkjpnmodlmlhdaaGreatDoor
set_option linter.unusedSimpArgs false
set_option linter.unusedVariables false
set_option linter.unnecessarySimpa false
set_option linter.unusedSectionVars false
set_option maxRecDepth 100000
open Go Go.RowKit Go.Am Go.Proofs.Grow
theorem st6_01 : okE (runF (cfX t0) 60 77 [] [mt6, xsd 0 1] 0) (.tup [mt7, xv 0], []) = true := by kernel_rfl
theorem st7_02 : okE (runF (cfX t0) 60 77 [] [mt7, xsd 0 2] 0) (.tup [mt8, xv 0], []) = true := by kernel_rfl
theorem st8_10 : okE (runF (cfX t0) 60 77 [] [mt8, xsd 1 0] 0) (.tup [mt9, xv 0], []) = true := by kernel_rfl
theorem st9_11 : okE (runF (cfX t0) 60 77 [] [mt9, xsd 1 1] 0) (.tup [.agg [.d (xl), .d (xn 0), .d (xn 0)], xv 1], []) = true := by kernel_rfl
end Go.Proofs.YtkjpnmodlmlhdaaGreatDoor
/- Reckoned calls: steps of the meeting. -/
namespace Go.Proofs.YtkjpnmodlmlhdaaGreatDoor
set_option linter.unusedSimpArgs false
set_option linter.unusedVariables false
set_option linter.unnecessarySimpa false
set_option linter.unusedSectionVars false
set_option maxRecDepth 100000
open Go Go.RowKit Go.Am Go.Proofs.Grow
theorem st9_12 : okE (runF (cfX t0) 60 77 [] [mt9, xsd 1 2] 0) (.tup [mt10, xv 0], []) = true := by kernel_rfl
theorem st10_20 : okE (runF (cfX t0) 60 77 [] [mt10, xsd 2 0] 0) (.tup [.agg [.d (xl), .d (xn 0), .d (xn 0)], xv 9], []) = true := by kernel_rfl
theorem st10_21 : okE (runF (cfX t0) 60 77 [] [mt10, xsd 2 1] 0) (.tup [.agg [.d (xl), .d (xn 0), .d (xn 0)], xv 9], []) = true := by kernel_rfl
theorem st10_22 : okE (runF (cfX t0) 60 77 [] [mt10, xsd 2 2] 0) (.tup [.agg [.d (xl), .d (xn 0), .d (xn 0)], xv 1], []) = true := by kernel_rfl
theorem st10_00 : okE (runF (cfX t0) 60 77 [] [mt10, xsd 0 0] 0) (.tup [.agg [.d (xl), .d (xn 0), .d (xn 0)], xv 1], []) = true := by kernel_rfl
theorem st10_01 : okE (runF (cfX t0) 60 77 [] [mt10, xsd 0 1] 0) (.tup [.agg [.d (xl), .d (xn 0), .d (xn 0)], xv 9], []) = true := by kernel_rfl
end Go.Proofs.YtkjpnmodlmlhdaaGreatDoor
/- Reckoned calls: steps of the meeting. -/
namespace Go.Proofs.YtkjpnmodlmlhdaaGreatDoor
set_option linter.unusedSimpArgs false
set_option linter.unusedVariables false
set_option linter.unnecessarySimpa false
set_option linter.unusedSectionVars false
set_option maxRecDepth 100000
open Go Go.RowKit Go.Am Go.Proofs.Grow
theorem st10_02 : okE (runF (cfX t0) 60 77 [] [mt10, xsd 0 2] 0) (.tup [.agg [.d (xl), .d (xn 0), .d (xn 0)], xv 9], []) = true := by kernel_rfl
theorem st10_10 : okE (runF (cfX t0) 60 77 [] [mt10, xsd 1 0] 0) (.tup [.agg [.d (xl), .d (xn 0), .d (xn 0)], xv 9], []) = true := by kernel_rfl
theorem st10_11 : okE (runF (cfX t0) 60 77 [] [mt10, xsd 1 1] 0) (.tup [.agg [.d (xl), .d (xn 0), .d (xn 0)], xv 1], []) = true := by kernel_rfl
theorem st10_12 : okE (runF (cfX t0) 60 77 [] [mt10, xsd 1 2] 0) (.tup [.agg [.d (xl), .d (xn 0), .d (xn 0)], xv 9], []) = true := by kernel_rfl
end Go.Proofs.YtkjpnmodlmlhdaaGreatDoor
/- Reckoned calls: the meeting of three members. -/
namespace Go.Proofs.YtkjpnmodlmlhdaaGreatDoor
set_option linter.unusedSimpArgs false
set_option linter.unusedVariables false
set_option linter.unnecessarySimpa false
set_option linter.unusedSectionVars false
set_option maxRecDepth 100000
open Go Go.RowKit Go.Am Go.Proofs.Grow
def stL : List (List AV × Res) := [([mt0, xsd 0 0], (.tup [.agg [.d (xl), .d (xn 0), .d (xn 0)], xv 1], [])), ([mt0, xsd 0 1], (.tup [mt1, xv 0], [])), ([mt1, xsd 0 2], (.tup [mt2, xv 0], [])), ([mt2, xsd 1 0], (.tup [mt3, xv 0], [])), ([mt3, xsd 1 1], (.tup [.agg [.d (xl), .d (xn 0), .d (xn 0)], xv 1], [])), ([mt3, xsd 1 2], (.tup [mt4, xv 0], [])), ([mt4, xsd 2 0], (.tup [mt5, xv 0], [])), ([mt5, xsd 2 1], (.tup [mt6, xv 0], [])), ([mt6, xsd 2 2], (.tup [.agg [.d (xl), .d (xn 0), .d (xn 0)], xv 1], [])), ([mt6, xsd 0 0], (.tup [.agg [.d (xl), .d (xn 0), .d (xn 0)], xv 1], [])), ([mt6, xsd 0 1], (.tup [mt7, xv 0], [])), ([mt7, xsd 0 2], (.tup [mt8, xv 0], [])), ([mt8, xsd 1 0], (.tup [mt9, xv 0], [])), ([mt9, xsd 1 1], (.tup [.agg [.d (xl), .d (xn 0), .d (xn 0)], xv 1], [])), ([mt9, xsd 1 2], (.tup [mt10, xv 0], [])), ([mt10, xsd 2 0], (.tup [.agg [.d (xl), .d (xn 0), .d (xn 0)], xv 9], [])), ([mt10, xsd 2 1], (.tup [.agg [.d (xl), .d (xn 0), .d (xn 0)], xv 9], [])), ([mt10, xsd 2 2], (.tup [.agg [.d (xl), .d (xn 0), .d (xn 0)], xv 1], [])), ([mt10, xsd 0 0], (.tup [.agg [.d (xl), .d (xn 0), .d (xn 0)], xv 1], [])), ([mt10, xsd 0 1], (.tup [.agg [.d (xl), .d (xn 0), .d (xn 0)], xv 9], [])), ([mt10, xsd 0 2], (.tup [.agg [.d (xl), .d (xn 0), .d (xn 0)], xv 9], [])), ([mt10, xsd 1 0], (.tup [.agg [.d (xl), .d (xn 0), .d (xn 0)], xv 9], [])), ([mt10, xsd 1 1], (.tup [.agg [.d (xl), .d (xn 0), .d (xn 0)], xv 1], [])), ([mt10, xsd 1 2], (.tup [.agg [.d (xl), .d (xn 0), .d (xn 0)], xv 9], []))]
theorem stL_ok : EntOK Tryz.prog 77 stL := .cons (okE_fn (cfX_ok t0_ok) st0_00) (.cons (okE_fn (cfX_ok t0_ok) st0_01) (.cons (okE_fn (cfX_ok t0_ok) st1_02) (.cons (okE_fn (cfX_ok t0_ok) st2_10) (.cons (okE_fn (cfX_ok t0_ok) st3_11) (.cons (okE_fn (cfX_ok t0_ok) st3_12) (.cons (okE_fn (cfX_ok t0_ok) st4_20) (.cons (okE_fn (cfX_ok t0_ok) st5_21) (.cons (okE_fn (cfX_ok t0_ok) st6_22) (.cons (okE_fn (cfX_ok t0_ok) st6_00) (.cons (okE_fn (cfX_ok t0_ok) st6_01) (.cons (okE_fn (cfX_ok t0_ok) st7_02) (.cons (okE_fn (cfX_ok t0_ok) st8_10) (.cons (okE_fn (cfX_ok t0_ok) st9_11) (.cons (okE_fn (cfX_ok t0_ok) st9_12) (.cons (okE_fn (cfX_ok t0_ok) st10_20) (.cons (okE_fn (cfX_ok t0_ok) st10_21) (.cons (okE_fn (cfX_ok t0_ok) st10_22) (.cons (okE_fn (cfX_ok t0_ok) st10_00) (.cons (okE_fn (cfX_ok t0_ok) st10_01) (.cons (okE_fn (cfX_ok t0_ok) st10_02) (.cons (okE_fn (cfX_ok t0_ok) st10_10) (.cons (okE_fn (cfX_ok t0_ok) st10_11) (.cons (okE_fn (cfX_ok t0_ok) st10_12) (.nil _ _))))))))))))))))))))))))
def t1 : Tbl := (77, stL) :: t0
theorem t1_ok : TblOK Tryz.prog t1 := .cons stL_ok t0_ok
def xply (k : Nat) : List D := [xn 1, xn k, xn 0, xn 1, xn 1, xn 0, xl, xl, xn 0, xn 0, xn 0, xl, xl, xl, xl]
def rRun : Res := (.tup [mt0, .own 6555, xv 0], [(6555, .arr 42 1 [[xn 0], [xn 0]])])
theorem e38 : okE (runF (cfX t1) 60 46 [] [xc3, xv 0, .d (.rows 15 [xply 0, xply 2])] 0) rRun = true := by kernel_rfl
theorem e39 : okE (runF (cfX t1) 60 47 [] [mt0] 0) (.tup [mt10, xv 0], []) = true := by kernel_rfl
def t2 : Tbl := [(45, [([xsrc], (.tup [xc3, xv 0, xv 0], []))]), (18, [([xc3], (.tup [.own 5168, xv 0], [(5168, .arr 3 1 [[xn 3], [xn 5], [xn 6]])]))]), (46, [([xc3, xv 0, .d (.rows 15 [xply 0, xply 2])], rRun)]), (47, [([mt0], (.tup [mt10, xv 0], []))])]
theorem t2_ok : TblOK Tryz.prog t2 := .cons (.cons (okE_fn (cfX_ok t0_ok) e36) (.nil _ _)) (.cons (.cons (okE_fn (cfX_ok t0_ok) e37) (.nil _ _)) (.cons (.cons (okE_fn (cfX_ok t1_ok) e38) (.nil _ _)) (.cons (.cons (okE_fn (cfX_ok t1_ok) e39) (.nil _ _)) (.nil _))))
theorem e14 : okE (runF (cfX t2) 60 22 [] [] 0) (.d xT, []) = true := by kernel_rfl
/-- The members of the assembly agree. -/
theorem awake_m : FnM Tryz.prog 22 [] [] (vB true) [] := okE_fn (cfX_ok t2_ok) e14
end Go.Proofs.YtkjpnmodlmlhdaaGreatDoor
/- The given statement TopGossip, as a tied card: for every input the Go function returns true, and its argument reads behind the call as it read before. No condition of ours. -/
namespace Go.Proofs.YtkjpnmodlmlhdaaGreatDoor
set_option linter.unusedSimpArgs false
set_option linter.unusedVariables false
set_option linter.unnecessarySimpa false
set_option linter.unusedSectionVars false
set_option maxRecDepth 100000
open Go Go.RowKit Go.Am Go.Proofs.Grow
theorem law_TopGossip (a0 : Option Addr) (len0 cap0 : Nat) (z0 : List Int) (w : World) (w0 : IsRowA .i64 w a0 len0 cap0 z0) :
    Calls Tryz.prog 3 #[.slice a0 len0 cap0] w fun e w' => e = .returned (.bool true) ∧ Ex w w' :=
  FnM.law (gossip_m (z0.take len0) awake_m) (VRs.cons (row_VR w0) VRs.nil)
end Go.Proofs.YtkjpnmodlmlhdaaGreatDoor
namespace Go.Proofs.YtkjpnmodlmlhdaaGreatDoor.topGossip
open Go.ChangeShapes Go.WideShapes Go.ChangeAt Go.RowKit
open Go.ChangeMaps (open_string shut_string)
theorem own : ownKnob Tryz.prog.godebug = none := by kernel_rfl
theorem laidOut : laidOutB Tryz.prog = true := by kernel_rfl
def IsRow (k : IntKind) (w : World) (a : Option Addr) (len cap : Nat) (zs : List Int) : Prop :=
  (a = none ∧ len = 0 ∧ cap = 0 ∧ zs = []) ∨
  ∃ x, a = some x ∧ len ≤ cap ∧ cap ≤ maxLen ∧ zs.length = cap ∧ (∀ i, i < zs.length → w.cell? (x.add i) = some (.int k (zs.getD i 0))) ∧ ∀ n ∈ zs, (Lit.int k n).wf = true
theorem walk (a0 : Option Addr) (len0 cap0 : Nat) (z0 : List Int) (w : World) (w0 : IsRow .i64 w a0 len0 cap0 z0) :
    Calls Tryz.prog 3 #[.slice a0 len0 cap0] w fun e w' => e = .returned (.bool true) ∧ Below w.heap.size w w' :=
  Go.Proofs.YtkjpnmodlmlhdaaGreatDoor.law_TopGossip a0 len0 cap0 z0 w w0
set_option maxRecDepth 100000 in
theorem lifted (os : Os) (started : os.Started) (H : Type) (enc : TypeId × Value → H) :
    ReturnsInHanded {} Tryz.checked os 3 .any (fun w args => (Rows.topGossipSpec.pre enc Tryz.prog Tryz.f3 [] false w args ∧ laidMetH Tryz.prog Rows.topGossipRow.laid w) ∧ sizedMet enc Tryz.prog Tryz.f3 (OpenSpec.ofChange Rows.topGossipSpec) false w args)
      (Rows.topGossipSpec.post enc Tryz.prog Tryz.f3 false true false false) := by
  refine returnsInHanded_of_change_and (C := Tryz.checked) (X := fun w _ => laidMetH Tryz.prog Rows.topGossipRow.laid w) (fun _ _ _ hh h => h.of_heap hh) own started (by kernel_rfl) Tryz.func3
    (ChangeSpec.witness_shaped (enc := enc) (C := Tryz.checked) (os := os) (X := fun w _ => laidMetH Tryz.prog Rows.topGossipRow.laid w) false (World.laidAll Tryz.prog os Rows.topGossipRow.laid) #[.slice none 0 0] 8 (World.laidAll_os _ _ _)
      (World.shaped_of_ZipB (by kernel_rfl) (by kernel_rfl)) (by kernel_rfl) (by kernel_rfl) (by kernel_rfl)
      (by rw [MakeChecks.laidMetH_plain _ _ _ (by kernel_rfl)]; exact laidMet_laidAll _ (by kernel_rfl) (by kernel_rfl))) ?_
  intro W base args ds gs before hval0 hW _ _ hL _
  have hval : ∀ (j : Nat) t v, Tryz.f3.params[j]? = some t → args[j]? = some v → Value.okWide Tryz.prog W .any base t v := hval0
  have hW' := hW
  obtain ⟨p, q, hA0, hV, rfl, hfz, hnd⟩ := hW
  have hA : DataW.TrodAll enc Tryz.prog W 0 (fun _ => true) true Tryz.f3.params.toList args.toList ds p := hA0
  rw [Tryz.params3] at hA hval
  obtain ⟨v0, vs0, d0, ds0, p0, q0, hargs, rfl, rfl, h0, r0⟩ := trodAll_cons hA
  obtain ⟨rfl, rfl, rfl⟩ := trodAll_nil r0
  obtain rfl : args = #[v0] := by cases args; simp_all
  obtain ⟨rfl, rfl⟩ := trodVars_none hV
  obtain ⟨a0, len0, cap0, rfl⟩ := okWide_slice Tryz.underlying22 (hval 0 22 v0 rfl rfl)
  have k0 := h0
  have lt0 : ∀ x ∈ p0, x.block < W.heap.size := by obtain ⟨m, hm⟩ := k0; exact DataW.trod_lt m _ _ _ hm
  obtain ⟨z0, w0⟩ : ∃ zs, IsRow .i64 W a0 len0 cap0 zs := by
    obtain ⟨fuel, hf⟩ := h0
    rcases open_ints Tryz.underlying22 Tryz.underlying3 (by kernel_rfl) hf with ⟨hcs, _⟩ | ⟨x, l, c, zs, hcs, _, hl, hm, hz, _, hcell, hwz⟩
    · simp [Value.cells] at hcs
      obtain ⟨rfl, rfl, rfl⟩ := hcs
      exact ⟨[], .inl ⟨rfl, rfl, rfl, rfl⟩⟩
    · simp [Value.cells] at hcs
      obtain ⟨rfl, rfl, rfl⟩ := hcs
      exact ⟨zs, .inr ⟨_, rfl, hl, hm, by simpa using hz, hcell, hwz⟩⟩
  clear hA0 hval0
  refine (walk a0 len0 cap0 z0 W w0).mono fun e W' ⟨he, bel⟩ => ?_
  subst he
  exact ⟨_, rfl, _, _, _, [], _, [], hW', trodAll_mk1 (shut_bool Tryz.underlying4 _), (trodAll_cons_mk (Below.trod laidOut (by kernel_rfl) (of_decide_eq_true (by kernel_rfl)) k0 bel lt0) trodAll_mk0), rfl, bel.frame _, fun h => by cases h⟩
theorem over : Rows.TopGossipSaid :=
  OpenClaim.holds_of_wide 3 Tryz.f3 rfl rfl rfl rfl rfl rfl rfl ⟨rfl, rfl, rfl, rfl, rfl⟩ rfl rfl rfl rfl rfl (by kernel_rfl) Tryz.func3 (by kernel_rfl)
    (of_decide_eq_true (by kernel_rfl)) (by unfold Func.isWrapper; first | (rw [if_pos (by decide +kernel)]; kernel_rfl) | (rw [if_neg (by decide +kernel)]; exact ⟨rfl, rfl⟩))
    (fun os started H enc _ => lifted os started H enc)
theorem proved : Rows.TopGossipCardSaid :=
  Claim7.holds_tied_plain_at .later [] [.data, .data, .data, .data, .sentinel, .sentinel, .pinned] true (true, "549fce49e1a0e19f3f513ad24918616ee5017bf9b4f15bc8e500a2051d1bb2a3") true
    over (fun _ h => by cases h) (by kernel_rfl) (fun _ h => by cases h) topGossip_row_tie rfl ⟨rfl, rfl⟩ (by kernel_rfl) rfl
    (fun f fn hf hfn => by
      obtain rfl : f = 3 := Option.some.inj ((show Tryz.prog.funcNamed "trustquorum/trustquorumtop.TopGossip" = some 3 by kernel_rfl).symm.trans hf) |>.symm
      obtain rfl : fn = Tryz.f3 := (Option.some.inj (Tryz.func3.symm.trans hfn)).symm
      exact ⟨by kernel_rfl, fun j t ht => by
        rw [Tryz.params3] at ht
        have hm : t ∈ [22] := by simpa using Array.mem_of_getElem? ht
        have hall : ([22].all fun u => !Tryz.prog.wantsStandIn u) = true := by kernel_rfl
        exact (show Tryz.prog.wantsStandIn t = false by simpa using List.all_eq_true.1 hall t hm)⟩)
    (by kernel_rfl)
end Go.Proofs.YtkjpnmodlmlhdaaGreatDoor.topGossip
