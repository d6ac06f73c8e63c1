/- Reckoned calls: the meeting of three members. -/
import Derived.Test.YtdhogcklnehdhaaGreatDoorQAN
import Derived.Test.YtdhogcklnehdhaaGreatDoorRows
import Derived.Test.YtdhogcklnehdhaaGreatDoorTie
import Derived.Test.YtdhogcklnehdhaaGreatDoorCards
import Derived.WalkKit
import Derived.ProofKit
import Derived.OpenShut
import Derived.ShutString
import Derived.ChangeOld
import Derived.Below
import Derived.Lay
import Derived.LaidOnce
import Derived.SevenTiedAt
namespace Go.Proofs.YtdhogcklnehdhaaGreatDoor
set_option linter.unusedSimpArgs false
set_option linter.unusedVariables false
set_option linter.unnecessarySimpa false
set_option linter.unusedSectionVars false
set_option maxRecDepth 100000
open Go Go.RowKit Go.Am Go.Proofs.Grow
def stL : List (List AV × Res) := [([mt0, xsd 0 0], (.tup [.agg [.d (xl), .d (xn 0), .d (xn 0)], xv 1], [])), ([mt0, xsd 0 1], (.tup [mt1, xv 0], [])), ([mt1, xsd 0 2], (.tup [mt2, xv 0], [])), ([mt2, xsd 1 0], (.tup [mt3, xv 0], [])), ([mt3, xsd 1 1], (.tup [.agg [.d (xl), .d (xn 0), .d (xn 0)], xv 1], [])), ([mt3, xsd 1 2], (.tup [mt4, xv 0], [])), ([mt4, xsd 2 0], (.tup [mt5, xv 0], [])), ([mt5, xsd 2 1], (.tup [mt6, xv 0], [])), ([mt6, xsd 2 2], (.tup [.agg [.d (xl), .d (xn 0), .d (xn 0)], xv 1], [])), ([mt6, xsd 0 0], (.tup [.agg [.d (xl), .d (xn 0), .d (xn 0)], xv 1], [])), ([mt6, xsd 0 1], (.tup [mt7, xv 0], [])), ([mt7, xsd 0 2], (.tup [mt8, xv 0], [])), ([mt8, xsd 1 0], (.tup [mt9, xv 0], [])), ([mt9, xsd 1 1], (.tup [.agg [.d (xl), .d (xn 0), .d (xn 0)], xv 1], [])), ([mt9, xsd 1 2], (.tup [mt10, xv 0], [])), ([mt10, xsd 2 0], (.tup [.agg [.d (xl), .d (xn 0), .d (xn 0)], xv 9], [])), ([mt10, xsd 2 1], (.tup [.agg [.d (xl), .d (xn 0), .d (xn 0)], xv 9], [])), ([mt10, xsd 2 2], (.tup [.agg [.d (xl), .d (xn 0), .d (xn 0)], xv 1], [])), ([mt10, xsd 0 0], (.tup [.agg [.d (xl), .d (xn 0), .d (xn 0)], xv 1], [])), ([mt10, xsd 0 1], (.tup [.agg [.d (xl), .d (xn 0), .d (xn 0)], xv 9], [])), ([mt10, xsd 0 2], (.tup [.agg [.d (xl), .d (xn 0), .d (xn 0)], xv 9], [])), ([mt10, xsd 1 0], (.tup [.agg [.d (xl), .d (xn 0), .d (xn 0)], xv 9], [])), ([mt10, xsd 1 1], (.tup [.agg [.d (xl), .d (xn 0), .d (xn 0)], xv 1], [])), ([mt10, xsd 1 2], (.tup [.agg [.d (xl), .d (xn 0), .d (xn 0)], xv 9], []))]
theorem stL_ok : EntOK Tryz.prog 31 stL := .cons (okE_fn (cfX_ok t0_ok) st0_00) (.cons (okE_fn (cfX_ok t0_ok) st0_01) (.cons (okE_fn (cfX_ok t0_ok) st1_02) (.cons (okE_fn (cfX_ok t0_ok) st2_10) (.cons (okE_fn (cfX_ok t0_ok) st3_11) (.cons (okE_fn (cfX_ok t0_ok) st3_12) (.cons (okE_fn (cfX_ok t0_ok) st4_20) (.cons (okE_fn (cfX_ok t0_ok) st5_21) (.cons (okE_fn (cfX_ok t0_ok) st6_22) (.cons (okE_fn (cfX_ok t0_ok) st6_00) (.cons (okE_fn (cfX_ok t0_ok) st6_01) (.cons (okE_fn (cfX_ok t0_ok) st7_02) (.cons (okE_fn (cfX_ok t0_ok) st8_10) (.cons (okE_fn (cfX_ok t0_ok) st9_11) (.cons (okE_fn (cfX_ok t0_ok) st9_12) (.cons (okE_fn (cfX_ok t0_ok) st10_20) (.cons (okE_fn (cfX_ok t0_ok) st10_21) (.cons (okE_fn (cfX_ok t0_ok) st10_22) (.cons (okE_fn (cfX_ok t0_ok) st10_00) (.cons (okE_fn (cfX_ok t0_ok) st10_01) (.cons (okE_fn (cfX_ok t0_ok) st10_02) (.cons (okE_fn (cfX_ok t0_ok) st10_10) (.cons (okE_fn (cfX_ok t0_ok) st10_11) (.cons (okE_fn (cfX_ok t0_ok) st10_12) (.nil _ _))))))))))))))))))))))))
def t1 : Tbl := (31, stL) :: t0
theorem t1_ok : TblOK Tryz.prog t1 := .cons stL_ok t0_ok
def xply (k : Nat) : List D := [xn 1, xn k, xn 0, xn 1, xn 1, xn 0, xl, xl, xn 0, xn 0, xn 0, xl, xl, xl, xl]
def rRun : Res := (.tup [mt0, .own 6555, xv 0], [(6555, .arr 29 1 [[xn 0], [xn 0]])])
theorem e38 : okE (runF (cfX t1) 60 8 [] [xc3, xv 0, .d (.rows 15 [xply 0, xply 2])] 0) rRun = true := by kernel_rfl
theorem e39 : okE (runF (cfX t1) 60 10 [] [mt0] 0) (.tup [mt10, xv 0], []) = true := by kernel_rfl
def t2 : Tbl := [(40, [([xsrc], (.tup [xc3, xv 0, xv 0], []))]), (41, [([xc3], (.tup [.own 5168, xv 0], [(5168, .arr 3 1 [[xn 3], [xn 5], [xn 6]])]))]), (8, [([xc3, xv 0, .d (.rows 15 [xply 0, xply 2])], rRun)]), (10, [([mt0], (.tup [mt10, xv 0], []))])]
theorem t2_ok : TblOK Tryz.prog t2 := .cons (.cons (okE_fn (cfX_ok t0_ok) e36) (.nil _ _)) (.cons (.cons (okE_fn (cfX_ok t0_ok) e37) (.nil _ _)) (.cons (.cons (okE_fn (cfX_ok t1_ok) e38) (.nil _ _)) (.cons (.cons (okE_fn (cfX_ok t1_ok) e39) (.nil _ _)) (.nil _))))
theorem e14 : okE (runF (cfX t2) 60 11 [] [] 0) (.d xT, []) = true := by kernel_rfl
/-- The members of the assembly agree. -/
theorem awake_m : FnM Tryz.prog 11 [] [] (vB true) [] := okE_fn (cfX_ok t2_ok) e14
end Go.Proofs.YtdhogcklnehdhaaGreatDoor
/- The given statement TopHeard, as a tied card: for every input the Go function returns true, and its argument reads behind the call as it read before. No condition of ours. -/
namespace Go.Proofs.YtdhogcklnehdhaaGreatDoor
set_option linter.unusedSimpArgs false
set_option linter.unusedVariables false
set_option linter.unnecessarySimpa false
set_option linter.unusedSectionVars false
set_option maxRecDepth 100000
open Go Go.RowKit Go.Am Go.Proofs.Grow
theorem law_TopHeard (a0 : Option Addr) (len0 cap0 : Nat) (z0 : List Int) (w : World) (w0 : IsRowA .i64 w a0 len0 cap0 z0) :
    Calls Tryz.prog 3 #[.slice a0 len0 cap0] w fun e w' => e = .returned (.bool true) ∧ Ex w w' :=
  FnM.law (heard_m (z0.take len0) awake_m) (VRs.cons (row_VR w0) VRs.nil)
end Go.Proofs.YtdhogcklnehdhaaGreatDoor
namespace Go.Proofs.YtdhogcklnehdhaaGreatDoor.topHeard
open Go.ChangeShapes Go.WideShapes Go.ChangeAt Go.RowKit
open Go.ChangeMaps (open_string shut_string)
theorem own : ownKnob Tryz.prog.godebug = none := by kernel_rfl
theorem laidOut : laidOutB Tryz.prog = true := by kernel_rfl
def IsRow (k : IntKind) (w : World) (a : Option Addr) (len cap : Nat) (zs : List Int) : Prop :=
  (a = none ∧ len = 0 ∧ cap = 0 ∧ zs = []) ∨
  ∃ x, a = some x ∧ len ≤ cap ∧ cap ≤ maxLen ∧ zs.length = cap ∧ (∀ i, i < zs.length → w.cell? (x.add i) = some (.int k (zs.getD i 0))) ∧ ∀ n ∈ zs, (Lit.int k n).wf = true
theorem walk (a0 : Option Addr) (len0 cap0 : Nat) (z0 : List Int) (w : World) (w0 : IsRow .i64 w a0 len0 cap0 z0) :
    Calls Tryz.prog 3 #[.slice a0 len0 cap0] w fun e w' => e = .returned (.bool true) ∧ Below w.heap.size w w' :=
  Go.Proofs.YtdhogcklnehdhaaGreatDoor.law_TopHeard a0 len0 cap0 z0 w w0
set_option maxRecDepth 100000 in
theorem lifted (os : Os) (started : os.Started) (H : Type) (enc : TypeId × Value → H) :
    ReturnsInHanded {} Tryz.checked os 3 .any (fun w args => (Rows.topHeardSpec.pre enc Tryz.prog Tryz.f3 [] false w args ∧ laidMetH Tryz.prog Rows.topHeardRow.laid w) ∧ sizedMet enc Tryz.prog Tryz.f3 (OpenSpec.ofChange Rows.topHeardSpec) false w args)
      (Rows.topHeardSpec.post enc Tryz.prog Tryz.f3 false true false false) := by
  refine returnsInHanded_of_change_and (C := Tryz.checked) (X := fun w _ => laidMetH Tryz.prog Rows.topHeardRow.laid w) (fun _ _ _ hh h => h.of_heap hh) own started (by kernel_rfl) Tryz.func3
    (ChangeSpec.witness_shaped (enc := enc) (C := Tryz.checked) (os := os) (X := fun w _ => laidMetH Tryz.prog Rows.topHeardRow.laid w) false (World.laidAll Tryz.prog os Rows.topHeardRow.laid) #[.slice none 0 0] 8 (World.laidAll_os _ _ _)
      (World.shaped_of_ZipB (by kernel_rfl) (by kernel_rfl)) (by kernel_rfl) (by kernel_rfl) (by kernel_rfl)
      (by rw [MakeChecks.laidMetH_plain _ _ _ (by kernel_rfl)]; exact laidMet_laidAll _ (by kernel_rfl) (by kernel_rfl))) ?_
  intro W base args ds gs before hval0 hW _ _ hL _
  have hval : ∀ (j : Nat) t v, Tryz.f3.params[j]? = some t → args[j]? = some v → Value.okWide Tryz.prog W .any base t v := hval0
  have hW' := hW
  obtain ⟨p, q, hA0, hV, rfl, hfz, hnd⟩ := hW
  have hA : DataW.TrodAll enc Tryz.prog W 0 (fun _ => true) true Tryz.f3.params.toList args.toList ds p := hA0
  rw [Tryz.params3] at hA hval
  obtain ⟨v0, vs0, d0, ds0, p0, q0, hargs, rfl, rfl, h0, r0⟩ := trodAll_cons hA
  obtain ⟨rfl, rfl, rfl⟩ := trodAll_nil r0
  obtain rfl : args = #[v0] := by cases args; simp_all
  obtain ⟨rfl, rfl⟩ := trodVars_none hV
  obtain ⟨a0, len0, cap0, rfl⟩ := okWide_slice Tryz.underlying22 (hval 0 22 v0 rfl rfl)
  have k0 := h0
  have lt0 : ∀ x ∈ p0, x.block < W.heap.size := by obtain ⟨m, hm⟩ := k0; exact DataW.trod_lt m _ _ _ hm
  obtain ⟨z0, w0⟩ : ∃ zs, IsRow .i64 W a0 len0 cap0 zs := by
    obtain ⟨fuel, hf⟩ := h0
    rcases open_ints Tryz.underlying22 Tryz.underlying3 (by kernel_rfl) hf with ⟨hcs, _⟩ | ⟨x, l, c, zs, hcs, _, hl, hm, hz, _, hcell, hwz⟩
    · simp [Value.cells] at hcs
      obtain ⟨rfl, rfl, rfl⟩ := hcs
      exact ⟨[], .inl ⟨rfl, rfl, rfl, rfl⟩⟩
    · simp [Value.cells] at hcs
      obtain ⟨rfl, rfl, rfl⟩ := hcs
      exact ⟨zs, .inr ⟨_, rfl, hl, hm, by simpa using hz, hcell, hwz⟩⟩
  clear hA0 hval0
  refine (walk a0 len0 cap0 z0 W w0).mono fun e W' ⟨he, bel⟩ => ?_
  subst he
  exact ⟨_, rfl, _, _, _, [], _, [], hW', trodAll_mk1 (shut_bool Tryz.underlying4 _), (trodAll_cons_mk (Below.trod laidOut (by kernel_rfl) (of_decide_eq_true (by kernel_rfl)) k0 bel lt0) trodAll_mk0), rfl, bel.frame _, fun h => by cases h⟩
theorem over : Rows.TopHeardSaid :=
  OpenClaim.holds_of_wide 3 Tryz.f3 rfl rfl rfl rfl rfl rfl rfl ⟨rfl, rfl, rfl, rfl, rfl⟩ rfl rfl rfl rfl rfl (by kernel_rfl) Tryz.func3 (by kernel_rfl)
    (of_decide_eq_true (by kernel_rfl)) (by unfold Func.isWrapper; first | (rw [if_pos (by decide +kernel)]; kernel_rfl) | (rw [if_neg (by decide +kernel)]; exact ⟨rfl, rfl⟩))
    (fun os started H enc _ => lifted os started H enc)
theorem proved : Rows.TopHeardCardSaid :=
  Claim7.holds_tied_plain_at .later [] [.data, .data, .data, .data, .sentinel, .sentinel, .pinned] true (true, "e55579a60c9e7c183b8a413f497aa8348d71953f780317d8793630781681356d") true
    over (fun _ h => by cases h) (by kernel_rfl) (fun _ h => by cases h) topHeard_row_tie rfl ⟨rfl, rfl⟩ (by kernel_rfl) rfl
    (fun f fn hf hfn => by
      obtain rfl : f = 3 := Option.some.inj ((show Tryz.prog.funcNamed "trustquorum/trustquorumtop.TopHeard" = some 3 by kernel_rfl).symm.trans hf) |>.symm
      obtain rfl : fn = Tryz.f3 := (Option.some.inj (Tryz.func3.symm.trans hfn)).symm
      exact ⟨by kernel_rfl, fun j t ht => by
        rw [Tryz.params3] at ht
        have hm : t ∈ [22] := by simpa using Array.mem_of_getElem? ht
        have hall : ([22].all fun u => !Tryz.prog.wantsStandIn u) = true := by kernel_rfl
        exact (show Tryz.prog.wantsStandIn t = false by simpa using List.all_eq_true.1 hall t hm)⟩)
    (by kernel_rfl)
end Go.Proofs.YtdhogcklnehdhaaGreatDoor.topHeard
