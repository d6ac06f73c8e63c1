/- Contracts that are reckoned: the number of nodes of a set. -/
import Derived.Test.YtbfafljcclfeaaaGreatDoorRxT
import Derived.Test.YtbfafljcclfeaaaGreatDoorTnE
import Derived.Test.YtbfafljcclfeaaaGreatDoorTnI
namespace Go.Proofs.YtbfafljcclfeaaaGreatDoor
set_option linter.unusedSimpArgs false
set_option linter.unusedVariables false
set_option linter.unnecessarySimpa false
set_option linter.unusedSectionVars false
set_option maxRecDepth 100000
open Go Go.RowKit Go.Am Go.Proofs.Grow

noncomputable def cf0 : Cfg := { P := Tryz.prog, tt := ttT, fs := fsT.get, kt := fun _ _ _ => none, pol := fun _ => true }
theorem cf0_ok : CfgOK cf0 := ⟨mixT, ttT_ok, ttT_ord, fun f fn h => BT.good_get fsT_good f fn h, fun _ _ _ _ _ h => by cases h⟩
noncomputable def okI (x : Rn (AV × List (Nat × AO) × Nat)) (v : Nat) : Bool := match x with
  | .ok (.d (.v (.int .i64 (.ofNat m))), [], _) => Nat.beq m v
  | _ => false
theorem okI_fn {cf : Cfg} (hc : CfgOK cf) {k : Nat} {f : FuncId} {ys : List AV} {n v : Nat} (h : okI (runF cf k f [] ys n) v = true) : FnM cf.P f [] ys (vI (v : Int)) [] := by
  unfold okI at h
  split at h
  · rename_i m n' hr
    have := Nat.eq_of_beq_eq_true h
    subst this
    exact runF_ok hc k _ _ _ _ _ _ _ hr
  · cases h
/-- The sets from a on, n of them. -/
noncomputable def sizBl (a n : Nat) : Bool := Nat.rec (motive := fun _ => Bool) true (fun i b => b && okI (runF cf0 60 127 [] [vI ((a + i : Nat) : Int)] 0) (popN (a + i))) n
theorem sizBl_get {a : Nat} : ∀ {n : Nat}, sizBl a n = true → ∀ i, i < n → FnM Tryz.prog 127 [] [vI ((a + i : Nat) : Int)] (vI (popN (a + i) : Int)) []
  | 0, _, i, h => by omega
  | n + 1, h, i, hi => by
    have h : (sizBl a n && okI (runF cf0 60 127 [] [vI ((a + n : Nat) : Int)] 0) (popN (a + n))) = true := h
    rw [Bool.and_eq_true] at h
    rcases Nat.lt_or_ge i n with h1 | h1
    · exact sizBl_get h.1 i h1
    · obtain rfl : i = n := by omega
      exact okI_fn cf0_ok h.2
theorem sizBl0 : sizBl 0 128 = true := by kernel_rfl
theorem sizBl1 : sizBl 128 128 = true := by kernel_rfl
theorem sizBl2 : sizBl 256 128 = true := by kernel_rfl
theorem sizBl3 : sizBl 384 128 = true := by kernel_rfl
theorem sizBl4 : sizBl 512 128 = true := by kernel_rfl
theorem sizBl5 : sizBl 640 128 = true := by kernel_rfl
theorem sizBl6 : sizBl 768 128 = true := by kernel_rfl
theorem sizBl7 : sizBl 896 128 = true := by kernel_rfl
theorem size_m (s : Nat) (hs : s < 1024) : FnM Tryz.prog 127 [] [vI (s : Int)] (vI (popN s : Int)) [] := by
  rcases Nat.lt_or_ge s 128 with h0 | h0
  · have := sizBl_get sizBl0 (s - 0) (by omega); rwa [show 0 + (s - 0) = s by omega] at this
  rcases Nat.lt_or_ge s 256 with h1 | h1
  · have := sizBl_get sizBl1 (s - 128) (by omega); rwa [show 128 + (s - 128) = s by omega] at this
  rcases Nat.lt_or_ge s 384 with h2 | h2
  · have := sizBl_get sizBl2 (s - 256) (by omega); rwa [show 256 + (s - 256) = s by omega] at this
  rcases Nat.lt_or_ge s 512 with h3 | h3
  · have := sizBl_get sizBl3 (s - 384) (by omega); rwa [show 384 + (s - 384) = s by omega] at this
  rcases Nat.lt_or_ge s 640 with h4 | h4
  · have := sizBl_get sizBl4 (s - 512) (by omega); rwa [show 512 + (s - 512) = s by omega] at this
  rcases Nat.lt_or_ge s 768 with h5 | h5
  · have := sizBl_get sizBl5 (s - 640) (by omega); rwa [show 640 + (s - 640) = s by omega] at this
  rcases Nat.lt_or_ge s 896 with h6 | h6
  · have := sizBl_get sizBl6 (s - 768) (by omega); rwa [show 768 + (s - 768) = s by omega] at this
  have := sizBl_get sizBl7 (s - 896) (by omega)
  rwa [show 896 + (s - 896) = s by omega] at this
end Go.Proofs.YtbfafljcclfeaaaGreatDoor
