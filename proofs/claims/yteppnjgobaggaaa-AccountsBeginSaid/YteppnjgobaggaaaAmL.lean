/- Nothing is claimed here: from a contract in the abstract view to a call of a statement's function. -/
import Derived.Test.YteppnjgobaggaaaAmK
namespace Go.Am
set_option linter.unusedSimpArgs false
set_option linter.unusedVariables false
set_option linter.unnecessarySimpa false
set_option linter.unusedSectionVars false
set_option maxRecDepth 100000
open Go Go.RowKit Go.Proofs.Grow

theorem FnM.law {P : Program} {f : FuncId} {args : List AV} {res : Value} (hf : FnM P f [] args (.d (.v res)) []) {w : World} {vs : List Value} (hv : VRs (fun _ => False) (fun _ => none) w args vs) :
    Calls P f vs.toArray w fun e w' => e = .returned res ∧ Ex w w' := by
  have hno : ∀ (μ : Nat → Option Value) b, ¬ Hot μ (lk []) b := by rintro μ b ⟨g, o, v, h1, _⟩; simp [lk] at h1
  have hk : Keeps (fun _ => False) (Ht ⟨w, Hot (fun _ => none) (lk []), fun _ => False, vs.length, fun _ => none⟩ (fun _ => none) (lk [])) w w := fun b hb _ => ⟨fun h => by
    rcases h with h | h
    · exact h
    · exact hno _ b h, hb, rfl⟩
  refine (hf (fun _ => False) (fun _ => none) w vs hv.1.symm ⟨fun t x ht => ?_, fun g o hg => by simp [lk] at hg, fun g g' o o' v v' b h1 => by simp [lk] at h1, fun b hb => (hno _ b hb).elim, Chg.refl _ _, fun _ _ => rfl, fun b hb => hb.elim, fun g u hu => hu, by simp, rfl⟩).mono ?_
  · obtain ⟨_, hx⟩ := argT_lk ht
    rw [Nat.sub_zero] at hx
    obtain ⟨v, h1, h2⟩ := hv.get hx
    have e : (vs.toArray.getD t undef) = v := by simp [h1]
    show VR _ _ _ x (vs.toArray.getD t undef)
    rw [e]
    exact h2.grow (fun _ _ h => h) hk
  · rintro e w' ⟨v, μ', rfl, hI⟩
    have h1 := (hI.tm 0 _ rfl).val
    obtain rfl : v = res := h1
    exact ⟨rfl, ⟨hI.fr.os, hI.fr.tape, hI.fr.output, hI.fr.size, fun k hk => hI.fr.block k hk (hno _ k)⟩⟩
/-- A slice of integers, as the statements' frames hand it. -/
def IsRowA (k : IntKind) (w : World) (a : Option Addr) (len cap : Nat) (zs : List Int) : Prop :=
  (a = none ∧ len = 0 ∧ cap = 0 ∧ zs = []) ∨
  ∃ x, a = some x ∧ len ≤ cap ∧ cap ≤ maxLen ∧ zs.length = cap ∧ (∀ i, i < zs.length → w.cell? (x.add i) = some (.int k (zs.getD i 0))) ∧ ∀ n ∈ zs, (Lit.int k n).wf = true
theorem row_VR {w : World} {a : Option Addr} {len cap : Nat} {zs : List Int} (h : IsRowA .i64 w a len cap zs) : VR (fun _ => False) (fun _ => none) w (.d (.rows 1 ((zs.take len).map fun n => [D.v (.int .i64 n)]))) (.slice a len cap) := by
  rcases h with ⟨rfl, rfl, rfl, rfl⟩ | ⟨x, rfl, h1, h2, h3, h4, h5⟩
  · exact .d (.nil 1 none 0 fun _ => rfl)
  by_cases h0 : len = 0
  · subst h0
    exact .d (.nil 1 (some x) cap fun h => by cases h)
  have hl : ((zs.take len).map fun n => [D.v (.int .i64 n)]).length = len := by simp; omega
  have hx : x.spot = none := by
    have := h4 0 (by omega)
    simp only [Addr.add, if_true, World.cell?] at this
    split at this
    · split at this
      · cases this
      · rename_i hs; simpa using hs
    · cases this
  obtain ⟨b, off, sp⟩ := x
  obtain rfl : sp = none := hx
  have hc : ∀ i, i < zs.length → w.cell? ⟨b, off + i, none⟩ = some (.int .i64 (zs.getD i 0)) := by
    intro i hi
    have := h4 i hi
    rw [← this]
    congr 1
    unfold Addr.add
    split
    · rename_i e; rw [e]; rfl
    · rfl
  have hg : ∀ (i : Nat) (r : List D), ((zs.take len).map fun n => [D.v (.int .i64 n)])[i]? = some r → i < zs.length ∧ r = [D.v (.int .i64 (zs.getD i 0))] := by
    intro i r hr
    rw [List.getElem?_map] at hr
    cases hq : (zs.take len)[i]? with
    | none => rw [hq] at hr; cases hr
    | some n =>
      rw [hq] at hr
      have hi : i < (zs.take len).length := (List.getElem?_eq_some_iff.1 hq).1
      simp only [List.length_take] at hi
      rw [List.getElem?_take_of_lt (by omega)] at hq
      refine ⟨by omega, ?_⟩
      simp only [Option.map_some, Option.some.injEq] at hr
      rw [← hr, List.getD_eq_getElem?_getD, hq]; rfl
  have hg2 : ∀ (i : Nat) (r : List D) (j : Nat) (c : D), ((zs.take len).map fun n => [D.v (.int .i64 n)])[i]? = some r → r[j]? = some c → i < zs.length ∧ j = 0 ∧ c = D.v (.int .i64 (zs.getD i 0)) := by
    intro i r j c hr hc
    obtain ⟨h, rfl⟩ := hg i r hr
    cases j with
    | zero => exact ⟨h, rfl, by simpa using hc.symm⟩
    | succ j => simp at hc
  have := VD.rows (H := fun _ => False) (w := w) 1 ((zs.take len).map fun n => [D.v (.int .i64 n)]) b off cap (fun i _ => .int .i64 (zs.getD i 0)) (by intro e; rw [e] at hl; simp at hl; omega) (by omega) (by omega) (fun h => h)
    (cell_lt (hc 0 (by omega))) (fun i r hr => by obtain ⟨_, rfl⟩ := hg i r hr; rfl) (fun i r j c hr hc2 => by obtain ⟨h, rfl, rfl⟩ := hg2 i r j c hr hc2; rw [Nat.mul_one]; exact hc i h)
    (fun i r j c hr hc2 => rfl) (fun i r j c hr hc2 => by obtain ⟨h, rfl, rfl⟩ := hg2 i r j c hr hc2; exact .v _)
  rw [hl] at this
  exact .d this
end Go.Am
