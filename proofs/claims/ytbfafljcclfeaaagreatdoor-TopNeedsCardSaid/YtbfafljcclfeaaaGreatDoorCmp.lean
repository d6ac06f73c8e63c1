/- Contracts of package cmp's functions at int and string: Compare gives -1, 0 or 1 by the order, Or the first number that is not 0; each leaves the world as it was. -/
import Derived.Test.YtbfafljcclfeaaaGreatDoorRows
import Derived.Test.YtbfafljcclfeaaaGreatDoorGrow
import Derived.WalkSpells
import Derived.WalkLawsBesides
import Derived.Lib.Hide
import Derived.BigQuiet
import Derived.Deep.QuietTactic
import Derived.Deep.LoopGhost
namespace Go.Proofs.YtbfafljcclfeaaaGreatDoor
set_option linter.unusedSimpArgs false
set_option linter.unusedVariables false
set_option linter.unnecessarySimpa false
set_option linter.unusedSectionVars false
set_option maxRecDepth 100000
open Go.RowKit Go.Proofs.Grow Go.Sort

def cmpI (x y : Int) : Int := if x < y then -1 else if y < x then 1 else 0
def cmpS (x y : ByteArray) : Int := if Op.bytesLess x.toList y.toList then -1 else if x.toList == y.toList then 0 else 1
/-- The number at a place. -/
def atI (zs : List Int) (k : Nat) : Int := zs.getD k 0
def orI : List Int → Int
  | [] => 0
  | x :: l => if x = 0 then orI l else x
theorem drop_at (zs : List Int) (k : Nat) (h : k < zs.length) : zs.drop k = atI zs k :: zs.drop (k + 1) := by
  rw [List.drop_eq_getElem_cons h]; simp [atI, h]

theorem cmp_int (x y : Int) (w : World) :
    Calls Tryz.prog 80 #[.int .i64 x, .int .i64 y] w fun e w' => e = .returned (.int .i64 (cmpI x y)) ∧ w = w' := by
  by_cases h1 : x < y
  · have e : cmpI x y = -1 := by simp [cmpI, h1]
    rw [e]; clear e
    go_enter Tryz.func80, Tryz.ntmps80
    go_wp2
    go_ret
    exact ⟨rfl, rfl⟩
  · by_cases h2 : y < x
    · have e : cmpI x y = 1 := by simp [cmpI, h1, h2]
      rw [e]; clear e
      go_enter Tryz.func80, Tryz.ntmps80
      go_wp2
      go_ret
      exact ⟨rfl, rfl⟩
    · have e : cmpI x y = 0 := by simp [cmpI, h1, h2]
      rw [e]; clear e
      go_enter Tryz.func80, Tryz.ntmps80
      go_wp2
      go_ret
      exact ⟨rfl, rfl⟩

theorem less_cons (x y : UInt8) (l m : List UInt8) : Op.bytesLess (x :: l) (y :: m) = true ↔ x.toNat < y.toNat ∨ (x.toNat = y.toNat ∧ Op.bytesLess l m = true) := by
  simp [Op.bytesLess, UInt8.lt_iff_toNat_lt, ← UInt8.toNat_inj]
theorem less_irrefl (a : List UInt8) : Op.bytesLess a a = false := by
  induction a with
  | nil => rfl
  | cons x l ih => rw [Bool.eq_false_iff]; intro h; rw [less_cons] at h; rcases h with h | h
                   · omega
                   · rw [ih] at h; cases h.2
theorem less_trans (a b c : List UInt8) (h : Op.bytesLess a b = true) (k : Op.bytesLess b c = true) : Op.bytesLess a c = true := by
  induction a generalizing b c with
  | nil => cases b with
    | nil => simp [Op.bytesLess] at h
    | cons y m => cases c with
      | nil => simp [Op.bytesLess] at k
      | cons z n => rfl
  | cons x l ih => cases b with
    | nil => simp [Op.bytesLess] at h
    | cons y m => cases c with
      | nil => simp [Op.bytesLess] at k
      | cons z n =>
        rw [less_cons] at *
        rcases h with h | h <;> rcases k with k | k
        · left; omega
        · left; omega
        · left; omega
        · right; exact ⟨by omega, ih m n h.2 k.2⟩
theorem less_total (a b : List UInt8) (h : Op.bytesLess a b = false) (k : Op.bytesLess b a = false) : a = b := by
  induction a generalizing b with
  | nil => cases b with
    | nil => rfl
    | cons y m => simp [Op.bytesLess] at h
  | cons x l ih => cases b with
    | nil => simp [Op.bytesLess] at k
    | cons y m =>
      have h' := mt (less_cons x y l m).2 (by rw [h]; simp)
      have k' := mt (less_cons y x m l).2 (by rw [k]; simp)
      have e : x.toNat = y.toNat := by omega
      have h1 : ¬ Op.bytesLess l m = true := fun q => h' (.inr ⟨e, q⟩)
      have k1 : ¬ Op.bytesLess m l = true := fun q => k' (.inr ⟨e.symm, q⟩)
      rw [ih m (by simpa using h1) (by simpa using k1), UInt8.toNat_inj.1 e]
theorem or_int (b off cap : Nat) (zs : List Int) (w : World) (hl : zs.length ≤ 100) (hc : ∀ i, i < zs.length → w.cell? ⟨b, off + i, none⟩ = some (.int .i64 (atI zs i))) :
    Calls Tryz.prog 79 #[.slice (some ⟨b, off, none⟩) zs.length cap] w fun e w' => e = .returned (.int .i64 (orI zs)) ∧ w = w' := by
  have HC := Lib.hid hc; clear hc
  go_enter Tryz.func79, Tryz.ntmps79
  go_wp2
  go_loopg [5, 8] (zs.length) (fun m _ i wr => w = wr ∧ ∃ k : Nat, k + m = zs.length ∧ i = .int .i64 k ∧ Hid (orI zs = orI (zs.drop k)))
  case atStart => exact ⟨rfl, 0, by omega, rfl, Lib.hid rfl⟩
  case round =>
    obtain ⟨rfl, k, hk, rfl, hz⟩ := hrel
    by_cases hlt : k < zs.length
    · have hcell := HC.out k hlt
      have hd := drop_at zs k hlt
      by_cases hne : atI zs k = 0
      · have hb : (atI zs k == 0) = true := by simpa using hne
        have hz2 : Hid (orI zs = orI (zs.drop (k + 1))) := by rw [hz.out, hd, orI, if_pos hne]; exact Lib.hid rfl
        clear hz hd
        go_wp2
        go_roundg (gk - 1)
        case measure => omega
        case rel => exact ⟨rfl, k + 1, by omega, by go_num, hz2⟩
      · have hb : (atI zs k != 0) = true := by simpa using hne
        have hz2 : Hid (orI zs = atI zs k) := by rw [hz.out, hd, orI, if_neg hne]; exact Lib.hid rfl
        clear hz hd
        go_wp2
        go_ret
        exact ⟨by rw [hz2.out]; rfl, rfl⟩
    · have hz2 : Hid (orI zs = 0) := by rw [hz.out, List.drop_of_length_le (by omega)]; exact Lib.hid rfl
      clear hz
      go_wp2
      go_ret
      exact ⟨by rw [hz2.out]; rfl, rfl⟩
end Go.Proofs.YtbfafljcclfeaaaGreatDoor
