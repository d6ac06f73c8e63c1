/- Nothing is claimed here: counted loops in the abstract view, and views by hand. -/
import Derived.Test.YteppnjgobaggaaaAmH
namespace Go.Am
set_option linter.unusedSimpArgs false
set_option linter.unusedVariables false
set_option linter.unnecessarySimpa false
set_option linter.unusedSectionVars false
set_option maxRecDepth 100000
open Go Go.RowKit Go.Proofs.Grow

def del {α : Type} (t : Nat) : List (Nat × α) → List (Nat × α)
  | [] => []
  | p :: r => match p.1 == t with
    | true => del t r
    | false => p :: del t r
def dels {α : Type} : List Nat → List (Nat × α) → List (Nat × α)
  | [], T => T
  | t :: r, T => del t (dels r T)
theorem Cv.int {M : Nat → Option AO} {a b : Int} {k : IntKind} (h : a = b) : Cv M (.d (.v (.int k a))) (.d (.v (.int k b))) := h ▸ .refl _
theorem Cv.ownE {M : Nat → Option AO} {g ty sz : Nat} {rs rs' : List (List D)} (h : M g = some (.arr ty sz rs)) (e : rs = rs') : Cv M (.own g) (.d (.rows sz rs')) := e ▸ .own h
theorem Cv.eq {M : Nat → Option AO} {a b : AV} (h : a = b) : Cv M a b := h ▸ .refl _
section
variable {P : Program} {cx : Cx} {Q : Exit → St → Prop} {T : List (Nat × AV)} {M : List (Nat × AO)}
/-- A loop that counts up to n: what the state is at a round's head. -/
theorem WA_count {c : Code} {s : St} (n : Nat) (S : Nat → St) (I : Nat → Prop) (hl : Le cx s (S 0)) (h0 : I 0)
    (round : ∀ k, k ≤ n → I k → WA P cx c (thn (fun s' => k < n ∧ I (k + 1) ∧ Le cx s' (S (k + 1))) Q) (S k)) : WA P cx (.loop c) Q s := by
  refine WA_loop (fun m s => ∃ k, k ≤ n ∧ m = n - k ∧ I k ∧ Le cx s (S k)) n ⟨0, by omega, rfl, h0, hl⟩ ?_
  rintro m s ⟨k, hk, rfl, hI, hL⟩
  refine WA_le hL (WA_mono (round k hk hI) fun e s' h => ?_)
  cases e with
  | normal => obtain ⟨h1, h2, h3⟩ := h; exact ⟨n - (k + 1), by omega, k + 1, by omega, rfl, h2, h3⟩
  | _ => exact h
theorem WA_for {c : Code} (n : Nat) (t g : List Nat) (u : Nat → List (Nat × AV)) (v : Nat → List (Nat × AO)) (I : Nat → Prop) {T' : Nat → List (Nat × AV)} {M' : Nat → List (Nat × AO)}
    (hT : ∀ k, T' k = u k ++ dels t T) (hM : ∀ k, M' k = v k ++ dels g M) (hl : Le cx ⟨T, M⟩ ⟨T' 0, M' 0⟩) (h0 : I 0)
    (round : ∀ k, k ≤ n → I k → WA P cx c (thn (fun s' => k < n ∧ I (k + 1) ∧ Le cx s' ⟨T' (k + 1), M' (k + 1)⟩) Q) ⟨T' k, M' k⟩) : WA P cx (.loop c) Q ⟨T, M⟩ :=
  WA_count n (fun k => ⟨T' k, M' k⟩) I hl h0 round
/-- A loop whose rounds are told by anything that grows smaller. -/
theorem WA_any {α : Type} {c : Code} (m : α → Nat) (x0 : α) (t g : List Nat) (u : α → List (Nat × AV)) (v : α → List (Nat × AO)) (I : α → Prop) {T' : α → List (Nat × AV)} {M' : α → List (Nat × AO)}
    (hT : ∀ k, T' k = u k ++ dels t T) (hM : ∀ k, M' k = v k ++ dels g M) (hl : Le cx ⟨T, M⟩ ⟨T' x0, M' x0⟩) (h0 : I x0)
    (round : ∀ x, I x → WA P cx c (thn (fun s' => ∃ y, m y < m x ∧ I y ∧ Le cx s' ⟨T' y, M' y⟩) Q) ⟨T' x, M' x⟩) : WA P cx (.loop c) Q ⟨T, M⟩ := by
  refine WA_loop (fun n s => ∃ x, n = m x ∧ I x ∧ Le cx s ⟨T' x, M' x⟩) (m x0) ⟨x0, rfl, h0, hl⟩ ?_
  rintro n s ⟨x, rfl, hI, hL⟩
  refine WA_le hL (WA_mono (round x hI) fun e s' h => ?_)
  cases e with
  | normal => obtain ⟨y, h1, h2, h3⟩ := h; exact ⟨m y, h1, y, rfl, h2, h3⟩
  | _ => exact h
end
end Go.Am
