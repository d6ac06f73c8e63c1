/- What the statement BallotsExact asks first: whether ballots are few and short; and that the least counter is positive. -/
import Derived.Test.YtfhipecfamecaaaLow
import Derived.Test.YtfhipecfamecaaaS23
import Derived.Test.YtfhipecfamecaaaSrc
namespace Go.Proofs.Ytfhipecfamecaaa
set_option linter.unusedSimpArgs false
set_option linter.unusedVariables false
set_option linter.unnecessarySimpa false
set_option linter.unusedSectionVars false
open Go.RowKit Go.Proofs.Grow Go.Sort

theorem IsRow.ex {k : IntKind} {w w' : World} {a : Option Addr} {len cap : Nat} {zs : List Int} (h : IsRow k w a len cap zs) (hx : Ex w w') : IsRow k w' a len cap zs := by
  rcases h with h | ⟨x, e, h1, h2, h3, h4, h5⟩
  · exact .inl h
  · refine .inr ⟨x, e, h1, h2, h3, fun i hi => ?_, h5⟩
    have hc := h4 i hi
    have hs := World.cell?_spot (h4 0 (by omega))
    obtain ⟨c, o, s⟩ := x
    have hs2 : s = none := by simpa [Addr.add] using hs
    subst hs2
    have he : (⟨c, o, none⟩ : Addr).add i = ⟨c, o + i, none⟩ := by by_cases h0 : i = 0 <;> simp [Addr.add, h0]
    rw [he] at hc ⊢
    rw [hx.rules.1 c _ (cell_lt hc)]; exact hc

theorem lowStep_pos {v : ByteArray} {n : Int} {x : Ball} (h : 1 ≤ n) : 1 ≤ lowStep v n x := by
  unfold lowStep
  split
  · rename_i hv
    have := valid_bd hv
    split
    · split <;> omega
    · exact h
  · exact h
theorem lowF_pos (v : ByteArray) (l : List Ball) : ∀ n, 1 ≤ n → 1 ≤ lowF v n l := by
  induction l with
  | nil => intro n h; exact h
  | cons x r ih => intro n h; exact ih _ (lowStep_pos h)
theorem lowest_pos (v : ByteArray) (n : Int) (p q : Ball) : 1 ≤ lowest v n p q := by
  unfold lowest; apply lowF_pos; split <;> omega

def Shorts (l : List Ball) (w : World) (e : Ending) (w' : World) : Prop := ∃ t : Bool, e = .returned (.bool t) ∧ (t = true → l.length ≤ 30) ∧ Ex w w'
theorem short_any (a : Option Addr) (cap : Nat) (l : List Ball) (w : World) (hl : l.length ≤ 9223372036854775807) (hx : Sl w encB 2 a l) :
    Calls Try.prog 34 #[.slice a l.length cap] w (Shorts l w) := by
  go_enter Try.func34, Try.ntmps34
  go_wp2
  go_loopg [7] (l.length) (fun m i wr => Ex w wr ∧ ∃ k : Nat, k + m = l.length ∧ i = .int .i64 k)
  case atStart => exact ⟨Ex.refl _, 0, by omega, rfl⟩
  case round =>
    obtain ⟨hxr, k, hk, rfl⟩ := hrel
    by_cases hlt : k < l.length
    · rcases hx.ex hxr with rfl | ⟨b, off, rfl, hb, hc⟩
      · simp at hlt
      · have c0 := hc k 0 hlt (by omega)
        have c1 := hc k 1 hlt (by omega)
        simp only [encB, List.getElem?_cons_zero, List.getElem?_cons_succ, Nat.add_zero] at c0 c1
        clear hc hx
        by_cases h : (250 : Int) < ((nth l k).v.size : Int)
        · go_wp2_with fail
          go_ret
          exact ⟨false, rfl, fun h => (by cases h), (by repeat (first | exact Ex.refl _ | assumption | apply Ex.alloc | apply Ex.drew | apply Ex.drewN | (refine Ex.setAt ?_ _ ?_; (first | exact Nat.le_refl _ | omega | (simp; omega))) | (apply Ex.after; assumption)))⟩
        · go_wp2_with fail
          go_roundg (gk - 1)
          case measure => omega
          case rel => exact ⟨(by repeat (first | exact Ex.refl _ | assumption | apply Ex.alloc | apply Ex.drew | apply Ex.drewN | (refine Ex.setAt ?_ _ ?_; (first | exact Nat.le_refl _ | omega | (simp; omega))) | (apply Ex.after; assumption))), k + 1, by omega, by go_num⟩
    · by_cases h : (l.length : Int) ≤ 30
      · go_wp2_with fail
        go_ret
        exact ⟨true, by simp [h], fun _ => by omega, (by repeat (first | exact Ex.refl _ | assumption | apply Ex.alloc | apply Ex.drew | apply Ex.drewN | (refine Ex.setAt ?_ _ ?_; (first | exact Nat.le_refl _ | omega | (simp; omega))) | (apply Ex.after; assumption)))⟩
      · go_wp2_with fail
        go_ret
        exact ⟨false, by simp [h], fun h => (by cases h), (by repeat (first | exact Ex.refl _ | assumption | apply Ex.alloc | apply Ex.drew | apply Ex.drewN | (refine Ex.setAt ?_ _ ?_; (first | exact Nat.le_refl _ | omega | (simp; omega))) | (apply Ex.after; assumption)))⟩
end Go.Proofs.Ytfhipecfamecaaa
