/- Contracts of the functions on assets, of the program and of the reference alike. -/
import Derived.Test.YtgebgpdoddjfhaaGreatBal0
import Derived.Test.YtgebgpdoddjfhaaGreatAmt2
import Derived.Laws.RangeAny
namespace Go.Proofs.YtgebgpdoddjfhaaGreat
set_option linter.unusedSimpArgs false
set_option linter.unusedVariables false
set_option linter.unnecessarySimpa false
set_option linter.unusedSectionVars false
set_option maxRecDepth 100000
open Go.RowKit Go.Proofs.Grow Go.Sort

def nativeB (u : ByteArray) (i : Int) : Bool := u.toList.isEmpty && i == 0
/-- The byte at a place is a capital letter. -/
def upAt (s : ByteArray) (k : Nat) : Bool := if h : k < s.size then decide (65 ≤ (s[k]'h).toNat) && decide ((s[k]'h).toNat ≤ 90) else true
def upperB (s : ByteArray) : Bool := (List.range s.size).all (upAt s)
def sizeB (u : ByteArray) (i : Int) : Bool := (decide (1 ≤ (u.size : Int)) && decide ((u.size : Int) ≤ 4)) && (decide (1 ≤ i) && decide (i ≤ 1000))
def assetB (u : ByteArray) (i : Int) : Bool := nativeB u i || (upperB u && sizeB u i)
def ordA (u : ByteArray) (i : Int) (v : ByteArray) (j : Int) : Int := orI [cmpS u v, cmpI i j]
def lessA (u : ByteArray) (i : Int) (v : ByteArray) (j : Int) : Bool := Op.bytesLess u.toList v.toList || (u.toList == v.toList && decide (i < j))
theorem ordA_neg (u v : ByteArray) (i j : Int) : decide (ordA u i v j < 0) = lessA u i v j := by
  unfold ordA lessA
  rw [orI2]
  cases h : Op.bytesLess u.toList v.toList
  · cases k : (u.toList == v.toList)
    · simp [cmpS, h, k]
    · simp [cmpS, h, k, cmpI_neg]
  · simp [cmpS, h]
theorem upper_yes {s : ByteArray} (h : ∀ j, j < s.size → upAt s j = true) : upperB s = true := by
  simp only [upperB, List.all_eq_true, List.mem_range]; exact h
theorem upper_no {s : ByteArray} {k : Nat} (hk : k < s.size) (h : upAt s k = false) : upperB s = false := by
  rw [Bool.eq_false_iff]; intro q
  simp only [upperB, List.all_eq_true, List.mem_range] at q
  rw [q k hk] at h; cases h
theorem up_at {s : ByteArray} {k : Nat} (hk : k < s.size) : upAt s k = (decide (65 ≤ (s[k]'hk).toNat) && decide ((s[k]'hk).toNat ≤ 90)) := by simp [upAt, hk]

theorem native_p (u : ByteArray) (i : Int) (w : World) :
    Calls Tryz.prog 61 #[.agg #[.string u, .int .i64 i]] w fun e w' => e = .returned (.bool (nativeB u i)) ∧ Ex w w' := by
  cases k : u.toList.isEmpty
  · have k' : ¬ u.toList = [] := by simpa using k
    go_enter Tryz.func61, Tryz.ntmps61
    go_wp2
    go_ret
    exact ⟨by simp [nativeB, k], (by repeat (first | (with_reducible exact Ex.refl _) | (with_reducible assumption) | ((with_reducible refine Ex.setAt ?_ _ ?_); (first | exact Nat.le_refl _ | omega | (simp; omega))) | (with_reducible apply Ex.alloc) | (with_reducible apply Ex.drew) | (with_reducible apply Ex.drewN) | ((with_reducible apply Ex.after); with_reducible assumption) | exact Ex.refl _ | assumption | apply Ex.alloc | apply Ex.drew | apply Ex.drewN | (refine Ex.setAt ?_ _ ?_; (first | exact Nat.le_refl _ | omega | (simp; omega))) | (apply Ex.after; assumption)))⟩
  · have k' : u.toList = [] := by simpa using k
    by_cases h : i = 0
    all_goals
      go_enter Tryz.func61, Tryz.ntmps61
      go_wp2
      go_ret
      exact ⟨by simp [nativeB, k, h], (by repeat (first | (with_reducible exact Ex.refl _) | (with_reducible assumption) | ((with_reducible refine Ex.setAt ?_ _ ?_); (first | exact Nat.le_refl _ | omega | (simp; omega))) | (with_reducible apply Ex.alloc) | (with_reducible apply Ex.drew) | (with_reducible apply Ex.drewN) | ((with_reducible apply Ex.after); with_reducible assumption) | exact Ex.refl _ | assumption | apply Ex.alloc | apply Ex.drew | apply Ex.drewN | (refine Ex.setAt ?_ _ ?_; (first | exact Nat.le_refl _ | omega | (simp; omega))) | (apply Ex.after; assumption)))⟩

theorem native_r (u : ByteArray) (i : Int) (w : World) :
    Calls Tryz.prog 62 #[.agg #[.string u, .int .i64 i]] w fun e w' => e = .returned (.bool (nativeB u i)) ∧ Ex w w' := by
  cases k : u.toList.isEmpty
  · have k' : ¬ u.toList = [] := by simpa using k
    go_enter Tryz.func62, Tryz.ntmps62
    go_wp2
    go_ret
    exact ⟨by simp [nativeB, k], (by repeat (first | (with_reducible exact Ex.refl _) | (with_reducible assumption) | ((with_reducible refine Ex.setAt ?_ _ ?_); (first | exact Nat.le_refl _ | omega | (simp; omega))) | (with_reducible apply Ex.alloc) | (with_reducible apply Ex.drew) | (with_reducible apply Ex.drewN) | ((with_reducible apply Ex.after); with_reducible assumption) | exact Ex.refl _ | assumption | apply Ex.alloc | apply Ex.drew | apply Ex.drewN | (refine Ex.setAt ?_ _ ?_; (first | exact Nat.le_refl _ | omega | (simp; omega))) | (apply Ex.after; assumption)))⟩
  · have k' : u.toList = [] := by simpa using k
    by_cases h : i = 0
    all_goals
      go_enter Tryz.func62, Tryz.ntmps62
      go_wp2
      go_ret
      exact ⟨by simp [nativeB, k, h], (by repeat (first | (with_reducible exact Ex.refl _) | (with_reducible assumption) | ((with_reducible refine Ex.setAt ?_ _ ?_); (first | exact Nat.le_refl _ | omega | (simp; omega))) | (with_reducible apply Ex.alloc) | (with_reducible apply Ex.drew) | (with_reducible apply Ex.drewN) | ((with_reducible apply Ex.after); with_reducible assumption) | exact Ex.refl _ | assumption | apply Ex.alloc | apply Ex.drew | apply Ex.drewN | (refine Ex.setAt ?_ _ ?_; (first | exact Nat.le_refl _ | omega | (simp; omega))) | (apply Ex.after; assumption)))⟩

theorem ordA_p (u v : ByteArray) (i j : Int) (w : World) :
    Calls Tryz.prog 108 #[.agg #[.string u, .int .i64 i], .agg #[.string v, .int .i64 j]] w fun e w' => e = .returned (.int .i64 (ordA u i v j)) ∧ Ex w w' := by
  go_enter Tryz.func108, Tryz.ntmps108
  go_wp2
  refine region_head_in 10 (by kernel_rfl) (by kernel_rfl) ?_
  simp only [List.take_succ_cons, List.take_zero, List.drop_succ_cons, List.drop_zero]
  repeat (quiet_step (first | exact quiet_ex (cmpI_ex _ _ _) | exact quiet_ex (cmpS_ex _ _ _)))
  refine wpQuiet_nil ?_
  intro wq hq
  have hb := In.ex hq; clear hq
  go_wp2_with (first | (go_at_call 111; refine (or_two _ _ _).mono ?_; rintro e w_or_two ⟨rfl, hb_or_two⟩; have hr_or_two := hb_or_two.rules; obtain ⟨hc_or_two, hf_or_two⟩ := hr_or_two; have hs_or_two := hb_or_two.sz; (try simp only [World.size_alloc, World.size_setCell, World.size_drew] at hs_or_two)))
  go_ret
  exact ⟨rfl, (by repeat (first | (with_reducible exact Ex.refl _) | (with_reducible assumption) | ((with_reducible refine Ex.setAt ?_ _ ?_); (first | exact Nat.le_refl _ | omega | (simp; omega))) | (with_reducible apply Ex.alloc) | (with_reducible apply Ex.drew) | (with_reducible apply Ex.drewN) | ((with_reducible apply Ex.after); with_reducible assumption) | exact Ex.refl _ | assumption | apply Ex.alloc | apply Ex.drew | apply Ex.drewN | (refine Ex.setAt ?_ _ ?_; (first | exact Nat.le_refl _ | omega | (simp; omega))) | (apply Ex.after; assumption)))⟩

theorem lessA_r (u v : ByteArray) (i j : Int) (w : World) :
    Calls Tryz.prog 53 #[.agg #[.string u, .int .i64 i], .agg #[.string v, .int .i64 j]] w fun e w' => e = .returned (.bool (lessA u i v j)) ∧ Ex w w' := by
  cases h : Op.bytesLess u.toList v.toList <;> cases k : (u.toList == v.toList)
  all_goals
    go_enter Tryz.func53, Tryz.ntmps53
    go_wp2
    go_ret
    exact ⟨by simp [lessA, h, k], (by repeat (first | (with_reducible exact Ex.refl _) | (with_reducible assumption) | ((with_reducible refine Ex.setAt ?_ _ ?_); (first | exact Nat.le_refl _ | omega | (simp; omega))) | (with_reducible apply Ex.alloc) | (with_reducible apply Ex.drew) | (with_reducible apply Ex.drewN) | ((with_reducible apply Ex.after); with_reducible assumption) | exact Ex.refl _ | assumption | apply Ex.alloc | apply Ex.drew | apply Ex.drewN | (refine Ex.setAt ?_ _ ?_; (first | exact Nat.le_refl _ | omega | (simp; omega))) | (apply Ex.after; assumption)))⟩

set_option maxHeartbeats 1000000 in
theorem asset_p (u : ByteArray) (i : Int) (w : World) :
    Calls Tryz.prog 34 #[.agg #[.string u, .int .i64 i]] w fun e w' => e = .returned (.bool (assetB u i)) ∧ Ex w w' := by
  cases h0 : nativeB u i
  · have HF := Lib.hid (show assetB u i = (upperB u && sizeB u i) by simp [assetB, h0])
    go_enter Tryz.func34, Tryz.ntmps34
    go_wp2_with (first | (go_at_call 61; refine (native_p _ _ _).mono ?_; rintro e w_native_p ⟨rfl, hb_native_p⟩; have hr_native_p := hb_native_p.rules; obtain ⟨hc_native_p, hf_native_p⟩ := hr_native_p; have hs_native_p := hb_native_p.sz; (try simp only [World.size_alloc, World.size_setCell, World.size_drew] at hs_native_p); have hz0_native_p : w.heap.size < w_native_p.heap.size := (by omega)))
    obtain ⟨W, rfl⟩ : ∃ y : World, y = w_native_p := ⟨_, rfl⟩
    have hxW : Ex w W := (by repeat (first | (with_reducible exact Ex.refl _) | (with_reducible assumption) | ((with_reducible refine Ex.setAt ?_ _ ?_); (first | exact Nat.le_refl _ | omega | (simp; omega))) | (with_reducible apply Ex.alloc) | (with_reducible apply Ex.drew) | (with_reducible apply Ex.drewN) | ((with_reducible apply Ex.after); with_reducible assumption) | exact Ex.refl _ | assumption | apply Ex.alloc | apply Ex.drew | apply Ex.drewN | (refine Ex.setAt ?_ _ ?_; (first | exact Nat.le_refl _ | omega | (simp; omega))) | (apply Ex.after; assumption)))
    have c0 := (Box.new w [.string u, .int .i64 i] 30).ex hb_native_p |>.cell 0 _ rfl
    have c1 := (Box.new w [.string u, .int .i64 i] 30).ex hb_native_p |>.cell 1 _ rfl
    go_loopg [4] u.size (fun m _ wr => ∃ k : Nat, wr = W.iter u k ∧ k + m = u.size ∧ Hid (∀ j, j < k → upAt u j = true))
    case atStart => exact ⟨0, rfl, by omega, Lib.hid (fun j hj => by omega)⟩
    case round =>
      obtain ⟨k, rfl, hk, HU⟩ := hrel
      by_cases hlt : k < u.size
      · by_cases ha : (u[k]'hlt).toNat < 128
        · have hn := fun ty => run_next_ascii (P := Tryz.prog) W u k ty hlt ha
          cases hu : upAt u k
          · have HB : Hid (assetB u i = false) := by rw [HF.out, upper_no hlt hu]; exact Lib.hid rfl
            rw [up_at hlt] at hu
            by_cases h65 : ((u[k]'hlt).toNat : Int) < 65
            · have hb := u[k].toNat_lt
              clear hu
              go_wp2_with fail
              go_ret
              exact ⟨by rw [HB.out]; rfl, hxW.alloc _⟩
            · have h90 : (90 : Int) < ((u[k]'hlt).toNat : Int) := by simp at hu; omega
              have hb := u[k].toNat_lt
              clear hu
              go_wp2_with fail
              go_ret
              exact ⟨by rw [HB.out]; rfl, hxW.alloc _⟩
          · have HU2 : Hid (∀ j, j < k + 1 → upAt u j = true) := Lib.hid (fun j hj => by
              by_cases e : j = k
              · rw [e]; exact hu
              · exact HU.out j (by omega))
            rw [up_at hlt] at hu
            have h65 : (65 : Int) ≤ ((u[k]'hlt).toNat : Int) := by simp at hu; omega
            have h90 : ((u[k]'hlt).toNat : Int) ≤ 90 := by simp at hu; omega
            clear hu HU
            go_wp2_with fail
            go_roundg (gk - 1)
            case measure => omega
            case rel => exact ⟨k + 1, rfl, by omega, HU2⟩
        · obtain ⟨hd1, hd2⟩ := decode_high u k hlt (by omega)
          have hd3 := decode_le u k
          have hn := fun ty => run_next_any (P := Tryz.prog) W u k ty hlt
          have hu : upAt u k = false := by rw [up_at hlt]; simp; omega
          have HB : Hid (assetB u i = false) := by rw [HF.out, upper_no hlt hu]; exact Lib.hid rfl
          clear hu
          generalize Utf8.decode u k = d at *
          go_wp2_with fail
          go_ret
          exact ⟨by rw [HB.out]; rfl, hxW.alloc _⟩
      · have hn := fun ty => run_next_end (P := Tryz.prog) W u k ty hlt
        have HB : Hid (assetB u i = sizeB u i) := by rw [HF.out, upper_yes (fun j hj => HU.out j (by omega)), Bool.true_and]; exact Lib.hid rfl
        have lw := hb_native_p.sz
        simp only [World.size_alloc] at lw
        have c2 : (W.iter u k).cell? ⟨w.heap.size, 0, none⟩ = some (.string u) := by unfold World.iter; rw [((Ex.refl W).alloc _).rules.1 _ _ (by omega)]; exact c0
        have c3 : (W.iter u k).cell? ⟨w.heap.size, 1, none⟩ = some (.int .i64 i) := by unfold World.iter; rw [((Ex.refl W).alloc _).rules.1 _ _ (by omega)]; exact c1
        have hfin : Hid (Ex w (W.iter u k)) := Lib.hid (hxW.alloc _)
        generalize W.iter u k = X at *
        by_cases h1 : 1 ≤ (u.size : Int) <;> by_cases h2 : (u.size : Int) ≤ 4 <;> by_cases h3 : 1 ≤ i <;> by_cases h4 : i ≤ 1000
        all_goals first
          | (exfalso; omega)
          | (go_wp2_with fail
             go_ret
             exact ⟨by rw [HB.out]; simp [sizeB, h1, h2, h3, h4], hfin.out⟩)
  · have HF := Lib.hid (show assetB u i = true by simp [assetB, h0])
    go_enter Tryz.func34, Tryz.ntmps34
    go_wp2_with (first | (go_at_call 61; refine (native_p _ _ _).mono ?_; rintro e w_native_p ⟨rfl, hb_native_p⟩; have hr_native_p := hb_native_p.rules; obtain ⟨hc_native_p, hf_native_p⟩ := hr_native_p; have hs_native_p := hb_native_p.sz; (try simp only [World.size_alloc, World.size_setCell, World.size_drew] at hs_native_p); have hz0_native_p : w.heap.size < w_native_p.heap.size := (by omega)))
    go_ret
    exact ⟨by rw [HF.out]; rfl, (by repeat (first | (with_reducible exact Ex.refl _) | (with_reducible assumption) | ((with_reducible refine Ex.setAt ?_ _ ?_); (first | exact Nat.le_refl _ | omega | (simp; omega))) | (with_reducible apply Ex.alloc) | (with_reducible apply Ex.drew) | (with_reducible apply Ex.drewN) | ((with_reducible apply Ex.after); with_reducible assumption) | exact Ex.refl _ | assumption | apply Ex.alloc | apply Ex.drew | apply Ex.drewN | (refine Ex.setAt ?_ _ ?_; (first | exact Nat.le_refl _ | omega | (simp; omega))) | (apply Ex.after; assumption)))⟩

theorem size_no {u : ByteArray} {i : Int} (h : sizeB u i = false) : ¬ ((1 ≤ (u.size : Int) ∧ (u.size : Int) ≤ 4) ∧ (1 ≤ i ∧ i ≤ 1000)) := by
  intro q; rw [Bool.eq_false_iff] at h; apply h; simp [sizeB]; omega
set_option maxHeartbeats 1000000 in
theorem asset_r (u : ByteArray) (i : Int) (w : World) :
    Calls Tryz.prog 35 #[.agg #[.string u, .int .i64 i]] w fun e w' => e = .returned (.bool (assetB u i)) ∧ Ex w w' := by
  cases h0 : nativeB u i
  · have HF := Lib.hid (show assetB u i = (upperB u && sizeB u i) by simp [assetB, h0])
    cases h5 : sizeB u i
    · have HB : Hid (assetB u i = false) := by rw [HF.out, h5, Bool.and_false]; exact Lib.hid rfl
      have hno := size_no h5
      by_cases h1 : (u.size : Int) < 1 <;> by_cases h2 : (4 : Int) < (u.size : Int) <;> by_cases h3 : i < 1 <;> by_cases h4 : 1000 < i
      all_goals first
        | (exfalso; omega)
        | (clear hno h5
           go_enter Tryz.func35, Tryz.ntmps35
           go_wp2_with (first | (go_at_call 62; refine (native_r _ _ _).mono ?_; rintro e w_native_r ⟨rfl, hb_native_r⟩; have hr_native_r := hb_native_r.rules; obtain ⟨hc_native_r, hf_native_r⟩ := hr_native_r; have hs_native_r := hb_native_r.sz; (try simp only [World.size_alloc, World.size_setCell, World.size_drew] at hs_native_r); have hz0_native_r : w.heap.size < w_native_r.heap.size := (by omega)))
           go_ret
           exact ⟨by rw [HB.out]; rfl, (by repeat (first | (with_reducible exact Ex.refl _) | (with_reducible assumption) | ((with_reducible refine Ex.setAt ?_ _ ?_); (first | exact Nat.le_refl _ | omega | (simp; omega))) | (with_reducible apply Ex.alloc) | (with_reducible apply Ex.drew) | (with_reducible apply Ex.drewN) | ((with_reducible apply Ex.after); with_reducible assumption) | exact Ex.refl _ | assumption | apply Ex.alloc | apply Ex.drew | apply Ex.drewN | (refine Ex.setAt ?_ _ ?_; (first | exact Nat.le_refl _ | omega | (simp; omega))) | (apply Ex.after; assumption)))⟩)
    · have hs : (1 ≤ (u.size : Int) ∧ (u.size : Int) ≤ 4) ∧ (1 ≤ i ∧ i ≤ 1000) := by simpa [sizeB] using h5
      obtain ⟨⟨s1, s2⟩, s3, s4⟩ := hs
      have HG : Hid (assetB u i = upperB u) := by rw [HF.out, h5, Bool.and_true]; exact Lib.hid rfl
      clear h5
      go_enter Tryz.func35, Tryz.ntmps35
      go_wp2_with (first | (go_at_call 62; refine (native_r _ _ _).mono ?_; rintro e w_native_r ⟨rfl, hb_native_r⟩; have hr_native_r := hb_native_r.rules; obtain ⟨hc_native_r, hf_native_r⟩ := hr_native_r; have hs_native_r := hb_native_r.sz; (try simp only [World.size_alloc, World.size_setCell, World.size_drew] at hs_native_r); have hz0_native_r : w.heap.size < w_native_r.heap.size := (by omega)))
      go_loopg [3] u.size (fun m j wr => Ex w_native_r wr ∧ ∃ k : Nat, j = .int .i64 k ∧ k + m = u.size ∧ Hid (∀ j, j < k → upAt u j = true))
      case atStart => exact ⟨Ex.refl _, 0, rfl, by omega, Lib.hid (fun j hj => by omega)⟩
      case round =>
        obtain ⟨hxr, k, rfl, hk, HU⟩ := hrel
        have bx : Box wr w.heap.size [.string u, .int .i64 i] 30 := (by repeat (first | (with_reducible assumption) | (refine Box.new_at _ _ _ _ ?_; (first | with_reducible rfl | omega | (simp; done))) | (with_reducible apply Box.alloc) | apply Box.alloc | apply Box.set | (refine Box.aside ?_ _ ?_; omega) | (apply Box.later; with_reducible assumption) | assumption | (apply Box.later; assumption) | rfl))
        have c0 := bx.cell 0 _ rfl
        have c1 := bx.cell 1 _ rfl
        by_cases hlt : k < u.size
        · have hb := u[k].toNat_lt
          cases hu : upAt u k
          · have HB : Hid (assetB u i = false) := by rw [HG.out, upper_no hlt hu]; exact Lib.hid rfl
            rw [up_at hlt] at hu
            by_cases h65 : ((u[k]'hlt).toNat : Int) < 65
            · clear hu
              go_wp2_with fail
              go_ret
              exact ⟨by rw [HB.out]; rfl, (by repeat (first | (with_reducible exact Ex.refl _) | (with_reducible assumption) | ((with_reducible refine Ex.setAt ?_ _ ?_); (first | exact Nat.le_refl _ | omega | (simp; omega))) | (with_reducible apply Ex.alloc) | (with_reducible apply Ex.drew) | (with_reducible apply Ex.drewN) | ((with_reducible apply Ex.after); with_reducible assumption) | exact Ex.refl _ | assumption | apply Ex.alloc | apply Ex.drew | apply Ex.drewN | (refine Ex.setAt ?_ _ ?_; (first | exact Nat.le_refl _ | omega | (simp; omega))) | (apply Ex.after; assumption)))⟩
            · have h90 : (90 : Int) < ((u[k]'hlt).toNat : Int) := by simp at hu; omega
              clear hu
              go_wp2_with fail
              go_ret
              exact ⟨by rw [HB.out]; rfl, (by repeat (first | (with_reducible exact Ex.refl _) | (with_reducible assumption) | ((with_reducible refine Ex.setAt ?_ _ ?_); (first | exact Nat.le_refl _ | omega | (simp; omega))) | (with_reducible apply Ex.alloc) | (with_reducible apply Ex.drew) | (with_reducible apply Ex.drewN) | ((with_reducible apply Ex.after); with_reducible assumption) | exact Ex.refl _ | assumption | apply Ex.alloc | apply Ex.drew | apply Ex.drewN | (refine Ex.setAt ?_ _ ?_; (first | exact Nat.le_refl _ | omega | (simp; omega))) | (apply Ex.after; assumption)))⟩
          · have HU2 : Hid (∀ j, j < k + 1 → upAt u j = true) := Lib.hid (fun j hj => by
              by_cases e : j = k
              · rw [e]; exact hu
              · exact HU.out j (by omega))
            rw [up_at hlt] at hu
            have h65 : (65 : Int) ≤ ((u[k]'hlt).toNat : Int) := by simp at hu; omega
            have h90 : ((u[k]'hlt).toNat : Int) ≤ 90 := by simp at hu; omega
            clear hu HU
            go_wp2_with fail
            go_roundg (gk - 1)
            case measure => omega
            case rel => exact ⟨(by repeat (first | (with_reducible exact Ex.refl _) | (with_reducible assumption) | ((with_reducible refine Ex.setAt ?_ _ ?_); (first | exact Nat.le_refl _ | omega | (simp; omega))) | (with_reducible apply Ex.alloc) | (with_reducible apply Ex.drew) | (with_reducible apply Ex.drewN) | ((with_reducible apply Ex.after); with_reducible assumption) | exact Ex.refl _ | assumption | apply Ex.alloc | apply Ex.drew | apply Ex.drewN | (refine Ex.setAt ?_ _ ?_; (first | exact Nat.le_refl _ | omega | (simp; omega))) | (apply Ex.after; assumption))), k + 1, by go_num, by omega, HU2⟩
        · have HB : Hid (assetB u i = true) := by rw [HG.out, upper_yes (fun j hj => HU.out j (by omega))]; exact Lib.hid rfl
          go_wp2_with fail
          go_ret
          exact ⟨by rw [HB.out]; rfl, (by repeat (first | (with_reducible exact Ex.refl _) | (with_reducible assumption) | ((with_reducible refine Ex.setAt ?_ _ ?_); (first | exact Nat.le_refl _ | omega | (simp; omega))) | (with_reducible apply Ex.alloc) | (with_reducible apply Ex.drew) | (with_reducible apply Ex.drewN) | ((with_reducible apply Ex.after); with_reducible assumption) | exact Ex.refl _ | assumption | apply Ex.alloc | apply Ex.drew | apply Ex.drewN | (refine Ex.setAt ?_ _ ?_; (first | exact Nat.le_refl _ | omega | (simp; omega))) | (apply Ex.after; assumption)))⟩
  · have HF := Lib.hid (show assetB u i = true by simp [assetB, h0])
    go_enter Tryz.func35, Tryz.ntmps35
    go_wp2_with (first | (go_at_call 62; refine (native_r _ _ _).mono ?_; rintro e w_native_r ⟨rfl, hb_native_r⟩; have hr_native_r := hb_native_r.rules; obtain ⟨hc_native_r, hf_native_r⟩ := hr_native_r; have hs_native_r := hb_native_r.sz; (try simp only [World.size_alloc, World.size_setCell, World.size_drew] at hs_native_r); have hz0_native_r : w.heap.size < w_native_r.heap.size := (by omega)))
    go_ret
    exact ⟨by rw [HF.out]; rfl, (by repeat (first | (with_reducible exact Ex.refl _) | (with_reducible assumption) | ((with_reducible refine Ex.setAt ?_ _ ?_); (first | exact Nat.le_refl _ | omega | (simp; omega))) | (with_reducible apply Ex.alloc) | (with_reducible apply Ex.drew) | (with_reducible apply Ex.drewN) | ((with_reducible apply Ex.after); with_reducible assumption) | exact Ex.refl _ | assumption | apply Ex.alloc | apply Ex.drew | apply Ex.drewN | (refine Ex.setAt ?_ _ ?_; (first | exact Nat.le_refl _ | omega | (simp; omega))) | (apply Ex.after; assumption)))⟩
end Go.Proofs.YtgebgpdoddjfhaaGreat
