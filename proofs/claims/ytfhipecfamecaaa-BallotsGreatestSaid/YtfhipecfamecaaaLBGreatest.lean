/- BallotsGreatest: the walk of the statement, and the plain law on the greatest ballot of a list. -/
import Derived.Test.YtfhipecfamecaaaLBOrder
namespace Go.Proofs.Ytfhipecfamecaaa
set_option linter.unusedSimpArgs false
set_option linter.unusedVariables false
set_option linter.unnecessarySimpa false
set_option linter.unusedSectionVars false
open Go.RowKit Go.Proofs.Grow Go.Sort

theorem Src.grown {w w' : World} {b base sz : Nat} {t : TypeId} {enc : Ball → List Value} {v : Value} {l : List Ball} (h : Src w b) (ho : Own w base t enc sz v l) (hb : b < base) (hg : w.grownBy w' v.ownBlock) : Src w' b := by
  obtain ⟨a, len, cap, i, hbx, h1, h2, h3⟩ := h
  refine ⟨a, len, cap, i, hbx.grown ho hb hg, h1, h2, fun j hj => ?_⟩
  obtain ⟨c, off, n, rfl, hc, hcell, hn⟩ := h3 j hj
  exact ⟨c, off, n, rfl, hc, cell_old hg hcell (fun e => by have := World.ownsRow.lt ho c e.symm; omega), hn⟩

def eqB (x y : Ball) : Bool := x.c == y.c && x.v.toList == y.v.toList
theorem eqB_iff {x y : Ball} : eqB x y = true ↔ x.c = y.c ∧ x.v.toList = y.v.toList := by simp [eqB]
theorem tri3 (x y : Ball) (h : lessB x.c x.v y.c y.v = false) (k : lessB y.c y.v x.c x.v = false) : eqB x y = true := by
  rcases tri x.c y.c x.v y.v with ⟨a, _, _⟩ | ⟨_, a, _⟩ | ⟨_, _, a⟩
  · rw [h] at a; cases a
  · rw [k] at a; cases a
  · exact a
theorem less_congr {x y z : Ball} (h : eqB y z = true) : lessB x.c x.v y.c y.v = lessB x.c x.v z.c z.v := by
  obtain ⟨h1, h2⟩ := eqB_iff.1 h
  unfold lessB lessV; rw [h1, size_eq h2, h2]
theorem grF_spec (l : List Ball) : ∀ (f : Bool) (o : Ball), (f = true → l ≠ []) → (f = true ∧ grF f o l ∈ l ∨ f = false ∧ (grF f o l = o ∨ grF f o l ∈ l)) ∧ (∀ x, x ∈ l → lessB (grF f o l).c (grF f o l).v x.c x.v = false) ∧ (f = false → lessB (grF f o l).c (grF f o l).v o.c o.v = false) := by
  have irr : ∀ o : Ball, lessB o.c o.v o.c o.v = false := fun o => by simp [lessB, lessV_irrefl]
  induction l with
  | nil =>
    intro f o hf
    cases f
    · exact ⟨.inr ⟨rfl, .inl rfl⟩, fun x hx => (by cases hx), fun _ => irr o⟩
    · exact absurd rfl (hf rfl)
  | cons x r ih =>
    intro f o hf
    by_cases hc : (f || lessB o.c o.v x.c x.v) = true
    · have e : grF f o (x :: r) = grF false x r := by simp [grF, hc]
      rw [e]
      obtain ⟨h1, h2, h3⟩ := ih false x (fun h => by cases h)
      have h3' := h3 rfl
      have hmem : grF false x r ∈ x :: r := by
        rcases h1 with ⟨h, _⟩ | ⟨_, h | h⟩
        · cases h
        · rw [h]; simp
        · simp [h]
      refine ⟨?_, ?_, ?_⟩
      · cases f
        · exact .inr ⟨rfl, .inr hmem⟩
        · exact .inl ⟨rfl, hmem⟩
      · intro y hy
        rcases List.mem_cons.1 hy with rfl | hy
        · exact h3'
        · exact h2 y hy
      · intro hf0
        subst hf0
        have hox : lessB o.c o.v x.c x.v = true := by simpa using hc
        rw [Bool.eq_false_iff]; intro q
        rw [lessB_trans q hox] at h3'; cases h3'
    · have hf0 : f = false := by cases f <;> simp_all
      subst hf0
      have hox : lessB o.c o.v x.c x.v = false := by simpa using hc
      have e : grF false o (x :: r) = grF false o r := by simp [grF, hox]
      rw [e]
      obtain ⟨h1, h2, h3⟩ := ih false o (fun h => by cases h)
      have h3' := h3 rfl
      refine ⟨.inr ⟨rfl, ?_⟩, ?_, fun _ => h3'⟩
      · rcases h1 with ⟨h, _⟩ | ⟨_, h | h⟩
        · cases h
        · exact .inl h
        · exact .inr (by simp [h])
      · intro y hy
        rcases List.mem_cons.1 hy with rfl | hy
        · rw [Bool.eq_false_iff]; intro q
          cases k : lessB y.c y.v o.c o.v
          · rw [less_congr (tri3 y o k hox)] at q
            rw [q] at h3'; cases h3'
          · rw [lessB_trans q k] at h3'; cases h3'
        · exact h2 y hy
theorem greatest_mem {l : List Ball} (h : l ≠ []) : greatest l ∈ l := by
  rcases (grF_spec l true ⟨0, ⟨#[]⟩⟩ (fun _ => h)).1 with ⟨_, k⟩ | ⟨k, _⟩
  · exact k
  · cases k
theorem greatest_top {l : List Ball} {x : Ball} (h : x ∈ l) : lessB (greatest l).c (greatest l).v x.c x.v = false :=
  (grF_spec l true ⟨0, ⟨#[]⟩⟩ (fun _ e => by subst e; cases h)).2.1 x h
theorem greatest_back (l : List Ball) : eqB (greatest l.reverse) (greatest l) = true := by
  by_cases h : l = []
  · subst h; decide +kernel
  · have h1 := greatest_mem h
    have h2 := greatest_mem (l := l.reverse) (by simpa using h)
    exact tri3 _ _ (greatest_top (by simpa using h1)) (greatest_top (by simpa using h2))
theorem drop_rev (l : List Ball) (j : Nat) (h : j < l.length) : (l.drop j).reverse = (l.drop (j + 1)).reverse ++ [nth l j] := by
  rw [drop_nth l j h]; simp

set_option maxRecDepth 100000 in
set_option maxHeartbeats 1000000 in
theorem law_BallotsGreatest (a0 : Option Addr) (len0 cap0 : Nat) (z0 : List Int) (w : World) (w0 : IsRow .i64 w a0 len0 cap0 z0) :
    Calls Try.prog 7 #[.slice a0 len0 cap0] w fun e w' => e = .returned (.bool true) ∧ Ex w w' := by
  go_enter Try.func7, Try.ntmps7
  go_wp2_with fail
  refine (make_Src _ _ _ _ _ w0).mono ?_
  rintro e w1 ⟨b, rfl, hwb, hx1, hs1⟩
  have hbl := hs1.lt
  go_wp2_with fail
  refine (draw_N b _ _ (by repeat (first | assumption | apply Src.alloc | apply Src.drew | (apply Src.later; assumption))) (by omega) (by omega)).mono ?_
  rintro e w2 ⟨_, rfl, ⟨n, rfl, n1, n2⟩, hx2, hs2⟩
  have hz2 := hx2.size
  have hx : Ex w w2 := hx1.exb hwb hx2
  clear hx1 hx2 hs1
  go_wp2_with fail
  go_loopg [4, 6] 7 (fun m v i wr => Exb b w2 wr ∧ Src wr b ∧ ∃ (l : List Ball) (k : Int), 0 ≤ k ∧ k ≤ m ∧ i = .int .i64 k ∧ l.length + m = 7 ∧ Own wr w2.heap.size 26 encB 2 v l ∧ Hid (∀ x, x ∈ l → 1 ≤ x.c))
  case atStart => exact ⟨(by repeat (first | exact Exb.refl _ _ | assumption | apply Exb.alloc | apply Exb.drew | apply Exb.drewN | (apply Exb.setNew; (first | exact Nat.le_refl _ | omega | (simp; omega))) | (apply Exb.after; assumption) | (apply Exb.afterx; assumption))), hs2, [], n, n1, by omega, rfl, rfl, Own.nil _ _ _ _ _, Lib.hid (fun x hx => by cases hx)⟩
  case round =>
    obtain ⟨hxr, hsr, l, k, k1, k2, rfl, hlen, hown, hpos⟩ := hrel
    obtain ⟨v, rfl⟩ : ∃ y : Value, y = u4 := ⟨_, rfl⟩
    have hsz := hxr.size
    by_cases hk : 0 < k
    · go_wp2_with fail
      refine (draw_Ballot b _ (by repeat (first | assumption | apply Src.alloc | apply Src.drew | (apply Src.later; assumption)))).mono ?_
      rintro e w3 ⟨_, rfl, ⟨c, s, rfl, p1, p2, p3, p4⟩, hx3, hs3⟩
      have hz3 := hx3.size
      have hown3 := (hown.exb hx3 (by omega)).alloc (.cells #[.int .i64 c, .string s] 26)
      have hs4 := hs3.alloc (.cells #[.int .i64 c, .string s] 26)
      have hbx : Box (w3.alloc (.cells #[.int .i64 c, .string s] 26)) w3.heap.size (encB ⟨c, s⟩) 26 := Box.new _ [_, _] _
      go_wp2_with (at_builtin; refine append_one encB rfl (.tmp 20) (.tmp 23) 38 rfl w2.heap.size 26 (.agg #[.int .i64 0, .string ⟨#[]⟩]) 2 24 (by kernel_rfl) Try.underlying38 rfl (by decide) (fun _ => rfl) v l ⟨c, s⟩ _ _ _ rfl rfl hown3 hbx (by simp [encB, Value.oneCell']) (by unfold maxLen; omega) (by omega) (by simp; omega) ?_; intro v' w4 hown4 hg4)
      go_roundg (gk - 1)
      case measure => omega
      case rel =>
        refine ⟨(((hxr.trans hx3).alloc _).grown hown3 (Nat.le_refl _) hg4), hs4.grown hown3 (by omega) hg4, _, k - 1, by omega, by omega, by go_num, ?_, hown4, Lib.hid (fun x hx => ?_)⟩
        · simp; omega
        · rcases List.mem_append.1 hx with h | h
          · exact hpos.out x h
          · obtain rfl : x = ⟨c, s⟩ := by simpa using h
            exact p1
    · have hl7 : l.length ≤ 7 := by omega
      have hxA : Ex w wr := hx.exb hwb hxr
      clear hxr hsr hs2
      obtain ⟨a, cap, rfl, hcap, hsl, hblk⟩ := hown.sl (fun _ => rfl)
      clear hown hblk
      obtain ⟨wA, rfl⟩ : ∃ y : World, y = wr := ⟨_, rfl⟩
      go_wp2_with fail
      go_loopg [5, 7] l.length (fun m v i wr => Ex wA wr ∧ ∃ q : Int, -1 ≤ q ∧ q + 1 = m ∧ q < l.length ∧ i = .int .i64 q ∧ Own wr wA.heap.size 26 encB 2 v (l.drop m).reverse)
      case atStart => exact ⟨Ex.refl _, (l.length : Int) - 1, by omega, by omega, by omega, by go_num, by rw [List.drop_length]; exact Own.nil _ _ _ _ _⟩
      case round =>
        obtain ⟨hxr, q, hq, hqm, hql, rfl, hown⟩ := hrel
        obtain ⟨v, rfl⟩ : ∃ y : Value, y = u5 := ⟨_, rfl⟩
        have hsz := hxr.size
        by_cases hq0 : 0 ≤ q
        · obtain ⟨j, rfl⟩ := Int.eq_ofNat_of_zero_le hq0
          have hj : j < l.length := by omega
          obtain rfl : gk = j + 1 := by omega
          rcases hsl.ex hxr with rfl | ⟨g, off, rfl, hg, hcell⟩
          · simp at hj
          · have d0 := hcell j 0 hj (by omega)
            have d1 := hcell j 1 hj (by omega)
            clear hcell
            rw [show (encB (nth l j))[0]? = some (.int .i64 (nth l j).c) from rfl, Nat.add_zero] at d0
            rw [show (encB (nth l j))[1]? = some (.string (nth l j).v) from rfl] at d1
            have hown3 := hown.alloc (.cells #[.int .i64 (nth l j).c, .string (nth l j).v] 26)
            have hbx : Box (wr.alloc (.cells #[.int .i64 (nth l j).c, .string (nth l j).v] 26)) wr.heap.size (encB (nth l j)) 26 := Box.new _ [_, _] _
            have hln : (l.drop (j + 1)).reverse.length ≤ 7 := by simp; omega
            have HR := Lib.hid (drop_rev l j hj)
            have HQ := Lib.hid hqm; clear hqm
            go_wp2_with (at_builtin; refine append_one encB rfl (.tmp 32) (.tmp 37) 38 rfl wA.heap.size 26 (.agg #[.int .i64 0, .string ⟨#[]⟩]) 2 24 (by kernel_rfl) Try.underlying38 rfl (by decide) (fun _ => rfl) v (l.drop (j + 1)).reverse (nth l j) _ _ _ rfl rfl hown3 hbx (by simp [encB, Value.oneCell']) (by unfold maxLen; omega) (by omega) (by simp; omega) ?_; intro v' w4 hown4 hg4; rw [← HR.out] at hown4)
            go_roundg j
            case measure => omega
            case rel => exact ⟨((hxr.alloc _).grown hown3 (Nat.le_refl _) hg4), (j : Int) - 1, by omega, by omega, by omega, by go_num, hown4⟩
        · obtain rfl : gk = 0 := by omega
          rw [List.drop_zero] at hown
          have hsl2 := hsl.ex hxr
          have hxB : Ex w wr := hxA.trans hxr
          clear hxA hxr hsl
          obtain ⟨a2, cap2, rfl, hcap2, hsl3, hblk2⟩ := hown.sl (fun _ => rfl)
          clear hown hblk2
          have hlr : l.reverse.length = l.length := by simp
          obtain ⟨wB, rfl⟩ : ∃ y : World, y = wr := ⟨_, rfl⟩
          have heq : ∀ w, (binOp .eql 26 (.agg #[.int .i64 (greatest l.reverse).c, .string (greatest l.reverse).v]) (.agg #[.int .i64 (greatest l).c, .string (greatest l).v])).run Try.prog w = .ok (.bool true) w := by
            intro w'
            rw [balEq]
            have := greatest_back l
            unfold eqB at this
            rw [this]
          by_cases hl0 : l = []
          · subst hl0
            have hz : zeroB (greatest []).c (greatest []).v = true := by decide +kernel
            go_wp2_with (first | (go_at_call 29; refine (gre_p _ _ _ [] _ rfl (by simp) hsl2).mono ?_; rintro e w_g ⟨rfl, hb_g⟩) | (first | (go_at_call 30; refine (zeroB_p _ _ _).mono ?_; rintro e w_zeroB_p ⟨rfl, hb_zeroB_p⟩; have hr_zeroB_p := hb_zeroB_p.rules; obtain ⟨hc_zeroB_p, hf_zeroB_p⟩ := hr_zeroB_p; have hs_zeroB_p := hb_zeroB_p.sz; (try simp only [World.size_alloc, World.size_setCell, World.size_drew] at hs_zeroB_p); have hz0_zeroB_p : w_g.heap.size < w_zeroB_p.heap.size := (by omega))))
            go_rounds 1
            refine wp_region_quiet_below (by kernel_rfl) (by kernel_rfl) ?_
            repeat (quiet_step (first | exact quiet_ex (gre_p _ _ _ [] _ rfl (by simp) (Sl.nil _ _ _ _)) | exact quiet_ex (sane23 _)))
            refine wpQuiet_nil ?_
            intro wq hq
            have hb := In.ex hq; clear hq
            go_wp2
            go_ret
            exact ⟨rfl, (by repeat (first | exact Ex.refl _ | assumption | apply Ex.alloc | apply Ex.drew | (refine Ex.setAt ?_ _ ?_; (first | exact Nat.le_refl _ | omega | (simp; omega))) | (apply Ex.after; assumption)))⟩
          · have hb0 : ((l.length : Int) == 0) = false := by
              have : l.length ≠ 0 := fun h => hl0 (List.length_eq_zero_iff.1 h)
              simp; omega
            have HF : Hid (false = true ∨ ∃ x, x ∈ l.drop 0 ∧ eqB x (greatest l) = true) := Lib.hid (.inr ⟨greatest l, by simpa using greatest_mem hl0, by simp [eqB]⟩)
            clear hl0
            go_wp2_with (go_at_call 29; refine (gre_p _ _ _ l _ rfl (by omega) hsl2).mono ?_; rintro e w_g ⟨rfl, hb_g⟩)
            have HT := Lib.hid (fun x (h : x ∈ l) => greatest_top h)
            generalize hG : greatest l = G at *
            go_loopg [9, 50] l.length (fun m f i wr => Ex wB wr ∧ Box wr w_g.heap.size [.int .i64 G.c, .string G.v] 26 ∧ ∃ (k : Nat) (y : Bool), k + m = l.length ∧ i = .int .i64 k ∧ f = .bool y ∧ Hid (y = true ∨ ∃ x, x ∈ l.drop k ∧ eqB x G = true))
            case atStart => exact ⟨(by repeat (first | exact Ex.refl _ | assumption | apply Ex.alloc | apply Ex.drew | (refine Ex.setAt ?_ _ ?_; (first | exact Nat.le_refl _ | omega | (simp; omega))) | (apply Ex.after; assumption))), (by repeat (first | assumption | (refine Box.new_at _ _ _ _ ?_; (first | rfl | omega | (simp; done))) | apply Box.alloc | apply Box.set | (refine Box.aside ?_ _ ?_; omega) | (apply Box.later; assumption) | rfl)), 0, false, by omega, rfl, rfl, HF⟩
            case round =>
              clear HF
              obtain ⟨hxr, bg, k, y, hk, rfl, rfl, HF⟩ := hrel
              have lg := bg.lt
              have g0 := bg.cell 0 _ rfl
              have g1 := bg.cell 1 _ rfl
              by_cases hlt : k < l.length
              · have heq2 := fun w => balEq (nth l k).c G.c (nth l k).v G.v w
                have hlf := HT.out (nth l k) (nth_mem l k hlt)
                have HD := Lib.hid (drop_nth l k hlt)
                rcases hsl2.ex hxr with rfl | ⟨g, off, rfl, hg, hcell⟩
                · simp at hlt
                · have d0 := hcell k 0 hlt (by omega)
                  have d1 := hcell k 1 hlt (by omega)
                  clear hcell
                  rw [show (encB (nth l k))[0]? = some (.int .i64 (nth l k).c) from rfl, Nat.add_zero] at d0
                  rw [show (encB (nth l k))[1]? = some (.string (nth l k).v) from rfl] at d1
                  cases y
                  · cases he : eqB (nth l k) G
                    · have he2 : ((nth l k).c == G.c && (nth l k).v.toList == G.v.toList) = false := he
                      rw [he2] at heq2
                      have HF2 : Hid (false = true ∨ ∃ x, x ∈ l.drop (k + 1) ∧ eqB x G = true) := by
                        rcases HF.out with h | ⟨x, hx, hxe⟩
                        · cases h
                        · rw [HD.out] at hx
                          rcases List.mem_cons.1 hx with rfl | hx
                          · rw [hxe] at he; cases he
                          · exact Lib.hid (.inr ⟨x, hx, hxe⟩)
                      clear he he2 HF
                      go_wp2_with (first | (go_at_call 21; refine (lessB_p _ _ _ _ _).mono ?_; rintro e w_lessB_p ⟨rfl, hb_lessB_p⟩; have hr_lessB_p := hb_lessB_p.rules; obtain ⟨hc_lessB_p, hf_lessB_p⟩ := hr_lessB_p; have hs_lessB_p := hb_lessB_p.sz; (try simp only [World.size_alloc, World.size_setCell, World.size_drew] at hs_lessB_p); have hz0_lessB_p : w_g.heap.size < w_lessB_p.heap.size := (by omega); have hz1_lessB_p : wr.heap.size < w_lessB_p.heap.size := (by omega)))
                      go_roundg (gk - 1)
                      case measure => omega
                      case rel => exact ⟨(by repeat (first | exact Ex.refl _ | assumption | apply Ex.alloc | apply Ex.drew | (refine Ex.setAt ?_ _ ?_; (first | exact Nat.le_refl _ | omega | (simp; omega))) | (apply Ex.after; assumption))), (by repeat (first | assumption | (refine Box.new_at _ _ _ _ ?_; (first | rfl | omega | (simp; done))) | apply Box.alloc | apply Box.set | (refine Box.aside ?_ _ ?_; omega) | (apply Box.later; assumption) | rfl)), k + 1, false, by omega, by go_num, rfl, HF2⟩
                    · have he2 : ((nth l k).c == G.c && (nth l k).v.toList == G.v.toList) = true := he
                      rw [he2] at heq2
                      clear he he2 HF
                      go_wp2_with (first | (go_at_call 21; refine (lessB_p _ _ _ _ _).mono ?_; rintro e w_lessB_p ⟨rfl, hb_lessB_p⟩; have hr_lessB_p := hb_lessB_p.rules; obtain ⟨hc_lessB_p, hf_lessB_p⟩ := hr_lessB_p; have hs_lessB_p := hb_lessB_p.sz; (try simp only [World.size_alloc, World.size_setCell, World.size_drew] at hs_lessB_p); have hz0_lessB_p : w_g.heap.size < w_lessB_p.heap.size := (by omega); have hz1_lessB_p : wr.heap.size < w_lessB_p.heap.size := (by omega)))
                      go_roundg (gk - 1)
                      case measure => omega
                      case rel => exact ⟨(by repeat (first | exact Ex.refl _ | assumption | apply Ex.alloc | apply Ex.drew | (refine Ex.setAt ?_ _ ?_; (first | exact Nat.le_refl _ | omega | (simp; omega))) | (apply Ex.after; assumption))), (by repeat (first | assumption | (refine Box.new_at _ _ _ _ ?_; (first | rfl | omega | (simp; done))) | apply Box.alloc | apply Box.set | (refine Box.aside ?_ _ ?_; omega) | (apply Box.later; assumption) | rfl)), k + 1, true, by omega, by go_num, rfl, Lib.hid (.inl rfl)⟩
                  · clear HF
                    go_wp2_with (first | (go_at_call 21; refine (lessB_p _ _ _ _ _).mono ?_; rintro e w_lessB_p ⟨rfl, hb_lessB_p⟩; have hr_lessB_p := hb_lessB_p.rules; obtain ⟨hc_lessB_p, hf_lessB_p⟩ := hr_lessB_p; have hs_lessB_p := hb_lessB_p.sz; (try simp only [World.size_alloc, World.size_setCell, World.size_drew] at hs_lessB_p); have hz0_lessB_p : w_g.heap.size < w_lessB_p.heap.size := (by omega); have hz1_lessB_p : wr.heap.size < w_lessB_p.heap.size := (by omega)))
                    go_roundg (gk - 1)
                    case measure => omega
                    case rel => exact ⟨(by repeat (first | exact Ex.refl _ | assumption | apply Ex.alloc | apply Ex.drew | (refine Ex.setAt ?_ _ ?_; (first | exact Nat.le_refl _ | omega | (simp; omega))) | (apply Ex.after; assumption))), (by repeat (first | assumption | (refine Box.new_at _ _ _ _ ?_; (first | rfl | omega | (simp; done))) | apply Box.alloc | apply Box.set | (refine Box.aside ?_ _ ?_; omega) | (apply Box.later; assumption) | rfl)), k + 1, true, by omega, by go_num, rfl, Lib.hid (.inl rfl)⟩
              · have hy : y = true := by
                  rcases HF.out with h | ⟨x, hx, _⟩
                  · exact h
                  · rw [List.drop_of_length_le (by omega)] at hx; cases hx
                subst hy
                have hsl5 := hsl3.ex hxr
                go_wp2_with fail
                refine wp_region_quiet_below (by kernel_rfl) (by kernel_rfl) ?_
                repeat (quiet_step (first | exact quiet_ex (gre_p _ _ _ l.reverse _ hlr (by omega) (hsl5.ex (grow_ex _ _ _))) | exact quiet_ex (sane23 _)))
                refine wpQuiet_nil ?_
                intro wq hq
                have hb := In.ex hq; clear hq
                go_wp2
                go_ret
                exact ⟨rfl, (by repeat (first | exact Ex.refl _ | assumption | apply Ex.alloc | apply Ex.drew | (refine Ex.setAt ?_ _ ?_; (first | exact Nat.le_refl _ | omega | (simp; omega))) | (apply Ex.after; assumption)))⟩
end Go.Proofs.Ytfhipecfamecaaa
