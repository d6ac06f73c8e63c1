/- BallotsExact: the walk of the statement. -/
import Derived.Test.YtfhipecfamecaaaLBEx1
import Derived.Deep.RegionHeld3
namespace Go.Proofs.Ytfhipecfamecaaa
set_option linter.unusedSimpArgs false
set_option linter.unusedVariables false
set_option linter.unnecessarySimpa false
set_option linter.unusedSectionVars false
open Go.RowKit Go.Proofs.Grow Go.Sort

/-- What is told of a slice of ballots that came in. -/
def BallRow (w : World) (a : Option Addr) (len cap : Nat) (l : List Ball) : Prop := l.length = len ∧ len ≤ 9223372036854775807 ∧ Sl w encB 2 a l
theorem sevenB (l : List Ball) (h7 : l.length = 7) (k : Nat) (h : k < 7) : ∃ (c : Int) (s : ByteArray), (cellsL encB l)[k * 2]? = some (.int .i64 c) ∧ (cellsL encB l)[k * 2 + 1]? = some (.string s) :=
  ⟨(nth l k).c, (nth l k).v, by rw [show k * 2 = k * 2 + 0 from rfl, cellsL_get (sz := 2) (fun _ => rfl) l k 0 (by omega) (by omega)]; rfl, by rw [cellsL_get (sz := 2) (fun _ => rfl) l k 1 (by omega) (by omega)]; rfl⟩
theorem low_pp (v : ByteArray) (n : Int) (p q : Ball) (w : World) :
    Calls Try.prog 17 #[.string v, .int .i64 n, .agg #[.int .i64 p.c, .string p.v], .agg #[.int .i64 q.c, .string q.v]] w fun e w' => ∃ m : Int, e = .returned (.int .i64 m) ∧ 1 ≤ m ∧ Hid (m = lowest v n p q) ∧ Ex w w' :=
  (low_p v n p q w).mono fun _ _ ⟨he, hx⟩ => ⟨_, he, lowest_pos v n p q, Lib.hid rfl, hx⟩

theorem Box.sl {α : Type} [Inhabited α] {w : World} {b sz : Nat} {t : TypeId} {enc : α → List Value} {l : List α} (h : Box w b (cellsL enc l) t) (henc : ∀ x, (enc x).length = sz) : Sl w enc sz (some ⟨b, 0, none⟩) l := by
  refine .inr ⟨b, 0, rfl, h.lt, fun i j hi hj => ?_⟩
  rw [← cellsL_get henc l i j hi hj, Nat.zero_add]
  have hb : i * sz + j < (cellsL enc l).length := by
    rw [cellsL_length henc]
    have : (i + 1) * sz ≤ l.length * sz := Nat.mul_le_mul_right _ hi
    rw [Nat.add_mul] at this; omega
  rw [List.getElem?_eq_getElem hb]
  exact h.cell _ _ (List.getElem?_eq_getElem hb)
theorem balNe (c : Int) (v : ByteArray) (w : World) : (binOp .neq 26 (.agg #[.int .i64 c, .string v]) (.agg #[.int .i64 c, .string v])).run Try.prog w = .ok (.bool false) w := by simp [go_sem]

theorem balSame (c : Int) (v : ByteArray) (w : World) : (binOp .eql 26 (.agg #[.int .i64 c, .string v]) (.agg #[.int .i64 c, .string v])).run Try.prog w = .ok (.bool true) w := by rw [balEq]; simp

theorem three (x y z : Int) (k : Nat) (h : k < 3) : ∃ n : Int, ∀ w, (Instr.index 51 (.agg #[.int .i64 x, .int .i64 y, .int .i64 z]) (.int .i64 k)).run Try.prog w = .ok (.int .i64 n) w := by
  match k, h with
  | 0, _ => exact ⟨x, fun w => by kernel_rfl⟩
  | 1, _ => exact ⟨y, fun w => by kernel_rfl⟩
  | 2, _ => exact ⟨z, fun w => by kernel_rfl⟩

set_option maxRecDepth 100000 in
set_option maxHeartbeats 10000000 in
theorem law_BallotsExact (a0 : Option Addr) (len0 cap0 : Nat) (z0 : List Int) (a1 : Option Addr) (len1 cap1 : Nat) (l1 : List Ball) (s2 : ByteArray) (i2 : Int) (s3 : ByteArray) (i3 : Int) (s4 : ByteArray) (i4 : Int) (a5 : Int) (w : World)
    (w0 : IsRow .i64 w a0 len0 cap0 z0) (w1 : BallRow w a1 len1 cap1 l1) (w2 : s2.size ≤ maxLen) (x2 : (Lit.int .i64 i2).wf = true) (w3 : s3.size ≤ maxLen) (x3 : (Lit.int .i64 i3).wf = true) (w4 : s4.size ≤ maxLen) (x4 : (Lit.int .i64 i4).wf = true) (w5 : (Lit.int .i64 a5).wf = true) :
    Calls Try.prog 10 #[.slice a0 len0 cap0, .slice a1 len1 cap1, .agg #[.int .i64 i2, .string s2], .agg #[.int .i64 i3, .string s3], .agg #[.int .i64 i4, .string s4], .int .i64 a5] w fun e w' => e = .returned (.bool true) ∧ Ex w w' := by
  obtain ⟨rfl, hl1, hsl⟩ := w1
  clear w2 x2 w3 x3 w4 x4 w5
  go_enter Try.func10, Try.ntmps10
  go_wp2_with fail
  refine (short_any _ _ _ _ hl1 (hsl.ex ((((Ex.refl w).alloc _).alloc _).alloc _))).mono ?_
  rintro e v1 ⟨t, rfl, ht, hx1⟩
  have hz1 := hx1.sz
  simp only [World.size_alloc] at hz1
  have by2 : Box v1 w.heap.size [.int .i64 i2, .string s2] 26 := Box.ex (((Box.new w [_, _] _).alloc _).alloc _) hx1
  have by3 : Box v1 (w.heap.size + 1) [.int .i64 i3, .string s3] 26 := Box.ex ((Box.new_at _ [_, _] _ _ (by simp)).alloc _) hx1
  have by4 : Box v1 (w.heap.size + 1 + 1) [.int .i64 i4, .string s4] 26 := Box.ex (Box.new_at _ [_, _] _ _ (by simp)) hx1
  have c20 := by2.cell 0 _ rfl
  have c21 := by2.cell 1 _ rfl
  have c30 := by3.cell 0 _ rfl
  have c31 := by3.cell 1 _ rfl
  have c40 := by4.cell 0 _ rfl
  have c41 := by4.cell 1 _ rfl
  cases t
  · clear ht hsl
    go_wp2_with (first | (go_at_call 19; refine (sane23 _).mono ?_; rintro e w_sane23 ⟨rfl, hb_sane23⟩; have hr_sane23 := hb_sane23.rules; obtain ⟨hc_sane23, hf_sane23⟩ := hr_sane23; have hs_sane23 := hb_sane23.sz; (try simp only [World.size_alloc, World.size_setCell, World.size_drew] at hs_sane23)))
    go_ret
    exact ⟨rfl, (by repeat (first | (with_reducible exact Ex.refl _) | (with_reducible assumption) | ((with_reducible refine Ex.setAt ?_ _ ?_); (first | exact Nat.le_refl _ | omega | (simp; omega))) | (with_reducible apply Ex.alloc) | (with_reducible apply Ex.drew) | (with_reducible apply Ex.drewN) | ((with_reducible apply Ex.after); with_reducible assumption) | exact Ex.refl _ | assumption | apply Ex.alloc | apply Ex.drew | apply Ex.drewN | (refine Ex.setAt ?_ _ ?_; (first | exact Nat.le_refl _ | omega | (simp; omega))) | (apply Ex.after; assumption)))⟩
  · have hl30 := ht rfl
    clear ht
    go_wp2_with fail
    refine (short_any (some ⟨v1.heap.size, 0, none⟩) 3 [⟨i2, s2⟩, ⟨i3, s3⟩, ⟨i4, s4⟩] _ (by simp) (Box.sl (t := 26) (Box.new _ [_, _, _, _, _, _] _) (fun _ => rfl))).mono ?_
    rintro e v2 ⟨t, rfl, ht, hx2⟩
    have hz2 := hx2.sz
    simp only [World.size_alloc] at hz2
    have hX2 : Ex w v2 := (by repeat (first | (with_reducible exact Ex.refl _) | (with_reducible assumption) | ((with_reducible refine Ex.setAt ?_ _ ?_); (first | exact Nat.le_refl _ | omega | (simp; omega))) | (with_reducible apply Ex.alloc) | (with_reducible apply Ex.drew) | (with_reducible apply Ex.drewN) | ((with_reducible apply Ex.after); with_reducible assumption) | exact Ex.refl _ | assumption | apply Ex.alloc | apply Ex.drew | apply Ex.drewN | (refine Ex.setAt ?_ _ ?_; (first | exact Nat.le_refl _ | omega | (simp; omega))) | (apply Ex.after; assumption)))
    have bz2 := (by2.alloc _).ex hx2
    have bz3 := (by3.alloc _).ex hx2
    have bz4 := (by4.alloc _).ex hx2
    have sl2 := (hsl.ex hX2)
    clear ht c20 c21 c30 c31 c40 c41 by2 by3 by4
    cases t
    · go_wp2_with (first | (go_at_call 19; refine (sane23 _).mono ?_; rintro e w_sane23 ⟨rfl, hb_sane23⟩; have hr_sane23 := hb_sane23.rules; obtain ⟨hc_sane23, hf_sane23⟩ := hr_sane23; have hs_sane23 := hb_sane23.sz; (try simp only [World.size_alloc, World.size_setCell, World.size_drew] at hs_sane23)))
      go_ret
      exact ⟨rfl, (by repeat (first | (with_reducible exact Ex.refl _) | (with_reducible assumption) | ((with_reducible refine Ex.setAt ?_ _ ?_); (first | exact Nat.le_refl _ | omega | (simp; omega))) | (with_reducible apply Ex.alloc) | (with_reducible apply Ex.drew) | (with_reducible apply Ex.drewN) | ((with_reducible apply Ex.after); with_reducible assumption) | exact Ex.refl _ | assumption | apply Ex.alloc | apply Ex.drew | apply Ex.drewN | (refine Ex.setAt ?_ _ ?_; (first | exact Nat.le_refl _ | omega | (simp; omega))) | (apply Ex.after; assumption)))⟩
    · clear hsl
      have hN := balNe (greatest l1).c (greatest l1).v
      go_wp2_with fail
      refine (make_Src _ _ _ _ _ (w0.ex hX2)).mono ?_
      rintro e v3 ⟨b, rfl, hwb, hx3, hs3⟩
      have hz3 := hx3.sz
      have hbl := hs3.lt
      have sl3 := sl2.ex hx3
      go_wp2_with fail
      refine (gre_p _ _ _ l1 _ rfl (by omega) sl3).mono ?_
      rintro e v4 ⟨rfl, hx4⟩
      go_wp2_with fail
      refine (gre_r _ _ _ l1 _ rfl (by omega) (sl3.ex hx4)).mono ?_
      rintro e v5 ⟨rfl, hx5⟩
      have hX5 : Ex w v5 := (by repeat (first | (with_reducible exact Ex.refl _) | (with_reducible assumption) | ((with_reducible refine Ex.setAt ?_ _ ?_); (first | exact Nat.le_refl _ | omega | (simp; omega))) | (with_reducible apply Ex.alloc) | (with_reducible apply Ex.drew) | (with_reducible apply Ex.drewN) | ((with_reducible apply Ex.after); with_reducible assumption) | exact Ex.refl _ | assumption | apply Ex.alloc | apply Ex.drew | apply Ex.drewN | (refine Ex.setAt ?_ _ ?_; (first | exact Nat.le_refl _ | omega | (simp; omega))) | (apply Ex.after; assumption)))
      have hs5 : Src v5 b := (hs3.ex hx4).ex hx5
      have be2 := ((bz2.ex hx3).ex hx4).ex hx5
      have be3 := ((bz3.ex hx3).ex hx4).ex hx5
      have be4 := ((bz4.ex hx3).ex hx4).ex hx5
      clear bz2 bz3 bz4 sl2 sl3 hx1 hx2 hs3
      go_wp2_with fail
      have c20 := be2.cell 0 _ rfl
      have c21 := be2.cell 1 _ rfl
      have c30 := be3.cell 0 _ rfl
      have c31 := be3.cell 1 _ rfl
      have c40 := be4.cell 0 _ rfl
      have c41 := be4.cell 1 _ rfl
      have zz := be4.lt
      have hb3 : w.heap.size + 3 ≤ b := by omega
      clear be2 be3 be4
      go_region_held3 (fun w' => w'.cell? ⟨w.heap.size, 0, none⟩ = some (.int .i64 i2) ∧ w'.cell? ⟨w.heap.size, 1, none⟩ = some (.string s2) ∧ w'.cell? ⟨w.heap.size + 1, 0, none⟩ = some (.int .i64 i3) ∧ w'.cell? ⟨w.heap.size + 1, 1, none⟩ = some (.string s3) ∧ w'.cell? ⟨w.heap.size + 1 + 1, 0, none⟩ = some (.int .i64 i4) ∧ w'.cell? ⟨w.heap.size + 1 + 1, 1, none⟩ = some (.string s4))
        (first | go_keep | (go_split_ands; refine ⟨?_, ?_, ?_, ?_, ?_, ?_⟩ <;> first | (rw [hxO.rules.1 _ _ (by first | omega | (simp; omega)) (by omega)]; first | assumption | (simp; assumption)) | (rw [hxB.rules.1 _ _ (by first | omega | (simp; omega)) (by omega)]; first | assumption | (simp; assumption))))
        (first
          | (go_at_call 20; refine (draw_Ballot b _ ?_).mono ?_; (exact (by repeat (first | (with_reducible assumption) | (with_reducible apply Src.alloc) | (with_reducible apply Src.drew) | ((with_reducible apply Src.later); with_reducible assumption) | assumption | apply Src.alloc | apply Src.drew | (apply Src.later; assumption)))); rintro e wB ⟨_, rfl, ⟨cB, sB, rfl, qB⟩, hxB, hsB⟩; have zB := hxB.size; (try simp only [World.size_drew] at zB); clear qB)
          | (go_at_call 36; refine (draw_Odd b _ ?_).mono ?_; (exact (by repeat (first | (with_reducible assumption) | (with_reducible apply Src.alloc) | (with_reducible apply Src.drew) | ((with_reducible apply Src.later); with_reducible assumption) | assumption | apply Src.alloc | apply Src.drew | (apply Src.later; assumption)))); rintro e wO ⟨_, rfl, ⟨nO, rfl, qO⟩, hxO, hsO⟩; have zO := hxO.size; clear qO))
      rename_i wC cC sC hxC hsC zC _
      obtain ⟨l7, el⟩ : ∃ l7 : List Ball, l7 = [⟨i2, s2⟩, ⟨i3, s3⟩, ⟨i4, s4⟩, ⟨cC, sC⟩, ⟨cB, sB⟩, ⟨nO, ⟨#[97]⟩⟩, ⟨0, ⟨#[]⟩⟩] := ⟨_, rfl⟩
      have h7 : l7.length = 7 := by rw [el]; rfl
      have hbl7 : Box (wO.alloc (.cells #[.int .i64 i2, .string s2, .int .i64 i3, .string s3, .int .i64 i4, .string s4, .int .i64 cC, .string sC, .int .i64 cB, .string sB, .int .i64 nO, .string ⟨#[97]⟩, .int .i64 0, .string ⟨#[]⟩] 26)) wO.heap.size (cellsL encB l7) 26 := by rw [el]; exact Box.new _ [_, _, _, _, _, _, _, _, _, _, _, _, _, _] _
      have hXO : Exb b v5 wO := (((Exb.refl b v5).drew.trans hxC).trans hxB).trans hxO
      have hwO : Ex w wO := hX5.exb (by omega) hXO
      have hzO := hsO.lt
      clear hxC hxB hxO hsC hsB el hN hX5 hx3 hx4 hx5 hs5 zC zB hX2
      go_wp2_with fail
      go_loopg [56] 7 (fun m i wr => Exb b wO wr ∧ Src wr b ∧ Box wr wO.heap.size (cellsL encB l7) 26 ∧ ∃ k : Nat, k + m = 7 ∧ i = .int .i64 k)
      case atStart => exact ⟨(Exb.refl b wO).alloc _, hsO.alloc _, hbl7, 0, by omega, rfl⟩
      case round =>
        clear hbl7
        obtain ⟨hxA, hsA, hlA, k, hk, rfl⟩ := hrel
        obtain ⟨wA, rfl⟩ : ∃ y : World, y = wr := ⟨_, rfl⟩
        obtain ⟨ga, rfl⟩ : ∃ y : Nat, y = gk := ⟨_, rfl⟩
        have hzA := hlA.lt
        by_cases hlt : k < 7
        · have hkb : decide ((k : Int) < 7) = true := by simp; omega
          obtain ⟨c1, s1, e0, e1⟩ := sevenB l7 h7 k hlt
          have d0 := hlA.cell _ _ e0
          have d1 := hlA.cell _ _ e1
          clear e0 e1
          go_wp2_with fail
          refine wp_region_quiet_below (by kernel_rfl) (by kernel_rfl) ?_
          repeat (go_big_quiet_step (first | exact quiet_ex (zeroB_p _ _ _) | exact quiet_ex (zeroB_r _ _ _) | exact quiet_ex (validB_p _ _ _) | exact quiet_ex (validB_r _ _ _)))
          refine wpQuiet_nil ?_
          intro wq hq
          have hq1 := In.ex hq
          clear hq d0 d1
          have hAq : Exb b wA wq := (Exb.of ((Ex.refl wA).alloc _)).afterx hq1
          have hsq : Src wq b := (hsA.alloc _).ex hq1
          have hlq : Box wq wO.heap.size (cellsL encB l7) 26 := (hlA.alloc _).ex hq1
          have ha1 : Box wq wA.heap.size [.int .i64 c1, .string s1] 26 := (Box.new wA [_, _] _).ex hq1
          have hbA := hsA.lt
          clear hlA hsA hq1
          go_wp2_with fail
          go_loopg [74] 7 (fun m i wr => Exb b wq wr ∧ Src wr b ∧ ∃ k2 : Nat, k2 + m = 7 ∧ i = .int .i64 k2)
          case atStart => exact ⟨Exb.refl _ _, hsq, 0, by omega, rfl⟩
          case round =>
            obtain ⟨hxB, hsB, k2, hk2, rfl⟩ := hrel
            obtain ⟨wB, rfl⟩ : ∃ y : World, y = wr := ⟨_, rfl⟩
            obtain ⟨gb, rfl⟩ : ∃ y : Nat, y = gk := ⟨_, rfl⟩
            have hl2 := hlq.exb hxB (by omega)
            have ha2 := ha1.exb hxB (by omega)
            have zb := ha2.lt
            clear hsq
            by_cases hlt2 : k2 < 7
            · have hkb2 : decide ((k2 : Int) < 7) = true := by simp; omega
              obtain ⟨c2, s2', e0, e1⟩ := sevenB l7 h7 k2 hlt2
              have d0 := hl2.cell _ _ e0
              have d1 := hl2.cell _ _ e1
              have f0 := ha2.cell 0 _ rfl
              have f1 := ha2.cell 1 _ rfl
              have zb1 : wA.heap.size < wB.heap.size + 1 := by omega
              have zb2 : wA.heap.size ≤ wB.heap.size := by omega
              clear e0 e1
              go_wp2_with fail
              refine wp_region_quiet_below (by kernel_rfl) (by kernel_rfl) ?_
              repeat (go_big_quiet_step (first | exact quiet_ex (lessB_p _ _ _ _ _) | exact quiet_ex (lessB_r _ _ _ _ _) | exact quiet_ex (lessV_p _ _ _) | exact quiet_ex (lessV_r _ _ _) | exact quiet_ex (compB_p _ _ _ _ _) | exact quiet_ex (compB_r _ _ _ _ _) | exact quiet_ex (covB_p _ _ _ _ _) | exact quiet_ex (covB_r _ _ _ _ _) | exact quiet_ex (abB_p _ _ _ _ _) | exact quiet_ex (abB_r _ _ _ _ _)))
              refine wpQuiet_nil ?_
              intro wx hq
              have hq2 := In.ex hq
              clear hq d0 d1 f0 f1
              have hsx : Src wx b := (hsB.alloc _).ex hq2
              have hlx := (hl2.alloc (.cells #[.int .i64 c2, .string s2'] 26)).ex hq2
              have hax := (ha2.alloc (.cells #[.int .i64 c2, .string s2'] 26)).ex hq2
              have hbx : Box wx wB.heap.size [.int .i64 c2, .string s2'] 26 := (Box.new wB [_, _] _).ex hq2
              have hBx : Exb b wB wx := (Exb.of ((Ex.refl wB).alloc _)).afterx hq2
              have hbB := hsB.lt
              clear hsB hl2 ha2 hq2
              go_wp2_with fail
              go_loopg [127] 7 (fun m i wr => Ex wx wr ∧ ∃ k3 : Nat, k3 + m = 7 ∧ i = .int .i64 k3)
              case atStart => exact ⟨Ex.refl _, 0, by omega, rfl⟩
              case round =>
                obtain ⟨hxC, k3, hk3, rfl⟩ := hrel
                have hl3 := hlx.ex hxC
                have ha3 := hax.ex hxC
                have hb3' := hbx.ex hxC
                have zc := hb3'.lt
                by_cases hlt3 : k3 < 7
                · obtain ⟨c3, s3', e0, e1⟩ := sevenB l7 h7 k3 hlt3
                  have d0 := hl3.cell _ _ e0
                  have d1 := hl3.cell _ _ e1
                  have f0 := ha3.cell 0 _ rfl
                  have f1 := ha3.cell 1 _ rfl
                  have g0 := hb3'.cell 0 _ rfl
                  have g1 := hb3'.cell 1 _ rfl
                  have zc1 : wB.heap.size < wr.heap.size + 1 := by omega
                  have zc2 : wB.heap.size ≤ wr.heap.size := by omega
                  have zc3 : wA.heap.size < wr.heap.size + 1 := by omega
                  have zc4 : wA.heap.size ≤ wr.heap.size := by omega
                  have zc5 : wA.heap.size < wr.heap.size := by omega
                  clear e0 e1
                  go_wp2_with fail
                  refine wp_region_quiet_below (by kernel_rfl) (by kernel_rfl) ?_
                  repeat (go_big_quiet_step (first | exact quiet_ex (prepB_p _ _ _ _ _ _ _) | exact quiet_ex (prepB_r _ _ _ _ _ _ _)))
                  refine wpQuiet_nil ?_
                  intro wy hq
                  have hq3 := In.ex hq
                  clear hq
                  go_wp2_with fail
                  go_roundg (gk - 1)
                  case measure => omega
                  case rel => exact ⟨(by repeat (first | (with_reducible exact Ex.refl _) | (with_reducible assumption) | ((with_reducible refine Ex.setAt ?_ _ ?_); (first | exact Nat.le_refl _ | omega | (simp; omega))) | (with_reducible apply Ex.alloc) | (with_reducible apply Ex.drew) | (with_reducible apply Ex.drewN) | ((with_reducible apply Ex.after); with_reducible assumption) | exact Ex.refl _ | assumption | apply Ex.alloc | apply Ex.drew | apply Ex.drewN | (refine Ex.setAt ?_ _ ?_; (first | exact Nat.le_refl _ | omega | (simp; omega))) | (apply Ex.after; assumption))), k3 + 1, by omega, by go_num⟩
                · have hsC := hsx.ex hxC
                  go_wp2_with fail
                  refine (draw_Odd b _ (by repeat (first | (with_reducible assumption) | (with_reducible apply Src.alloc) | (with_reducible apply Src.drew) | ((with_reducible apply Src.later); with_reducible assumption) | assumption | apply Src.alloc | apply Src.drew | (apply Src.later; assumption)))).mono ?_
                  rintro e wD ⟨_, rfl, ⟨n1, rfl, _⟩, hxD, hsD⟩
                  go_wp2_with fail
                  refine (draw_Range b _ _ _ (by repeat (first | (with_reducible assumption) | (with_reducible apply Src.alloc) | (with_reducible apply Src.drew) | ((with_reducible apply Src.later); with_reducible assumption) | assumption | apply Src.alloc | apply Src.drew | (apply Src.later; assumption))) (by omega) (by omega) (by omega)).mono ?_
                  rintro e wE ⟨_, rfl, ⟨n2, rfl, _⟩, hxE, hsE⟩
                  have hDE : Exb b wr wE := hxD.trans hxE
                  have hl4 := hl3.exb hDE (by omega)
                  have ha4 := ha3.exb hDE (by omega)
                  have hb4 := hb3'.exb hDE (by omega)
                  have hxF : Exb b wB wE := hBx.trans ((Exb.of hxC).trans hDE)
                  clear hsx hlx hax hbx hBx hxC hl3 ha3 hb3' zc hsC hxD hxE hDE hsD
                  go_wp2_with fail
                  go_loopg [147] 3 (fun m i wr => Exb b wE wr ∧ Src wr b ∧ ∃ k4 : Nat, k4 + m = 3 ∧ i = .int .i64 k4)
                  case atStart => exact ⟨Exb.refl _ _, hsE, 0, by omega, rfl⟩
                  case round =>
                    obtain ⟨hxG, hsG, k4, hk4, rfl⟩ := hrel
                    have ha5 := ha4.exb hxG (by omega)
                    have hb5 := hb4.exb hxG (by omega)
                    clear hsE
                    by_cases hlt4 : k4 < 3
                    · obtain ⟨nk, hix⟩ := three a5 n1 n2 k4 hlt4
                      have f0 := ha5.cell 0 _ rfl
                      have f1 := ha5.cell 1 _ rfl
                      have g0 := hb5.cell 0 _ rfl
                      have g1 := hb5.cell 1 _ rfl
                      have hpos : ∀ v n, decide (lowest v n ⟨c1, s1⟩ ⟨c2, s2'⟩ < 1) = false := fun v n => by have := lowest_pos v n ⟨c1, s1⟩ ⟨c2, s2'⟩; simp; omega
                      go_wp2_with fail
                      have za := ha5.lt
                      have zb' := hb5.lt
                      go_region_held3 (fun w' => w'.cell? ⟨wA.heap.size, 0, none⟩ = some (.int .i64 c1) ∧ w'.cell? ⟨wA.heap.size, 1, none⟩ = some (.string s1) ∧ w'.cell? ⟨wB.heap.size, 0, none⟩ = some (.int .i64 c2) ∧ w'.cell? ⟨wB.heap.size, 1, none⟩ = some (.string s2'))
                        (first | go_keep | (go_split_ands; refine ⟨?_, ?_, ?_, ?_⟩ <;> first | (rw [hxR.rules.1 _ _ (by omega)]; assumption) | (rw [hxL.rules.1 _ _ (by omega)]; assumption) | (rw [hxV.rules.1 _ _ (by simp; omega) (by omega)]; simp; assumption)))
                        (first
                          | (go_at_call 16; refine (draw_Value b _ ?_).mono ?_; (exact (by repeat (first | (with_reducible assumption) | (with_reducible apply Src.alloc) | (with_reducible apply Src.drew) | ((with_reducible apply Src.later); with_reducible assumption) | assumption | apply Src.alloc | apply Src.drew | (apply Src.later; assumption)))); rintro e wV ⟨_, rfl, ⟨sv, rfl, _⟩, hxV, hsV⟩; have zV := hxV.size; (try simp only [World.size_drew] at zV))
                          | (go_at_call 17; refine (low_p _ _ ⟨c1, s1⟩ ⟨c2, s2'⟩ _).mono ?_; rintro e wL ⟨rfl, hxL⟩; have zL := hxL.size)
                          | (go_at_call 45; refine (low_r _ _ ⟨c1, s1⟩ ⟨c2, s2'⟩ _).mono ?_; rintro e wR ⟨rfl, hxR⟩; have zR := hxR.size))
                      rename_i wK hxL2 _ _
                      have hsW : Src wR b := ((hsV.ex hxL2).ex hxL).ex hxR
                      go_wp2_with fail
                      go_roundg (gk - 1)
                      case measure => omega
                      case rel => exact ⟨(((((hxG.trans (Exb.refl b _).drew).trans hxV).afterx hxL2).afterx hxL).afterx hxR), hsW, k4 + 1, by omega, by go_num⟩
                    · go_wp2_with fail
                      go_roundg (gb - 1)
                      case measure => omega
                      case rel => exact ⟨(hxB.trans hxF).trans hxG, hsG, k2 + 1, by omega, by go_num⟩
            · go_wp2_with fail
              go_roundg (ga - 1)
              case measure => omega
              case rel => exact ⟨(hxA.trans hAq).trans hxB, hsB, hl2, k + 1, by omega, by go_num⟩
        · have hsl7 := Box.sl (enc := encB) (sz := 2) hlA (fun _ => rfl)
          have hE := balSame (greatest l7).c (greatest l7).v
          have hxw : Ex w wA := hwO.exb (by omega) hxA
          clear hxA hsA hsO hwO
          go_wp2_with fail
          refine (gre_p _ _ _ l7 _ h7 (by omega) hsl7).mono ?_
          rintro e v6 ⟨rfl, hx6⟩
          go_wp2_with fail
          refine (gre_r _ _ _ l7 _ h7 (by omega) (hsl7.ex hx6)).mono ?_
          rintro e v7 ⟨rfl, hx7⟩
          go_wp2_with (first | (go_at_call 19; refine (sane23 _).mono ?_; rintro e w_sane23 ⟨rfl, hb_sane23⟩; have hr_sane23 := hb_sane23.rules; obtain ⟨hc_sane23, hf_sane23⟩ := hr_sane23; have hs_sane23 := hb_sane23.sz; (try simp only [World.size_alloc, World.size_setCell, World.size_drew] at hs_sane23)))
          go_ret
          exact ⟨rfl, (by repeat (first | (with_reducible exact Ex.refl _) | (with_reducible assumption) | ((with_reducible refine Ex.setAt ?_ _ ?_); (first | exact Nat.le_refl _ | omega | (simp; omega))) | (with_reducible apply Ex.alloc) | (with_reducible apply Ex.drew) | (with_reducible apply Ex.drewN) | ((with_reducible apply Ex.after); with_reducible assumption) | exact Ex.refl _ | assumption | apply Ex.alloc | apply Ex.drew | apply Ex.drewN | (refine Ex.setAt ?_ _ ?_; (first | exact Nat.le_refl _ | omega | (simp; omega))) | (apply Ex.after; assumption)))⟩
end Go.Proofs.Ytfhipecfamecaaa
