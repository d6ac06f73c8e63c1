/- BallotsPrepares: the walk of the statement, and the plain law on what two ballots give up. -/
import Derived.Test.YtfhipecfamecaaaLBOrder
namespace Go.Proofs.Ytfhipecfamecaaa
set_option linter.unusedSimpArgs false
set_option linter.unusedVariables false
set_option linter.unnecessarySimpa false
open Go.RowKit Go.Proofs.Grow Go.Sort

/-- What p and q give up, if they have prepared r. -/
def Gives (pc : Int) (pv : ByteArray) (qc : Int) (qv : ByteArray) (rc : Int) (rv : ByteArray) : Prop :=
  prepB pc pv qc qv rc rv = true → ∀ (n : Int) (v : ByteArray), lessB n v rc rv = true → compB v rv = false → abB pc pv n v = false → abB qc qv n v = false → False
theorem cov_gives {c d n : Int} {u v x : ByteArray} (h : 1 ≤ c) (k : covB c u d v = true) (l : lessB n x d v = true) (m : compB x v = false) : abB c u n x = true := by
  rw [cov_iff h] at k
  rw [ab_iff2 h]
  refine ⟨fun q => ?_, ?_⟩
  · rw [comp_iff.2 (q.symm.trans k.1)] at m; cases m
  · by_cases e : d = c
    · subst e
      have : lessB n x d u = lessB n x d v := by unfold lessB lessV; rw [size_eq k.1, k.1]
      rw [this]; exact l
    · have := less_le l
      exact less_of_lt (by omega)
theorem gives_zero {pc rc : Int} {pv rv : ByteArray} (h : 1 ≤ pc) : Gives pc pv 0 ⟨#[]⟩ rc rv := by
  intro hp n v h1 h2 h3 h4
  have hz : zeroB 0 ⟨#[]⟩ = true := by decide +kernel
  have hc : covB pc pv rc rv = true := by
    unfold prepB at hp
    have : covB 0 ⟨#[]⟩ rc rv = false := by simp [covB, hz]
    rw [this, hz] at hp
    simpa using hp
  rw [cov_gives h hc h1 h2] at h3; cases h3
theorem gives_two {pc qc rc : Int} {pv qv rv : ByteArray} (h : 1 ≤ pc) (hq : 1 ≤ qc) (l : lessB qc qv pc pv = true) (m : compB pv qv = false) : Gives pc pv qc qv rc rv := by
  intro hp n v h1 h2 h3 h4
  unfold prepB at hp
  simp only [Bool.or_eq_true] at hp
  rcases hp with hp | hp | hp
  · rw [cov_gives h hp h1 h2] at h3; cases h3
  · rw [cov_gives hq hp h1 h2] at h4; cases h4
  · have hrq : lessB rc rv qc qv = true := by simp at hp; exact hp.2
    have hnq := lessB_trans h1 hrq
    have hnp := lessB_trans hnq l
    have e1 : pv.toList = v.toList := by
      rcases Classical.em (pv.toList = v.toList) with q | q
      · exact q
      · rw [(ab_iff2 h).2 ⟨q, hnp⟩] at h3; cases h3
    have e2 : qv.toList = v.toList := by
      rcases Classical.em (qv.toList = v.toList) with q | q
      · exact q
      · rw [(ab_iff2 hq).2 ⟨q, hnq⟩] at h4; cases h4
    rw [comp_iff.2 (e1.trans e2.symm)] at m; cases m
def vals : List ByteArray := [⟨#[97]⟩, ⟨#[98]⟩, ⟨#[99]⟩, ⟨#[97, 97]⟩]

set_option maxRecDepth 100000 in
set_option maxHeartbeats 4000000 in
theorem law_BallotsPrepares (a0 : Option Addr) (len0 cap0 : Nat) (z0 : List Int) (w : World) (w0 : IsRow .i64 w a0 len0 cap0 z0) :
    Calls Try.prog 5 #[.slice a0 len0 cap0] w fun e w' => e = .returned (.bool true) ∧ Ex w w' := by
  go_enter Try.func5, Try.ntmps5
  go_wp2_with fail
  refine (make_Src _ _ _ _ _ w0).mono ?_
  rintro e w1 ⟨b, rfl, hwb, hx1, hs1⟩
  have hbl := hs1.lt
  go_wp2_with fail
  refine (draw_Low b _ (by repeat (first | assumption | apply Src.alloc | apply Src.drew | (apply Src.later; assumption)))).mono ?_
  rintro e w2 ⟨_, rfl, ⟨pc, pv, rfl, p1, p2, p3, p4⟩, hx2, hs2⟩
  have hz2 := hx2.size
  go_wp2_with fail
  refine (draw_Low b _ (by repeat (first | assumption | apply Src.alloc | apply Src.drew | (apply Src.later; assumption)))).mono ?_
  rintro e w3 ⟨_, rfl, ⟨qc, qv, rfl, q1, q2, q3, q4⟩, hx3, hs3⟩
  have hz3 := hx3.size
  go_wp2_with fail
  refine (draw_Low b _ (by repeat (first | assumption | apply Src.alloc | apply Src.drew | (apply Src.later; assumption)))).mono ?_
  rintro e w4 ⟨_, rfl, ⟨rc, rv, rfl, r1, r2, r3, r4⟩, hx4, hs4⟩
  have hz4 := hx4.size
  have hx : Ex w w4 := hx1.exb hwb ((hx2.trans hx3).trans hx4)
  clear hx1 hx2 hx3 hx4 hs1 hs2 hs3 hs4
  go_upto_region 3 with fail
  go_cut [28] (fun s wx => ∃ x : Bool, s = .bool x ∧ Hid (x = false → lessB qc qv pc pv = true ∧ compB pv qv = false) ∧ Ex w wx ∧ Box wx w4.heap.size [.int .i64 pc, .string pv] 26 ∧ Box wx (w4.heap.size + 1) [.int .i64 qc, .string qv] 26 ∧ Box wx (w4.heap.size + 1 + 1) [.int .i64 rc, .string rv] 26)
  case first =>
    have hn : Hid (true = false → lessB qc qv pc pv = true ∧ compB pv qv = false) := Lib.hid (fun h => by cases h)
    have bp : Box (((w4.alloc (.cells #[.int .i64 pc, .string pv] 26)).alloc (.cells #[.int .i64 qc, .string qv] 26)).alloc (.cells #[.int .i64 rc, .string rv] 26)) w4.heap.size [.int .i64 pc, .string pv] 26 := (by repeat (first | assumption | (refine Box.new_at _ _ _ _ ?_; (first | rfl | omega | (simp; done))) | apply Box.alloc | apply Box.set | (refine Box.aside ?_ _ ?_; omega) | (apply Box.later; assumption) | rfl))
    have bq : Box (((w4.alloc (.cells #[.int .i64 pc, .string pv] 26)).alloc (.cells #[.int .i64 qc, .string qv] 26)).alloc (.cells #[.int .i64 rc, .string rv] 26)) (w4.heap.size + 1) [.int .i64 qc, .string qv] 26 := (by repeat (first | assumption | (refine Box.new_at _ _ _ _ ?_; (first | rfl | omega | (simp; done))) | apply Box.alloc | apply Box.set | (refine Box.aside ?_ _ ?_; omega) | (apply Box.later; assumption) | rfl))
    have br : Box (((w4.alloc (.cells #[.int .i64 pc, .string pv] 26)).alloc (.cells #[.int .i64 qc, .string qv] 26)).alloc (.cells #[.int .i64 rc, .string rv] 26)) (w4.heap.size + 1 + 1) [.int .i64 rc, .string rv] 26 := (by repeat (first | assumption | (refine Box.new_at _ _ _ _ ?_; (first | rfl | omega | (simp; done))) | apply Box.alloc | apply Box.set | (refine Box.aside ?_ _ ?_; omega) | (apply Box.later; assumption) | rfl))
    cases h1 : lessB qc qv pc pv
    · go_wp2_with (first | (go_at_call 21; refine (lessB_p _ _ _ _ _).mono ?_; rintro e w_lessB_p ⟨rfl, hb_lessB_p⟩; have hr_lessB_p := hb_lessB_p.rules; obtain ⟨hc_lessB_p, hf_lessB_p⟩ := hr_lessB_p; have hs_lessB_p := hb_lessB_p.sz; (try simp only [World.size_alloc, World.size_setCell, World.size_drew] at hs_lessB_p); have hz0_lessB_p : w4.heap.size < w_lessB_p.heap.size := (by omega); have hz1_lessB_p : w4.heap.size + 1 < w_lessB_p.heap.size := (by omega); have hz2_lessB_p : w4.heap.size + 1 + 1 < w_lessB_p.heap.size := (by omega)) | (go_at_call 24; refine (compB_p _ _ _ _ _).mono ?_; rintro e w_compB_p ⟨rfl, hb_compB_p⟩; have hr_compB_p := hb_compB_p.rules; obtain ⟨hc_compB_p, hf_compB_p⟩ := hr_compB_p; have hs_compB_p := hb_compB_p.sz; (try simp only [World.size_alloc, World.size_setCell, World.size_drew] at hs_compB_p); have hz0_compB_p : w4.heap.size < w_compB_p.heap.size := (by omega); have hz1_compB_p : w4.heap.size + 1 < w_compB_p.heap.size := (by omega); have hz2_compB_p : w4.heap.size + 1 + 1 < w_compB_p.heap.size := (by omega)))
      go_meet
      case rel => exact ⟨_, rfl, hn, (by repeat (first | exact Ex.refl _ | assumption | apply Ex.alloc | apply Ex.drew | (refine Ex.setAt ?_ _ ?_; (first | exact Nat.le_refl _ | omega | (simp; omega))) | (apply Ex.after; assumption))), (by repeat (first | assumption | (refine Box.new_at _ _ _ _ ?_; (first | rfl | omega | (simp; done))) | apply Box.alloc | apply Box.set | (refine Box.aside ?_ _ ?_; omega) | (apply Box.later; assumption) | rfl)), (by repeat (first | assumption | (refine Box.new_at _ _ _ _ ?_; (first | rfl | omega | (simp; done))) | apply Box.alloc | apply Box.set | (refine Box.aside ?_ _ ?_; omega) | (apply Box.later; assumption) | rfl)), (by repeat (first | assumption | (refine Box.new_at _ _ _ _ ?_; (first | rfl | omega | (simp; done))) | apply Box.alloc | apply Box.set | (refine Box.aside ?_ _ ?_; omega) | (apply Box.later; assumption) | rfl))⟩
    · cases h2 : compB pv qv
      · go_wp2_with (first | (go_at_call 21; refine (lessB_p _ _ _ _ _).mono ?_; rintro e w_lessB_p ⟨rfl, hb_lessB_p⟩; have hr_lessB_p := hb_lessB_p.rules; obtain ⟨hc_lessB_p, hf_lessB_p⟩ := hr_lessB_p; have hs_lessB_p := hb_lessB_p.sz; (try simp only [World.size_alloc, World.size_setCell, World.size_drew] at hs_lessB_p); have hz0_lessB_p : w4.heap.size < w_lessB_p.heap.size := (by omega); have hz1_lessB_p : w4.heap.size + 1 < w_lessB_p.heap.size := (by omega); have hz2_lessB_p : w4.heap.size + 1 + 1 < w_lessB_p.heap.size := (by omega)) | (go_at_call 24; refine (compB_p _ _ _ _ _).mono ?_; rintro e w_compB_p ⟨rfl, hb_compB_p⟩; have hr_compB_p := hb_compB_p.rules; obtain ⟨hc_compB_p, hf_compB_p⟩ := hr_compB_p; have hs_compB_p := hb_compB_p.sz; (try simp only [World.size_alloc, World.size_setCell, World.size_drew] at hs_compB_p); have hz0_compB_p : w4.heap.size < w_compB_p.heap.size := (by omega); have hz1_compB_p : w4.heap.size + 1 < w_compB_p.heap.size := (by omega); have hz2_compB_p : w4.heap.size + 1 + 1 < w_compB_p.heap.size := (by omega)))
        go_meet
        case rel => exact ⟨_, rfl, Lib.hid (fun _ => ⟨h1, h2⟩), (by repeat (first | exact Ex.refl _ | assumption | apply Ex.alloc | apply Ex.drew | (refine Ex.setAt ?_ _ ?_; (first | exact Nat.le_refl _ | omega | (simp; omega))) | (apply Ex.after; assumption))), (by repeat (first | assumption | (refine Box.new_at _ _ _ _ ?_; (first | rfl | omega | (simp; done))) | apply Box.alloc | apply Box.set | (refine Box.aside ?_ _ ?_; omega) | (apply Box.later; assumption) | rfl)), (by repeat (first | assumption | (refine Box.new_at _ _ _ _ ?_; (first | rfl | omega | (simp; done))) | apply Box.alloc | apply Box.set | (refine Box.aside ?_ _ ?_; omega) | (apply Box.later; assumption) | rfl)), (by repeat (first | assumption | (refine Box.new_at _ _ _ _ ?_; (first | rfl | omega | (simp; done))) | apply Box.alloc | apply Box.set | (refine Box.aside ?_ _ ?_; omega) | (apply Box.later; assumption) | rfl))⟩
      · go_wp2_with (first | (go_at_call 21; refine (lessB_p _ _ _ _ _).mono ?_; rintro e w_lessB_p ⟨rfl, hb_lessB_p⟩; have hr_lessB_p := hb_lessB_p.rules; obtain ⟨hc_lessB_p, hf_lessB_p⟩ := hr_lessB_p; have hs_lessB_p := hb_lessB_p.sz; (try simp only [World.size_alloc, World.size_setCell, World.size_drew] at hs_lessB_p); have hz0_lessB_p : w4.heap.size < w_lessB_p.heap.size := (by omega); have hz1_lessB_p : w4.heap.size + 1 < w_lessB_p.heap.size := (by omega); have hz2_lessB_p : w4.heap.size + 1 + 1 < w_lessB_p.heap.size := (by omega)) | (go_at_call 24; refine (compB_p _ _ _ _ _).mono ?_; rintro e w_compB_p ⟨rfl, hb_compB_p⟩; have hr_compB_p := hb_compB_p.rules; obtain ⟨hc_compB_p, hf_compB_p⟩ := hr_compB_p; have hs_compB_p := hb_compB_p.sz; (try simp only [World.size_alloc, World.size_setCell, World.size_drew] at hs_compB_p); have hz0_compB_p : w4.heap.size < w_compB_p.heap.size := (by omega); have hz1_compB_p : w4.heap.size + 1 < w_compB_p.heap.size := (by omega); have hz2_compB_p : w4.heap.size + 1 + 1 < w_compB_p.heap.size := (by omega)))
        go_meet
        case rel => exact ⟨_, rfl, hn, (by repeat (first | exact Ex.refl _ | assumption | apply Ex.alloc | apply Ex.drew | (refine Ex.setAt ?_ _ ?_; (first | exact Nat.le_refl _ | omega | (simp; omega))) | (apply Ex.after; assumption))), (by repeat (first | assumption | (refine Box.new_at _ _ _ _ ?_; (first | rfl | omega | (simp; done))) | apply Box.alloc | apply Box.set | (refine Box.aside ?_ _ ?_; omega) | (apply Box.later; assumption) | rfl)), (by repeat (first | assumption | (refine Box.new_at _ _ _ _ ?_; (first | rfl | omega | (simp; done))) | apply Box.alloc | apply Box.set | (refine Box.aside ?_ _ ?_; omega) | (apply Box.later; assumption) | rfl)), (by repeat (first | assumption | (refine Box.new_at _ _ _ _ ?_; (first | rfl | omega | (simp; done))) | apply Box.alloc | apply Box.set | (refine Box.aside ?_ _ ?_; omega) | (apply Box.later; assumption) | rfl))⟩
  case rest =>
    obtain ⟨x, rfl, hx28, hxs, bp, bq, br⟩ := hcut
    obtain ⟨wt, rfl⟩ : ∃ x : World, x = wc := ⟨_, rfl⟩
    have f0 := bq.free 0
    have f1 := bq.free 1
    have e0 := bq.cell 0 _ rfl
    have e1 := bq.cell 1 _ rfl
    have l2 := br.lt
    go_upto_if 28 with fail
    go_cut [28] (fun _ wx => ∃ (dc : Int) (dv : ByteArray), Hid (Gives pc pv dc dv rc rv) ∧ Ex w wx ∧ Box wx w4.heap.size [.int .i64 pc, .string pv] 26 ∧ Box wx (w4.heap.size + 1) [.int .i64 dc, .string dv] 26 ∧ Box wx (w4.heap.size + 1 + 1) [.int .i64 rc, .string rv] 26)
    case first =>
      cases x
      · obtain ⟨h1, h2⟩ := hx28.out rfl
        have HG := Lib.hid (gives_two (rc := rc) (rv := rv) p1 q1 h1 h2)
        clear h1 h2 hx28
        go_wp2
        go_meet
        case rel => exact ⟨qc, qv, HG, (by repeat (first | exact Ex.refl _ | assumption | apply Ex.alloc | apply Ex.drew | (refine Ex.setAt ?_ _ ?_; (first | exact Nat.le_refl _ | omega | (simp; omega))) | (apply Ex.after; assumption))), (by repeat (first | assumption | (refine Box.new_at _ _ _ _ ?_; (first | rfl | omega | (simp; done))) | apply Box.alloc | apply Box.set | (refine Box.aside ?_ _ ?_; omega) | (apply Box.later; assumption) | rfl)), (by repeat (first | assumption | (refine Box.new_at _ _ _ _ ?_; (first | rfl | omega | (simp; done))) | apply Box.alloc | apply Box.set | (refine Box.aside ?_ _ ?_; omega) | (apply Box.later; assumption) | rfl)), (by repeat (first | assumption | (refine Box.new_at _ _ _ _ ?_; (first | rfl | omega | (simp; done))) | apply Box.alloc | apply Box.set | (refine Box.aside ?_ _ ?_; omega) | (apply Box.later; assumption) | rfl))⟩
      · clear hx28
        go_wp2
        go_meet
        case rel => exact ⟨0, ⟨#[]⟩, Lib.hid (gives_zero p1), .setAt (by omega) _ (.setAt (by omega) _ hxs), (by repeat (first | assumption | (refine Box.new_at _ _ _ _ ?_; (first | rfl | omega | (simp; done))) | apply Box.alloc | apply Box.set | (refine Box.aside ?_ _ ?_; omega) | (apply Box.later; assumption) | rfl)), (by repeat (first | assumption | (refine Box.new_at _ _ _ _ ?_; (first | rfl | omega | (simp; done))) | apply Box.alloc | apply Box.set | (refine Box.aside ?_ _ ?_; omega) | (apply Box.later; assumption) | rfl)), (by repeat (first | assumption | (refine Box.new_at _ _ _ _ ?_; (first | rfl | omega | (simp; done))) | apply Box.alloc | apply Box.set | (refine Box.aside ?_ _ ?_; omega) | (apply Box.later; assumption) | rfl))⟩
    case rest =>
      obtain ⟨dc, dv, HG, hxs, bp, bq, br⟩ := hcut
      obtain ⟨wt, rfl⟩ : ∃ x : World, x = wc := ⟨_, rfl⟩
      go_wp2
      go_loopg [7, 8] 8 (fun m s7 i wr => Ex w wr ∧ Box wr w4.heap.size [.int .i64 pc, .string pv] 26 ∧ Box wr (w4.heap.size + 1) [.int .i64 dc, .string dv] 26 ∧ Box wr (w4.heap.size + 1 + 1) [.int .i64 rc, .string rv] 26 ∧ ∃ (n : Int) (x : Bool), 1 ≤ n ∧ n + m = 9 ∧ i = .int .i64 n ∧ s7 = .bool x ∧ Hid (prepB pc pv dc dv rc rv = true → x = true))
      case atStart => exact ⟨hxs, bp, bq, br, 1, true, by omega, by omega, rfl, rfl, Lib.hid (fun _ => rfl)⟩
      case round =>
        clear hxs bp bq br
        obtain ⟨hxr, bp, bq, br, n, x, n1, n2, rfl, rfl, HX⟩ := hrel
        obtain ⟨ws, rfl⟩ : ∃ y : World, y = wr := ⟨_, rfl⟩
        obtain ⟨go, rfl⟩ : ∃ y : Nat, y = gk := ⟨_, rfl⟩
        have l0 := bp.lt
        have l1 := bq.lt
        have l2 := br.lt
        have c0 := bp.cell 0 _ rfl
        have c1 := bp.cell 1 _ rfl
        have c2 := bq.cell 0 _ rfl
        have c3 := bq.cell 1 _ rfl
        have c4 := br.cell 0 _ rfl
        have c5 := br.cell 1 _ rfl
        by_cases hlt : n ≤ 7
        · go_wp2_with fail
          go_loopg [7, 36] 4 (fun m s7 i wr => Ex w wr ∧ Box wr w4.heap.size [.int .i64 pc, .string pv] 26 ∧ Box wr (w4.heap.size + 1) [.int .i64 dc, .string dv] 26 ∧ Box wr (w4.heap.size + 1 + 1) [.int .i64 rc, .string rv] 26 ∧ Box wr ws.heap.size [.string ⟨#[97]⟩, .string ⟨#[98]⟩, .string ⟨#[99]⟩, .string ⟨#[97, 97]⟩] 9 ∧ ∃ (k : Nat) (x : Bool), k + m = 4 ∧ i = .int .i64 k ∧ s7 = .bool x ∧ Hid (prepB pc pv dc dv rc rv = true → x = true))
          case atStart => exact ⟨(by repeat (first | exact Ex.refl _ | assumption | apply Ex.alloc | apply Ex.drew | (refine Ex.setAt ?_ _ ?_; (first | exact Nat.le_refl _ | omega | (simp; omega))) | (apply Ex.after; assumption))), (by repeat (first | assumption | (refine Box.new_at _ _ _ _ ?_; (first | rfl | omega | (simp; done))) | apply Box.alloc | apply Box.set | (refine Box.aside ?_ _ ?_; omega) | (apply Box.later; assumption) | rfl)), (by repeat (first | assumption | (refine Box.new_at _ _ _ _ ?_; (first | rfl | omega | (simp; done))) | apply Box.alloc | apply Box.set | (refine Box.aside ?_ _ ?_; omega) | (apply Box.later; assumption) | rfl)), (by repeat (first | assumption | (refine Box.new_at _ _ _ _ ?_; (first | rfl | omega | (simp; done))) | apply Box.alloc | apply Box.set | (refine Box.aside ?_ _ ?_; omega) | (apply Box.later; assumption) | rfl)), (by repeat (first | assumption | (refine Box.new_at _ _ _ _ ?_; (first | rfl | omega | (simp; done))) | apply Box.alloc | apply Box.set | (refine Box.aside ?_ _ ?_; omega) | (apply Box.later; assumption) | rfl)), 0, x, by omega, rfl, rfl, HX⟩
          case round =>
            clear hxr bp bq br x HX
            obtain ⟨hxr, bp, bq, br, bl, k, x, hk, rfl, rfl, HX⟩ := hrel
            have l3 := bl.lt
            have m0 := bp.lt
            have m1 := bq.lt
            have m2 := br.lt
            have d0 := bp.cell 0 _ rfl
            have d1 := bp.cell 1 _ rfl
            have d2 := bq.cell 0 _ rfl
            have d3 := bq.cell 1 _ rfl
            have d4 := br.cell 0 _ rfl
            have d5 := br.cell 1 _ rfl
            by_cases hk4 : k < 4
            · have hc : wr.cell? ⟨ws.heap.size, k, none⟩ = some (.string (nth vals k)) := by
                match k, hk4 with
                | 0, _ => exact bl.cell 0 _ rfl
                | 1, _ => exact bl.cell 1 _ rfl
                | 2, _ => exact bl.cell 2 _ rfl
                | 3, _ => exact bl.cell 3 _ rfl
              generalize nth vals k = v at hc
              cases g1 : lessB n v rc rv
              · have tok := g1
                go_wp2_with (first | (go_at_call 25; refine (lessB_r _ _ _ _ _).mono ?_; rintro e w_lessB_r ⟨rfl, hb_lessB_r⟩; have hr_lessB_r := hb_lessB_r.rules; obtain ⟨hc_lessB_r, hf_lessB_r⟩ := hr_lessB_r; have hs_lessB_r := hb_lessB_r.sz; (try simp only [World.size_alloc, World.size_setCell, World.size_drew] at hs_lessB_r); have hz0_lessB_r : w4.heap.size < w_lessB_r.heap.size := (by omega); have hz1_lessB_r : w4.heap.size + 1 < w_lessB_r.heap.size := (by omega); have hz2_lessB_r : w4.heap.size + 1 + 1 < w_lessB_r.heap.size := (by omega); have hz3_lessB_r : ws.heap.size < w_lessB_r.heap.size := (by omega); have hz4_lessB_r : wr.heap.size < w_lessB_r.heap.size := (by omega); have hz5_lessB_r : ws.heap.size < w_lessB_r.heap.size := (by omega)) | (go_at_call 26; refine (compB_r _ _ _ _ _).mono ?_; rintro e w_compB_r ⟨rfl, hb_compB_r⟩; have hr_compB_r := hb_compB_r.rules; obtain ⟨hc_compB_r, hf_compB_r⟩ := hr_compB_r; have hs_compB_r := hb_compB_r.sz; (try simp only [World.size_alloc, World.size_setCell, World.size_drew] at hs_compB_r); have hz0_compB_r : w4.heap.size < w_compB_r.heap.size := (by omega); have hz1_compB_r : w4.heap.size + 1 < w_compB_r.heap.size := (by omega); have hz2_compB_r : w4.heap.size + 1 + 1 < w_compB_r.heap.size := (by omega); have hz3_compB_r : ws.heap.size < w_compB_r.heap.size := (by omega); have hz4_compB_r : wr.heap.size < w_compB_r.heap.size := (by omega); have hz5_compB_r : ws.heap.size < w_compB_r.heap.size := (by omega)) | (go_at_call 23; refine (abB_p _ _ _ _ _).mono ?_; rintro e w_abB_p ⟨rfl, hb_abB_p⟩; have hr_abB_p := hb_abB_p.rules; obtain ⟨hc_abB_p, hf_abB_p⟩ := hr_abB_p; have hs_abB_p := hb_abB_p.sz; (try simp only [World.size_alloc, World.size_setCell, World.size_drew] at hs_abB_p); have hz0_abB_p : w4.heap.size < w_abB_p.heap.size := (by omega); have hz1_abB_p : w4.heap.size + 1 < w_abB_p.heap.size := (by omega); have hz2_abB_p : w4.heap.size + 1 + 1 < w_abB_p.heap.size := (by omega); have hz3_abB_p : ws.heap.size < w_abB_p.heap.size := (by omega); have hz4_abB_p : wr.heap.size < w_abB_p.heap.size := (by omega); have hz5_abB_p : ws.heap.size < w_abB_p.heap.size := (by omega)))
                go_roundg (gk - 1)
                case measure => omega
                case rel => exact ⟨(by repeat (first | exact Ex.refl _ | assumption | apply Ex.alloc | apply Ex.drew | (refine Ex.setAt ?_ _ ?_; (first | exact Nat.le_refl _ | omega | (simp; omega))) | (apply Ex.after; assumption))), (by repeat (first | assumption | (refine Box.new_at _ _ _ _ ?_; (first | rfl | omega | (simp; done))) | apply Box.alloc | apply Box.set | (refine Box.aside ?_ _ ?_; omega) | (apply Box.later; assumption) | rfl)), (by repeat (first | assumption | (refine Box.new_at _ _ _ _ ?_; (first | rfl | omega | (simp; done))) | apply Box.alloc | apply Box.set | (refine Box.aside ?_ _ ?_; omega) | (apply Box.later; assumption) | rfl)), (by repeat (first | assumption | (refine Box.new_at _ _ _ _ ?_; (first | rfl | omega | (simp; done))) | apply Box.alloc | apply Box.set | (refine Box.aside ?_ _ ?_; omega) | (apply Box.later; assumption) | rfl)), (by repeat (first | assumption | (refine Box.new_at _ _ _ _ ?_; (first | rfl | omega | (simp; done))) | apply Box.alloc | apply Box.set | (refine Box.aside ?_ _ ?_; omega) | (apply Box.later; assumption) | rfl)), k + 1, x, by omega, by go_num, rfl, HX⟩
              · cases g2 : compB v rv
                · cases g3 : abB pc pv n v
                  · cases g4 : abB dc dv n v
                    · have HX2 : Hid (prepB pc pv dc dv rc rv = true → false = true) := Lib.hid (fun h => absurd (HG.out h n v g1 g2 g3 g4) id)
                      go_wp2_with (first | (go_at_call 25; refine (lessB_r _ _ _ _ _).mono ?_; rintro e w_lessB_r ⟨rfl, hb_lessB_r⟩; have hr_lessB_r := hb_lessB_r.rules; obtain ⟨hc_lessB_r, hf_lessB_r⟩ := hr_lessB_r; have hs_lessB_r := hb_lessB_r.sz; (try simp only [World.size_alloc, World.size_setCell, World.size_drew] at hs_lessB_r); have hz0_lessB_r : w4.heap.size < w_lessB_r.heap.size := (by omega); have hz1_lessB_r : w4.heap.size + 1 < w_lessB_r.heap.size := (by omega); have hz2_lessB_r : w4.heap.size + 1 + 1 < w_lessB_r.heap.size := (by omega); have hz3_lessB_r : ws.heap.size < w_lessB_r.heap.size := (by omega); have hz4_lessB_r : wr.heap.size < w_lessB_r.heap.size := (by omega); have hz5_lessB_r : ws.heap.size < w_lessB_r.heap.size := (by omega)) | (go_at_call 26; refine (compB_r _ _ _ _ _).mono ?_; rintro e w_compB_r ⟨rfl, hb_compB_r⟩; have hr_compB_r := hb_compB_r.rules; obtain ⟨hc_compB_r, hf_compB_r⟩ := hr_compB_r; have hs_compB_r := hb_compB_r.sz; (try simp only [World.size_alloc, World.size_setCell, World.size_drew] at hs_compB_r); have hz0_compB_r : w4.heap.size < w_compB_r.heap.size := (by omega); have hz1_compB_r : w4.heap.size + 1 < w_compB_r.heap.size := (by omega); have hz2_compB_r : w4.heap.size + 1 + 1 < w_compB_r.heap.size := (by omega); have hz3_compB_r : ws.heap.size < w_compB_r.heap.size := (by omega); have hz4_compB_r : wr.heap.size < w_compB_r.heap.size := (by omega); have hz5_compB_r : ws.heap.size < w_compB_r.heap.size := (by omega)) | (go_at_call 23; refine (abB_p _ _ _ _ _).mono ?_; rintro e w_abB_p ⟨rfl, hb_abB_p⟩; have hr_abB_p := hb_abB_p.rules; obtain ⟨hc_abB_p, hf_abB_p⟩ := hr_abB_p; have hs_abB_p := hb_abB_p.sz; (try simp only [World.size_alloc, World.size_setCell, World.size_drew] at hs_abB_p); have hz0_abB_p : w4.heap.size < w_abB_p.heap.size := (by omega); have hz1_abB_p : w4.heap.size + 1 < w_abB_p.heap.size := (by omega); have hz2_abB_p : w4.heap.size + 1 + 1 < w_abB_p.heap.size := (by omega); have hz3_abB_p : ws.heap.size < w_abB_p.heap.size := (by omega); have hz4_abB_p : wr.heap.size < w_abB_p.heap.size := (by omega); have hz5_abB_p : ws.heap.size < w_abB_p.heap.size := (by omega)))
                      go_roundg (gk - 1)
                      case measure => omega
                      case rel => exact ⟨(by repeat (first | exact Ex.refl _ | assumption | apply Ex.alloc | apply Ex.drew | (refine Ex.setAt ?_ _ ?_; (first | exact Nat.le_refl _ | omega | (simp; omega))) | (apply Ex.after; assumption))), (by repeat (first | assumption | (refine Box.new_at _ _ _ _ ?_; (first | rfl | omega | (simp; done))) | apply Box.alloc | apply Box.set | (refine Box.aside ?_ _ ?_; omega) | (apply Box.later; assumption) | rfl)), (by repeat (first | assumption | (refine Box.new_at _ _ _ _ ?_; (first | rfl | omega | (simp; done))) | apply Box.alloc | apply Box.set | (refine Box.aside ?_ _ ?_; omega) | (apply Box.later; assumption) | rfl)), (by repeat (first | assumption | (refine Box.new_at _ _ _ _ ?_; (first | rfl | omega | (simp; done))) | apply Box.alloc | apply Box.set | (refine Box.aside ?_ _ ?_; omega) | (apply Box.later; assumption) | rfl)), (by repeat (first | assumption | (refine Box.new_at _ _ _ _ ?_; (first | rfl | omega | (simp; done))) | apply Box.alloc | apply Box.set | (refine Box.aside ?_ _ ?_; omega) | (apply Box.later; assumption) | rfl)), k + 1, false, by omega, by go_num, rfl, HX2⟩
                    · have tok := g4
                      go_wp2_with (first | (go_at_call 25; refine (lessB_r _ _ _ _ _).mono ?_; rintro e w_lessB_r ⟨rfl, hb_lessB_r⟩; have hr_lessB_r := hb_lessB_r.rules; obtain ⟨hc_lessB_r, hf_lessB_r⟩ := hr_lessB_r; have hs_lessB_r := hb_lessB_r.sz; (try simp only [World.size_alloc, World.size_setCell, World.size_drew] at hs_lessB_r); have hz0_lessB_r : w4.heap.size < w_lessB_r.heap.size := (by omega); have hz1_lessB_r : w4.heap.size + 1 < w_lessB_r.heap.size := (by omega); have hz2_lessB_r : w4.heap.size + 1 + 1 < w_lessB_r.heap.size := (by omega); have hz3_lessB_r : ws.heap.size < w_lessB_r.heap.size := (by omega); have hz4_lessB_r : wr.heap.size < w_lessB_r.heap.size := (by omega); have hz5_lessB_r : ws.heap.size < w_lessB_r.heap.size := (by omega)) | (go_at_call 26; refine (compB_r _ _ _ _ _).mono ?_; rintro e w_compB_r ⟨rfl, hb_compB_r⟩; have hr_compB_r := hb_compB_r.rules; obtain ⟨hc_compB_r, hf_compB_r⟩ := hr_compB_r; have hs_compB_r := hb_compB_r.sz; (try simp only [World.size_alloc, World.size_setCell, World.size_drew] at hs_compB_r); have hz0_compB_r : w4.heap.size < w_compB_r.heap.size := (by omega); have hz1_compB_r : w4.heap.size + 1 < w_compB_r.heap.size := (by omega); have hz2_compB_r : w4.heap.size + 1 + 1 < w_compB_r.heap.size := (by omega); have hz3_compB_r : ws.heap.size < w_compB_r.heap.size := (by omega); have hz4_compB_r : wr.heap.size < w_compB_r.heap.size := (by omega); have hz5_compB_r : ws.heap.size < w_compB_r.heap.size := (by omega)) | (go_at_call 23; refine (abB_p _ _ _ _ _).mono ?_; rintro e w_abB_p ⟨rfl, hb_abB_p⟩; have hr_abB_p := hb_abB_p.rules; obtain ⟨hc_abB_p, hf_abB_p⟩ := hr_abB_p; have hs_abB_p := hb_abB_p.sz; (try simp only [World.size_alloc, World.size_setCell, World.size_drew] at hs_abB_p); have hz0_abB_p : w4.heap.size < w_abB_p.heap.size := (by omega); have hz1_abB_p : w4.heap.size + 1 < w_abB_p.heap.size := (by omega); have hz2_abB_p : w4.heap.size + 1 + 1 < w_abB_p.heap.size := (by omega); have hz3_abB_p : ws.heap.size < w_abB_p.heap.size := (by omega); have hz4_abB_p : wr.heap.size < w_abB_p.heap.size := (by omega); have hz5_abB_p : ws.heap.size < w_abB_p.heap.size := (by omega)))
                      go_roundg (gk - 1)
                      case measure => omega
                      case rel => exact ⟨(by repeat (first | exact Ex.refl _ | assumption | apply Ex.alloc | apply Ex.drew | (refine Ex.setAt ?_ _ ?_; (first | exact Nat.le_refl _ | omega | (simp; omega))) | (apply Ex.after; assumption))), (by repeat (first | assumption | (refine Box.new_at _ _ _ _ ?_; (first | rfl | omega | (simp; done))) | apply Box.alloc | apply Box.set | (refine Box.aside ?_ _ ?_; omega) | (apply Box.later; assumption) | rfl)), (by repeat (first | assumption | (refine Box.new_at _ _ _ _ ?_; (first | rfl | omega | (simp; done))) | apply Box.alloc | apply Box.set | (refine Box.aside ?_ _ ?_; omega) | (apply Box.later; assumption) | rfl)), (by repeat (first | assumption | (refine Box.new_at _ _ _ _ ?_; (first | rfl | omega | (simp; done))) | apply Box.alloc | apply Box.set | (refine Box.aside ?_ _ ?_; omega) | (apply Box.later; assumption) | rfl)), (by repeat (first | assumption | (refine Box.new_at _ _ _ _ ?_; (first | rfl | omega | (simp; done))) | apply Box.alloc | apply Box.set | (refine Box.aside ?_ _ ?_; omega) | (apply Box.later; assumption) | rfl)), k + 1, x, by omega, by go_num, rfl, HX⟩
                  · have tok := g3
                    go_wp2_with (first | (go_at_call 25; refine (lessB_r _ _ _ _ _).mono ?_; rintro e w_lessB_r ⟨rfl, hb_lessB_r⟩; have hr_lessB_r := hb_lessB_r.rules; obtain ⟨hc_lessB_r, hf_lessB_r⟩ := hr_lessB_r; have hs_lessB_r := hb_lessB_r.sz; (try simp only [World.size_alloc, World.size_setCell, World.size_drew] at hs_lessB_r); have hz0_lessB_r : w4.heap.size < w_lessB_r.heap.size := (by omega); have hz1_lessB_r : w4.heap.size + 1 < w_lessB_r.heap.size := (by omega); have hz2_lessB_r : w4.heap.size + 1 + 1 < w_lessB_r.heap.size := (by omega); have hz3_lessB_r : ws.heap.size < w_lessB_r.heap.size := (by omega); have hz4_lessB_r : wr.heap.size < w_lessB_r.heap.size := (by omega); have hz5_lessB_r : ws.heap.size < w_lessB_r.heap.size := (by omega)) | (go_at_call 26; refine (compB_r _ _ _ _ _).mono ?_; rintro e w_compB_r ⟨rfl, hb_compB_r⟩; have hr_compB_r := hb_compB_r.rules; obtain ⟨hc_compB_r, hf_compB_r⟩ := hr_compB_r; have hs_compB_r := hb_compB_r.sz; (try simp only [World.size_alloc, World.size_setCell, World.size_drew] at hs_compB_r); have hz0_compB_r : w4.heap.size < w_compB_r.heap.size := (by omega); have hz1_compB_r : w4.heap.size + 1 < w_compB_r.heap.size := (by omega); have hz2_compB_r : w4.heap.size + 1 + 1 < w_compB_r.heap.size := (by omega); have hz3_compB_r : ws.heap.size < w_compB_r.heap.size := (by omega); have hz4_compB_r : wr.heap.size < w_compB_r.heap.size := (by omega); have hz5_compB_r : ws.heap.size < w_compB_r.heap.size := (by omega)) | (go_at_call 23; refine (abB_p _ _ _ _ _).mono ?_; rintro e w_abB_p ⟨rfl, hb_abB_p⟩; have hr_abB_p := hb_abB_p.rules; obtain ⟨hc_abB_p, hf_abB_p⟩ := hr_abB_p; have hs_abB_p := hb_abB_p.sz; (try simp only [World.size_alloc, World.size_setCell, World.size_drew] at hs_abB_p); have hz0_abB_p : w4.heap.size < w_abB_p.heap.size := (by omega); have hz1_abB_p : w4.heap.size + 1 < w_abB_p.heap.size := (by omega); have hz2_abB_p : w4.heap.size + 1 + 1 < w_abB_p.heap.size := (by omega); have hz3_abB_p : ws.heap.size < w_abB_p.heap.size := (by omega); have hz4_abB_p : wr.heap.size < w_abB_p.heap.size := (by omega); have hz5_abB_p : ws.heap.size < w_abB_p.heap.size := (by omega)))
                    go_roundg (gk - 1)
                    case measure => omega
                    case rel => exact ⟨(by repeat (first | exact Ex.refl _ | assumption | apply Ex.alloc | apply Ex.drew | (refine Ex.setAt ?_ _ ?_; (first | exact Nat.le_refl _ | omega | (simp; omega))) | (apply Ex.after; assumption))), (by repeat (first | assumption | (refine Box.new_at _ _ _ _ ?_; (first | rfl | omega | (simp; done))) | apply Box.alloc | apply Box.set | (refine Box.aside ?_ _ ?_; omega) | (apply Box.later; assumption) | rfl)), (by repeat (first | assumption | (refine Box.new_at _ _ _ _ ?_; (first | rfl | omega | (simp; done))) | apply Box.alloc | apply Box.set | (refine Box.aside ?_ _ ?_; omega) | (apply Box.later; assumption) | rfl)), (by repeat (first | assumption | (refine Box.new_at _ _ _ _ ?_; (first | rfl | omega | (simp; done))) | apply Box.alloc | apply Box.set | (refine Box.aside ?_ _ ?_; omega) | (apply Box.later; assumption) | rfl)), (by repeat (first | assumption | (refine Box.new_at _ _ _ _ ?_; (first | rfl | omega | (simp; done))) | apply Box.alloc | apply Box.set | (refine Box.aside ?_ _ ?_; omega) | (apply Box.later; assumption) | rfl)), k + 1, x, by omega, by go_num, rfl, HX⟩
                · have tok := g2
                  go_wp2_with (first | (go_at_call 25; refine (lessB_r _ _ _ _ _).mono ?_; rintro e w_lessB_r ⟨rfl, hb_lessB_r⟩; have hr_lessB_r := hb_lessB_r.rules; obtain ⟨hc_lessB_r, hf_lessB_r⟩ := hr_lessB_r; have hs_lessB_r := hb_lessB_r.sz; (try simp only [World.size_alloc, World.size_setCell, World.size_drew] at hs_lessB_r); have hz0_lessB_r : w4.heap.size < w_lessB_r.heap.size := (by omega); have hz1_lessB_r : w4.heap.size + 1 < w_lessB_r.heap.size := (by omega); have hz2_lessB_r : w4.heap.size + 1 + 1 < w_lessB_r.heap.size := (by omega); have hz3_lessB_r : ws.heap.size < w_lessB_r.heap.size := (by omega); have hz4_lessB_r : wr.heap.size < w_lessB_r.heap.size := (by omega); have hz5_lessB_r : ws.heap.size < w_lessB_r.heap.size := (by omega)) | (go_at_call 26; refine (compB_r _ _ _ _ _).mono ?_; rintro e w_compB_r ⟨rfl, hb_compB_r⟩; have hr_compB_r := hb_compB_r.rules; obtain ⟨hc_compB_r, hf_compB_r⟩ := hr_compB_r; have hs_compB_r := hb_compB_r.sz; (try simp only [World.size_alloc, World.size_setCell, World.size_drew] at hs_compB_r); have hz0_compB_r : w4.heap.size < w_compB_r.heap.size := (by omega); have hz1_compB_r : w4.heap.size + 1 < w_compB_r.heap.size := (by omega); have hz2_compB_r : w4.heap.size + 1 + 1 < w_compB_r.heap.size := (by omega); have hz3_compB_r : ws.heap.size < w_compB_r.heap.size := (by omega); have hz4_compB_r : wr.heap.size < w_compB_r.heap.size := (by omega); have hz5_compB_r : ws.heap.size < w_compB_r.heap.size := (by omega)) | (go_at_call 23; refine (abB_p _ _ _ _ _).mono ?_; rintro e w_abB_p ⟨rfl, hb_abB_p⟩; have hr_abB_p := hb_abB_p.rules; obtain ⟨hc_abB_p, hf_abB_p⟩ := hr_abB_p; have hs_abB_p := hb_abB_p.sz; (try simp only [World.size_alloc, World.size_setCell, World.size_drew] at hs_abB_p); have hz0_abB_p : w4.heap.size < w_abB_p.heap.size := (by omega); have hz1_abB_p : w4.heap.size + 1 < w_abB_p.heap.size := (by omega); have hz2_abB_p : w4.heap.size + 1 + 1 < w_abB_p.heap.size := (by omega); have hz3_abB_p : ws.heap.size < w_abB_p.heap.size := (by omega); have hz4_abB_p : wr.heap.size < w_abB_p.heap.size := (by omega); have hz5_abB_p : ws.heap.size < w_abB_p.heap.size := (by omega)))
                  go_roundg (gk - 1)
                  case measure => omega
                  case rel => exact ⟨(by repeat (first | exact Ex.refl _ | assumption | apply Ex.alloc | apply Ex.drew | (refine Ex.setAt ?_ _ ?_; (first | exact Nat.le_refl _ | omega | (simp; omega))) | (apply Ex.after; assumption))), (by repeat (first | assumption | (refine Box.new_at _ _ _ _ ?_; (first | rfl | omega | (simp; done))) | apply Box.alloc | apply Box.set | (refine Box.aside ?_ _ ?_; omega) | (apply Box.later; assumption) | rfl)), (by repeat (first | assumption | (refine Box.new_at _ _ _ _ ?_; (first | rfl | omega | (simp; done))) | apply Box.alloc | apply Box.set | (refine Box.aside ?_ _ ?_; omega) | (apply Box.later; assumption) | rfl)), (by repeat (first | assumption | (refine Box.new_at _ _ _ _ ?_; (first | rfl | omega | (simp; done))) | apply Box.alloc | apply Box.set | (refine Box.aside ?_ _ ?_; omega) | (apply Box.later; assumption) | rfl)), (by repeat (first | assumption | (refine Box.new_at _ _ _ _ ?_; (first | rfl | omega | (simp; done))) | apply Box.alloc | apply Box.set | (refine Box.aside ?_ _ ?_; omega) | (apply Box.later; assumption) | rfl)), k + 1, x, by omega, by go_num, rfl, HX⟩
            · go_wp2_with fail
              go_roundg (go - 1)
              case measure => omega
              case rel => exact ⟨(by repeat (first | exact Ex.refl _ | assumption | apply Ex.alloc | apply Ex.drew | (refine Ex.setAt ?_ _ ?_; (first | exact Nat.le_refl _ | omega | (simp; omega))) | (apply Ex.after; assumption))), (by repeat (first | assumption | (refine Box.new_at _ _ _ _ ?_; (first | rfl | omega | (simp; done))) | apply Box.alloc | apply Box.set | (refine Box.aside ?_ _ ?_; omega) | (apply Box.later; assumption) | rfl)), (by repeat (first | assumption | (refine Box.new_at _ _ _ _ ?_; (first | rfl | omega | (simp; done))) | apply Box.alloc | apply Box.set | (refine Box.aside ?_ _ ?_; omega) | (apply Box.later; assumption) | rfl)), (by repeat (first | assumption | (refine Box.new_at _ _ _ _ ?_; (first | rfl | omega | (simp; done))) | apply Box.alloc | apply Box.set | (refine Box.aside ?_ _ ?_; omega) | (apply Box.later; assumption) | rfl)), n + 1, x, by omega, by omega, by go_num, rfl, HX⟩
        · have HP := HX.out
          cases hp : prepB pc pv dc dv rc rv
          · go_wp2_with (first | (go_at_call 27; refine (prepB_p _ _ _ _ _ _ _).mono ?_; rintro e w_prepB_p ⟨rfl, hb_prepB_p⟩; have hr_prepB_p := hb_prepB_p.rules; obtain ⟨hc_prepB_p, hf_prepB_p⟩ := hr_prepB_p; have hs_prepB_p := hb_prepB_p.sz; (try simp only [World.size_alloc, World.size_setCell, World.size_drew] at hs_prepB_p)) | (go_at_call 19; refine (sane23 _).mono ?_; rintro e w_sane23 ⟨rfl, hb_sane23⟩; have hr_sane23 := hb_sane23.rules; obtain ⟨hc_sane23, hf_sane23⟩ := hr_sane23; have hs_sane23 := hb_sane23.sz; (try simp only [World.size_alloc, World.size_setCell, World.size_drew] at hs_sane23)))
            go_ret
            exact ⟨rfl, (by repeat (first | exact Ex.refl _ | assumption | apply Ex.alloc | apply Ex.drew | (refine Ex.setAt ?_ _ ?_; (first | exact Nat.le_refl _ | omega | (simp; omega))) | (apply Ex.after; assumption)))⟩
          · obtain rfl := HP hp
            go_wp2_with (first | (go_at_call 27; refine (prepB_p _ _ _ _ _ _ _).mono ?_; rintro e w_prepB_p ⟨rfl, hb_prepB_p⟩; have hr_prepB_p := hb_prepB_p.rules; obtain ⟨hc_prepB_p, hf_prepB_p⟩ := hr_prepB_p; have hs_prepB_p := hb_prepB_p.sz; (try simp only [World.size_alloc, World.size_setCell, World.size_drew] at hs_prepB_p)) | (go_at_call 19; refine (sane23 _).mono ?_; rintro e w_sane23 ⟨rfl, hb_sane23⟩; have hr_sane23 := hb_sane23.rules; obtain ⟨hc_sane23, hf_sane23⟩ := hr_sane23; have hs_sane23 := hb_sane23.sz; (try simp only [World.size_alloc, World.size_setCell, World.size_drew] at hs_sane23)))
            go_ret
            exact ⟨rfl, (by repeat (first | exact Ex.refl _ | assumption | apply Ex.alloc | apply Ex.drew | (refine Ex.setAt ?_ _ ?_; (first | exact Nat.le_refl _ | omega | (simp; omega))) | (apply Ex.after; assumption)))⟩
end Go.Proofs.Ytfhipecfamecaaa
