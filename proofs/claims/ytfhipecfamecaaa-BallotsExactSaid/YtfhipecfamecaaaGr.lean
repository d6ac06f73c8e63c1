/- Contracts of Greatest and Lowest, of the program and of the reference alike. -/
import Derived.Test.YtfhipecfamecaaaBal
import Derived.Test.YtfhipecfamecaaaRows2
namespace Go.Proofs.Ytfhipecfamecaaa
set_option linter.unusedSimpArgs false
set_option linter.unusedVariables false
set_option linter.unnecessarySimpa false
set_option linter.unusedSectionVars false
open Go.RowKit Go.Proofs.Grow Go.Sort

structure Ball where
  c : Int
  v : ByteArray
instance : Inhabited Ball := ⟨⟨0, ⟨#[]⟩⟩⟩
/-- The cells of a row of ballots. -/
def BallsAt (w : World) (b off : Nat) (l : List Ball) : Prop :=
  ∀ i, i < l.length → w.cell? ⟨b, off + i * 2, none⟩ = some (.int .i64 (nth l i).c) ∧ w.cell? ⟨b, off + i * 2 + 1, none⟩ = some (.string (nth l i).v)
def grF : Bool → Ball → List Ball → Ball
  | _, o, [] => o
  | f, o, x :: r => if (f || lessB o.c o.v x.c x.v) = true then grF false x r else grF false o r
def greatest (l : List Ball) : Ball := grF true ⟨0, ⟨#[]⟩⟩ l

set_option maxHeartbeats 1000000 in
theorem gr_p (b off cap : Nat) (l : List Ball) (w : World) (hl : l.length ≤ 1000000) (hb : b < w.heap.size) (hx : BallsAt w b off l) :
    Calls Try.prog 29 #[.slice (some ⟨b, off, none⟩) l.length cap] w fun e w' => e = .returned (.agg #[.int .i64 (greatest l).c, .string (greatest l).v]) ∧ Ex w w' := by
  have HX := Lib.hid hx; clear hx
  go_enter Try.func29, Try.ntmps29
  go_wp2
  go_loopg [4, 5, 8] (l.length) (fun m _ _ i wr => Ex w wr ∧ Box wr w.heap.size [.int .i64 0, .string ⟨#[]⟩] 26 ∧ ∃ (k : Nat) (o : Ball), k + m = l.length ∧ i = .int .i64 k ∧ Box wr (w.heap.size + 1) [.int .i64 o.c, .string o.v] 26 ∧ Hid (greatest l = grF (k == 0) o (l.drop k)))
  case atStart => exact ⟨(by repeat (first | exact Ex.refl _ | assumption | apply Ex.alloc | apply Ex.drew | apply Ex.drewN | (refine Ex.setAt ?_ _ ?_; (first | exact Nat.le_refl _ | omega | (simp; omega))) | (apply Ex.after; assumption))), (Box.new _ _ _).alloc _, 0, ⟨0, ⟨#[]⟩⟩, by omega, rfl, (by repeat (first | assumption | (refine Box.new_at _ _ _ _ ?_; (first | rfl | omega | (simp; done))) | apply Box.alloc | apply Box.set | (refine Box.aside ?_ _ ?_; omega) | (apply Box.later; assumption) | rfl)), Lib.hid rfl⟩
  case round =>
    obtain ⟨hx, br, k, o, hk, rfl, bo, hz⟩ := hrel
    have hs0 := br.lt
    have hs1 := bo.lt
    have c0 := bo.cell 0 _ rfl
    have c1 := bo.cell 1 _ rfl
    have f0 := bo.free 0
    have f1 := bo.free 1
    by_cases hlt : k < l.length
    · have HD := Lib.hid (drop_nth l k hlt)
      have hb1 : b < wr.heap.size := by omega
      have hr := hx.rules
      obtain ⟨d0, d1⟩ := HX.out k hlt
      have e0 : wr.cell? ⟨b, off + k * 2, none⟩ = some (.int .i64 (nth l k).c) := by rw [hr.1 _ _ hb]; exact d0
      have e1 : wr.cell? ⟨b, off + k * 2 + 1, none⟩ = some (.string (nth l k).v) := by rw [hr.1 _ _ hb]; exact d1
      clear d0 d1 hr
      by_cases hk0 : k = 0
      · have hb0 : ((k : Int) == 0) = true := by simp [hk0]
        have HK := Lib.hid hk0; clear hk0
        go_wp2
        go_roundg (gk - 1)
        case measure => omega
        case rel => exact ⟨(by repeat (first | exact Ex.refl _ | assumption | apply Ex.alloc | apply Ex.drew | apply Ex.drewN | (refine Ex.setAt ?_ _ ?_; (first | exact Nat.le_refl _ | omega | (simp; omega))) | (apply Ex.after; assumption))), (by repeat (first | assumption | (refine Box.new_at _ _ _ _ ?_; (first | rfl | omega | (simp; done))) | apply Box.alloc | apply Box.set | (refine Box.aside ?_ _ ?_; omega) | (apply Box.later; assumption) | rfl)), k + 1, nth l k, by omega, by go_num, (by repeat (first | assumption | (refine Box.new_at _ _ _ _ ?_; (first | rfl | omega | (simp; done))) | apply Box.alloc | apply Box.set | (refine Box.aside ?_ _ ?_; omega) | (apply Box.later; assumption) | rfl)), by rw [hz.out, HD.out]; simp [grF, HK.out, Hid]⟩
      · have hb0 : ((k : Int) == 0) = false := by simp; omega
        have HK := Lib.hid hk0; clear hk0
        cases hc : lessB o.c o.v (nth l k).c (nth l k).v
        · go_wp2_with (first | (go_at_call 21; refine (lessB_p _ _ _ _ _).mono ?_; rintro e w_lessB_p ⟨rfl, hb_lessB_p⟩; have hr_lessB_p := hb_lessB_p.rules; obtain ⟨hc_lessB_p, hf_lessB_p⟩ := hr_lessB_p; have hs_lessB_p := hb_lessB_p.sz; (try simp only [World.size_alloc, World.size_setCell, World.size_drew] at hs_lessB_p); have hz0_lessB_p : w.heap.size < w_lessB_p.heap.size := (by omega); have hz1_lessB_p : w.heap.size + 1 < w_lessB_p.heap.size := (by omega); have hz2_lessB_p : b < w_lessB_p.heap.size := (by omega); have hz3_lessB_p : wr.heap.size < w_lessB_p.heap.size := (by omega)))
          go_roundg (gk - 1)
          case measure => omega
          case rel => exact ⟨(by repeat (first | exact Ex.refl _ | assumption | apply Ex.alloc | apply Ex.drew | apply Ex.drewN | (refine Ex.setAt ?_ _ ?_; (first | exact Nat.le_refl _ | omega | (simp; omega))) | (apply Ex.after; assumption))), (by repeat (first | assumption | (refine Box.new_at _ _ _ _ ?_; (first | rfl | omega | (simp; done))) | apply Box.alloc | apply Box.set | (refine Box.aside ?_ _ ?_; omega) | (apply Box.later; assumption) | rfl)), k + 1, o, by omega, by go_num, (by repeat (first | assumption | (refine Box.new_at _ _ _ _ ?_; (first | rfl | omega | (simp; done))) | apply Box.alloc | apply Box.set | (refine Box.aside ?_ _ ?_; omega) | (apply Box.later; assumption) | rfl)), by rw [hz.out, HD.out]; simp [grF, HK.out, Hid, hc]⟩
        · go_wp2_with (first | (go_at_call 21; refine (lessB_p _ _ _ _ _).mono ?_; rintro e w_lessB_p ⟨rfl, hb_lessB_p⟩; have hr_lessB_p := hb_lessB_p.rules; obtain ⟨hc_lessB_p, hf_lessB_p⟩ := hr_lessB_p; have hs_lessB_p := hb_lessB_p.sz; (try simp only [World.size_alloc, World.size_setCell, World.size_drew] at hs_lessB_p); have hz0_lessB_p : w.heap.size < w_lessB_p.heap.size := (by omega); have hz1_lessB_p : w.heap.size + 1 < w_lessB_p.heap.size := (by omega); have hz2_lessB_p : b < w_lessB_p.heap.size := (by omega); have hz3_lessB_p : wr.heap.size < w_lessB_p.heap.size := (by omega)))
          go_roundg (gk - 1)
          case measure => omega
          case rel => exact ⟨(by repeat (first | exact Ex.refl _ | assumption | apply Ex.alloc | apply Ex.drew | apply Ex.drewN | (refine Ex.setAt ?_ _ ?_; (first | exact Nat.le_refl _ | omega | (simp; omega))) | (apply Ex.after; assumption))), (by repeat (first | assumption | (refine Box.new_at _ _ _ _ ?_; (first | rfl | omega | (simp; done))) | apply Box.alloc | apply Box.set | (refine Box.aside ?_ _ ?_; omega) | (apply Box.later; assumption) | rfl)), k + 1, nth l k, by omega, by go_num, (by repeat (first | assumption | (refine Box.new_at _ _ _ _ ?_; (first | rfl | omega | (simp; done))) | apply Box.alloc | apply Box.set | (refine Box.aside ?_ _ ?_; omega) | (apply Box.later; assumption) | rfl)), by rw [hz.out, HD.out]; simp [grF, HK.out, Hid, hc]⟩
    · have c2 := br.cell 0 _ rfl
      have c3 := br.cell 1 _ rfl
      have f2 := br.free 0
      have f3 := br.free 1
      have e : greatest l = o := by rw [hz.out, List.drop_of_length_le (by omega)]; rfl
      have HE := Lib.hid e; clear e
      go_wp2
      exact bodyPost_ret (v := .agg #[.int .i64 o.c, .string o.v]) (by simp [results, Try.results29, go_sem, c2, c3]) rfl ⟨by rw [HE.out], (by repeat (first | exact Ex.refl _ | assumption | apply Ex.alloc | apply Ex.drew | apply Ex.drewN | (refine Ex.setAt ?_ _ ?_; (first | exact Nat.le_refl _ | omega | (simp; omega))) | (apply Ex.after; assumption)))⟩

set_option maxHeartbeats 1000000 in
theorem gr_r (b off cap : Nat) (l : List Ball) (w : World) (hl : l.length ≤ 1000000) (hb : b < w.heap.size) (hx : BallsAt w b off l) :
    Calls Try.prog 35 #[.slice (some ⟨b, off, none⟩) l.length cap] w fun e w' => e = .returned (.agg #[.int .i64 (greatest l).c, .string (greatest l).v]) ∧ Ex w w' := by
  have HX := Lib.hid hx; clear hx
  go_enter Try.func35, Try.ntmps35
  go_wp2
  go_loopg [4, 5, 8] (l.length) (fun m _ _ i wr => Ex w wr ∧ Box wr w.heap.size [.int .i64 0, .string ⟨#[]⟩] 26 ∧ ∃ (k : Nat) (o : Ball), k + m = l.length ∧ i = .int .i64 k ∧ Box wr (w.heap.size + 1) [.int .i64 o.c, .string o.v] 26 ∧ Hid (greatest l = grF (k == 0) o (l.drop k)))
  case atStart => exact ⟨(by repeat (first | exact Ex.refl _ | assumption | apply Ex.alloc | apply Ex.drew | apply Ex.drewN | (refine Ex.setAt ?_ _ ?_; (first | exact Nat.le_refl _ | omega | (simp; omega))) | (apply Ex.after; assumption))), (Box.new _ _ _).alloc _, 0, ⟨0, ⟨#[]⟩⟩, by omega, rfl, (by repeat (first | assumption | (refine Box.new_at _ _ _ _ ?_; (first | rfl | omega | (simp; done))) | apply Box.alloc | apply Box.set | (refine Box.aside ?_ _ ?_; omega) | (apply Box.later; assumption) | rfl)), Lib.hid rfl⟩
  case round =>
    obtain ⟨hx, br, k, o, hk, rfl, bo, hz⟩ := hrel
    have hs0 := br.lt
    have hs1 := bo.lt
    have c0 := bo.cell 0 _ rfl
    have c1 := bo.cell 1 _ rfl
    have f0 := bo.free 0
    have f1 := bo.free 1
    by_cases hlt : k < l.length
    · have HD := Lib.hid (drop_nth l k hlt)
      have hb1 : b < wr.heap.size := by omega
      have hr := hx.rules
      obtain ⟨d0, d1⟩ := HX.out k hlt
      have e0 : wr.cell? ⟨b, off + k * 2, none⟩ = some (.int .i64 (nth l k).c) := by rw [hr.1 _ _ hb]; exact d0
      have e1 : wr.cell? ⟨b, off + k * 2 + 1, none⟩ = some (.string (nth l k).v) := by rw [hr.1 _ _ hb]; exact d1
      clear d0 d1 hr
      by_cases hk0 : k = 0
      · have hb0 : ((k : Int) == 0) = true := by simp [hk0]
        have HK := Lib.hid hk0; clear hk0
        go_wp2
        go_roundg (gk - 1)
        case measure => omega
        case rel => exact ⟨(by repeat (first | exact Ex.refl _ | assumption | apply Ex.alloc | apply Ex.drew | apply Ex.drewN | (refine Ex.setAt ?_ _ ?_; (first | exact Nat.le_refl _ | omega | (simp; omega))) | (apply Ex.after; assumption))), (by repeat (first | assumption | (refine Box.new_at _ _ _ _ ?_; (first | rfl | omega | (simp; done))) | apply Box.alloc | apply Box.set | (refine Box.aside ?_ _ ?_; omega) | (apply Box.later; assumption) | rfl)), k + 1, nth l k, by omega, by go_num, (by repeat (first | assumption | (refine Box.new_at _ _ _ _ ?_; (first | rfl | omega | (simp; done))) | apply Box.alloc | apply Box.set | (refine Box.aside ?_ _ ?_; omega) | (apply Box.later; assumption) | rfl)), by rw [hz.out, HD.out]; simp [grF, HK.out, Hid]⟩
      · have hb0 : ((k : Int) == 0) = false := by simp; omega
        have HK := Lib.hid hk0; clear hk0
        cases hc : lessB o.c o.v (nth l k).c (nth l k).v
        · go_wp2_with (first | (go_at_call 25; refine (lessB_r _ _ _ _ _).mono ?_; rintro e w_lessB_r ⟨rfl, hb_lessB_r⟩; have hr_lessB_r := hb_lessB_r.rules; obtain ⟨hc_lessB_r, hf_lessB_r⟩ := hr_lessB_r; have hs_lessB_r := hb_lessB_r.sz; (try simp only [World.size_alloc, World.size_setCell, World.size_drew] at hs_lessB_r); have hz0_lessB_r : w.heap.size < w_lessB_r.heap.size := (by omega); have hz1_lessB_r : w.heap.size + 1 < w_lessB_r.heap.size := (by omega); have hz2_lessB_r : b < w_lessB_r.heap.size := (by omega); have hz3_lessB_r : wr.heap.size < w_lessB_r.heap.size := (by omega)))
          go_roundg (gk - 1)
          case measure => omega
          case rel => exact ⟨(by repeat (first | exact Ex.refl _ | assumption | apply Ex.alloc | apply Ex.drew | apply Ex.drewN | (refine Ex.setAt ?_ _ ?_; (first | exact Nat.le_refl _ | omega | (simp; omega))) | (apply Ex.after; assumption))), (by repeat (first | assumption | (refine Box.new_at _ _ _ _ ?_; (first | rfl | omega | (simp; done))) | apply Box.alloc | apply Box.set | (refine Box.aside ?_ _ ?_; omega) | (apply Box.later; assumption) | rfl)), k + 1, o, by omega, by go_num, (by repeat (first | assumption | (refine Box.new_at _ _ _ _ ?_; (first | rfl | omega | (simp; done))) | apply Box.alloc | apply Box.set | (refine Box.aside ?_ _ ?_; omega) | (apply Box.later; assumption) | rfl)), by rw [hz.out, HD.out]; simp [grF, HK.out, Hid, hc]⟩
        · go_wp2_with (first | (go_at_call 25; refine (lessB_r _ _ _ _ _).mono ?_; rintro e w_lessB_r ⟨rfl, hb_lessB_r⟩; have hr_lessB_r := hb_lessB_r.rules; obtain ⟨hc_lessB_r, hf_lessB_r⟩ := hr_lessB_r; have hs_lessB_r := hb_lessB_r.sz; (try simp only [World.size_alloc, World.size_setCell, World.size_drew] at hs_lessB_r); have hz0_lessB_r : w.heap.size < w_lessB_r.heap.size := (by omega); have hz1_lessB_r : w.heap.size + 1 < w_lessB_r.heap.size := (by omega); have hz2_lessB_r : b < w_lessB_r.heap.size := (by omega); have hz3_lessB_r : wr.heap.size < w_lessB_r.heap.size := (by omega)))
          go_roundg (gk - 1)
          case measure => omega
          case rel => exact ⟨(by repeat (first | exact Ex.refl _ | assumption | apply Ex.alloc | apply Ex.drew | apply Ex.drewN | (refine Ex.setAt ?_ _ ?_; (first | exact Nat.le_refl _ | omega | (simp; omega))) | (apply Ex.after; assumption))), (by repeat (first | assumption | (refine Box.new_at _ _ _ _ ?_; (first | rfl | omega | (simp; done))) | apply Box.alloc | apply Box.set | (refine Box.aside ?_ _ ?_; omega) | (apply Box.later; assumption) | rfl)), k + 1, nth l k, by omega, by go_num, (by repeat (first | assumption | (refine Box.new_at _ _ _ _ ?_; (first | rfl | omega | (simp; done))) | apply Box.alloc | apply Box.set | (refine Box.aside ?_ _ ?_; omega) | (apply Box.later; assumption) | rfl)), by rw [hz.out, HD.out]; simp [grF, HK.out, Hid, hc]⟩
    · have c2 := br.cell 0 _ rfl
      have c3 := br.cell 1 _ rfl
      have f2 := br.free 0
      have f3 := br.free 1
      have e : greatest l = o := by rw [hz.out, List.drop_of_length_le (by omega)]; rfl
      have HE := Lib.hid e; clear e
      go_wp2
      exact bodyPost_ret (v := .agg #[.int .i64 o.c, .string o.v]) (by simp [results, Try.results35, go_sem, c2, c3]) rfl ⟨by rw [HE.out], (by repeat (first | exact Ex.refl _ | assumption | apply Ex.alloc | apply Ex.drew | apply Ex.drewN | (refine Ex.setAt ?_ _ ?_; (first | exact Nat.le_refl _ | omega | (simp; omega))) | (apply Ex.after; assumption)))⟩

def encB (x : Ball) : List Value := [.int .i64 x.c, .string x.v]
/-- Greatest at a slice that reads as the list l. -/
theorem gre_p (a : Option Addr) (len cap : Nat) (l : List Ball) (w : World) (hlen : l.length = len) (hl : len ≤ 1000000) (hx : Sl w encB 2 a l) :
    Calls Try.prog 29 #[.slice a len cap] w fun e w' => e = .returned (.agg #[.int .i64 (greatest l).c, .string (greatest l).v]) ∧ Ex w w' := by
  subst hlen
  rcases hx with rfl | ⟨b, off, rfl, hb, hc⟩
  · go_enter Try.func29, Try.ntmps29
    go_wp2
    go_rounds 1
    exact bodyPost_ret (v := .agg #[.int .i64 0, .string ⟨#[]⟩]) (by simp [results, Try.results29, go_sem]) rfl ⟨by simp [greatest, grF], (by repeat (first | exact Ex.refl _ | assumption | apply Ex.alloc | apply Ex.drew | apply Ex.drewN | (refine Ex.setAt ?_ _ ?_; (first | exact Nat.le_refl _ | omega | (simp; omega))) | (apply Ex.after; assumption)))⟩
  · refine gr_p b off cap l w hl hb (fun i hi => ⟨?_, ?_⟩)
    · exact hc i 0 hi (by omega)
    · exact hc i 1 hi (by omega)
theorem gre_r (a : Option Addr) (len cap : Nat) (l : List Ball) (w : World) (hlen : l.length = len) (hl : len ≤ 1000000) (hx : Sl w encB 2 a l) :
    Calls Try.prog 35 #[.slice a len cap] w fun e w' => e = .returned (.agg #[.int .i64 (greatest l).c, .string (greatest l).v]) ∧ Ex w w' := by
  subst hlen
  rcases hx with rfl | ⟨b, off, rfl, hb, hc⟩
  · go_enter Try.func35, Try.ntmps35
    go_wp2
    go_rounds 1
    exact bodyPost_ret (v := .agg #[.int .i64 0, .string ⟨#[]⟩]) (by simp [results, Try.results35, go_sem]) rfl ⟨by simp [greatest, grF], (by repeat (first | exact Ex.refl _ | assumption | apply Ex.alloc | apply Ex.drew | apply Ex.drewN | (refine Ex.setAt ?_ _ ?_; (first | exact Nat.le_refl _ | omega | (simp; omega))) | (apply Ex.after; assumption)))⟩
  · refine gr_r b off cap l w hl hb (fun i hi => ⟨?_, ?_⟩)
    · exact hc i 0 hi (by omega)
    · exact hc i 1 hi (by omega)
end Go.Proofs.Ytfhipecfamecaaa
