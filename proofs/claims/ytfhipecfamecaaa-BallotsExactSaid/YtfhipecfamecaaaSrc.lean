/- Contracts of the source of numbers and of what is drawn from it: each gives some value of its range, and changes nothing that was there but the source. -/
import Derived.Test.YtfhipecfamecaaaCmp
namespace Go.Proofs.Ytfhipecfamecaaa
set_option linter.unusedSimpArgs false
set_option linter.unusedVariables false
set_option linter.unnecessarySimpa false
set_option linter.unusedSectionVars false
open Go.RowKit Go.Proofs.Grow Go.Sort

/-- A source of numbers: a list of at most 800 numbers, and how many of them have been given out. -/
def Src (w : World) (b : Nat) : Prop := ∃ (a : Option Addr) (len cap i : Nat), Box w b [.slice a len cap, .int .i64 i] 68 ∧ i ≤ len ∧ len ≤ 800 ∧
  ∀ j, j < len → ∃ (c off : Nat) (n : Int), a = some ⟨c, off, none⟩ ∧ c < b ∧ w.cell? ⟨c, off + j, none⟩ = some (.int .i64 n) ∧ -9223372036854775808 ≤ n ∧ n ≤ 9223372036854775807
theorem Src.lt {w : World} {b : Nat} (h : Src w b) : b < w.heap.size := by obtain ⟨_, _, _, _, hb, _⟩ := h; exact hb.lt
theorem Src.ex {w w' : World} {b : Nat} (h : Src w b) (hx : Ex w w') : Src w' b := by
  obtain ⟨a, len, cap, i, hb, h1, h2, h3⟩ := h
  refine ⟨a, len, cap, i, hb.ex hx, h1, h2, fun j hj => ?_⟩
  obtain ⟨c, off, n, rfl, hc, hcell, hn⟩ := h3 j hj
  exact ⟨c, off, n, rfl, hc, by rw [hx.rules.1 c _ (cell_lt hcell)]; exact hcell, hn⟩
theorem Src.later {w w' : World} {b : Nat} (hx : Ex w w') (h : Src w b) : Src w' b := h.ex hx
theorem Src.alloc {w : World} {b : Nat} (h : Src w b) (o : Obj) : Src (w.alloc o) b := h.ex ((Ex.refl w).alloc o)
theorem Src.drew {w : World} {b : Nat} (h : Src w b) : Src w.drew b := h.ex (Ex.refl w).drew
theorem Src.setNew {w : World} {b d o : Nat} (hd : b < d) (v : Value) (h : Src w b) : Src (w.setCell ⟨d, o, none⟩ v) b := by
  obtain ⟨a, len, cap, i, hb, h1, h2, h3⟩ := h
  refine ⟨a, len, cap, i, hb.aside (by omega) v, h1, h2, fun j hj => ?_⟩
  obtain ⟨c, off, n, rfl, hc, hcell, hn⟩ := h3 j hj
  refine ⟨c, off, n, rfl, hc, ?_, hn⟩
  have hne : d ≠ c := by omega
  simp only [World.cell?, World.setCell] at *
  rw [Array.getElem?_modify, if_neg hne]; exact hcell

/-- The call gives a number of which P holds; nothing has changed but block b, which is a source still. -/
def Draws (b : Nat) (w : World) (P : Value → Prop) (e : Ending) (w' : World) : Prop := ∃ v, e = .returned v ∧ P v ∧ Exb b w w' ∧ Src w' b
def IsI (lo hi : Int) (v : Value) : Prop := ∃ k : Int, v = .int .i64 k ∧ lo ≤ k ∧ k ≤ hi

set_option maxHeartbeats 1000000 in
theorem draw_N (b : Nat) (n : Int) (w : World) (hs : Src w b) (hn : 1 ≤ n) (hn2 : n ≤ 1000000000000) :
    Calls Try.prog 28 #[.pointer (some ⟨b, 0, none⟩), .int .i64 n] w (Draws b w (IsI 0 (n - 1))) := by
  obtain ⟨a, len, cap, i, hb, h1, h2, h3⟩ := hs
  have c0 := hb.cell 0 _ rfl
  have c1 := hb.cell 1 _ rfl
  have f1 := hb.free 1
  have hn0 : ¬ n < 1 := by omega
  by_cases hi : i < len
  · obtain ⟨c, off, x, rfl, hcb, hcell, hx1, hx2⟩ := h3 i hi
    have hc : c ≠ b := by omega
    have H3 := Lib.hid h3; clear h3
    have d1 : decide ((len : Int) ≤ (i : Int)) = false := by simp; omega
    have d2 : decide (n < 1) = false := by simp; omega
    go_enter Try.func28, Try.ntmps28
    go_wp2
    go_quiet (fail)
    go_wp2
    go_quiet (fail)
    go_wp2
    go_ret
    have hd := draw_bd x n hn hn2
    refine ⟨_, rfl, ⟨_, rfl, hd.1, hd.2⟩, ((((Exb.refl b w).drewN _).set _ _).drewN _), _, len, cap, i + 1, Box.drewN (Box.set (Box.drewN hb _) 1 _ rfl) _, by omega, h2, fun j hj => ?_⟩
    obtain ⟨c', off', n', e, hc', hcell', hn'⟩ := H3.out j hj
    refine ⟨c', off', n', e, hc', ?_, hn'⟩
    exact ((Exb.drewN (Exb.set _ _ (Exb.drewN (Exb.refl b w) _)) _).rules.1 c' (off' + j) (cell_lt hcell') (by omega)).trans hcell'
  · have d1 : decide ((len : Int) ≤ (i : Int)) = true := by simp; omega
    have H3 := Lib.hid h3; clear h3
    go_enter Try.func28, Try.ntmps28
    go_wp2
    go_quiet (fail)
    go_wp2
    go_ret
    exact ⟨_, rfl, ⟨0, rfl, Int.le_refl _, by omega⟩, (Exb.refl b w).drewN _, _, len, cap, i, hb, h1, h2, fun j hj => H3.out j hj⟩

theorem draw_Range (b : Nat) (lo hi : Int) (w : World) (hs : Src w b) (h1 : -1000000 ≤ lo) (h2 : lo ≤ hi) (h3 : hi ≤ 1000000) :
    Calls Try.prog 44 #[.pointer (some ⟨b, 0, none⟩), .int .i64 lo, .int .i64 hi] w (Draws b w (IsI lo hi)) := by
  go_enter Try.func44, Try.ntmps44
  go_wp2_with fail
  refine (draw_N b _ _ hs (by omega) (by omega)).mono ?_
  rintro e w1 ⟨_, rfl, ⟨k, rfl, hk0, hk1⟩, hx, hsrc⟩
  go_wp2
  go_ret
  exact ⟨_, rfl, ⟨_, rfl, by omega, by omega⟩, hx, hsrc⟩

theorem draw_Pick (P : Value → Prop) (b c len cap : Nat) (vs : List Value) (w : World) (hs : Src w b) (hb : Box w c vs 3) (hc : c ≠ b) (hl : vs.length = len) (h0 : 1 ≤ len) (h1 : len ≤ 1000)
    (hP : ∀ v, v ∈ vs → P v ∧ ∃ n, v = .int .i64 n) :
    Calls Try.prog 69 #[.pointer (some ⟨b, 0, none⟩), .slice (some ⟨c, 0, none⟩) len cap] w (Draws b w P) := by
  have HL := Lib.hid hl; clear hl
  have HP := Lib.hid hP; clear hP
  go_enter Try.func69, Try.ntmps69
  go_wp2_with fail
  refine (draw_N b _ _ hs (by omega) (by omega)).mono ?_
  rintro e w1 ⟨_, rfl, ⟨k, rfl, hk0, hk1⟩, hx, hsrc⟩
  obtain ⟨j, rfl⟩ := Int.eq_ofNat_of_zero_le hk0
  have hj : j < vs.length := by rw [HL.out]; omega
  have hb1 := hb.exb hx hc
  obtain ⟨hPv, n, hn⟩ := HP.out vs[j] (List.getElem_mem hj)
  have hcell := hb1.cell j (.int .i64 n) (by rw [List.getElem?_eq_getElem hj, hn])
  rw [hn] at hPv
  clear hn hb hb1
  go_wp2
  go_ret
  exact ⟨_, rfl, hPv, hx, hsrc⟩

theorem draw_Text (P : Value → Prop) (b c len cap : Nat) (vs : List Value) (w : World) (hs : Src w b) (hb : Box w c vs 9) (hc : c ≠ b) (hl : vs.length = len) (h0 : 1 ≤ len) (h1 : len ≤ 1000)
    (hP : ∀ v, v ∈ vs → P v ∧ ∃ n, v = .string n) :
    Calls Try.prog 68 #[.pointer (some ⟨b, 0, none⟩), .slice (some ⟨c, 0, none⟩) len cap] w (Draws b w P) := by
  have HL := Lib.hid hl; clear hl
  have HP := Lib.hid hP; clear hP
  go_enter Try.func68, Try.ntmps68
  go_wp2_with fail
  refine (draw_N b _ _ hs (by omega) (by omega)).mono ?_
  rintro e w1 ⟨_, rfl, ⟨k, rfl, hk0, hk1⟩, hx, hsrc⟩
  obtain ⟨j, rfl⟩ := Int.eq_ofNat_of_zero_le hk0
  have hj : j < vs.length := by rw [HL.out]; omega
  have hb1 := hb.exb hx hc
  obtain ⟨hPv, n, hn⟩ := HP.out vs[j] (List.getElem_mem hj)
  have hcell := hb1.cell j (.string n) (by rw [List.getElem?_eq_getElem hj, hn])
  rw [hn] at hPv
  clear hn hb hb1
  go_wp2
  go_ret
  exact ⟨_, rfl, hPv, hx, hsrc⟩

/-- A string of one or two bytes. -/
def IsS (v : Value) : Prop := ∃ s : ByteArray, v = .string s ∧ 1 ≤ s.size ∧ s.size ≤ 2
theorem draw_Value (b : Nat) (w : World) (hs : Src w b) :
    Calls Try.prog 16 #[.pointer (some ⟨b, 0, none⟩)] w (Draws b w IsS) := by
  have hbl := hs.lt
  go_enter Try.func16, Try.ntmps16
  go_wp2_with fail
  refine (draw_Text IsS b _ 4 _ _ _ (by repeat (first | assumption | apply Src.alloc | apply Src.drew | (apply Src.later; assumption))) (Box.new _ _ _) (by omega) rfl (by omega) (by omega) ?_).mono ?_
  · intro v hv
    simp only [List.mem_cons, List.not_mem_nil, or_false] at hv
    rcases hv with rfl | rfl | rfl | rfl
    all_goals exact ⟨⟨_, rfl, by decide, by decide⟩, _, rfl⟩
  rintro e w1 ⟨_, rfl, ⟨s, rfl, h1, h2⟩, hx, hsrc⟩
  go_wp2
  go_ret
  exact ⟨_, rfl, ⟨_, rfl, h1, h2⟩, (by repeat (first | exact Exb.refl _ _ | assumption | apply Exb.alloc | apply Exb.drew | apply Exb.drewN | (apply Exb.setNew; (first | exact Nat.le_refl _ | omega | (simp; omega))) | (apply Exb.after; assumption) | (apply Exb.afterx; assumption))), hsrc⟩

/-- A ballot with a counter in a range and a short value. -/
def IsB (lo hi : Int) (v : Value) : Prop := ∃ (c : Int) (s : ByteArray), v = .agg #[.int .i64 c, .string s] ∧ lo ≤ c ∧ c ≤ hi ∧ 1 ≤ s.size ∧ s.size ≤ 2
theorem draw_Low (b : Nat) (w : World) (hs : Src w b) :
    Calls Try.prog 15 #[.pointer (some ⟨b, 0, none⟩)] w (Draws b w (IsB 1 6)) := by
  have hbl := hs.lt
  go_enter Try.func15, Try.ntmps15
  go_wp2_with fail
  refine (draw_Range b _ _ _ (by repeat (first | assumption | apply Src.alloc | apply Src.drew | (apply Src.later; assumption))) (by omega) (by omega) (by omega)).mono ?_
  rintro e w1 ⟨_, rfl, ⟨k, rfl, hk0, hk1⟩, hx, hsrc⟩
  go_wp2_with fail
  refine (draw_Value b _ (by repeat (first | assumption | apply Src.alloc | apply Src.drew | (apply Src.later; assumption)))).mono ?_
  rintro e w2 ⟨_, rfl, ⟨s, rfl, h1, h2⟩, hx2, hsrc2⟩
  have hbx : Box w2 w.heap.size _ _ := ((Box.new w _ _).exb hx (by omega)).exb hx2 (by omega)
  have c0 := hbx.cell 0 _ rfl
  have c1 := hbx.cell 1 _ rfl
  have f0 := hbx.free 0
  have f1 := hbx.free 1
  go_wp2
  exact bodyPost_ret (v := .agg #[.int .i64 k, .string s]) (by simp [results, Try.results15, go_sem, c0, c1]) rfl ⟨_, rfl, ⟨_, _, rfl, hk0, hk1, h1, h2⟩, (by repeat (first | exact Exb.refl _ _ | assumption | apply Exb.alloc | apply Exb.drew | apply Exb.drewN | (apply Exb.setNew; (first | exact Nat.le_refl _ | omega | (simp; omega))) | (apply Exb.after; assumption) | (apply Exb.afterx; assumption))), .setNew (by omega) _ (.setNew (by omega) _ hsrc2)⟩
theorem draw_Ballot (b : Nat) (w : World) (hs : Src w b) :
    Calls Try.prog 20 #[.pointer (some ⟨b, 0, none⟩)] w (Draws b w (IsB 1 1000000)) := by
  have hbl := hs.lt
  go_enter Try.func20, Try.ntmps20
  go_wp2_with fail
  refine (draw_Pick (IsI 1 1000000) b _ 7 _ _ _ (by repeat (first | assumption | apply Src.alloc | apply Src.drew | (apply Src.later; assumption))) (by repeat (first | assumption | (refine Box.new_at _ _ _ _ ?_; (first | rfl | omega | (simp; done))) | apply Box.alloc | apply Box.set | (refine Box.aside ?_ _ ?_; omega) | (apply Box.later; assumption) | rfl)) (by omega) rfl (by omega) (by omega) ?_).mono ?_
  · intro v hv
    simp only [List.mem_cons, List.not_mem_nil, or_false] at hv
    rcases hv with rfl | rfl | rfl | rfl | rfl | rfl | rfl
    all_goals exact ⟨⟨_, rfl, by decide, by decide⟩, _, rfl⟩
  rintro e w1 ⟨_, rfl, ⟨k, rfl, hk0, hk1⟩, hx, hsrc⟩
  go_wp2_with fail
  refine (draw_Value b _ (by repeat (first | assumption | apply Src.alloc | apply Src.drew | (apply Src.later; assumption)))).mono ?_
  rintro e w2 ⟨_, rfl, ⟨s, rfl, h1, h2⟩, hx2, hsrc2⟩
  have hbx : Box w2 w.heap.size _ _ := (((Box.new w _ _).alloc _).exb hx (by omega)).exb hx2 (by omega)
  have c0 := hbx.cell 0 _ rfl
  have c1 := hbx.cell 1 _ rfl
  have f0 := hbx.free 0
  have f1 := hbx.free 1
  go_wp2
  exact bodyPost_ret (v := .agg #[.int .i64 k, .string s]) (by simp [results, Try.results20, go_sem, c0, c1]) rfl ⟨_, rfl, ⟨_, _, rfl, hk0, hk1, h1, h2⟩, (by repeat (first | exact Exb.refl _ _ | assumption | apply Exb.alloc | apply Exb.drew | apply Exb.drewN | (apply Exb.setNew; (first | exact Nat.le_refl _ | omega | (simp; omega))) | (apply Exb.after; assumption) | (apply Exb.afterx; assumption))), .setNew (by omega) _ (.setNew (by omega) _ hsrc2)⟩

theorem draw_Odd (b : Nat) (w : World) (hs : Src w b) :
    Calls Try.prog 36 #[.pointer (some ⟨b, 0, none⟩)] w (Draws b w (IsI (-9223372036854775808) 9223372036854775807)) := by
  have hbl := hs.lt
  go_enter Try.func36, Try.ntmps36
  go_wp2_with fail
  refine (draw_Pick (IsI (-9223372036854775808) 9223372036854775807) b _ 15 _ _ _ (by repeat (first | assumption | apply Src.alloc | apply Src.drew | (apply Src.later; assumption))) (by repeat (first | assumption | (refine Box.new_at _ _ _ _ ?_; (first | rfl | omega | (simp; done))) | apply Box.alloc | apply Box.set | (refine Box.aside ?_ _ ?_; omega) | (apply Box.later; assumption) | rfl)) (by omega) rfl (by omega) (by omega) ?_).mono ?_
  · intro v hv
    simp only [List.mem_cons, List.not_mem_nil, or_false] at hv
    rcases hv with rfl | rfl | rfl | rfl | rfl | rfl | rfl | rfl | rfl | rfl | rfl | rfl | rfl | rfl | rfl
    all_goals exact ⟨⟨_, rfl, by decide, by decide⟩, _, rfl⟩
  rintro e w1 ⟨_, rfl, ⟨k, rfl, hk0, hk1⟩, hx, hsrc⟩
  go_wp2
  go_ret
  exact ⟨_, rfl, ⟨_, rfl, hk0, hk1⟩, (by repeat (first | exact Exb.refl _ _ | assumption | apply Exb.alloc | apply Exb.drew | apply Exb.drewN | (apply Exb.setNew; (first | exact Nat.le_refl _ | omega | (simp; omega))) | (apply Exb.after; assumption) | (apply Exb.afterx; assumption))), hsrc⟩

/-- What is told of a slice of integers that came in. -/
def IsRow (k : IntKind) (w : World) (a : Option Addr) (len cap : Nat) (zs : List Int) : Prop :=
  (a = none ∧ len = 0 ∧ cap = 0 ∧ zs = []) ∨
  ∃ x, a = some x ∧ len ≤ cap ∧ cap ≤ maxLen ∧ zs.length = cap ∧ (∀ i, i < zs.length → w.cell? (x.add i) = some (.int k (zs.getD i 0))) ∧ ∀ n ∈ zs, (Lit.int k n).wf = true
def MakesSrc (w : World) (e : Ending) (w' : World) : Prop := ∃ b, e = .returned (.pointer (some ⟨b, 0, none⟩)) ∧ w.heap.size ≤ b ∧ Ex w w' ∧ Src w' b
set_option maxHeartbeats 1000000 in
theorem make_Src (a : Option Addr) (len cap : Nat) (zs : List Int) (w : World) (h : IsRow .i64 w a len cap zs) :
    Calls Try.prog 14 #[.slice a len cap] w (MakesSrc w) := by
  by_cases hl : len = 0
  · subst hl
    have hm : cap ≤ maxLen := by
      rcases h with ⟨_, _, rfl, _⟩ | ⟨x, _, _, hm, _⟩
      · decide
      · exact hm
    unfold maxLen at hm
    go_enter Try.func14, Try.ntmps14
    go_wp2
    go_ret
    exact ⟨w.heap.size, rfl, Nat.le_refl _, (by repeat (first | exact Ex.refl _ | assumption | apply Ex.alloc | apply Ex.drew | apply Ex.drewN | (refine Ex.setAt ?_ _ ?_; (first | exact Nat.le_refl _ | omega | (simp; omega))) | (apply Ex.after; assumption))), _, 0, _, 0, Box.new _ [_, _] _, Nat.le_refl _, by omega, fun j hj => by omega⟩
  · rcases h with ⟨rfl, rfl, rfl, rfl⟩ | ⟨⟨c, off, spot⟩, rfl, hlc, hm, hz, hcell, hwz⟩
    · exact absurd rfl hl
    have hz0 := hcell 0 (by omega)
    have hspot : spot = none := by simpa [Addr.add] using World.cell?_spot hz0
    subst hspot
    have hj : ∀ j, j < len → c < w.heap.size ∧ w.cell? ⟨c, off + j, none⟩ = some (.int .i64 (zs.getD j 0)) ∧ -9223372036854775808 ≤ zs.getD j 0 ∧ zs.getD j 0 ≤ 9223372036854775807 := by
      intro j hj
      have h1 := hcell j (by omega)
      have h2 : w.cell? ⟨c, off + j, none⟩ = some (.int .i64 (zs.getD j 0)) := by
        rw [← h1]
        by_cases hj0 : j = 0
        · subst hj0; simp [Addr.add]
        · simp [Addr.add, hj0]
      have h3 := hwz (zs.getD j 0) (by rw [List.getD_eq_getElem?_getD, List.getElem?_eq_getElem (by omega : j < zs.length)]; exact List.getElem_mem _)
      exact ⟨cell_lt h2, h2, by simpa [Lit.wf, IntKind.min, IntKind.max, IntKind.bits, IntKind.signed] using h3⟩
    have HJ := Lib.hid hj
    clear hj hcell hwz hz0
    unfold maxLen at hm
    by_cases hb : len ≤ 800
    all_goals
      go_enter Try.func14, Try.ntmps14
      go_wp2
      go_ret
      refine ⟨w.heap.size, rfl, Nat.le_refl _, (by repeat (first | exact Ex.refl _ | assumption | apply Ex.alloc | apply Ex.drew | apply Ex.drewN | (refine Ex.setAt ?_ _ ?_; (first | exact Nat.le_refl _ | omega | (simp; omega))) | (apply Ex.after; assumption))), some ⟨c, off, none⟩, _, _, 0, Box.new _ [_, _] _, Nat.zero_le _, by omega, fun j hj => ?_⟩
      obtain ⟨h1, h2, h3⟩ := HJ.out j (by omega)
      exact ⟨c, off, _, rfl, h1, by rw [(((Ex.refl w).alloc _).rules.1 c _ h1)]; exact h2, h3⟩
end Go.Proofs.Ytfhipecfamecaaa
