/- AmountExact: the walk of the statement. -/
import Derived.Test.YtfhipecfamecaaaSrcB
import Derived.Deep.RegionHeld3
import Derived.Test.YtfhipecfamecaaaS35
namespace Go.Proofs.Ytfhipecfamecaaa
set_option linter.unusedSimpArgs false
set_option linter.unusedVariables false
set_option linter.unnecessarySimpa false
set_option linter.unusedSectionVars false
open Go.RowKit Go.Proofs.Grow Go.Sort

theorem IsRow.ex {k : IntKind} {w w' : World} {a : Option Addr} {len cap : Nat} {zs : List Int} (h : IsRow k w a len cap zs) (hx : Ex w w') : IsRow k w' a len cap zs := by
  rcases h with h | ⟨x, e, h1, h2, h3, h4, h5⟩
  · exact .inl h
  · refine .inr ⟨x, e, h1, h2, h3, fun i hi => ?_, h5⟩
    have hc := h4 i hi
    have hs := World.cell?_spot (h4 0 (by omega))
    obtain ⟨c, o, s⟩ := x
    have hs2 : s = none := by simpa [Addr.add] using hs
    subst hs2
    have he : (⟨c, o, none⟩ : Addr).add i = ⟨c, o + i, none⟩ := by by_cases h0 : i = 0 <;> simp [Addr.add, h0]
    rw [he] at hc ⊢
    rw [hx.rules.1 c _ (cell_lt hc)]; exact hc

theorem seven (n0 n1 n2 n3 n4 n5 n6 : Int) (k : Nat) (h : k < 7) : ∃ n : Int, [Value.int .i64 n0, .int .i64 n1, .int .i64 n2, .int .i64 n3, .int .i64 n4, .int .i64 n5, .int .i64 n6][k]? = some (.int .i64 n) := by
  match k, h with
  | 0, _ => exact ⟨_, rfl⟩
  | 1, _ => exact ⟨_, rfl⟩
  | 2, _ => exact ⟨_, rfl⟩
  | 3, _ => exact ⟨_, rfl⟩
  | 4, _ => exact ⟨_, rfl⟩
  | 5, _ => exact ⟨_, rfl⟩
  | 6, _ => exact ⟨_, rfl⟩
theorem tmod7 (k : Nat) (j : Int) (hj : 0 ≤ j) : ∃ m : Nat, m < 7 ∧ ((k : Int) + j).tmod 7 = (m : Int) := by
  refine ⟨(((k : Int) + j) % 7).toNat, by omega, ?_⟩
  rw [Int.tmod_eq_emod_of_nonneg (by omega)]; omega

theorem four (u v s t : ByteArray) (i j p q : Int) (k : Nat) (h : k < 4) : ∃ (x : ByteArray) (n : Int), ∀ w, (Instr.index 65 (.agg #[.string u, .int .i64 i, .string v, .int .i64 j, .string s, .int .i64 p, .string t, .int .i64 q]) (.int .i64 k)).run Try.prog w = .ok (.agg #[.string x, .int .i64 n]) w := by
  match k, h with
  | 0, _ => exact ⟨u, i, fun w => by kernel_rfl⟩
  | 1, _ => exact ⟨v, j, fun w => by kernel_rfl⟩
  | 2, _ => exact ⟨s, p, fun w => by kernel_rfl⟩
  | 3, _ => exact ⟨t, q, fun w => by kernel_rfl⟩

set_option maxRecDepth 100000 in
set_option maxHeartbeats 4000000 in
theorem law_AmountExact (a0 : Option Addr) (len0 cap0 : Nat) (z0 : List Int) (a1 a2 a3 a4 : Int) (u : ByteArray) (i : Int) (v : ByteArray) (j : Int) (w : World) (w0 : IsRow .i64 w a0 len0 cap0 z0)
    (w1 : (Lit.int .i64 a1).wf = true) (w2 : (Lit.int .i64 a2).wf = true) (w3 : (Lit.int .i64 a3).wf = true) (w4 : (Lit.int .i64 a4).wf = true)
    (w5 : u.size ≤ maxLen) (x5 : (Lit.int .i64 i).wf = true) (w6 : v.size ≤ maxLen) (x6 : (Lit.int .i64 j).wf = true) :
    Calls Try.prog 13 #[.slice a0 len0 cap0, .int .i64 a1, .int .i64 a2, .int .i64 a3, .int .i64 a4, .agg #[.string u, .int .i64 i], .agg #[.string v, .int .i64 j]] w fun e w' => e = .returned (.bool true) ∧ Ex w w' := by
  have h1 : -9223372036854775808 ≤ a1 ∧ a1 ≤ 9223372036854775807 := by simpa [Lit.wf, IntKind.min, IntKind.max, IntKind.bits, IntKind.signed] using w1
  have h2 : -9223372036854775808 ≤ a2 ∧ a2 ≤ 9223372036854775807 := by simpa [Lit.wf, IntKind.min, IntKind.max, IntKind.bits, IntKind.signed] using w2
  have h3 : -9223372036854775808 ≤ a3 ∧ a3 ≤ 9223372036854775807 := by simpa [Lit.wf, IntKind.min, IntKind.max, IntKind.bits, IntKind.signed] using w3
  have h4 : -9223372036854775808 ≤ a4 ∧ a4 ≤ 9223372036854775807 := by simpa [Lit.wf, IntKind.min, IntKind.max, IntKind.bits, IntKind.signed] using w4
  clear w1 w2 w3 w4 x5 x6
  unfold maxLen at w5 w6
  by_cases hu : (60 : Int) < (u.size : Int)
  · go_enter Try.func13, Try.ntmps13
    go_wp2_with (first | (go_at_call 33; refine (sane35 _).mono ?_; rintro e w_sane35 ⟨rfl, hb_sane35⟩; have hr_sane35 := hb_sane35.rules; obtain ⟨hc_sane35, hf_sane35⟩ := hr_sane35; have hs_sane35 := hb_sane35.sz; (try simp only [World.size_alloc, World.size_setCell, World.size_drew] at hs_sane35)))
    go_ret
    exact ⟨rfl, (by repeat (first | exact Ex.refl _ | assumption | apply Ex.alloc | apply Ex.drew | apply Ex.drewN | (refine Ex.setAt ?_ _ ?_; (first | exact Nat.le_refl _ | omega | (simp; omega))) | (apply Ex.after; assumption)))⟩
  · by_cases hv : (60 : Int) < (v.size : Int)
    · go_enter Try.func13, Try.ntmps13
      go_wp2_with (first | (go_at_call 33; refine (sane35 _).mono ?_; rintro e w_sane35 ⟨rfl, hb_sane35⟩; have hr_sane35 := hb_sane35.rules; obtain ⟨hc_sane35, hf_sane35⟩ := hr_sane35; have hs_sane35 := hb_sane35.sz; (try simp only [World.size_alloc, World.size_setCell, World.size_drew] at hs_sane35)))
      go_ret
      exact ⟨rfl, (by repeat (first | exact Ex.refl _ | assumption | apply Ex.alloc | apply Ex.drew | apply Ex.drewN | (refine Ex.setAt ?_ _ ?_; (first | exact Nat.le_refl _ | omega | (simp; omega))) | (apply Ex.after; assumption)))⟩
    · go_enter Try.func13, Try.ntmps13
      go_wp2_with fail
      refine (make_Src _ _ _ _ _ (w0.ex (((Ex.refl w).alloc _).alloc _))).mono ?_
      rintro e w1 ⟨b, rfl, hwb, hx1, hs1⟩
      have hbl := hs1.lt
      go_wp2_with fail
      refine (draw_Odd b _ (by repeat (first | assumption | apply Src.alloc | apply Src.drew | (apply Src.later; assumption)))).mono ?_
      rintro e w2 ⟨_, rfl, ⟨n5, rfl, b1, b2⟩, hx2, hs2⟩
      go_wp2_with fail
      refine (draw_Odd b _ (by repeat (first | assumption | apply Src.alloc | apply Src.drew | (apply Src.later; assumption)))).mono ?_
      rintro e w3 ⟨_, rfl, ⟨n6, rfl, b3, b4⟩, hx3, hs3⟩
      go_wp2_with fail
      refine (draw_Range b _ _ _ (by repeat (first | assumption | apply Src.alloc | apply Src.drew | (apply Src.later; assumption))) (by omega) (by omega) (by omega)).mono ?_
      rintro e w4 ⟨_, rfl, ⟨n7, rfl, b5, b6⟩, hx4, hs4⟩
      go_wp2_with fail
      have hz4 := hs4.lt
      go_loopg [58] 7 (fun m i wr => Ex (w4.alloc (.cells #[.int .i64 a1, .int .i64 a2, .int .i64 a3, .int .i64 a4, .int .i64 n5, .int .i64 n6, .int .i64 n7] 3)) wr ∧ ∃ k : Nat, k + m = 7 ∧ i = .int .i64 k)
      case atStart => exact ⟨Ex.refl _, 0, by omega, rfl⟩
      case round =>
        obtain ⟨hxr, k, hk, rfl⟩ := hrel
        have bz : Box wr w4.heap.size [.int .i64 a1, .int .i64 a2, .int .i64 a3, .int .i64 a4, .int .i64 n5, .int .i64 n6, .int .i64 n7] 3 := (Box.new w4 [_, _, _, _, _, _, _] _).ex hxr
        by_cases hlt : k < 7
        · obtain ⟨x0, e0⟩ := seven a1 a2 a3 a4 n5 n6 n7 k hlt
          obtain ⟨m1, l1, t1⟩ := tmod7 k 1 (by omega)
          obtain ⟨m2, l2, t2⟩ := tmod7 k 2 (by omega)
          obtain ⟨m3, l3, t3⟩ := tmod7 k 3 (by omega)
          obtain ⟨x1, e1⟩ := seven a1 a2 a3 a4 n5 n6 n7 m1 l1
          obtain ⟨x2, e2⟩ := seven a1 a2 a3 a4 n5 n6 n7 m2 l2
          obtain ⟨x3, e3⟩ := seven a1 a2 a3 a4 n5 n6 n7 m3 l3
          have c0 := bz.cell k _ e0
          have c1 := bz.cell m1 _ e1
          have c2 := bz.cell m2 _ e2
          have c3 := bz.cell m3 _ e3
          have i1 : (m1 : Int) < 7 := by omega
          have i2 : (m2 : Int) < 7 := by omega
          have i3 : (m3 : Int) < 7 := by omega
          have s1 : IntKind.i64.wrap ((k : Int) + 1) = (k : Int) + 1 := IntWalk.i64_in _ (by omega)
          have s2 : IntKind.i64.wrap ((k : Int) + 2) = (k : Int) + 2 := IntWalk.i64_in _ (by omega)
          have s3 : IntKind.i64.wrap ((k : Int) + 3) = (k : Int) + 3 := IntWalk.i64_in _ (by omega)
          clear e0 e1 e2 e3 bz
          go_wp2
          go_quiet (fail)
          clear s1 s2 s3 c0 c1 c2 c3 t1 t2 t3 i1 i2 i3
          go_wp2_with (first | (go_at_call 48; refine (add_p _ _ _).mono ?_; rintro e w_add_p ⟨rfl, hb_add_p⟩; have hr_add_p := hb_add_p.rules; obtain ⟨hc_add_p, hf_add_p⟩ := hr_add_p; have hs_add_p := hb_add_p.sz; (try simp only [World.size_alloc, World.size_setCell, World.size_drew] at hs_add_p)) | (go_at_call 54; refine (add_r _ _ _).mono ?_; rintro e w_add_r ⟨rfl, hb_add_r⟩; have hr_add_r := hb_add_r.rules; obtain ⟨hc_add_r, hf_add_r⟩ := hr_add_r; have hs_add_r := hb_add_r.sz; (try simp only [World.size_alloc, World.size_setCell, World.size_drew] at hs_add_r)) | (go_at_call 55; refine (okA_p _ _).mono ?_; rintro e _w ⟨rfl, rfl⟩) | (go_at_call 56; refine (okA_r _ _).mono ?_; rintro e _w ⟨rfl, rfl⟩) | (go_at_call 57; refine (price_p _ _ _).mono ?_; rintro e _w ⟨rfl, rfl⟩) | (go_at_call 58; refine (price_r _ _ _).mono ?_; rintro e _w ⟨rfl, rfl⟩) | (go_at_call 49; refine (sub_p _ _ _).mono ?_; rintro e w_sub_p ⟨rfl, hb_sub_p⟩; have hr_sub_p := hb_sub_p.rules; obtain ⟨hc_sub_p, hf_sub_p⟩ := hr_sub_p; have hs_sub_p := hb_sub_p.sz; (try simp only [World.size_alloc, World.size_setCell, World.size_drew] at hs_sub_p)) | (go_at_call 59; refine (sub_r _ _ _).mono ?_; rintro e w_sub_r ⟨rfl, hb_sub_r⟩; have hr_sub_r := hb_sub_r.rules; obtain ⟨hc_sub_r, hf_sub_r⟩ := hr_sub_r; have hs_sub_r := hb_sub_r.sz; (try simp only [World.size_alloc, World.size_setCell, World.size_drew] at hs_sub_r)) | (go_at_call 46; refine (red_p _ _ _).mono ?_; rintro e w_red_p ⟨rfl, hb_red_p⟩; have hr_red_p := hb_red_p.rules; obtain ⟨hc_red_p, hf_red_p⟩ := hr_red_p; have hs_red_p := hb_red_p.sz; (try simp only [World.size_alloc, World.size_setCell, World.size_drew] at hs_red_p)) | (go_at_call 60; refine (red_r _ _ _).mono ?_; rintro e w_red_r ⟨rfl, hb_red_r⟩; have hr_red_r := hb_red_r.rules; obtain ⟨hc_red_r, hf_red_r⟩ := hr_red_r; have hs_red_r := hb_red_r.sz; (try simp only [World.size_alloc, World.size_setCell, World.size_drew] at hs_red_r)) | (go_at_call 47; refine (cmpP_p _ _ _ _ _).mono ?_; rintro e _w ⟨rfl, rfl⟩) | (go_at_call 61; refine (cmpP_r _ _ _ _ _).mono ?_; rintro e _w ⟨rfl, rfl⟩) | (go_at_call 31; refine (down_p _ _ _ _).mono ?_; rintro e w_down_p ⟨rfl, hb_down_p⟩; have hr_down_p := hb_down_p.rules; obtain ⟨hc_down_p, hf_down_p⟩ := hr_down_p; have hs_down_p := hb_down_p.sz; (try simp only [World.size_alloc, World.size_setCell, World.size_drew] at hs_down_p)) | (go_at_call 62; refine (down_r _ _ _ _).mono ?_; rintro e w_down_r ⟨rfl, hb_down_r⟩; have hr_down_r := hb_down_r.rules; obtain ⟨hc_down_r, hf_down_r⟩ := hr_down_r; have hs_down_r := hb_down_r.sz; (try simp only [World.size_alloc, World.size_setCell, World.size_drew] at hs_down_r)) | (go_at_call 32; refine (up_p _ _ _ _).mono ?_; rintro e w_up_p ⟨rfl, hb_up_p⟩; have hr_up_p := hb_up_p.rules; obtain ⟨hc_up_p, hf_up_p⟩ := hr_up_p; have hs_up_p := hb_up_p.sz; (try simp only [World.size_alloc, World.size_setCell, World.size_drew] at hs_up_p)) | (go_at_call 63; refine (up_r _ _ _ _).mono ?_; rintro e w_up_r ⟨rfl, hb_up_r⟩; have hr_up_r := hb_up_r.rules; obtain ⟨hc_up_r, hf_up_r⟩ := hr_up_r; have hs_up_r := hb_up_r.sz; (try simp only [World.size_alloc, World.size_setCell, World.size_drew] at hs_up_r)))
          go_roundg (gk - 1)
          case measure => omega
          case rel => exact ⟨(by repeat (first | exact Ex.refl _ | assumption | apply Ex.alloc | apply Ex.drew | apply Ex.drewN | (refine Ex.setAt ?_ _ ?_; (first | exact Nat.le_refl _ | omega | (simp; omega))) | (apply Ex.after; assumption))), k + 1, by omega, by go_num⟩
        · have hk7 : 7 ≤ k := by omega
          clear bz
          have hXX : Exb b w1 wr := ((hx2.trans hx3).trans hx4).trans (.of (((Ex.refl w4).alloc _).trans hxr))
          have hX : Ex w wr := Ex.exb (((Ex.refl w).alloc _).alloc _ |>.trans hx1) (by simp at hwb; omega) hXX
          have hb2 : w.heap.size + 2 ≤ b := by simpa using hwb
          have hsr : Src wr b := (hs4.alloc _).ex hxr
          have bu : Box wr w.heap.size [.string u, .int .i64 i] 59 := (((Box.new w [.string u, .int .i64 i] 59).alloc _).ex hx1).exb hXX (by omega)
          have bv : Box wr (w.heap.size + 1) [.string v, .int .i64 j] 59 := ((Box.new_at (w.alloc _) [.string v, .int .i64 j] 59 _ (by simp)).ex hx1).exb hXX (by omega)
          have c0 := bu.cell 0 _ rfl
          have c1 := bu.cell 1 _ rfl
          have d0 := bv.cell 0 _ rfl
          have d1 := bv.cell 1 _ rfl
          have zv := bv.lt
          clear hx1 hx2 hx3 hx4 hs1 hs2 hs3 hs4 hxr hXX b1 b2 b3 b4 b5 b6
          go_wp2_with fail
          go_region_held3 (fun w' => w'.cell? ⟨w.heap.size, 0, none⟩ = some (.string u) ∧ w'.cell? ⟨w.heap.size, 1, none⟩ = some (.int .i64 i) ∧ w'.cell? ⟨w.heap.size + 1, 0, none⟩ = some (.string v) ∧ w'.cell? ⟨w.heap.size + 1, 1, none⟩ = some (.int .i64 j))
            (first | go_keep | (go_split_ands; refine ⟨?_, ?_, ?_, ?_⟩ <;> first | (rw [hxO.rules.1 _ _ (by first | omega | (simp; omega)) (by omega)]; first | assumption | (simp; assumption)) | (rw [hxA.rules.1 _ _ (by first | omega | (simp; omega)) (by omega)]; first | assumption | (simp; assumption))))
            (first
              | (go_at_call 50; refine (draw_AssetT b _ ?_).mono ?_; (exact (by repeat (first | assumption | apply Src.alloc | apply Src.drew | (apply Src.later; assumption)))); rintro e wA ⟨_, rfl, ⟨uA, iA, rfl, qA⟩, hxA, hsA⟩; have zA := hxA.size; (try simp only [World.size_drew] at zA))
              | (go_at_call 64; refine (draw_OddAsset b _ ?_).mono ?_; (exact (by repeat (first | assumption | apply Src.alloc | apply Src.drew | (apply Src.later; assumption)))); rintro e wO ⟨_, rfl, ⟨uO, iO, rfl, qO⟩, hxO, hsO⟩; have zO := hxO.size))
          have hY : Ex w wO := hX.exb (by omega) (((Exb.refl b wr).drew.trans hxA).trans hxO)
          have bu2 : Box wO w.heap.size [.string u, .int .i64 i] 59 := ((bu.drew).exb hxA (by omega)).exb hxO (by omega)
          have zb := bu2.lt
          clear hX hxA hxO hsA hsO bu bv c0 c1 d0 d1 hsr hk7
          go_wp2_with fail
          go_loopg [230] 4 (fun m k wq => Ex wO wq ∧ ∃ n : Nat, n + m = 4 ∧ k = .int .i64 n)
          case atStart => exact ⟨Ex.refl _, 0, by omega, rfl⟩
          case round =>
            obtain ⟨hxq, n, hn, rfl⟩ := hrel
            have bq := bu2.ex hxq
            have c0 := bq.cell 0 _ rfl
            have c1 := bq.cell 1 _ rfl
            have zq := bq.lt
            have zq1 : w.heap.size < wr.heap.size + 1 := by omega
            have zq2 : w.heap.size ≤ wr.heap.size := by omega
            by_cases hlt : n < 4
            · obtain ⟨x, y, hix⟩ := four u v uA uO i j iA iO n hlt
              go_wp2_with fail
              refine wp_region_quiet_below (by kernel_rfl) (by kernel_rfl) ?_
              repeat (quiet_step (first | exact quiet_ex (asset_p _ _ _) | exact quiet_ex (asset_r _ _ _) | exact quiet_ex (lessA_p _ _ _ _ _) | exact quiet_ex (lessA_r _ _ _ _ _) | exact quiet_ex (native_p _ _ _) | exact quiet_ex (native_r _ _ _)))
              refine wpQuiet_nil ?_
              intro wz hz
              have hbz := In.ex hz
              clear hz
              go_wp2
              go_roundg (gk - 1)
              case measure => omega
              case rel => exact ⟨(by repeat (first | exact Ex.refl _ | assumption | apply Ex.alloc | apply Ex.drew | apply Ex.drewN | (refine Ex.setAt ?_ _ ?_; (first | exact Nat.le_refl _ | omega | (simp; omega))) | (apply Ex.after; assumption))), n + 1, by omega, by go_num⟩
            · go_wp2_with (first | (go_at_call 33; refine (sane35 _).mono ?_; rintro e w_sane35 ⟨rfl, hb_sane35⟩; have hr_sane35 := hb_sane35.rules; obtain ⟨hc_sane35, hf_sane35⟩ := hr_sane35; have hs_sane35 := hb_sane35.sz; (try simp only [World.size_alloc, World.size_setCell, World.size_drew] at hs_sane35)))
              go_ret
              exact ⟨rfl, (by repeat (first | exact Ex.refl _ | assumption | apply Ex.alloc | apply Ex.drew | apply Ex.drewN | (refine Ex.setAt ?_ _ ?_; (first | exact Nat.le_refl _ | omega | (simp; omega))) | (apply Ex.after; assumption)))⟩
end Go.Proofs.Ytfhipecfamecaaa
