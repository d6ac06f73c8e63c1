/- The statements on offers: the example, and what all of them use. -/
import Derived.Test.YteppnjgobaggaaaGreatWG
import Derived.Test.YteppnjgobaggaaaGreatPM
import Derived.Test.YteppnjgobaggaaaGreatPlainU
import Derived.Test.YteppnjgobaggaaaGreatWO6
import Derived.Test.YteppnjgobaggaaaGreatAmY
import Derived.Test.YteppnjgobaggaaaGreatWR5
namespace Go.Proofs.YteppnjgobaggaaaGreat
set_option linter.unusedSimpArgs false
set_option linter.unusedVariables false
set_option linter.unnecessarySimpa false
set_option linter.unusedSectionVars false
set_option maxRecDepth 100000
open Go Go.RowKit Go.Am Go.Proofs.Grow

theorem ledz_e (s : Sc) (t : Led × Sc) (hs : s.ok) (he : ledF s = t) : FnM Tryz.prog 16 [s.box] [.ptr 9000 0] (aG t.1) [t.2.box] := he ▸ led_m s hs
theorem Book_pe (g : Led) (u : ByteArray) (i : Int) (v : ByteArray) (j : Int) (l : List Int) (hl : g.lins.length ≤ 1000) (ha : g.accs.length ≤ 1000) (ho : g.offs.length ≤ 12) (he : bookI g u i v j = l) : FnM Tryz.prog 28 [] [aG g, aT u i, aT v j] (lI l) [] := he ▸ Book_pm g u i v j hl ha ho
theorem add_re (g : Led) (a : Int) (u : ByteArray) (i : Int) (v : ByteArray) (j n p q : Int) (x : Led) (k e : Int) (hl : g.lins.length ≤ 1000) (ha : g.accs.length ≤ 1000) (ho : g.offs.length ≤ 1000) (he : addO g a u i v j n p q = (x, k, e)) :
    FnM Tryz.prog 43 [] [aG g, vI a, aT u i, aT v j, vI n, vI p, vI q] (.tup [aG x, vI k, vI e]) [] := by
  have := add_rm g a u i v j n p q hl ha ho
  rwa [he] at this
abbrev bU : ByteArray := ⟨#[85, 83, 68]⟩
abbrev bN : ByteArray := ⟨#[]⟩
abbrev l21 : List Int := [2, 1]
def mk0 : Led := ⟨0, [⟨1, 5, 0⟩, ⟨2, 100, 0⟩], [⟨2, bU, 1, 0, 50⟩], [], 1, 0, 0⟩
def mk1 : Led := ⟨0, [⟨1, 5, 0⟩, ⟨2, 100, 0⟩], [⟨2, bU, 1, 0, 50⟩], [⟨1, 1, bU, 1, bN, 0, 10, 1, 1⟩], 2, 0, 0⟩
def mk2 : Led := ⟨0, [⟨1, 5, 0⟩, ⟨2, 100, 0⟩], [⟨2, bU, 1, 0, 50⟩], [⟨1, 1, bU, 1, bN, 0, 10, 1, 1⟩, ⟨2, 1, bU, 1, bN, 0, 10, 1, 2⟩], 3, 0, 0⟩
def mk3 : Led := ⟨0, [⟨1, 15, 0⟩, ⟨2, 90, 0⟩], [⟨2, bU, 1, 15, 50⟩], [⟨1, 1, bU, 1, bN, 0, 5, 1, 1⟩], 3, 0, 0⟩
theorem ex38 : addO mk0 1 bU 1 bN 0 10 1 1 = (mk1, 1, 0) ∧ addO mk1 1 bU 1 bN 0 10 1 2 = (mk2, 2, 0) ∧ takeO mk2 2 bU 1 bN 0 15 100 = (mk3, 15, 10, 0) ∧ bookI mk2 bU 1 bN 0 = l21 ∧ heldF mk3 2 bU 1 = 15 :=
  ⟨by kernel_rfl, by kernel_rfl, by kernel_rfl, by kernel_rfl, by kernel_rfl⟩
set_option maxHeartbeats 1000000 in
theorem market_m : FnM Tryz.prog 67 [] [] (aG mk2) [] := by
  refine FnM.of htb Tryz.func67 rfl rfl rfl rfl rfl fun cx hN h0 => ?_
  obtain ⟨e1, e2, _⟩ := ex38
  (repeat' (first | ((with_reducible apply WD_id); first | (refine WD_sum ?_) | (refine WD_nxt htb (by exact rfl) ?_) | (refine WD_unk (by exact rfl) ?_; first | (refine WD_t (by exact rfl) (by exact rfl) (by exact known) fun hb => ?_; rw [hb]; clear hb) | (refine WD_f (by exact rfl) (by exact rfl) (by exact known) fun hb => ?_; rw [hb]; clear hb) | ((refine WD_tf (by exact rfl) (by exact rfl) ?_ ?_) <;> (intro hb; (fail_if_success (with_reducible injection hb)); rw [hb]; (try simp only [List.length_map] at hb)))) | (refine WD_call (by exact rfl) ?_; first | (refine WD_c0 (usd_m) ?_) | (refine WD_e0 (fun h => add_re (g := mk0) (x := mk1) _ _ _ _ _ _ _ _ _ _ ?_ ?_ ?_ h) ?_; (exact hypS); (exact hypS); (exact hypS)) | (refine WD_e0 (fun h => add_re (g := mk1) (x := mk2) _ _ _ _ _ _ _ _ _ _ ?_ ?_ ?_ h) ?_; (exact hypS); (exact hypS); (exact hypS))) | (refine WD_idx htb ?_) | (refine WD_idxo htb ?_) | (refine WD_lde1 htb ?_) | (refine WD_lde htb ?_) | (refine WD_ste htb ?_) | (refine WD_ap htb ?_) | (refine WD_ap0 htb ?_) | (refine WD_nil htb ?_) | (refine WD_nilr htb ?_) | (refine WD_rem ?_) | (refine WD_quo ?_) | (refine WD_slc htb ?_) | (refine WD_ixa htb ?_) | (refine WD_ix1 htb ?_) | (refine WD_t (by exact rfl) (by exact rfl) (by exact known) fun hb => ?_; rw [hb]; clear hb) | (refine WD_f (by exact rfl) (by exact rfl) (by exact known) fun hb => ?_; rw [hb]; clear hb) | ((refine WD_tf (by exact rfl) (by exact rfl) ?_ ?_) <;> (intro hb; (fail_if_success (with_reducible injection hb)); rw [hb]; (try simp only [List.length_map] at hb)))) | (with_reducible apply WA_seq) | ((with_reducible apply gR hmix hN); exact (by kernel_rfl); (try dsimp only [List.append_eq, List.cons_append, List.nil_append])) | ((with_reducible apply WD_end); (first | exact no_draw | (intro _; kernel_rfl)); try simp only [thn, inB, List.length_map, List.cons_append, List.nil_append]) | ((with_reducible apply gCt); exact rfl; exact rfl) | ((with_reducible apply gCf); exact rfl; exact rfl) | ((with_reducible apply gCk); exact rfl; exact known; intro hb; rw [hb]; clear hb) | ((with_reducible apply gCn); exact rfl; exact known; intro hb; rw [hb]; clear hb) | (((with_reducible apply gC2); exact rfl) <;> (intro hb; rw [hb])) | (with_reducible apply WA_block) | ((with_reducible first | apply WA_skip | apply WA_ret | apply WA_exit | apply WA_label); try simp only [thn, inB, List.length_map, List.cons_append, List.nil_append])))
  exact gE (.inr rfl) rfl rfl trivial
set_option maxHeartbeats 1000000 in
theorem sane38_m : FnM Tryz.prog 21 [] [] (vB true) [] := by
  refine FnM.of htb Tryz.func21 rfl rfl rfl rfl rfl fun cx hN h0 => ?_
  obtain ⟨_, _, e3, e4, e5⟩ := ex38
  have t2 : ((l21.length : Int) == 2) = true := by rfl
  have t3 : (nth l21 0 == 2) = true := by rfl
  have t4 : (nth l21 1 == 1) = true := by rfl
  have t5 : ((mk3.offs.length : Int) == 1) = true := by rfl
  have t1 : (heldF mk3 2 bU 1 == 15) = true := by rw [e5]; rfl
  (repeat' (first | ((with_reducible apply WD_id); first | (refine WD_sum ?_) | (refine WD_nxt htb (by exact rfl) ?_) | (refine WD_unk (by exact rfl) ?_; first | (refine WD_t (by exact rfl) (by exact rfl) (by exact known) fun hb => ?_; rw [hb]; clear hb) | (refine WD_f (by exact rfl) (by exact rfl) (by exact known) fun hb => ?_; rw [hb]; clear hb) | ((refine WD_tf (by exact rfl) (by exact rfl) ?_ ?_) <;> (intro hb; (fail_if_success (with_reducible injection hb)); rw [hb]; (try simp only [List.length_map] at hb)))) | (refine WD_call (by exact rfl) ?_; first | (refine WD_c0 (market_m) ?_) | (refine WD_c0 (usd_m) ?_) | (refine WD_e0 (fun h => take_pe (g := mk2) (x := mk3) (p := 15) (c := 10) (e := 0) _ _ _ _ _ _ _ ?_ ?_ ?_ h) ?_; (exact hypS); (exact hypS); (exact hypS)) | (refine WD_e0 (fun h => Book_pe (g := mk2) (l := l21) _ _ _ _ ?_ ?_ ?_ h) ?_; (exact hypS); (exact hypS); (exact hypS)) | (refine WD_c0 (held_rm (g := mk3) _ _ _ ?_ ?_) ?_; (exact hypS); (exact hypS))) | (refine WD_row htb l21 rI ?_ (hn := by first | (exact by decide) | (simp only [l21, List.length_cons, List.length_nil]; omega))) | (refine WD_idx htb ?_) | (refine WD_idxo htb ?_) | (refine WD_lde1 htb ?_) | (refine WD_lde htb ?_) | (refine WD_ste htb ?_) | (refine WD_ap htb ?_) | (refine WD_ap0 htb ?_) | (refine WD_nil htb ?_) | (refine WD_nilr htb ?_) | (refine WD_rem ?_) | (refine WD_quo ?_) | (refine WD_slc htb ?_) | (refine WD_ixa htb ?_) | (refine WD_ix1 htb ?_) | (refine WD_t (by exact rfl) (by exact rfl) (by exact known) fun hb => ?_; rw [hb]; clear hb) | (refine WD_f (by exact rfl) (by exact rfl) (by exact known) fun hb => ?_; rw [hb]; clear hb) | ((refine WD_tf (by exact rfl) (by exact rfl) ?_ ?_) <;> (intro hb; (fail_if_success (with_reducible injection hb)); rw [hb]; (try simp only [List.length_map] at hb)))) | (with_reducible apply WA_seq) | ((with_reducible apply gR hmix hN); exact (by kernel_rfl); (try dsimp only [List.append_eq, List.cons_append, List.nil_append])) | ((with_reducible apply WD_end); (first | exact no_draw | (intro _; kernel_rfl)); try simp only [thn, inB, List.length_map, List.cons_append, List.nil_append]) | ((with_reducible apply gCt); exact rfl; exact rfl) | ((with_reducible apply gCf); exact rfl; exact rfl) | ((with_reducible apply gCk); exact rfl; exact known; intro hb; rw [hb]; clear hb) | ((with_reducible apply gCn); exact rfl; exact known; intro hb; rw [hb]; clear hb) | (((with_reducible apply gC2); exact rfl) <;> (intro hb; rw [hb])) | (with_reducible apply WA_block) | ((with_reducible first | apply WA_skip | apply WA_ret | apply WA_exit | apply WA_label); try simp only [thn, inB, List.length_map, List.cons_append, List.nil_append])))
  exact gE (.inr rfl) rfl (congrArg vB t1) trivial
end Go.Proofs.YteppnjgobaggaaaGreat
