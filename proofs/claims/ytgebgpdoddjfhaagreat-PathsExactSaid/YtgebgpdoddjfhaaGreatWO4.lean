/- Contracts of the program's functions on offers: using an offer, in each of its four outcomes. -/
import Derived.Test.YtgebgpdoddjfhaaGreatWO3
namespace Go.Proofs.YtgebgpdoddjfhaaGreat
set_option linter.unusedSimpArgs false
set_option linter.unusedVariables false
set_option linter.unnecessarySimpa false
set_option linter.unusedSectionVars false
set_option maxRecDepth 100000
open Go Go.RowKit Go.Am Go.Proofs.Grow

theorem costO_pe (x : Off) (n c : Int) (he : costF x n = (c, 0)) : FnM Tryz.prog 131 [] [aO x, vI n] (.tup [vI c, vI 0]) [] := by
  have := costO_pm x n
  rwa [he] at this
theorem plain3 (la : List Acc) (ll : List Lin) (lo : List Off) (t1 t2 t3 : TypeId) (n1 n2 n3 a l o : Nat) : PlainL [(a, .arr t1 n1 (la.map rA)), (l, .arr t2 n2 (ll.map rL)), (o, .arr t3 n3 (lo.map rO))] := by
  refine ⟨?_, ?_, ?_, trivial⟩ <;> intro r hr c hc <;> obtain ⟨x, _, rfl⟩ := List.mem_map.1 hr
  · simp only [rA, List.mem_cons, List.not_mem_nil, or_false] at hc
    rcases hc with rfl | rfl | rfl <;> rfl
  · simp only [rL, List.mem_cons, List.not_mem_nil, or_false] at hc
    rcases hc with rfl | rfl | rfl | rfl | rfl <;> rfl
  · simp only [rO, List.mem_cons, List.not_mem_nil, or_false] at hc
    rcases hc with rfl | rfl | rfl | rfl | rfl | rfl | rfl | rfl | rfl <;> rfl
/-- What holds ahead of a use: the offer of a number lies at a place. -/
structure AtO (d : Deal) (id : Int) (j : Nat) : Prop where
  right : RightO d.g
  idx : idxO d.g.offs id = (j : Int)
  lt : j < d.g.offs.length
  w0 : 0 ≤ d.want
  w1 : d.want ≤ 1000000000000
  l0 : 0 ≤ d.left
  l1 : d.left ≤ 1000000000000
theorem AtO.lens {d : Deal} {id : Int} {j : Nat} (h : AtO d id j) : d.g.lins.length ≤ 1000 ∧ d.g.accs.length ≤ 1000 ∧ d.g.offs.length ≤ 1000 ∧ chkL d.g.lins d.g.accs = 0 := by
  have h1 := h.right.right.len
  have h2 := h.right.right.accs.1
  have h3 := h.right.len
  exact ⟨by omega, by omega, by omega, chkL_zero.2 h.right.right⟩
/-- The deal behind a purchase, the offer still in its place. -/
def paidD (d : Deal) (z : Led) (j : Nat) (n c : Int) : Deal := ⟨{ z with offs := d.g.offs.set j (cutO (nth d.g.offs j) n) }, d.want - n, d.left - c⟩
structure PaidO (d : Deal) (id : Int) (j : Nat) (n c : Int) (y z : Led) : Prop where
  at_ : AtO d id j
  hn : useN d (nth d.g.offs j) = n
  n0 : 0 < n
  nw : n ≤ d.want
  na : n ≤ (nth d.g.offs j).amt
  am : (nth d.g.offs j).amt ≤ 1000000000000
  c0 : 0 ≤ c
  cl : c ≤ d.left
  s1 : debitF d.g (nth d.g.offs j).seller (nth d.g.offs j).sc (nth d.g.offs j).si n = (y, 0)
  s2 : creditF y (nth d.g.offs j).seller (nth d.g.offs j).bc (nth d.g.offs j).bi c = (z, 0)
  s3 : costF (nth d.g.offs j) n = (c, 0)
  yo : y.offs = d.g.offs
  ya : y.accs.length ≤ 1000
  yl : y.lins.length ≤ 1000
  za : z.accs.length ≤ 1000
  zl : z.lins.length ≤ 1000
  zr : chkL z.lins z.accs = 0
abbrev useMi (d : Deal) : List (Nat × AO) := [(57, .box 132 (dealC d 52)), (52, .arr 76 9 (d.g.offs.map rO))]
set_option maxHeartbeats 1000000 in
theorem useA_pm (d : Deal) (id : Int) (j : Nat) (h : AtO d id j) (hn : useN d (nth d.g.offs j) = 0) (hs : 0 < ablP d.g (nth d.g.offs j)) : FnM Tryz.prog 99 (useMi d) [.ptr 57 0, vI id] (vB false) (useMi d) := by
  refine FnM.of htb Tryz.func99 rfl rfl rfl rfl rfl fun cx hN h0 => ?_
  obtain ⟨h1, h2, h3, h4⟩ := h.lens
  have hj := h.idx
  have hjl := h.lt
  have b1 := h.l0
  have b2 := h.l1
  (repeat' (first | (refine nx ?_) | (refine WD_unk (by exact rfl) ?_; ((refine WD_tf (by exact rfl) (by exact rfl) ?_ ?_) <;> (intro hb; (fail_if_success (with_reducible injection hb)); rw [hb]; (try simp only [List.length_map] at hb)))) | (refine WD_call (by exact rfl) ?_; first | (refine WD_c0 (place_pm _ _ ?_) ?_; (exact hyp))) | ((with_reducible apply WD_id); first | (refine WD_cut htb ?_) | (refine WD_cut3 htb ?_) | (refine WD_lens htb ?_) | (refine WD_caps htb ?_) | (refine WD_cps htb ?_) | (refine WD_cpp htb ?_) | (refine WD_api htb ?_) | (refine WD_apz htb ?_) | (refine WD_clr htb ?_)) | ((refine WD_tf (by exact rfl) (by exact rfl) ?_ ?_) <;> (intro hb; (fail_if_success (with_reducible injection hb)); rw [hb]; (try simp only [List.length_map] at hb))) | (((with_reducible apply gC2); exact rfl) <;> (intro hb; rw [hb]))))
  rw [hj]
  rw [Int.toNat_natCast]
  (repeat' (first | (refine nx ?_) | (refine WD_unk (by exact rfl) ?_; ((refine WD_tf (by exact rfl) (by exact rfl) ?_ ?_) <;> (intro hb; (fail_if_success (with_reducible injection hb)); rw [hb]; (try simp only [List.length_map] at hb)))) | (refine WD_call (by exact rfl) ?_; first | (refine WD_c0 (able_pm _ _ ?_ ?_ ?_) ?_; (exact hyp); (exact hyp); (exact hyp)) | (refine WD_c0 (within_pm _ _ ?_ ?_) ?_; (exact hyp); (exact hyp))) | ((with_reducible apply WD_id); first | (refine WD_cut htb ?_) | (refine WD_cut3 htb ?_) | (refine WD_lens htb ?_) | (refine WD_caps htb ?_) | (refine WD_cps htb ?_) | (refine WD_cpp htb ?_) | (refine WD_api htb ?_) | (refine WD_apz htb ?_) | (refine WD_clr htb ?_)) | ((refine WD_tf (by exact rfl) (by exact rfl) ?_ ?_) <;> (intro hb; (fail_if_success (with_reducible injection hb)); rw [hb]; (try simp only [List.length_map] at hb))) | (((with_reducible apply gC2); exact rfl) <;> (intro hb; rw [hb]))))
  refine WD_min3 ?_
  rw [show min2 (min2 d.want (ablP d.g (nth d.g.offs j))) (withinF (nth d.g.offs j) d.left) = 0 from hn]
  have t1 : decide (ablP d.g (nth d.g.offs j) > 0) = true := by simpa using hs
  (repeat' (first | (refine nx ?_) | (refine WD_unk (by exact rfl) ?_; ((refine WD_tf (by exact rfl) (by exact rfl) ?_ ?_) <;> (intro hb; (fail_if_success (with_reducible injection hb)); rw [hb]; (try simp only [List.length_map] at hb)))) | (refine WD_call (by exact rfl) ?_; first | (refine WD_c0 (able_pm _ _ ?_ ?_ ?_) ?_; (exact hyp); (exact hyp); (exact hyp))) | ((with_reducible apply WD_id); first | (refine WD_cut htb ?_) | (refine WD_cut3 htb ?_) | (refine WD_lens htb ?_) | (refine WD_caps htb ?_) | (refine WD_cps htb ?_) | (refine WD_cpp htb ?_) | (refine WD_api htb ?_) | (refine WD_apz htb ?_) | (refine WD_clr htb ?_)) | ((refine WD_tf (by exact rfl) (by exact rfl) ?_ ?_) <;> (intro hb; (fail_if_success (with_reducible injection hb)); rw [hb]; (try simp only [List.length_map] at hb))) | (((with_reducible apply gC2); exact rfl) <;> (intro hb; rw [hb]))))
  exact gE (.inr rfl) rfl rfl ⟨rfl, rfl, trivial⟩
abbrev useMc (d' : Deal) (l : List Off) : List (Nat × AO) := [(61, .arr 76 9 (d'.g.offs.map rO)), (57, .box 132 (dealC d' 61)), (52, .dead)]
set_option maxHeartbeats 1000000 in
theorem useC_pm (d : Deal) (id : Int) (j : Nat) (h : AtO d id j) (hn : useN d (nth d.g.offs j) = 0) (hs : ablP d.g (nth d.g.offs j) = 0) : FnM Tryz.prog 99 (useMi d) [.ptr 57 0, vI id] (vB true) [(61, .arr 76 9 ((d.g.offs.eraseIdx j).map rO)), (57, .box 132 (dealC d 61)), (52, .dead)] := by
  refine FnM.of htb Tryz.func99 rfl rfl rfl rfl rfl fun cx hN h0 => ?_
  obtain ⟨h1, h2, h3, h4⟩ := h.lens
  have hj := h.idx
  have hjl := h.lt
  have b1 := h.l0
  have b2 := h.l1
  (repeat' (first | (refine nx ?_) | (refine WD_unk (by exact rfl) ?_; ((refine WD_tf (by exact rfl) (by exact rfl) ?_ ?_) <;> (intro hb; (fail_if_success (with_reducible injection hb)); rw [hb]; (try simp only [List.length_map] at hb)))) | (refine WD_call (by exact rfl) ?_; first | (refine WD_c0 (place_pm _ _ ?_) ?_; (exact hyp))) | ((with_reducible apply WD_id); first | (refine WD_cut htb ?_) | (refine WD_cut3 htb ?_) | (refine WD_lens htb ?_) | (refine WD_caps htb ?_) | (refine WD_cps htb ?_) | (refine WD_cpp htb ?_) | (refine WD_api htb ?_) | (refine WD_apz htb ?_) | (refine WD_clr htb ?_)) | ((refine WD_tf (by exact rfl) (by exact rfl) ?_ ?_) <;> (intro hb; (fail_if_success (with_reducible injection hb)); rw [hb]; (try simp only [List.length_map] at hb))) | (((with_reducible apply gC2); exact rfl) <;> (intro hb; rw [hb]))))
  rw [hj]
  rw [Int.toNat_natCast]
  (repeat' (first | (refine nx ?_) | (refine WD_unk (by exact rfl) ?_; ((refine WD_tf (by exact rfl) (by exact rfl) ?_ ?_) <;> (intro hb; (fail_if_success (with_reducible injection hb)); rw [hb]; (try simp only [List.length_map] at hb)))) | (refine WD_call (by exact rfl) ?_; first | (refine WD_c0 (able_pm _ _ ?_ ?_ ?_) ?_; (exact hyp); (exact hyp); (exact hyp)) | (refine WD_c0 (within_pm _ _ ?_ ?_) ?_; (exact hyp); (exact hyp))) | ((with_reducible apply WD_id); first | (refine WD_cut htb ?_) | (refine WD_cut3 htb ?_) | (refine WD_lens htb ?_) | (refine WD_caps htb ?_) | (refine WD_cps htb ?_) | (refine WD_cpp htb ?_) | (refine WD_api htb ?_) | (refine WD_apz htb ?_) | (refine WD_clr htb ?_)) | ((refine WD_tf (by exact rfl) (by exact rfl) ?_ ?_) <;> (intro hb; (fail_if_success (with_reducible injection hb)); rw [hb]; (try simp only [List.length_map] at hb))) | (((with_reducible apply gC2); exact rfl) <;> (intro hb; rw [hb]))))
  refine WD_min3 ?_
  rw [show min2 (min2 d.want (ablP d.g (nth d.g.offs j))) (withinF (nth d.g.offs j) d.left) = 0 from hn]
  have t1 : decide (ablP d.g (nth d.g.offs j) > 0) = false := by rw [hs]; rfl
  (repeat' (first | (refine nx ?_) | (refine WD_unk (by exact rfl) ?_; ((refine WD_tf (by exact rfl) (by exact rfl) ?_ ?_) <;> (intro hb; (fail_if_success (with_reducible injection hb)); rw [hb]; (try simp only [List.length_map] at hb)))) | (refine WD_call (by exact rfl) ?_; first | (refine WD_c0 (able_pm _ _ ?_ ?_ ?_) ?_; (exact hyp); (exact hyp); (exact hyp)) | (refine WD_cM (delO52_pm (l := d.g.offs) (i := j) ?_ ?_) ?_; (exact hyp); (exact hyp))) | ((with_reducible apply WD_id); first | (refine WD_cut htb ?_) | (refine WD_cut3 htb ?_) | (refine WD_lens htb ?_) | (refine WD_caps htb ?_) | (refine WD_cps htb ?_) | (refine WD_cpp htb ?_) | (refine WD_api htb ?_) | (refine WD_apz htb ?_) | (refine WD_clr htb ?_)) | ((refine WD_tf (by exact rfl) (by exact rfl) ?_ ?_) <;> (intro hb; (fail_if_success (with_reducible injection hb)); rw [hb]; (try simp only [List.length_map] at hb))) | (((with_reducible apply gC2); exact rfl) <;> (intro hb; rw [hb]))))
  exact gE (.inr rfl) rfl rfl ⟨rfl, rfl, rfl, trivial⟩
/-- The rows of the offers, one of them cut. -/
theorem cut_rows (l : List Off) (j : Nat) (n : Int) : (l.map rO).set j [dI (nth l j).id, dI (nth l j).seller, dS (nth l j).sc, dI (nth l j).si, dS (nth l j).bc, dI (nth l j).bi, dI ((nth l j).amt - n), dI (nth l j).num, dI (nth l j).den] = (l.set j (cutO (nth l j) n)).map rO := by rw [List.map_set]; rfl
set_option maxHeartbeats 2000000 in
theorem useB_pm (d : Deal) (id : Int) (j : Nat) (n c : Int) (y z : Led) (h : PaidO d id j n c y z) (hs : 0 < ablP z (cutO (nth d.g.offs j) n)) : FnM Tryz.prog 99 (useMi d) [.ptr 57 0, vI id] (vB false)
    [(54, .arr 76 9 ((paidD d z j n c).g.offs.map rO)), (57, .box 132 (dealC (paidD d z j n c) 54)), (52, .arr 76 9 (d.g.offs.map rO))] := by
  refine FnM.of htb Tryz.func99 rfl rfl rfl rfl rfl fun cx hN h0 => ?_
  obtain ⟨h1, h2, h3, h4⟩ := h.at_.lens
  have hj := h.at_.idx
  have hjl := h.at_.lt
  have b1 := h.at_.l0
  have b2 := h.at_.l1
  have b3 := h.at_.w1
  obtain ⟨_, hn, n0, nw, na, am, c0, cl, s1, s2, s3, yo, ya, yl, za, zl, zr⟩ := h
  (repeat' (first | (refine nx ?_) | (refine WD_unk (by exact rfl) ?_; ((refine WD_tf (by exact rfl) (by exact rfl) ?_ ?_) <;> (intro hb; (fail_if_success (with_reducible injection hb)); rw [hb]; (try simp only [List.length_map] at hb)))) | (refine WD_call (by exact rfl) ?_; first | (refine WD_c0 (place_pm _ _ ?_) ?_; (exact hyp))) | ((with_reducible apply WD_id); first | (refine WD_cut htb ?_) | (refine WD_cut3 htb ?_) | (refine WD_lens htb ?_) | (refine WD_caps htb ?_) | (refine WD_cps htb ?_) | (refine WD_cpp htb ?_) | (refine WD_api htb ?_) | (refine WD_apz htb ?_) | (refine WD_clr htb ?_)) | ((refine WD_tf (by exact rfl) (by exact rfl) ?_ ?_) <;> (intro hb; (fail_if_success (with_reducible injection hb)); rw [hb]; (try simp only [List.length_map] at hb))) | (((with_reducible apply gC2); exact rfl) <;> (intro hb; rw [hb]))))
  rw [hj]
  rw [Int.toNat_natCast]
  (repeat' (first | (refine nx ?_) | (refine WD_unk (by exact rfl) ?_; ((refine WD_tf (by exact rfl) (by exact rfl) ?_ ?_) <;> (intro hb; (fail_if_success (with_reducible injection hb)); rw [hb]; (try simp only [List.length_map] at hb)))) | (refine WD_call (by exact rfl) ?_; first | (refine WD_c0 (able_pm _ _ ?_ ?_ ?_) ?_; (exact hyp); (exact hyp); (exact hyp)) | (refine WD_c0 (within_pm _ _ ?_ ?_) ?_; (exact hyp); (exact hyp))) | ((with_reducible apply WD_id); first | (refine WD_cut htb ?_) | (refine WD_cut3 htb ?_) | (refine WD_lens htb ?_) | (refine WD_caps htb ?_) | (refine WD_cps htb ?_) | (refine WD_cpp htb ?_) | (refine WD_api htb ?_) | (refine WD_apz htb ?_) | (refine WD_clr htb ?_)) | ((refine WD_tf (by exact rfl) (by exact rfl) ?_ ?_) <;> (intro hb; (fail_if_success (with_reducible injection hb)); rw [hb]; (try simp only [List.length_map] at hb))) | (((with_reducible apply gC2); exact rfl) <;> (intro hb; rw [hb]))))
  refine WD_min3 ?_
  rw [show min2 (min2 d.want (ablP d.g (nth d.g.offs j))) (withinF (nth d.g.offs j) d.left) = n from hn]
  have t0 : decide (n > 0) = true := by simpa using n0
  have yo3 : y.offs.length ≤ 1000 := by rw [yo]; exact h3
  (repeat' (first | (refine nx ?_) | (refine WD_unk (by exact rfl) ?_; ((refine WD_tf (by exact rfl) (by exact rfl) ?_ ?_) <;> (intro hb; (fail_if_success (with_reducible injection hb)); rw [hb]; (try simp only [List.length_map] at hb)))) | (refine WD_call (by exact rfl) ?_; first | (refine WD_e0 (fun h => costO_pe _ _ _ h) ?_)) | ((with_reducible apply WD_id); first | (refine WD_cut htb ?_) | (refine WD_cut3 htb ?_) | (refine WD_lens htb ?_) | (refine WD_caps htb ?_) | (refine WD_cps htb ?_) | (refine WD_cpp htb ?_) | (refine WD_api htb ?_) | (refine WD_apz htb ?_) | (refine WD_clr htb ?_)) | ((refine WD_tf (by exact rfl) (by exact rfl) ?_ ?_) <;> (intro hb; (fail_if_success (with_reducible injection hb)); rw [hb]; (try simp only [List.length_map] at hb))) | (((with_reducible apply gC2); exact rfl) <;> (intro hb; rw [hb]))))
  refine WD_call (by exact rfl) ?_
  refine WD_eM (fun h => debitO_pe _ _ _ _ _ y ?_ ?_ ?_ h) ?_ (hcv := by exact Or.inr ⟨cvs, rfl, plain3 _ _ _ _ _ _ _ _ _ _ _ _⟩)
  · exact h1
  · exact h2
  · exact h3
  (repeat' (first | (refine nx ?_) | (refine WD_unk (by exact rfl) ?_; ((refine WD_tf (by exact rfl) (by exact rfl) ?_ ?_) <;> (intro hb; (fail_if_success (with_reducible injection hb)); rw [hb]; (try simp only [List.length_map] at hb)))) | ((with_reducible apply WD_id); first | (refine WD_cut htb ?_) | (refine WD_cut3 htb ?_) | (refine WD_lens htb ?_) | (refine WD_caps htb ?_) | (refine WD_cps htb ?_) | (refine WD_cpp htb ?_) | (refine WD_api htb ?_) | (refine WD_apz htb ?_) | (refine WD_clr htb ?_)) | ((refine WD_tf (by exact rfl) (by exact rfl) ?_ ?_) <;> (intro hb; (fail_if_success (with_reducible injection hb)); rw [hb]; (try simp only [List.length_map] at hb))) | (((with_reducible apply gC2); exact rfl) <;> (intro hb; rw [hb]))))
  have er : List.map rO d.g.offs = List.map rO y.offs := by rw [yo]
  rw [er]
  refine WD_call (by exact rfl) ?_
  refine WD_eM (fun h => creditO_pe y _ _ _ _ z ?_ ?_ ?_ h) ?_ (hcv := by exact Or.inr ⟨cvs, rfl, plain3 _ _ _ _ _ _ _ _ _ _ _ _⟩)
  · exact yl
  · exact ya
  · exact yo3
  rw [← er]
  have cr := cut_rows d.g.offs j n
  (repeat' (first | (refine nx ?_) | (refine WD_unk (by exact rfl) ?_; ((refine WD_tf (by exact rfl) (by exact rfl) ?_ ?_) <;> (intro hb; (fail_if_success (with_reducible injection hb)); rw [hb]; (try simp only [List.length_map] at hb)))) | ((with_reducible apply WD_id); first | (refine WD_cut htb ?_) | (refine WD_cut3 htb ?_) | (refine WD_lens htb ?_) | (refine WD_caps htb ?_) | (refine WD_cps htb ?_) | (refine WD_cpp htb ?_) | (refine WD_api htb ?_) | (refine WD_apz htb ?_) | (refine WD_clr htb ?_)) | ((refine WD_tf (by exact rfl) (by exact rfl) ?_ ?_) <;> (intro hb; (fail_if_success (with_reducible injection hb)); rw [hb]; (try simp only [List.length_map] at hb))) | (((with_reducible apply gC2); exact rfl) <;> (intro hb; rw [hb]))))
  rw [cr]
  have zl' : ({ z with offs := d.g.offs.set j (cutO (nth d.g.offs j) n) } : Led).lins.length ≤ 1000 := zl
  have za' : ({ z with offs := d.g.offs.set j (cutO (nth d.g.offs j) n) } : Led).accs.length ≤ 1000 := za
  have zr' : chkL ({ z with offs := d.g.offs.set j (cutO (nth d.g.offs j) n) } : Led).lins ({ z with offs := d.g.offs.set j (cutO (nth d.g.offs j) n) } : Led).accs = 0 := zr
  have t1 : decide (ablP { z with offs := d.g.offs.set j (cutO (nth d.g.offs j) n) } (cutO (nth d.g.offs j) n) > 0) = true := by rw [ablP_offs]; simpa using hs
  (repeat' (first | (refine nx ?_) | (refine WD_unk (by exact rfl) ?_; ((refine WD_tf (by exact rfl) (by exact rfl) ?_ ?_) <;> (intro hb; (fail_if_success (with_reducible injection hb)); rw [hb]; (try simp only [List.length_map] at hb)))) | (refine WD_call (by exact rfl) ?_; first | (refine WD_c0 (able_pm (g := { z with offs := d.g.offs.set j (cutO (nth d.g.offs j) n) }) (x := cutO (nth d.g.offs j) n) ?_ ?_ ?_) ?_; (exact hyp); (exact hyp); (exact hyp))) | ((with_reducible apply WD_id); first | (refine WD_cut htb ?_) | (refine WD_cut3 htb ?_) | (refine WD_lens htb ?_) | (refine WD_caps htb ?_) | (refine WD_cps htb ?_) | (refine WD_cpp htb ?_) | (refine WD_api htb ?_) | (refine WD_apz htb ?_) | (refine WD_clr htb ?_)) | ((refine WD_tf (by exact rfl) (by exact rfl) ?_ ?_) <;> (intro hb; (fail_if_success (with_reducible injection hb)); rw [hb]; (try simp only [List.length_map] at hb))) | (((with_reducible apply gC2); exact rfl) <;> (intro hb; rw [hb]))))
  (exact glV [(4, vB false)] [(54, .arr 76 9 ((paidD d z j n c).g.offs.map rO)), (57, .box 132 (dealC (paidD d z j n c) 54)), (52, .arr 76 9 (d.g.offs.map rO))] (LeV []))
set_option maxHeartbeats 2000000 in
theorem useD_pm (d : Deal) (id : Int) (j : Nat) (n c : Int) (y z : Led) (h : PaidO d id j n c y z) (hs : ablP z (cutO (nth d.g.offs j) n) = 0) : FnM Tryz.prog 99 (useMi d) [.ptr 57 0, vI id] (vB true)
    [(61, .arr 76 9 ((d.g.offs.eraseIdx j).map rO)), (57, .box 132 (dealC (paidD d z j n c) 61)), (52, .arr 76 9 (d.g.offs.map rO))] := by
  refine FnM.of htb Tryz.func99 rfl rfl rfl rfl rfl fun cx hN h0 => ?_
  obtain ⟨h1, h2, h3, h4⟩ := h.at_.lens
  have hj := h.at_.idx
  have hjl := h.at_.lt
  have b1 := h.at_.l0
  have b2 := h.at_.l1
  have b3 := h.at_.w1
  obtain ⟨_, hn, n0, nw, na, am, c0, cl, s1, s2, s3, yo, ya, yl, za, zl, zr⟩ := h
  (repeat' (first | (refine nx ?_) | (refine WD_unk (by exact rfl) ?_; ((refine WD_tf (by exact rfl) (by exact rfl) ?_ ?_) <;> (intro hb; (fail_if_success (with_reducible injection hb)); rw [hb]; (try simp only [List.length_map] at hb)))) | (refine WD_call (by exact rfl) ?_; first | (refine WD_c0 (place_pm _ _ ?_) ?_; (exact hyp))) | ((with_reducible apply WD_id); first | (refine WD_cut htb ?_) | (refine WD_cut3 htb ?_) | (refine WD_lens htb ?_) | (refine WD_caps htb ?_) | (refine WD_cps htb ?_) | (refine WD_cpp htb ?_) | (refine WD_api htb ?_) | (refine WD_apz htb ?_) | (refine WD_clr htb ?_)) | ((refine WD_tf (by exact rfl) (by exact rfl) ?_ ?_) <;> (intro hb; (fail_if_success (with_reducible injection hb)); rw [hb]; (try simp only [List.length_map] at hb))) | (((with_reducible apply gC2); exact rfl) <;> (intro hb; rw [hb]))))
  rw [hj]
  rw [Int.toNat_natCast]
  (repeat' (first | (refine nx ?_) | (refine WD_unk (by exact rfl) ?_; ((refine WD_tf (by exact rfl) (by exact rfl) ?_ ?_) <;> (intro hb; (fail_if_success (with_reducible injection hb)); rw [hb]; (try simp only [List.length_map] at hb)))) | (refine WD_call (by exact rfl) ?_; first | (refine WD_c0 (able_pm _ _ ?_ ?_ ?_) ?_; (exact hyp); (exact hyp); (exact hyp)) | (refine WD_c0 (within_pm _ _ ?_ ?_) ?_; (exact hyp); (exact hyp))) | ((with_reducible apply WD_id); first | (refine WD_cut htb ?_) | (refine WD_cut3 htb ?_) | (refine WD_lens htb ?_) | (refine WD_caps htb ?_) | (refine WD_cps htb ?_) | (refine WD_cpp htb ?_) | (refine WD_api htb ?_) | (refine WD_apz htb ?_) | (refine WD_clr htb ?_)) | ((refine WD_tf (by exact rfl) (by exact rfl) ?_ ?_) <;> (intro hb; (fail_if_success (with_reducible injection hb)); rw [hb]; (try simp only [List.length_map] at hb))) | (((with_reducible apply gC2); exact rfl) <;> (intro hb; rw [hb]))))
  refine WD_min3 ?_
  rw [show min2 (min2 d.want (ablP d.g (nth d.g.offs j))) (withinF (nth d.g.offs j) d.left) = n from hn]
  have t0 : decide (n > 0) = true := by simpa using n0
  have yo3 : y.offs.length ≤ 1000 := by rw [yo]; exact h3
  (repeat' (first | (refine nx ?_) | (refine WD_unk (by exact rfl) ?_; ((refine WD_tf (by exact rfl) (by exact rfl) ?_ ?_) <;> (intro hb; (fail_if_success (with_reducible injection hb)); rw [hb]; (try simp only [List.length_map] at hb)))) | (refine WD_call (by exact rfl) ?_; first | (refine WD_e0 (fun h => costO_pe _ _ _ h) ?_)) | ((with_reducible apply WD_id); first | (refine WD_cut htb ?_) | (refine WD_cut3 htb ?_) | (refine WD_lens htb ?_) | (refine WD_caps htb ?_) | (refine WD_cps htb ?_) | (refine WD_cpp htb ?_) | (refine WD_api htb ?_) | (refine WD_apz htb ?_) | (refine WD_clr htb ?_)) | ((refine WD_tf (by exact rfl) (by exact rfl) ?_ ?_) <;> (intro hb; (fail_if_success (with_reducible injection hb)); rw [hb]; (try simp only [List.length_map] at hb))) | (((with_reducible apply gC2); exact rfl) <;> (intro hb; rw [hb]))))
  refine WD_call (by exact rfl) ?_
  refine WD_eM (fun h => debitO_pe _ _ _ _ _ y ?_ ?_ ?_ h) ?_ (hcv := by exact Or.inr ⟨cvs, rfl, plain3 _ _ _ _ _ _ _ _ _ _ _ _⟩)
  · exact h1
  · exact h2
  · exact h3
  (repeat' (first | (refine nx ?_) | (refine WD_unk (by exact rfl) ?_; ((refine WD_tf (by exact rfl) (by exact rfl) ?_ ?_) <;> (intro hb; (fail_if_success (with_reducible injection hb)); rw [hb]; (try simp only [List.length_map] at hb)))) | ((with_reducible apply WD_id); first | (refine WD_cut htb ?_) | (refine WD_cut3 htb ?_) | (refine WD_lens htb ?_) | (refine WD_caps htb ?_) | (refine WD_cps htb ?_) | (refine WD_cpp htb ?_) | (refine WD_api htb ?_) | (refine WD_apz htb ?_) | (refine WD_clr htb ?_)) | ((refine WD_tf (by exact rfl) (by exact rfl) ?_ ?_) <;> (intro hb; (fail_if_success (with_reducible injection hb)); rw [hb]; (try simp only [List.length_map] at hb))) | (((with_reducible apply gC2); exact rfl) <;> (intro hb; rw [hb]))))
  have er : List.map rO d.g.offs = List.map rO y.offs := by rw [yo]
  rw [er]
  refine WD_call (by exact rfl) ?_
  refine WD_eM (fun h => creditO_pe y _ _ _ _ z ?_ ?_ ?_ h) ?_ (hcv := by exact Or.inr ⟨cvs, rfl, plain3 _ _ _ _ _ _ _ _ _ _ _ _⟩)
  · exact yl
  · exact ya
  · exact yo3
  rw [← er]
  have cr := cut_rows d.g.offs j n
  (repeat' (first | (refine nx ?_) | (refine WD_unk (by exact rfl) ?_; ((refine WD_tf (by exact rfl) (by exact rfl) ?_ ?_) <;> (intro hb; (fail_if_success (with_reducible injection hb)); rw [hb]; (try simp only [List.length_map] at hb)))) | ((with_reducible apply WD_id); first | (refine WD_cut htb ?_) | (refine WD_cut3 htb ?_) | (refine WD_lens htb ?_) | (refine WD_caps htb ?_) | (refine WD_cps htb ?_) | (refine WD_cpp htb ?_) | (refine WD_api htb ?_) | (refine WD_apz htb ?_) | (refine WD_clr htb ?_)) | ((refine WD_tf (by exact rfl) (by exact rfl) ?_ ?_) <;> (intro hb; (fail_if_success (with_reducible injection hb)); rw [hb]; (try simp only [List.length_map] at hb))) | (((with_reducible apply gC2); exact rfl) <;> (intro hb; rw [hb]))))
  rw [cr]
  have zl' : ({ z with offs := d.g.offs.set j (cutO (nth d.g.offs j) n) } : Led).lins.length ≤ 1000 := zl
  have za' : ({ z with offs := d.g.offs.set j (cutO (nth d.g.offs j) n) } : Led).accs.length ≤ 1000 := za
  have zr' : chkL ({ z with offs := d.g.offs.set j (cutO (nth d.g.offs j) n) } : Led).lins ({ z with offs := d.g.offs.set j (cutO (nth d.g.offs j) n) } : Led).accs = 0 := zr
  have t1 : decide (ablP { z with offs := d.g.offs.set j (cutO (nth d.g.offs j) n) } (cutO (nth d.g.offs j) n) > 0) = false := by rw [ablP_offs, hs]; rfl
  have ee : (d.g.offs.set j (cutO (nth d.g.offs j) n)).eraseIdx j = d.g.offs.eraseIdx j := List.eraseIdx_set_eq ..
  have hsl : (d.g.offs.set j (cutO (nth d.g.offs j) n)).length ≤ 1000 := by simpa using h3
  have hsj : j < (d.g.offs.set j (cutO (nth d.g.offs j) n)).length := by simpa using hjl
  (repeat' (first | (refine nx ?_) | (refine WD_unk (by exact rfl) ?_; ((refine WD_tf (by exact rfl) (by exact rfl) ?_ ?_) <;> (intro hb; (fail_if_success (with_reducible injection hb)); rw [hb]; (try simp only [List.length_map] at hb)))) | (refine WD_call (by exact rfl) ?_; first | (refine WD_c0 (able_pm (g := { z with offs := d.g.offs.set j (cutO (nth d.g.offs j) n) }) (x := cutO (nth d.g.offs j) n) ?_ ?_ ?_) ?_; (exact hyp); (exact hyp); (exact hyp)) | (refine WD_cM (delO54_pm (l := d.g.offs.set j (cutO (nth d.g.offs j) n)) (i := j) ?_ ?_) ?_; (exact hyp); (exact hyp))) | ((with_reducible apply WD_id); first | (refine WD_cut htb ?_) | (refine WD_cut3 htb ?_) | (refine WD_lens htb ?_) | (refine WD_caps htb ?_) | (refine WD_cps htb ?_) | (refine WD_cpp htb ?_) | (refine WD_api htb ?_) | (refine WD_apz htb ?_) | (refine WD_clr htb ?_)) | ((refine WD_tf (by exact rfl) (by exact rfl) ?_ ?_) <;> (intro hb; (fail_if_success (with_reducible injection hb)); rw [hb]; (try simp only [List.length_map] at hb))) | (((with_reducible apply gC2); exact rfl) <;> (intro hb; rw [hb]))))
  rw [ee]
  (exact glV [(4, vB true)] [(61, .arr 76 9 ((d.g.offs.eraseIdx j).map rO)), (57, .box 132 (dealC (paidD d z j n c) 61)), (52, .arr 76 9 (d.g.offs.map rO))] (LeV []))
/-- The four outcomes of a use. -/
theorem use_cases {d : Deal} {id : Int} {j : Nat} (h : AtO d id j) :
    (useN d (nth d.g.offs j) = 0 ∧ 0 < ablP d.g (nth d.g.offs j) ∧ useF d j = (d, false)) ∨
    (useN d (nth d.g.offs j) = 0 ∧ ablP d.g (nth d.g.offs j) = 0 ∧ useF d j = ({ d with g := { d.g with offs := d.g.offs.eraseIdx j } }, true)) ∨
    ∃ n c y z, PaidO d id j n c y z ∧ ((0 < ablP z (cutO (nth d.g.offs j) n) ∧ useF d j = (paidD d z j n c, false)) ∨
      (ablP z (cutO (nth d.g.offs j) n) = 0 ∧ useF d j = ({ paidD d z j n c with g := { (paidD d z j n c).g with offs := d.g.offs.eraseIdx j } }, true))) := by
  have hr := h.right
  have hjl := h.lt
  have hx := hr.good _ (nth_mem _ j hjl)
  obtain ⟨b1, b2, b3, b4, b5⟩ := useN_bd hr hx h.w0 h.l0
  have hab := able_nonneg d.g (nth d.g.offs j)
  by_cases hn : 0 < useN d (nth d.g.offs j)
  · obtain ⟨s1, s2, s3, s4, s5, s6, s7, s8, s9⟩ := sale hr.right hx hn b3
    have hs := sold_spec hr.right hx hn b3
    have ha := able_bd hr.right hx hn b3
    have hL := s6.len
    have hA := s6.accs.1
    have hL2 := hs.right.len
    have hA2 := hs.right.accs.1
    have e : use1 d j = paidD d (soldG d.g (nth d.g.offs j) (useN d (nth d.g.offs j))) j (useN d (nth d.g.offs j)) (ceilP (nth d.g.offs j) (useN d (nth d.g.offs j))) := by
      unfold use1
      rw [if_pos hn]
      unfold buyF
      rw [s3, s1]
      dsimp only
      rw [s2]
      rfl
    refine .inr (.inr ⟨useN d (nth d.g.offs j), ceilP (nth d.g.offs j) (useN d (nth d.g.offs j)), addL d.g (nth d.g.offs j).seller (nth d.g.offs j).sc (nth d.g.offs j).si (-useN d (nth d.g.offs j)), soldG d.g (nth d.g.offs j) (useN d (nth d.g.offs j)),
      ⟨h, rfl, hn, b2, ha.1, hx.amt.2, by omega, b5, s1, s2, s3, s7, by omega, by omega, by omega, by omega, chkL_zero.2 hs.right⟩, ?_⟩)
    generalize soldG d.g (nth d.g.offs j) (useN d (nth d.g.offs j)) = z at *
    generalize ceilP (nth d.g.offs j) (useN d (nth d.g.offs j)) = c at *
    generalize useN d (nth d.g.offs j) = n at *
    have hat : nth (d.g.offs.set j (cutO (nth d.g.offs j) n)) j = cutO (nth d.g.offs j) n := by rw [nth_set _ _ _ _ hjl, if_pos rfl]
    have ea : ablP (use1 d j).g (nth (use1 d j).g.offs j) = ablP z (cutO (nth d.g.offs j) n) := by
      rw [e]; unfold paidD; dsimp only; rw [hat, ablP_offs]
    unfold useF
    rw [ea]
    have hz := able_nonneg z (cutO (nth d.g.offs j) n)
    by_cases h0 : 0 < ablP z (cutO (nth d.g.offs j) n)
    · rw [if_pos h0, e]; exact .inl ⟨h0, rfl⟩
    · rw [if_neg h0, e]
      refine .inr ⟨by omega, ?_⟩
      have ee : (d.g.offs.set j (cutO (nth d.g.offs j) n)).eraseIdx j = d.g.offs.eraseIdx j := List.eraseIdx_set_eq ..
      unfold paidD
      dsimp only
      rw [ee]
  · have e : use1 d j = d := by unfold use1; rw [if_neg hn]
    unfold useF
    rw [e]
    by_cases h0 : 0 < ablP d.g (nth d.g.offs j)
    · rw [if_pos h0]; exact .inl ⟨by omega, h0, rfl⟩
    · rw [if_neg h0]; exact .inr (.inl ⟨by omega, by omega, rfl⟩)
end Go.Proofs.YtgebgpdoddjfhaaGreat
