/- Contracts: trusts that are drawn. -/
import Derived.Test.YtbfafljcclfeaaaGreatDoorTnM
import Derived.Test.YtbfafljcclfeaaaGreatDoorTnN
namespace Go.Proofs.YtbfafljcclfeaaaGreatDoor
set_option linter.unusedSimpArgs false
set_option linter.unusedVariables false
set_option linter.unnecessarySimpa false
set_option linter.unusedSectionVars false
set_option maxRecDepth 100000
open Go Go.RowKit Go.Am Go.Proofs.Grow

def rgN (s : Sc) (b : Nat) : Nat := (s.n b).toNat + 1
theorem rgN_bd {s : Sc} {b : Nat} (h : 1 ≤ b) : 1 ≤ rgN s b ∧ rgN s b ≤ b := by
  have := s.n_bd (k := b) (by omega)
  unfold rgN; omega
theorem tRg_m (s : Sc) (b : Nat) (e : Int) (hs : s.ok) (h1 : 1 ≤ b) (h2 : b ≤ 1000) (he : e = (b : Int)) : FnM Tryz.prog 15 [(9000, tpB s)] [.ptr 9000 0, vI 1, vI e] (vI ((rgN s b : Nat) : Int)) [(9000, tpB (s.x b))] := by
  subst he
  have hb := s.n_bd (k := b) (by omega)
  have := tR_m s 1 b hs (by omega) (by omega) (by omega)
  rw [show (b : Int) - 1 + 1 = b by omega, show (1 : Int) + s.n b = ((rgN s b : Nat) : Int) by unfold rgN; omega] at this
  exact this
theorem castI (l : List Nat) : (l.map fun x : Nat => (x : Int)).map rI = l.map rN := by rw [List.map_map]; rfl
theorem aTr_cast (k : Int) (m : List Nat) (is : List Tr) : aTr (.mk k (m.map fun x : Nat => (x : Int)) is) = .agg [vI k, lN m, lTr is] := by
  show AV.agg [vI k, .d (.rows 1 ((m.map fun x : Nat => (x : Int)).map rI)), lTr is] = _
  rw [castI]
/-- A trust of one level. -/
def tr1F (s : Sc) (n : Nat) : Tr × Sc :=
  let p := ordF s n
  let r := rgN p.2 n
  let s2 := p.2.x n
  (.mk ((rgN s2 r : Nat) : Int) ((p.1.take r).map fun x : Nat => (x : Int)) [], s2.x r)
theorem tr1_m (s : Sc) (n : Nat) (hs : s.ok) (h1 : 1 ≤ n) (h2 : n ≤ 5) : FnM Tryz.prog 42 [(9000, tpB s)] [.ptr 9000 0, vI (n : Int), vI 1] (aTr (tr1F s n).1) [(9000, tpB (tr1F s n).2)] := by
  obtain ⟨ho1, ho2, ho3⟩ := ordF_spec hs h1
  unfold tr1F
  generalize hp : ordF s n = p at *
  obtain ⟨l, s1⟩ := p
  dsimp only at ho1 ho2 ho3 ⊢
  have hr := rgN_bd (s := s1) h1
  have hs2 := Sc.ok_x ho3 (n : Int)
  have rgA_m := tRg_m s1 n (if (5 : Int) < (n : Int) then 5 else (n : Int)) ho3 h1 (by omega) (by rw [if_neg (by omega)])
  have hrl : (l.take (rgN s1 n)).length = rgN s1 n := by rw [List.length_take]; omega
  have rgB_m := tRg_m (s1.x n) (rgN s1 n) ((((l.take (rgN s1 n)).map rN).length : Int) + 0) hs2 hr.1 (by omega) (by rw [List.length_map]; omega)
  generalize hrr : rgN s1 n = r at *
  have hlr : r ≤ (l.map rN).length := by rw [List.length_map]; omega
  refine FnM.of htb Tryz.func42 rfl rfl rfl rfl rfl fun cx hN h0 => ?_
  have tOX : FnM Tryz.prog 72 [(9000, tpB s)] [.ptr 9000 0, vI (n : Int)] (lN l) [(9000, tpB s1)] := by
    have := tO_m s n hs h1 (by omega)
    rw [hp] at this; exact this
  have tOX_m := tOX
  (repeat' (first | ((with_reducible apply WD_id); first | (refine WD_sum ?_) | (refine WD_nxt htb (by exact rfl) ?_) | (refine WD_unk (by exact rfl) ?_; first | (refine WD_t (by exact rfl) (by exact rfl) (by exact known) fun hb => ?_; rw [hb]; clear hb) | (refine WD_f (by exact rfl) (by exact rfl) (by exact known) fun hb => ?_; rw [hb]; clear hb) | ((refine WD_tf (by exact rfl) (by exact rfl) ?_ ?_) <;> (intro hb; (fail_if_success (with_reducible injection hb)); rw [hb]; (try simp only [List.length_map] at hb)))) | (refine WD_call (by exact rfl) ?_; first | (refine WD_cM (tOX_m) ?_) | (refine WD_cM (rgA_m) ?_)) | (refine WD_idx htb ?_) | (refine WD_idxo htb ?_) | (refine WD_lde1 htb ?_) | (refine WD_lde htb ?_) | (refine WD_ste htb ?_) | (refine WD_ap htb ?_) | (refine WD_ap0 htb ?_) | (refine WD_nil htb ?_) | (refine WD_nilr htb ?_) | (refine WD_rem ?_) | (refine WD_quo ?_) | (refine WD_slc htb ?_) | (refine WD_ixa htb ?_) | (refine WD_ix1 htb ?_) | (refine WD_cut htb ?_) | (refine WD_cut3 htb ?_) | (refine WD_lens htb ?_) | (refine WD_caps htb ?_) | (refine WD_cps htb ?_) | (refine WD_cpp htb ?_) | (refine WD_api htb ?_) | (refine WD_apz htb ?_) | (refine WD_clr htb ?_) | (refine WD_t (by exact rfl) (by exact rfl) (by exact known) fun hb => ?_; rw [hb]; clear hb) | (refine WD_f (by exact rfl) (by exact rfl) (by exact known) fun hb => ?_; rw [hb]; clear hb) | ((refine WD_tf (by exact rfl) (by exact rfl) ?_ ?_) <;> (intro hb; (fail_if_success (with_reducible injection hb)); rw [hb]; (try simp only [List.length_map] at hb)))) | (with_reducible apply WA_seq) | ((with_reducible apply gR hmix hN); exact (by kernel_rfl); (try dsimp only [List.append_eq, List.cons_append, List.nil_append])) | ((with_reducible apply WD_end); (first | exact no_draw | (intro _; kernel_rfl)); try simp only [thn, inB, List.length_map, List.cons_append, List.nil_append]) | ((with_reducible apply gCt); exact rfl; exact rfl) | ((with_reducible apply gCf); exact rfl; exact rfl) | ((with_reducible apply gCk); exact rfl; exact known; intro hb; rw [hb]; clear hb) | ((with_reducible apply gCn); exact rfl; exact known; intro hb; rw [hb]; clear hb) | (((with_reducible apply gC2); exact rfl) <;> (intro hb; rw [hb])) | (with_reducible apply WA_block) | ((with_reducible first | apply WA_skip | apply WA_ret | apply WA_exit | apply WA_label); try simp only [thn, inB, List.length_map, List.cons_append, List.nil_append])))
  rw [show List.drop 0 (List.take r (List.map rN l)) = (l.take r).map rN by rw [List.drop_zero, List.map_take], List.length_map]
  refine WA_le (Le_nilM 60 7 1 3 1 rfl rfl rfl rfl) ?_
  generalize hm : l.take r = m at *
  (refine WA_forV (m.length) [22] [7, 60, 9000] (fun k => [(22, vI k)]) (fun k => [(9000, tpB (s1.x n)), (7, .box 49 [vI 0, .own 60, .d (.v (.slice none 0 0))]), (60, .arr 3 1 ((m.take k).map rN))]) (fun k => True) ?h0 ?_)
  case h0 => trivial
  intro k hk _
  have hlk : (m.take k).length ≤ k := by rw [List.length_take]; omega
  rcases Nat.lt_or_ge k m.length with hk' | hk'
  · have t1 : decide ((k : Int) < (m.length : Int)) = true := by simp; omega
    have hw : (m.take (k + 1)) = m.take k ++ [nth m k] := by rw [List.take_succ_eq_append_getElem hk', nth_getElem _ _ hk']
    (repeat' (first | ((with_reducible apply WD_id); first | (refine WD_sum ?_) | (refine WD_nxt htb (by exact rfl) ?_) | (refine WD_unk (by exact rfl) ?_; first | (refine WD_t (by exact rfl) (by exact rfl) (by exact known) fun hb => ?_; rw [hb]; clear hb) | (refine WD_f (by exact rfl) (by exact rfl) (by exact known) fun hb => ?_; rw [hb]; clear hb) | ((refine WD_tf (by exact rfl) (by exact rfl) ?_ ?_) <;> (intro hb; (fail_if_success (with_reducible injection hb)); rw [hb]; (try simp only [List.length_map] at hb)))) | (refine WD_idx htb ?_) | (refine WD_idxo htb ?_) | (refine WD_lde1 htb ?_) | (refine WD_lde htb ?_) | (refine WD_ste htb ?_) | (refine WD_ap htb ?_) | (refine WD_ap0 htb ?_) | (refine WD_nil htb ?_) | (refine WD_nilr htb ?_) | (refine WD_rem ?_) | (refine WD_quo ?_) | (refine WD_slc htb ?_) | (refine WD_ixa htb ?_) | (refine WD_ix1 htb ?_) | (refine WD_cut htb ?_) | (refine WD_cut3 htb ?_) | (refine WD_lens htb ?_) | (refine WD_caps htb ?_) | (refine WD_cps htb ?_) | (refine WD_cpp htb ?_) | (refine WD_api htb ?_) | (refine WD_apz htb ?_) | (refine WD_clr htb ?_) | (refine WD_t (by exact rfl) (by exact rfl) (by exact known) fun hb => ?_; rw [hb]; clear hb) | (refine WD_f (by exact rfl) (by exact rfl) (by exact known) fun hb => ?_; rw [hb]; clear hb) | ((refine WD_tf (by exact rfl) (by exact rfl) ?_ ?_) <;> (intro hb; (fail_if_success (with_reducible injection hb)); rw [hb]; (try simp only [List.length_map] at hb)))) | (with_reducible apply WA_seq) | ((with_reducible apply gR hmix hN); exact (by kernel_rfl); (try dsimp only [List.append_eq, List.cons_append, List.nil_append])) | ((with_reducible apply WD_end); (first | exact no_draw | (intro _; kernel_rfl)); try simp only [thn, inB, List.length_map, List.cons_append, List.nil_append]) | ((with_reducible apply gCt); exact rfl; exact rfl) | ((with_reducible apply gCf); exact rfl; exact rfl) | ((with_reducible apply gCk); exact rfl; exact known; intro hb; rw [hb]; clear hb) | ((with_reducible apply gCn); exact rfl; exact known; intro hb; rw [hb]; clear hb) | (((with_reducible apply gC2); exact rfl) <;> (intro hb; rw [hb])) | (with_reducible apply WA_block) | ((with_reducible first | apply WA_skip | apply WA_ret | apply WA_exit | apply WA_label); try simp only [thn, inB, List.length_map, List.cons_append, List.nil_append])))
    refine ⟨hk', trivial, ?_⟩
    rw [hw, List.map_append, List.map_cons, List.map_nil]
    (exact LeV [(60, 30)])
  · have t1 : decide ((k : Int) < (m.length : Int)) = false := by simp; omega
    have e1 : m.take k = m := take_all hk'
    rw [e1]
    have hml : (m.map rN).length ≤ 10 := by rw [List.length_map]; omega
    (repeat' (first | ((with_reducible apply WD_id); first | (refine WD_sum ?_) | (refine WD_nxt htb (by exact rfl) ?_) | (refine WD_unk (by exact rfl) ?_; first | (refine WD_t (by exact rfl) (by exact rfl) (by exact known) fun hb => ?_; rw [hb]; clear hb) | (refine WD_f (by exact rfl) (by exact rfl) (by exact known) fun hb => ?_; rw [hb]; clear hb) | ((refine WD_tf (by exact rfl) (by exact rfl) ?_ ?_) <;> (intro hb; (fail_if_success (with_reducible injection hb)); rw [hb]; (try simp only [List.length_map] at hb)))) | (refine WD_call (by exact rfl) ?_; first | (refine WD_cM (rgB_m) ?_)) | (refine WD_idx htb ?_) | (refine WD_idxo htb ?_) | (refine WD_lde1 htb ?_) | (refine WD_lde htb ?_) | (refine WD_ste htb ?_) | (refine WD_ap htb ?_) | (refine WD_ap0 htb ?_) | (refine WD_nil htb ?_) | (refine WD_nilr htb ?_) | (refine WD_rem ?_) | (refine WD_quo ?_) | (refine WD_slc htb ?_) | (refine WD_ixa htb ?_) | (refine WD_ix1 htb ?_) | (refine WD_cut htb ?_) | (refine WD_cut3 htb ?_) | (refine WD_lens htb ?_) | (refine WD_caps htb ?_) | (refine WD_cps htb ?_) | (refine WD_cpp htb ?_) | (refine WD_api htb ?_) | (refine WD_apz htb ?_) | (refine WD_clr htb ?_) | (refine WD_t (by exact rfl) (by exact rfl) (by exact known) fun hb => ?_; rw [hb]; clear hb) | (refine WD_f (by exact rfl) (by exact rfl) (by exact known) fun hb => ?_; rw [hb]; clear hb) | ((refine WD_tf (by exact rfl) (by exact rfl) ?_ ?_) <;> (intro hb; (fail_if_success (with_reducible injection hb)); rw [hb]; (try simp only [List.length_map] at hb)))) | (with_reducible apply WA_seq) | ((with_reducible apply gR hmix hN); exact (by kernel_rfl); (try dsimp only [List.append_eq, List.cons_append, List.nil_append])) | ((with_reducible apply WD_end); (first | exact no_draw | (intro _; kernel_rfl)); try simp only [thn, inB, List.length_map, List.cons_append, List.nil_append]) | ((with_reducible apply gCt); exact rfl; exact rfl) | ((with_reducible apply gCf); exact rfl; exact rfl) | ((with_reducible apply gCk); exact rfl; exact known; intro hb; rw [hb]; clear hb) | ((with_reducible apply gCn); exact rfl; exact known; intro hb; rw [hb]; clear hb) | (((with_reducible apply gC2); exact rfl) <;> (intro hb; rw [hb])) | (with_reducible apply WA_block) | ((with_reducible first | apply WA_skip | apply WA_ret | apply WA_exit | apply WA_label); try simp only [thn, inB, List.length_map, List.cons_append, List.nil_append])))
    rw [aTr_cast]
    (exact glV [(6, .ptr 6 0)] [(6, .box 49 [vI ((rgN (s1.x n) r : Nat) : Int), lN m, .d (.rows 3 [])]), (9000, tpB ((s1.x n).x r))] (LeV []))
def innF : Nat → Sc → Nat → List Tr → List Tr × Sc
  | 0, s, _, o => (o, s)
  | i + 1, s, n, o => innF i (tr1F s n).2 n (o ++ [(tr1F s n).1])
def picks : List Int := [0, 0, 1, 1, 2, 3]
/-- A trust of two levels. -/
def tr2F (s : Sc) (n : Nat) : Tr × Sc :=
  let p := ordF s n
  let r := rgN p.2 n
  let s2 := p.2.x n
  let i := nth picks (s2.n 6).toNat
  let q := innF i.toNat (s2.x 6) n []
  if q.1.length = 0 then (.mk ((rgN q.2 r : Nat) : Int) ((p.1.take r).map fun x : Nat => (x : Int)) [], q.2.x r)
  else if q.2.n 3 = 0 then (.mk ((rgN (q.2.x 3) q.1.length : Nat) : Int) [] q.1, (q.2.x 3).x q.1.length)
  else (.mk ((rgN (q.2.x 3) (r + q.1.length) : Nat) : Int) ((p.1.take r).map fun x : Nat => (x : Int)) q.1, (q.2.x 3).x (r + q.1.length : Nat))
/-- Trusts over few nodes, of few levels. -/
structure GoodT (n : Nat) (t : Tr) : Prop where
  ns : ∀ x ∈ t.ns, 0 ≤ x ∧ x < (n : Int)
  nl : t.ns.length ≤ 5
  il : t.is.length ≤ 3
  inn : ∀ y ∈ t.is, y.is = [] ∧ y.ns.length ≤ 5 ∧ ∀ x ∈ y.ns, 0 ≤ x ∧ x < (n : Int)
theorem tr1_spec {s : Sc} {n : Nat} (hs : s.ok) (h1 : 1 ≤ n) (h2 : n ≤ 5) : GoodT n (tr1F s n).1 ∧ (tr1F s n).1.is = [] ∧ (tr1F s n).2.ok := by
  obtain ⟨ho1, ho2, ho3⟩ := ordF_spec hs h1
  unfold tr1F
  refine ⟨⟨fun x hx => ?_, ?_, by simp [Tr.is], fun y hy => by simp [Tr.is] at hy⟩, rfl, Sc.ok_x (Sc.ok_x ho3 _) _⟩
  · simp only [Tr.ns, List.mem_map] at hx
    obtain ⟨y, hy, rfl⟩ := hx
    have := ho2 y (List.mem_of_mem_take hy)
    omega
  · simp only [Tr.ns, List.length_map, List.length_take]; omega
theorem inn_spec {n : Nat} (h1 : 1 ≤ n) (h2 : n ≤ 5) : ∀ (i : Nat) (s : Sc) (o : List Tr), s.ok → (∀ y ∈ o, y.is = [] ∧ y.ns.length ≤ 5 ∧ ∀ x ∈ y.ns, 0 ≤ x ∧ x < (n : Int)) →
    (innF i s n o).1.length = o.length + i ∧ (∀ y ∈ (innF i s n o).1, y.is = [] ∧ y.ns.length ≤ 5 ∧ ∀ x ∈ y.ns, 0 ≤ x ∧ x < (n : Int)) ∧ (innF i s n o).2.ok
  | 0, s, o, hs, h => ⟨rfl, h, hs⟩
  | i + 1, s, o, hs, h => by
    obtain ⟨g1, g2, g3⟩ := tr1_spec hs h1 h2
    have := inn_spec h1 h2 i (tr1F s n).2 (o ++ [(tr1F s n).1]) g3 (fun y hy => by
      rcases List.mem_append.1 hy with hy | hy
      · exact h y hy
      · obtain rfl : y = (tr1F s n).1 := by simpa using hy
        exact ⟨g2, g1.nl, g1.ns⟩)
    simp only [List.length_append, List.length_cons, List.length_nil] at this
    exact ⟨by rw [innF]; omega, this.2.1, this.2.2⟩
theorem pick_bd {k : Nat} (h : k < 6) : 0 ≤ nth picks k ∧ nth picks k ≤ 3 := by
  obtain rfl | rfl | rfl | rfl | rfl | rfl : k = 0 ∨ k = 1 ∨ k = 2 ∨ k = 3 ∨ k = 4 ∨ k = 5 := by omega
  all_goals decide
end Go.Proofs.YtbfafljcclfeaaaGreatDoor
