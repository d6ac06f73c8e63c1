/- Contracts: registries: empty, merged; a declaration added; what the other one lacks. -/
import Derived.Test.YtkjpnmodlmlhdaaGreatDoorQAO
import Derived.Deep.OwnRows
import Derived.Test.YtkjpnmodlmlhdaaGreatDoorQAF
namespace Go.Proofs.YtkjpnmodlmlhdaaGreatDoor
set_option linter.unusedSimpArgs false
set_option linter.unusedVariables false
set_option linter.unnecessarySimpa false
set_option linter.unusedSectionVars false
set_option maxRecDepth 100000
open Go Go.RowKit Go.Am Go.Proofs.Grow Gos
section
variable {P : Program} {tbl : List (Nat × TI)} {o : Oper} {T : Nat → Option AV} {M : Nat → Option AO}
theorem flat_rep (n : Nat) (z0 : Value) : (List.replicate n [D.v z0]).flatten = List.replicate n (D.v z0) := by
  induction n with
  | zero => rfl
  | succ n ih => rw [List.replicate_succ, List.flatten_cons, ih, List.replicate_succ]; rfl
theorem step_mks (htb : TOK P tbl) (g : Nat) {ty e : TypeId} {x y : Operand} {i j : TI} {kl kc : IntKind} {n : Nat} {z0 : Value} (ho : o.op = .makeSlice ty x y) (ht : lk tbl ty = some i) (hs : i.isS = true) (he : i.el = some e) (hj : lk tbl e = some j) (hsz : j.size = 1) (hz : j.zero = [z0]) (h1 : z0.oneCell' = true)
    (hx : evA T x = some (.d (.v (.int kl (n : Int))))) (hy : evA T y = some (.d (.v (.int kc (n : Int))))) (hb : j.bytes * n ≤ 281474976710656) (hn : n ≤ 16777216) (hg : M g = none) :
    StepOK P o T M ⟨.own g, [g], [(g, .arr e 1 (List.replicate n [.v z0]))]⟩ :=
  step_any mem_self fun cx μ T' M' a w h hT hM => by
    rw [← hM g (by simp)] at hg
    have hd := slice_desc (htb _ _ ht) hs he
    obtain ⟨info, ds, z, q1, q2, q3, q4, q5, q6, _⟩ := ti_parts (htb _ _ hj)
    have h2 := (h.ev (x := x) hT (by simp [ho, Op.operands]) hx).val
    have h3 := (h.ev (x := y) hT (by simp [ho, Op.operands]) hy).val
    have hb2 : (info.bytes : Int) * (n : Int) ≤ 281474976710656 := by
      have : ((info.bytes * n : Nat) : Int) ≤ 281474976710656 := by rw [q5]; omega
      rwa [Int.natCast_mul] at this
    have hr := run_make (P := P) w ty e info z hd q1 q3 kl kc n n (by omega) (Int.le_refl _) hb2 (by omega)
    simp only [Int.toNat_natCast, q4, hsz, Nat.mul_one, q6, hz] at hr
    have hxs : (madeCells #[z0] n).toList = List.replicate n z0 := by
      apply List.ext_getElem?
      intro k
      by_cases hk : k < n
      · simp [madeCells, hk, Nat.mod_one]
      · simp [madeCells, hk]
    have hsize : (madeCells #[z0] n).size = n := by simp [madeCells]
    refine ⟨.slice (some ⟨w.heap.size, 0, none⟩) n n, w.alloc (.cells (madeCells #[z0] n) e), upμ μ g (.slice (some ⟨w.heap.size, 0, none⟩) n n), ?_, ?_, .own (upμ_self _ _)⟩
    · simp only [execOp, ho, h2, h3, Sem.run_bind, hr, Result.andThen_ok, Sem.run_pure]
    · refine h.new hg (chg_alloc w _) rfl (fun b hb => ?_) fun H' hk hH => ⟨_, List.replicate n z0, upμ_self _ _, ⟨by simp, .inr ⟨w.heap.size, n, madeCells #[z0] n, by simp, Nat.zero_le _, heap_alloc_new w _, by simp, by unfold maxLen; omega, by rw [hsize, Nat.mul_one], by rw [hxs]; simp⟩⟩, fun r hr => by rw [List.eq_of_mem_replicate hr]; rfl, ⟨by simp, fun k c v hc hv => ?_⟩, fun u hu => by rw [List.eq_of_mem_replicate hu]; exact h1⟩
      · obtain rfl := Option.some.inj hb
        simp
      · have e1 := flat_rep n z0
        rw [e1] at hc
        have hc2 := List.eq_of_mem_replicate (List.mem_of_getElem? hc)
        have hv2 := List.eq_of_mem_replicate (List.mem_of_getElem? hv)
        rw [hc2, hv2]; exact .v _
end
section
variable {P : Program} {tbl : List (Nat × TI)} {ops r : List Oper} {o : Oper} {fin : List (List Nat × List Nat) → List (Nat × AV) → List (Nat × AO) → Prop} {acc : List (List Nat × List Nat)} {T : List (Nat × AV)} {M : List (Nat × AO)}
theorem WD_mks (htb : TOK P tbl) {d : Tmp} {ty e : TypeId} {x y : Operand} {i j : TI} {kl kc : IntKind} {n : Nat} {z0 : Value} (k : WD P ops fin r (([d], [d]) :: acc) ((d, .own d) :: T) ((d, .arr e 1 (List.replicate n [.v z0])) :: M)) (ho : o.op = .makeSlice ty x y := by exact rfl) (hgu : gd ops T o = some true := by exact rfl) (hd : o.dst = some d := by exact rfl)
    (ht : lk tbl ty = some i := by exact rfl) (hs : i.isS = true := by exact rfl) (he : i.el = some e := by exact rfl) (hj : lk tbl e = some j := by exact rfl) (hsz : j.size = 1 := by exact rfl) (hz : j.zero = [z0] := by exact rfl) (h1 : z0.oneCell' = true := by exact rfl)
    (hx : evA (lk T) x = some (.d (.v (.int kl (n : Int)))) := by exact rfl) (hy : evA (lk T) y = some (.d (.v (.int kc (n : Int)))) := by exact rfl) (hb : j.bytes * n ≤ 281474976710656 := by decide) (hn : n ≤ 16777216 := by decide) (hg : lk M d = none := by exact rfl) : WD P ops fin (o :: r) acc T M :=
  WD_do hgu hd (step_mks htb d ho ht hs he hj hsz hz h1 hx hy hb hn hg) k
end
/-- All rows of a slice of the call's own, their nil slices read as empty ones. -/
theorem Le_normA {cx : Cx} {T : List (Nat × AV)} {M : List (Nat × AO)} (g : Nat) {ty sz : Nat} {rs rs' : List (List D)} (hg : lk M g = some (.arr ty sz rs)) (hl : rs'.length = rs.length) (hz : ∀ r ∈ rs', r.length = sz) (h : DNs rs.flatten rs'.flatten) : Le cx ⟨T, M⟩ ⟨T, (g, .arr ty sz rs') :: M⟩ := by
  rintro a w ⟨μ, hI⟩
  refine ⟨μ, ?_⟩
  rw [← show upM (lk M) [(g, AO.arr ty sz rs')] = lk ((g, .arr ty sz rs') :: M) from upM_cons]
  refine hI.swap hg rfl rfl fun H' hk => ?_
  obtain ⟨v, xs, g1, g2, g3, g4, g5⟩ := hI.ob g _ hg
  exact ⟨v, xs, g1, by rw [hl]; exact g2, hz, (g4.mono hk).norm h, g5⟩
theorem rep_flat (n : Nat) (x : D) : (List.replicate n [x]).flatten = List.replicate n x := by
  induction n with
  | zero => rfl
  | succ n ih => rw [List.replicate_succ, List.flatten_cons, ih, List.replicate_succ]; rfl
theorem rep_dn (n : Nat) : DNs (List.replicate n (D.v (.slice none 0 0))) (List.replicate n (D.rows 6 [])) := by
  induction n with
  | zero => exact DNs.nil
  | succ n ih => rw [List.replicate_succ, List.replicate_succ]; exact DNs.cons (.nil 6) ih
theorem Le_rep {cx : Cx} {T : List (Nat × AV)} {M : List (Nat × AO)} (g n : Nat) {ty : Nat} (hg : lk M g = some (.arr ty 1 (List.replicate n [.v (.slice none 0 0)]))) : Le cx ⟨T, M⟩ ⟨T, (g, .arr ty 1 (List.replicate n [.rows 6 []])) :: M⟩ :=
  Le_normA g hg (by simp) (fun r hr => by rw [List.eq_of_mem_replicate hr]; rfl) (by rw [rep_flat, rep_flat]; exact rep_dn n)
theorem two_n {n : Nat} (h : 1 ≤ n ∧ n ≤ 5) : decide ((n : Int) < 1) = false ∧ decide ((n : Int) > 10) = false := by
  constructor <;> simp only [decide_eq_false_iff_not] <;> omega
theorem emptyO_m (n : Nat) (h : 1 ≤ n ∧ n ≤ 5) : FnM Tryz.prog 8 [] [vI (n : Int)] (.agg [.own 34]) [(34, .arr 28 1 (List.replicate n [.rows 6 []]))] := by
  obtain ⟨t1, t2⟩ := two_n h
  refine FnM.of htb Tryz.func8 rfl rfl rfl rfl rfl fun cx hN h0 => ?_
  (repeat' (first | ((with_reducible apply WD_id); first | (refine WD_nxt htb (by exact rfl) ?_) | (refine WD_f (by exact rfl) (by exact rfl) (by exact known) fun hb => ?_; rw [hb]; clear hb)) | (with_reducible apply WA_seq) | ((with_reducible apply gR hmix hN); exact (by kernel_rfl); (try dsimp only [List.append_eq, List.cons_append, List.nil_append])) | ((with_reducible apply WD_end); (first | exact no_draw | (intro _; kernel_rfl)); try simp only [thn, inB, List.length_map, List.cons_append, List.nil_append]) | ((with_reducible apply gCf); exact rfl; exact rfl) | ((with_reducible apply gCn); exact rfl; exact known; intro hb; rw [hb]; clear hb) | (with_reducible apply WA_block) | ((with_reducible first | apply WA_skip | apply WA_ret | apply WA_exit | apply WA_label); try simp only [thn, inB, List.length_map, List.cons_append, List.nil_append])))
  refine WD_mks htb (n := n) ?_ (hb := by show 24 * n ≤ 281474976710656; omega) (hn := by omega)
  (repeat' (first | ((with_reducible apply WD_id); first | (refine WD_nxt htb (by exact rfl) ?_) | (refine WD_f (by exact rfl) (by exact rfl) (by exact known) fun hb => ?_; rw [hb]; clear hb)) | (with_reducible apply WA_seq) | ((with_reducible apply gR hmix hN); exact (by kernel_rfl); (try dsimp only [List.append_eq, List.cons_append, List.nil_append])) | ((with_reducible apply WD_end); (first | exact no_draw | (intro _; kernel_rfl)); try simp only [thn, inB, List.length_map, List.cons_append, List.nil_append]) | ((with_reducible apply gCf); exact rfl; exact rfl) | ((with_reducible apply gCn); exact rfl; exact known; intro hb; rw [hb]; clear hb) | (with_reducible apply WA_block) | ((with_reducible first | apply WA_skip | apply WA_ret | apply WA_exit | apply WA_label); try simp only [thn, inB, List.length_map, List.cons_append, List.nil_append])))
  refine gL (.inr rfl) (T' := [(2, .ptr 2 0)]) (M' := [(2, .box 32 [.own 34]), (34, .arr 28 1 (List.replicate n [.rows 6 []]))]) (Le.trans (Le_rep 11 n rfl) ?_) rfl rfl ⟨rfl, trivial⟩
  (exact LeV [(34, 11)])
theorem empty_m (n : Nat) (h : 1 ≤ n ∧ n ≤ 5) : FnM Tryz.prog 8 [] [vI (n : Int)] (aR (List.replicate n [])) [] := by
  obtain ⟨t1, t2⟩ := two_n h
  refine FnM.of htb Tryz.func8 rfl rfl rfl rfl rfl fun cx hN h0 => ?_
  (repeat' (first | ((with_reducible apply WD_id); first | (refine WD_nxt htb (by exact rfl) ?_) | (refine WD_f (by exact rfl) (by exact rfl) (by exact known) fun hb => ?_; rw [hb]; clear hb)) | (with_reducible apply WA_seq) | ((with_reducible apply gR hmix hN); exact (by kernel_rfl); (try dsimp only [List.append_eq, List.cons_append, List.nil_append])) | ((with_reducible apply WD_end); (first | exact no_draw | (intro _; kernel_rfl)); try simp only [thn, inB, List.length_map, List.cons_append, List.nil_append]) | ((with_reducible apply gCf); exact rfl; exact rfl) | ((with_reducible apply gCn); exact rfl; exact known; intro hb; rw [hb]; clear hb) | (with_reducible apply WA_block) | ((with_reducible first | apply WA_skip | apply WA_ret | apply WA_exit | apply WA_label); try simp only [thn, inB, List.length_map, List.cons_append, List.nil_append])))
  refine WD_mks htb (n := n) ?_ (hb := by show 24 * n ≤ 281474976710656; omega) (hn := by omega)
  (repeat' (first | ((with_reducible apply WD_id); first | (refine WD_nxt htb (by exact rfl) ?_) | (refine WD_f (by exact rfl) (by exact rfl) (by exact known) fun hb => ?_; rw [hb]; clear hb)) | (with_reducible apply WA_seq) | ((with_reducible apply gR hmix hN); exact (by kernel_rfl); (try dsimp only [List.append_eq, List.cons_append, List.nil_append])) | ((with_reducible apply WD_end); (first | exact no_draw | (intro _; kernel_rfl)); try simp only [thn, inB, List.length_map, List.cons_append, List.nil_append]) | ((with_reducible apply gCf); exact rfl; exact rfl) | ((with_reducible apply gCn); exact rfl; exact known; intro hb; rw [hb]; clear hb) | (with_reducible apply WA_block) | ((with_reducible first | apply WA_skip | apply WA_ret | apply WA_exit | apply WA_label); try simp only [thn, inB, List.length_map, List.cons_append, List.nil_append])))
  rw [show aR (List.replicate n []) = .agg [.d (.rows 1 (List.replicate n [.rows 6 []]))] by (show AV.agg [AV.d (.rows 1 ((List.replicate n []).map rDs))] = _; rw [List.map_replicate]; rfl)]
  refine gL (.inr rfl) (T' := [(2, .ptr 2 0)]) (M' := [(2, .box 32 [.d (.rows 1 (List.replicate n [.rows 6 []]))])]) (Le.trans (Le_rep 11 n rfl) ?_) rfl rfl trivial
  (exact LeV [])
def mrgR (a b : Reg) (n k : Nat) : List (List D) := (List.range k).map (fun i => rDs (mgD (nth a i) (nth b i))) ++ List.replicate (n - k) [.v (.slice none 0 0)]
theorem mrgR_len {a b : Reg} {n k : Nat} (h : k ≤ n) : (mrgR a b n k).length = n := by simp [mrgR]; omega
theorem mrgR_set {a b : Reg} {n k : Nat} (h : k < n) : (mrgR a b n k).set k (rDs (mgD (nth a k) (nth b k))) = mrgR a b n (k + 1) := by
  unfold mrgR
  rw [show n - k = (n - (k + 1)) + 1 by omega, List.replicate_succ, List.set_append_right _ _ (by simp)]
  simp [List.range_succ]
theorem mrgR_at {a b : Reg} {n k : Nat} (h : k < n) : (mrgR a b n k)[k]? = some [.v (.slice none 0 0)] := by
  unfold mrgR
  rw [List.getElem?_append_right (by simp)]
  simp only [List.length_map, List.length_range, Nat.sub_self]
  rw [List.getElem?_replicate, if_pos (by omega)]
theorem mrgR_end {a b : Reg} : mrgR a b a.length a.length = (mergeF a b).map rDs := by
  unfold mrgR mergeF
  simp
theorem mgD_of {kk : Nat} {a b : List Dc} (ha : Of kk a) (hb : Of kk b) : Of kk (mgD a b) := by
  have hab : Of kk (a ++ b) := fun d hd => (List.mem_append.1 hd).elim (ha d) (hb d)
  have hs : Of kk (srD (a ++ b) ((a ++ b).length - 1)) := srt_of hab _ (by omega)
  intro d hd
  have hd : d ∈ ddF ord0 eqvD (srD (a ++ b) ((a ++ b).length - 1)) [] := hd
  rcases ddF_mem _ _ hd with h | h
  · exact hs d h
  · cases h
theorem mgD_len (a b : List Dc) : (mgD a b).length ≤ a.length + b.length := by
  have h1 := ddF_len (srD (a ++ b) ((a ++ b).length - 1)) []
  have h2 : (srD (a ++ b) ((a ++ b).length - 1)).length = (a ++ b).length := srtG_len ord0 _ _
  have h4 : (a ++ b).length = a.length + b.length := List.length_append
  have h5 : ([] : List Dc).length = 0 := rfl
  rw [h2] at h1
  have h3 : (mgD a b).length = (ddF ord0 eqvD (srD (a ++ b) ((a ++ b).length - 1)) []).length := rfl
  rw [h3]
  omega
set_option maxHeartbeats 2000000 in
theorem merge_m (a b : Reg) (h : ROk a ∧ ROk b ∧ b.length = a.length) : FnM Tryz.prog 26 [] [aR a, aR b] (aR (mergeF a b)) [] := by
  obtain ⟨ha, hb, hlen⟩ := h
  have hl := ha.len
  rw [show aR (mergeF a b) = .agg [.d (.rows 1 (mrgR a b a.length a.length))] by rw [mrgR_end]]
  refine FnM.of htb Tryz.func26 rfl rfl rfl rfl rfl fun cx hN h0 => ?_
  (repeat' (first | ((with_reducible apply WD_id); first | (refine WD_sum ?_) | (refine WD_nxt htb (by exact rfl) ?_) | (refine WD_idx htb ?_) | (refine WD_idxo htb ?_) | (refine WD_ste htb ?_)) | (with_reducible apply WA_seq) | ((with_reducible apply gR hmix hN); exact (by kernel_rfl); (try dsimp only [List.append_eq, List.cons_append, List.nil_append])) | ((with_reducible apply WD_end); (first | exact no_draw | (intro _; kernel_rfl)); try simp only [thn, inB, List.length_map, List.cons_append, List.nil_append]) | ((with_reducible apply gCt); exact rfl; exact rfl) | ((with_reducible apply gCf); exact rfl; exact rfl) | ((with_reducible apply gCk); exact rfl; exact known; intro hb; rw [hb]; clear hb) | ((with_reducible apply gCn); exact rfl; exact known; intro hb; rw [hb]; clear hb) | (with_reducible apply WA_block) | ((with_reducible first | apply WA_skip | apply WA_ret | apply WA_exit | apply WA_label); try simp only [thn, inB, List.length_map, List.cons_append, List.nil_append])))
  rw [List.length_map]
  refine WD_mks htb (n := a.length) ?_ (hb := by show 24 * a.length ≤ 281474976710656; omega) (hn := by omega)
  (repeat' (first | ((with_reducible apply WD_id); first | (refine WD_sum ?_) | (refine WD_nxt htb (by exact rfl) ?_) | (refine WD_idx htb ?_) | (refine WD_idxo htb ?_) | (refine WD_ste htb ?_)) | (with_reducible apply WA_seq) | ((with_reducible apply gR hmix hN); exact (by kernel_rfl); (try dsimp only [List.append_eq, List.cons_append, List.nil_append])) | ((with_reducible apply WD_end); (first | exact no_draw | (intro _; kernel_rfl)); try simp only [thn, inB, List.length_map, List.cons_append, List.nil_append]) | ((with_reducible apply gCt); exact rfl; exact rfl) | ((with_reducible apply gCf); exact rfl; exact rfl) | ((with_reducible apply gCk); exact rfl; exact known; intro hb; rw [hb]; clear hb) | ((with_reducible apply gCn); exact rfl; exact known; intro hb; rw [hb]; clear hb) | (with_reducible apply WA_block) | ((with_reducible first | apply WA_skip | apply WA_ret | apply WA_exit | apply WA_label); try simp only [thn, inB, List.length_map, List.cons_append, List.nil_append])))
  rw [show List.replicate a.length [D.v (.slice none 0 0)] = mrgR a b a.length 0 from rfl]
  (refine WA_forV (a.length) [15] [5, 10] (fun k => [(15, vI k)]) (fun k => [(5, .box 32 [.own 10]), (10, .arr 28 1 (mrgR a b a.length k))]) (fun k => True) ?h0 ?_)
  case h0 => trivial
  intro k hk _
  rcases Nat.lt_or_ge k a.length with hk' | hk'
  · have t1 : decide ((k : Int) < (a.length : Int)) = true := by simp; omega
    have hka := ha.l k hk'
    have hkb := hb.l k (by omega)
    have hkb' : k < b.length := by omega
    have mg_m := mrgd_m k (nth a k) (nth b k) ⟨hka.p, hka.len⟩ ⟨hkb.p, hkb.len⟩
    have hmo : Of k (mgD (nth a k) (nth b k)) := mgD_of hka.p hkb.p
    have hml : (mgD (nth a k) (nth b k)).length ≤ 1000 := by have := mgD_len (nth a k) (nth b k); have := hka.len; have := hkb.len; omega
    have hmp : ∀ d ∈ mgD (nth a k) (nth b k), PlD d := fun d hd => (hmo d hd).1
    have hml2 := mrgR_len (a := a) (b := b) (Nat.le_of_lt hk')
    (repeat' (first | ((with_reducible apply WD_id); first | (refine WD_sum ?_) | (refine WD_nxt htb (by exact rfl) ?_) | (refine WD_call (by exact rfl) ?_; first | (refine WD_c0 (mrgd_m (kk := k) (a := nth a k) (b := nth b k) ?_ ?_) ?_; (first | exact ⟨hka.p, hka.len⟩ | exact ⟨hkb.p, hkb.len⟩); (first | exact ⟨hka.p, hka.len⟩ | exact ⟨hkb.p, hkb.len⟩)) | (refine WD_c0 (fresh_m _ ?_ ?_) ?_; (exact hyp); (exact hyp))) | (refine WD_idx htb ?_) | (refine WD_idxo htb ?_) | (refine WD_ste htb ?_)) | (with_reducible apply WA_seq) | ((with_reducible apply gR hmix hN); exact (by kernel_rfl); (try dsimp only [List.append_eq, List.cons_append, List.nil_append])) | ((with_reducible apply WD_end); (first | exact no_draw | (intro _; kernel_rfl)); try simp only [thn, inB, List.length_map, List.cons_append, List.nil_append]) | ((with_reducible apply gCt); exact rfl; exact rfl) | ((with_reducible apply gCf); exact rfl; exact rfl) | ((with_reducible apply gCk); exact rfl; exact known; intro hb; rw [hb]; clear hb) | ((with_reducible apply gCn); exact rfl; exact known; intro hb; rw [hb]; clear hb) | (with_reducible apply WA_block) | ((with_reducible first | apply WA_skip | apply WA_ret | apply WA_exit | apply WA_label); try simp only [thn, inB, List.length_map, List.cons_append, List.nil_append])))
    refine WD_ste htb ?_ (hr := mrgR_at hk')
    (repeat' (first | ((with_reducible apply WD_id); first | (refine WD_sum ?_) | (refine WD_nxt htb (by exact rfl) ?_) | (refine WD_idx htb ?_) | (refine WD_idxo htb ?_) | (refine WD_ste htb ?_)) | (with_reducible apply WA_seq) | ((with_reducible apply gR hmix hN); exact (by kernel_rfl); (try dsimp only [List.append_eq, List.cons_append, List.nil_append])) | ((with_reducible apply WD_end); (first | exact no_draw | (intro _; kernel_rfl)); try simp only [thn, inB, List.length_map, List.cons_append, List.nil_append]) | ((with_reducible apply gCt); exact rfl; exact rfl) | ((with_reducible apply gCf); exact rfl; exact rfl) | ((with_reducible apply gCk); exact rfl; exact known; intro hb; rw [hb]; clear hb) | ((with_reducible apply gCn); exact rfl; exact known; intro hb; rw [hb]; clear hb) | (with_reducible apply WA_block) | ((with_reducible first | apply WA_skip | apply WA_ret | apply WA_exit | apply WA_label); try simp only [thn, inB, List.length_map, List.cons_append, List.nil_append])))
    refine ⟨hk', trivial, ?_⟩
    rw [show (mrgR a b a.length k).set k [.rows 6 ((mgD (nth a k) (nth b k)).map rD)] = mrgR a b a.length (k + 1) from mrgR_set hk']
    (exact LeV [])
  · have t1 : decide ((k : Int) < (a.length : Int)) = false := by simp; omega
    obtain rfl : k = a.length := by omega
    (repeat' (first | ((with_reducible apply WD_id); first | (refine WD_sum ?_) | (refine WD_nxt htb (by exact rfl) ?_) | (refine WD_idx htb ?_) | (refine WD_idxo htb ?_) | (refine WD_ste htb ?_)) | (with_reducible apply WA_seq) | ((with_reducible apply gR hmix hN); exact (by kernel_rfl); (try dsimp only [List.append_eq, List.cons_append, List.nil_append])) | ((with_reducible apply WD_end); (first | exact no_draw | (intro _; kernel_rfl)); try simp only [thn, inB, List.length_map, List.cons_append, List.nil_append]) | ((with_reducible apply gCt); exact rfl; exact rfl) | ((with_reducible apply gCf); exact rfl; exact rfl) | ((with_reducible apply gCk); exact rfl; exact known; intro hb; rw [hb]; clear hb) | ((with_reducible apply gCn); exact rfl; exact known; intro hb; rw [hb]; clear hb) | (with_reducible apply WA_block) | ((with_reducible first | apply WA_skip | apply WA_ret | apply WA_exit | apply WA_label); try simp only [thn, inB, List.length_map, List.cons_append, List.nil_append])))
    (exact glV [(4, .ptr 4 0)] [(4, .box 32 [.d (.rows 1 (mrgR a b a.length a.length))])] (LeV []))
theorem bothR_m (a b : Reg) (h : ROk a ∧ ROk b ∧ b.length = a.length) : FnM Tryz.prog 27 [] [aR a, aR b] (vI 0) [] := by
  obtain ⟨ha, hb, hlen⟩ := h
  have va_m := valid_r a ha
  have vb_m := valid_r b hb
  have t0 : ((0 : Int) != 0) = false := rfl
  have t1 : ((a.length : Int) != (b.length : Int)) = false := by rw [hlen]; simp
  refine FnM.of htb Tryz.func27 rfl rfl rfl rfl rfl fun cx hN h0 => ?_
  (repeat' (first | ((with_reducible apply WD_id); first | (refine WD_nxt htb (by exact rfl) ?_) | (refine WD_call (by exact rfl) ?_; first | (refine WD_c0 (valid_r _ ?_) ?_; (exact hyp)))) | (with_reducible apply WA_seq) | ((with_reducible apply gR hmix hN); exact (by kernel_rfl); (try dsimp only [List.append_eq, List.cons_append, List.nil_append])) | ((with_reducible apply WD_end); (first | exact no_draw | (intro _; kernel_rfl)); try simp only [thn, inB, List.length_map, List.cons_append, List.nil_append]) | ((with_reducible apply gCf); exact rfl; exact rfl) | ((with_reducible apply gCn); exact rfl; exact known; intro hb; rw [hb]; clear hb) | (with_reducible apply WA_block) | ((with_reducible first | apply WA_skip | apply WA_ret | apply WA_exit | apply WA_label); try simp only [thn, inB, List.length_map, List.cons_append, List.nil_append])))
  exact gE (.inr rfl) rfl rfl trivial
theorem Merge_m (a b : Reg) (h : ROk a ∧ ROk b ∧ b.length = a.length) : FnM Tryz.prog 12 [] [aR a, aR b] (.tup [aR (mergeF a b), vI 0]) [] := by
  have t0 : ((0 : Int) != 0) = false := rfl
  refine FnM.of htb Tryz.func12 rfl rfl rfl rfl rfl fun cx hN h0 => ?_
  (repeat' (first | ((with_reducible apply WD_id); first | (refine WD_nxt htb (by exact rfl) ?_) | (refine WD_call (by exact rfl) ?_; first | (refine WD_c0 (bothR_m (a := a) (b := b) ?_) ?_; (exact hyp)) | (refine WD_c0 (merge_m (a := a) (b := b) ?_) ?_; (exact hyp)))) | (with_reducible apply WA_seq) | ((with_reducible apply gR hmix hN); exact (by kernel_rfl); (try dsimp only [List.append_eq, List.cons_append, List.nil_append])) | ((with_reducible apply WD_end); (first | exact no_draw | (intro _; kernel_rfl)); try simp only [thn, inB, List.length_map, List.cons_append, List.nil_append]) | ((with_reducible apply gCf); exact rfl; exact rfl) | (with_reducible apply WA_block) | ((with_reducible first | apply WA_skip | apply WA_ret | apply WA_exit | apply WA_label); try simp only [thn, inB, List.length_map, List.cons_append, List.nil_append])))
  exact gE (.inr rfl) rfl rfl trivial
theorem one_rows (n : Nat) (d : Dc) : (List.replicate n [D.rows 6 []]).set d.nd.toNat [.rows 6 [rD d]] = (oneF n d).map rDs := by
  unfold oneF
  rw [List.map_set, List.map_replicate]
  rfl
set_option maxHeartbeats 2000000 in
theorem add_m (ks : List Int) (r : Reg) (d : Dc) (hr : (ROk r ∧ 1 ≤ r.length) ∧ ks.length = r.length) (hd : GoodD (tagF ks) ks.length d) : FnM Tryz.prog 10 [] [lU ks, aR r, aD d] (.tup [aR (addG r d), vI 0]) [] := by
  obtain ⟨⟨hr, hr1⟩, hkl⟩ := hr
  have hl := hr.len
  have hp := hd.pl.nd
  have hn := hd.ndn
  have t0 : ((0 : Int) != 0) = false := rfl
  have t1 : decide (d.nd ≥ (r.length : Int)) = false := by simp only [decide_eq_false_iff_not]; omega
  have hdr : GoodD (tagF ks) r.length d := hkl ▸ hd
  have hone : ROk (oneF r.length d) := (reg_one hdr).rok hl
  have hmo : ROk r ∧ ROk (oneF r.length d) ∧ (oneF r.length d).length = r.length := ⟨hr, hone, (reg_one hdr).len⟩
  have e1 : addG r d = mergeF r (oneF r.length d) := rfl
  have mgZ_m : FnM Tryz.prog 26 [] [aR r, .agg [.d (.rows 1 ((List.replicate r.length [D.rows 6 []]).set d.nd.toNat [.rows 6 [rD d]]))]] (aR (mergeF r (oneF r.length d))) [] := by
    rw [one_rows]; exact merge_m r (oneF r.length d) hmo
  have hbd : d.nd.toNat < r.length := by omega
  have hr15 : 1 ≤ r.length ∧ r.length ≤ 5 := ⟨hr1, hl⟩
  have hbd2 : (d.nd : Int) = (d.nd.toNat : Int) := by omega
  rw [e1]
  refine FnM.of htb Tryz.func10 rfl rfl rfl rfl rfl fun cx hN h0 => ?_
  (repeat' (first | ((with_reducible apply WD_id); first | (refine WD_nxt htb (by exact rfl) ?_) | (refine WD_call (by exact rfl) ?_; first | (refine WD_c0 (valid_r _ ?_) ?_; (exact hyp)) | (refine WD_c0 (check_m _ _ ?_) ?_; (exact hyp))) | (refine WD_idxo htb ?_) | (refine WD_ste htb ?_)) | (with_reducible apply WA_seq) | ((with_reducible apply gR hmix hN); exact (by kernel_rfl); (try dsimp only [List.append_eq, List.cons_append, List.nil_append])) | ((with_reducible apply WD_end); (first | exact no_draw | (intro _; kernel_rfl)); try simp only [thn, inB, List.length_map, List.cons_append, List.nil_append]) | ((with_reducible apply gCf); exact rfl; exact rfl) | ((with_reducible apply gCn); exact rfl; exact known; intro hb; rw [hb]; clear hb) | (with_reducible apply WA_block) | ((with_reducible first | apply WA_skip | apply WA_ret | apply WA_exit | apply WA_label); try simp only [thn, inB, List.length_map, List.cons_append, List.nil_append])))
  rw [List.length_map]
  (repeat' (first | ((with_reducible apply WD_id); first | (refine WD_nxt htb (by exact rfl) ?_) | (refine WD_call (by exact rfl) ?_; first | (refine WD_cM (emptyO_m _ ?_) ?_; (exact hyp))) | (refine WD_idxo htb ?_) | (refine WD_ste htb ?_)) | (with_reducible apply WA_seq) | ((with_reducible apply gR hmix hN); exact (by kernel_rfl); (try dsimp only [List.append_eq, List.cons_append, List.nil_append])) | ((with_reducible apply WD_end); (first | exact no_draw | (intro _; kernel_rfl)); try simp only [thn, inB, List.length_map, List.cons_append, List.nil_append]) | ((with_reducible apply gCf); exact rfl; exact rfl) | ((with_reducible apply gCn); exact rfl; exact known; intro hb; rw [hb]; clear hb) | (with_reducible apply WA_block) | ((with_reducible first | apply WA_skip | apply WA_ret | apply WA_exit | apply WA_label); try simp only [thn, inB, List.length_map, List.cons_append, List.nil_append])))
  refine WD_ste htb ?_ (hr := by rw [List.getElem?_replicate, if_pos hbd])
  (with_reducible apply WD_end)
  exact no_draw
  simp only [thn]
  refine WA_le (s' := ⟨[(4, .ptr 4 0), (10, .ptr 10 0), (6, .ptr 6 0)], [(4, .box 32 (cellsOf (aR r))), (6, .box 32 [.d (.v (.slice none 0 0))]), (10, .box 32 [.d (.rows 1 ((List.replicate r.length [D.rows 6 []]).set d.nd.toNat [.rows 6 [rD d]]))])]⟩) (LeV []) ?_
  (repeat' (first | ((with_reducible apply WD_id); first | (refine WD_nxt htb (by exact rfl) ?_) | (refine WD_call (by exact rfl) ?_; first | (refine WD_c0 (mgZ_m) ?_)) | (refine WD_idxo htb ?_) | (refine WD_ste htb ?_)) | (with_reducible apply WA_seq) | ((with_reducible apply gR hmix hN); exact (by kernel_rfl); (try dsimp only [List.append_eq, List.cons_append, List.nil_append])) | ((with_reducible apply WD_end); (first | exact no_draw | (intro _; kernel_rfl)); try simp only [thn, inB, List.length_map, List.cons_append, List.nil_append]) | ((with_reducible apply gCf); exact rfl; exact rfl) | ((with_reducible apply gCn); exact rfl; exact known; intro hb; rw [hb]; clear hb) | (with_reducible apply WA_block) | ((with_reducible first | apply WA_skip | apply WA_ret | apply WA_exit | apply WA_label); try simp only [thn, inB, List.length_map, List.cons_append, List.nil_append])))
  exact gE (.inr rfl) rfl rfl trivial
end Go.Proofs.YtkjpnmodlmlhdaaGreatDoor
/- Contracts: what a registry has and the other one lacks. -/
namespace Go.Proofs.YtkjpnmodlmlhdaaGreatDoor
set_option linter.unusedSimpArgs false
set_option linter.unusedVariables false
set_option linter.unnecessarySimpa false
set_option linter.unusedSectionVars false
set_option maxRecDepth 100000
open Go Go.RowKit Go.Am Go.Proofs.Grow Gos
theorem idx_any {l : List Dc} {p : Dc → Bool} : ∀ k, 0 ≤ k → decide (idxF p k l ≥ 0) = l.any p := by
  induction l with
  | nil => intro k _; rfl
  | cons x l ih =>
    intro k h0
    rw [idxF, List.any_cons]
    split
    · rename_i h; rw [h]; simp only [Bool.true_or, decide_eq_true_eq]; omega
    · rename_i h; rw [ih (k + 1) (by omega)]; simp [h]
theorem hs1_m (d x : Dc) (h : PlD d ∧ PlD x) : FnM Tryz.prog 56 [(3, .box 40 (cellsOf (aD d)))] [aD x, .ptr 3 0] (vB (cmpD x d == 0)) [(3, .box 40 (cellsOf (aD d)))] := by
  obtain ⟨hd, hx⟩ := h
  refine FnM.of htb Tryz.func56 rfl rfl rfl rfl rfl fun cx hN h0 => ?_
  (repeat' (first | ((with_reducible apply WD_id); first | (refine WD_nxt htb (by exact rfl) ?_) | (refine WD_call (by exact rfl) ?_; first | (refine WD_c0 (cmpD_m _ _ ?_ ?_) ?_; (exact hyp); (exact hyp)))) | (with_reducible apply WA_seq) | ((with_reducible apply gR hmix hN); exact (by kernel_rfl); (try dsimp only [List.append_eq, List.cons_append, List.nil_append])) | ((with_reducible apply WD_end); (first | exact no_draw | (intro _; kernel_rfl)); try simp only [thn, inB, List.length_map, List.cons_append, List.nil_append]) | (with_reducible apply WA_block) | ((with_reducible first | apply WA_skip | apply WA_ret | apply WA_exit | apply WA_label); try simp only [thn, inB, List.length_map, List.cons_append, List.nil_append])))
  exact gE (.inr rfl) rfl rfl ⟨rfl, trivial⟩
abbrev eqP (d x : Dc) : Bool := cmpD x d == 0
theorem idxH_m (d : Dc) (l : List Dc) (h : (PlD d ∧ ∀ x ∈ l, PlD x) ∧ l.length ≤ 1000) : FnM Tryz.prog 93 [(3, .box 40 (cellsOf (aD d)))] [lD l, .clo 56 [.ptr 3 0]] (vI (idxF (eqP d) 0 l)) [(3, .box 40 (cellsOf (aD d)))] := by
  obtain ⟨⟨hd, hx⟩, hl⟩ := h
  refine FnM.of htb Tryz.func93 rfl rfl rfl rfl rfl fun cx hN h0 => ?_
  (repeat' (first | ((with_reducible apply WD_id); first | (refine WD_sum ?_) | (refine WD_nxt htb (by exact rfl) ?_) | (refine WD_idx htb ?_)) | (with_reducible apply WA_seq) | ((with_reducible apply gR hmix hN); exact (by kernel_rfl); (try dsimp only [List.append_eq, List.cons_append, List.nil_append])) | ((with_reducible apply WD_end); (first | exact no_draw | (intro _; kernel_rfl)); try simp only [thn, inB, List.length_map, List.cons_append, List.nil_append]) | ((with_reducible apply gCt); exact rfl; exact rfl) | ((with_reducible apply gCf); exact rfl; exact rfl) | ((with_reducible apply gCk); exact rfl; exact known; intro hb; rw [hb]; clear hb) | ((with_reducible apply gCn); exact rfl; exact known; intro hb; rw [hb]; clear hb) | (with_reducible apply WA_block) | ((with_reducible first | apply WA_skip | apply WA_ret | apply WA_exit | apply WA_label); try simp only [thn, inB, List.length_map, List.cons_append, List.nil_append])))
  (refine WA_forV (l.length) [8] [] (fun k => [(8, vI k)]) (fun k => []) (fun k => idxF (eqP d) 0 l = idxF (eqP d) k (l.drop k)) ?h0 ?_)
  case h0 => rfl
  intro k hk hI
  rcases Nat.lt_or_ge k l.length with hk' | hk'
  · have t1 : decide ((k : Int) < (l.length : Int)) = true := by simp; omega
    have hs := hs1_m d (nth l k) ⟨hd, hx _ (nth_mem l k hk')⟩
    cases hb : (cmpD (nth l k) d == 0) with
    | true =>
      rw [hb] at hs
      have hs1Z_m := hs
      (repeat' (first | ((with_reducible apply WD_id); first | (refine WD_sum ?_) | (refine WD_nxt htb (by exact rfl) ?_) | (refine WD_call (by exact rfl) ?_; first | (refine WD_cM (hs1Z_m) ?_)) | (refine WD_idx htb ?_)) | (with_reducible apply WA_seq) | ((with_reducible apply gR hmix hN); exact (by kernel_rfl); (try dsimp only [List.append_eq, List.cons_append, List.nil_append])) | ((with_reducible apply WD_end); (first | exact no_draw | (intro _; kernel_rfl)); try simp only [thn, inB, List.length_map, List.cons_append, List.nil_append]) | ((with_reducible apply gCt); exact rfl; exact rfl) | ((with_reducible apply gCf); exact rfl; exact rfl) | ((with_reducible apply gCk); exact rfl; exact known; intro hb; rw [hb]; clear hb) | ((with_reducible apply gCn); exact rfl; exact known; intro hb; rw [hb]; clear hb) | (with_reducible apply WA_block) | ((with_reducible first | apply WA_skip | apply WA_ret | apply WA_exit | apply WA_label); try simp only [thn, inB, List.length_map, List.cons_append, List.nil_append])))
      exact gE (.inr rfl) rfl (congrArg vI (idx_hit hI hk' hb).symm) ⟨rfl, trivial⟩
    | false =>
      rw [hb] at hs
      have hs1Z_m := hs
      (repeat' (first | ((with_reducible apply WD_id); first | (refine WD_sum ?_) | (refine WD_nxt htb (by exact rfl) ?_) | (refine WD_call (by exact rfl) ?_; first | (refine WD_cM (hs1Z_m) ?_)) | (refine WD_idx htb ?_)) | (with_reducible apply WA_seq) | ((with_reducible apply gR hmix hN); exact (by kernel_rfl); (try dsimp only [List.append_eq, List.cons_append, List.nil_append])) | ((with_reducible apply WD_end); (first | exact no_draw | (intro _; kernel_rfl)); try simp only [thn, inB, List.length_map, List.cons_append, List.nil_append]) | ((with_reducible apply gCt); exact rfl; exact rfl) | ((with_reducible apply gCf); exact rfl; exact rfl) | ((with_reducible apply gCk); exact rfl; exact known; intro hb; rw [hb]; clear hb) | ((with_reducible apply gCn); exact rfl; exact known; intro hb; rw [hb]; clear hb) | (with_reducible apply WA_block) | ((with_reducible first | apply WA_skip | apply WA_ret | apply WA_exit | apply WA_label); try simp only [thn, inB, List.length_map, List.cons_append, List.nil_append])))
      refine ⟨hk', idx_miss hI hk' hb, ?_⟩
      (exact LeV [])
  · have t1 : decide ((k : Int) < (l.length : Int)) = false := by simp; omega
    (repeat' (first | ((with_reducible apply WD_id); first | (refine WD_sum ?_) | (refine WD_nxt htb (by exact rfl) ?_) | (refine WD_idx htb ?_)) | (with_reducible apply WA_seq) | ((with_reducible apply gR hmix hN); exact (by kernel_rfl); (try dsimp only [List.append_eq, List.cons_append, List.nil_append])) | ((with_reducible apply WD_end); (first | exact no_draw | (intro _; kernel_rfl)); try simp only [thn, inB, List.length_map, List.cons_append, List.nil_append]) | ((with_reducible apply gCt); exact rfl; exact rfl) | ((with_reducible apply gCf); exact rfl; exact rfl) | ((with_reducible apply gCk); exact rfl; exact known; intro hb; rw [hb]; clear hb) | ((with_reducible apply gCn); exact rfl; exact known; intro hb; rw [hb]; clear hb) | (with_reducible apply WA_block) | ((with_reducible first | apply WA_skip | apply WA_ret | apply WA_exit | apply WA_label); try simp only [thn, inB, List.length_map, List.cons_append, List.nil_append])))
    exact gE (.inr rfl) rfl (congrArg vI (idx_end hI hk').symm) ⟨rfl, trivial⟩
theorem cntH_m (d : Dc) (l : List Dc) (h : (PlD d ∧ ∀ x ∈ l, PlD x) ∧ l.length ≤ 1000) : FnM Tryz.prog 55 [(3, .box 40 (cellsOf (aD d)))] [lD l, .clo 56 [.ptr 3 0]] (vB (l.any (eqP d))) [(3, .box 40 (cellsOf (aD d)))] := by
  have e := idx_any (l := l) (p := eqP d) 0 (by decide)
  refine FnM.of htb Tryz.func55 rfl rfl rfl rfl rfl fun cx hN h0 => ?_
  (repeat' (first | ((with_reducible apply WD_id); first | (refine WD_nxt htb (by exact rfl) ?_) | (refine WD_call (by exact rfl) ?_; first | (refine WD_cM (idxH_m (d := d) (l := l) ?_) ?_; (exact hyp)))) | (with_reducible apply WA_seq) | ((with_reducible apply gR hmix hN); exact (by kernel_rfl); (try dsimp only [List.append_eq, List.cons_append, List.nil_append])) | ((with_reducible apply WD_end); (first | exact no_draw | (intro _; kernel_rfl)); try simp only [thn, inB, List.length_map, List.cons_append, List.nil_append]) | (with_reducible apply WA_block) | ((with_reducible first | apply WA_skip | apply WA_ret | apply WA_exit | apply WA_label); try simp only [thn, inB, List.length_map, List.cons_append, List.nil_append])))
  exact gE (.inr rfl) rfl (congrArg vB e) ⟨rfl, trivial⟩
theorem has_r (kk : Nat) (l : List Dc) (d : Dc) (hl : Of kk l ∧ l.length ≤ 1000) (hd : PlD d ∧ d.nd = (kk : Int)) : FnM Tryz.prog 28 [] [lD l, aD d] (vB (hasD l d)) [] := by
  have hc : (PlD d ∧ ∀ x ∈ l, PlD x) ∧ l.length ≤ 1000 := ⟨⟨hd.1, fun x hx => (hl.1 x hx).1⟩, hl.2⟩
  have e : l.any (eqP d) = hasD l d := by
    unfold hasD
    have : ∀ m : List Dc, (∀ x ∈ m, x.nd = (kk : Int)) → m.any (eqP d) = m.any fun x => eqvD x d := fun m => by
      induction m with
      | nil => intro _; rfl
      | cons x m ih =>
        intro hm
        rw [List.any_cons, List.any_cons, ih fun y hy => hm y (by simp [hy])]
        congr 1
        exact cmpD_eq ((hm x (by simp)).trans hd.2.symm)
    exact this l fun x hx => (hl.1 x hx).2
  refine FnM.of htb Tryz.func28 rfl rfl rfl rfl rfl fun cx hN h0 => ?_
  (repeat' (first | ((with_reducible apply WD_id); first | (refine WD_nxt htb (by exact rfl) ?_) | (refine WD_call (by exact rfl) ?_; first | (refine WD_cM (cntH_m (d := d) (l := l) ?_) ?_; (exact hyp)))) | (with_reducible apply WA_seq) | ((with_reducible apply gR hmix hN); exact (by kernel_rfl); (try dsimp only [List.append_eq, List.cons_append, List.nil_append])) | ((with_reducible apply WD_end); (first | exact no_draw | (intro _; kernel_rfl)); try simp only [thn, inB, List.length_map, List.cons_append, List.nil_append]) | (with_reducible apply WA_block) | ((with_reducible first | apply WA_skip | apply WA_ret | apply WA_exit | apply WA_label); try simp only [thn, inB, List.length_map, List.cons_append, List.nil_append])))
  exact gE (.inr rfl) rfl (congrArg vB e) trivial
theorem diffTo_len {a : Reg} (b : Reg) (ha : ROk a) : ∀ k, k ≤ a.length → (diffTo a b k).length ≤ 8 * k
  | 0, _ => by simp [diffTo]
  | k + 1, hk => by
    have ih := diffTo_len b ha k (by omega)
    have h1 := (ha.l k (by omega)).len
    have h2 := List.length_filter_le (diffP a b k) (nth a k)
    rw [diffTo, List.length_append]; omega
set_option maxHeartbeats 4000000 in
theorem diff_m (a b : Reg) (h : ROk a ∧ ROk b ∧ b.length = a.length) : FnM Tryz.prog 11 [] [aR a, aR b] (lD (diffF a b)) [] := by
  have h3 := h
  obtain ⟨ha, hb, hlen⟩ := h
  have hl := ha.len
  have hml : (mergeF a b).length = a.length := by simp [mergeF]
  have t0 : ((0 : Int) != 0) = false := rfl
  refine FnM.of htb Tryz.func11 rfl rfl rfl rfl rfl fun cx hN h0 => ?_
  (repeat' (first | ((with_reducible apply WD_id); first | (refine WD_sum ?_) | (refine WD_nxt htb (by exact rfl) ?_) | (refine WD_call (by exact rfl) ?_; first | (refine WD_c0 (bothR_m (a := a) (b := b) ?_) ?_; (exact hyp)) | (refine WD_c0 (merge_m (a := a) (b := b) ?_) ?_; (exact hyp))) | (refine WD_idx htb ?_) | (refine WD_ap htb ?_)) | (with_reducible apply WA_seq) | ((with_reducible apply gR hmix hN); exact (by kernel_rfl); (try dsimp only [List.append_eq, List.cons_append, List.nil_append])) | ((with_reducible apply WD_end); (first | exact no_draw | (intro _; kernel_rfl)); try simp only [thn, inB, List.length_map, List.cons_append, List.nil_append]) | ((with_reducible apply gCt); exact rfl; exact rfl) | ((with_reducible apply gCf); exact rfl; exact rfl) | ((with_reducible apply gCk); exact rfl; exact known; intro hb; rw [hb]; clear hb) | ((with_reducible apply gCn); exact rfl; exact known; intro hb; rw [hb]; clear hb) | (with_reducible apply WA_block) | ((with_reducible first | apply WA_skip | apply WA_ret | apply WA_exit | apply WA_label); try simp only [thn, inB, List.length_map, List.cons_append, List.nil_append])))
  refine WA_le (Le_nilT 60 6 40 6 rfl rfl) ?_
  (refine WA_forV (a.length) [21, 6] [5, 60] (fun k => [(21, vI k), (6, .own 60)]) (fun k => [(5, .box 32 [.d (.rows 1 ((mergeF a b).map rDs))]), (60, .arr 40 6 ((diffTo a b k).map rD))]) (fun k => True) ?h0 ?_)
  case h0 => trivial
  intro k hk _
  have hd1 := diffTo_len b ha k hk
  rcases Nat.lt_or_ge k a.length with hk' | hk'
  · have t1 : decide ((k : Int) < (a.length : Int)) = true := by simp; omega
    have hka := ha.l k hk'
    have hkb := hb.l k (by omega)
    have hkl := hka.len
    have hkb' : k < b.length := by omega
    have hkm' : k < (mergeF a b).length := by omega
    have hmk : nth (mergeF a b) k = mgD (nth a k) (nth b k) := nth_map_range _ hk'
    have hmo : Of k (nth (mergeF a b) k) := by rw [hmk]; exact mgD_of hka.p hkb.p
    have hmn : (nth (mergeF a b) k).length ≤ 1000 := by rw [hmk]; have := mgD_len (nth a k) (nth b k); have := hkb.len; omega
    (repeat' (first | ((with_reducible apply WD_id); first | (refine WD_sum ?_) | (refine WD_nxt htb (by exact rfl) ?_) | (refine WD_idx htb ?_) | (refine WD_ap htb ?_)) | (with_reducible apply WA_seq) | ((with_reducible apply gR hmix hN); exact (by kernel_rfl); (try dsimp only [List.append_eq, List.cons_append, List.nil_append])) | ((with_reducible apply WD_end); (first | exact no_draw | (intro _; kernel_rfl)); try simp only [thn, inB, List.length_map, List.cons_append, List.nil_append]) | ((with_reducible apply gCt); exact rfl; exact rfl) | ((with_reducible apply gCf); exact rfl; exact rfl) | ((with_reducible apply gCk); exact rfl; exact known; intro hb; rw [hb]; clear hb) | ((with_reducible apply gCn); exact rfl; exact known; intro hb; rw [hb]; clear hb) | (with_reducible apply WA_block) | ((with_reducible first | apply WA_skip | apply WA_ret | apply WA_exit | apply WA_label); try simp only [thn, inB, List.length_map, List.cons_append, List.nil_append])))
    have hin : ∃ inn : Nat → List Dc, inn = fun j => diffTo a b k ++ ((nth a k).take j).filter (diffP a b k) := ⟨_, rfl⟩
    obtain ⟨inn, hinn⟩ := hin
    have hi0 : diffTo a b k = inn 0 := by rw [hinn]; simp
    rw [hi0]
    (refine WA_forV ((nth a k).length) [28, 6] [60] (fun k => [(28, vI k), (6, .own 60)]) (fun k => [(60, .arr 40 6 ((inn k).map rD))]) (fun k => True) ?h0 ?_)
    case h0 => trivial
    intro j hj _
    have hij : inn j = diffTo a b k ++ ((nth a k).take j).filter (diffP a b k) := by rw [hinn]
    have hij1 : inn (j + 1) = diffTo a b k ++ ((nth a k).take (j + 1)).filter (diffP a b k) := by rw [hinn]
    rw [hij]
    have hd2 := List.length_filter_le (diffP a b k) ((nth a k).take j)
    rw [List.length_take] at hd2
    rcases Nat.lt_or_ge j (nth a k).length with hj' | hj'
    · have t2 : decide ((j : Int) < ((nth a k).length : Int)) = true := by simp; omega
      have hp := hka.p _ (nth_mem (nth a k) j hj')
      have hA := has_r k (nth b k) (nth (nth a k) j) ⟨hkb.p, by have := hkb.len; omega⟩ hp
      have hB := has_r k (nth (mergeF a b) k) (nth (nth a k) j) ⟨hmo, hmn⟩ hp
      have hst : (nth a k).take (j + 1) = (nth a k).take j ++ [nth (nth a k) j] := by rw [List.take_succ_eq_append_getElem hj', nth_getElem _ _ hj']
      have hdf : diffP a b k (nth (nth a k) j) = (!hasD (nth b k) (nth (nth a k) j) && hasD (nth (mergeF a b) k) (nth (nth a k) j)) := rfl
      cases c1 : hasD (nth b k) (nth (nth a k) j) with
      | true =>
        rw [c1] at hA hdf
        have hasA_m := hA
        have t3 : (!true) = false := rfl
        (repeat' (first | ((with_reducible apply WD_id); first | (refine WD_sum ?_) | (refine WD_nxt htb (by exact rfl) ?_) | (refine WD_call (by exact rfl) ?_; first | (refine WD_c0 (hasA_m) ?_)) | (refine WD_idx htb ?_) | (refine WD_ap htb ?_)) | (with_reducible apply WA_seq) | ((with_reducible apply gR hmix hN); exact (by kernel_rfl); (try dsimp only [List.append_eq, List.cons_append, List.nil_append])) | ((with_reducible apply WD_end); (first | exact no_draw | (intro _; kernel_rfl)); try simp only [thn, inB, List.length_map, List.cons_append, List.nil_append]) | ((with_reducible apply gCt); exact rfl; exact rfl) | ((with_reducible apply gCf); exact rfl; exact rfl) | ((with_reducible apply gCk); exact rfl; exact known; intro hb; rw [hb]; clear hb) | ((with_reducible apply gCn); exact rfl; exact known; intro hb; rw [hb]; clear hb) | (with_reducible apply WA_block) | ((with_reducible first | apply WA_skip | apply WA_ret | apply WA_exit | apply WA_label); try simp only [thn, inB, List.length_map, List.cons_append, List.nil_append])))
        refine ⟨hj', trivial, ?_⟩
        rw [hij1, hst, List.filter_append, show List.filter (diffP a b k) [nth (nth a k) j] = [] by simp [hdf], List.append_nil]
        (exact LeV [])
      | false =>
        rw [c1] at hA hdf
        have hasA_m := hA
        have t3 : (!false) = true := rfl
        cases c2 : hasD (nth (mergeF a b) k) (nth (nth a k) j) with
        | true =>
          rw [c2] at hB hdf
          have hasB_m := hB
          (repeat' (first | ((with_reducible apply WD_id); first | (refine WD_sum ?_) | (refine WD_nxt htb (by exact rfl) ?_) | (refine WD_call (by exact rfl) ?_; first | (refine WD_c0 (hasA_m) ?_) | (refine WD_c0 (hasB_m) ?_)) | (refine WD_idx htb ?_) | (refine WD_ap htb ?_)) | (with_reducible apply WA_seq) | ((with_reducible apply gR hmix hN); exact (by kernel_rfl); (try dsimp only [List.append_eq, List.cons_append, List.nil_append])) | ((with_reducible apply WD_end); (first | exact no_draw | (intro _; kernel_rfl)); try simp only [thn, inB, List.length_map, List.cons_append, List.nil_append]) | ((with_reducible apply gCt); exact rfl; exact rfl) | ((with_reducible apply gCf); exact rfl; exact rfl) | ((with_reducible apply gCk); exact rfl; exact known; intro hb; rw [hb]; clear hb) | ((with_reducible apply gCn); exact rfl; exact known; intro hb; rw [hb]; clear hb) | (with_reducible apply WA_block) | ((with_reducible first | apply WA_skip | apply WA_ret | apply WA_exit | apply WA_label); try simp only [thn, inB, List.length_map, List.cons_append, List.nil_append])))
          refine ⟨hj', trivial, ?_⟩
          rw [hij1, hst, List.filter_append, show List.filter (diffP a b k) [nth (nth a k) j] = [nth (nth a k) j] by simp [hdf], ← List.append_assoc, List.map_append (l₂ := [nth (nth a k) j])]
          (exact LeV [(60, 52)])
        | false =>
          rw [c2] at hB hdf
          have hasB_m := hB
          (repeat' (first | ((with_reducible apply WD_id); first | (refine WD_sum ?_) | (refine WD_nxt htb (by exact rfl) ?_) | (refine WD_call (by exact rfl) ?_; first | (refine WD_c0 (hasA_m) ?_) | (refine WD_c0 (hasB_m) ?_)) | (refine WD_idx htb ?_) | (refine WD_ap htb ?_)) | (with_reducible apply WA_seq) | ((with_reducible apply gR hmix hN); exact (by kernel_rfl); (try dsimp only [List.append_eq, List.cons_append, List.nil_append])) | ((with_reducible apply WD_end); (first | exact no_draw | (intro _; kernel_rfl)); try simp only [thn, inB, List.length_map, List.cons_append, List.nil_append]) | ((with_reducible apply gCt); exact rfl; exact rfl) | ((with_reducible apply gCf); exact rfl; exact rfl) | ((with_reducible apply gCk); exact rfl; exact known; intro hb; rw [hb]; clear hb) | ((with_reducible apply gCn); exact rfl; exact known; intro hb; rw [hb]; clear hb) | (with_reducible apply WA_block) | ((with_reducible first | apply WA_skip | apply WA_ret | apply WA_exit | apply WA_label); try simp only [thn, inB, List.length_map, List.cons_append, List.nil_append])))
          refine ⟨hj', trivial, ?_⟩
          rw [hij1, hst, List.filter_append, show List.filter (diffP a b k) [nth (nth a k) j] = [] by simp [hdf], List.append_nil]
          (exact LeV [])
    · have t2 : decide ((j : Int) < ((nth a k).length : Int)) = false := by simp; omega
      have e1 : (nth a k).take j = nth a k := take_all hj'
      rw [e1]
      (repeat' (first | ((with_reducible apply WD_id); first | (refine WD_sum ?_) | (refine WD_nxt htb (by exact rfl) ?_) | (refine WD_idx htb ?_) | (refine WD_ap htb ?_)) | (with_reducible apply WA_seq) | ((with_reducible apply gR hmix hN); exact (by kernel_rfl); (try dsimp only [List.append_eq, List.cons_append, List.nil_append])) | ((with_reducible apply WD_end); (first | exact no_draw | (intro _; kernel_rfl)); try simp only [thn, inB, List.length_map, List.cons_append, List.nil_append]) | ((with_reducible apply gCt); exact rfl; exact rfl) | ((with_reducible apply gCf); exact rfl; exact rfl) | ((with_reducible apply gCk); exact rfl; exact known; intro hb; rw [hb]; clear hb) | ((with_reducible apply gCn); exact rfl; exact known; intro hb; rw [hb]; clear hb) | (with_reducible apply WA_block) | ((with_reducible first | apply WA_skip | apply WA_ret | apply WA_exit | apply WA_label); try simp only [thn, inB, List.length_map, List.cons_append, List.nil_append])))
      refine ⟨hk', trivial, ?_⟩
      rw [show diffTo a b (k + 1) = diffTo a b k ++ (nth a k).filter (diffP a b k) from rfl]
      (exact LeV [])
  · have t1 : decide ((k : Int) < (a.length : Int)) = false := by simp; omega
    obtain rfl : k = a.length := by omega
    have hfl : (diffF a b).length ≤ 1000 := by unfold diffF; omega
    have hfp : ∀ d ∈ diffF a b, PlD d := fun d hd => by
      obtain ⟨k, hk, h1, _⟩ := (mem_diffTo a.length d).1 hd
      exact ((ha.l k hk).p d h1).1
    rw [show diffTo a b a.length = diffF a b from rfl]
    refine WA_le (s' := ⟨[(6, lD (diffF a b)), (21, vI (a.length : Int)), (20, vI (a.length : Int)), (4, .d (.v (.slice none 0 0)))], []⟩) (LeV []) ?_
    (repeat' (first | ((with_reducible apply WD_id); first | (refine WD_sum ?_) | (refine WD_nxt htb (by exact rfl) ?_) | (refine WD_call (by exact rfl) ?_; first | (refine WD_c0 (fresh_m _ ?_ ?_) ?_; (exact hyp); (exact hyp))) | (refine WD_idx htb ?_) | (refine WD_ap htb ?_)) | (with_reducible apply WA_seq) | ((with_reducible apply gR hmix hN); exact (by kernel_rfl); (try dsimp only [List.append_eq, List.cons_append, List.nil_append])) | ((with_reducible apply WD_end); (first | exact no_draw | (intro _; kernel_rfl)); try simp only [thn, inB, List.length_map, List.cons_append, List.nil_append]) | ((with_reducible apply gCt); exact rfl; exact rfl) | ((with_reducible apply gCf); exact rfl; exact rfl) | ((with_reducible apply gCk); exact rfl; exact known; intro hb; rw [hb]; clear hb) | ((with_reducible apply gCn); exact rfl; exact known; intro hb; rw [hb]; clear hb) | (with_reducible apply WA_block) | ((with_reducible first | apply WA_skip | apply WA_ret | apply WA_exit | apply WA_label); try simp only [thn, inB, List.length_map, List.cons_append, List.nil_append])))
    exact gE (.inr rfl) rfl rfl trivial
end Go.Proofs.YtkjpnmodlmlhdaaGreatDoor
