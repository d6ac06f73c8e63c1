/- Contracts of the program's functions on offers: using an offer. -/
import Derived.Test.YtgebgpdoddjfhaaGreatAmZ
import Derived.Test.YtgebgpdoddjfhaaGreatWO2
namespace Go.Proofs.YtgebgpdoddjfhaaGreat
set_option linter.unusedSimpArgs false
set_option linter.unusedVariables false
set_option linter.unnecessarySimpa false
set_option linter.unusedSectionVars false
set_option maxRecDepth 100000
open Go Go.RowKit Go.Am Go.Proofs.Grow

abbrev cellsGo (g : Led) (a l o : Nat) : List AV := [vI g.num, .own a, .own l, .own o, vI g.nid, vI g.fees, vU g.link]
abbrev aGo (g : Led) (a l o : Nat) : AV := .agg (cellsGo g a l o)
abbrev dealC (d : Deal) (o : Nat) : List AV := [vI d.g.num, lA d.g.accs, lL d.g.lins, .own o, vI d.g.nid, vI d.g.fees, vU d.g.link, vI d.want, vI d.left]
theorem addLo_pm (g : Led) (a : Int) (u : ByteArray) (i n : Int) (hl : g.lins.length ≤ 1000) (ha : g.accs.length ≤ 1000) (ho : g.offs.length ≤ 1000) (hok : AddOk g a u i n) : FnM Tryz.prog 91 [] [aG g, vI a, aT u i, vI n] (aGo (addL g a u i n) 65 75 55) [(65, .arr 63 3 ((addL g a u i n).accs.map rA)), (75, .arr 69 5 ((addL g a u i n).lins.map rL)), (55, .arr 76 9 (g.offs.map rO))] := by
  obtain ⟨hr, hf, hu, hp, h1, h2⟩ := hok
  have hg := rightL_iff.1 hr
  refine FnM.of htb Tryz.func91 rfl rfl rfl rfl rfl fun cx hN h0 => ?_
  rcases look_cases hg hf hu with ⟨hn, hia, ho, j, hj, k1, k2, e⟩ | ⟨hn, hia, ho, e⟩ | ⟨hn, hia, ho, j, hj, k1, k2, k3, k4, e⟩ | ⟨_, _, _, e⟩
  · rw [e] at h1 h2
    dsimp only at h1 h2
    have hb := (hg.accs.2.1 _ (nth_mem _ j hj)).2.1
    have ej : (idxA g.accs a).toNat = j := by omega
    rw [← ej] at h1 h2 hb
    have e2 : addL g a u i n = { g with accs := g.accs.set (idxA g.accs a).toNat { nth g.accs (idxA g.accs a).toNat with bal := (nth g.accs (idxA g.accs a).toNat).bal + n } } := by unfold addL; rw [if_pos hn]
    rw [e2]
    (repeat' (first | (refine nx ?_) | (refine WD_unk (by exact rfl) ?_; ((refine WD_tf (by exact rfl) (by exact rfl) ?_ ?_) <;> (intro hb; (fail_if_success (with_reducible injection hb)); rw [hb]; (try simp only [List.length_map] at hb)))) | (refine WD_call (by exact rfl) ?_; first | (refine WD_cM (copied_pm _ ?_ ?_ ?_) ?_; (exact hyp); (exact hyp); (exact hyp)) | (refine WD_c0 (native_pm _ _) ?_) | (refine WD_cM (idxfA2_pm _ _ ?_) ?_; (exact hyp))) | ((with_reducible apply WD_id); first | (refine WD_cut htb ?_) | (refine WD_cut3 htb ?_) | (refine WD_lens htb ?_) | (refine WD_caps htb ?_) | (refine WD_cps htb ?_) | (refine WD_cpp htb ?_) | (refine WD_api htb ?_) | (refine WD_apz htb ?_) | (refine WD_clr htb ?_)) | ((refine WD_tf (by exact rfl) (by exact rfl) ?_ ?_) <;> (intro hb; (fail_if_success (with_reducible injection hb)); rw [hb]; (try simp only [List.length_map] at hb))) | (((with_reducible apply gC2); exact rfl) <;> (intro hb; rw [hb]))))
    (exact glV [(8, .ptr 8 0)] [(8, .box 28 (cellsGo { g with accs := g.accs.set (idxA g.accs a).toNat { nth g.accs (idxA g.accs a).toNat with bal := (nth g.accs (idxA g.accs a).toNat).bal + n } } 65 75 55)), (65, .arr 63 3 ((g.accs.set (idxA g.accs a).toNat { nth g.accs (idxA g.accs a).toNat with bal := (nth g.accs (idxA g.accs a).toNat).bal + n }).map rA)), (75, .arr 69 5 ((g.lins).map rL)), (55, .arr 76 9 (g.offs.map rO))] (LeV [(65, 50), (75, 51), (55, 52)]))
  · rw [addL_own n hn hia]
    have hd : (i != a) = false := by simp [hia]
    (repeat' (first | (refine nx ?_) | (refine WD_unk (by exact rfl) ?_; ((refine WD_tf (by exact rfl) (by exact rfl) ?_ ?_) <;> (intro hb; (fail_if_success (with_reducible injection hb)); rw [hb]; (try simp only [List.length_map] at hb)))) | (refine WD_call (by exact rfl) ?_; first | (refine WD_cM (copied_pm _ ?_ ?_ ?_) ?_; (exact hyp); (exact hyp); (exact hyp)) | (refine WD_c0 (native_pm _ _) ?_)) | ((with_reducible apply WD_id); first | (refine WD_cut htb ?_) | (refine WD_cut3 htb ?_) | (refine WD_lens htb ?_) | (refine WD_caps htb ?_) | (refine WD_cps htb ?_) | (refine WD_cpp htb ?_) | (refine WD_api htb ?_) | (refine WD_apz htb ?_) | (refine WD_clr htb ?_)) | ((refine WD_tf (by exact rfl) (by exact rfl) ?_ ?_) <;> (intro hb; (fail_if_success (with_reducible injection hb)); rw [hb]; (try simp only [List.length_map] at hb))) | (((with_reducible apply gC2); exact rfl) <;> (intro hb; rw [hb]))))
    (exact glV [(8, .ptr 8 0)] [(8, .box 28 (cellsGo g 65 75 55)), (65, .arr 63 3 ((g.accs).map rA)), (75, .arr 69 5 ((g.lins).map rL)), (55, .arr 76 9 (g.offs.map rO))] (LeV [(65, 50), (75, 51), (55, 52)]))
  · rw [e] at h1 h2
    dsimp only at h1 h2
    have hb := (hg.good _ (nth_mem _ j hj)).2.2.2.2
    have ej : (idxL g.lins a u i).toNat = j := by omega
    rw [← ej] at h1 h2 hb
    have e2 : addL g a u i n = { g with lins := g.lins.set (idxL g.lins a u i).toNat { nth g.lins (idxL g.lins a u i).toNat with bal := (nth g.lins (idxL g.lins a u i).toNat).bal + n } } := by unfold addL; rw [if_neg (by simp [hn]), if_neg hia]
    have hd : (i != a) = true := by simp [hia]
    rw [e2]
    (repeat' (first | (refine nx ?_) | (refine WD_unk (by exact rfl) ?_; ((refine WD_tf (by exact rfl) (by exact rfl) ?_ ?_) <;> (intro hb; (fail_if_success (with_reducible injection hb)); rw [hb]; (try simp only [List.length_map] at hb)))) | (refine WD_call (by exact rfl) ?_; first | (refine WD_cM (copied_pm _ ?_ ?_ ?_) ?_; (exact hyp); (exact hyp); (exact hyp)) | (refine WD_c0 (native_pm _ _) ?_) | (refine WD_c0 (idxL_pm _ _ _ _ ?_) ?_; (exact hyp))) | ((with_reducible apply WD_id); first | (refine WD_cut htb ?_) | (refine WD_cut3 htb ?_) | (refine WD_lens htb ?_) | (refine WD_caps htb ?_) | (refine WD_cps htb ?_) | (refine WD_cpp htb ?_) | (refine WD_api htb ?_) | (refine WD_apz htb ?_) | (refine WD_clr htb ?_)) | ((refine WD_tf (by exact rfl) (by exact rfl) ?_ ?_) <;> (intro hb; (fail_if_success (with_reducible injection hb)); rw [hb]; (try simp only [List.length_map] at hb))) | (((with_reducible apply gC2); exact rfl) <;> (intro hb; rw [hb]))))
    (exact glV [(8, .ptr 8 0)] [(8, .box 28 (cellsGo { g with lins := g.lins.set (idxL g.lins a u i).toNat { nth g.lins (idxL g.lins a u i).toNat with bal := (nth g.lins (idxL g.lins a u i).toNat).bal + n } } 65 75 55)), (65, .arr 63 3 ((g.accs).map rA)), (75, .arr 69 5 ((g.lins.set (idxL g.lins a u i).toNat { nth g.lins (idxL g.lins a u i).toNat with bal := (nth g.lins (idxL g.lins a u i).toNat).bal + n }).map rL)), (55, .arr 76 9 (g.offs.map rO))] (LeV [(65, 50), (75, 51), (55, 52)]))
  · rw [e] at hp; cases hp
theorem debit_yes {g : Led} {a : Int} {u : ByteArray} {i n : Int} {y : Led} (h : debitF g a u i n = (y, 0)) : firstF g a u i n = 0 ∧ (lookF g a u i).2.2 = true ∧ n ≤ (lookF g a u i).1 ∧ y = addL g a u i (-n) := by
  unfold debitF at h
  by_cases h1 : firstF g a u i n = 0
  · rw [if_neg (by simp [h1])] at h
    cases h2 : (lookF g a u i).2.2 with
    | false => rw [if_pos h2] at h; exact absurd (show (70 : Int) = 0 from congrArg Prod.snd h) (by decide)
    | true =>
      rw [if_neg (by simp [h2])] at h
      by_cases h3 : (lookF g a u i).1 < n
      · rw [if_pos h3] at h; exact absurd (show (66 : Int) = 0 from congrArg Prod.snd h) (by decide)
      · rw [if_neg h3] at h
        exact ⟨h1, rfl, by omega, (congrArg Prod.fst h).symm⟩
  · rw [if_pos h1] at h
    exact absurd (congrArg Prod.snd h) h1
theorem credit_yes {g : Led} {a : Int} {u : ByteArray} {i n : Int} {y : Led} (h : creditF g a u i n = (y, 0)) : firstF g a u i n = 0 ∧ (lookF g a u i).2.2 = true ∧ n ≤ (lookF g a u i).2.1 ∧ y = addL g a u i n := by
  have h1 : firstF g a u i n = 0 := by
    refine Classical.byContradiction fun h1 => ?_
    unfold creditF at h
    rw [if_pos h1] at h
    exact absurd (congrArg Prod.snd h) h1
  obtain ⟨hr, hu, hf, hn⟩ := first_iff.1 h1
  rw [credit_eq (rightL_iff.1 hr) hf hu hn] at h
  by_cases c : (lookF g a u i).2.2 = true ∧ n ≤ (lookF g a u i).2.1
  · rw [if_pos c] at h
    exact ⟨h1, c.1, c.2, (congrArg Prod.fst h).symm⟩
  · rw [if_neg c] at h
    exact absurd (congrArg Prod.snd h) (by dsimp only; split <;> decide)
theorem addL_offs (g : Led) (a : Int) (u : ByteArray) (i n : Int) : (addL g a u i n).offs = g.offs := by
  unfold addL
  split
  · rfl
  · split <;> rfl
theorem debitO_pe (g : Led) (a : Int) (u : ByteArray) (i n : Int) (y : Led) (hl : g.lins.length ≤ 1000) (ha : g.accs.length ≤ 1000) (ho : g.offs.length ≤ 1000) (he : debitF g a u i n = (y, 0)) : FnM Tryz.prog 66 [] [aG g, vI a, aT u i, vI n] (.tup [aGo y 63 73 53, vI 0]) [(63, .arr 63 3 ((y).accs.map rA)), (73, .arr 69 5 ((y).lins.map rL)), (53, .arr 76 9 (g.offs.map rO))] := by
  obtain ⟨hc, hp, c, rfl⟩ := debit_yes he
  refine FnM.of htb Tryz.func66 rfl rfl rfl rfl rfl fun cx hN h0 => ?_
  obtain ⟨hr, hu, hf, hn⟩ := first_iff.1 hc
  have hg := rightL_iff.1 hr
  have hd : (firstF g a u i n != 0) = false := by simp [hc]
  have hbd := look_bd hg hf hu
  have hnn := okA_iff.1 hn
  have t1 : (!(lookF g a u i).2.2) = false := by simp [hp]
  have t2 : decide (n > (lookF g a u i).1) = false := by simp; omega
  have hk : AddOk g a u i (0 - n) := ⟨hr, hf, hu, hp, by omega, by omega⟩
  have hw : IntKind.i64.wrap (0 - n) = 0 - n := IntWalk.i64_in _ (by omega)
  have hz : IntKind.i64.wrap (0 - n) = -n := by omega
  rw [← hz]
  rw [hw] at hz
  have hk : AddOk g a u i (IntKind.i64.wrap (0 - n)) := by rw [hw]; exact hk
  (repeat' (first | (refine nx ?_) | (refine WD_unk (by exact rfl) ?_; ((refine WD_tf (by exact rfl) (by exact rfl) ?_ ?_) <;> (intro hb; (fail_if_success (with_reducible injection hb)); rw [hb]; (try simp only [List.length_map] at hb)))) | (refine WD_call (by exact rfl) ?_; first | (refine WD_c0 (first_pm _ _ _ _ _ ?_ ?_) ?_; (exact hyp); (exact hyp)) | (refine WD_c0 (look_pm _ _ _ _ ?_ ?_ ?_) ?_; (exact hyp); (exact hyp); (exact hyp)) | (refine WD_cM (addLo_pm _ _ _ _ _ ?_ ?_ ?_ ?_) ?_; (exact hyp); (exact hyp); (exact hyp); (exact hyp))) | ((with_reducible apply WD_id); first | (refine WD_cut htb ?_) | (refine WD_cut3 htb ?_) | (refine WD_lens htb ?_) | (refine WD_caps htb ?_) | (refine WD_cps htb ?_) | (refine WD_cpp htb ?_) | (refine WD_api htb ?_) | (refine WD_apz htb ?_) | (refine WD_clr htb ?_)) | ((refine WD_tf (by exact rfl) (by exact rfl) ?_ ?_) <;> (intro hb; (fail_if_success (with_reducible injection hb)); rw [hb]; (try simp only [List.length_map] at hb))) | (((with_reducible apply gC2); exact rfl) <;> (intro hb; rw [hb]))))
  (exact glV [(8, .ptr 8 0), (9, vI 0)] [(8, .box 28 (cellsGo (addL g a u i (IntKind.i64.wrap (0 - n))) 63 73 53)), (63, .arr 63 3 ((addL g a u i (IntKind.i64.wrap (0 - n))).accs.map rA)), (73, .arr 69 5 ((addL g a u i (IntKind.i64.wrap (0 - n))).lins.map rL)), (53, .arr 76 9 (g.offs.map rO))] (LeV [(63, 65), (73, 75), (53, 55)]))
theorem creditO_pe (g : Led) (a : Int) (u : ByteArray) (i n : Int) (y : Led) (hl : g.lins.length ≤ 1000) (ha : g.accs.length ≤ 1000) (ho : g.offs.length ≤ 1000) (he : creditF g a u i n = (y, 0)) : FnM Tryz.prog 67 [] [aG g, vI a, aT u i, vI n] (.tup [aGo y 64 74 54, vI 0]) [(64, .arr 63 3 ((y).accs.map rA)), (74, .arr 69 5 ((y).lins.map rL)), (54, .arr 76 9 (g.offs.map rO))] := by
  obtain ⟨hc, hp, c, rfl⟩ := credit_yes he
  refine FnM.of htb Tryz.func67 rfl rfl rfl rfl rfl fun cx hN h0 => ?_
  obtain ⟨hr, hu, hf, hn⟩ := first_iff.1 hc
  have hg := rightL_iff.1 hr
  have hd : (firstF g a u i n != 0) = false := by simp [hc]
  have hbd := look_bd hg hf hu
  have hnn := okA_iff.1 hn
  have t1 : (!(lookF g a u i).2.2) = false := by simp [hp]
  have t2 : decide (n > (lookF g a u i).2.1) = false := by simp; omega
  have hk : AddOk g a u i n := ⟨hr, hf, hu, hp, by omega, c⟩
  (repeat' (first | (refine nx ?_) | (refine WD_unk (by exact rfl) ?_; ((refine WD_tf (by exact rfl) (by exact rfl) ?_ ?_) <;> (intro hb; (fail_if_success (with_reducible injection hb)); rw [hb]; (try simp only [List.length_map] at hb)))) | (refine WD_call (by exact rfl) ?_; first | (refine WD_c0 (first_pm _ _ _ _ _ ?_ ?_) ?_; (exact hyp); (exact hyp)) | (refine WD_c0 (look_pm _ _ _ _ ?_ ?_ ?_) ?_; (exact hyp); (exact hyp); (exact hyp)) | (refine WD_cM (addLo_pm _ _ _ _ _ ?_ ?_ ?_ ?_) ?_; (exact hyp); (exact hyp); (exact hyp); (exact hyp))) | ((with_reducible apply WD_id); first | (refine WD_cut htb ?_) | (refine WD_cut3 htb ?_) | (refine WD_lens htb ?_) | (refine WD_caps htb ?_) | (refine WD_cps htb ?_) | (refine WD_cpp htb ?_) | (refine WD_api htb ?_) | (refine WD_apz htb ?_) | (refine WD_clr htb ?_)) | ((refine WD_tf (by exact rfl) (by exact rfl) ?_ ?_) <;> (intro hb; (fail_if_success (with_reducible injection hb)); rw [hb]; (try simp only [List.length_map] at hb))) | (((with_reducible apply gC2); exact rfl) <;> (intro hb; rw [hb]))))
  (exact glV [(8, .ptr 8 0), (9, vI 0)] [(8, .box 28 (cellsGo (addL g a u i n) 64 74 54)), (64, .arr 63 3 ((addL g a u i n).accs.map rA)), (74, .arr 69 5 ((addL g a u i n).lins.map rL)), (54, .arr 76 9 (g.offs.map rO))] (LeV [(64, 65), (74, 75), (54, 55)]))
end Go.Proofs.YtgebgpdoddjfhaaGreat
