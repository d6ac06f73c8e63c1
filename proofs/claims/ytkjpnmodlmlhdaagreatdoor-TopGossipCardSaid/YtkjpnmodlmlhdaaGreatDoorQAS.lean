/- Plain law and walk of TopGossip. -/
import Derived.Test.YtkjpnmodlmlhdaaGreatDoorQAM
import Derived.Test.YtkjpnmodlmlhdaaGreatDoorQAQ
import Derived.Test.YtkjpnmodlmlhdaaGreatDoorQAR
namespace Go.Proofs.YtkjpnmodlmlhdaaGreatDoor
set_option linter.unusedSimpArgs false
set_option linter.unusedVariables false
set_option linter.unnecessarySimpa false
set_option linter.unusedSectionVars false
set_option maxRecDepth 100000
open Go Go.RowKit Go.Am Go.Proofs.Grow Gos
section
variable {tag : Tagf} {n : Nat}
/-- Declarations are added, one after the other. -/
def adds (r : Reg) (D : List Dc) : Reg := D.foldl addG r
theorem adds_snoc (r : Reg) (D : List Dc) (d : Dc) : adds r (D ++ [d]) = addG (adds r D) d := by unfold adds; rw [List.foldl_append]; rfl
theorem adds_take {r : Reg} {D : List Dc} {k : Nat} (h : k < D.length) : adds r (D.take (k + 1)) = addG (adds r (D.take k)) (nth D k) := by
  rw [List.take_succ_eq_append_getElem h, adds_snoc, nth_getElem _ _ h]
theorem adds_ok {r : Reg} {T : Dc → Prop} (h : RegOK tag n r T) : ∀ (D : List Dc), (∀ d ∈ D, GoodD tag n d) → RegOK tag n (adds r D) fun d => T d ∨ d ∈ D := by
  intro D
  induction D generalizing r T with
  | nil => intro _; exact h.congr fun d => by simp
  | cons x D ih =>
    intro hD
    have h1 := reg_add h (hD x (by simp))
    have h2 := ih h1 fun d hd => hD d (by simp [hd])
    exact h2.congr fun d => by simp only [List.mem_cons, or_assoc]
/-- What a node passes on to another one. -/
def pasF (a b : Reg) : Reg := adds b (diffF a b)
theorem pas_ok {a b : Reg} {S T : Dc → Prop} (h : RegOK tag n a S) (g : RegOK tag n b T) : RegOK tag n (pasF a b) fun d => S d ∨ T d :=
  reg_diff h g (adds_ok g _ fun d hd => (diff_good h g d hd).1)
theorem gossip_eq {x y z : Reg} {S0 S1 S2 : Dc → Prop} (hx : RegOK tag n x S0) (hy : RegOK tag n y S1) (hz : RegOK tag n z S2) :
    let y1 := pasF x y; let z1 := pasF y1 z; let x1 := pasF z1 x; let y2 := pasF x1 y1; let y3 := pasF z1 y2
    mergeF x1 y3 = y3 ∧ mergeF z1 y3 = y3 := by
  intro y1 z1 x1 y2 y3
  have e : ∀ d, ((S0 d ∨ S1 d) ∨ S2 d) ↔ ((S0 d ∨ S1 d) ∨ S2 d) := fun _ => Iff.rfl
  have hy1 : RegOK tag n y1 fun d => S0 d ∨ S1 d := pas_ok hx hy
  have hz1 : RegOK tag n z1 fun d => (S0 d ∨ S1 d) ∨ S2 d := pas_ok hy1 hz
  have hx1 : RegOK tag n x1 fun d => (S0 d ∨ S1 d) ∨ S2 d := (pas_ok hz1 hx).congr fun d => by
    by_cases h0 : S0 d <;> by_cases h1 : S1 d <;> by_cases h2 : S2 d <;> simp [h0, h1, h2]
  have hy2 : RegOK tag n y2 fun d => (S0 d ∨ S1 d) ∨ S2 d := (pas_ok hx1 hy1).congr fun d => by
    by_cases h0 : S0 d <;> by_cases h1 : S1 d <;> by_cases h2 : S2 d <;> simp [h0, h1, h2]
  have hy3 : RegOK tag n y3 fun d => (S0 d ∨ S1 d) ∨ S2 d := (pas_ok hz1 hy2).congr fun d => by
    by_cases h0 : S0 d <;> by_cases h1 : S1 d <;> by_cases h2 : S2 d <;> simp [h0, h1, h2]
  exact ⟨reg_eq ((reg_merge hx1 hy3).congr fun d => or_self_iff) hy3, reg_eq ((reg_merge hz1 hy3).congr fun d => or_self_iff) hy3⟩
end
abbrev regC (r : Reg) : AV := .d (.rows 1 (r.map rDs))
/-- The three registries, while declarations reach them. -/
def adN (l : List Dc) (n : Nat) (s : Sc) : Nat → (Reg × Reg × Reg) × Sc
  | 0 => ((List.replicate n [], List.replicate n [], List.replicate n []), s)
  | k + 1 =>
    let p := adN l n s k
    let i := p.2.n 3
    ((if i = 0 then (addG p.1.1 (nth l k), p.1.2.1, p.1.2.2) else if i = 1 then (p.1.1, addG p.1.2.1 (nth l k), p.1.2.2) else (p.1.1, p.1.2.1, addG p.1.2.2 (nth l k))), p.2.x 3)
abbrev Some3 (tag : Tagf) (n : Nat) (r : Reg × Reg × Reg) : Prop := (∃ S, RegOK tag n r.1 S) ∧ (∃ S, RegOK tag n r.2.1 S) ∧ ∃ S, RegOK tag n r.2.2 S
theorem adN_ok {tag : Tagf} {n : Nat} {l : List Dc} {s : Sc} (hs : s.ok) (hl : ∀ d ∈ l, GoodD tag n d) : ∀ k, k ≤ l.length → Some3 tag n (adN l n s k).1 ∧ (adN l n s k).2.ok
  | 0, _ => ⟨⟨⟨_, reg_empty⟩, ⟨_, reg_empty⟩, ⟨_, reg_empty⟩⟩, hs⟩
  | k + 1, hk => by
    obtain ⟨⟨⟨A, ha⟩, ⟨B, hb⟩, ⟨C, hc⟩⟩, ho⟩ := adN_ok hs hl k (by omega)
    have hd := hl _ (nth_mem l k (by omega))
    refine ⟨?_, Sc.ok_x ho _⟩
    unfold adN
    dsimp only
    split
    · exact ⟨⟨_, reg_add ha hd⟩, ⟨B, hb⟩, ⟨C, hc⟩⟩
    split
    · exact ⟨⟨A, ha⟩, ⟨_, reg_add hb hd⟩, ⟨C, hc⟩⟩
    · exact ⟨⟨A, ha⟩, ⟨B, hb⟩, ⟨_, reg_add hc hd⟩⟩
def em3 (n : Nat) : Nat → List AV
  | 0 => [.d (.v (.slice none 0 0)), .d (.v (.slice none 0 0)), .d (.v (.slice none 0 0))]
  | 1 => [regC (List.replicate n []), .d (.v (.slice none 0 0)), .d (.v (.slice none 0 0))]
  | 2 => [regC (List.replicate n []), regC (List.replicate n []), .d (.v (.slice none 0 0))]
  | _ => [regC (List.replicate n []), regC (List.replicate n []), regC (List.replicate n [])]
abbrev c3 (r : Reg × Reg × Reg) : List AV := [regC r.1, regC r.2.1, regC r.2.2]
def ps3 (x y z y1 z1 x1 y2 y3 : Reg) : Nat → List AV
  | 0 => [regC x, regC y, regC z]
  | 1 => [regC x, regC y1, regC z]
  | 2 => [regC x, regC y1, regC z1]
  | 3 => [regC x1, regC y1, regC z1]
  | 4 => [regC x1, regC y2, regC z1]
  | _ => [regC x1, regC y3, regC z1]
def ms3 (x1 y3 z1 : Reg) : Nat → List AV
  | 0 => [regC x1, regC y3, regC z1]
  | 1 => [regC y3, regC y3, regC z1]
  | _ => [regC y3, regC y3, regC y3]
def tr3 (b : Nat) (x y z q : Reg) : List AV := match b with
  | 0 => [regC q, regC y, regC z]
  | 1 => [regC x, regC q, regC z]
  | _ => [regC x, regC y, regC q]
def encP (p : List Int) : List D := p.map dI
structure PasH (ks : List Int) (a b r : Reg) (D : List Dc) : Prop where
  len : D.length ≤ 1000
  dif : FnM Tryz.prog 11 [] [aR a, aR b] (lD D) []
  add : ∀ j, j < D.length → FnM Tryz.prog 10 [] [lU ks, aR (adds b (D.take j)), aD (nth D j)] (.tup [aR (adds b (D.take (j + 1))), vI 0]) []
  fin : adds b (D.take D.length) = r
theorem pas_h {ks : List Int} {a b : Reg} {S T : Dc → Prop} (hm : 1 ≤ ks.length ∧ ks.length ≤ 5) (h : RegOK (tagF ks) ks.length a S) (g : RegOK (tagF ks) ks.length b T) : PasH ks a b (pasF a b) (diffF a b) := by
  have hl : (diffF a b).length ≤ 1000 := by
    have := diffTo_len b (h.rok hm.2) a.length (Nat.le_refl _)
    have := h.len
    unfold diffF; omega
  refine ⟨hl, diff_m a b ⟨h.rok hm.2, g.rok hm.2, by rw [g.len, h.len]⟩, fun j hj => ?_, ?_⟩
  · have hq := adds_ok g ((diffF a b).take j) fun d hd => (diff_good h g d (List.mem_of_mem_take hd)).1
    rw [adds_take hj]
    exact add_m ks _ _ ⟨⟨hq.rok hm.2, by rw [hq.len]; exact hm.1⟩, hq.len.symm⟩ (diff_good h g _ (nth_mem _ _ hj)).1
  · rw [List.take_length]; rfl
set_option maxHeartbeats 16000000 in
theorem gossip_m (t : List Int) (awk_m : FnM Tryz.prog 22 [] [] (vB true) []) : FnM Tryz.prog 3 [] [lI t] (vB true) [] := by
  have hs0 : Sc.ok ⟨t.take 400, 0⟩ := ⟨Nat.zero_le _, by rw [List.length_take]; omega⟩
  have hn := rgN_bd (s := ⟨t.take 400, 0⟩) (b := 5) (by decide)
  have rg5_m := tRg_m ⟨t.take 400, 0⟩ 5 5 hs0 (by decide) (by decide) rfl
  have hs1 := Sc.ok_x hs0 ((5 : Nat) : Int)
  generalize rgN ⟨t.take 400, 0⟩ 5 = n at *
  generalize hq1 : Sc.x ⟨t.take 400, 0⟩ ((5 : Nat) : Int) = s1 at *
  have ksZ_m := keys_m s1 n hs1 hn.2
  obtain ⟨hkl, hs2⟩ := keyN_spec hs1 n
  generalize keyN s1 n = q at *
  obtain ⟨ks, s2⟩ := q
  dsimp only at hkl hs2 ksZ_m
  subst hkl
  have dsZ_m := dcs_m s2 ks hs2 (by omega) (by omega)
  have hb11 := s2.n_bd (k := 11) (by decide)
  obtain ⟨⟨hg, hs3⟩, hll⟩ := dcsN_spec (Sc.ok_x hs2 11) (by omega : 1 ≤ ks.length) (by omega) (s2.n 11).toNat
  generalize dcsN ks (s2.x 11) (s2.n 11).toNat = q at *
  obtain ⟨l, s3⟩ := q
  dsimp only at hg hs3 hll dsZ_m
  have hl10 : l.length ≤ 10 := by omega
  have hm1 : 1 ≤ ks.length := by omega
  have hm5 : ks.length ≤ 5 := by omega
  have emZ_m := empty_m ks.length ⟨hm1, hm5⟩
  refine FnM.of htb Tryz.func3 rfl rfl rfl rfl rfl fun cx hN h0 => ?_
  (repeat' (first | ((with_reducible apply WD_id); first | (refine WD_sum ?_) | (refine WD_nxt htb (by exact rfl) ?_) | (refine WD_call (by exact rfl) ?_; first | (refine WD_cM (tNew_m _) ?_) | (refine WD_cM (rg5_m) ?_) | (refine WD_cM (ksZ_m) ?_) | (refine WD_cM (dsZ_m) ?_)) | (refine WD_idx htb ?_) | (refine WD_ixp htb ?_) | (refine WD_t (by exact rfl) (by exact rfl) (by exact known) fun hb => ?_; rw [hb]; clear hb)) | (with_reducible apply WA_seq) | ((with_reducible apply gR hmix hN); exact (by kernel_rfl); (try dsimp only [List.append_eq, List.cons_append, List.nil_append])) | ((with_reducible apply WD_end); (first | exact no_draw | (intro _; kernel_rfl)); try simp only [thn, inB, List.length_map, List.cons_append, List.nil_append]) | ((with_reducible apply gCt); exact rfl; exact rfl) | ((with_reducible apply gCf); exact rfl; exact rfl) | ((with_reducible apply gCk); exact rfl; exact known; intro hb; rw [hb]; clear hb) | ((with_reducible apply gCn); exact rfl; exact known; intro hb; rw [hb]; clear hb) | (with_reducible apply WA_block) | ((with_reducible first | apply WA_skip | apply WA_ret | apply WA_exit | apply WA_label); try simp only [thn, inB, List.length_map, List.cons_append, List.nil_append])))
  (refine WA_forV (3) [41] [6, 9000] (fun k => [(41, vI k)]) (fun k => [(9000, tpB s3), (6, .box 33 (em3 ks.length k))]) (fun k => True) ?h0 ?_)
  case h0 => trivial
  intro k hk _
  obtain rfl | rfl | rfl | rfl : k = 0 ∨ k = 1 ∨ k = 2 ∨ k = 3 := by omega
  · have t1 : decide (((0 : Nat) : Int) < 3) = true := by decide
    (repeat' (first | ((with_reducible apply WD_id); first | (refine WD_sum ?_) | (refine WD_nxt htb (by exact rfl) ?_) | (refine WD_idx htb ?_) | (refine WD_ixp htb ?_) | (refine WD_t (by exact rfl) (by exact rfl) (by exact known) fun hb => ?_; rw [hb]; clear hb)) | (with_reducible apply WA_seq) | ((with_reducible apply gR hmix hN); exact (by kernel_rfl); (try dsimp only [List.append_eq, List.cons_append, List.nil_append])) | ((with_reducible apply WD_end); (first | exact no_draw | (intro _; kernel_rfl)); try simp only [thn, inB, List.length_map, List.cons_append, List.nil_append]) | ((with_reducible apply gCt); exact rfl; exact rfl) | ((with_reducible apply gCf); exact rfl; exact rfl) | ((with_reducible apply gCk); exact rfl; exact known; intro hb; rw [hb]; clear hb) | ((with_reducible apply gCn); exact rfl; exact known; intro hb; rw [hb]; clear hb) | (with_reducible apply WA_block) | ((with_reducible first | apply WA_skip | apply WA_ret | apply WA_exit | apply WA_label); try simp only [thn, inB, List.length_map, List.cons_append, List.nil_append])))
    rw [List.length_map]
    (repeat' (first | ((with_reducible apply WD_id); first | (refine WD_sum ?_) | (refine WD_nxt htb (by exact rfl) ?_) | (refine WD_call (by exact rfl) ?_; first | (refine WD_c0 (emZ_m) ?_)) | (refine WD_idx htb ?_) | (refine WD_ixp htb ?_) | (refine WD_t (by exact rfl) (by exact rfl) (by exact known) fun hb => ?_; rw [hb]; clear hb)) | (with_reducible apply WA_seq) | ((with_reducible apply gR hmix hN); exact (by kernel_rfl); (try dsimp only [List.append_eq, List.cons_append, List.nil_append])) | ((with_reducible apply WD_end); (first | exact no_draw | (intro _; kernel_rfl)); try simp only [thn, inB, List.length_map, List.cons_append, List.nil_append]) | ((with_reducible apply gCt); exact rfl; exact rfl) | ((with_reducible apply gCf); exact rfl; exact rfl) | ((with_reducible apply gCk); exact rfl; exact known; intro hb; rw [hb]; clear hb) | ((with_reducible apply gCn); exact rfl; exact known; intro hb; rw [hb]; clear hb) | (with_reducible apply WA_block) | ((with_reducible first | apply WA_skip | apply WA_ret | apply WA_exit | apply WA_label); try simp only [thn, inB, List.length_map, List.cons_append, List.nil_append])))
    refine ⟨by omega, trivial, ?_⟩
    (exact LeV [])
  · have t1 : decide (((1 : Nat) : Int) < 3) = true := by decide
    (repeat' (first | ((with_reducible apply WD_id); first | (refine WD_sum ?_) | (refine WD_nxt htb (by exact rfl) ?_) | (refine WD_idx htb ?_) | (refine WD_ixp htb ?_) | (refine WD_t (by exact rfl) (by exact rfl) (by exact known) fun hb => ?_; rw [hb]; clear hb)) | (with_reducible apply WA_seq) | ((with_reducible apply gR hmix hN); exact (by kernel_rfl); (try dsimp only [List.append_eq, List.cons_append, List.nil_append])) | ((with_reducible apply WD_end); (first | exact no_draw | (intro _; kernel_rfl)); try simp only [thn, inB, List.length_map, List.cons_append, List.nil_append]) | ((with_reducible apply gCt); exact rfl; exact rfl) | ((with_reducible apply gCf); exact rfl; exact rfl) | ((with_reducible apply gCk); exact rfl; exact known; intro hb; rw [hb]; clear hb) | ((with_reducible apply gCn); exact rfl; exact known; intro hb; rw [hb]; clear hb) | (with_reducible apply WA_block) | ((with_reducible first | apply WA_skip | apply WA_ret | apply WA_exit | apply WA_label); try simp only [thn, inB, List.length_map, List.cons_append, List.nil_append])))
    rw [List.length_map]
    (repeat' (first | ((with_reducible apply WD_id); first | (refine WD_sum ?_) | (refine WD_nxt htb (by exact rfl) ?_) | (refine WD_call (by exact rfl) ?_; first | (refine WD_c0 (emZ_m) ?_)) | (refine WD_idx htb ?_) | (refine WD_ixp htb ?_) | (refine WD_t (by exact rfl) (by exact rfl) (by exact known) fun hb => ?_; rw [hb]; clear hb)) | (with_reducible apply WA_seq) | ((with_reducible apply gR hmix hN); exact (by kernel_rfl); (try dsimp only [List.append_eq, List.cons_append, List.nil_append])) | ((with_reducible apply WD_end); (first | exact no_draw | (intro _; kernel_rfl)); try simp only [thn, inB, List.length_map, List.cons_append, List.nil_append]) | ((with_reducible apply gCt); exact rfl; exact rfl) | ((with_reducible apply gCf); exact rfl; exact rfl) | ((with_reducible apply gCk); exact rfl; exact known; intro hb; rw [hb]; clear hb) | ((with_reducible apply gCn); exact rfl; exact known; intro hb; rw [hb]; clear hb) | (with_reducible apply WA_block) | ((with_reducible first | apply WA_skip | apply WA_ret | apply WA_exit | apply WA_label); try simp only [thn, inB, List.length_map, List.cons_append, List.nil_append])))
    refine ⟨by omega, trivial, ?_⟩
    (exact LeV [])
  · have t1 : decide (((2 : Nat) : Int) < 3) = true := by decide
    (repeat' (first | ((with_reducible apply WD_id); first | (refine WD_sum ?_) | (refine WD_nxt htb (by exact rfl) ?_) | (refine WD_idx htb ?_) | (refine WD_ixp htb ?_) | (refine WD_t (by exact rfl) (by exact rfl) (by exact known) fun hb => ?_; rw [hb]; clear hb)) | (with_reducible apply WA_seq) | ((with_reducible apply gR hmix hN); exact (by kernel_rfl); (try dsimp only [List.append_eq, List.cons_append, List.nil_append])) | ((with_reducible apply WD_end); (first | exact no_draw | (intro _; kernel_rfl)); try simp only [thn, inB, List.length_map, List.cons_append, List.nil_append]) | ((with_reducible apply gCt); exact rfl; exact rfl) | ((with_reducible apply gCf); exact rfl; exact rfl) | ((with_reducible apply gCk); exact rfl; exact known; intro hb; rw [hb]; clear hb) | ((with_reducible apply gCn); exact rfl; exact known; intro hb; rw [hb]; clear hb) | (with_reducible apply WA_block) | ((with_reducible first | apply WA_skip | apply WA_ret | apply WA_exit | apply WA_label); try simp only [thn, inB, List.length_map, List.cons_append, List.nil_append])))
    rw [List.length_map]
    (repeat' (first | ((with_reducible apply WD_id); first | (refine WD_sum ?_) | (refine WD_nxt htb (by exact rfl) ?_) | (refine WD_call (by exact rfl) ?_; first | (refine WD_c0 (emZ_m) ?_)) | (refine WD_idx htb ?_) | (refine WD_ixp htb ?_) | (refine WD_t (by exact rfl) (by exact rfl) (by exact known) fun hb => ?_; rw [hb]; clear hb)) | (with_reducible apply WA_seq) | ((with_reducible apply gR hmix hN); exact (by kernel_rfl); (try dsimp only [List.append_eq, List.cons_append, List.nil_append])) | ((with_reducible apply WD_end); (first | exact no_draw | (intro _; kernel_rfl)); try simp only [thn, inB, List.length_map, List.cons_append, List.nil_append]) | ((with_reducible apply gCt); exact rfl; exact rfl) | ((with_reducible apply gCf); exact rfl; exact rfl) | ((with_reducible apply gCk); exact rfl; exact known; intro hb; rw [hb]; clear hb) | ((with_reducible apply gCn); exact rfl; exact known; intro hb; rw [hb]; clear hb) | (with_reducible apply WA_block) | ((with_reducible first | apply WA_skip | apply WA_ret | apply WA_exit | apply WA_label); try simp only [thn, inB, List.length_map, List.cons_append, List.nil_append])))
    refine ⟨by omega, trivial, ?_⟩
    (exact LeV [])
  have t1 : decide (((3 : Nat) : Int) < 3) = false := by decide
  (repeat' (first | ((with_reducible apply WD_id); first | (refine WD_sum ?_) | (refine WD_nxt htb (by exact rfl) ?_) | (refine WD_idx htb ?_) | (refine WD_ixp htb ?_) | (refine WD_t (by exact rfl) (by exact rfl) (by exact known) fun hb => ?_; rw [hb]; clear hb)) | (with_reducible apply WA_seq) | ((with_reducible apply gR hmix hN); exact (by kernel_rfl); (try dsimp only [List.append_eq, List.cons_append, List.nil_append])) | ((with_reducible apply WD_end); (first | exact no_draw | (intro _; kernel_rfl)); try simp only [thn, inB, List.length_map, List.cons_append, List.nil_append]) | ((with_reducible apply gCt); exact rfl; exact rfl) | ((with_reducible apply gCf); exact rfl; exact rfl) | ((with_reducible apply gCk); exact rfl; exact known; intro hb; rw [hb]; clear hb) | ((with_reducible apply gCn); exact rfl; exact known; intro hb; rw [hb]; clear hb) | (with_reducible apply WA_block) | ((with_reducible first | apply WA_skip | apply WA_ret | apply WA_exit | apply WA_label); try simp only [thn, inB, List.length_map, List.cons_append, List.nil_append])))
  refine WA_le (s' := ⟨[(52, vI 0), (51, vI (l.length : Int)), (50, lD l), (6, .ptr 6 0), (4, lU ks), (3, .ptr 9000 0), (2, vB false)], [(9000, tpB s3), (6, .box 33 (c3 (adN l ks.length s3 0).1))]⟩) (LeV []) ?_
  (refine WA_forV (l.length) [52] [6, 9000] (fun k => [(52, vI k)]) (fun k => [(9000, tpB (adN l ks.length s3 k).2), (6, .box 33 (c3 (adN l ks.length s3 k).1))]) (fun k => True) ?h0 ?_)
  case h0 => trivial
  intro k hk _
  have t0 : ((0 : Int) != 0) = false := rfl
  obtain ⟨hS, hso⟩ := adN_ok (n := ks.length) hs3 hg k hk
  rcases Nat.lt_or_ge k l.length with hk' | hk'
  · have t1 : decide ((k : Int) < (l.length : Int)) = true := by simp only [decide_eq_true_eq]; omega
    have hst : adN l ks.length s3 (k + 1) = ((if (adN l ks.length s3 k).2.n 3 = 0 then (addG (adN l ks.length s3 k).1.1 (nth l k), (adN l ks.length s3 k).1.2.1, (adN l ks.length s3 k).1.2.2) else if (adN l ks.length s3 k).2.n 3 = 1 then ((adN l ks.length s3 k).1.1, addG (adN l ks.length s3 k).1.2.1 (nth l k), (adN l ks.length s3 k).1.2.2) else ((adN l ks.length s3 k).1.1, (adN l ks.length s3 k).1.2.1, addG (adN l ks.length s3 k).1.2.2 (nth l k))), (adN l ks.length s3 k).2.x 3) := rfl
    rw [hst]
    have hd := hg _ (nth_mem l k hk')
    generalize adN l ks.length s3 k = p at *
    obtain ⟨⟨x, y, z⟩, sk⟩ := p
    obtain ⟨⟨A, hA⟩, ⟨B, hB⟩, ⟨C, hC⟩⟩ := hS
    dsimp only at hA hB hC hso ⊢
    have hb3 := sk.n_bd (k := 3) (by decide)
    have n3 := tN_m sk 3 hso (by decide) (by decide)
    have ax := add_m ks x (nth l k) ⟨⟨hA.rok hm5, by rw [hA.len]; exact hm1⟩, hA.len.symm⟩ hd
    have ay := add_m ks y (nth l k) ⟨⟨hB.rok hm5, by rw [hB.len]; exact hm1⟩, hB.len.symm⟩ hd
    have az := add_m ks z (nth l k) ⟨⟨hC.rok hm5, by rw [hC.len]; exact hm1⟩, hC.len.symm⟩ hd
    by_cases i0 : sk.n 3 = 0
    · rw [i0] at n3
      rw [if_pos i0]
      have n3Z_m := n3
      have adZ_m := ax
      (repeat' (first | ((with_reducible apply WD_id); first | (refine WD_sum ?_) | (refine WD_nxt htb (by exact rfl) ?_) | (refine WD_call (by exact rfl) ?_; first | (refine WD_cM (n3Z_m) ?_) | (refine WD_c0 (adZ_m) ?_)) | (refine WD_idx htb ?_) | (refine WD_ixp htb ?_) | (refine WD_t (by exact rfl) (by exact rfl) (by exact known) fun hb => ?_; rw [hb]; clear hb)) | (with_reducible apply WA_seq) | ((with_reducible apply gR hmix hN); exact (by kernel_rfl); (try dsimp only [List.append_eq, List.cons_append, List.nil_append])) | ((with_reducible apply WD_end); (first | exact no_draw | (intro _; kernel_rfl)); try simp only [thn, inB, List.length_map, List.cons_append, List.nil_append]) | ((with_reducible apply gCt); exact rfl; exact rfl) | ((with_reducible apply gCf); exact rfl; exact rfl) | ((with_reducible apply gCk); exact rfl; exact known; intro hb; rw [hb]; clear hb) | ((with_reducible apply gCn); exact rfl; exact known; intro hb; rw [hb]; clear hb) | (with_reducible apply WA_block) | ((with_reducible first | apply WA_skip | apply WA_ret | apply WA_exit | apply WA_label); try simp only [thn, inB, List.length_map, List.cons_append, List.nil_append])))
      refine ⟨hk', trivial, ?_⟩
      (exact LeV [])
    · by_cases i1 : sk.n 3 = 1
      · rw [i1] at n3
        rw [if_neg i0, if_pos i1]
        have n3Z_m := n3
        have adZ_m := ay
        (repeat' (first | ((with_reducible apply WD_id); first | (refine WD_sum ?_) | (refine WD_nxt htb (by exact rfl) ?_) | (refine WD_call (by exact rfl) ?_; first | (refine WD_cM (n3Z_m) ?_) | (refine WD_c0 (adZ_m) ?_)) | (refine WD_idx htb ?_) | (refine WD_ixp htb ?_) | (refine WD_t (by exact rfl) (by exact rfl) (by exact known) fun hb => ?_; rw [hb]; clear hb)) | (with_reducible apply WA_seq) | ((with_reducible apply gR hmix hN); exact (by kernel_rfl); (try dsimp only [List.append_eq, List.cons_append, List.nil_append])) | ((with_reducible apply WD_end); (first | exact no_draw | (intro _; kernel_rfl)); try simp only [thn, inB, List.length_map, List.cons_append, List.nil_append]) | ((with_reducible apply gCt); exact rfl; exact rfl) | ((with_reducible apply gCf); exact rfl; exact rfl) | ((with_reducible apply gCk); exact rfl; exact known; intro hb; rw [hb]; clear hb) | ((with_reducible apply gCn); exact rfl; exact known; intro hb; rw [hb]; clear hb) | (with_reducible apply WA_block) | ((with_reducible first | apply WA_skip | apply WA_ret | apply WA_exit | apply WA_label); try simp only [thn, inB, List.length_map, List.cons_append, List.nil_append])))
        refine ⟨hk', trivial, ?_⟩
        (exact LeV [])
      · have i2 : sk.n 3 = 2 := by omega
        rw [i2] at n3
        rw [if_neg i0, if_neg i1]
        have n3Z_m := n3
        have adZ_m := az
        (repeat' (first | ((with_reducible apply WD_id); first | (refine WD_sum ?_) | (refine WD_nxt htb (by exact rfl) ?_) | (refine WD_call (by exact rfl) ?_; first | (refine WD_cM (n3Z_m) ?_) | (refine WD_c0 (adZ_m) ?_)) | (refine WD_idx htb ?_) | (refine WD_ixp htb ?_) | (refine WD_t (by exact rfl) (by exact rfl) (by exact known) fun hb => ?_; rw [hb]; clear hb)) | (with_reducible apply WA_seq) | ((with_reducible apply gR hmix hN); exact (by kernel_rfl); (try dsimp only [List.append_eq, List.cons_append, List.nil_append])) | ((with_reducible apply WD_end); (first | exact no_draw | (intro _; kernel_rfl)); try simp only [thn, inB, List.length_map, List.cons_append, List.nil_append]) | ((with_reducible apply gCt); exact rfl; exact rfl) | ((with_reducible apply gCf); exact rfl; exact rfl) | ((with_reducible apply gCk); exact rfl; exact known; intro hb; rw [hb]; clear hb) | ((with_reducible apply gCn); exact rfl; exact known; intro hb; rw [hb]; clear hb) | (with_reducible apply WA_block) | ((with_reducible first | apply WA_skip | apply WA_ret | apply WA_exit | apply WA_label); try simp only [thn, inB, List.length_map, List.cons_append, List.nil_append])))
        refine ⟨hk', trivial, ?_⟩
        (exact LeV [])
  have t1 : decide ((k : Int) < (l.length : Int)) = false := by simp only [decide_eq_false_iff_not]; omega
  clear hk hk'
  generalize adN l ks.length s3 k = p at *
  obtain ⟨⟨x, y, z⟩, sk⟩ := p
  obtain ⟨⟨A, hA⟩, ⟨B, hB⟩, ⟨C, hC⟩⟩ := hS
  dsimp only at hA hB hC hso ⊢
  (repeat' (first | ((with_reducible apply WD_id); first | (refine WD_sum ?_) | (refine WD_nxt htb (by exact rfl) ?_) | (refine WD_idx htb ?_) | (refine WD_ixp htb ?_) | (refine WD_t (by exact rfl) (by exact rfl) (by exact known) fun hb => ?_; rw [hb]; clear hb)) | (with_reducible apply WA_seq) | ((with_reducible apply gR hmix hN); exact (by kernel_rfl); (try dsimp only [List.append_eq, List.cons_append, List.nil_append])) | ((with_reducible apply WD_end); (first | exact no_draw | (intro _; kernel_rfl)); try simp only [thn, inB, List.length_map, List.cons_append, List.nil_append]) | ((with_reducible apply gCt); exact rfl; exact rfl) | ((with_reducible apply gCf); exact rfl; exact rfl) | ((with_reducible apply gCk); exact rfl; exact known; intro hb; rw [hb]; clear hb) | ((with_reducible apply gCn); exact rfl; exact known; intro hb; rw [hb]; clear hb) | (with_reducible apply WA_block) | ((with_reducible first | apply WA_skip | apply WA_ret | apply WA_exit | apply WA_label); try simp only [thn, inB, List.length_map, List.cons_append, List.nil_append])))
  have hm : 1 ≤ ks.length ∧ ks.length ≤ 5 := ⟨hm1, hm5⟩
  have g1 := pas_ok hA hB
  have g2 := pas_ok g1 hC
  have g3 := pas_ok g2 hA
  have g4 := pas_ok g3 g1
  have g5 := pas_ok g2 g4
  have d1 := pas_h hm hA hB
  have d2 := pas_h hm g1 hC
  have d3 := pas_h hm g2 hA
  have d4 := pas_h hm g3 g1
  have d5 := pas_h hm g2 g4
  obtain ⟨hq1, hq2⟩ := gossip_eq hA hB hC
  generalize pasF x y = y1 at *
  generalize pasF y1 z = z1 at *
  generalize pasF z1 x = x1 at *
  generalize pasF x1 y1 = y2 at *
  generalize pasF z1 y2 = y3 at *
  generalize diffF x y = D1 at *
  generalize diffF y1 z = D2 at *
  generalize diffF z1 x = D3 at *
  generalize diffF x1 y1 = D4 at *
  generalize diffF z1 y2 = D5 at *
  refine WA_le (s' := ⟨[(80, vI 0), (79, vI 5), (78, .d (.rows 2 (prsG.map encP))), (6, .ptr 6 0), (4, lU ks), (2, vB false)], [(6, .box 33 (ps3 x y z y1 z1 x1 y2 y3 0))]⟩) (LeV []) ?_
  (refine WA_forV (5) [80] [6] (fun k => [(80, vI k)]) (fun k => [(6, .box 33 (ps3 x y z y1 z1 x1 y2 y3 k))]) (fun k => True) ?h0 ?_)
  case h0 => trivial
  intro k hk _
  obtain rfl | rfl | rfl | rfl | rfl | rfl : k = 0 ∨ k = 1 ∨ k = 2 ∨ k = 3 ∨ k = 4 ∨ k = 5 := by omega
  · have t1 : decide (((0 : Nat) : Int) < 5) = true := by decide
    have dfZ_m := d1.dif
    have hDl := d1.len
    have hfin := d1.fin
    have hadd := d1.add
    (repeat' (first | ((with_reducible apply WD_id); first | (refine WD_sum ?_) | (refine WD_nxt htb (by exact rfl) ?_) | (refine WD_call (by exact rfl) ?_; first | (refine WD_c0 (dfZ_m) ?_)) | (refine WD_row htb prsG encP ?_ (hn := by first | (exact by decide) | (simp only [prsG, List.length_cons, List.length_nil]; omega))) | (refine WD_idx htb ?_) | (refine WD_ixp htb ?_) | (refine WD_t (by exact rfl) (by exact rfl) (by exact known) fun hb => ?_; rw [hb]; clear hb)) | (with_reducible apply WA_seq) | ((with_reducible apply gR hmix hN); exact (by kernel_rfl); (try dsimp only [List.append_eq, List.cons_append, List.nil_append])) | ((with_reducible apply WD_end); (first | exact no_draw | (intro _; kernel_rfl)); try simp only [thn, inB, List.length_map, List.cons_append, List.nil_append]) | ((with_reducible apply gCt); exact rfl; exact rfl) | ((with_reducible apply gCf); exact rfl; exact rfl) | ((with_reducible apply gCk); exact rfl; exact known; intro hb; rw [hb]; clear hb) | ((with_reducible apply gCn); exact rfl; exact known; intro hb; rw [hb]; clear hb) | (with_reducible apply WA_block) | ((with_reducible first | apply WA_skip | apply WA_ret | apply WA_exit | apply WA_label); try simp only [thn, inB, List.length_map, List.cons_append, List.nil_append])))
    (refine WA_forV (D1.length) [94] [6, 14] (fun k => [(94, vI k)]) (fun k => [(6, .box 33 (tr3 1 x y z (adds y (D1.take k)))), (14, .box 45 [vI 0, vI 1])]) (fun k => True) ?h0 ?_)
    case h0 => trivial
    intro j hj _
    rcases Nat.lt_or_ge j D1.length with hj' | hj'
    · have t2 : decide ((j : Int) < (D1.length : Int)) = true := by simp only [decide_eq_true_eq]; omega
      have adZ_m := hadd j hj'
      (repeat' (first | ((with_reducible apply WD_id); first | (refine WD_sum ?_) | (refine WD_nxt htb (by exact rfl) ?_) | (refine WD_call (by exact rfl) ?_; first | (refine WD_c0 (adZ_m) ?_)) | (refine WD_idx htb ?_) | (refine WD_ixp htb ?_) | (refine WD_t (by exact rfl) (by exact rfl) (by exact known) fun hb => ?_; rw [hb]; clear hb)) | (with_reducible apply WA_seq) | ((with_reducible apply gR hmix hN); exact (by kernel_rfl); (try dsimp only [List.append_eq, List.cons_append, List.nil_append])) | ((with_reducible apply WD_end); (first | exact no_draw | (intro _; kernel_rfl)); try simp only [thn, inB, List.length_map, List.cons_append, List.nil_append]) | ((with_reducible apply gCt); exact rfl; exact rfl) | ((with_reducible apply gCf); exact rfl; exact rfl) | ((with_reducible apply gCk); exact rfl; exact known; intro hb; rw [hb]; clear hb) | ((with_reducible apply gCn); exact rfl; exact known; intro hb; rw [hb]; clear hb) | (with_reducible apply WA_block) | ((with_reducible first | apply WA_skip | apply WA_ret | apply WA_exit | apply WA_label); try simp only [thn, inB, List.length_map, List.cons_append, List.nil_append])))
      refine ⟨hj', trivial, ?_⟩
      (exact LeV [])
    · have t2 : decide ((j : Int) < (D1.length : Int)) = false := by simp only [decide_eq_false_iff_not]; omega
      obtain rfl : j = D1.length := by omega
      rw [hfin]
      (repeat' (first | ((with_reducible apply WD_id); first | (refine WD_sum ?_) | (refine WD_nxt htb (by exact rfl) ?_) | (refine WD_idx htb ?_) | (refine WD_ixp htb ?_) | (refine WD_t (by exact rfl) (by exact rfl) (by exact known) fun hb => ?_; rw [hb]; clear hb)) | (with_reducible apply WA_seq) | ((with_reducible apply gR hmix hN); exact (by kernel_rfl); (try dsimp only [List.append_eq, List.cons_append, List.nil_append])) | ((with_reducible apply WD_end); (first | exact no_draw | (intro _; kernel_rfl)); try simp only [thn, inB, List.length_map, List.cons_append, List.nil_append]) | ((with_reducible apply gCt); exact rfl; exact rfl) | ((with_reducible apply gCf); exact rfl; exact rfl) | ((with_reducible apply gCk); exact rfl; exact known; intro hb; rw [hb]; clear hb) | ((with_reducible apply gCn); exact rfl; exact known; intro hb; rw [hb]; clear hb) | (with_reducible apply WA_block) | ((with_reducible first | apply WA_skip | apply WA_ret | apply WA_exit | apply WA_label); try simp only [thn, inB, List.length_map, List.cons_append, List.nil_append])))
      refine ⟨by omega, trivial, ?_⟩
      (exact LeV [])
  · have t1 : decide (((1 : Nat) : Int) < 5) = true := by decide
    have dfZ_m := d2.dif
    have hDl := d2.len
    have hfin := d2.fin
    have hadd := d2.add
    (repeat' (first | ((with_reducible apply WD_id); first | (refine WD_sum ?_) | (refine WD_nxt htb (by exact rfl) ?_) | (refine WD_call (by exact rfl) ?_; first | (refine WD_c0 (dfZ_m) ?_)) | (refine WD_row htb prsG encP ?_ (hn := by first | (exact by decide) | (simp only [prsG, List.length_cons, List.length_nil]; omega))) | (refine WD_idx htb ?_) | (refine WD_ixp htb ?_) | (refine WD_t (by exact rfl) (by exact rfl) (by exact known) fun hb => ?_; rw [hb]; clear hb)) | (with_reducible apply WA_seq) | ((with_reducible apply gR hmix hN); exact (by kernel_rfl); (try dsimp only [List.append_eq, List.cons_append, List.nil_append])) | ((with_reducible apply WD_end); (first | exact no_draw | (intro _; kernel_rfl)); try simp only [thn, inB, List.length_map, List.cons_append, List.nil_append]) | ((with_reducible apply gCt); exact rfl; exact rfl) | ((with_reducible apply gCf); exact rfl; exact rfl) | ((with_reducible apply gCk); exact rfl; exact known; intro hb; rw [hb]; clear hb) | ((with_reducible apply gCn); exact rfl; exact known; intro hb; rw [hb]; clear hb) | (with_reducible apply WA_block) | ((with_reducible first | apply WA_skip | apply WA_ret | apply WA_exit | apply WA_label); try simp only [thn, inB, List.length_map, List.cons_append, List.nil_append])))
    (refine WA_forV (D2.length) [94] [6, 14] (fun k => [(94, vI k)]) (fun k => [(6, .box 33 (tr3 2 x y1 z (adds z (D2.take k)))), (14, .box 45 [vI 1, vI 2])]) (fun k => True) ?h0 ?_)
    case h0 => trivial
    intro j hj _
    rcases Nat.lt_or_ge j D2.length with hj' | hj'
    · have t2 : decide ((j : Int) < (D2.length : Int)) = true := by simp only [decide_eq_true_eq]; omega
      have adZ_m := hadd j hj'
      (repeat' (first | ((with_reducible apply WD_id); first | (refine WD_sum ?_) | (refine WD_nxt htb (by exact rfl) ?_) | (refine WD_call (by exact rfl) ?_; first | (refine WD_c0 (adZ_m) ?_)) | (refine WD_idx htb ?_) | (refine WD_ixp htb ?_) | (refine WD_t (by exact rfl) (by exact rfl) (by exact known) fun hb => ?_; rw [hb]; clear hb)) | (with_reducible apply WA_seq) | ((with_reducible apply gR hmix hN); exact (by kernel_rfl); (try dsimp only [List.append_eq, List.cons_append, List.nil_append])) | ((with_reducible apply WD_end); (first | exact no_draw | (intro _; kernel_rfl)); try simp only [thn, inB, List.length_map, List.cons_append, List.nil_append]) | ((with_reducible apply gCt); exact rfl; exact rfl) | ((with_reducible apply gCf); exact rfl; exact rfl) | ((with_reducible apply gCk); exact rfl; exact known; intro hb; rw [hb]; clear hb) | ((with_reducible apply gCn); exact rfl; exact known; intro hb; rw [hb]; clear hb) | (with_reducible apply WA_block) | ((with_reducible first | apply WA_skip | apply WA_ret | apply WA_exit | apply WA_label); try simp only [thn, inB, List.length_map, List.cons_append, List.nil_append])))
      refine ⟨hj', trivial, ?_⟩
      (exact LeV [])
    · have t2 : decide ((j : Int) < (D2.length : Int)) = false := by simp only [decide_eq_false_iff_not]; omega
      obtain rfl : j = D2.length := by omega
      rw [hfin]
      (repeat' (first | ((with_reducible apply WD_id); first | (refine WD_sum ?_) | (refine WD_nxt htb (by exact rfl) ?_) | (refine WD_idx htb ?_) | (refine WD_ixp htb ?_) | (refine WD_t (by exact rfl) (by exact rfl) (by exact known) fun hb => ?_; rw [hb]; clear hb)) | (with_reducible apply WA_seq) | ((with_reducible apply gR hmix hN); exact (by kernel_rfl); (try dsimp only [List.append_eq, List.cons_append, List.nil_append])) | ((with_reducible apply WD_end); (first | exact no_draw | (intro _; kernel_rfl)); try simp only [thn, inB, List.length_map, List.cons_append, List.nil_append]) | ((with_reducible apply gCt); exact rfl; exact rfl) | ((with_reducible apply gCf); exact rfl; exact rfl) | ((with_reducible apply gCk); exact rfl; exact known; intro hb; rw [hb]; clear hb) | ((with_reducible apply gCn); exact rfl; exact known; intro hb; rw [hb]; clear hb) | (with_reducible apply WA_block) | ((with_reducible first | apply WA_skip | apply WA_ret | apply WA_exit | apply WA_label); try simp only [thn, inB, List.length_map, List.cons_append, List.nil_append])))
      refine ⟨by omega, trivial, ?_⟩
      (exact LeV [])
  · have t1 : decide (((2 : Nat) : Int) < 5) = true := by decide
    have dfZ_m := d3.dif
    have hDl := d3.len
    have hfin := d3.fin
    have hadd := d3.add
    (repeat' (first | ((with_reducible apply WD_id); first | (refine WD_sum ?_) | (refine WD_nxt htb (by exact rfl) ?_) | (refine WD_call (by exact rfl) ?_; first | (refine WD_c0 (dfZ_m) ?_)) | (refine WD_row htb prsG encP ?_ (hn := by first | (exact by decide) | (simp only [prsG, List.length_cons, List.length_nil]; omega))) | (refine WD_idx htb ?_) | (refine WD_ixp htb ?_) | (refine WD_t (by exact rfl) (by exact rfl) (by exact known) fun hb => ?_; rw [hb]; clear hb)) | (with_reducible apply WA_seq) | ((with_reducible apply gR hmix hN); exact (by kernel_rfl); (try dsimp only [List.append_eq, List.cons_append, List.nil_append])) | ((with_reducible apply WD_end); (first | exact no_draw | (intro _; kernel_rfl)); try simp only [thn, inB, List.length_map, List.cons_append, List.nil_append]) | ((with_reducible apply gCt); exact rfl; exact rfl) | ((with_reducible apply gCf); exact rfl; exact rfl) | ((with_reducible apply gCk); exact rfl; exact known; intro hb; rw [hb]; clear hb) | ((with_reducible apply gCn); exact rfl; exact known; intro hb; rw [hb]; clear hb) | (with_reducible apply WA_block) | ((with_reducible first | apply WA_skip | apply WA_ret | apply WA_exit | apply WA_label); try simp only [thn, inB, List.length_map, List.cons_append, List.nil_append])))
    (refine WA_forV (D3.length) [94] [6, 14] (fun k => [(94, vI k)]) (fun k => [(6, .box 33 (tr3 0 x y1 z1 (adds x (D3.take k)))), (14, .box 45 [vI 2, vI 0])]) (fun k => True) ?h0 ?_)
    case h0 => trivial
    intro j hj _
    rcases Nat.lt_or_ge j D3.length with hj' | hj'
    · have t2 : decide ((j : Int) < (D3.length : Int)) = true := by simp only [decide_eq_true_eq]; omega
      have adZ_m := hadd j hj'
      (repeat' (first | ((with_reducible apply WD_id); first | (refine WD_sum ?_) | (refine WD_nxt htb (by exact rfl) ?_) | (refine WD_call (by exact rfl) ?_; first | (refine WD_c0 (adZ_m) ?_)) | (refine WD_idx htb ?_) | (refine WD_ixp htb ?_) | (refine WD_t (by exact rfl) (by exact rfl) (by exact known) fun hb => ?_; rw [hb]; clear hb)) | (with_reducible apply WA_seq) | ((with_reducible apply gR hmix hN); exact (by kernel_rfl); (try dsimp only [List.append_eq, List.cons_append, List.nil_append])) | ((with_reducible apply WD_end); (first | exact no_draw | (intro _; kernel_rfl)); try simp only [thn, inB, List.length_map, List.cons_append, List.nil_append]) | ((with_reducible apply gCt); exact rfl; exact rfl) | ((with_reducible apply gCf); exact rfl; exact rfl) | ((with_reducible apply gCk); exact rfl; exact known; intro hb; rw [hb]; clear hb) | ((with_reducible apply gCn); exact rfl; exact known; intro hb; rw [hb]; clear hb) | (with_reducible apply WA_block) | ((with_reducible first | apply WA_skip | apply WA_ret | apply WA_exit | apply WA_label); try simp only [thn, inB, List.length_map, List.cons_append, List.nil_append])))
      refine ⟨hj', trivial, ?_⟩
      (exact LeV [])
    · have t2 : decide ((j : Int) < (D3.length : Int)) = false := by simp only [decide_eq_false_iff_not]; omega
      obtain rfl : j = D3.length := by omega
      rw [hfin]
      (repeat' (first | ((with_reducible apply WD_id); first | (refine WD_sum ?_) | (refine WD_nxt htb (by exact rfl) ?_) | (refine WD_idx htb ?_) | (refine WD_ixp htb ?_) | (refine WD_t (by exact rfl) (by exact rfl) (by exact known) fun hb => ?_; rw [hb]; clear hb)) | (with_reducible apply WA_seq) | ((with_reducible apply gR hmix hN); exact (by kernel_rfl); (try dsimp only [List.append_eq, List.cons_append, List.nil_append])) | ((with_reducible apply WD_end); (first | exact no_draw | (intro _; kernel_rfl)); try simp only [thn, inB, List.length_map, List.cons_append, List.nil_append]) | ((with_reducible apply gCt); exact rfl; exact rfl) | ((with_reducible apply gCf); exact rfl; exact rfl) | ((with_reducible apply gCk); exact rfl; exact known; intro hb; rw [hb]; clear hb) | ((with_reducible apply gCn); exact rfl; exact known; intro hb; rw [hb]; clear hb) | (with_reducible apply WA_block) | ((with_reducible first | apply WA_skip | apply WA_ret | apply WA_exit | apply WA_label); try simp only [thn, inB, List.length_map, List.cons_append, List.nil_append])))
      refine ⟨by omega, trivial, ?_⟩
      (exact LeV [])
  · have t1 : decide (((3 : Nat) : Int) < 5) = true := by decide
    have dfZ_m := d4.dif
    have hDl := d4.len
    have hfin := d4.fin
    have hadd := d4.add
    (repeat' (first | ((with_reducible apply WD_id); first | (refine WD_sum ?_) | (refine WD_nxt htb (by exact rfl) ?_) | (refine WD_call (by exact rfl) ?_; first | (refine WD_c0 (dfZ_m) ?_)) | (refine WD_row htb prsG encP ?_ (hn := by first | (exact by decide) | (simp only [prsG, List.length_cons, List.length_nil]; omega))) | (refine WD_idx htb ?_) | (refine WD_ixp htb ?_) | (refine WD_t (by exact rfl) (by exact rfl) (by exact known) fun hb => ?_; rw [hb]; clear hb)) | (with_reducible apply WA_seq) | ((with_reducible apply gR hmix hN); exact (by kernel_rfl); (try dsimp only [List.append_eq, List.cons_append, List.nil_append])) | ((with_reducible apply WD_end); (first | exact no_draw | (intro _; kernel_rfl)); try simp only [thn, inB, List.length_map, List.cons_append, List.nil_append]) | ((with_reducible apply gCt); exact rfl; exact rfl) | ((with_reducible apply gCf); exact rfl; exact rfl) | ((with_reducible apply gCk); exact rfl; exact known; intro hb; rw [hb]; clear hb) | ((with_reducible apply gCn); exact rfl; exact known; intro hb; rw [hb]; clear hb) | (with_reducible apply WA_block) | ((with_reducible first | apply WA_skip | apply WA_ret | apply WA_exit | apply WA_label); try simp only [thn, inB, List.length_map, List.cons_append, List.nil_append])))
    (refine WA_forV (D4.length) [94] [6, 14] (fun k => [(94, vI k)]) (fun k => [(6, .box 33 (tr3 1 x1 y1 z1 (adds y1 (D4.take k)))), (14, .box 45 [vI 0, vI 1])]) (fun k => True) ?h0 ?_)
    case h0 => trivial
    intro j hj _
    rcases Nat.lt_or_ge j D4.length with hj' | hj'
    · have t2 : decide ((j : Int) < (D4.length : Int)) = true := by simp only [decide_eq_true_eq]; omega
      have adZ_m := hadd j hj'
      (repeat' (first | ((with_reducible apply WD_id); first | (refine WD_sum ?_) | (refine WD_nxt htb (by exact rfl) ?_) | (refine WD_call (by exact rfl) ?_; first | (refine WD_c0 (adZ_m) ?_)) | (refine WD_idx htb ?_) | (refine WD_ixp htb ?_) | (refine WD_t (by exact rfl) (by exact rfl) (by exact known) fun hb => ?_; rw [hb]; clear hb)) | (with_reducible apply WA_seq) | ((with_reducible apply gR hmix hN); exact (by kernel_rfl); (try dsimp only [List.append_eq, List.cons_append, List.nil_append])) | ((with_reducible apply WD_end); (first | exact no_draw | (intro _; kernel_rfl)); try simp only [thn, inB, List.length_map, List.cons_append, List.nil_append]) | ((with_reducible apply gCt); exact rfl; exact rfl) | ((with_reducible apply gCf); exact rfl; exact rfl) | ((with_reducible apply gCk); exact rfl; exact known; intro hb; rw [hb]; clear hb) | ((with_reducible apply gCn); exact rfl; exact known; intro hb; rw [hb]; clear hb) | (with_reducible apply WA_block) | ((with_reducible first | apply WA_skip | apply WA_ret | apply WA_exit | apply WA_label); try simp only [thn, inB, List.length_map, List.cons_append, List.nil_append])))
      refine ⟨hj', trivial, ?_⟩
      (exact LeV [])
    · have t2 : decide ((j : Int) < (D4.length : Int)) = false := by simp only [decide_eq_false_iff_not]; omega
      obtain rfl : j = D4.length := by omega
      rw [hfin]
      (repeat' (first | ((with_reducible apply WD_id); first | (refine WD_sum ?_) | (refine WD_nxt htb (by exact rfl) ?_) | (refine WD_idx htb ?_) | (refine WD_ixp htb ?_) | (refine WD_t (by exact rfl) (by exact rfl) (by exact known) fun hb => ?_; rw [hb]; clear hb)) | (with_reducible apply WA_seq) | ((with_reducible apply gR hmix hN); exact (by kernel_rfl); (try dsimp only [List.append_eq, List.cons_append, List.nil_append])) | ((with_reducible apply WD_end); (first | exact no_draw | (intro _; kernel_rfl)); try simp only [thn, inB, List.length_map, List.cons_append, List.nil_append]) | ((with_reducible apply gCt); exact rfl; exact rfl) | ((with_reducible apply gCf); exact rfl; exact rfl) | ((with_reducible apply gCk); exact rfl; exact known; intro hb; rw [hb]; clear hb) | ((with_reducible apply gCn); exact rfl; exact known; intro hb; rw [hb]; clear hb) | (with_reducible apply WA_block) | ((with_reducible first | apply WA_skip | apply WA_ret | apply WA_exit | apply WA_label); try simp only [thn, inB, List.length_map, List.cons_append, List.nil_append])))
      refine ⟨by omega, trivial, ?_⟩
      (exact LeV [])
  · have t1 : decide (((4 : Nat) : Int) < 5) = true := by decide
    have dfZ_m := d5.dif
    have hDl := d5.len
    have hfin := d5.fin
    have hadd := d5.add
    (repeat' (first | ((with_reducible apply WD_id); first | (refine WD_sum ?_) | (refine WD_nxt htb (by exact rfl) ?_) | (refine WD_call (by exact rfl) ?_; first | (refine WD_c0 (dfZ_m) ?_)) | (refine WD_row htb prsG encP ?_ (hn := by first | (exact by decide) | (simp only [prsG, List.length_cons, List.length_nil]; omega))) | (refine WD_idx htb ?_) | (refine WD_ixp htb ?_) | (refine WD_t (by exact rfl) (by exact rfl) (by exact known) fun hb => ?_; rw [hb]; clear hb)) | (with_reducible apply WA_seq) | ((with_reducible apply gR hmix hN); exact (by kernel_rfl); (try dsimp only [List.append_eq, List.cons_append, List.nil_append])) | ((with_reducible apply WD_end); (first | exact no_draw | (intro _; kernel_rfl)); try simp only [thn, inB, List.length_map, List.cons_append, List.nil_append]) | ((with_reducible apply gCt); exact rfl; exact rfl) | ((with_reducible apply gCf); exact rfl; exact rfl) | ((with_reducible apply gCk); exact rfl; exact known; intro hb; rw [hb]; clear hb) | ((with_reducible apply gCn); exact rfl; exact known; intro hb; rw [hb]; clear hb) | (with_reducible apply WA_block) | ((with_reducible first | apply WA_skip | apply WA_ret | apply WA_exit | apply WA_label); try simp only [thn, inB, List.length_map, List.cons_append, List.nil_append])))
    (refine WA_forV (D5.length) [94] [6, 14] (fun k => [(94, vI k)]) (fun k => [(6, .box 33 (tr3 1 x1 y2 z1 (adds y2 (D5.take k)))), (14, .box 45 [vI 2, vI 1])]) (fun k => True) ?h0 ?_)
    case h0 => trivial
    intro j hj _
    rcases Nat.lt_or_ge j D5.length with hj' | hj'
    · have t2 : decide ((j : Int) < (D5.length : Int)) = true := by simp only [decide_eq_true_eq]; omega
      have adZ_m := hadd j hj'
      (repeat' (first | ((with_reducible apply WD_id); first | (refine WD_sum ?_) | (refine WD_nxt htb (by exact rfl) ?_) | (refine WD_call (by exact rfl) ?_; first | (refine WD_c0 (adZ_m) ?_)) | (refine WD_idx htb ?_) | (refine WD_ixp htb ?_) | (refine WD_t (by exact rfl) (by exact rfl) (by exact known) fun hb => ?_; rw [hb]; clear hb)) | (with_reducible apply WA_seq) | ((with_reducible apply gR hmix hN); exact (by kernel_rfl); (try dsimp only [List.append_eq, List.cons_append, List.nil_append])) | ((with_reducible apply WD_end); (first | exact no_draw | (intro _; kernel_rfl)); try simp only [thn, inB, List.length_map, List.cons_append, List.nil_append]) | ((with_reducible apply gCt); exact rfl; exact rfl) | ((with_reducible apply gCf); exact rfl; exact rfl) | ((with_reducible apply gCk); exact rfl; exact known; intro hb; rw [hb]; clear hb) | ((with_reducible apply gCn); exact rfl; exact known; intro hb; rw [hb]; clear hb) | (with_reducible apply WA_block) | ((with_reducible first | apply WA_skip | apply WA_ret | apply WA_exit | apply WA_label); try simp only [thn, inB, List.length_map, List.cons_append, List.nil_append])))
      refine ⟨hj', trivial, ?_⟩
      (exact LeV [])
    · have t2 : decide ((j : Int) < (D5.length : Int)) = false := by simp only [decide_eq_false_iff_not]; omega
      obtain rfl : j = D5.length := by omega
      rw [hfin]
      (repeat' (first | ((with_reducible apply WD_id); first | (refine WD_sum ?_) | (refine WD_nxt htb (by exact rfl) ?_) | (refine WD_idx htb ?_) | (refine WD_ixp htb ?_) | (refine WD_t (by exact rfl) (by exact rfl) (by exact known) fun hb => ?_; rw [hb]; clear hb)) | (with_reducible apply WA_seq) | ((with_reducible apply gR hmix hN); exact (by kernel_rfl); (try dsimp only [List.append_eq, List.cons_append, List.nil_append])) | ((with_reducible apply WD_end); (first | exact no_draw | (intro _; kernel_rfl)); try simp only [thn, inB, List.length_map, List.cons_append, List.nil_append]) | ((with_reducible apply gCt); exact rfl; exact rfl) | ((with_reducible apply gCf); exact rfl; exact rfl) | ((with_reducible apply gCk); exact rfl; exact known; intro hb; rw [hb]; clear hb) | ((with_reducible apply gCn); exact rfl; exact known; intro hb; rw [hb]; clear hb) | (with_reducible apply WA_block) | ((with_reducible first | apply WA_skip | apply WA_ret | apply WA_exit | apply WA_label); try simp only [thn, inB, List.length_map, List.cons_append, List.nil_append])))
      refine ⟨by omega, trivial, ?_⟩
      (exact LeV [])
  have t3 : decide (((5 : Nat) : Int) < 5) = false := by decide
  (repeat' (first | ((with_reducible apply WD_id); first | (refine WD_sum ?_) | (refine WD_nxt htb (by exact rfl) ?_) | (refine WD_idx htb ?_) | (refine WD_ixp htb ?_) | (refine WD_t (by exact rfl) (by exact rfl) (by exact known) fun hb => ?_; rw [hb]; clear hb)) | (with_reducible apply WA_seq) | ((with_reducible apply gR hmix hN); exact (by kernel_rfl); (try dsimp only [List.append_eq, List.cons_append, List.nil_append])) | ((with_reducible apply WD_end); (first | exact no_draw | (intro _; kernel_rfl)); try simp only [thn, inB, List.length_map, List.cons_append, List.nil_append]) | ((with_reducible apply gCt); exact rfl; exact rfl) | ((with_reducible apply gCf); exact rfl; exact rfl) | ((with_reducible apply gCk); exact rfl; exact known; intro hb; rw [hb]; clear hb) | ((with_reducible apply gCn); exact rfl; exact known; intro hb; rw [hb]; clear hb) | (with_reducible apply WA_block) | ((with_reducible first | apply WA_skip | apply WA_ret | apply WA_exit | apply WA_label); try simp only [thn, inB, List.length_map, List.cons_append, List.nil_append])))
  have r1 := hA.rok hm5
  have rx1 := g3.rok hm5
  have rz1 := g2.rok hm5
  have ry3 := g5.rok hm5
  have mgA := Merge_m x1 y3 ⟨rx1, ry3, by rw [g5.len, g3.len]⟩
  have mgB := Merge_m z1 y3 ⟨rz1, ry3, by rw [g5.len, g2.len]⟩
  rw [hq1] at mgA
  rw [hq2] at mgB
  refine WA_le (s' := ⟨[(120, vI 0), (119, vI 2), (118, .d (.rows 2 (prsM.map encP))), (6, .ptr 6 0), (4, lU ks), (2, vB false)], [(6, .box 33 (ms3 x1 y3 z1 0))]⟩) (LeV []) ?_
  (refine WA_forV (2) [120] [6] (fun k => [(120, vI k)]) (fun k => [(6, .box 33 (ms3 x1 y3 z1 k))]) (fun k => True) ?h0 ?_)
  case h0 => trivial
  intro k hk _
  obtain rfl | rfl | rfl : k = 0 ∨ k = 1 ∨ k = 2 := by omega
  · have t1 : decide (((0 : Nat) : Int) < 2) = true := by decide
    have mgA_m := mgA
    (repeat' (first | ((with_reducible apply WD_id); first | (refine WD_sum ?_) | (refine WD_nxt htb (by exact rfl) ?_) | (refine WD_call (by exact rfl) ?_; first | (refine WD_c0 (mgA_m) ?_)) | (refine WD_row htb prsM encP ?_ (hn := by first | (exact by decide) | (simp only [prsM, List.length_cons, List.length_nil]; omega))) | (refine WD_idx htb ?_) | (refine WD_ixp htb ?_) | (refine WD_t (by exact rfl) (by exact rfl) (by exact known) fun hb => ?_; rw [hb]; clear hb)) | (with_reducible apply WA_seq) | ((with_reducible apply gR hmix hN); exact (by kernel_rfl); (try dsimp only [List.append_eq, List.cons_append, List.nil_append])) | ((with_reducible apply WD_end); (first | exact no_draw | (intro _; kernel_rfl)); try simp only [thn, inB, List.length_map, List.cons_append, List.nil_append]) | ((with_reducible apply gCt); exact rfl; exact rfl) | ((with_reducible apply gCf); exact rfl; exact rfl) | ((with_reducible apply gCk); exact rfl; exact known; intro hb; rw [hb]; clear hb) | ((with_reducible apply gCn); exact rfl; exact known; intro hb; rw [hb]; clear hb) | (with_reducible apply WA_block) | ((with_reducible first | apply WA_skip | apply WA_ret | apply WA_exit | apply WA_label); try simp only [thn, inB, List.length_map, List.cons_append, List.nil_append])))
    refine ⟨by omega, trivial, ?_⟩
    (exact LeV [])
  · have t1 : decide (((1 : Nat) : Int) < 2) = true := by decide
    have mgA_m := mgB
    (repeat' (first | ((with_reducible apply WD_id); first | (refine WD_sum ?_) | (refine WD_nxt htb (by exact rfl) ?_) | (refine WD_call (by exact rfl) ?_; first | (refine WD_c0 (mgA_m) ?_)) | (refine WD_row htb prsM encP ?_ (hn := by first | (exact by decide) | (simp only [prsM, List.length_cons, List.length_nil]; omega))) | (refine WD_idx htb ?_) | (refine WD_ixp htb ?_) | (refine WD_t (by exact rfl) (by exact rfl) (by exact known) fun hb => ?_; rw [hb]; clear hb)) | (with_reducible apply WA_seq) | ((with_reducible apply gR hmix hN); exact (by kernel_rfl); (try dsimp only [List.append_eq, List.cons_append, List.nil_append])) | ((with_reducible apply WD_end); (first | exact no_draw | (intro _; kernel_rfl)); try simp only [thn, inB, List.length_map, List.cons_append, List.nil_append]) | ((with_reducible apply gCt); exact rfl; exact rfl) | ((with_reducible apply gCf); exact rfl; exact rfl) | ((with_reducible apply gCk); exact rfl; exact known; intro hb; rw [hb]; clear hb) | ((with_reducible apply gCn); exact rfl; exact known; intro hb; rw [hb]; clear hb) | (with_reducible apply WA_block) | ((with_reducible first | apply WA_skip | apply WA_ret | apply WA_exit | apply WA_label); try simp only [thn, inB, List.length_map, List.cons_append, List.nil_append])))
    refine ⟨by omega, trivial, ?_⟩
    (exact LeV [])
  have t4 : decide (((2 : Nat) : Int) < 2) = false := by decide
  have vw_m := view_m y3 ry3
  (repeat' (first | ((with_reducible apply WD_id); first | (refine WD_sum ?_) | (refine WD_nxt htb (by exact rfl) ?_) | (refine WD_call (by exact rfl) ?_; first | (refine WD_c0 (vw_m) ?_)) | (refine WD_idx htb ?_) | (refine WD_ixp htb ?_) | (refine WD_t (by exact rfl) (by exact rfl) (by exact known) fun hb => ?_; rw [hb]; clear hb)) | (with_reducible apply WA_seq) | ((with_reducible apply gR hmix hN); exact (by kernel_rfl); (try dsimp only [List.append_eq, List.cons_append, List.nil_append])) | ((with_reducible apply WD_end); (first | exact no_draw | (intro _; kernel_rfl)); try simp only [thn, inB, List.length_map, List.cons_append, List.nil_append]) | ((with_reducible apply gCt); exact rfl; exact rfl) | ((with_reducible apply gCf); exact rfl; exact rfl) | ((with_reducible apply gCk); exact rfl; exact known; intro hb; rw [hb]; clear hb) | ((with_reducible apply gCn); exact rfl; exact known; intro hb; rw [hb]; clear hb) | (with_reducible apply WA_block) | ((with_reducible first | apply WA_skip | apply WA_ret | apply WA_exit | apply WA_label); try simp only [thn, inB, List.length_map, List.cons_append, List.nil_append])))
  have hrl : y3.length = ks.length := g5.len
  have hex : expN y3 < 1024 := by
    have h1 := expTo_lt y3 y3.length
    have h2 : 2 ^ y3.length ≤ 32 := Nat.pow_le_pow_right (by decide) (by omega : y3.length ≤ 5)
    exact Nat.lt_of_lt_of_le h1 (by omega)
  have exZ_m := expo_m y3 ry3
  have hvl : (viewF y3).length = ks.length := by rw [viewF_len]; exact hrl
  have hokC := view_okC ry3
  have hv5 : (viewF y3).length ≤ 5 := by omega
  have miZ_m := mini_m (viewF y3) ⟨⟨hokC, hv5⟩, view_valid ry3⟩
  have hml := minI_len hv5
  have b0 : ((0 : Int) == 0) = true := rfl
  have b1 : (((viewF y3).length : Int) == (ks.length : Int)) = true := by rw [hvl]; simp
  have b2 : (((List.map rMb (viewF y3)).length : Int) == ((List.map rU ks).length : Int)) = true := by rw [List.length_map, List.length_map]; exact b1
  refine WA_le (s' := ⟨[(151, vI 0), (150, vI (ks.length : Int)), (6, .ptr 6 0), (23, .ptr 23 0), (24, .ptr 24 0), (4, lU ks), (2, vB false)], [(6, .box 33 [regC y3, regC y3, regC y3]), (23, .box 51 [lMb (viewF y3)]), (24, .box 51 [lMb (viewF y3)])]⟩) (LeV []) ?_
  (refine WA_forV (ks.length) [151] [] (fun k => [(151, vI k)]) (fun k => []) (fun k => True) ?h0 ?_)
  case h0 => trivial
  intro k hk _
  rcases Nat.lt_or_ge k ks.length with hk' | hk'
  · have t5 : decide ((k : Int) < (ks.length : Int)) = true := by simp only [decide_eq_true_eq]; omega
    have hkr : k < y3.length := by omega
    have hh := hasR_m (expN y3) (k : Int) hex
    rw [has_nat hex (by omega), exp_bit hkr] at hh
    cases hf : facF (nth y3 k) with
    | none =>
      rw [hf] at hh
      have hsR_m := hh
      have evZ_m := evN_m y3 k ry3 hkr hf
      have t6 : (false != false) = false := rfl
      have t7 : ((none : Option Nat).isSome) = false := rfl
      (repeat' (first | ((with_reducible apply WD_id); first | (refine WD_sum ?_) | (refine WD_nxt htb (by exact rfl) ?_) | (refine WD_call (by exact rfl) ?_; first | (refine WD_c0 (evZ_m) ?_) | (refine WD_c0 (exZ_m) ?_) | (refine WD_c0 (hsR_m) ?_)) | (refine WD_eq (neB1_step rfl rfl rfl) ?_) | (refine WD_idx htb ?_) | (refine WD_ixp htb ?_) | (refine WD_t (by exact rfl) (by exact rfl) (by exact known) fun hb => ?_; rw [hb]; clear hb)) | (with_reducible apply WA_seq) | ((with_reducible apply gR hmix hN); exact (by kernel_rfl); (try dsimp only [List.append_eq, List.cons_append, List.nil_append])) | ((with_reducible apply WD_end); (first | exact no_draw | (intro _; kernel_rfl)); try simp only [thn, inB, List.length_map, List.cons_append, List.nil_append]) | ((with_reducible apply gCt); exact rfl; exact rfl) | ((with_reducible apply gCf); exact rfl; exact rfl) | ((with_reducible apply gCk); exact rfl; exact known; intro hb; rw [hb]; clear hb) | ((with_reducible apply gCn); exact rfl; exact known; intro hb; rw [hb]; clear hb) | (with_reducible apply WA_block) | ((with_reducible first | apply WA_skip | apply WA_ret | apply WA_exit | apply WA_label); try simp only [thn, inB, List.length_map, List.cons_append, List.nil_append])))
      refine ⟨hk', trivial, ?_⟩
      (exact LeV [])
    | some i =>
      rw [hf] at hh
      have hsR_m := hh
      have evZ_m := evS_m y3 k i ry3 hkr hf
      obtain ⟨hi, hsq⟩ := fac_spec hf
      have mA := g5.mem hk' (nth_mem (nth y3 k) i (by omega))
      have mB := g5.mem hk' (nth_mem (nth y3 k) (i + 1) hi)
      have hlt := (ry3.l k hkr).s i hi
      have hbl : Op.bytesLess (bytD (nth (nth y3 k) i)) (bytD (nth (nth y3 k) (i + 1))) = true := by
        simp only [ltD, hsq, Int.lt_irrefl, decide_false, decide_true, Bool.false_or, Bool.true_and] at hlt
        exact hlt
      have prZ_m := proves_m ks (nth (nth y3 k) i) (nth (nth y3 k) (i + 1)) mA.2.1 mB.2.1 (mA.2.2.trans mB.2.2.symm) hsq.symm hbl
      have t6 : (true != true) = false := rfl
      (repeat' (first | ((with_reducible apply WD_id); first | (refine WD_sum ?_) | (refine WD_nxt htb (by exact rfl) ?_) | (refine WD_call (by exact rfl) ?_; first | (refine WD_c0 (evZ_m) ?_) | (refine WD_c0 (exZ_m) ?_) | (refine WD_c0 (hsR_m) ?_) | (refine WD_c0 (prZ_m) ?_)) | (refine WD_eq (neB1_step rfl rfl rfl) ?_) | (refine WD_idx htb ?_) | (refine WD_ixp htb ?_) | (refine WD_t (by exact rfl) (by exact rfl) (by exact known) fun hb => ?_; rw [hb]; clear hb)) | (with_reducible apply WA_seq) | ((with_reducible apply gR hmix hN); exact (by kernel_rfl); (try dsimp only [List.append_eq, List.cons_append, List.nil_append])) | ((with_reducible apply WD_end); (first | exact no_draw | (intro _; kernel_rfl)); try simp only [thn, inB, List.length_map, List.cons_append, List.nil_append]) | ((with_reducible apply gCt); exact rfl; exact rfl) | ((with_reducible apply gCf); exact rfl; exact rfl) | ((with_reducible apply gCk); exact rfl; exact known; intro hb; rw [hb]; clear hb) | ((with_reducible apply gCn); exact rfl; exact known; intro hb; rw [hb]; clear hb) | (with_reducible apply WA_block) | ((with_reducible first | apply WA_skip | apply WA_ret | apply WA_exit | apply WA_label); try simp only [thn, inB, List.length_map, List.cons_append, List.nil_append])))
      refine ⟨hk', trivial, ?_⟩
      (exact LeV [])
  have t5 : decide ((k : Int) < (ks.length : Int)) = false := by simp only [decide_eq_false_iff_not]; omega
  (repeat' (first | ((with_reducible apply WD_id); first | (refine WD_sum ?_) | (refine WD_nxt htb (by exact rfl) ?_) | (refine WD_call (by exact rfl) ?_; first | (refine WD_c0 (miZ_m) ?_) | (refine WD_c0 (intsG_m _ ?_) ?_; (exact hyp)) | (refine WD_c0 (sameR_m _ ?_) ?_; (exact hyp)) | (refine WD_c0 (sameC_m _ ?_) ?_; (exact hyp)) | (refine WD_c0 (awk_m) ?_)) | (refine WD_idx htb ?_) | (refine WD_ixp htb ?_) | (refine WD_t (by exact rfl) (by exact rfl) (by exact known) fun hb => ?_; rw [hb]; clear hb)) | (with_reducible apply WA_seq) | ((with_reducible apply gR hmix hN); exact (by kernel_rfl); (try dsimp only [List.append_eq, List.cons_append, List.nil_append])) | ((with_reducible apply WD_end); (first | exact no_draw | (intro _; kernel_rfl)); try simp only [thn, inB, List.length_map, List.cons_append, List.nil_append]) | ((with_reducible apply gCt); exact rfl; exact rfl) | ((with_reducible apply gCf); exact rfl; exact rfl) | ((with_reducible apply gCk); exact rfl; exact known; intro hb; rw [hb]; clear hb) | ((with_reducible apply gCn); exact rfl; exact known; intro hb; rw [hb]; clear hb) | (with_reducible apply WA_block) | ((with_reducible first | apply WA_skip | apply WA_ret | apply WA_exit | apply WA_label); try simp only [thn, inB, List.length_map, List.cons_append, List.nil_append])))
  exact gE (.inr rfl) rfl rfl trivial
end Go.Proofs.YtkjpnmodlmlhdaaGreatDoor
