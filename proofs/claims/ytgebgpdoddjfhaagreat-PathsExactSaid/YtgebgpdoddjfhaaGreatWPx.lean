/- Contracts of the program's functions on offers: taking. -/
import Derived.Test.YtgebgpdoddjfhaaGreatWO5
import Derived.Test.YtgebgpdoddjfhaaGreatPlainW
import Derived.Test.YtgebgpdoddjfhaaGreatAmZ
import Derived.Shelf.Spec.SlicesGrow
import Derived.Test.YtgebgpdoddjfhaaGreatWR5
import Derived.Test.YtgebgpdoddjfhaaGreatWS
namespace Go.Proofs.YtgebgpdoddjfhaaGreat
set_option linter.unusedSimpArgs false
set_option linter.unusedVariables false
set_option linter.unnecessarySimpa false
set_option linter.unusedSectionVars false
set_option maxRecDepth 100000
open Go Go.RowKit Go.Am Go.Proofs.Grow

theorem cross_pe (g : Led) (t : Int) (u : ByteArray) (i : Int) (v : ByteArray) (j n most : Int) (x : Led) (p c e : Int) (hl : g.lins.length ≤ 1000) (ha : g.accs.length ≤ 1000) (ho : g.offs.length ≤ 12) (he : crossF g t u i v j n most = (x, p, c, e)) :
    FnM Tryz.prog 79 [] [aG g, vI t, aT u i, aT v j, vI n, vI most] (.tup [aG x, vI p, vI c, vI e]) [] := by
  have := cross_pm g t u i v j n most hl ha ho
  rwa [he] at this
theorem debit_pq (g : Led) (a : Int) (u : ByteArray) (i n : Int) (x : Led) (e : Int) (hl : g.lins.length ≤ 1000) (ha : g.accs.length ≤ 1000) (ho : g.offs.length ≤ 1000) (he : debitF g a u i n = (x, e)) : FnM Tryz.prog 66 [] [aG g, vI a, aT u i, vI n] (.tup [aG x, vI e]) [] := by
  have := debit_pm g a u i n hl ha ho
  rwa [he] at this
theorem credit_pq (g : Led) (a : Int) (u : ByteArray) (i n : Int) (x : Led) (e : Int) (hl : g.lins.length ≤ 1000) (ha : g.accs.length ≤ 1000) (ho : g.offs.length ≤ 1000) (he : creditF g a u i n = (x, e)) : FnM Tryz.prog 67 [] [aG g, vI a, aT u i, vI n] (.tup [aG x, vI e]) [] := by
  have := credit_pm g a u i n hl ha ho
  rwa [he] at this
theorem addL_lens (g : Led) (a : Int) (u : ByteArray) (i n : Int) : (addL g a u i n).lins.length = g.lins.length ∧ (addL g a u i n).accs.length = g.accs.length ∧ (addL g a u i n).offs.length = g.offs.length := by
  unfold addL
  split
  · simp
  · split <;> simp
theorem debit_lens {g : Led} {a : Int} {u : ByteArray} {i n : Int} {x : Led} {e : Int} (he : debitF g a u i n = (x, e)) : x.lins.length ≤ g.lins.length ∧ x.accs.length ≤ g.accs.length ∧ x.offs.length ≤ g.offs.length := by
  have hx : x = (debitF g a u i n).1 := by rw [he]
  obtain ⟨h1, h2, h3⟩ := addL_lens g a u i (-n)
  subst hx
  unfold debitF
  split
  · simp [led0]
  · split
    · simp [led0]
    · split
      · simp [led0]
      · dsimp only; omega
theorem credit_lens {g : Led} {a : Int} {u : ByteArray} {i n : Int} {x : Led} {e : Int} (he : creditF g a u i n = (x, e)) : x.lins.length ≤ g.lins.length ∧ x.accs.length ≤ g.accs.length ∧ x.offs.length ≤ g.offs.length := by
  have hx : x = (creditF g a u i n).1 := by rw [he]
  obtain ⟨h1, h2, h3⟩ := addL_lens g a u i n
  subst hx
  unfold creditF
  split
  · simp [led0]
  · split
    · split
      · simp [led0]
      · dsimp only; omega
    · split
      · simp [led0]
      · dsimp only; omega
theorem cross_lens {g : Led} {t : Int} {u : ByteArray} {i : Int} {v : ByteArray} {j n most : Int} {x : Led} {p c e : Int} (he : crossF g t u i v j n most = (x, p, c, e)) : x.lins.length ≤ g.lins.length ∧ x.accs.length ≤ g.accs.length ∧ x.offs.length ≤ g.offs.length := by
  have hx : x = (crossF g t u i v j n most).1 := by rw [he]
  subst hx
  unfold crossF
  split
  · simp [led0]
  · rename_i h1
    split
    · simp [led0]
    · split
      · simp [led0]
      · rename_i h3
        simp only [not_or, Bool.not_eq_false] at h3
        obtain ⟨hM, _⟩ := moved_all (chkO_zero.1 (Classical.not_not.1 h1)) (u := u) (i := i) (v := v) (j := j) (t := t) (okA_iff.1 h3.1).1 (okA_iff.1 h3.2).1
        have h1 := hM.la
        have h2 := hM.ll
        have h3 := hM.lo
        dsimp only
        omega
end Go.Proofs.YtgebgpdoddjfhaaGreat

/- Plain functions of routes: what is asked, what a chain of purchases gives. No program stands here. -/
namespace Go.Proofs.YtgebgpdoddjfhaaGreat
set_option linter.unusedSimpArgs false
set_option linter.unusedVariables false
set_option linter.unnecessarySimpa false
set_option linter.unusedSectionVars false
set_option maxRecDepth 100000
open Go Go.RowKit Go.Am Go.Proofs.Grow

abbrev TA := ByteArray × Int
def validP (l : List TA) : Bool := decide (l.length ≤ 4) && decide (idxF (fun a : TA => !assetB a.1 a.2) 0 l < 0)
/-- What is bought, from the place i of a chain down to its beginning. -/
def convN (t : Int) (c : List TA) : Nat → Led → Int → Led × Int × Int
  | 0, g, need => (g, need, 0)
  | i + 1, g, need =>
    if eqT (nth c (i + 1)).1 (nth c (i + 1)).2 (nth c i).1 (nth c i).2 = true then convN t c i g need else
    if ¬ (crossF g t (nth c (i + 1)).1 (nth c (i + 1)).2 (nth c i).1 (nth c i).2 need 1000000000000).2.2.2 = 0 then (led0, 0, (crossF g t (nth c (i + 1)).1 (nth c (i + 1)).2 (nth c i).1 (nth c i).2 need 1000000000000).2.2.2) else
    if (crossF g t (nth c (i + 1)).1 (nth c (i + 1)).2 (nth c i).1 (nth c i).2 need 1000000000000).2.1 < need then (led0, 0, 73) else
      convN t c i (crossF g t (nth c (i + 1)).1 (nth c (i + 1)).2 (nth c i).1 (nth c i).2 need 1000000000000).1 (crossF g t (nth c (i + 1)).1 (nth c (i + 1)).2 (nth c i).1 (nth c i).2 need 1000000000000).2.2.1
def convF (g : Led) (t : Int) (c : List TA) (n : Int) : Led × Int × Int := convN t c (c.length - 1) g n
def chainF (v : ByteArray) (j : Int) (u : ByteArray) (i : Int) (l : List TA) : List TA := (v, j) :: (l ++ [(u, i)])
/-- The errors that sending and asking have in common; the numbers. -/
def plnE (g : Led) (v : ByteArray) (j : Int) (u : ByteArray) (i : Int) (l : List TA) (ns : List Int) : Int :=
  if ¬ chkO g = 0 then chkO g else if 0 ≤ idxF (fun n => !okA n) 0 ns ∨ nth ns 0 = 0 then 65 else if assetB v j = false ∨ assetB u i = false ∨ validP l = false then 71 else 0
def quoteF (g : Led) (b : Int) (v : ByteArray) (j : Int) (u : ByteArray) (i : Int) (l : List TA) (n : Int) : Int × Int :=
  if ¬ plnE g v j u i l [n] = 0 then (0, plnE g v j u i l [n]) else if (findA g.accs b).2 = false then (0, 67) else (convF g b (chainF v j u i l) n).2
def sendF (g : Led) (a b : Int) (v : ByteArray) (j : Int) (u : ByteArray) (i : Int) (l : List TA) (n most : Int) : Led × Int × Int :=
  if ¬ plnE g v j u i l [n, most] = 0 then (led0, 0, plnE g v j u i l [n, most]) else if (findA g.accs a).2 = false ∨ (findA g.accs b).2 = false ∨ a = b then (led0, 0, 67) else
  if ¬ (convF g a (chainF v j u i l) n).2.2 = 0 then (led0, 0, (convF g a (chainF v j u i l) n).2.2) else
  if most < (convF g a (chainF v j u i l) n).2.1 then (led0, 0, 66) else
  if ¬ (moveF (convF g a (chainF v j u i l) n).1 a v j (convF g a (chainF v j u i l) n).2.1 b u i n).2 = 0 then (led0, 0, (moveF (convF g a (chainF v j u i l) n).1 a v j (convF g a (chainF v j u i l) n).2.1 b u i n).2) else
  ((moveF (convF g a (chainF v j u i l) n).1 a v j (convF g a (chainF v j u i l) n).2.1 b u i n).1, (convF g a (chainF v j u i l) n).2.1, 0)
end Go.Proofs.YtgebgpdoddjfhaaGreat

/- Contract of slices.Grow at a nil slice of assets. -/
namespace Go.Proofs.YtgebgpdoddjfhaaGreat
set_option linter.unusedSimpArgs false
set_option linter.unusedVariables false
set_option linter.unnecessarySimpa false
set_option linter.unusedSectionVars false
set_option maxRecDepth 100000
open Go Go.RowKit Go.Am Go.Proofs.Grow Go.Shelf

def renG : Ren := { f := fun k => if k = 4 then 95 else k, t := fun k => if k = 22 then 31 else if k = 25 then 30 else k, g := fun k => k }
theorem layG : Lays8.n4 Tryz.prog renG where
  mixed := hmix
  f4 := ⟨Tryz.f95.name, by kernel_rfl, by kernel_rfl⟩
  t0 := by kernel_rfl
  a0 := fun w => rfl
  z0 := fun w => rfl
  v0 := fun w => rfl
  t3 := by kernel_rfl
  a3 := fun w => rfl
  z3 := fun w => rfl
  v3 := fun w => rfl
  t4 := by kernel_rfl
  a4 := fun w => rfl
  z4 := fun w => rfl
  v4 := fun w => rfl
  t9 := by kernel_rfl
  a9 := fun w => rfl
  z9 := fun w => rfl
  v9 := fun w => rfl
  t20 := by kernel_rfl
  a20 := fun w => rfl
  z20 := fun w => rfl
  v20 := fun w => rfl
  t22 := by kernel_rfl
  a22 := fun w => rfl
  z22 := fun w => rfl
  v22 := fun w => rfl
theorem inf_ex : ∃ i0, Tryz.prog.info? 30 = some i0 ∧ i0.size = 2 ∧ i0.bytes = 24 ∧ i0.zero = some (.agg #[.string ⟨#[]⟩, .int .i64 0]) := by
  have h : (Tryz.prog.info? 30).isSome = true := by kernel_rfl
  have h1 : (Tryz.prog.info? 30).map TypeInfo.size = some 2 := by kernel_rfl
  have h2 : (Tryz.prog.info? 30).map TypeInfo.bytes = some 24 := by kernel_rfl
  have h3 : (Tryz.prog.info? 30).map TypeInfo.zero = some (some (.agg #[.string ⟨#[]⟩, .int .i64 0])) := by kernel_rfl
  obtain ⟨i0, hi⟩ := Option.isSome_iff_exists.1 h
  rw [hi] at h1 h2 h3
  exact ⟨i0, hi, Option.some.inj h1, Option.some.inj h2, Option.some.inj h3⟩
theorem grow_w (n : Nat) (w : World) (n0 : 0 < n) (n1 : n ≤ 1000) : Calls Tryz.prog 95 #[.slice none 0 0, .int .i64 n] w fun e w' =>
    ∃ c cur, e = .returned (.slice (some ⟨w.heap.size, 0, none⟩) 0 c) ∧ w' = w.drew.alloc (.cells cur 30) ∧ cur.size = c * 2 ∧ c ≤ maxLen := by
  obtain ⟨i0, hi, hs, hb, hz⟩ := inf_ex
  have h := Any8.slices_Grow_grow layG i0 _ hi hz (by rw [hs]; decide) none 0 0 n [] w (Nat.le_refl _) (by omega) (by rw [hb]; omega) (by omega) (by simp) (fun _ => rfl) (fun a ha => by cases ha)
  refine h.mono fun e w' ⟨h1, h2⟩ => ⟨_, _, h1, h2, ?_, ?_⟩
  · have hg := grownCap_ge w (0 + n) 0 (renG.t 25)
    generalize grownCap w (0 + n) 0 (renG.t 25) = G at *
    have hc2 : (Value.agg #[.string ⟨#[]⟩, .int .i64 0]).cells.size = 2 := by rfl
    simp [Builtin.zeroCells]
    rw [hc2]; omega
  · exact grownCap_le_maxLen w (0 + n) 0 (renG.t 25) (by unfold maxLen; omega)
theorem grow_ob (c : Nat) (cur : Array Value) (w : World) (hc : cur.size = c * 2) (hm : c ≤ maxLen) {H : Nat → Prop} {μ : Nat → Option Value} {g : Nat} (hμ : μ g = some (.slice (some ⟨w.heap.size, 0, none⟩) 0 c)) : OR H μ (w.drew.alloc (.cells cur 30)) g (.arr 30 2 []) := by
  refine ⟨_, [], hμ, ⟨rfl, .inr ⟨w.heap.size, c, cur, rfl, Nat.zero_le _, ?_, Nat.zero_le _, hm, hc, by simp⟩⟩, by simp, ?_, by simp⟩
  · exact heap_alloc_new w.drew _
  · exact ⟨rfl, by simp⟩
theorem grow_pm (n : Nat) (n0 : 0 < n) (n1 : n ≤ 1000) : FnM Tryz.prog 95 [] [.d (.v (.slice none 0 0)), vI n] (.own 62) [(62, .arr 30 2 [])] := by
  intro H0 μ w vs hl hI
  have hv := (args_vrs hl hI).eq_vals (us := [.slice none 0 0, .int .i64 n]) rfl
  subst hv
  refine (grow_w n w n0 n1).mono ?_
  rintro e w' ⟨c, cur, rfl, rfl, hc, hm⟩
  have hch : Chg (fun _ => False) w (w.drew.alloc (.cells cur 30)) := ⟨rfl, rfl, rfl, by simp, fun k hk _ => heap_alloc_old w.drew _ hk⟩
  have h2 := hI.new (w2 := w.drew.alloc (.cells cur 30)) (g := 62) (o := .arr 30 2 []) (v := .slice (some ⟨w.heap.size, 0, none⟩) 0 c) rfl hch rfl (fun b hb => by obtain rfl := Option.some.inj hb; simp) (fun H' _ _ => grow_ob c cur w hc hm (upμ_self _ _))
  have e : upM (lk []) [(62, AO.arr 30 2 [])] = lk [(62, .arr 30 2 [])] := upM_cons
  rw [e] at h2
  refine ⟨_, _, rfl, fun t x ht => ?_, h2.ob, h2.inj, h2.lo, h2.fr, h2.free, h2.hs, h2.base, rfl, rfl⟩
  simp only [lk] at ht
  split at ht
  · rename_i hb
    have := Nat.eq_of_beq_eq_true hb
    subst this
    obtain rfl := Option.some.inj ht
    exact .own (upμ_self _ _)
  · cases ht
end Go.Proofs.YtgebgpdoddjfhaaGreat

/- Contracts of the program's functions on paths: paying, checking, planning. -/
namespace Go.Proofs.YtgebgpdoddjfhaaGreat
set_option linter.unusedSimpArgs false
set_option linter.unusedVariables false
set_option linter.unnecessarySimpa false
set_option linter.unusedSectionVars false
set_option maxRecDepth 100000
open Go Go.RowKit Go.Am Go.Proofs.Grow

abbrev lT (l : List TA) : AV := .d (.rows 2 (l.map rT))
theorem positive_pm (n : Int) : FnM Tryz.prog 39 [] [vI n] (vB (decide (n > 0) && okA n)) [] := by
  refine FnM.of htb Tryz.func39 rfl rfl rfl rfl rfl fun cx hN h0 => ?_
  (repeat' (first | (refine nx ?_) | (refine WD_unk (by exact rfl) ?_; ((refine WD_tf (by exact rfl) (by exact rfl) ?_ ?_) <;> (intro hb; (fail_if_success (with_reducible injection hb)); rw [hb]; (try simp only [List.length_map] at hb)))) | (refine WD_call (by exact rfl) ?_; first | (refine WD_c0 (okA_pm _) ?_)) | ((refine WD_tf (by exact rfl) (by exact rfl) ?_ ?_) <;> (intro hb; (fail_if_success (with_reducible injection hb)); rw [hb]; (try simp only [List.length_map] at hb))) | (((with_reducible apply gC2); exact rfl) <;> (intro hb; rw [hb]))))
  all_goals refine gE (.inr rfl) rfl (congrArg vB ?_) trivial
  all_goals simp_all
theorem there_pm (g : Led) (a : Int) (ha : g.accs.length ≤ 1000) : FnM Tryz.prog 47 [] [aG g, vI a] (vB (findA g.accs a).2) [] := by
  refine FnM.of htb Tryz.func47 rfl rfl rfl rfl rfl fun cx hN h0 => ?_
  (repeat' (first | (refine nx ?_) | (refine WD_unk (by exact rfl) ?_; ((refine WD_tf (by exact rfl) (by exact rfl) ?_ ?_) <;> (intro hb; (fail_if_success (with_reducible injection hb)); rw [hb]; (try simp only [List.length_map] at hb)))) | (refine WD_call (by exact rfl) ?_; first | (refine WD_c0 (findA_pm _ _ ?_) ?_; (exact hyp))) | ((refine WD_tf (by exact rfl) (by exact rfl) ?_ ?_) <;> (intro hb; (fail_if_success (with_reducible injection hb)); rw [hb]; (try simp only [List.length_map] at hb))) | (((with_reducible apply gC2); exact rfl) <;> (intro hb; rw [hb]))))
  exact gE (.inr rfl) rfl rfl trivial
set_option maxHeartbeats 2000000 in
theorem move_pm (g : Led) (a : Int) (v : ByteArray) (j p : Int) (b : Int) (u : ByteArray) (i n : Int) (hl : g.lins.length ≤ 1000) (ha : g.accs.length ≤ 1000) (ho : g.offs.length ≤ 1000) :
    FnM Tryz.prog 40 [] [aG g, vI a, aT v j, vI p, vI b, aT u i, vI n] (.tup [aG (moveF g a v j p b u i n).1, vI (moveF g a v j p b u i n).2]) [] := by
  refine FnM.of htb Tryz.func40 rfl rfl rfl rfl rfl fun cx hN h0 => ?_
  unfold moveF
  rcases hD : debitF g a v j p with ⟨y, f⟩
  obtain ⟨y1, y2, y3⟩ := debit_lens hD
  dsimp only
  have l4 : y.lins.length ≤ 1000 := by omega
  have l5 : y.accs.length ≤ 1000 := by omega
  have l6 : y.offs.length ≤ 1000 := by omega
  by_cases hf : f = 0
  case neg =>
    have e1 : (f != 0) = true := by simp [hf]
    rw [if_pos hf]
    (repeat' (first | (refine nx ?_) | (refine WD_unk (by exact rfl) ?_; ((refine WD_tf (by exact rfl) (by exact rfl) ?_ ?_) <;> (intro hb; (fail_if_success (with_reducible injection hb)); rw [hb]; (try simp only [List.length_map] at hb)))) | (refine WD_call (by exact rfl) ?_; first | (refine WD_e0 (fun h => debit_pq _ _ _ _ _ _ _ ?_ ?_ ?_ h) ?_; (exact hyp); (exact hyp); (exact hyp))) | ((refine WD_tf (by exact rfl) (by exact rfl) ?_ ?_) <;> (intro hb; (fail_if_success (with_reducible injection hb)); rw [hb]; (try simp only [List.length_map] at hb))) | (((with_reducible apply gC2); exact rfl) <;> (intro hb; rw [hb]))))
    (exact glV [(14, .ptr 14 0), (15, vI f)] [(14, .box 28 (cellsOf (aG led0)))] (LeV []))
  subst hf
  rw [if_neg (by simp)]
  rcases hC : creditF y b u i n with ⟨z, h⟩
  dsimp only
  by_cases hh : h = 0
  case neg =>
    have e1 : (h != 0) = true := by simp [hh]
    rw [if_pos hh]
    (repeat' (first | (refine nx ?_) | (refine WD_unk (by exact rfl) ?_; ((refine WD_tf (by exact rfl) (by exact rfl) ?_ ?_) <;> (intro hb; (fail_if_success (with_reducible injection hb)); rw [hb]; (try simp only [List.length_map] at hb)))) | (refine WD_call (by exact rfl) ?_; first | (refine WD_e0 (fun h => debit_pq _ _ _ _ _ _ _ ?_ ?_ ?_ h) ?_; (exact hyp); (exact hyp); (exact hyp)) | (refine WD_e0 (fun h => credit_pq _ _ _ _ _ _ _ ?_ ?_ ?_ h) ?_; (exact hyp); (exact hyp); (exact hyp))) | ((refine WD_tf (by exact rfl) (by exact rfl) ?_ ?_) <;> (intro hb; (fail_if_success (with_reducible injection hb)); rw [hb]; (try simp only [List.length_map] at hb))) | (((with_reducible apply gC2); exact rfl) <;> (intro hb; rw [hb]))))
    (exact glV [(14, .ptr 14 0), (15, vI h)] [(14, .box 28 (cellsOf (aG led0)))] (LeV []))
  subst hh
  rw [if_neg (by simp)]
  (repeat' (first | (refine nx ?_) | (refine WD_unk (by exact rfl) ?_; ((refine WD_tf (by exact rfl) (by exact rfl) ?_ ?_) <;> (intro hb; (fail_if_success (with_reducible injection hb)); rw [hb]; (try simp only [List.length_map] at hb)))) | (refine WD_call (by exact rfl) ?_; first | (refine WD_e0 (fun h => debit_pq _ _ _ _ _ _ _ ?_ ?_ ?_ h) ?_; (exact hyp); (exact hyp); (exact hyp)) | (refine WD_e0 (fun h => credit_pq _ _ _ _ _ _ _ ?_ ?_ ?_ h) ?_; (exact hyp); (exact hyp); (exact hyp))) | ((refine WD_tf (by exact rfl) (by exact rfl) ?_ ?_) <;> (intro hb; (fail_if_success (with_reducible injection hb)); rw [hb]; (try simp only [List.length_map] at hb))) | (((with_reducible apply gC2); exact rfl) <;> (intro hb; rw [hb]))))
  (exact glV [(14, .ptr 14 0), (15, vI 0)] [(14, .box 28 (cellsOf (aG z)))] (LeV []))
theorem move_pe (g : Led) (a : Int) (v : ByteArray) (j p : Int) (b : Int) (u : ByteArray) (i n : Int) (x : Led) (e : Int) (hl : g.lins.length ≤ 1000) (ha : g.accs.length ≤ 1000) (ho : g.offs.length ≤ 1000) (he : moveF g a v j p b u i n = (x, e)) :
    FnM Tryz.prog 40 [] [aG g, vI a, aT v j, vI p, vI b, aT u i, vI n] (.tup [aG x, vI e]) [] := by
  have := move_pm g a v j p b u i n hl ha ho
  rwa [he] at this
set_option maxHeartbeats 2000000 in
theorem pay_pm (g : Led) (a b : Int) (u : ByteArray) (i n : Int) (hl : g.lins.length ≤ 1000) (ha : g.accs.length ≤ 1000) (ho : g.offs.length ≤ 1000) :
    FnM Tryz.prog 15 [] [aG g, vI a, vI b, aT u i, vI n] (.tup [aG (payF g a b u i n).1, vI (payF g a b u i n).2]) [] := by
  refine FnM.of htb Tryz.func15 rfl rfl rfl rfl rfl fun cx hN h0 => ?_
  unfold payF
  by_cases hc : chkO g = 0
  case neg =>
    have e1 : (chkO g != 0) = true := by simp [hc]
    rw [if_pos hc]
    (repeat' (first | (refine nx ?_) | (refine WD_unk (by exact rfl) ?_; ((refine WD_tf (by exact rfl) (by exact rfl) ?_ ?_) <;> (intro hb; (fail_if_success (with_reducible injection hb)); rw [hb]; (try simp only [List.length_map] at hb)))) | (refine WD_call (by exact rfl) ?_; first | (refine WD_c0 (chkO_pm _ ?_ ?_ ?_) ?_; (exact hyp); (exact hyp); (exact hyp))) | ((refine WD_tf (by exact rfl) (by exact rfl) ?_ ?_) <;> (intro hb; (fail_if_success (with_reducible injection hb)); rw [hb]; (try simp only [List.length_map] at hb))) | (((with_reducible apply gC2); exact rfl) <;> (intro hb; rw [hb]))))
    (exact glV [(10, .ptr 10 0), (11, vI (chkO g))] [(10, .box 28 (cellsOf (aG led0)))] (LeV []))
  have e1 : (chkO g != 0) = false := by simp [hc]
  rw [if_neg (by simp [hc])]
  by_cases hp : 0 < n ∧ okA n = true
  case neg =>
    have e2 : (!(decide (n > 0) && okA n)) = true := by
      cases h2 : okA n
      · simp
      · simp; by_cases h3 : 0 < n; exact absurd ⟨h3, h2⟩ hp; omega
    rw [if_pos (by
      cases h2 : okA n
      · exact .inr rfl
      · exact .inl fun h3 => hp ⟨h3, h2⟩)]
    (repeat' (first | (refine nx ?_) | (refine WD_unk (by exact rfl) ?_; ((refine WD_tf (by exact rfl) (by exact rfl) ?_ ?_) <;> (intro hb; (fail_if_success (with_reducible injection hb)); rw [hb]; (try simp only [List.length_map] at hb)))) | (refine WD_call (by exact rfl) ?_; first | (refine WD_c0 (chkO_pm _ ?_ ?_ ?_) ?_; (exact hyp); (exact hyp); (exact hyp)) | (refine WD_c0 (positive_pm _) ?_)) | ((refine WD_tf (by exact rfl) (by exact rfl) ?_ ?_) <;> (intro hb; (fail_if_success (with_reducible injection hb)); rw [hb]; (try simp only [List.length_map] at hb))) | (((with_reducible apply gC2); exact rfl) <;> (intro hb; rw [hb]))))
    (exact glV [(10, .ptr 10 0), (11, vI 65)] [(10, .box 28 (cellsOf (aG led0)))] (LeV []))
  have e2 : (!(decide (n > 0) && okA n)) = false := by simp [hp.1, hp.2]
  rw [if_neg (by simp [hp.1, hp.2])]
  by_cases hab : a = b
  · have e3 : (a == b) = true := by simp [hab]
    rw [if_pos hab]
    (repeat' (first | (refine nx ?_) | (refine WD_unk (by exact rfl) ?_; ((refine WD_tf (by exact rfl) (by exact rfl) ?_ ?_) <;> (intro hb; (fail_if_success (with_reducible injection hb)); rw [hb]; (try simp only [List.length_map] at hb)))) | (refine WD_call (by exact rfl) ?_; first | (refine WD_c0 (chkO_pm _ ?_ ?_ ?_) ?_; (exact hyp); (exact hyp); (exact hyp)) | (refine WD_c0 (positive_pm _) ?_)) | ((refine WD_tf (by exact rfl) (by exact rfl) ?_ ?_) <;> (intro hb; (fail_if_success (with_reducible injection hb)); rw [hb]; (try simp only [List.length_map] at hb))) | (((with_reducible apply gC2); exact rfl) <;> (intro hb; rw [hb]))))
    (exact glV [(10, .ptr 10 0), (11, vI 67)] [(10, .box 28 (cellsOf (aG led0)))] (LeV []))
  have e3 : (a == b) = false := by simp [hab]
  rw [if_neg hab]
  rcases hM : moveF g a u i n b u i n with ⟨x, e⟩
  (repeat' (first | (refine nx ?_) | (refine WD_unk (by exact rfl) ?_; ((refine WD_tf (by exact rfl) (by exact rfl) ?_ ?_) <;> (intro hb; (fail_if_success (with_reducible injection hb)); rw [hb]; (try simp only [List.length_map] at hb)))) | (refine WD_call (by exact rfl) ?_; first | (refine WD_c0 (chkO_pm _ ?_ ?_ ?_) ?_; (exact hyp); (exact hyp); (exact hyp)) | (refine WD_c0 (positive_pm _) ?_) | (refine WD_e0 (fun h => move_pe _ _ _ _ _ _ _ _ _ _ _ ?_ ?_ ?_ h) ?_; (exact hyp); (exact hyp); (exact hyp))) | ((refine WD_tf (by exact rfl) (by exact rfl) ?_ ?_) <;> (intro hb; (fail_if_success (with_reducible injection hb)); rw [hb]; (try simp only [List.length_map] at hb))) | (((with_reducible apply gC2); exact rfl) <;> (intro hb; rw [hb]))))
  (exact glV [(10, .ptr 10 0), (11, vI e)] [(10, .box 28 (cellsOf (aG x)))] (LeV []))
theorem pay_pe (g : Led) (a b : Int) (u : ByteArray) (i n : Int) (x : Led) (e : Int) (hl : g.lins.length ≤ 1000) (ha : g.accs.length ≤ 1000) (ho : g.offs.length ≤ 1000) (he : payF g a b u i n = (x, e)) : FnM Tryz.prog 15 [] [aG g, vI a, vI b, aT u i, vI n] (.tup [aG x, vI e]) [] := by
  have := pay_pm g a b u i n hl ha ho
  rwa [he] at this
theorem okN_pm (n : Int) : FnM Tryz.prog 76 [] [vI n] (vB (!okA n)) [] := by
  refine FnM.of htb Tryz.func76 rfl rfl rfl rfl rfl fun cx hN h0 => ?_
  (repeat' (first | (refine nx ?_) | (refine WD_unk (by exact rfl) ?_; ((refine WD_tf (by exact rfl) (by exact rfl) ?_ ?_) <;> (intro hb; (fail_if_success (with_reducible injection hb)); rw [hb]; (try simp only [List.length_map] at hb)))) | (refine WD_call (by exact rfl) ?_; first | (refine WD_c0 (okA_pm _) ?_)) | ((refine WD_tf (by exact rfl) (by exact rfl) ?_ ?_) <;> (intro hb; (fail_if_success (with_reducible injection hb)); rw [hb]; (try simp only [List.length_map] at hb))) | (((with_reducible apply gC2); exact rfl) <;> (intro hb; rw [hb]))))
  exact gE (.inr rfl) rfl rfl trivial
theorem idxN_pm (l : List Int) (hl : l.length ≤ 1000) : FnM Tryz.prog 94 [] [lI l, .clo 76 []] (vI (idxF (fun n => !okA n) 0 l)) [] := by
  refine FnM.of htb Tryz.func94 rfl rfl rfl rfl rfl fun cx hN h0 => ?_
  (repeat' (first | (refine nx ?_) | (refine WD_unk (by exact rfl) ?_; ((refine WD_tf (by exact rfl) (by exact rfl) ?_ ?_) <;> (intro hb; (fail_if_success (with_reducible injection hb)); rw [hb]; (try simp only [List.length_map] at hb)))) | ((refine WD_tf (by exact rfl) (by exact rfl) ?_ ?_) <;> (intro hb; (fail_if_success (with_reducible injection hb)); rw [hb]; (try simp only [List.length_map] at hb))) | (((with_reducible apply gC2); exact rfl) <;> (intro hb; rw [hb]))))
  (refine WA_forV (l.length) [8] [] (fun k => [(8, vI k)]) (fun k => []) (fun k => idxF (fun n => !okA n) 0 l = idxF (fun n => !okA n) k (l.drop k)) ?h0 ?_)
  case h0 => rfl
  intro k hk hI
  (repeat' (first | (refine nx ?_) | (refine WD_unk (by exact rfl) ?_; ((refine WD_tf (by exact rfl) (by exact rfl) ?_ ?_) <;> (intro hb; (fail_if_success (with_reducible injection hb)); rw [hb]; (try simp only [List.length_map] at hb)))) | (refine WD_call (by exact rfl) ?_; first | (refine WD_c0 (okN_pm _) ?_)) | ((refine WD_tf (by exact rfl) (by exact rfl) ?_ ?_) <;> (intro hb; (fail_if_success (with_reducible injection hb)); rw [hb]; (try simp only [List.length_map] at hb))) | (((with_reducible apply gC2); exact rfl) <;> (intro hb; rw [hb]))))
  · exact gE (.inr rfl) rfl (congrArg vI (idx_hit hI (by simp at *; omega) (by assumption)).symm) trivial
  · refine ⟨by simp at *; omega, idx_miss hI (by simp at *; omega) (by assumption), ?_⟩
    (exact LeV [])
  · exact gE (.inr rfl) rfl (congrArg vI (idx_end hI (by simp at *; omega)).symm) trivial
theorem contN_pm (l : List Int) (hl : l.length ≤ 1000) : FnM Tryz.prog 75 [] [lI l, .clo 76 []] (vB (decide (idxF (fun n => !okA n) 0 l ≥ 0))) [] := by
  refine FnM.of htb Tryz.func75 rfl rfl rfl rfl rfl fun cx hN h0 => ?_
  (repeat' (first | (refine nx ?_) | (refine WD_unk (by exact rfl) ?_; ((refine WD_tf (by exact rfl) (by exact rfl) ?_ ?_) <;> (intro hb; (fail_if_success (with_reducible injection hb)); rw [hb]; (try simp only [List.length_map] at hb)))) | (refine WD_call (by exact rfl) ?_; first | (refine WD_c0 (idxN_pm _ ?_) ?_; (exact hyp))) | ((refine WD_tf (by exact rfl) (by exact rfl) ?_ ?_) <;> (intro hb; (fail_if_success (with_reducible injection hb)); rw [hb]; (try simp only [List.length_map] at hb))) | (((with_reducible apply gC2); exact rfl) <;> (intro hb; rw [hb]))))
  exact gE (.inr rfl) rfl rfl trivial
theorem notT_pm (u : ByteArray) (i : Int) : FnM Tryz.prog 33 [] [aT u i] (vB (!assetB u i)) [] := by
  refine FnM.of htb Tryz.func33 rfl rfl rfl rfl rfl fun cx hN h0 => ?_
  (repeat' (first | (refine nx ?_) | (refine WD_unk (by exact rfl) ?_; ((refine WD_tf (by exact rfl) (by exact rfl) ?_ ?_) <;> (intro hb; (fail_if_success (with_reducible injection hb)); rw [hb]; (try simp only [List.length_map] at hb)))) | (refine WD_call (by exact rfl) ?_; first | (refine WD_c0 (asset_pm _ _) ?_)) | ((refine WD_tf (by exact rfl) (by exact rfl) ?_ ?_) <;> (intro hb; (fail_if_success (with_reducible injection hb)); rw [hb]; (try simp only [List.length_map] at hb))) | (((with_reducible apply gC2); exact rfl) <;> (intro hb; rw [hb]))))
  exact gE (.inr rfl) rfl rfl trivial
theorem idxT_pm (l : List TA) (hl : l.length ≤ 1000) : FnM Tryz.prog 60 [] [lT l, .clo 33 []] (vI (idxF (fun a : TA => !assetB a.1 a.2) 0 l)) [] := by
  refine FnM.of htb Tryz.func60 rfl rfl rfl rfl rfl fun cx hN h0 => ?_
  (repeat' (first | (refine nx ?_) | (refine WD_unk (by exact rfl) ?_; ((refine WD_tf (by exact rfl) (by exact rfl) ?_ ?_) <;> (intro hb; (fail_if_success (with_reducible injection hb)); rw [hb]; (try simp only [List.length_map] at hb)))) | ((refine WD_tf (by exact rfl) (by exact rfl) ?_ ?_) <;> (intro hb; (fail_if_success (with_reducible injection hb)); rw [hb]; (try simp only [List.length_map] at hb))) | (((with_reducible apply gC2); exact rfl) <;> (intro hb; rw [hb]))))
  (refine WA_forV (l.length) [8] [] (fun k => [(8, vI k)]) (fun k => []) (fun k => idxF (fun a : TA => !assetB a.1 a.2) 0 l = idxF (fun a : TA => !assetB a.1 a.2) k (l.drop k)) ?h0 ?_)
  case h0 => rfl
  intro k hk hI
  (repeat' (first | (refine nx ?_) | (refine WD_unk (by exact rfl) ?_; ((refine WD_tf (by exact rfl) (by exact rfl) ?_ ?_) <;> (intro hb; (fail_if_success (with_reducible injection hb)); rw [hb]; (try simp only [List.length_map] at hb)))) | (refine WD_call (by exact rfl) ?_; first | (refine WD_c0 (notT_pm _ _) ?_)) | ((refine WD_tf (by exact rfl) (by exact rfl) ?_ ?_) <;> (intro hb; (fail_if_success (with_reducible injection hb)); rw [hb]; (try simp only [List.length_map] at hb))) | (((with_reducible apply gC2); exact rfl) <;> (intro hb; rw [hb]))))
  · exact gE (.inr rfl) rfl (congrArg vI (idx_hit hI (by simp at *; omega) (by assumption)).symm) trivial
  · refine ⟨by simp at *; omega, idx_miss hI (by simp at *; omega) (by assumption), ?_⟩
    (exact LeV [])
  · exact gE (.inr rfl) rfl (congrArg vI (idx_end hI (by simp at *; omega)).symm) trivial
theorem contT_pm (l : List TA) (hl : l.length ≤ 1000) : FnM Tryz.prog 32 [] [lT l, .clo 33 []] (vB (decide (idxF (fun a : TA => !assetB a.1 a.2) 0 l ≥ 0))) [] := by
  refine FnM.of htb Tryz.func32 rfl rfl rfl rfl rfl fun cx hN h0 => ?_
  (repeat' (first | (refine nx ?_) | (refine WD_unk (by exact rfl) ?_; ((refine WD_tf (by exact rfl) (by exact rfl) ?_ ?_) <;> (intro hb; (fail_if_success (with_reducible injection hb)); rw [hb]; (try simp only [List.length_map] at hb)))) | (refine WD_call (by exact rfl) ?_; first | (refine WD_c0 (idxT_pm _ ?_) ?_; (exact hyp))) | ((refine WD_tf (by exact rfl) (by exact rfl) ?_ ?_) <;> (intro hb; (fail_if_success (with_reducible injection hb)); rw [hb]; (try simp only [List.length_map] at hb))) | (((with_reducible apply gC2); exact rfl) <;> (intro hb; rw [hb]))))
  exact gE (.inr rfl) rfl rfl trivial
theorem validP_pm (l : List TA) (hl : l.length ≤ 1000) : FnM Tryz.prog 9 [] [lT l] (vB (validP l)) [] := by
  refine FnM.of htb Tryz.func9 rfl rfl rfl rfl rfl fun cx hN h0 => ?_
  (repeat' (first | (refine nx ?_) | (refine WD_unk (by exact rfl) ?_; ((refine WD_tf (by exact rfl) (by exact rfl) ?_ ?_) <;> (intro hb; (fail_if_success (with_reducible injection hb)); rw [hb]; (try simp only [List.length_map] at hb)))) | (refine WD_call (by exact rfl) ?_; first | (refine WD_c0 (contT_pm _ ?_) ?_; (exact hyp))) | ((refine WD_tf (by exact rfl) (by exact rfl) ?_ ?_) <;> (intro hb; (fail_if_success (with_reducible injection hb)); rw [hb]; (try simp only [List.length_map] at hb))) | (((with_reducible apply gC2); exact rfl) <;> (intro hb; rw [hb]))))
  all_goals refine gE (.inr rfl) rfl (congrArg vB ?_) trivial
  · unfold validP
    have : decide (l.length ≤ 4) = true := by simp only [decide_eq_true_eq] at *; omega
    rw [this, Bool.true_and, ← decide_not]
    exact decide_eq_decide.2 (by omega)
  · unfold validP
    have : decide (l.length ≤ 4) = false := by simp only [decide_eq_false_iff_not] at *; omega
    rw [this]; rfl
def lenN (A B C : List TA) : Nat → Nat
  | 0 => 0
  | 1 => A.length
  | 2 => A.length + B.length
  | _ => A.length + B.length + C.length
def catN (A B C : List TA) : Nat → List TA
  | 0 => []
  | 1 => A
  | 2 => A ++ B
  | _ => A ++ B ++ C
set_option maxHeartbeats 4000000 in
theorem concat_pm (A B C : List TA) (hl : A.length + B.length + C.length ≤ 1000) (h1 : 0 < A.length + B.length + C.length) : FnM Tryz.prog 77 [] [.d (.rows 1 [[.rows 2 (A.map rT)], [.rows 2 (B.map rT)], [.rows 2 (C.map rT)]])] (lT (A ++ B ++ C)) [] := by
  refine FnM.of htb Tryz.func77 rfl rfl rfl rfl rfl fun cx hN h0 => ?_
  have z0 : lenN A B C 0 = 0 := rfl
  have z1 : lenN A B C (0 + 1) = A.length := rfl
  have z1' : lenN A B C 1 = A.length := rfl
  have z2 : lenN A B C (1 + 1) = A.length + B.length := rfl
  have z2' : lenN A B C 2 = A.length + B.length := rfl
  have z3 : lenN A B C (2 + 1) = A.length + B.length + C.length := rfl
  (repeat' (first | (refine nx ?_) | (refine WD_unk (by exact rfl) ?_; ((refine WD_tf (by exact rfl) (by exact rfl) ?_ ?_) <;> (intro hb; (fail_if_success (with_reducible injection hb)); rw [hb]; (try simp only [List.length_map] at hb)))) | ((refine WD_tf (by exact rfl) (by exact rfl) ?_ ?_) <;> (intro hb; (fail_if_success (with_reducible injection hb)); rw [hb]; (try simp only [List.length_map] at hb))) | (((with_reducible apply gC2); exact rfl) <;> (intro hb; rw [hb]))))
  (refine WA_forV (3) [11, 3] [] (fun k => [(11, vI k), (3, vI ((lenN A B C k : Nat) : Int))]) (fun k => []) (fun k => True) ?h0 ?_)
  case h0 => trivial
  intro k hk _
  rcases (by omega : k = 0 ∨ k = 1 ∨ k = 2 ∨ k = 3) with rfl | rfl | rfl | rfl
  · (repeat' (first | (refine nx ?_) | (refine WD_unk (by exact rfl) ?_; ((refine WD_tf (by exact rfl) (by exact rfl) ?_ ?_) <;> (intro hb; (fail_if_success (with_reducible injection hb)); rw [hb]; (try simp only [List.length_map] at hb)))) | ((refine WD_tf (by exact rfl) (by exact rfl) ?_ ?_) <;> (intro hb; (fail_if_success (with_reducible injection hb)); rw [hb]; (try simp only [List.length_map] at hb))) | (((with_reducible apply gC2); exact rfl) <;> (intro hb; rw [hb]))))
    refine WD_idx htb ?_ (hr := rfl)
    have d2 : decide (((lenN A B C 0 : Nat) : Int) + (A.length : Int) < 0) = false := by simp only [decide_eq_false_iff_not]; omega
    have e : lenN A B C (0 + 1) = lenN A B C 0 + A.length := by omega
    (repeat' (first | (refine nx ?_) | (refine WD_unk (by exact rfl) ?_; ((refine WD_tf (by exact rfl) (by exact rfl) ?_ ?_) <;> (intro hb; (fail_if_success (with_reducible injection hb)); rw [hb]; (try simp only [List.length_map] at hb)))) | ((refine WD_tf (by exact rfl) (by exact rfl) ?_ ?_) <;> (intro hb; (fail_if_success (with_reducible injection hb)); rw [hb]; (try simp only [List.length_map] at hb))) | (((with_reducible apply gC2); exact rfl) <;> (intro hb; rw [hb]))))
    refine ⟨by omega, trivial, ?_⟩
    rw [e]
    (exact LeV [])
  · (repeat' (first | (refine nx ?_) | (refine WD_unk (by exact rfl) ?_; ((refine WD_tf (by exact rfl) (by exact rfl) ?_ ?_) <;> (intro hb; (fail_if_success (with_reducible injection hb)); rw [hb]; (try simp only [List.length_map] at hb)))) | ((refine WD_tf (by exact rfl) (by exact rfl) ?_ ?_) <;> (intro hb; (fail_if_success (with_reducible injection hb)); rw [hb]; (try simp only [List.length_map] at hb))) | (((with_reducible apply gC2); exact rfl) <;> (intro hb; rw [hb]))))
    refine WD_idx htb ?_ (hr := rfl)
    have d2 : decide (((lenN A B C 1 : Nat) : Int) + (B.length : Int) < 0) = false := by simp only [decide_eq_false_iff_not]; omega
    have e : lenN A B C (1 + 1) = lenN A B C 1 + B.length := by omega
    (repeat' (first | (refine nx ?_) | (refine WD_unk (by exact rfl) ?_; ((refine WD_tf (by exact rfl) (by exact rfl) ?_ ?_) <;> (intro hb; (fail_if_success (with_reducible injection hb)); rw [hb]; (try simp only [List.length_map] at hb)))) | ((refine WD_tf (by exact rfl) (by exact rfl) ?_ ?_) <;> (intro hb; (fail_if_success (with_reducible injection hb)); rw [hb]; (try simp only [List.length_map] at hb))) | (((with_reducible apply gC2); exact rfl) <;> (intro hb; rw [hb]))))
    refine ⟨by omega, trivial, ?_⟩
    rw [e]
    (exact LeV [])
  · (repeat' (first | (refine nx ?_) | (refine WD_unk (by exact rfl) ?_; ((refine WD_tf (by exact rfl) (by exact rfl) ?_ ?_) <;> (intro hb; (fail_if_success (with_reducible injection hb)); rw [hb]; (try simp only [List.length_map] at hb)))) | ((refine WD_tf (by exact rfl) (by exact rfl) ?_ ?_) <;> (intro hb; (fail_if_success (with_reducible injection hb)); rw [hb]; (try simp only [List.length_map] at hb))) | (((with_reducible apply gC2); exact rfl) <;> (intro hb; rw [hb]))))
    refine WD_idx htb ?_ (hr := rfl)
    have d2 : decide (((lenN A B C 2 : Nat) : Int) + (C.length : Int) < 0) = false := by simp only [decide_eq_false_iff_not]; omega
    have e : lenN A B C (2 + 1) = lenN A B C 2 + C.length := by omega
    (repeat' (first | (refine nx ?_) | (refine WD_unk (by exact rfl) ?_; ((refine WD_tf (by exact rfl) (by exact rfl) ?_ ?_) <;> (intro hb; (fail_if_success (with_reducible injection hb)); rw [hb]; (try simp only [List.length_map] at hb)))) | ((refine WD_tf (by exact rfl) (by exact rfl) ?_ ?_) <;> (intro hb; (fail_if_success (with_reducible injection hb)); rw [hb]; (try simp only [List.length_map] at hb))) | (((with_reducible apply gC2); exact rfl) <;> (intro hb; rw [hb]))))
    refine ⟨by omega, trivial, ?_⟩
    rw [e]
    (exact LeV [])
  have e3 : lenN A B C 3 = A.length + B.length + C.length := rfl
  (repeat' (first | (refine nx ?_) | (refine WD_unk (by exact rfl) ?_; ((refine WD_tf (by exact rfl) (by exact rfl) ?_ ?_) <;> (intro hb; (fail_if_success (with_reducible injection hb)); rw [hb]; (try simp only [List.length_map] at hb)))) | (refine WD_call (by exact rfl) ?_; first | (refine WD_cM (grow_pm (n := lenN A B C 3) ?_ ?_) ?_; (exact hyp); (exact hyp))) | ((refine WD_tf (by exact rfl) (by exact rfl) ?_ ?_) <;> (intro hb; (fail_if_success (with_reducible injection hb)); rw [hb]; (try simp only [List.length_map] at hb))) | (((with_reducible apply gC2); exact rfl) <;> (intro hb; rw [hb]))))
  (refine WA_forV (3) [27, 6, 24] [62] (fun k => [(27, vI k), (6, .own 62)]) (fun k => [(62, .arr 30 2 ((catN A B C k).map rT))]) (fun k => True) ?h0 ?_)
  case h0 => trivial
  intro k hk _
  rcases (by omega : k = 0 ∨ k = 1 ∨ k = 2 ∨ k = 3) with rfl | rfl | rfl | rfl
  · (repeat' (first | (refine nx ?_) | (refine WD_unk (by exact rfl) ?_; ((refine WD_tf (by exact rfl) (by exact rfl) ?_ ?_) <;> (intro hb; (fail_if_success (with_reducible injection hb)); rw [hb]; (try simp only [List.length_map] at hb)))) | ((refine WD_tf (by exact rfl) (by exact rfl) ?_ ?_) <;> (intro hb; (fail_if_success (with_reducible injection hb)); rw [hb]; (try simp only [List.length_map] at hb))) | (((with_reducible apply gC2); exact rfl) <;> (intro hb; rw [hb]))))
    refine WD_idx htb ?_ (hr := rfl)
    have hrow : (catN A B C 0).map rT ++ A.map rT = (catN A B C (0 + 1)).map rT := by simp [catN]
    have hln : (catN A B C 0).length ≤ 1000 := by simp only [catN, List.length_append, List.length_nil]; omega
    (repeat' (first | (refine nx ?_) | (refine WD_unk (by exact rfl) ?_; ((refine WD_tf (by exact rfl) (by exact rfl) ?_ ?_) <;> (intro hb; (fail_if_success (with_reducible injection hb)); rw [hb]; (try simp only [List.length_map] at hb)))) | ((refine WD_tf (by exact rfl) (by exact rfl) ?_ ?_) <;> (intro hb; (fail_if_success (with_reducible injection hb)); rw [hb]; (try simp only [List.length_map] at hb))) | (((with_reducible apply gC2); exact rfl) <;> (intro hb; rw [hb]))))
    refine ⟨by omega, trivial, ?_⟩
    (exact LeV [(62, 33)])
  · (repeat' (first | (refine nx ?_) | (refine WD_unk (by exact rfl) ?_; ((refine WD_tf (by exact rfl) (by exact rfl) ?_ ?_) <;> (intro hb; (fail_if_success (with_reducible injection hb)); rw [hb]; (try simp only [List.length_map] at hb)))) | ((refine WD_tf (by exact rfl) (by exact rfl) ?_ ?_) <;> (intro hb; (fail_if_success (with_reducible injection hb)); rw [hb]; (try simp only [List.length_map] at hb))) | (((with_reducible apply gC2); exact rfl) <;> (intro hb; rw [hb]))))
    refine WD_idx htb ?_ (hr := rfl)
    have hrow : (catN A B C 1).map rT ++ B.map rT = (catN A B C (1 + 1)).map rT := by simp [catN]
    have hln : (catN A B C 1).length ≤ 1000 := by simp only [catN, List.length_append, List.length_nil]; omega
    (repeat' (first | (refine nx ?_) | (refine WD_unk (by exact rfl) ?_; ((refine WD_tf (by exact rfl) (by exact rfl) ?_ ?_) <;> (intro hb; (fail_if_success (with_reducible injection hb)); rw [hb]; (try simp only [List.length_map] at hb)))) | ((refine WD_tf (by exact rfl) (by exact rfl) ?_ ?_) <;> (intro hb; (fail_if_success (with_reducible injection hb)); rw [hb]; (try simp only [List.length_map] at hb))) | (((with_reducible apply gC2); exact rfl) <;> (intro hb; rw [hb]))))
    refine ⟨by omega, trivial, ?_⟩
    (exact LeV [(62, 33)])
  · (repeat' (first | (refine nx ?_) | (refine WD_unk (by exact rfl) ?_; ((refine WD_tf (by exact rfl) (by exact rfl) ?_ ?_) <;> (intro hb; (fail_if_success (with_reducible injection hb)); rw [hb]; (try simp only [List.length_map] at hb)))) | ((refine WD_tf (by exact rfl) (by exact rfl) ?_ ?_) <;> (intro hb; (fail_if_success (with_reducible injection hb)); rw [hb]; (try simp only [List.length_map] at hb))) | (((with_reducible apply gC2); exact rfl) <;> (intro hb; rw [hb]))))
    refine WD_idx htb ?_ (hr := rfl)
    have hrow : (catN A B C 2).map rT ++ C.map rT = (catN A B C (2 + 1)).map rT := by simp [catN]
    have hln : (catN A B C 2).length ≤ 1000 := by simp only [catN, List.length_append, List.length_nil]; omega
    (repeat' (first | (refine nx ?_) | (refine WD_unk (by exact rfl) ?_; ((refine WD_tf (by exact rfl) (by exact rfl) ?_ ?_) <;> (intro hb; (fail_if_success (with_reducible injection hb)); rw [hb]; (try simp only [List.length_map] at hb)))) | ((refine WD_tf (by exact rfl) (by exact rfl) ?_ ?_) <;> (intro hb; (fail_if_success (with_reducible injection hb)); rw [hb]; (try simp only [List.length_map] at hb))) | (((with_reducible apply gC2); exact rfl) <;> (intro hb; rw [hb]))))
    refine ⟨by omega, trivial, ?_⟩
    (exact LeV [(62, 33)])
  have e4 : catN A B C 3 = A ++ B ++ C := rfl
  rw [e4]
  (repeat' (first | (refine nx ?_) | (refine WD_unk (by exact rfl) ?_; ((refine WD_tf (by exact rfl) (by exact rfl) ?_ ?_) <;> (intro hb; (fail_if_success (with_reducible injection hb)); rw [hb]; (try simp only [List.length_map] at hb)))) | ((refine WD_tf (by exact rfl) (by exact rfl) ?_ ?_) <;> (intro hb; (fail_if_success (with_reducible injection hb)); rw [hb]; (try simp only [List.length_map] at hb))) | (((with_reducible apply gC2); exact rfl) <;> (intro hb; rw [hb]))))
  (exact glV [(2, lT (A ++ B ++ C))] [] (LeV []))
end Go.Proofs.YtgebgpdoddjfhaaGreat

/- Contracts of the program's functions on paths: planning, buying, sending, asking. -/
namespace Go.Proofs.YtgebgpdoddjfhaaGreat
set_option linter.unusedSimpArgs false
set_option linter.unusedVariables false
set_option linter.unnecessarySimpa false
set_option linter.unusedSectionVars false
set_option maxRecDepth 100000
open Go Go.RowKit Go.Am Go.Proofs.Grow

abbrev aR (a : Int) (c : List TA) : AV := .agg [vI a, lT c]
def planF (g : Led) (a : Int) (v : ByteArray) (j : Int) (u : ByteArray) (i : Int) (l : List TA) (ns : List Int) : Int × List TA := if plnE g v j u i l ns = 0 then (a, chainF v j u i l) else (0, [])
set_option maxHeartbeats 4000000 in
theorem plan_pm (g : Led) (a : Int) (v : ByteArray) (j : Int) (u : ByteArray) (i : Int) (l : List TA) (ns : List Int) (hl : g.lins.length ≤ 1000) (ha : g.accs.length ≤ 1000) (ho : g.offs.length ≤ 1000) (hp : l.length ≤ 900) (h1 : 1 ≤ ns.length) (h2 : ns.length ≤ 1000) :
    FnM Tryz.prog 46 [] [aG g, vI a, aT v j, aT u i, lT l, lI ns] (.tup [aR (planF g a v j u i l ns).1 (planF g a v j u i l ns).2, vI (plnE g v j u i l ns)]) [] := by
  refine FnM.of htb Tryz.func46 rfl rfl rfl rfl rfl fun cx hN h0 => ?_
  unfold planF
  by_cases hc : chkO g = 0
  case neg =>
    have e1 : (chkO g != 0) = true := by simp [hc]
    have e : plnE g v j u i l ns = chkO g := if_pos hc
    rw [e, if_neg hc]
    (repeat' (first | (refine nx ?_) | (refine WD_unk (by exact rfl) ?_; ((refine WD_tf (by exact rfl) (by exact rfl) ?_ ?_) <;> (intro hb; (fail_if_success (with_reducible injection hb)); rw [hb]; (try simp only [List.length_map] at hb)))) | (refine WD_call (by exact rfl) ?_; first | (refine WD_c0 (chkO_pm _ ?_ ?_ ?_) ?_; (exact hyp); (exact hyp); (exact hyp))) | ((refine WD_tf (by exact rfl) (by exact rfl) ?_ ?_) <;> (intro hb; (fail_if_success (with_reducible injection hb)); rw [hb]; (try simp only [List.length_map] at hb))) | (((with_reducible apply gC2); exact rfl) <;> (intro hb; rw [hb]))))
    (exact glV [(12, .ptr 12 0), (13, vI (chkO g))] [(12, .box 82 [vI 0, lT []])] (LeV []))
  have e1 : (chkO g != 0) = false := by simp [hc]
  by_cases hn : 0 ≤ idxF (fun n => !okA n) 0 ns ∨ nth ns 0 = 0
  · have e : plnE g v j u i l ns = 65 := by unfold plnE; rw [if_neg (by simp [hc]), if_pos hn]
    rw [e, if_neg (by decide)]
    by_cases hn1 : 0 ≤ idxF (fun n => !okA n) 0 ns
    · have e2 : decide (idxF (fun n => !okA n) 0 ns ≥ 0) = true := by simp only [decide_eq_true_eq]; exact hn1
      (repeat' (first | (refine nx ?_) | (refine WD_unk (by exact rfl) ?_; ((refine WD_tf (by exact rfl) (by exact rfl) ?_ ?_) <;> (intro hb; (fail_if_success (with_reducible injection hb)); rw [hb]; (try simp only [List.length_map] at hb)))) | (refine WD_call (by exact rfl) ?_; first | (refine WD_c0 (chkO_pm _ ?_ ?_ ?_) ?_; (exact hyp); (exact hyp); (exact hyp)) | (refine WD_c0 (contN_pm _ ?_) ?_; (exact hyp))) | ((refine WD_tf (by exact rfl) (by exact rfl) ?_ ?_) <;> (intro hb; (fail_if_success (with_reducible injection hb)); rw [hb]; (try simp only [List.length_map] at hb))) | (((with_reducible apply gC2); exact rfl) <;> (intro hb; rw [hb]))))
      (exact glV [(12, .ptr 12 0), (13, vI 65)] [(12, .box 82 [vI 0, lT []])] (LeV []))
    · have e2 : decide (idxF (fun n => !okA n) 0 ns ≥ 0) = false := by simp only [decide_eq_false_iff_not]; exact hn1
      have e3 : (nth ns 0 == 0) = true := by
        rcases hn with h | h
        · exact absurd h hn1
        · simp [h]
      (repeat' (first | (refine nx ?_) | (refine WD_unk (by exact rfl) ?_; ((refine WD_tf (by exact rfl) (by exact rfl) ?_ ?_) <;> (intro hb; (fail_if_success (with_reducible injection hb)); rw [hb]; (try simp only [List.length_map] at hb)))) | (refine WD_call (by exact rfl) ?_; first | (refine WD_c0 (chkO_pm _ ?_ ?_ ?_) ?_; (exact hyp); (exact hyp); (exact hyp)) | (refine WD_c0 (contN_pm _ ?_) ?_; (exact hyp))) | ((refine WD_tf (by exact rfl) (by exact rfl) ?_ ?_) <;> (intro hb; (fail_if_success (with_reducible injection hb)); rw [hb]; (try simp only [List.length_map] at hb))) | (((with_reducible apply gC2); exact rfl) <;> (intro hb; rw [hb]))))
      (exact glV [(12, .ptr 12 0), (13, vI 65)] [(12, .box 82 [vI 0, lT []])] (LeV []))
  have e2 : decide (idxF (fun n => !okA n) 0 ns ≥ 0) = false := by simp only [decide_eq_false_iff_not]; omega
  have e3 : (nth ns 0 == 0) = false := by simp only [beq_eq_false_iff_ne]; omega
  by_cases hq : assetB v j = false ∨ assetB u i = false ∨ validP l = false
  · have e : plnE g v j u i l ns = 71 := by unfold plnE; rw [if_neg (by simp [hc]), if_neg hn, if_pos hq]
    rw [e, if_neg (by decide)]
    (repeat' (first | (refine nx ?_) | (refine WD_unk (by exact rfl) ?_; ((refine WD_tf (by exact rfl) (by exact rfl) ?_ ?_) <;> (intro hb; (fail_if_success (with_reducible injection hb)); rw [hb]; (try simp only [List.length_map] at hb)))) | (refine WD_call (by exact rfl) ?_; first | (refine WD_c0 (chkO_pm _ ?_ ?_ ?_) ?_; (exact hyp); (exact hyp); (exact hyp)) | (refine WD_c0 (contN_pm _ ?_) ?_; (exact hyp)) | (refine WD_c0 (asset_pm _ _) ?_) | (refine WD_c0 (validP_pm _ ?_) ?_; (exact hyp))) | ((refine WD_tf (by exact rfl) (by exact rfl) ?_ ?_) <;> (intro hb; (fail_if_success (with_reducible injection hb)); rw [hb]; (try simp only [List.length_map] at hb))) | (((with_reducible apply gC2); exact rfl) <;> (intro hb; rw [hb]))))
    all_goals try simp only [Bool.not_eq_true', Bool.not_eq_false', decide_eq_true_eq, decide_eq_false_iff_not, bne_iff_ne, bne_eq_false_iff_eq, beq_iff_eq, beq_eq_false_iff_ne] at *
    all_goals first
      | (exfalso; simp_all; done)
      | (exact glV [(12, .ptr 12 0), (13, vI 71)] [(12, .box 82 [vI 0, lT []])] (LeV []))
  simp only [not_or, Bool.not_eq_false] at hq
  have e : plnE g v j u i l ns = 0 := by unfold plnE; rw [if_neg (by simp [hc]), if_neg hn, if_neg (by simp [hq.1, hq.2.1, hq.2.2])]
  have e4 : (!assetB v j) = false := by simp [hq.1]
  have e5 : (!assetB u i) = false := by simp [hq.2.1]
  have e6 : (!validP l) = false := by simp [hq.2.2]
  rw [e, if_pos rfl]
  (repeat' (first | (refine nx ?_) | (refine WD_unk (by exact rfl) ?_; ((refine WD_tf (by exact rfl) (by exact rfl) ?_ ?_) <;> (intro hb; (fail_if_success (with_reducible injection hb)); rw [hb]; (try simp only [List.length_map] at hb)))) | (refine WD_call (by exact rfl) ?_; first | (refine WD_c0 (chkO_pm _ ?_ ?_ ?_) ?_; (exact hyp); (exact hyp); (exact hyp)) | (refine WD_c0 (contN_pm _ ?_) ?_; (exact hyp)) | (refine WD_c0 (asset_pm _ _) ?_) | (refine WD_c0 (validP_pm _ ?_) ?_; (exact hyp)) | (refine WD_c0 (concat_pm (A := [(v, j)]) (B := l) (C := [(u, i)]) ?_ ?_) ?_; (exact hyp); (exact hyp))) | ((refine WD_tf (by exact rfl) (by exact rfl) ?_ ?_) <;> (intro hb; (fail_if_success (with_reducible injection hb)); rw [hb]; (try simp only [List.length_map] at hb))) | (((with_reducible apply gC2); exact rfl) <;> (intro hb; rw [hb]))))
  (exact glV [(12, .ptr 12 0), (13, vI 0)] [(12, .box 82 [vI a, lT (chainF v j u i l)])] (LeV []))
set_option maxHeartbeats 4000000 in
theorem buy_pm (a : Int) (c : List TA) (g : Led) (n : Int) (hl : g.lins.length ≤ 1000) (ha : g.accs.length ≤ 1000) (ho : g.offs.length ≤ 12) (h1 : 1 ≤ c.length ∧ c.length ≤ 1000) :
    FnM Tryz.prog 48 [] [aR a c, aG g, vI n] (.tup [aG (convF g a c n).1, vI (convF g a c n).2.1, vI (convF g a c n).2.2]) [] := by
  refine FnM.of htb Tryz.func48 rfl rfl rfl rfl rfl fun cx hN h0 => ?_
  (repeat' (first | (refine nx ?_) | (refine WD_unk (by exact rfl) ?_; ((refine WD_tf (by exact rfl) (by exact rfl) ?_ ?_) <;> (intro hb; (fail_if_success (with_reducible injection hb)); rw [hb]; (try simp only [List.length_map] at hb)))) | ((refine WD_tf (by exact rfl) (by exact rfl) ?_ ?_) <;> (intro hb; (fail_if_success (with_reducible injection hb)); rw [hb]; (try simp only [List.length_map] at hb))) | (((with_reducible apply gC2); exact rfl) <;> (intro hb; rw [hb]))))
  (refine WA_anyV (α := Nat × Led × Int) (fun x => x.1) ((c.length - 1, g, n)) [9, 2] [4] (fun x => [(9, vI x.1), (2, vI x.2.2)]) (fun x => [(4, .box 28 (cellsOf (aG x.2.1)))]) (fun x => x.1 < c.length ∧ convN a c x.1 x.2.1 x.2.2 = convF g a c n ∧ x.2.1.lins.length ≤ 1000 ∧ x.2.1.accs.length ≤ 1000 ∧ x.2.1.offs.length ≤ 12) ?h0 ?_)
  case h0 => exact ⟨by dsimp only; omega, rfl, hl, ha, ho⟩
  rintro ⟨k, x, m⟩ ⟨i1, i2, i3, i4, i5⟩
  dsimp only at i1 i2 i3 i4 i5
  cases k with
  | zero =>
    have d1 : decide (((0 : Nat) : Int) > 0) = false := by decide
    have e : convF g a c n = (x, m, 0) := i2.symm
    rw [e]
    (repeat' (first | (refine nx ?_) | (refine WD_unk (by exact rfl) ?_; ((refine WD_tf (by exact rfl) (by exact rfl) ?_ ?_) <;> (intro hb; (fail_if_success (with_reducible injection hb)); rw [hb]; (try simp only [List.length_map] at hb)))) | ((refine WD_tf (by exact rfl) (by exact rfl) ?_ ?_) <;> (intro hb; (fail_if_success (with_reducible injection hb)); rw [hb]; (try simp only [List.length_map] at hb))) | (((with_reducible apply gC2); exact rfl) <;> (intro hb; rw [hb]))))
    (exact glV [(6, .ptr 6 0), (7, vI m), (8, vI 0)] [(6, .box 28 (cellsOf (aG x)))] (LeV []))
  | succ k =>
    have d1 : decide (((k + 1 : Nat) : Int) > 0) = true := by simp only [decide_eq_true_eq]; omega
    have e : (((k + 1 : Nat) : Int) - 1).toNat = k := by omega
    unfold convN at i2
    cases h : eqT (nth c (k + 1)).1 (nth c (k + 1)).2 (nth c k).1 (nth c k).2 with
    | true =>
      rw [if_pos h] at i2
      have h' : eqT (nth c (k + 1)).1 (nth c (k + 1)).2 (nth c (((k + 1 : Nat) : Int) - 1).toNat).1 (nth c (((k + 1 : Nat) : Int) - 1).toNat).2 = true := by rw [e]; exact h
      (repeat' (first | ((with_reducible apply WD_id); first | (refine WD_eq (eqT_step rfl rfl rfl) ?_)) | (refine nx ?_) | (refine WD_unk (by exact rfl) ?_; ((refine WD_tf (by exact rfl) (by exact rfl) ?_ ?_) <;> (intro hb; (fail_if_success (with_reducible injection hb)); rw [hb]; (try simp only [List.length_map] at hb)))) | ((refine WD_tf (by exact rfl) (by exact rfl) ?_ ?_) <;> (intro hb; (fail_if_success (with_reducible injection hb)); rw [hb]; (try simp only [List.length_map] at hb))) | (((with_reducible apply gC2); exact rfl) <;> (intro hb; rw [hb]))))
      refine ⟨(k, x, m), by dsimp only; omega, ⟨by dsimp only; omega, i2, i3, i4, i5⟩, ?_⟩
      (exact LeV [])
    | false =>
      rw [if_neg (by simp [h])] at i2
      have h' : eqT (nth c (k + 1)).1 (nth c (k + 1)).2 (nth c (((k + 1 : Nat) : Int) - 1).toNat).1 (nth c (((k + 1 : Nat) : Int) - 1).toNat).2 = false := by rw [e]; exact h
      rcases hX : crossF x a (nth c (k + 1)).1 (nth c (k + 1)).2 (nth c k).1 (nth c k).2 m 1000000000000 with ⟨y, b, p, f⟩
      obtain ⟨y1, y2, y3⟩ := cross_lens hX
      rw [hX] at i2
      dsimp only at i2
      have hX' : crossF x a (nth c (k + 1)).1 (nth c (k + 1)).2 (nth c (((k + 1 : Nat) : Int) - 1).toNat).1 (nth c (((k + 1 : Nat) : Int) - 1).toNat).2 m 1000000000000 = (y, b, p, f) := by rw [e]; exact hX
      clear hX
      by_cases hf : f = 0
      case neg =>
        have t1 : (f != 0) = true := by simp [hf]
        rw [if_pos hf] at i2
        rw [← i2]
        (repeat' (first | ((with_reducible apply WD_id); first | (refine WD_eq (eqT_step rfl rfl rfl) ?_)) | (refine nx ?_) | (refine WD_unk (by exact rfl) ?_; ((refine WD_tf (by exact rfl) (by exact rfl) ?_ ?_) <;> (intro hb; (fail_if_success (with_reducible injection hb)); rw [hb]; (try simp only [List.length_map] at hb)))) | (refine WD_call (by exact rfl) ?_; first | (refine WD_e0 (fun h => cross_pe _ _ _ _ _ _ _ _ _ _ _ _ ?_ ?_ ?_ h) ?_; (exact hyp); (exact hyp); (exact hyp))) | ((refine WD_tf (by exact rfl) (by exact rfl) ?_ ?_) <;> (intro hb; (fail_if_success (with_reducible injection hb)); rw [hb]; (try simp only [List.length_map] at hb))) | (((with_reducible apply gC2); exact rfl) <;> (intro hb; rw [hb]))))
        (exact glV [(6, .ptr 6 0), (7, vI 0), (8, vI f)] [(6, .box 28 (cellsOf (aG led0)))] (LeV []))
      have t1 : (f != 0) = false := by simp [hf]
      rw [if_neg (by simp [hf])] at i2
      by_cases hb : b < m
      · have t2 : decide (b < m) = true := by simp [hb]
        rw [if_pos hb] at i2
        rw [← i2]
        (repeat' (first | ((with_reducible apply WD_id); first | (refine WD_eq (eqT_step rfl rfl rfl) ?_)) | (refine nx ?_) | (refine WD_unk (by exact rfl) ?_; ((refine WD_tf (by exact rfl) (by exact rfl) ?_ ?_) <;> (intro hb; (fail_if_success (with_reducible injection hb)); rw [hb]; (try simp only [List.length_map] at hb)))) | (refine WD_call (by exact rfl) ?_; first | (refine WD_e0 (fun h => cross_pe _ _ _ _ _ _ _ _ _ _ _ _ ?_ ?_ ?_ h) ?_; (exact hyp); (exact hyp); (exact hyp))) | ((refine WD_tf (by exact rfl) (by exact rfl) ?_ ?_) <;> (intro hb; (fail_if_success (with_reducible injection hb)); rw [hb]; (try simp only [List.length_map] at hb))) | (((with_reducible apply gC2); exact rfl) <;> (intro hb; rw [hb]))))
        (exact glV [(6, .ptr 6 0), (7, vI 0), (8, vI 73)] [(6, .box 28 (cellsOf (aG led0)))] (LeV []))
      · have t2 : decide (b < m) = false := by simp [hb]
        rw [if_neg hb] at i2
        (repeat' (first | ((with_reducible apply WD_id); first | (refine WD_eq (eqT_step rfl rfl rfl) ?_)) | (refine nx ?_) | (refine WD_unk (by exact rfl) ?_; ((refine WD_tf (by exact rfl) (by exact rfl) ?_ ?_) <;> (intro hb; (fail_if_success (with_reducible injection hb)); rw [hb]; (try simp only [List.length_map] at hb)))) | (refine WD_call (by exact rfl) ?_; first | (refine WD_e0 (fun h => cross_pe _ _ _ _ _ _ _ _ _ _ _ _ ?_ ?_ ?_ h) ?_; (exact hyp); (exact hyp); (exact hyp))) | ((refine WD_tf (by exact rfl) (by exact rfl) ?_ ?_) <;> (intro hb; (fail_if_success (with_reducible injection hb)); rw [hb]; (try simp only [List.length_map] at hb))) | (((with_reducible apply gC2); exact rfl) <;> (intro hb; rw [hb]))))
        refine ⟨(k, y, p), by dsimp only; omega, ⟨by dsimp only; omega, i2, by dsimp only; omega, by dsimp only; omega, by dsimp only; omega⟩, ?_⟩
        (exact LeV [])
theorem plan_pe (g : Led) (a : Int) (v : ByteArray) (j : Int) (u : ByteArray) (i : Int) (l : List TA) (ns : List Int) (c : Int × List TA) (e : Int) (hl : g.lins.length ≤ 1000) (ha : g.accs.length ≤ 1000) (ho : g.offs.length ≤ 1000) (hp : l.length ≤ 900) (h1 : 1 ≤ ns.length) (h2 : ns.length ≤ 1000) (he : (planF g a v j u i l ns, plnE g v j u i l ns) = (c, e)) :
    FnM Tryz.prog 46 [] [aG g, vI a, aT v j, aT u i, lT l, lI ns] (.tup [aR c.1 c.2, vI e]) [] := by
  have := plan_pm g a v j u i l ns hl ha ho hp h1 h2
  rwa [show planF g a v j u i l ns = c from congrArg Prod.fst he, show plnE g v j u i l ns = e from congrArg Prod.snd he] at this
theorem buy_pe (a : Int) (c : List TA) (g : Led) (n : Int) (x : Led) (p e : Int) (hl : g.lins.length ≤ 1000) (ha : g.accs.length ≤ 1000) (ho : g.offs.length ≤ 12) (h1 : 1 ≤ c.length ∧ c.length ≤ 1000) (he : convF g a c n = (x, p, e)) :
    FnM Tryz.prog 48 [] [aR a c, aG g, vI n] (.tup [aG x, vI p, vI e]) [] := by
  have := buy_pm a c g n hl ha ho h1
  rwa [he] at this
theorem conv_lens {t : Int} {c : List TA} : ∀ (k : Nat) {g : Led} {n : Int} {x : Led} {p e : Int}, convN t c k g n = (x, p, e) → x.lins.length ≤ g.lins.length ∧ x.accs.length ≤ g.accs.length ∧ x.offs.length ≤ g.offs.length := by
  intro k
  induction k with
  | zero => intro g n x p e h; obtain rfl : g = x := congrArg Prod.fst h; exact ⟨Nat.le_refl _, Nat.le_refl _, Nat.le_refl _⟩
  | succ k ih =>
    intro g n x p e h
    unfold convN at h
    split at h
    · exact ih h
    · rcases hX : crossF g t (nth c (k + 1)).1 (nth c (k + 1)).2 (nth c k).1 (nth c k).2 n 1000000000000 with ⟨y, b, q, f⟩
      obtain ⟨y1, y2, y3⟩ := cross_lens hX
      rw [hX] at h
      dsimp only at h
      split at h
      · obtain rfl : led0 = x := congrArg Prod.fst h; simp [led0]
      · split at h
        · obtain rfl : led0 = x := congrArg Prod.fst h; simp [led0]
        · have := ih h; omega
theorem chain_len (v : ByteArray) (j : Int) (u : ByteArray) (i : Int) (l : List TA) : (chainF v j u i l).length = l.length + 2 := by simp [chainF]
set_option maxHeartbeats 4000000 in
theorem quote_pm (g : Led) (b : Int) (v : ByteArray) (j : Int) (u : ByteArray) (i : Int) (l : List TA) (n : Int) (hl : g.lins.length ≤ 1000) (ha : g.accs.length ≤ 1000) (ho : g.offs.length ≤ 12) (hp : l.length ≤ 900) :
    FnM Tryz.prog 21 [] [aG g, vI b, aT v j, aT u i, lT l, vI n] (.tup [vI (quoteF g b v j u i l n).1, vI (quoteF g b v j u i l n).2]) [] := by
  refine FnM.of htb Tryz.func21 rfl rfl rfl rfl rfl fun cx hN h0 => ?_
  unfold quoteF
  have hlen := chain_len v j u i l
  by_cases he : plnE g v j u i l [n] = 0
  case neg =>
    have hpl : (planF g b v j u i l [n], plnE g v j u i l [n]) = ((0, []), plnE g v j u i l [n]) := by unfold planF; rw [if_neg he]
    have e1 : (plnE g v j u i l [n] != 0) = true := by simp [he]
    rw [if_pos he]
    (repeat' (first | (refine nx ?_) | (refine WD_unk (by exact rfl) ?_; ((refine WD_tf (by exact rfl) (by exact rfl) ?_ ?_) <;> (intro hb; (fail_if_success (with_reducible injection hb)); rw [hb]; (try simp only [List.length_map] at hb)))) | (refine WD_call (by exact rfl) ?_; first | (refine WD_e0 (fun h => plan_pe (c := (0, [])) (ns := [n]) _ _ _ _ _ _ _ _ ?_ ?_ ?_ ?_ ?_ ?_ h) ?_; (exact hyp); (exact hyp); (exact hyp); (exact hyp); (exact hyp); (exact hyp))) | ((refine WD_tf (by exact rfl) (by exact rfl) ?_ ?_) <;> (intro hb; (fail_if_success (with_reducible injection hb)); rw [hb]; (try simp only [List.length_map] at hb))) | (((with_reducible apply gC2); exact rfl) <;> (intro hb; rw [hb]))))
    exact gE (.inr rfl) rfl rfl trivial
  have hpl : (planF g b v j u i l [n], plnE g v j u i l [n]) = ((b, chainF v j u i l), 0) := by unfold planF; rw [if_pos he, he]
  rw [if_neg (by simp [he])]
  cases hf : (findA g.accs b).2 with
  | false =>
    have e2 : (!(findA g.accs b).2) = true := by simp [hf]
    rw [if_pos rfl]
    (repeat' (first | (refine nx ?_) | (refine WD_unk (by exact rfl) ?_; ((refine WD_tf (by exact rfl) (by exact rfl) ?_ ?_) <;> (intro hb; (fail_if_success (with_reducible injection hb)); rw [hb]; (try simp only [List.length_map] at hb)))) | (refine WD_call (by exact rfl) ?_; first | (refine WD_e0 (fun h => plan_pe (c := (b, chainF v j u i l)) (e := 0) (ns := [n]) _ _ _ _ _ _ _ ?_ ?_ ?_ ?_ ?_ ?_ h) ?_; (exact hyp); (exact hyp); (exact hyp); (exact hyp); (exact hyp); (exact hyp)) | (refine WD_c0 (there_pm _ _ ?_) ?_; (exact hyp))) | ((refine WD_tf (by exact rfl) (by exact rfl) ?_ ?_) <;> (intro hb; (fail_if_success (with_reducible injection hb)); rw [hb]; (try simp only [List.length_map] at hb))) | (((with_reducible apply gC2); exact rfl) <;> (intro hb; rw [hb]))))
    exact gE (.inr rfl) rfl rfl trivial
  | true =>
    have e2 : (!(findA g.accs b).2) = false := by simp [hf]
    rw [if_neg (by simp)]
    rcases hC : convF g b (chainF v j u i l) n with ⟨x, p, e⟩
    (repeat' (first | (refine nx ?_) | (refine WD_unk (by exact rfl) ?_; ((refine WD_tf (by exact rfl) (by exact rfl) ?_ ?_) <;> (intro hb; (fail_if_success (with_reducible injection hb)); rw [hb]; (try simp only [List.length_map] at hb)))) | (refine WD_call (by exact rfl) ?_; first | (refine WD_e0 (fun h => plan_pe (c := (b, chainF v j u i l)) (e := 0) (ns := [n]) _ _ _ _ _ _ _ ?_ ?_ ?_ ?_ ?_ ?_ h) ?_; (exact hyp); (exact hyp); (exact hyp); (exact hyp); (exact hyp); (exact hyp)) | (refine WD_c0 (there_pm _ _ ?_) ?_; (exact hyp)) | (refine WD_e0 (fun h => buy_pe (c := chainF v j u i l) _ _ _ _ _ _ ?_ ?_ ?_ ?_ h) ?_; (exact hyp); (exact hyp); (exact hyp); (exact hyp))) | ((refine WD_tf (by exact rfl) (by exact rfl) ?_ ?_) <;> (intro hb; (fail_if_success (with_reducible injection hb)); rw [hb]; (try simp only [List.length_map] at hb))) | (((with_reducible apply gC2); exact rfl) <;> (intro hb; rw [hb]))))
    exact gE (.inr rfl) rfl rfl trivial
end Go.Proofs.YtgebgpdoddjfhaaGreat

/- Contract of paths.Send; the example of the statements on paths. -/
namespace Go.Proofs.YtgebgpdoddjfhaaGreat
set_option linter.unusedSimpArgs false
set_option linter.unusedVariables false
set_option linter.unnecessarySimpa false
set_option linter.unusedSectionVars false
set_option maxRecDepth 100000
open Go Go.RowKit Go.Am Go.Proofs.Grow

set_option maxHeartbeats 8000000 in
theorem send_pm (g : Led) (a b : Int) (v : ByteArray) (j : Int) (u : ByteArray) (i : Int) (l : List TA) (n most : Int) (hl : g.lins.length ≤ 1000) (ha : g.accs.length ≤ 1000) (ho : g.offs.length ≤ 12) (hp : l.length ≤ 900) :
    FnM Tryz.prog 19 [] [aG g, vI a, vI b, aT v j, aT u i, lT l, vI n, vI most] (.tup [aG (sendF g a b v j u i l n most).1, vI (sendF g a b v j u i l n most).2.1, vI (sendF g a b v j u i l n most).2.2]) [] := by
  refine FnM.of htb Tryz.func19 rfl rfl rfl rfl rfl fun cx hN h0 => ?_
  unfold sendF
  have hlen := chain_len v j u i l
  by_cases he : plnE g v j u i l [n, most] = 0
  case neg =>
    have hpl : (planF g a v j u i l [n, most], plnE g v j u i l [n, most]) = ((0, []), plnE g v j u i l [n, most]) := by unfold planF; rw [if_neg he]
    have e1 : (plnE g v j u i l [n, most] != 0) = true := by simp [he]
    rw [if_pos he]
    (repeat' (first | (refine nx ?_) | (refine WD_unk (by exact rfl) ?_; ((refine WD_tf (by exact rfl) (by exact rfl) ?_ ?_) <;> (intro hb; (fail_if_success (with_reducible injection hb)); rw [hb]; (try simp only [List.length_map] at hb)))) | (refine WD_call (by exact rfl) ?_; first | (refine WD_e0 (fun h => plan_pe (c := (0, [])) (ns := [n, most]) _ _ _ _ _ _ _ _ ?_ ?_ ?_ ?_ ?_ ?_ h) ?_; (exact hypS); (exact hypS); (exact hypS); (exact hypS); (exact hypS); (exact hypS))) | ((refine WD_tf (by exact rfl) (by exact rfl) ?_ ?_) <;> (intro hb; (fail_if_success (with_reducible injection hb)); rw [hb]; (try simp only [List.length_map] at hb))) | (((with_reducible apply gC2); exact rfl) <;> (intro hb; rw [hb]))))
    (exact glV [(16, .ptr 16 0), (17, vI 0), (18, vI (plnE g v j u i l [n, most]))] [(16, .box 28 (cellsOf (aG led0)))] (LeV []))
  have hpl : (planF g a v j u i l [n, most], plnE g v j u i l [n, most]) = ((a, chainF v j u i l), 0) := by unfold planF; rw [if_pos he, he]
  rw [if_neg (by simp [he])]
  by_cases hbad : (findA g.accs a).2 = false ∨ (findA g.accs b).2 = false ∨ a = b
  · rw [if_pos hbad]
    (repeat' (first | (refine nx ?_) | (refine WD_unk (by exact rfl) ?_; ((refine WD_tf (by exact rfl) (by exact rfl) ?_ ?_) <;> (intro hb; (fail_if_success (with_reducible injection hb)); rw [hb]; (try simp only [List.length_map] at hb)))) | (refine WD_call (by exact rfl) ?_; first | (refine WD_e0 (fun h => plan_pe (c := (a, chainF v j u i l)) (e := 0) (ns := [n, most]) _ _ _ _ _ _ _ ?_ ?_ ?_ ?_ ?_ ?_ h) ?_; (exact hypS); (exact hypS); (exact hypS); (exact hypS); (exact hypS); (exact hypS)) | (refine WD_c0 (there_pm _ _ ?_) ?_; (exact hypS))) | ((refine WD_tf (by exact rfl) (by exact rfl) ?_ ?_) <;> (intro hb; (fail_if_success (with_reducible injection hb)); rw [hb]; (try simp only [List.length_map] at hb))) | (((with_reducible apply gC2); exact rfl) <;> (intro hb; rw [hb]))))
    all_goals try simp only [Bool.not_eq_true', Bool.not_eq_false', decide_eq_true_eq, decide_eq_false_iff_not, bne_iff_ne, bne_eq_false_iff_eq, beq_iff_eq, beq_eq_false_iff_ne] at *
    all_goals first
      | (exfalso; simp_all; done)
      | (exact glV [(16, .ptr 16 0), (17, vI 0), (18, vI 67)] [(16, .box 28 (cellsOf (aG led0)))] (LeV []))
  rw [if_neg hbad]
  simp only [not_or, Bool.not_eq_false] at hbad
  have e2 : (!(findA g.accs a).2) = false := by simp [hbad.1]
  have e3 : (!(findA g.accs b).2) = false := by simp [hbad.2.1]
  have e4 : (a == b) = false := by simp [hbad.2.2]
  rcases hC : convF g a (chainF v j u i l) n with ⟨x, p, e⟩
  obtain ⟨x1, x2, x3⟩ := conv_lens _ hC
  dsimp only
  by_cases hz : e = 0
  case neg =>
    have e5 : (e != 0) = true := by simp [hz]
    rw [if_pos hz]
    (repeat' (first | (refine nx ?_) | (refine WD_unk (by exact rfl) ?_; ((refine WD_tf (by exact rfl) (by exact rfl) ?_ ?_) <;> (intro hb; (fail_if_success (with_reducible injection hb)); rw [hb]; (try simp only [List.length_map] at hb)))) | (refine WD_call (by exact rfl) ?_; first | (refine WD_e0 (fun h => plan_pe (c := (a, chainF v j u i l)) (e := 0) (ns := [n, most]) _ _ _ _ _ _ _ ?_ ?_ ?_ ?_ ?_ ?_ h) ?_; (exact hypS); (exact hypS); (exact hypS); (exact hypS); (exact hypS); (exact hypS)) | (refine WD_c0 (there_pm _ _ ?_) ?_; (exact hypS)) | (refine WD_e0 (fun h => buy_pe (c := chainF v j u i l) _ _ _ _ _ _ ?_ ?_ ?_ ?_ h) ?_; (exact hypS); (exact hypS); (exact hypS); (exact hypS))) | ((refine WD_tf (by exact rfl) (by exact rfl) ?_ ?_) <;> (intro hb; (fail_if_success (with_reducible injection hb)); rw [hb]; (try simp only [List.length_map] at hb))) | (((with_reducible apply gC2); exact rfl) <;> (intro hb; rw [hb]))))
    (exact glV [(16, .ptr 16 0), (17, vI 0), (18, vI e)] [(16, .box 28 (cellsOf (aG led0)))] (LeV []))
  subst hz
  rw [if_neg (by simp)]
  by_cases hm : most < p
  · have e5 : decide (p > most) = true := by simp [hm]
    rw [if_pos hm]
    (repeat' (first | (refine nx ?_) | (refine WD_unk (by exact rfl) ?_; ((refine WD_tf (by exact rfl) (by exact rfl) ?_ ?_) <;> (intro hb; (fail_if_success (with_reducible injection hb)); rw [hb]; (try simp only [List.length_map] at hb)))) | (refine WD_call (by exact rfl) ?_; first | (refine WD_e0 (fun h => plan_pe (c := (a, chainF v j u i l)) (e := 0) (ns := [n, most]) _ _ _ _ _ _ _ ?_ ?_ ?_ ?_ ?_ ?_ h) ?_; (exact hypS); (exact hypS); (exact hypS); (exact hypS); (exact hypS); (exact hypS)) | (refine WD_c0 (there_pm _ _ ?_) ?_; (exact hypS)) | (refine WD_e0 (fun h => buy_pe (c := chainF v j u i l) _ _ _ _ _ _ ?_ ?_ ?_ ?_ h) ?_; (exact hypS); (exact hypS); (exact hypS); (exact hypS))) | ((refine WD_tf (by exact rfl) (by exact rfl) ?_ ?_) <;> (intro hb; (fail_if_success (with_reducible injection hb)); rw [hb]; (try simp only [List.length_map] at hb))) | (((with_reducible apply gC2); exact rfl) <;> (intro hb; rw [hb]))))
    (exact glV [(16, .ptr 16 0), (17, vI 0), (18, vI 66)] [(16, .box 28 (cellsOf (aG led0)))] (LeV []))
  have e5 : decide (p > most) = false := by simp; omega
  rw [if_neg hm]
  have l4 : x.lins.length ≤ 1000 := by omega
  have l5 : x.accs.length ≤ 1000 := by omega
  have l6 : x.offs.length ≤ 1000 := by omega
  rcases hM : moveF x a v j p b u i n with ⟨y, f⟩
  dsimp only
  by_cases hf : f = 0
  case neg =>
    have e6 : (f != 0) = true := by simp [hf]
    rw [if_pos hf]
    (repeat' (first | (refine nx ?_) | (refine WD_unk (by exact rfl) ?_; ((refine WD_tf (by exact rfl) (by exact rfl) ?_ ?_) <;> (intro hb; (fail_if_success (with_reducible injection hb)); rw [hb]; (try simp only [List.length_map] at hb)))) | (refine WD_call (by exact rfl) ?_; first | (refine WD_e0 (fun h => plan_pe (c := (a, chainF v j u i l)) (e := 0) (ns := [n, most]) _ _ _ _ _ _ _ ?_ ?_ ?_ ?_ ?_ ?_ h) ?_; (exact hypS); (exact hypS); (exact hypS); (exact hypS); (exact hypS); (exact hypS)) | (refine WD_c0 (there_pm _ _ ?_) ?_; (exact hypS)) | (refine WD_e0 (fun h => buy_pe (c := chainF v j u i l) _ _ _ _ _ _ ?_ ?_ ?_ ?_ h) ?_; (exact hypS); (exact hypS); (exact hypS); (exact hypS)) | (refine WD_e0 (fun h => move_pe _ _ _ _ _ _ _ _ _ _ _ ?_ ?_ ?_ h) ?_; (exact hypS); (exact hypS); (exact hypS))) | ((refine WD_tf (by exact rfl) (by exact rfl) ?_ ?_) <;> (intro hb; (fail_if_success (with_reducible injection hb)); rw [hb]; (try simp only [List.length_map] at hb))) | (((with_reducible apply gC2); exact rfl) <;> (intro hb; rw [hb]))))
    (exact glV [(16, .ptr 16 0), (17, vI 0), (18, vI f)] [(16, .box 28 (cellsOf (aG led0)))] (LeV []))
  subst hf
  rw [if_neg (by simp)]
  (repeat' (first | (refine nx ?_) | (refine WD_unk (by exact rfl) ?_; ((refine WD_tf (by exact rfl) (by exact rfl) ?_ ?_) <;> (intro hb; (fail_if_success (with_reducible injection hb)); rw [hb]; (try simp only [List.length_map] at hb)))) | (refine WD_call (by exact rfl) ?_; first | (refine WD_e0 (fun h => plan_pe (c := (a, chainF v j u i l)) (e := 0) (ns := [n, most]) _ _ _ _ _ _ _ ?_ ?_ ?_ ?_ ?_ ?_ h) ?_; (exact hypS); (exact hypS); (exact hypS); (exact hypS); (exact hypS); (exact hypS)) | (refine WD_c0 (there_pm _ _ ?_) ?_; (exact hypS)) | (refine WD_e0 (fun h => buy_pe (c := chainF v j u i l) _ _ _ _ _ _ ?_ ?_ ?_ ?_ h) ?_; (exact hypS); (exact hypS); (exact hypS); (exact hypS)) | (refine WD_e0 (fun h => move_pe _ _ _ _ _ _ _ _ _ _ _ ?_ ?_ ?_ h) ?_; (exact hypS); (exact hypS); (exact hypS))) | ((refine WD_tf (by exact rfl) (by exact rfl) ?_ ?_) <;> (intro hb; (fail_if_success (with_reducible injection hb)); rw [hb]; (try simp only [List.length_map] at hb))) | (((with_reducible apply gC2); exact rfl) <;> (intro hb; rw [hb]))))
  (exact glV [(16, .ptr 16 0), (17, vI p), (18, vI 0)] [(16, .box 28 (cellsOf (aG y)))] (LeV []))
theorem send_pe (g : Led) (a b : Int) (v : ByteArray) (j : Int) (u : ByteArray) (i : Int) (l : List TA) (n most : Int) (x : Led) (p e : Int) (hl : g.lins.length ≤ 1000) (ha : g.accs.length ≤ 1000) (ho : g.offs.length ≤ 12) (hp : l.length ≤ 900) (he : sendF g a b v j u i l n most = (x, p, e)) :
    FnM Tryz.prog 19 [] [aG g, vI a, vI b, aT v j, aT u i, lT l, vI n, vI most] (.tup [aG x, vI p, vI e]) [] := by
  have := send_pm g a b v j u i l n most hl ha ho hp
  rwa [he] at this
theorem quote_pe (g : Led) (b : Int) (v : ByteArray) (j : Int) (u : ByteArray) (i : Int) (l : List TA) (n : Int) (p : Int × Int) (hl : g.lins.length ≤ 1000) (ha : g.accs.length ≤ 1000) (ho : g.offs.length ≤ 12) (hp : l.length ≤ 900) (he : quoteF g b v j u i l n = p) :
    FnM Tryz.prog 21 [] [aG g, vI b, aT v j, aT u i, lT l, vI n] (.tup [vI p.1, vI p.2]) [] := he ▸ quote_pm g b v j u i l n hl ha ho hp
abbrev b39U : ByteArray := ⟨#[85, 83, 68]⟩
abbrev b39N : ByteArray := ⟨#[]⟩
def g39 : Led := ⟨0, [⟨1, 50, 0⟩, ⟨2, 0, 0⟩], [], [], 1, 0, 0⟩
def h39 : Led := ⟨0, [⟨1, 30, 0⟩, ⟨2, 20, 0⟩], [], [], 1, 0, 0⟩
theorem ex39 : sendF g39 1 2 b39N 0 b39N 0 [] 20 20 = (h39, 20, 0) ∧ sendF g39 1 2 b39N 0 b39U 1 [] 20 20 = (led0, 0, 73) ∧ totA h39.accs = 50 ∧ validP [] = true :=
  ⟨by kernel_rfl, by kernel_rfl, by kernel_rfl, by kernel_rfl⟩
set_option maxHeartbeats 2000000 in
theorem sane39_m : FnM Tryz.prog 6 [] [] (vB true) [] := by
  refine FnM.of htb Tryz.func6 rfl rfl rfl rfl rfl fun cx hN h0 => ?_
  obtain ⟨e1, e2, e3, e4⟩ := ex39
  have t1 : (totA h39.accs == 50) = true := by rw [e3]; rfl
  (repeat' (first | (refine nx ?_) | (refine WD_unk (by exact rfl) ?_; ((refine WD_tf (by exact rfl) (by exact rfl) ?_ ?_) <;> (intro hb; (fail_if_success (with_reducible injection hb)); rw [hb]; (try simp only [List.length_map] at hb)))) | (refine WD_call (by exact rfl) ?_; first | (refine WD_c0 (usd_m) ?_) | (refine WD_e0 (fun h => send_pe (g := g39) (l := []) (x := h39) (p := 20) (e := 0) _ _ _ _ _ _ _ _ ?_ ?_ ?_ ?_ h) ?_; (exact hypS); (exact hypS); (exact hypS); (exact hypS)) | (refine WD_e0 (fun h => send_pe (g := g39) (l := []) (x := led0) (p := 0) (e := 73) _ _ _ _ _ _ _ _ ?_ ?_ ?_ ?_ h) ?_; (exact hypS); (exact hypS); (exact hypS); (exact hypS)) | (refine WD_c0 (tot_rm _ ?_) ?_; (exact hypS)) | (refine WD_c0 (validP_pm (l := []) ?_) ?_; (exact hypS))) | ((refine WD_tf (by exact rfl) (by exact rfl) ?_ ?_) <;> (intro hb; (fail_if_success (with_reducible injection hb)); rw [hb]; (try simp only [List.length_map] at hb))) | (((with_reducible apply gC2); exact rfl) <;> (intro hb; rw [hb]))))
  exact gE (.inr rfl) rfl (congrArg vB e4) trivial
end Go.Proofs.YtgebgpdoddjfhaaGreat
