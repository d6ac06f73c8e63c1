/- Contracts: the sets in their order, as an iterator; the first set of which something is true. -/
import Derived.Test.YtbfafljcclfeaaaGreatDoorTnJ
import Derived.Test.YtbfafljcclfeaaaGreatDoorTnH
import Derived.RangeFuncNested
import Derived.RangeFuncBound
import Derived.RangeFuncCalls
import Derived.RangeFuncLeaves
import Derived.Shelf.Abstract
import Derived.Shelf.RegionOpen
import Derived.WalkKit
import Derived.OwnWalkIn
import Derived.TacticsInMore
import Derived.LoopNIn
import Derived.LoopIn
import Derived.Test.YtbfafljcclfeaaaGreatDoorTnK
namespace Go.Proofs.YtbfafljcclfeaaaGreatDoor
set_option linter.unusedSimpArgs false
set_option linter.unusedVariables false
set_option linter.unnecessarySimpa false
set_option linter.unusedSectionVars false
set_option maxRecDepth 100000
open Go Go.RowKit Go.Am Go.Proofs.Grow Go.Shelf

abbrev noB : Nat → Prop := fun _ => False
abbrev noM : Nat → Option Value := fun _ => none
/-- A contract that speaks of no objects, at a world. -/
theorem pure_call {P : Program} {f : FuncId} {ys : List AV} {res : AV} (h : FnM P f [] ys res []) {W : World} {vs : List Value} (hv : VRs noB noM W ys vs) :
    Calls P f vs.toArray W fun e W' => ∃ v, e = .returned v ∧ VR noB noM W' res v ∧ Below W.heap.size W W' := by
  have hno : ∀ b, ¬ Hot noM (lk ([] : List (Nat × AO))) b := by rintro b ⟨g, o, v, h1, _⟩; simp [lk] at h1
  have hht : Ht ⟨W, Hot noM (lk []), noB, vs.length, noM⟩ noM (lk []) = noB := funext fun b => propext ⟨fun h => h.elim id fun k => hno b k, fun h => h.elim⟩
  have hI : InvM ⟨W, Hot noM (lk []), noB, vs.length, noM⟩ noM (lk (argT 0 ys)) (lk []) ⟨vs.toArray, []⟩ W := by
    refine ⟨fun t x ht => ?_, fun g o hg => by simp [lk] at hg, fun g g' o o' v v' b h1 => by simp [lk] at h1, fun b hb => (hno b hb).elim, ⟨rfl, rfl, rfl, Nat.le_refl _, fun _ _ _ => rfl⟩, fun g _ => rfl, fun b hb => hb.elim, fun g u hu => (by cases hu), by simp, rfl⟩
    rw [hht]
    obtain ⟨_, hx⟩ := argT_lk ht
    have hlt : t < vs.length := by
      have := (List.getElem?_eq_some_iff.1 hx).1
      rw [hv.1] at this
      omega
    have e : (vs.toArray.getD t undef) = vs[t] := by simp [hlt]
    show VR _ _ _ x (vs.toArray.getD t undef)
    rw [e]
    have hx' : ys[t]? = some x := by simpa using hx
    exact hv.2 t x _ hx' (List.getElem?_eq_getElem hlt)
  refine (h noB noM W vs hv.1.symm hI).mono ?_
  rintro e W' ⟨v, μ', rfl, hI'⟩
  have hμ : μ' = noM := funext fun g => hI'.free g rfl
  subst hμ
  have hht' : Ht ⟨W, Hot noM (lk []), noB, 1, noM⟩ noM (lk []) = noB := funext fun b => propext ⟨fun h => h.elim id fun k => hno b k, fun h => h.elim⟩
  refine ⟨v, rfl, ?_, ⟨hI'.fr.os, hI'.fr.tape, hI'.fr.output, hI'.fr.size, fun k hk => hI'.fr.block k hk fun hb => hno k hb⟩⟩
  have := hI'.tm 0 res rfl
  rw [hht'] at this
  exact this
theorem below_grown {W W' : World} (h : Below W.heap.size W W') : W.grownBy W' none := ⟨h.os, h.tape, h.output, h.size, fun k hk _ => h.block k hk⟩
theorem next_c (s : Nat) (hs : s < 1024) (W : World) : Calls Tryz.prog 129 #[.int .i64 (s : Int), .int .i64 10] W fun e W' => e = .returned (.tuple #[.int .i64 (uhR (nextF s 10)).1, .bool (uhR (nextF s 10)).2]) ∧ Below W.heap.size W W' := by
  refine (pure_call (nextSet_m s 10 (by decide) (by omega) size_m) (W := W) (vs := [.int .i64 (s : Int), .int .i64 10]) ⟨rfl, fun i c v h1 h2 => ?_⟩).mono ?_
  · match i with
    | 0 => cases h1; cases h2; exact .d (.v _)
    | 1 => cases h1; cases h2; exact .d (.v _)
    | n + 2 => simp at h1
  · rintro e W' ⟨v, rfl, hv, hb⟩
    refine ⟨?_, hb⟩
    cases hv with
    | tup hl h =>
      rename_i vs
      match vs, hl with
      | [a, b], _ =>
        have h0 := h 0 _ _ rfl rfl
        have h1 := h 1 _ _ rfl rfl
        cases h0 with
        | d h0 => cases h0 with
          | v => cases h1 with
            | d h1 => cases h1 with
              | v => rfl
attribute [local go_sem] Oper.semAt_some
def msV : Value → Value → Nat
  | .int _ x, .bool true => muN x.toNat + 1
  | _, _ => 0
theorem mu_le {s : Nat} (h : s < 1024) : muN s ≤ 11263 := by unfold muN; omega
set_option maxRecDepth 100000 in
set_option maxHeartbeats 2000000 in
/-- The sets in their order. -/
theorem ord_stops (n n₀ : Nat) (hn : 1 ≤ n) (w : World) : SeqStopsK Fence.wide n Tryz.prog 160 #[] (fun x : {x : Nat // x < 1024} => #[Value.int .i64 (x.1 : Int)]) (Below n₀) (fun _ => True) (fun _ => True) 20000 w := fun l J Jx W hW hJ hJx hY h0 => by
  refine callsIn_of_wp Tryz.func160 rfl trivial ?_ rfl
  simp only [Tryz.ntmps160, List.size_toArray, List.length_cons, List.length_nil, Nat.reduceAdd, Nat.reduceSub, Array.replicate_succ, Array.replicate_zero, List.push_toArray, List.append_toArray, List.nil_append, List.cons_append]
  gi_wp2
  gi_loopw [2, 3] (fun vs vo wr => ∃ (pre : List {x : Nat // x < 1024}) (s : Nat) (ok : Bool), vs = .int .i64 (s : Int) ∧ vo = .bool ok ∧ J pre wr ∧ s < 1024 ∧ pre.length + muN s ≤ 12000 + (if ok then 0 else 20000)) (fun vs vo _ => msV vs vo)
  case atStart => exact ⟨[], 0, true, rfl, rfl, h0, by decide, by decide⟩
  case round =>
    obtain ⟨pre, s, ok, rfl, rfl, hJs, hs, hlen⟩ := hrel
    cases ok with
    | false =>
      gi_wp2
      go_end0
      exact ⟨⟨_, rfl⟩, .inl ⟨pre, trivial, hJs⟩⟩
    | true =>
      simp only [if_pos] at hlen
      obtain ⟨fn, tmps, assign, body, hy, hR⟩ := hY pre ⟨s, hs⟩ _ hJs (by omega)
      dsimp only at hy
      gi_wp2
      refine hR.mono ?_
      rintro e W' (⟨rfl, hJ', hk⟩ | ⟨rfl, hJx'⟩)
      · gi_wp2_with (refine ⟨trivial, ?_⟩; gi_at_call 129; refine (callsIn_wide.2 (next_c s hs _)).mono ?_; rintro e w' ⟨rfl, hb⟩)
        go_roundw
        case rel =>
          have hJ2 := hJ (pre ++ [⟨s, hs⟩]) _ _ none hJ' (below_grown hb) (fun r e => by cases e)
          cases hnx : nextF s 10 with
          | none => exact ⟨pre ++ [⟨s, hs⟩], 0, false, rfl, rfl, hJ2, by decide, by have := mu_le (s := 0) (by decide); simp; omega⟩
          | some t =>
            obtain ⟨ht, hm⟩ := next_some (n := 10) (by decide) hs hnx
            exact ⟨pre ++ [⟨s, hs⟩], t, true, rfl, rfl, hJ2, ht, by simp; omega⟩
        case measure =>
          cases hnx : nextF s 10 with
          | none => simp [uhR, msV]
          | some t =>
            obtain ⟨ht, hm⟩ := next_some (n := 10) (by decide) hs hnx
            simp [uhR, msV]; omega
      · gi_wp2
        refine bodyPost_ret (results_none rfl _ _ _) rfl ?_
        exact ⟨⟨_, rfl⟩, .inr ⟨_, trivial, hJx'⟩⟩
end Go.Proofs.YtbfafljcclfeaaaGreatDoor

/- Contracts: a trust implies itself. -/
namespace Go.Proofs.YtbfafljcclfeaaaGreatDoor
set_option linter.unusedSimpArgs false
set_option linter.unusedVariables false
set_option linter.unnecessarySimpa false
set_option linter.unusedSectionVars false
set_option maxRecDepth 100000
open Go Go.RowKit Go.Am Go.Proofs.Grow Go.Shelf

theorem im1_m (t : Tr) (s : Nat) (hz : sizT t ≤ 1000) : FnM Tryz.prog 115 [] [vI (s : Int), .rp (rTp t), .rp (rTp t)] (vB false) [] := by
  have satI : FnM Tryz.prog 59 [] [aTr t, vI (s : Int)] (vB (satT s t)) [] := sat_m _ _ t (Nat.le_refl _) hz
  have satI_m := satI
  refine FnM.of htb Tryz.func115 rfl rfl rfl rfl rfl fun cx hN h0 => ?_
  cases h : satT s t with
  | false =>
    (repeat' (first | ((with_reducible apply WD_id); first | (refine WD_sum ?_) | (refine WD_nxt htb (by exact rfl) ?_) | (refine WD_unk (by exact rfl) ?_; first | (refine WD_t (by exact rfl) (by exact rfl) (by exact known) fun hb => ?_; rw [hb]; clear hb) | (refine WD_f (by exact rfl) (by exact rfl) (by exact known) fun hb => ?_; rw [hb]; clear hb) | ((refine WD_tf (by exact rfl) (by exact rfl) ?_ ?_) <;> (intro hb; (fail_if_success (with_reducible injection hb)); rw [hb]; (try simp only [List.length_map] at hb)))) | (refine WD_call (by exact rfl) ?_; first | (refine WD_c0 (satI_m) ?_)) | (refine WD_idx htb ?_) | (refine WD_idxo htb ?_) | (refine WD_lde1 htb ?_) | (refine WD_lde htb ?_) | (refine WD_ste htb ?_) | (refine WD_ap htb ?_) | (refine WD_ap0 htb ?_) | (refine WD_nil htb ?_) | (refine WD_nilr htb ?_) | (refine WD_rem ?_) | (refine WD_quo ?_) | (refine WD_slc htb ?_) | (refine WD_ixa htb ?_) | (refine WD_ix1 htb ?_) | (refine WD_cut htb ?_) | (refine WD_cut3 htb ?_) | (refine WD_lens htb ?_) | (refine WD_caps htb ?_) | (refine WD_cps htb ?_) | (refine WD_cpp htb ?_) | (refine WD_api htb ?_) | (refine WD_apz htb ?_) | (refine WD_clr htb ?_) | (refine WD_t (by exact rfl) (by exact rfl) (by exact known) fun hb => ?_; rw [hb]; clear hb) | (refine WD_f (by exact rfl) (by exact rfl) (by exact known) fun hb => ?_; rw [hb]; clear hb) | ((refine WD_tf (by exact rfl) (by exact rfl) ?_ ?_) <;> (intro hb; (fail_if_success (with_reducible injection hb)); rw [hb]; (try simp only [List.length_map] at hb)))) | (with_reducible apply WA_seq) | ((with_reducible apply gR hmix hN); exact (by kernel_rfl); (try dsimp only [List.append_eq, List.cons_append, List.nil_append])) | ((with_reducible apply WD_end); (first | exact no_draw | (intro _; kernel_rfl)); try simp only [thn, inB, List.length_map, List.cons_append, List.nil_append]) | ((with_reducible apply gCt); exact rfl; exact rfl) | ((with_reducible apply gCf); exact rfl; exact rfl) | ((with_reducible apply gCk); exact rfl; exact known; intro hb; rw [hb]; clear hb) | ((with_reducible apply gCn); exact rfl; exact known; intro hb; rw [hb]; clear hb) | (((with_reducible apply gC2); exact rfl) <;> (intro hb; rw [hb])) | (with_reducible apply WA_block) | ((with_reducible first | apply WA_skip | apply WA_ret | apply WA_exit | apply WA_label); try simp only [thn, inB, List.length_map, List.cons_append, List.nil_append])))
    exact gE (.inr rfl) rfl rfl trivial
  | true =>
    (repeat' (first | ((with_reducible apply WD_id); first | (refine WD_sum ?_) | (refine WD_nxt htb (by exact rfl) ?_) | (refine WD_unk (by exact rfl) ?_; first | (refine WD_t (by exact rfl) (by exact rfl) (by exact known) fun hb => ?_; rw [hb]; clear hb) | (refine WD_f (by exact rfl) (by exact rfl) (by exact known) fun hb => ?_; rw [hb]; clear hb) | ((refine WD_tf (by exact rfl) (by exact rfl) ?_ ?_) <;> (intro hb; (fail_if_success (with_reducible injection hb)); rw [hb]; (try simp only [List.length_map] at hb)))) | (refine WD_call (by exact rfl) ?_; first | (refine WD_c0 (satI_m) ?_)) | (refine WD_idx htb ?_) | (refine WD_idxo htb ?_) | (refine WD_lde1 htb ?_) | (refine WD_lde htb ?_) | (refine WD_ste htb ?_) | (refine WD_ap htb ?_) | (refine WD_ap0 htb ?_) | (refine WD_nil htb ?_) | (refine WD_nilr htb ?_) | (refine WD_rem ?_) | (refine WD_quo ?_) | (refine WD_slc htb ?_) | (refine WD_ixa htb ?_) | (refine WD_ix1 htb ?_) | (refine WD_cut htb ?_) | (refine WD_cut3 htb ?_) | (refine WD_lens htb ?_) | (refine WD_caps htb ?_) | (refine WD_cps htb ?_) | (refine WD_cpp htb ?_) | (refine WD_api htb ?_) | (refine WD_apz htb ?_) | (refine WD_clr htb ?_) | (refine WD_t (by exact rfl) (by exact rfl) (by exact known) fun hb => ?_; rw [hb]; clear hb) | (refine WD_f (by exact rfl) (by exact rfl) (by exact known) fun hb => ?_; rw [hb]; clear hb) | ((refine WD_tf (by exact rfl) (by exact rfl) ?_ ?_) <;> (intro hb; (fail_if_success (with_reducible injection hb)); rw [hb]; (try simp only [List.length_map] at hb)))) | (with_reducible apply WA_seq) | ((with_reducible apply gR hmix hN); exact (by kernel_rfl); (try dsimp only [List.append_eq, List.cons_append, List.nil_append])) | ((with_reducible apply WD_end); (first | exact no_draw | (intro _; kernel_rfl)); try simp only [thn, inB, List.length_map, List.cons_append, List.nil_append]) | ((with_reducible apply gCt); exact rfl; exact rfl) | ((with_reducible apply gCf); exact rfl; exact rfl) | ((with_reducible apply gCk); exact rfl; exact known; intro hb; rw [hb]; clear hb) | ((with_reducible apply gCn); exact rfl; exact known; intro hb; rw [hb]; clear hb) | (((with_reducible apply gC2); exact rfl) <;> (intro hb; rw [hb])) | (with_reducible apply WA_block) | ((with_reducible first | apply WA_skip | apply WA_ret | apply WA_exit | apply WA_label); try simp only [thn, inB, List.length_map, List.cons_append, List.nil_append])))
    exact gE (.inr rfl) rfl (congrArg vB (by rw [h]; rfl)) trivial
theorem keeps_below {w W : World} (h : Below w.heap.size w W) : Keeps noB noB w W := fun b hb _ => ⟨id, Nat.lt_of_lt_of_le hb h.size, h.block b hb⟩
abbrev IsRp (w : World) (t : Tr) (v : Value) : Prop := VR noB noM w (.rp (rTp t)) v
theorem IsRp.below {w W : World} {t : Tr} {v : Value} (h : IsRp w t v) (hb : Below w.heap.size w W) : IsRp W t v := h.mono (fun _ => true) rfl (fun _ _ _ h => h) (keeps_below hb)
theorem im1_c (t : Tr) (s : Nat) (hz : sizT t ≤ 1000) (W : World) (p q : Value) (hp : IsRp W t p) (hq : IsRp W t q) : Calls Tryz.prog 115 #[.int .i64 (s : Int), p, q] W fun e W' => e = .returned (.bool false) ∧ Below W.heap.size W W' := by
  refine (pure_call (im1_m t s hz) (W := W) (vs := [.int .i64 (s : Int), p, q]) ⟨rfl, fun i c v h1 h2 => ?_⟩).mono ?_
  · match i with
    | 0 => cases h1; cases h2; exact .d (.v _)
    | 1 => cases h1; cases h2; exact hp
    | 2 => cases h1; cases h2; exact hq
    | n + 3 => simp at h1
  · rintro e W' ⟨v, rfl, hv, hb⟩
    refine ⟨?_, hb⟩
    cases hv with
    | d h => cases h with
      | v => rfl
theorem cell_new_l (W : World) (v : Value) (t : TypeId) : (W.alloc (.cells #[v] t)).cell? ⟨W.heap.size, 0, none⟩ = some v ∧ (W.alloc (.cells #[v] t)).frozen? ⟨W.heap.size, 0, none⟩ = false := by
  have h := World.alloc_heap_new W (.cells #[v] t)
  generalize W.alloc (.cells #[v] t) = X at *
  constructor <;> simp [World.cell?, World.frozen?, h]
theorem cell_alloc_l {W : World} {a : Addr} {v : Value} (o : Obj) (h : W.cell? a = some v) : (W.alloc o).cell? a = some v := cell_kept h (World.grownBy_alloc W o none) (fun r e => by cases e)
theorem frozen_alloc_l {W : World} {a : Addr} {v : Value} (o : Obj) (h : W.cell? a = some v) (hf : W.frozen? a = false) : (W.alloc o).frozen? a = false := (frozen_kept h (World.grownBy_alloc W o none) (fun r e => by cases e)).trans hf
attribute [local go_sem] Oper.semAt_some
set_option maxRecDepth 100000 in
set_option maxHeartbeats 2000000 in
/-- No set: nothing is found. -/
theorem first_c (t : Tr) (hz : sizT t ≤ 1000) (w : World) (p q : Value) (hp : IsRp w t p) (hq : IsRp w t q) : Calls Tryz.prog 114 #[.func (.func 115) #[] #[p, q]] w fun e W' => e = .returned (.tuple #[.int .i64 0, .bool false]) ∧ Below w.heap.size w W' := by
  refine (callsIn_wide (n := 6)).1 ?_
  refine callsIn_of_wp_marks Tryz.func114 rfl trivial ?_ rfl
  simp only [Tryz.ntmps114, List.size_toArray, List.length_cons, List.length_nil, Nat.reduceAdd, Nat.reduceSub, Array.replicate_succ, Array.replicate_zero, List.push_toArray, List.append_toArray, List.nil_append, List.cons_append]
  gi_wp2
  have c0 := cell_new_l w (.func (.func 115) #[] #[p, q]) 62
  have c1 := cell_new_l (w.alloc (.cells #[.func (.func 115) #[] #[p, q]] 62)) (.int .i64 0) 3
  have c2 := cell_new_l ((w.alloc (.cells #[.func (.func 115) #[] #[p, q]] 62)).alloc (.cells #[.int .i64 0] 3)) (.bool false) 4
  simp only [World.size_alloc] at c1 c2
  have hB0 : Below w.heap.size w (((w.alloc (.cells #[.func (.func 115) #[] #[p, q]] 62)).alloc (.cells #[.int .i64 0] 3)).alloc (.cells #[.bool false] 4)) := (((Below.refl _ w).alloc (Nat.le_refl _) _).alloc (by simp) _).alloc (by simp; omega) _
  refine wpIn_rangeFunc_ownF rfl (by decide) (gf := 160) (lb := #[]) rfl trivial (enters_of Tryz.func160 (by kernel_rfl) rfl)
    (ord_stops _ w.heap.size (by decide) _) belowK_t (belowK_b (by simp; omega)) (Below.refl _ _) (fun _ => rfl)
    (fun pre W => (W.cell? ⟨w.heap.size, 0, none⟩ = some (.func (.func 115) #[] #[p, q]) ∧ (W.cell? ⟨w.heap.size + 1, 0, none⟩ = some (.int .i64 0) ∧ W.frozen? ⟨w.heap.size + 1, 0, none⟩ = false) ∧ (W.cell? ⟨w.heap.size + 1 + 1, 0, none⟩ = some (.bool false) ∧ W.frozen? ⟨w.heap.size + 1 + 1, 0, none⟩ = false)) ∧ Below w.heap.size w W)
    (fun _ _ _ => False)
    (OwnFrom.and (Own.from (fun s A B row hs hg hr => ⟨cell_kept hs.1 hg hr, ⟨cell_kept hs.2.1.1 hg hr, (frozen_kept hs.2.1.1 hg hr).trans hs.2.1.2⟩, cell_kept hs.2.2.1 hg hr, (frozen_kept hs.2.2.1 hg hr).trans hs.2.2.2⟩) _) (ownFrom_below (Nat.le_refl _) (by simp; omega)))
    (fun _ _ _ _ _ hs _ _ => hs)
    ⟨⟨cell_alloc_l _ (cell_alloc_l _ c0.1), ⟨cell_alloc_l _ c1.1, frozen_alloc_l _ c1.1 c1.2⟩, c2.1, c2.2⟩, hB0⟩
    (fun x => { tmps := #[.func (.func 115) #[] #[p, q], .pointer (some ⟨w.heap.size, 0, none⟩), .pointer (some ⟨w.heap.size + 1, 0, none⟩), .pointer (some ⟨w.heap.size + 1 + 1, 0, none⟩), .int .i64 (x.1 : Int), .int .i64 (x.1 : Int), undef, undef, undef, undef], defers := [] }) ?assign ?body ?done ?stop
  case assign =>
    intro l x W K hK
    gi_wp2
    exact hK
  case body =>
    rintro l pre x W ⟨⟨hc0, ⟨hc1, hf1⟩, hc2, hf2⟩, hB⟩ _
    gi_wp2_with (refine ⟨trivial, ?_⟩; gi_at_call 115; refine (CallsIn.inRound l (callsIn_wide.2 (im1_c t x.1 hz _ _ _ (hp.below hB) (hq.below hB)))).mono ?_; rintro e w' ⟨rfl, hb⟩)
    have hg := below_grown hb
    have hbw : Below w.heap.size W w' := hb.mono hB.size
    exact ⟨KeepsOthers.of_grownBy hg (fun j o e => by cases e), hbw, ⟨⟨cell_kept hc0 hg (fun r e => by cases e), ⟨cell_kept hc1 hg (fun r e => by cases e), (frozen_kept hc1 hg (fun r e => by cases e)).trans hf1⟩, cell_kept hc2 hg (fun r e => by cases e), (frozen_kept hc2 hg (fun r e => by cases e)).trans hf2⟩, hB.trans hbw⟩⟩
  case done =>
    rintro D ys W hD _ ⟨⟨hc0, ⟨hc1, hf1⟩, hc2, hf2⟩, hB⟩ hK
    gi_wp2
    have hK' := ((KeepsOthers.setCell W ⟨w.heap.size + 1, 0, none⟩ (.int .i64 0)).trans (KeepsOthers.setCell _ ⟨w.heap.size + 1 + 1, 0, none⟩ (.bool false))).same D _ hK rfl
    have d1 := World.cell?_setCell_same' W ⟨w.heap.size + 1, 0, none⟩ (.int .i64 0) (by rw [hc1]; rfl)
    have g2 := grownBy_setCell' (W.setCell ⟨w.heap.size + 1, 0, none⟩ (.int .i64 0)) (w.heap.size + 1 + 1) (.bool false)
    have d2 := g2.cell d1 (by simp)
    have g1 := grownBy_setCell' W (w.heap.size + 1) (.int .i64 0)
    have e2 := g1.cell hc2 (by simp)
    have d3 := World.cell?_setCell_same' (W.setCell ⟨w.heap.size + 1, 0, none⟩ (.int .i64 0)) ⟨w.heap.size + 1 + 1, 0, none⟩ (.bool false) (by rw [e2]; rfl)
    have hB2 := (hB.setCell (p := ⟨w.heap.size + 1, 0, none⟩) (by simp) (.int .i64 0)).setCell (p := ⟨w.heap.size + 1 + 1, 0, none⟩) (by simp; omega) (.bool false)
    generalize (W.setCell ⟨w.heap.size + 1, 0, none⟩ (.int .i64 0)).setCell ⟨w.heap.size + 1 + 1, 0, none⟩ (.bool false) = X at *
    refine ⟨by simp, .inl ⟨_, _, rfl, run_takeDeferred hK', ?_⟩⟩
    have k1 := cell_kept d2 (grownBy_putObj' X D (.deferred none)) (fun r e => by cases e; exact ⟨_, hK', rfl⟩)
    have k2 := cell_kept d3 (grownBy_putObj' X D (.deferred none)) (fun r e => by cases e; exact ⟨_, hK', rfl⟩)
    refine ⟨.tuple #[.int .i64 0, .bool false], ?_, rfl, hB2.trans (belowK_b (w := w) (Nat.le_refl _) X D _ _ (by simp at hD; omega) hK' rfl rfl)⟩
    simp [results, Tryz.f114, go_sem, k1, k2]
  case stop =>
    rintro D c pre W _ _ h _
    exact h.elim
theorem box_rp {cx : Cx} {μ : Nat → Option Value} {M : Nat → Option AO} {w : World} {g : Nat} {ty : TypeId} {ds : List D} (h : OR (Ht cx μ M) μ w g (.box ty (ds.map .d))) : ∃ b, μ g = some (.pointer (some ⟨b, 0, none⟩)) ∧ VR noB noM w (.rp ds) (.pointer (some ⟨b, 0, none⟩)) := by
  obtain ⟨b, vs, h1, h2, h3⟩ := h
  refine ⟨b, h1, .rp (fun j => vs.getD j undef) id (Array.getElem?_eq_some_iff.1 h2).1 (fun j c hc => ?_) (fun j c hc => ?_)⟩
  all_goals
    have hj : (ds.map AV.d)[j]? = some (.d c) := by rw [List.getElem?_map, hc]; rfl
    have hlt : j < vs.length := by
      rw [← h3.1]
      exact (List.getElem?_eq_some_iff.1 hj).1
    have hv : vs[j]? = some vs[j] := List.getElem?_eq_getElem hlt
    have e : vs.getD j undef = vs[j] := by rw [List.getD_eq_getElem?_getD, hv]; rfl
    rw [e]
  · simp [World.cell?, h2, hlt]
  · have := h3.2 j (.d c) vs[j] hj hv
    cases this with
    | d h => exact h.mono fun b hb _ => ⟨id, hb, rfl⟩
theorem first_m (t : Tr) (hz : sizT t ≤ 1000) : FnM Tryz.prog 114 [(2, .box 49 (cellsOf (aTr t))), (3, .box 49 (cellsOf (aTr t)))] [.clo 115 [.ptr 2 0, .ptr 3 0]] (.tup [vI 0, vB false]) [(2, .box 49 (cellsOf (aTr t))), (3, .box 49 (cellsOf (aTr t)))] := by
  intro H0 μ w vs hl hI
  match vs, hl with
  | [v], _ =>
    have h0 := hI.tm 0 _ rfl
    obtain ⟨b2, m2, r2⟩ := box_rp (ds := rTp t) (hI.ob 2 _ rfl)
    obtain ⟨b3, m3, r3⟩ := box_rp (ds := rTp t) (hI.ob 3 _ rfl)
    have hv : v = .func (.func 115) #[] #[.pointer (some ⟨b2, 0, none⟩), .pointer (some ⟨b3, 0, none⟩)] := by
      have h0' : VR _ μ w (.clo 115 [.ptr 2 0, .ptr 3 0]) v := h0
      cases h0' with
      | @clo _ _ us hl2 h =>
        match us, hl2, h with
        | [a, c], _, h =>
          have k1 := h 0 _ _ rfl rfl
          have k2 := h 1 _ _ rfl rfl
          cases k1 with
          | ptr k1 =>
            cases k2 with
            | ptr k2 =>
              rw [m2] at k1; rw [m3] at k2
              cases k1; cases k2; rfl
    subst hv
    refine (first_c t hz w _ _ r2 r3).mono ?_
    rintro e w' ⟨rfl, hb⟩
    refine ⟨_, μ, rfl, ?_⟩
    have hk : ∀ H : Nat → Prop, Keeps H H w w' := fun H b hb' hn => ⟨hn, Nat.lt_of_lt_of_le hb' hb.size, hb.block b hb'⟩
    refine ⟨fun u x hu => ?_, fun g o hg => ?_, hI.inj, fun b hh => ?_, ⟨hb.os, hb.tape, hb.output, hb.size, fun k hk _ => hb.block k hk⟩, hI.free, hI.hs, hI.base, rfl, rfl⟩
    · simp only [lk] at hu
      split at hu
      · rename_i hbq
        cases hu
        have := Nat.eq_of_beq_eq_true hbq
        subst this
        refine .tup (vs := [.int .i64 0, .bool false]) rfl fun i c u h1 h2 => ?_
        match i with
        | 0 => cases h1; cases h2; exact .d (.v _)
        | 1 => cases h1; cases h2; exact .d (.v _)
        | n + 2 => simp at h1
      · cases hu
    · exact (hI.ob g o hg).mono (fun _ _ h => h) (hk _) fun hlv v b h1 h2 => hb.block b (hI.lo b ⟨g, o, v, hg, hlv, h1, h2⟩).1
    · exact ⟨Nat.lt_of_lt_of_le (hI.lo b hh).1 hb.size, (hI.lo b hh).2⟩
end Go.Proofs.YtbfafljcclfeaaaGreatDoor

/- Contracts: a trust implies itself. -/
namespace Go.Proofs.YtbfafljcclfeaaaGreatDoor
set_option linter.unusedSimpArgs false
set_option linter.unusedVariables false
set_option linter.unnecessarySimpa false
set_option linter.unusedSectionVars false
set_option maxRecDepth 100000
open Go Go.RowKit Go.Am Go.Proofs.Grow

theorem val2_m (t : Tr) (hz : sizT t ≤ 1000) (h : chkT t = 0) : FnM Tryz.prog 113 [] [aTr t, aTr t] (vI 0) [] := by
  have chkV := chk3_m t hz
  rw [h] at chkV
  have chkV_m := chkV
  refine FnM.of htb Tryz.func113 rfl rfl rfl rfl rfl fun cx hN h0 => ?_
  (repeat' (first | ((with_reducible apply WD_id); first | (refine WD_sum ?_) | (refine WD_nxt htb (by exact rfl) ?_) | (refine WD_unk (by exact rfl) ?_; first | (refine WD_t (by exact rfl) (by exact rfl) (by exact known) fun hb => ?_; rw [hb]; clear hb) | (refine WD_f (by exact rfl) (by exact rfl) (by exact known) fun hb => ?_; rw [hb]; clear hb) | ((refine WD_tf (by exact rfl) (by exact rfl) ?_ ?_) <;> (intro hb; (fail_if_success (with_reducible injection hb)); rw [hb]; (try simp only [List.length_map] at hb)))) | (refine WD_call (by exact rfl) ?_; first | (refine WD_c0 (chkV_m) ?_)) | (refine WD_idx htb ?_) | (refine WD_idxo htb ?_) | (refine WD_lde1 htb ?_) | (refine WD_lde htb ?_) | (refine WD_ste htb ?_) | (refine WD_ap htb ?_) | (refine WD_ap0 htb ?_) | (refine WD_nil htb ?_) | (refine WD_nilr htb ?_) | (refine WD_rem ?_) | (refine WD_quo ?_) | (refine WD_slc htb ?_) | (refine WD_ixa htb ?_) | (refine WD_ix1 htb ?_) | (refine WD_cut htb ?_) | (refine WD_cut3 htb ?_) | (refine WD_lens htb ?_) | (refine WD_caps htb ?_) | (refine WD_cps htb ?_) | (refine WD_cpp htb ?_) | (refine WD_api htb ?_) | (refine WD_apz htb ?_) | (refine WD_clr htb ?_) | (refine WD_t (by exact rfl) (by exact rfl) (by exact known) fun hb => ?_; rw [hb]; clear hb) | (refine WD_f (by exact rfl) (by exact rfl) (by exact known) fun hb => ?_; rw [hb]; clear hb) | ((refine WD_tf (by exact rfl) (by exact rfl) ?_ ?_) <;> (intro hb; (fail_if_success (with_reducible injection hb)); rw [hb]; (try simp only [List.length_map] at hb)))) | (with_reducible apply WA_seq) | ((with_reducible apply gR hmix hN); exact (by kernel_rfl); (try dsimp only [List.append_eq, List.cons_append, List.nil_append])) | ((with_reducible apply WD_end); (first | exact no_draw | (intro _; kernel_rfl)); try simp only [thn, inB, List.length_map, List.cons_append, List.nil_append]) | ((with_reducible apply gCt); exact rfl; exact rfl) | ((with_reducible apply gCf); exact rfl; exact rfl) | ((with_reducible apply gCk); exact rfl; exact known; intro hb; rw [hb]; clear hb) | ((with_reducible apply gCn); exact rfl; exact known; intro hb; rw [hb]; clear hb) | (((with_reducible apply gC2); exact rfl) <;> (intro hb; rw [hb])) | (with_reducible apply WA_block) | ((with_reducible first | apply WA_skip | apply WA_ret | apply WA_exit | apply WA_label); try simp only [thn, inB, List.length_map, List.cons_append, List.nil_append])))
  exact gE (.inr rfl) rfl rfl trivial
theorem impM : ImpM := by
  intro t hz hc
  have hz' : sizT t ≤ 1000 := hz
  refine FnM.of htb Tryz.func76 rfl rfl rfl rfl rfl fun cx hN h0 => ?_
  (repeat' (first | ((with_reducible apply WD_id); first | (refine WD_sum ?_) | (refine WD_nxt htb (by exact rfl) ?_) | (refine WD_unk (by exact rfl) ?_; first | (refine WD_t (by exact rfl) (by exact rfl) (by exact known) fun hb => ?_; rw [hb]; clear hb) | (refine WD_f (by exact rfl) (by exact rfl) (by exact known) fun hb => ?_; rw [hb]; clear hb) | ((refine WD_tf (by exact rfl) (by exact rfl) ?_ ?_) <;> (intro hb; (fail_if_success (with_reducible injection hb)); rw [hb]; (try simp only [List.length_map] at hb)))) | (refine WD_call (by exact rfl) ?_; first | (refine WD_c0 (val2_m _ ?_ ?_) ?_; (exact hyp); (exact hyp)) | (refine WD_cM (first_m _ ?_) ?_; (exact hyp))) | (refine WD_idx htb ?_) | (refine WD_idxo htb ?_) | (refine WD_lde1 htb ?_) | (refine WD_lde htb ?_) | (refine WD_ste htb ?_) | (refine WD_ap htb ?_) | (refine WD_ap0 htb ?_) | (refine WD_nil htb ?_) | (refine WD_nilr htb ?_) | (refine WD_rem ?_) | (refine WD_quo ?_) | (refine WD_slc htb ?_) | (refine WD_ixa htb ?_) | (refine WD_ix1 htb ?_) | (refine WD_cut htb ?_) | (refine WD_cut3 htb ?_) | (refine WD_lens htb ?_) | (refine WD_caps htb ?_) | (refine WD_cps htb ?_) | (refine WD_cpp htb ?_) | (refine WD_api htb ?_) | (refine WD_apz htb ?_) | (refine WD_clr htb ?_) | (refine WD_t (by exact rfl) (by exact rfl) (by exact known) fun hb => ?_; rw [hb]; clear hb) | (refine WD_f (by exact rfl) (by exact rfl) (by exact known) fun hb => ?_; rw [hb]; clear hb) | ((refine WD_tf (by exact rfl) (by exact rfl) ?_ ?_) <;> (intro hb; (fail_if_success (with_reducible injection hb)); rw [hb]; (try simp only [List.length_map] at hb)))) | (with_reducible apply WA_seq) | ((with_reducible apply gR hmix hN); exact (by kernel_rfl); (try dsimp only [List.append_eq, List.cons_append, List.nil_append])) | ((with_reducible apply WD_end); (first | exact no_draw | (intro _; kernel_rfl)); try simp only [thn, inB, List.length_map, List.cons_append, List.nil_append]) | ((with_reducible apply gCt); exact rfl; exact rfl) | ((with_reducible apply gCf); exact rfl; exact rfl) | ((with_reducible apply gCk); exact rfl; exact known; intro hb; rw [hb]; clear hb) | ((with_reducible apply gCn); exact rfl; exact known; intro hb; rw [hb]; clear hb) | (((with_reducible apply gC2); exact rfl) <;> (intro hb; rw [hb])) | (with_reducible apply WA_block) | ((with_reducible first | apply WA_skip | apply WA_ret | apply WA_exit | apply WA_label); try simp only [thn, inB, List.length_map, List.cons_append, List.nil_append])))
  exact gE (.inr rfl) rfl rfl trivial
end Go.Proofs.YtbfafljcclfeaaaGreatDoor
