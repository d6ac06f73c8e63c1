/- Contracts: the sets in their order, as an iterator; the first set of which something is true. -/
import Derived.Test.YtdhogcklnehdhaaGreatDoorQAF
import Derived.Test.YtdhogcklnehdhaaGreatDoorQAH
import Derived.RangeFuncNested
import Derived.RangeFuncBound
import Derived.RangeFuncCalls
import Derived.RangeFuncLeaves
import Derived.Shelf.Abstract
import Derived.Shelf.RegionOpen
import Derived.WalkKit
import Derived.OwnWalkIn
import Derived.TacticsInMore
import Derived.LoopNIn
import Derived.LoopIn
import Derived.Test.YtdhogcklnehdhaaGreatDoorQAD
import Derived.Shelf.Spec.SlicesGrow
import Derived.Maps.OwnSet
import Derived.Test.YtdhogcklnehdhaaGreatDoorQAJ
import Derived.Test.YtdhogcklnehdhaaGreatDoorQAE
import Derived.Test.YtdhogcklnehdhaaGreatDoorQAI
import Derived.Deep.OwnRows
namespace Go.Proofs.YtdhogcklnehdhaaGreatDoor
set_option linter.unusedSimpArgs false
set_option linter.unusedVariables false
set_option linter.unnecessarySimpa false
set_option linter.unusedSectionVars false
set_option maxRecDepth 100000
open Go Go.RowKit Go.Am Go.Proofs.Grow Go.Shelf
abbrev noB : Nat → Prop := fun _ => False
abbrev noM : Nat → Option Value := fun _ => none
/-- A contract that speaks of no objects, at a world. -/
theorem pure_call {P : Program} {f : FuncId} {ys : List AV} {res : AV} (h : FnM P f [] ys res []) {W : World} {vs : List Value} (hv : VRs noB noM W ys vs) :
    Calls P f vs.toArray W fun e W' => ∃ v, e = .returned v ∧ VR noB noM W' res v ∧ Below W.heap.size W W' := by
  have hno : ∀ b, ¬ Hot noM (lk ([] : List (Nat × AO))) b := by rintro b ⟨g, o, v, h1, _⟩; simp [lk] at h1
  have hht : Ht ⟨W, Hot noM (lk []), noB, vs.length, noM⟩ noM (lk []) = noB := funext fun b => propext ⟨fun h => h.elim id fun k => hno b k, fun h => h.elim⟩
  have hI : InvM ⟨W, Hot noM (lk []), noB, vs.length, noM⟩ noM (lk (argT 0 ys)) (lk []) ⟨vs.toArray, []⟩ W := by
    refine ⟨fun t x ht => ?_, fun g o hg => by simp [lk] at hg, fun g g' o o' v v' b h1 => by simp [lk] at h1, fun b hb => (hno b hb).elim, ⟨rfl, rfl, rfl, Nat.le_refl _, fun _ _ _ => rfl⟩, fun g _ => rfl, fun b hb => hb.elim, fun g u hu => (by cases hu), by simp, rfl⟩
    rw [hht]
    obtain ⟨_, hx⟩ := argT_lk ht
    have hlt : t < vs.length := by
      have := (List.getElem?_eq_some_iff.1 hx).1
      rw [hv.1] at this
      omega
    have e : (vs.toArray.getD t undef) = vs[t] := by simp [hlt]
    show VR _ _ _ x (vs.toArray.getD t undef)
    rw [e]
    have hx' : ys[t]? = some x := by simpa using hx
    exact hv.2 t x _ hx' (List.getElem?_eq_getElem hlt)
  refine (h noB noM W vs hv.1.symm hI).mono ?_
  rintro e W' ⟨v, μ', rfl, hI'⟩
  have hμ : μ' = noM := funext fun g => hI'.free g rfl
  subst hμ
  have hht' : Ht ⟨W, Hot noM (lk []), noB, 1, noM⟩ noM (lk []) = noB := funext fun b => propext ⟨fun h => h.elim id fun k => hno b k, fun h => h.elim⟩
  refine ⟨v, rfl, ?_, ⟨hI'.fr.os, hI'.fr.tape, hI'.fr.output, hI'.fr.size, fun k hk => hI'.fr.block k hk fun hb => hno k hb⟩⟩
  have := hI'.tm 0 res rfl
  rw [hht'] at this
  exact this
theorem below_grown {W W' : World} (h : Below W.heap.size W W') : W.grownBy W' none := ⟨h.os, h.tape, h.output, h.size, fun k hk _ => h.block k hk⟩
theorem next_c (s : Nat) (hs : s < 1024) (W : World) : Calls Tryz.prog 127 #[.int .i64 (s : Int), .int .i64 10] W fun e W' => e = .returned (.tuple #[.int .i64 (uhR (nextF s 10)).1, .bool (uhR (nextF s 10)).2]) ∧ Below W.heap.size W W' := by
  refine (pure_call (nextSet_m s 10 (by decide) (by omega) size_m) (W := W) (vs := [.int .i64 (s : Int), .int .i64 10]) ⟨rfl, fun i c v h1 h2 => ?_⟩).mono ?_
  · match i with
    | 0 => cases h1; cases h2; exact .d (.v _)
    | 1 => cases h1; cases h2; exact .d (.v _)
    | n + 2 => simp at h1
  · rintro e W' ⟨v, rfl, hv, hb⟩
    refine ⟨?_, hb⟩
    cases hv with
    | tup hl h =>
      rename_i vs
      match vs, hl with
      | [a, b], _ =>
        have h0 := h 0 _ _ rfl rfl
        have h1 := h 1 _ _ rfl rfl
        cases h0 with
        | d h0 => cases h0 with
          | v => cases h1 with
            | d h1 => cases h1 with
              | v => rfl
attribute [local go_sem] Oper.semAt_some
def msV : Value → Value → Nat
  | .int _ x, .bool true => muN x.toNat + 1
  | _, _ => 0
theorem mu_le {s : Nat} (h : s < 1024) : muN s ≤ 11263 := by unfold muN; omega
set_option maxRecDepth 100000 in
set_option maxHeartbeats 2000000 in
/-- The sets in their order. -/
theorem ord_stops (n n₀ : Nat) (hn : 1 ≤ n) (w : World) : SeqStopsK Fence.wide n Tryz.prog 261 #[] (fun x : {x : Nat // x < 1024} => #[Value.int .i64 (x.1 : Int)]) (Below n₀) (fun _ => True) (fun _ => True) 20000 w := fun l J Jx W hW hJ hJx hY h0 => by
  refine callsIn_of_wp Tryz.func261 rfl trivial ?_ rfl
  simp only [Tryz.ntmps261, List.size_toArray, List.length_cons, List.length_nil, Nat.reduceAdd, Nat.reduceSub, Array.replicate_succ, Array.replicate_zero, List.push_toArray, List.append_toArray, List.nil_append, List.cons_append]
  gi_wp2
  gi_loopw [2, 3] (fun vs vo wr => ∃ (pre : List {x : Nat // x < 1024}) (s : Nat) (ok : Bool), vs = .int .i64 (s : Int) ∧ vo = .bool ok ∧ J pre wr ∧ s < 1024 ∧ pre.length + muN s ≤ 12000 + (if ok then 0 else 20000)) (fun vs vo _ => msV vs vo)
  case atStart => exact ⟨[], 0, true, rfl, rfl, h0, by decide, by decide⟩
  case round =>
    obtain ⟨pre, s, ok, rfl, rfl, hJs, hs, hlen⟩ := hrel
    cases ok with
    | false =>
      gi_wp2
      go_end0
      exact ⟨⟨_, rfl⟩, .inl ⟨pre, trivial, hJs⟩⟩
    | true =>
      simp only [if_pos] at hlen
      obtain ⟨fn, tmps, assign, body, hy, hR⟩ := hY pre ⟨s, hs⟩ _ hJs (by omega)
      dsimp only at hy
      gi_wp2
      refine hR.mono ?_
      rintro e W' (⟨rfl, hJ', hk⟩ | ⟨rfl, hJx'⟩)
      · gi_wp2_with (refine ⟨trivial, ?_⟩; gi_at_call 127; refine (callsIn_wide.2 (next_c s hs _)).mono ?_; rintro e w' ⟨rfl, hb⟩)
        go_roundw
        case rel =>
          have hJ2 := hJ (pre ++ [⟨s, hs⟩]) _ _ none hJ' (below_grown hb) (fun r e => by cases e)
          cases hnx : nextF s 10 with
          | none => exact ⟨pre ++ [⟨s, hs⟩], 0, false, rfl, rfl, hJ2, by decide, by have := mu_le (s := 0) (by decide); simp; omega⟩
          | some t =>
            obtain ⟨ht, hm⟩ := next_some (n := 10) (by decide) hs hnx
            exact ⟨pre ++ [⟨s, hs⟩], t, true, rfl, rfl, hJ2, ht, by simp; omega⟩
        case measure =>
          cases hnx : nextF s 10 with
          | none => simp [uhR, msV]
          | some t =>
            obtain ⟨ht, hm⟩ := next_some (n := 10) (by decide) hs hnx
            simp [uhR, msV]; omega
      · gi_wp2
        refine bodyPost_ret (results_none rfl _ _ _) rfl ?_
        exact ⟨⟨_, rfl⟩, .inr ⟨_, trivial, hJx'⟩⟩
end Go.Proofs.YtdhogcklnehdhaaGreatDoor
/- Contracts: a trust implies itself. -/
namespace Go.Proofs.YtdhogcklnehdhaaGreatDoor
set_option linter.unusedSimpArgs false
set_option linter.unusedVariables false
set_option linter.unnecessarySimpa false
set_option linter.unusedSectionVars false
set_option maxRecDepth 100000
open Go Go.RowKit Go.Am Go.Proofs.Grow Go.Shelf
theorem im1_m (t : Tr) (s : Nat) (hz : sizT t ≤ 1000) : FnM Tryz.prog 239 [] [vI (s : Int), .rp (rTp t), .rp (rTp t)] (vB false) [] := by
  have satI : FnM Tryz.prog 179 [] [aTr t, vI (s : Int)] (vB (satT s t)) [] := sat_m _ _ t (Nat.le_refl _) hz
  have satI_m := satI
  refine FnM.of htb Tryz.func239 rfl rfl rfl rfl rfl fun cx hN h0 => ?_
  cases h : satT s t with
  | false =>
    (repeat' (first | ((with_reducible apply WD_id); first | (refine WD_nxt htb (by exact rfl) ?_) | (refine WD_call (by exact rfl) ?_; first | (refine WD_c0 (satI_m) ?_)) | (refine WD_t (by exact rfl) (by exact rfl) (by exact known) fun hb => ?_; rw [hb]; clear hb) | (refine WD_f (by exact rfl) (by exact rfl) (by exact known) fun hb => ?_; rw [hb]; clear hb)) | (refine ct ?_) | (with_reducible apply WA_block)))
    exact gE (.inr rfl) rfl rfl trivial
  | true =>
    (repeat' (first | ((with_reducible apply WD_id); first | (refine WD_nxt htb (by exact rfl) ?_) | (refine WD_call (by exact rfl) ?_; first | (refine WD_c0 (satI_m) ?_)) | (refine WD_t (by exact rfl) (by exact rfl) (by exact known) fun hb => ?_; rw [hb]; clear hb) | (refine WD_f (by exact rfl) (by exact rfl) (by exact known) fun hb => ?_; rw [hb]; clear hb)) | (refine ct ?_) | (with_reducible apply WA_block)))
    exact gE (.inr rfl) rfl (congrArg vB (by rw [h]; rfl)) trivial
theorem keeps_below {w W : World} (h : Below w.heap.size w W) : Keeps noB noB w W := fun b hb _ => ⟨id, Nat.lt_of_lt_of_le hb h.size, h.block b hb⟩
abbrev IsRp (w : World) (t : Tr) (v : Value) : Prop := VR noB noM w (.rp (rTp t)) v
theorem IsRp.below {w W : World} {t : Tr} {v : Value} (h : IsRp w t v) (hb : Below w.heap.size w W) : IsRp W t v := h.mono (fun _ => true) rfl (fun _ _ _ h => h) (keeps_below hb)
theorem im1_c (t : Tr) (s : Nat) (hz : sizT t ≤ 1000) (W : World) (p q : Value) (hp : IsRp W t p) (hq : IsRp W t q) : Calls Tryz.prog 239 #[.int .i64 (s : Int), p, q] W fun e W' => e = .returned (.bool false) ∧ Below W.heap.size W W' := by
  refine (pure_call (im1_m t s hz) (W := W) (vs := [.int .i64 (s : Int), p, q]) ⟨rfl, fun i c v h1 h2 => ?_⟩).mono ?_
  · match i with
    | 0 => cases h1; cases h2; exact .d (.v _)
    | 1 => cases h1; cases h2; exact hp
    | 2 => cases h1; cases h2; exact hq
    | n + 3 => simp at h1
  · rintro e W' ⟨v, rfl, hv, hb⟩
    refine ⟨?_, hb⟩
    cases hv with
    | d h => cases h with
      | v => rfl
theorem cell_new_l (W : World) (v : Value) (t : TypeId) : (W.alloc (.cells #[v] t)).cell? ⟨W.heap.size, 0, none⟩ = some v ∧ (W.alloc (.cells #[v] t)).frozen? ⟨W.heap.size, 0, none⟩ = false := by
  have h := World.alloc_heap_new W (.cells #[v] t)
  generalize W.alloc (.cells #[v] t) = X at *
  constructor <;> simp [World.cell?, World.frozen?, h]
theorem cell_alloc_l {W : World} {a : Addr} {v : Value} (o : Obj) (h : W.cell? a = some v) : (W.alloc o).cell? a = some v := cell_kept h (World.grownBy_alloc W o none) (fun r e => by cases e)
theorem frozen_alloc_l {W : World} {a : Addr} {v : Value} (o : Obj) (h : W.cell? a = some v) (hf : W.frozen? a = false) : (W.alloc o).frozen? a = false := (frozen_kept h (World.grownBy_alloc W o none) (fun r e => by cases e)).trans hf
attribute [local go_sem] Oper.semAt_some
set_option maxRecDepth 100000 in
set_option maxHeartbeats 2000000 in
/-- No set: nothing is found. -/
theorem first_c (t : Tr) (hz : sizT t ≤ 1000) (w : World) (p q : Value) (hp : IsRp w t p) (hq : IsRp w t q) : Calls Tryz.prog 238 #[.func (.func 239) #[] #[p, q]] w fun e W' => e = .returned (.tuple #[.int .i64 0, .bool false]) ∧ Below w.heap.size w W' := by
  refine (callsIn_wide (n := 6)).1 ?_
  refine callsIn_of_wp_marks Tryz.func238 rfl trivial ?_ rfl
  simp only [Tryz.ntmps238, List.size_toArray, List.length_cons, List.length_nil, Nat.reduceAdd, Nat.reduceSub, Array.replicate_succ, Array.replicate_zero, List.push_toArray, List.append_toArray, List.nil_append, List.cons_append]
  gi_wp2
  have c0 := cell_new_l w (.func (.func 239) #[] #[p, q]) 131
  have c1 := cell_new_l (w.alloc (.cells #[.func (.func 239) #[] #[p, q]] 131)) (.int .i64 0) 3
  have c2 := cell_new_l ((w.alloc (.cells #[.func (.func 239) #[] #[p, q]] 131)).alloc (.cells #[.int .i64 0] 3)) (.bool false) 4
  simp only [World.size_alloc] at c1 c2
  have hB0 : Below w.heap.size w (((w.alloc (.cells #[.func (.func 239) #[] #[p, q]] 131)).alloc (.cells #[.int .i64 0] 3)).alloc (.cells #[.bool false] 4)) := (((Below.refl _ w).alloc (Nat.le_refl _) _).alloc (by simp) _).alloc (by simp; omega) _
  refine wpIn_rangeFunc_ownF rfl (by decide) (gf := 261) (lb := #[]) rfl trivial (enters_of Tryz.func261 (by kernel_rfl) rfl)
    (ord_stops _ w.heap.size (by decide) _) belowK_t (belowK_b (by simp; omega)) (Below.refl _ _) (fun _ => rfl)
    (fun pre W => (W.cell? ⟨w.heap.size, 0, none⟩ = some (.func (.func 239) #[] #[p, q]) ∧ (W.cell? ⟨w.heap.size + 1, 0, none⟩ = some (.int .i64 0) ∧ W.frozen? ⟨w.heap.size + 1, 0, none⟩ = false) ∧ (W.cell? ⟨w.heap.size + 1 + 1, 0, none⟩ = some (.bool false) ∧ W.frozen? ⟨w.heap.size + 1 + 1, 0, none⟩ = false)) ∧ Below w.heap.size w W)
    (fun _ _ _ => False)
    (OwnFrom.and (Own.from (fun s A B row hs hg hr => ⟨cell_kept hs.1 hg hr, ⟨cell_kept hs.2.1.1 hg hr, (frozen_kept hs.2.1.1 hg hr).trans hs.2.1.2⟩, cell_kept hs.2.2.1 hg hr, (frozen_kept hs.2.2.1 hg hr).trans hs.2.2.2⟩) _) (ownFrom_below (Nat.le_refl _) (by simp; omega)))
    (fun _ _ _ _ _ hs _ _ => hs)
    ⟨⟨cell_alloc_l _ (cell_alloc_l _ c0.1), ⟨cell_alloc_l _ c1.1, frozen_alloc_l _ c1.1 c1.2⟩, c2.1, c2.2⟩, hB0⟩
    (fun x => { tmps := #[.func (.func 239) #[] #[p, q], .pointer (some ⟨w.heap.size, 0, none⟩), .pointer (some ⟨w.heap.size + 1, 0, none⟩), .pointer (some ⟨w.heap.size + 1 + 1, 0, none⟩), .int .i64 (x.1 : Int), .int .i64 (x.1 : Int), undef, undef, undef, undef], defers := [] }) ?assign ?body ?done ?stop
  case assign =>
    intro l x W K hK
    gi_wp2
    exact hK
  case body =>
    rintro l pre x W ⟨⟨hc0, ⟨hc1, hf1⟩, hc2, hf2⟩, hB⟩ _
    gi_wp2_with (refine ⟨trivial, ?_⟩; gi_at_call 239; refine (CallsIn.inRound l (callsIn_wide.2 (im1_c t x.1 hz _ _ _ (hp.below hB) (hq.below hB)))).mono ?_; rintro e w' ⟨rfl, hb⟩)
    have hg := below_grown hb
    have hbw : Below w.heap.size W w' := hb.mono hB.size
    exact ⟨KeepsOthers.of_grownBy hg (fun j o e => by cases e), hbw, ⟨⟨cell_kept hc0 hg (fun r e => by cases e), ⟨cell_kept hc1 hg (fun r e => by cases e), (frozen_kept hc1 hg (fun r e => by cases e)).trans hf1⟩, cell_kept hc2 hg (fun r e => by cases e), (frozen_kept hc2 hg (fun r e => by cases e)).trans hf2⟩, hB.trans hbw⟩⟩
  case done =>
    rintro D ys W hD _ ⟨⟨hc0, ⟨hc1, hf1⟩, hc2, hf2⟩, hB⟩ hK
    gi_wp2
    have hK' := ((KeepsOthers.setCell W ⟨w.heap.size + 1, 0, none⟩ (.int .i64 0)).trans (KeepsOthers.setCell _ ⟨w.heap.size + 1 + 1, 0, none⟩ (.bool false))).same D _ hK rfl
    have d1 := World.cell?_setCell_same' W ⟨w.heap.size + 1, 0, none⟩ (.int .i64 0) (by rw [hc1]; rfl)
    have g2 := grownBy_setCell' (W.setCell ⟨w.heap.size + 1, 0, none⟩ (.int .i64 0)) (w.heap.size + 1 + 1) (.bool false)
    have d2 := g2.cell d1 (by simp)
    have g1 := grownBy_setCell' W (w.heap.size + 1) (.int .i64 0)
    have e2 := g1.cell hc2 (by simp)
    have d3 := World.cell?_setCell_same' (W.setCell ⟨w.heap.size + 1, 0, none⟩ (.int .i64 0)) ⟨w.heap.size + 1 + 1, 0, none⟩ (.bool false) (by rw [e2]; rfl)
    have hB2 := (hB.setCell (p := ⟨w.heap.size + 1, 0, none⟩) (by simp) (.int .i64 0)).setCell (p := ⟨w.heap.size + 1 + 1, 0, none⟩) (by simp; omega) (.bool false)
    generalize (W.setCell ⟨w.heap.size + 1, 0, none⟩ (.int .i64 0)).setCell ⟨w.heap.size + 1 + 1, 0, none⟩ (.bool false) = X at *
    refine ⟨by simp, .inl ⟨_, _, rfl, run_takeDeferred hK', ?_⟩⟩
    have k1 := cell_kept d2 (grownBy_putObj' X D (.deferred none)) (fun r e => by cases e; exact ⟨_, hK', rfl⟩)
    have k2 := cell_kept d3 (grownBy_putObj' X D (.deferred none)) (fun r e => by cases e; exact ⟨_, hK', rfl⟩)
    refine ⟨.tuple #[.int .i64 0, .bool false], ?_, rfl, hB2.trans (belowK_b (w := w) (Nat.le_refl _) X D _ _ (by simp at hD; omega) hK' rfl rfl)⟩
    simp [results, Tryz.f238, go_sem, k1, k2]
  case stop =>
    rintro D c pre W _ _ h _
    exact h.elim
theorem box_rp {cx : Cx} {μ : Nat → Option Value} {M : Nat → Option AO} {w : World} {g : Nat} {ty : TypeId} {ds : List D} (h : OR (Ht cx μ M) μ w g (.box ty (ds.map .d))) : ∃ b, μ g = some (.pointer (some ⟨b, 0, none⟩)) ∧ VR noB noM w (.rp ds) (.pointer (some ⟨b, 0, none⟩)) := by
  obtain ⟨b, vs, h1, h2, h3⟩ := h
  refine ⟨b, h1, .rp (fun j => vs.getD j undef) id (Array.getElem?_eq_some_iff.1 h2).1 (fun j c hc => ?_) (fun j c hc => ?_)⟩
  all_goals
    have hj : (ds.map AV.d)[j]? = some (.d c) := by rw [List.getElem?_map, hc]; rfl
    have hlt : j < vs.length := by
      rw [← h3.1]
      exact (List.getElem?_eq_some_iff.1 hj).1
    have hv : vs[j]? = some vs[j] := List.getElem?_eq_getElem hlt
    have e : vs.getD j undef = vs[j] := by rw [List.getD_eq_getElem?_getD, hv]; rfl
    rw [e]
  · simp [World.cell?, h2, hlt]
  · have := h3.2 j (.d c) vs[j] hj hv
    cases this with
    | d h => exact h.mono fun b hb _ => ⟨id, hb, rfl⟩
theorem first_m (t : Tr) (hz : sizT t ≤ 1000) : FnM Tryz.prog 238 [(2, .box 45 (cellsOf (aTr t))), (3, .box 45 (cellsOf (aTr t)))] [.clo 239 [.ptr 2 0, .ptr 3 0]] (.tup [vI 0, vB false]) [(2, .box 45 (cellsOf (aTr t))), (3, .box 45 (cellsOf (aTr t)))] := by
  intro H0 μ w vs hl hI
  match vs, hl with
  | [v], _ =>
    have h0 := hI.tm 0 _ rfl
    obtain ⟨b2, m2, r2⟩ := box_rp (ds := rTp t) (hI.ob 2 _ rfl)
    obtain ⟨b3, m3, r3⟩ := box_rp (ds := rTp t) (hI.ob 3 _ rfl)
    have hv : v = .func (.func 239) #[] #[.pointer (some ⟨b2, 0, none⟩), .pointer (some ⟨b3, 0, none⟩)] := by
      have h0' : VR _ μ w (.clo 239 [.ptr 2 0, .ptr 3 0]) v := h0
      cases h0' with
      | @clo _ _ us hl2 h =>
        match us, hl2, h with
        | [a, c], _, h =>
          have k1 := h 0 _ _ rfl rfl
          have k2 := h 1 _ _ rfl rfl
          cases k1 with
          | ptr k1 =>
            cases k2 with
            | ptr k2 =>
              rw [m2] at k1; rw [m3] at k2
              cases k1; cases k2; rfl
    subst hv
    refine (first_c t hz w _ _ r2 r3).mono ?_
    rintro e w' ⟨rfl, hb⟩
    refine ⟨_, μ, rfl, ?_⟩
    have hk : ∀ H : Nat → Prop, Keeps H H w w' := fun H b hb' hn => ⟨hn, Nat.lt_of_lt_of_le hb' hb.size, hb.block b hb'⟩
    refine ⟨fun u x hu => ?_, fun g o hg => ?_, hI.inj, fun b hh => ?_, ⟨hb.os, hb.tape, hb.output, hb.size, fun k hk _ => hb.block k hk⟩, hI.free, hI.hs, hI.base, rfl, rfl⟩
    · simp only [lk] at hu
      split at hu
      · rename_i hbq
        cases hu
        have := Nat.eq_of_beq_eq_true hbq
        subst this
        refine .tup (vs := [.int .i64 0, .bool false]) rfl fun i c u h1 h2 => ?_
        match i with
        | 0 => cases h1; cases h2; exact .d (.v _)
        | 1 => cases h1; cases h2; exact .d (.v _)
        | n + 2 => simp at h1
      · cases hu
    · exact (hI.ob g o hg).mono (fun _ _ h => h) (hk _) fun hlv v b h1 h2 => hb.block b (hI.lo b ⟨g, o, v, hg, hlv, h1, h2⟩).1
    · exact ⟨Nat.lt_of_lt_of_le (hI.lo b hh).1 hb.size, (hI.lo b hh).2⟩
end Go.Proofs.YtdhogcklnehdhaaGreatDoor
/- Contracts: a trust implies itself. -/
namespace Go.Proofs.YtdhogcklnehdhaaGreatDoor
set_option linter.unusedSimpArgs false
set_option linter.unusedVariables false
set_option linter.unnecessarySimpa false
set_option linter.unusedSectionVars false
set_option maxRecDepth 100000
open Go Go.RowKit Go.Am Go.Proofs.Grow
theorem val2_m (t : Tr) (hz : sizT t ≤ 1000) (h : chkT t = 0) : FnM Tryz.prog 237 [] [aTr t, aTr t] (vI 0) [] := by
  have chkV := chk3_m t hz
  rw [h] at chkV
  have chkV_m := chkV
  refine FnM.of htb Tryz.func237 rfl rfl rfl rfl rfl fun cx hN h0 => ?_
  (repeat' (first | ((with_reducible apply WD_id); first | (refine WD_nxt htb (by exact rfl) ?_) | (refine WD_call (by exact rfl) ?_; first | (refine WD_c0 (chkV_m) ?_))) | (refine ct ?_) | (with_reducible apply WA_block)))
  exact gE (.inr rfl) rfl rfl trivial
theorem impM : ImpM := by
  intro t hz hc
  have hz' : sizT t ≤ 1000 := hz
  refine FnM.of htb Tryz.func209 rfl rfl rfl rfl rfl fun cx hN h0 => ?_
  (repeat' (first | ((with_reducible apply WD_id); first | (refine WD_nxt htb (by exact rfl) ?_) | (refine WD_call (by exact rfl) ?_; first | (refine WD_c0 (val2_m _ ?_ ?_) ?_; (exact hyp); (exact hyp)) | (refine WD_cM (first_m _ ?_) ?_; (exact hyp)))) | (refine ct ?_) | (with_reducible apply WA_block)))
  exact gE (.inr rfl) rfl rfl trivial
end Go.Proofs.YtdhogcklnehdhaaGreatDoor
/- Nothing is claimed here: calls that were reckoned are taken as contracts of further reckonings. -/
namespace Go.Am
set_option linter.unusedSimpArgs false
set_option linter.unusedVariables false
set_option linter.unnecessarySimpa false
set_option linter.unusedSectionVars false
set_option maxRecDepth 100000
open Go Go.RowKit Go.Proofs.Grow
noncomputable def eqBs : List UInt8 → List UInt8 → Bool
  | [], [] => true
  | a :: r, b :: s => Nat.beq a.toNat b.toNat && eqBs r s
  | _, _ => false
theorem eqBs_spec : ∀ {a b : List UInt8}, eqBs a b = true → a = b
  | [], [], _ => rfl
  | [], _ :: _, h => by cases h
  | _ :: _, [], h => by cases h
  | a :: r, b :: s, h => by
    simp only [eqBs, Bool.and_eq_true] at h
    rw [eqBs_spec h.2, UInt8.toNat_inj.1 (Nat.eq_of_beq_eq_true h.1)]
noncomputable def eqVl (x y : Value) : Bool := match x, y with
  | .int .i64 (.ofNat a), .int .i64 (.ofNat b) => Nat.beq a b
  | .bool true, .bool true => true
  | .bool false, .bool false => true
  | .slice none 0 0, .slice none 0 0 => true
  | .string a, .string b => eqBs a.data.toList b.data.toList
  | _, _ => false
theorem eqVl_spec {x y : Value} (h : eqVl x y = true) : x = y := by
  unfold eqVl at h
  split at h
  · rw [Nat.eq_of_beq_eq_true h]
  · rfl
  · rfl
  · rfl
  · rename_i a b
    have := eqBs_spec h
    obtain ⟨⟨a⟩⟩ := a
    obtain ⟨⟨b⟩⟩ := b
    have : a = b := this
    rw [this]
  · cases h
mutual
noncomputable def eqD : D → D → Bool
  | .v x, y => match y with
    | .v y => eqVl x y
    | _ => false
  | .rows sz rs, y => match y with
    | .rows sz' rs' => Nat.beq sz sz' && eqRs rs rs'
    | _ => false
noncomputable def eqR : List D → List D → Bool
  | [], y => match y with
    | [] => true
    | _ => false
  | d :: r, y => match y with
    | e :: s => eqD d e && eqR r s
    | _ => false
noncomputable def eqRs : List (List D) → List (List D) → Bool
  | [], y => match y with
    | [] => true
    | _ => false
  | d :: r, y => match y with
    | e :: s => eqR d e && eqRs r s
    | _ => false
end
mutual
theorem eqD_spec : ∀ {x y : D}, eqD x y = true → x = y
  | .v x, y, h => by
    unfold eqD at h
    split at h
    · rw [eqVl_spec h]
    · cases h
  | .rows sz rs, y, h => by
    unfold eqD at h
    split at h
    · simp only [Bool.and_eq_true] at h
      rw [Nat.eq_of_beq_eq_true h.1, eqRs_spec h.2]
    · cases h
theorem eqR_spec : ∀ {x y : List D}, eqR x y = true → x = y
  | [], y, h => by
    unfold eqR at h
    split at h
    · rfl
    · cases h
  | d :: r, y, h => by
    unfold eqR at h
    split at h
    · simp only [Bool.and_eq_true] at h
      rw [eqD_spec h.1, eqR_spec h.2]
    · cases h
theorem eqRs_spec : ∀ {x y : List (List D)}, eqRs x y = true → x = y
  | [], y, h => by
    unfold eqRs at h
    split at h
    · rfl
    · cases h
  | d :: r, y, h => by
    unfold eqRs at h
    split at h
    · simp only [Bool.and_eq_true] at h
      rw [eqR_spec h.1, eqRs_spec h.2]
    · cases h
end
mutual
noncomputable def eqA : AV → AV → Bool
  | .d x, y => match y with
    | .d y => eqD x y
    | _ => false
  | .agg cs, y => match y with
    | .agg ds => eqAs cs ds
    | _ => false
  | .tup cs, y => match y with
    | .tup ds => eqAs cs ds
    | _ => false
  | .own g, y => match y with
    | .own h => Nat.beq g h
    | _ => false
  | _, _ => false
noncomputable def eqAs : List AV → List AV → Bool
  | [], y => match y with
    | [] => true
    | _ => false
  | d :: r, y => match y with
    | e :: s => eqA d e && eqAs r s
    | _ => false
end
mutual
theorem eqA_spec : ∀ {x y : AV}, eqA x y = true → x = y
  | .d x, y, h => by
    unfold eqA at h
    split at h
    · rw [eqD_spec h]
    · cases h
  | .agg cs, y, h => by
    unfold eqA at h
    split at h
    · rw [eqAs_spec h]
    · cases h
  | .tup cs, y, h => by
    unfold eqA at h
    split at h
    · rw [eqAs_spec h]
    · cases h
  | .ptr _ _, _, h => by unfold eqA at h; cases h
  | .elt _ _ _ _, _, h => by unfold eqA at h; cases h
  | .own g, y, h => by
    unfold eqA at h
    split at h
    · rw [Nat.eq_of_beq_eq_true h]
    · cases h
  | .rp _, _, h => by unfold eqA at h; cases h
  | .sl _ _ _ _ _, _, h => by unfold eqA at h; cases h
  | .clo _ _, _, h => by unfold eqA at h; cases h
theorem eqAs_spec : ∀ {x y : List AV}, eqAs x y = true → x = y
  | [], y, h => by
    unfold eqAs at h
    split at h
    · rfl
    · cases h
  | d :: r, y, h => by
    unfold eqAs at h
    split at h
    · simp only [Bool.and_eq_true] at h
      rw [eqA_spec h.1, eqAs_spec h.2]
    · cases h
end
noncomputable def eqO (x y : AO) : Bool := match x, y with
  | .box a cs, .box b ds => Nat.beq a b && eqAs cs ds
  | .arr a s rs, .arr b s' rs' => Nat.beq a b && (Nat.beq s s' && eqRs rs rs')
  | .dead, .dead => true
  | _, _ => false
theorem eqO_spec {x y : AO} (h : eqO x y = true) : x = y := by
  unfold eqO at h
  split at h
  · simp only [Bool.and_eq_true] at h
    rw [Nat.eq_of_beq_eq_true h.1, eqAs_spec h.2]
  · simp only [Bool.and_eq_true] at h
    rw [Nat.eq_of_beq_eq_true h.1, Nat.eq_of_beq_eq_true h.2.1, eqRs_spec h.2.2]
  · rfl
  · cases h
noncomputable def eqM : List (Nat × AO) → List (Nat × AO) → Bool
  | [], [] => true
  | p :: r, q :: s => Nat.beq p.1 q.1 && (eqO p.2 q.2 && eqM r s)
  | _, _ => false
theorem eqM_spec : ∀ {x y : List (Nat × AO)}, eqM x y = true → x = y
  | [], [], _ => rfl
  | [], _ :: _, h => by cases h
  | _ :: _, [], h => by cases h
  | (a, o) :: r, (b, u) :: s, h => by
    simp only [eqM, Bool.and_eq_true] at h
    have := Nat.eq_of_beq_eq_true h.1
    rw [this, eqO_spec h.2.1, eqM_spec h.2.2]
/-- Calls with their results. -/
abbrev Res := AV × List (Nat × AO)
abbrev Tbl := List (Nat × List (List AV × Res))
noncomputable def lkE : List (List AV × Res) → List AV → Option Res
  | [], _ => none
  | p :: r, xs => match eqAs p.1 xs with
    | true => some p.2
    | false => lkE r xs
noncomputable def lkF : Tbl → Nat → List AV → Option Res
  | [], _, _ => none
  | p :: r, f, xs => match Nat.beq p.1 f with
    | true => match lkE p.2 xs with
      | some v => some v
      | none => lkF r f xs
    | false => lkF r f xs
def EntOK (P : Program) (f : Nat) (l : List (List AV × Res)) : Prop := ∀ e ∈ l, FnM P f [] e.1 e.2.1 e.2.2
def TblOK (P : Program) (t : Tbl) : Prop := ∀ p ∈ t, EntOK P p.1 p.2
theorem lkE_spec : ∀ {l : List (List AV × Res)} {xs : List AV} {v : Res}, lkE l xs = some v → (xs, v) ∈ l
  | [], _, _, h => by cases h
  | p :: r, xs, v, h => by
    unfold lkE at h
    split at h
    · rename_i he
      obtain rfl := Option.some.inj h
      rw [← eqAs_spec he]
      exact List.mem_cons_self
    · exact List.mem_cons_of_mem _ (lkE_spec h)
theorem lkF_spec {P : Program} : ∀ {t : Tbl} {f : Nat} {xs : List AV} {v : Res}, TblOK P t → lkF t f xs = some v → FnM P f [] xs v.1 v.2
  | [], _, _, _, _, h => by cases h
  | p :: r, f, xs, v, ho, h => by
    unfold lkF at h
    split at h
    · rename_i hb
      split at h
      · rename_i u hu
        obtain rfl := Option.some.inj h
        rw [← Nat.eq_of_beq_eq_true hb]
        exact ho p List.mem_cons_self _ (lkE_spec hu)
      · exact lkF_spec (fun q hq => ho q (List.mem_cons_of_mem _ hq)) h
    · exact lkF_spec (fun q hq => ho q (List.mem_cons_of_mem _ hq)) h
theorem EntOK.nil (P : Program) (f : Nat) : EntOK P f [] := fun p hp => by cases hp
theorem EntOK.cons {P : Program} {f : Nat} {xs : List AV} {v : Res} {l : List (List AV × Res)} (h : FnM P f [] xs v.1 v.2) (k : EntOK P f l) : EntOK P f ((xs, v) :: l) := fun p hp => by
  rcases List.mem_cons.1 hp with rfl | hp
  · exact h
  · exact k p hp
theorem TblOK.nil (P : Program) : TblOK P [] := fun p hp => by cases hp
theorem TblOK.cons {P : Program} {f : Nat} {l : List (List AV × Res)} {t : Tbl} (h : EntOK P f l) (k : TblOK P t) : TblOK P ((f, l) :: t) := fun p hp => by
  rcases List.mem_cons.1 hp with rfl | hp
  · exact h
  · exact k p hp
noncomputable def okE (x : Rn (AV × List (Nat × AO) × Nat)) (v : Res) : Bool := match x with
  | .ok (r, Mo, _) => eqA r v.1 && eqM Mo v.2
  | _ => false
theorem okE_fn {cf : Cfg} (hc : CfgOK cf) {k : Nat} {f : FuncId} {ys : List AV} {n : Nat} {v : Res} (h : okE (runF cf k f [] ys n) v = true) : FnM cf.P f [] ys v.1 v.2 := by
  unfold okE at h
  split at h
  · rename_i r Mo n' hr
    rw [Bool.and_eq_true] at h
    rw [← eqA_spec h.1, ← eqM_spec h.2]
    exact runF_ok hc k _ _ _ _ _ _ _ hr
  · cases h
end Go.Am
/- Contracts: claims that are consistent; slices.Grow at a nil slice of claims. -/
namespace Go.Proofs.YtdhogcklnehdhaaGreatDoor
set_option linter.unusedSimpArgs false
set_option linter.unusedVariables false
set_option linter.unnecessarySimpa false
set_option linter.unusedSectionVars false
set_option maxRecDepth 100000
open Go Go.RowKit Go.Am Go.Proofs.Grow Go.Shelf Go.Maps
theorem kint : Keyed Tryz.prog 3 := int_keyed Tryz.underlying3
theorem zint (w : World) : (zeroValue 3).run Tryz.prog w = .ok (.int .i64 0) w := by kernel_rfl
set_option maxRecDepth 100000 in
theorem cons_none (a : Option Addr) (cap : Nat) (w : World) : Calls Tryz.prog 110 #[.slice a 0 cap] w fun e w' => e = .returned (.bool true) ∧ Below w.heap.size w w' := by
  have hmm := @run_makeMap Tryz.prog
  go_enter Tryz.func110, Tryz.ntmps110
  go_wp2
  refine wp_loop_rounds 1 ?_
  rw [rounds_succ]
  go_wp2
  go_ret
  exact ⟨rfl, (Below.refl _ _).alloc (Nat.le_refl _) _⟩
set_option maxRecDepth 100000 in
theorem cons_one (b off cap : Nat) (w : World) (hb : b < w.heap.size) (h0 : w.cell? ⟨b, off, none⟩ = some (.int .i64 1)) (h1 : w.cell? ⟨b, off + 1, none⟩ = some (.int .i64 1)) :
    Calls Tryz.prog 110 #[.slice (some ⟨b, off, none⟩) 1 cap] w fun e w' => e = .returned (.bool true) ∧ Below w.heap.size w w' := by
  have hmm := @run_makeMap Tryz.prog
  go_enter Tryz.func110, Tryz.ntmps110
  go_wp2
  refine wp_loop_rounds 2 ?_
  rw [rounds_succ]
  have hown := (World.ownsMap_made w Tryz.prog 3 (plainElem (H := Unit) Tryz.prog 3)).alloc
  have hkey : keyOf Tryz.prog 3 (.int .i64 1) = some (.int .i64 1) := keyOf_int_mk Tryz.underlying3 (by decide)
  go_wp2_with (first
    | (at_lookup; refine wpList_lookup_own_ok_int _ rfl _ _ 185 rfl 3 3 .i64 kint Tryz.underlying185 Tryz.underlying3 (zint _) w.heap.size 0 _ rfl (hown _) _ _ rfl hkey ?_; intro c hat hwc)
    | (at_mapUpdate; refine wpList_mapUpdate_own _ rfl _ _ _ 185 rfl 3 3 kint Tryz.underlying185 _ w.heap.size 0 _ rfl (hown _) (by unfold maxLen; omega) _ _ _ rfl rfl hkey _ [] (plainElem_int Tryz.underlying3 (by decide)) ?_; intro w1 hown1 hgrow1)
    | go_in)
  rw [rounds_succ]
  go_wp2
  go_ret
  exact ⟨rfl, (((Below.refl _ _).alloc (Nat.le_refl _) _).alloc (by simp) _).grown hgrow1 (by simp; omega) (fun j hj => by cases hj; exact Nat.le_refl _)⟩
theorem fnm_pure {f : FuncId} {ys : List AV} {b : Bool} (h : ∀ (H : Nat → Prop) (μ : Nat → Option Value) (w : World) (vs : List Value), VRs H μ w ys vs → Calls Tryz.prog f vs.toArray w fun e w' => e = .returned (.bool b) ∧ Below w.heap.size w w') : FnM Tryz.prog f [] ys (vB b) [] := by
  intro H0 μ w vs hl hI
  refine (h _ _ w vs (args_vrs hl hI)).mono ?_
  rintro e w' ⟨rfl, hb⟩
  refine ⟨_, μ, rfl, ?_⟩
  have hno : ∀ b, ¬ Hot μ (lk ([] : List (Nat × AO))) b := by rintro b ⟨g, o, v, h1, _⟩; simp [lk] at h1
  refine ⟨fun u x hu => ?_, fun g o hg => by simp [lk] at hg, hI.inj, fun b hh => (hno b hh).elim, ⟨hb.os, hb.tape, hb.output, hb.size, fun k hk _ => hb.block k hk⟩, hI.free, hI.hs, hI.base, rfl, rfl⟩
  simp only [lk] at hu
  split at hu
  · rename_i hbq
    cases hu
    have := Nat.eq_of_beq_eq_true hbq
    subst this
    exact .d (.v _)
  · cases hu
/-- No claim, or the same one. -/
theorem cons0_m : FnM Tryz.prog 110 [] [.d (.v (.slice none 0 0))] (vB true) [] := fnm_pure fun H μ w vs hv => by
  have := hv.eq_vals (us := [.slice none 0 0]) rfl
  subst this
  exact cons_none none 0 w
theorem cons1_m : FnM Tryz.prog 110 [] [.d (.rows 2 [])] (vB true) [] := fnm_pure fun H μ w vs hv => by
  match vs, hv.1 with
  | [v], _ =>
    have h0 := hv.2 0 _ _ rfl rfl
    have h0' : VR H μ w (.d (.rows 2 [])) v := h0
    cases h0' with
    | d h => cases h with
      | nil sz a cap hc => exact cons_none a cap w
      | rows sz rs b off cap vs hne hcap hlen hb hlt hsz hcell hone hval => exact absurd rfl hne
theorem cons2_m : FnM Tryz.prog 110 [] [.d (.rows 2 [[.v (.int .i64 1), .v (.int .i64 1)]])] (vB true) [] := fnm_pure fun H μ w vs hv => by
  match vs, hv.1 with
  | [v], _ =>
    have h0 := hv.2 0 _ _ rfl rfl
    have h0' : VR H μ w (.d (.rows 2 [[.v (.int .i64 1), .v (.int .i64 1)]])) v := h0
    cases h0' with
    | d h => cases h with
      | rows sz rs b off cap vs hne hcap hlen hb hlt hsz hcell hone hval =>
        have a0 := hcell 0 _ 0 _ rfl rfl
        have a1 := hcell 0 _ 1 _ rfl rfl
        have b0 := hval 0 _ 0 _ rfl rfl
        have b1 := hval 0 _ 1 _ rfl rfl
        generalize vs 0 0 = x0 at *
        generalize vs 0 1 = x1 at *
        cases b0 with
        | v => cases b1 with
          | v => exact cons_one b off cap w hlt (by simpa using a0) (by simpa using a1)
def renG : Ren := { f := fun k => if k = 4 then 260 else k, t := fun k => if k = 22 then 46 else if k = 25 then 86 else k, g := fun k => k }
theorem layG : Lays8.n4 Tryz.prog renG where
  mixed := hmix
  f4 := ⟨Tryz.f260.name, by kernel_rfl, by kernel_rfl⟩
  t0 := by kernel_rfl
  a0 := fun w => rfl
  z0 := fun w => rfl
  v0 := fun w => rfl
  t3 := by kernel_rfl
  a3 := fun w => rfl
  z3 := fun w => rfl
  v3 := fun w => rfl
  t4 := by kernel_rfl
  a4 := fun w => rfl
  z4 := fun w => rfl
  v4 := fun w => rfl
  t9 := by kernel_rfl
  a9 := fun w => rfl
  z9 := fun w => rfl
  v9 := fun w => rfl
  t20 := by kernel_rfl
  a20 := fun w => rfl
  z20 := fun w => rfl
  v20 := fun w => rfl
  t22 := by kernel_rfl
  a22 := fun w => rfl
  z22 := fun w => rfl
  v22 := fun w => rfl
theorem inf_ex : ∃ i0, Tryz.prog.info? 86 = some i0 ∧ i0.size = 2 ∧ i0.bytes = 16 ∧ i0.zero = some (.agg #[.int .i64 0, .int .i64 0]) := by
  have h : (Tryz.prog.info? 86).isSome = true := by kernel_rfl
  have h1 : (Tryz.prog.info? 86).map TypeInfo.size = some 2 := by kernel_rfl
  have h2 : (Tryz.prog.info? 86).map TypeInfo.bytes = some 16 := by kernel_rfl
  have h3 : (Tryz.prog.info? 86).map TypeInfo.zero = some (some (.agg #[.int .i64 0, .int .i64 0])) := by kernel_rfl
  obtain ⟨i0, hi⟩ := Option.isSome_iff_exists.1 h
  rw [hi] at h1 h2 h3
  exact ⟨i0, hi, Option.some.inj h1, Option.some.inj h2, Option.some.inj h3⟩
theorem grow_w (n : Nat) (w : World) (n0 : 0 < n) (n1 : n ≤ 1000) : Calls Tryz.prog 260 #[.slice none 0 0, .int .i64 n] w fun e w' =>
    ∃ c cur, e = .returned (.slice (some ⟨w.heap.size, 0, none⟩) 0 c) ∧ w' = w.drew.alloc (.cells cur 86) ∧ cur.size = c * 2 ∧ c ≤ maxLen := by
  obtain ⟨i0, hi, hs, hb, hz⟩ := inf_ex
  have h := Any8.slices_Grow_grow layG i0 _ hi hz (by rw [hs]; decide) none 0 0 n [] w (Nat.le_refl _) (by omega) (by rw [hb]; omega) (by omega) (by simp) (fun _ => rfl) (fun a ha => by cases ha)
  refine h.mono fun e w' ⟨h1, h2⟩ => ⟨_, _, h1, h2, ?_, ?_⟩
  · have hg := grownCap_ge w (0 + n) 0 (renG.t 25)
    generalize grownCap w (0 + n) 0 (renG.t 25) = G at *
    have hc2 : (Value.agg #[.int .i64 0, .int .i64 0]).cells.size = 2 := by rfl
    simp [Builtin.zeroCells]
    rw [hc2]; omega
  · exact grownCap_le_maxLen w (0 + n) 0 (renG.t 25) (by unfold maxLen; omega)
theorem grow_ob (c : Nat) (cur : Array Value) (w : World) (hc : cur.size = c * 2) (hm : c ≤ maxLen) {H : Nat → Prop} {μ : Nat → Option Value} {g : Nat} (hμ : μ g = some (.slice (some ⟨w.heap.size, 0, none⟩) 0 c)) : OR H μ (w.drew.alloc (.cells cur 86)) g (.arr 86 2 []) := by
  refine ⟨_, [], hμ, ⟨rfl, .inr ⟨w.heap.size, c, cur, rfl, Nat.zero_le _, ?_, Nat.zero_le _, hm, hc, by simp⟩⟩, by simp, ?_, by simp⟩
  · exact heap_alloc_new w.drew _
  · exact ⟨rfl, by simp⟩
theorem grow_pm (g n : Nat) (n0 : 0 < n) (n1 : n ≤ 1000) : FnM Tryz.prog 260 [] [.d (.v (.slice none 0 0)), vI n] (.own g) [(g, .arr 86 2 [])] := by
  intro H0 μ w vs hl hI
  have hv := (args_vrs hl hI).eq_vals (us := [.slice none 0 0, .int .i64 n]) rfl
  subst hv
  refine (grow_w n w n0 n1).mono ?_
  rintro e w' ⟨c, cur, rfl, rfl, hc, hm⟩
  have hch : Chg (fun _ => False) w (w.drew.alloc (.cells cur 86)) := ⟨rfl, rfl, rfl, by simp, fun k hk _ => heap_alloc_old w.drew _ hk⟩
  have h2 := hI.new (w2 := w.drew.alloc (.cells cur 86)) (g := g) (o := .arr 86 2 []) (v := .slice (some ⟨w.heap.size, 0, none⟩) 0 c) rfl hch rfl (fun b hb => by obtain rfl := Option.some.inj hb; simp) (fun H' _ _ => grow_ob c cur w hc hm (upμ_self _ _))
  have e : upM (lk []) [(g, AO.arr 86 2 [])] = lk [(g, .arr 86 2 [])] := upM_cons
  rw [e] at h2
  refine ⟨_, _, rfl, fun t x ht => ?_, h2.ob, h2.inj, h2.lo, h2.fr, h2.free, h2.hs, h2.base, rfl, rfl⟩
  simp only [lk] at ht
  split at ht
  · rename_i hb
    have := Nat.eq_of_beq_eq_true hb
    subst this
    obtain rfl := Option.some.inj ht
    exact .own (upμ_self _ _)
  · cases ht
end Go.Proofs.YtdhogcklnehdhaaGreatDoor
/- Reckoned calls: trusts in two of three nodes; the meetings of the script. -/
namespace Go.Proofs.YtdhogcklnehdhaaGreatDoor
set_option linter.unusedSimpArgs false
set_option linter.unusedVariables false
set_option linter.unnecessarySimpa false
set_option linter.unusedSectionVars false
set_option maxRecDepth 100000
open Go Go.RowKit Go.Am Go.Proofs.Grow
def xn (n : Nat) : D := .v (.int .i64 (Int.ofNat n))
def xl : D := .v (.slice none 0 0)
def xT : D := .v (.bool true)
def xF : D := .v (.bool false)
def xv (n : Nat) : AV := .d (xn n)
/-- Two of three. -/
def xTr : AV := .agg [.d (xn 2), .d (.rows 1 [[xn 0], [xn 1], [xn 2]]), .d xl]
/-- A message is sent. -/
def xsd (f t : Nat) : AV := .agg [xv 2, xv f, xv t, xv 0, xv 0, xv 0, .d xl, .d xl, xv 0, xv 0, xv 0, .d xl, .d xl, .d xl, .d xl]
def tS : Tbl := [(110, [([.d xl], (.d xT, [])), ([.d (.rows 2 [])], (.d xT, [])), ([.d (.rows 2 [[xn 1, xn 1]])], (.d xT, []))])]
theorem tS_ok : TblOK Tryz.prog tS := .cons (.cons cons0_m (.cons cons1_m (.cons cons2_m (.nil _ _)))) (.nil _)
noncomputable def ktS (f : FuncId) (xs : List AV) (g : Nat) : Option Res := match Nat.beq f 260 with
  | true => match xs with
    | [.d (.v (.slice none 0 0)), .d (.v (.int .i64 (.ofNat n)))] => match Nat.blt 0 n && Nat.ble n 1000 with
      | true => some (.own g, [(g, .arr 86 2 [])])
      | false => none
    | _ => none
  | false => lkF tS f xs
theorem ktS_ok {f : FuncId} {xs : List AV} {g : Nat} {r : Res} (h : ktS f xs g = some r) : FnM Tryz.prog f [] xs r.1 r.2 := by
  unfold ktS at h
  split at h
  · rename_i hf
    have := Nat.eq_of_beq_eq_true hf; subst this
    split at h
    · rename_i n
      split at h
      · rename_i hb
        rw [Bool.and_eq_true] at hb
        obtain rfl := Option.some.inj h
        exact grow_pm g n (Nat.le_of_ble_eq_true hb.1) (Nat.le_of_ble_eq_true hb.2)
      · cases h
    · cases h
  · exact lkF_spec tS_ok h
noncomputable def ktX (t : Tbl) (f : FuncId) (xs : List AV) (g : Nat) : Option Res := match ktS f xs g with
  | some r => some r
  | none => lkF t f xs
noncomputable def cfX (t : Tbl) : Cfg := { P := Tryz.prog, tt := ttT, fs := fsT.get, kt := ktX t, pol := fun _ => true }
theorem cfX_ok {t : Tbl} (ht : TblOK Tryz.prog t) : CfgOK (cfX t) := ⟨mixT, ttT_ok, ttT_ord, fun f fn h => BT.good_get fsT_good f fn h, fun f xs g res Mo h => by
  have h' : ktX t f xs g = some (res, Mo) := h
  unfold ktX at h'
  split at h'
  · rename_i r hr
    obtain rfl := Option.some.inj h'
    exact ktS_ok hr
  · exact lkF_spec ht h'⟩
theorem e59_0 : okE (runF (cfX []) 60 179 [] [xTr, xv 0] 0) (.d xF, []) = true := by kernel_rfl
theorem e59_1 : okE (runF (cfX []) 60 179 [] [xTr, xv 1] 0) (.d xF, []) = true := by kernel_rfl
theorem e59_2 : okE (runF (cfX []) 60 179 [] [xTr, xv 2] 0) (.d xF, []) = true := by kernel_rfl
theorem e59_3 : okE (runF (cfX []) 60 179 [] [xTr, xv 3] 0) (.d xT, []) = true := by kernel_rfl
theorem e59_4 : okE (runF (cfX []) 60 179 [] [xTr, xv 4] 0) (.d xF, []) = true := by kernel_rfl
theorem e59_5 : okE (runF (cfX []) 60 179 [] [xTr, xv 5] 0) (.d xT, []) = true := by kernel_rfl
theorem e59_6 : okE (runF (cfX []) 60 179 [] [xTr, xv 6] 0) (.d xT, []) = true := by kernel_rfl
theorem e59_7 : okE (runF (cfX []) 60 179 [] [xTr, xv 7] 0) (.d xT, []) = true := by kernel_rfl
theorem e59_1016 : okE (runF (cfX []) 60 179 [] [xTr, xv 1016] 0) (.d xF, []) = true := by kernel_rfl
theorem e59_1017 : okE (runF (cfX []) 60 179 [] [xTr, xv 1017] 0) (.d xF, []) = true := by kernel_rfl
theorem e59_1018 : okE (runF (cfX []) 60 179 [] [xTr, xv 1018] 0) (.d xF, []) = true := by kernel_rfl
theorem e59_1019 : okE (runF (cfX []) 60 179 [] [xTr, xv 1019] 0) (.d xT, []) = true := by kernel_rfl
theorem e59_1020 : okE (runF (cfX []) 60 179 [] [xTr, xv 1020] 0) (.d xF, []) = true := by kernel_rfl
theorem e59_1021 : okE (runF (cfX []) 60 179 [] [xTr, xv 1021] 0) (.d xT, []) = true := by kernel_rfl
theorem e59_1022 : okE (runF (cfX []) 60 179 [] [xTr, xv 1022] 0) (.d xT, []) = true := by kernel_rfl
theorem e59_1023 : okE (runF (cfX []) 60 179 [] [xTr, xv 1023] 0) (.d xT, []) = true := by kernel_rfl
theorem e93 : okE (runF (cfX []) 60 44 [] [xTr] 0) (xv 0, []) = true := by kernel_rfl
theorem e94 : okE (runF (cfX []) 60 147 [] [xTr] 0) (xv 7, []) = true := by kernel_rfl
theorem e193 : okE (runF (cfX []) 60 119 [] [xTr, xTr] 0) (.d xT, []) = true := by kernel_rfl
def t0 : Tbl := [(179, [([xTr, xv 0], (.d xF, [])), ([xTr, xv 1], (.d xF, [])), ([xTr, xv 2], (.d xF, [])), ([xTr, xv 3], (.d xT, [])), ([xTr, xv 4], (.d xF, [])), ([xTr, xv 5], (.d xT, [])), ([xTr, xv 6], (.d xT, [])), ([xTr, xv 7], (.d xT, [])), ([xTr, xv 1016], (.d xF, [])), ([xTr, xv 1017], (.d xF, [])), ([xTr, xv 1018], (.d xF, [])), ([xTr, xv 1019], (.d xT, [])), ([xTr, xv 1020], (.d xF, [])), ([xTr, xv 1021], (.d xT, [])), ([xTr, xv 1022], (.d xT, [])), ([xTr, xv 1023], (.d xT, []))]), (44, [([xTr], (xv 0, []))]), (147, [([xTr], (xv 7, []))]), (119, [([xTr, xTr], (.d xT, []))])]
theorem t0_ok : TblOK Tryz.prog t0 := .cons (.cons (okE_fn (cfX_ok (.nil _)) e59_0) (.cons (okE_fn (cfX_ok (.nil _)) e59_1) (.cons (okE_fn (cfX_ok (.nil _)) e59_2) (.cons (okE_fn (cfX_ok (.nil _)) e59_3) (.cons (okE_fn (cfX_ok (.nil _)) e59_4) (.cons (okE_fn (cfX_ok (.nil _)) e59_5) (.cons (okE_fn (cfX_ok (.nil _)) e59_6) (.cons (okE_fn (cfX_ok (.nil _)) e59_7) (.cons (okE_fn (cfX_ok (.nil _)) e59_1016) (.cons (okE_fn (cfX_ok (.nil _)) e59_1017) (.cons (okE_fn (cfX_ok (.nil _)) e59_1018) (.cons (okE_fn (cfX_ok (.nil _)) e59_1019) (.cons (okE_fn (cfX_ok (.nil _)) e59_1020) (.cons (okE_fn (cfX_ok (.nil _)) e59_1021) (.cons (okE_fn (cfX_ok (.nil _)) e59_1022) (.cons (okE_fn (cfX_ok (.nil _)) e59_1023) (.nil _ _))))))))))))))))) (.cons (.cons (okE_fn (cfX_ok (.nil _)) e93) (.nil _ _)) (.cons (.cons (okE_fn (cfX_ok (.nil _)) e94) (.nil _ _)) (.cons (.cons (okE_fn (cfX_ok (.nil _)) e193) (.nil _ _)) (.nil _))))
def mt0 : AV := .agg [.d (.rows 9 [[xn 0, xn 2, xn 2, .rows 1 [[xn 0], [xn 1], [xn 2]], xl, .rows 2 [[xn 1, xn 1]], xl, xl, xl], [xn 1, xn 1, xn 2, .rows 1 [[xn 0], [xn 1], [xn 2]], xl, xl, xl, xl, xl], [xn 2, xn 2, xn 2, .rows 1 [[xn 0], [xn 1], [xn 2]], xl, .rows 2 [[xn 1, xn 1]], xl, xl, xl]]), .d (xn 0), .d (xn 0)]
def mt1 : AV := .agg [.d (.rows 9 [[xn 0, xn 2, xn 2, .rows 1 [[xn 0], [xn 1], [xn 2]], xl, .rows 2 [[xn 1, xn 1]], xl, xl, xl], [xn 1, xn 1, xn 2, .rows 1 [[xn 0], [xn 1], [xn 2]], xl, xl, xl, xl, .rows 7 [[xn 0, xn 2, xn 2, .rows 1 [[xn 0], [xn 1], [xn 2]], xl, .rows 2 [[xn 1, xn 1]], xl]]], [xn 2, xn 2, xn 2, .rows 1 [[xn 0], [xn 1], [xn 2]], xl, .rows 2 [[xn 1, xn 1]], xl, xl, xl]]), .d (xn 0), .d (xn 0)]
def mt2 : AV := .agg [.d (.rows 9 [[xn 0, xn 2, xn 2, .rows 1 [[xn 0], [xn 1], [xn 2]], xl, .rows 2 [[xn 1, xn 1]], xl, xl, xl], [xn 1, xn 1, xn 2, .rows 1 [[xn 0], [xn 1], [xn 2]], xl, xl, xl, xl, .rows 7 [[xn 0, xn 2, xn 2, .rows 1 [[xn 0], [xn 1], [xn 2]], xl, .rows 2 [[xn 1, xn 1]], xl]]], [xn 2, xn 3, xn 2, .rows 1 [[xn 0], [xn 1], [xn 2]], xl, .rows 2 [[xn 1, xn 1]], .rows 2 [[xn 1, xn 1]], xl, .rows 7 [[xn 0, xn 2, xn 2, .rows 1 [[xn 0], [xn 1], [xn 2]], xl, .rows 2 [[xn 1, xn 1]], xl]]]]), .d (xn 0), .d (xn 0)]
def mt3 : AV := .agg [.d (.rows 9 [[xn 0, xn 2, xn 2, .rows 1 [[xn 0], [xn 1], [xn 2]], xl, .rows 2 [[xn 1, xn 1]], xl, xl, .rows 7 [[xn 1, xn 1, xn 2, .rows 1 [[xn 0], [xn 1], [xn 2]], xl, xl, xl]]], [xn 1, xn 1, xn 2, .rows 1 [[xn 0], [xn 1], [xn 2]], xl, xl, xl, xl, .rows 7 [[xn 0, xn 2, xn 2, .rows 1 [[xn 0], [xn 1], [xn 2]], xl, .rows 2 [[xn 1, xn 1]], xl]]], [xn 2, xn 3, xn 2, .rows 1 [[xn 0], [xn 1], [xn 2]], xl, .rows 2 [[xn 1, xn 1]], .rows 2 [[xn 1, xn 1]], xl, .rows 7 [[xn 0, xn 2, xn 2, .rows 1 [[xn 0], [xn 1], [xn 2]], xl, .rows 2 [[xn 1, xn 1]], xl]]]]), .d (xn 0), .d (xn 0)]
def mt4 : AV := .agg [.d (.rows 9 [[xn 0, xn 2, xn 2, .rows 1 [[xn 0], [xn 1], [xn 2]], xl, .rows 2 [[xn 1, xn 1]], xl, xl, .rows 7 [[xn 1, xn 1, xn 2, .rows 1 [[xn 0], [xn 1], [xn 2]], xl, xl, xl]]], [xn 1, xn 1, xn 2, .rows 1 [[xn 0], [xn 1], [xn 2]], xl, xl, xl, xl, .rows 7 [[xn 0, xn 2, xn 2, .rows 1 [[xn 0], [xn 1], [xn 2]], xl, .rows 2 [[xn 1, xn 1]], xl]]], [xn 2, xn 3, xn 2, .rows 1 [[xn 0], [xn 1], [xn 2]], xl, .rows 2 [[xn 1, xn 1]], .rows 2 [[xn 1, xn 1]], xl, .rows 7 [[xn 0, xn 2, xn 2, .rows 1 [[xn 0], [xn 1], [xn 2]], xl, .rows 2 [[xn 1, xn 1]], xl], [xn 1, xn 1, xn 2, .rows 1 [[xn 0], [xn 1], [xn 2]], xl, xl, xl]]]]), .d (xn 0), .d (xn 0)]
def mt5 : AV := .agg [.d (.rows 9 [[xn 0, xn 3, xn 2, .rows 1 [[xn 0], [xn 1], [xn 2]], xl, .rows 2 [[xn 1, xn 1]], .rows 2 [[xn 1, xn 1]], .rows 2 [[xn 1, xn 1]], .rows 7 [[xn 1, xn 1, xn 2, .rows 1 [[xn 0], [xn 1], [xn 2]], xl, xl, xl], [xn 2, xn 3, xn 2, .rows 1 [[xn 0], [xn 1], [xn 2]], xl, .rows 2 [[xn 1, xn 1]], .rows 2 [[xn 1, xn 1]]]]], [xn 1, xn 1, xn 2, .rows 1 [[xn 0], [xn 1], [xn 2]], xl, xl, xl, xl, .rows 7 [[xn 0, xn 2, xn 2, .rows 1 [[xn 0], [xn 1], [xn 2]], xl, .rows 2 [[xn 1, xn 1]], xl]]], [xn 2, xn 3, xn 2, .rows 1 [[xn 0], [xn 1], [xn 2]], xl, .rows 2 [[xn 1, xn 1]], .rows 2 [[xn 1, xn 1]], xl, .rows 7 [[xn 0, xn 2, xn 2, .rows 1 [[xn 0], [xn 1], [xn 2]], xl, .rows 2 [[xn 1, xn 1]], xl], [xn 1, xn 1, xn 2, .rows 1 [[xn 0], [xn 1], [xn 2]], xl, xl, xl]]]]), .d (xn 0), .d (xn 0)]
def mt6 : AV := .agg [.d (.rows 9 [[xn 0, xn 3, xn 2, .rows 1 [[xn 0], [xn 1], [xn 2]], xl, .rows 2 [[xn 1, xn 1]], .rows 2 [[xn 1, xn 1]], .rows 2 [[xn 1, xn 1]], .rows 7 [[xn 1, xn 1, xn 2, .rows 1 [[xn 0], [xn 1], [xn 2]], xl, xl, xl], [xn 2, xn 3, xn 2, .rows 1 [[xn 0], [xn 1], [xn 2]], xl, .rows 2 [[xn 1, xn 1]], .rows 2 [[xn 1, xn 1]]]]], [xn 1, xn 1, xn 2, .rows 1 [[xn 0], [xn 1], [xn 2]], xl, xl, xl, xl, .rows 7 [[xn 0, xn 2, xn 2, .rows 1 [[xn 0], [xn 1], [xn 2]], xl, .rows 2 [[xn 1, xn 1]], xl], [xn 2, xn 3, xn 2, .rows 1 [[xn 0], [xn 1], [xn 2]], xl, .rows 2 [[xn 1, xn 1]], .rows 2 [[xn 1, xn 1]]]]], [xn 2, xn 3, xn 2, .rows 1 [[xn 0], [xn 1], [xn 2]], xl, .rows 2 [[xn 1, xn 1]], .rows 2 [[xn 1, xn 1]], xl, .rows 7 [[xn 0, xn 2, xn 2, .rows 1 [[xn 0], [xn 1], [xn 2]], xl, .rows 2 [[xn 1, xn 1]], xl], [xn 1, xn 1, xn 2, .rows 1 [[xn 0], [xn 1], [xn 2]], xl, xl, xl]]]]), .d (xn 0), .d (xn 0)]
def mt7 : AV := .agg [.d (.rows 9 [[xn 0, xn 3, xn 2, .rows 1 [[xn 0], [xn 1], [xn 2]], xl, .rows 2 [[xn 1, xn 1]], .rows 2 [[xn 1, xn 1]], .rows 2 [[xn 1, xn 1]], .rows 7 [[xn 1, xn 1, xn 2, .rows 1 [[xn 0], [xn 1], [xn 2]], xl, xl, xl], [xn 2, xn 3, xn 2, .rows 1 [[xn 0], [xn 1], [xn 2]], xl, .rows 2 [[xn 1, xn 1]], .rows 2 [[xn 1, xn 1]]]]], [xn 1, xn 2, xn 2, .rows 1 [[xn 0], [xn 1], [xn 2]], xl, xl, .rows 2 [[xn 1, xn 1]], .rows 2 [[xn 1, xn 1]], .rows 7 [[xn 0, xn 3, xn 2, .rows 1 [[xn 0], [xn 1], [xn 2]], xl, .rows 2 [[xn 1, xn 1]], .rows 2 [[xn 1, xn 1]]], [xn 2, xn 3, xn 2, .rows 1 [[xn 0], [xn 1], [xn 2]], xl, .rows 2 [[xn 1, xn 1]], .rows 2 [[xn 1, xn 1]]]]], [xn 2, xn 3, xn 2, .rows 1 [[xn 0], [xn 1], [xn 2]], xl, .rows 2 [[xn 1, xn 1]], .rows 2 [[xn 1, xn 1]], xl, .rows 7 [[xn 0, xn 2, xn 2, .rows 1 [[xn 0], [xn 1], [xn 2]], xl, .rows 2 [[xn 1, xn 1]], xl], [xn 1, xn 1, xn 2, .rows 1 [[xn 0], [xn 1], [xn 2]], xl, xl, xl]]]]), .d (xn 0), .d (xn 0)]
def mt8 : AV := .agg [.d (.rows 9 [[xn 0, xn 3, xn 2, .rows 1 [[xn 0], [xn 1], [xn 2]], xl, .rows 2 [[xn 1, xn 1]], .rows 2 [[xn 1, xn 1]], .rows 2 [[xn 1, xn 1]], .rows 7 [[xn 1, xn 1, xn 2, .rows 1 [[xn 0], [xn 1], [xn 2]], xl, xl, xl], [xn 2, xn 3, xn 2, .rows 1 [[xn 0], [xn 1], [xn 2]], xl, .rows 2 [[xn 1, xn 1]], .rows 2 [[xn 1, xn 1]]]]], [xn 1, xn 2, xn 2, .rows 1 [[xn 0], [xn 1], [xn 2]], xl, xl, .rows 2 [[xn 1, xn 1]], .rows 2 [[xn 1, xn 1]], .rows 7 [[xn 0, xn 3, xn 2, .rows 1 [[xn 0], [xn 1], [xn 2]], xl, .rows 2 [[xn 1, xn 1]], .rows 2 [[xn 1, xn 1]]], [xn 2, xn 3, xn 2, .rows 1 [[xn 0], [xn 1], [xn 2]], xl, .rows 2 [[xn 1, xn 1]], .rows 2 [[xn 1, xn 1]]]]], [xn 2, xn 3, xn 2, .rows 1 [[xn 0], [xn 1], [xn 2]], xl, .rows 2 [[xn 1, xn 1]], .rows 2 [[xn 1, xn 1]], .rows 2 [[xn 1, xn 1]], .rows 7 [[xn 0, xn 3, xn 2, .rows 1 [[xn 0], [xn 1], [xn 2]], xl, .rows 2 [[xn 1, xn 1]], .rows 2 [[xn 1, xn 1]]], [xn 1, xn 1, xn 2, .rows 1 [[xn 0], [xn 1], [xn 2]], xl, xl, xl]]]]), .d (xn 0), .d (xn 0)]
def mt9 : AV := .agg [.d (.rows 9 [[xn 0, xn 3, xn 2, .rows 1 [[xn 0], [xn 1], [xn 2]], xl, .rows 2 [[xn 1, xn 1]], .rows 2 [[xn 1, xn 1]], .rows 2 [[xn 1, xn 1]], .rows 7 [[xn 1, xn 2, xn 2, .rows 1 [[xn 0], [xn 1], [xn 2]], xl, xl, .rows 2 [[xn 1, xn 1]]], [xn 2, xn 3, xn 2, .rows 1 [[xn 0], [xn 1], [xn 2]], xl, .rows 2 [[xn 1, xn 1]], .rows 2 [[xn 1, xn 1]]]]], [xn 1, xn 2, xn 2, .rows 1 [[xn 0], [xn 1], [xn 2]], xl, xl, .rows 2 [[xn 1, xn 1]], .rows 2 [[xn 1, xn 1]], .rows 7 [[xn 0, xn 3, xn 2, .rows 1 [[xn 0], [xn 1], [xn 2]], xl, .rows 2 [[xn 1, xn 1]], .rows 2 [[xn 1, xn 1]]], [xn 2, xn 3, xn 2, .rows 1 [[xn 0], [xn 1], [xn 2]], xl, .rows 2 [[xn 1, xn 1]], .rows 2 [[xn 1, xn 1]]]]], [xn 2, xn 3, xn 2, .rows 1 [[xn 0], [xn 1], [xn 2]], xl, .rows 2 [[xn 1, xn 1]], .rows 2 [[xn 1, xn 1]], .rows 2 [[xn 1, xn 1]], .rows 7 [[xn 0, xn 3, xn 2, .rows 1 [[xn 0], [xn 1], [xn 2]], xl, .rows 2 [[xn 1, xn 1]], .rows 2 [[xn 1, xn 1]]], [xn 1, xn 1, xn 2, .rows 1 [[xn 0], [xn 1], [xn 2]], xl, xl, xl]]]]), .d (xn 0), .d (xn 0)]
def mt10 : AV := .agg [.d (.rows 9 [[xn 0, xn 3, xn 2, .rows 1 [[xn 0], [xn 1], [xn 2]], xl, .rows 2 [[xn 1, xn 1]], .rows 2 [[xn 1, xn 1]], .rows 2 [[xn 1, xn 1]], .rows 7 [[xn 1, xn 2, xn 2, .rows 1 [[xn 0], [xn 1], [xn 2]], xl, xl, .rows 2 [[xn 1, xn 1]]], [xn 2, xn 3, xn 2, .rows 1 [[xn 0], [xn 1], [xn 2]], xl, .rows 2 [[xn 1, xn 1]], .rows 2 [[xn 1, xn 1]]]]], [xn 1, xn 2, xn 2, .rows 1 [[xn 0], [xn 1], [xn 2]], xl, xl, .rows 2 [[xn 1, xn 1]], .rows 2 [[xn 1, xn 1]], .rows 7 [[xn 0, xn 3, xn 2, .rows 1 [[xn 0], [xn 1], [xn 2]], xl, .rows 2 [[xn 1, xn 1]], .rows 2 [[xn 1, xn 1]]], [xn 2, xn 3, xn 2, .rows 1 [[xn 0], [xn 1], [xn 2]], xl, .rows 2 [[xn 1, xn 1]], .rows 2 [[xn 1, xn 1]]]]], [xn 2, xn 3, xn 2, .rows 1 [[xn 0], [xn 1], [xn 2]], xl, .rows 2 [[xn 1, xn 1]], .rows 2 [[xn 1, xn 1]], .rows 2 [[xn 1, xn 1]], .rows 7 [[xn 0, xn 3, xn 2, .rows 1 [[xn 0], [xn 1], [xn 2]], xl, .rows 2 [[xn 1, xn 1]], .rows 2 [[xn 1, xn 1]]], [xn 1, xn 2, xn 2, .rows 1 [[xn 0], [xn 1], [xn 2]], xl, xl, .rows 2 [[xn 1, xn 1]]]]]]), .d (xn 0), .d (xn 0)]
end Go.Proofs.YtdhogcklnehdhaaGreatDoor
/- Contract: claims that are consistent, at any list: a map of the call's own. -/
namespace Go.Proofs.YtdhogcklnehdhaaGreatDoor
set_option linter.unusedSimpArgs false
set_option linter.unusedVariables false
set_option linter.unnecessarySimpa false
set_option linter.unusedSectionVars false
set_option maxRecDepth 100000
open Go Go.RowKit Go.Am Go.Proofs.Grow Go.Shelf Go.Maps
/-- What the map holds behind the first k claims. -/
structure InvD (l : List Cl) (k : Nat) (D : DataW Unit) : Prop where
  map : IsMap D
  has : ∀ t : Int, Maps.has D (.int .i64 t) = true → ∃ j, j < k ∧ (nth l j).1 = t
  at' : ∀ j, j < k → Maps.has D (.int .i64 (nth l j).1) = true ∧ D.atKey (.int .i64 (nth l j).1) (.lit (.int .i64 0)) = .lit (.int .i64 (nth l j).2)
theorem InvD.step {l : List Cl} {k : Nat} {D : DataW Unit} (h : InvD l k D) (hs : Maps.has D (.int .i64 (nth l k).1) = true → D.atKey (.int .i64 (nth l k).1) (.lit (.int .i64 0)) = .lit (.int .i64 (nth l k).2)) :
    InvD l (k + 1) (D.put (.int .i64 (nth l k).1) (.lit (.int .i64 (nth l k).2))) := by
  refine ⟨h.map.put _ _, fun t ht => ?_, fun j hj => ?_⟩
  · rcases Classical.em (t = (nth l k).1) with e | e
    · exact ⟨k, by omega, e.symm⟩
    · rw [has_put_other (by simpa using e)] at ht
      obtain ⟨j, h1, h2⟩ := h.has t ht
      exact ⟨j, by omega, h2⟩
  · rcases Classical.em ((nth l j).1 = (nth l k).1) with e | e
    · rw [e, has_put_same h.map (k := .int .i64 (nth l k).1) trivial, atKey_put_same h.map (k := .int .i64 (nth l k).1) trivial]
      refine ⟨rfl, ?_⟩
      rcases Nat.lt_or_ge j k with hjk | hjk
      · obtain ⟨a1, a2⟩ := h.at' j hjk
        rw [e] at a1 a2
        exact (hs a1).symm.trans a2
      · obtain rfl : j = k := by omega
        rfl
    · have hjk : j < k := by
        rcases Nat.lt_or_ge j k with hjk | hjk
        · exact hjk
        · obtain rfl : j = k := by omega
          exact absurd rfl e
      rw [has_put_other (by simpa using e), atKey_put_other (by simpa using e)]
      exact h.at' j hjk
theorem InvD.end' {l : List Cl} {D : DataW Unit} (h : InvD l l.length D) : consC l = true := by
  rw [cons_iff]
  intro x hx y hy
  obtain ⟨i, hi, rfl⟩ := List.getElem_of_mem hx
  obtain ⟨j, hj, rfl⟩ := List.getElem_of_mem hy
  rw [← nth_getElem l i hi, ← nth_getElem l j hj]
  have a := h.at' i hi
  have b := h.at' j hj
  cases e : ctrC (nth l i) (nth l j)
  · rfl
  · simp only [ctrC, Bool.and_eq_true, decide_eq_true_eq] at e
    rw [e.1] at a
    have := a.2.symm.trans b.2
    simp at this
    exact absurd this e.2
set_option maxRecDepth 100000 in
set_option maxHeartbeats 4000000 in
theorem cons_any (l : List Cl) (hl : l.length ≤ 4000) (ho : ∀ x ∈ l, okC x = true) (b off cap : Nat) (w : World) (hb : b < w.heap.size)
    (hc : ∀ j, j < l.length → w.cell? ⟨b, off + j * 2, none⟩ = some (.int .i64 (nth l j).1) ∧ w.cell? ⟨b, off + j * 2 + 1, none⟩ = some (.int .i64 (nth l j).2)) :
    Calls Tryz.prog 110 #[.slice (some ⟨b, off, none⟩) l.length cap] w fun e w' => e = .returned (.bool (consC l)) ∧ Below w.heap.size w w' := by
  have hmm := @run_makeMap Tryz.prog
  go_enter Tryz.func110, Tryz.ntmps110
  go_wp2
  go_loopw [11] (fun i wr => ∃ k : Nat, k ≤ l.length ∧ i = .int .i64 k ∧ ∃ D : DataW Unit, wr.ownsMap Tryz.prog 3 (plainElem Tryz.prog 3) w.heap.size k D ∧ Below w.heap.size w wr ∧ Hid (InvD l k D))
    (fun i _ => l.length - (intOf i).toNat)
  case atStart => exact ⟨0, Nat.zero_le _, rfl, _, World.ownsMap_made _ _ _ _, (Below.refl _ _).alloc (Nat.le_refl _) _, Lib.hid ⟨isMap_empty, fun t ht => (by cases ht), fun j hj => (by omega)⟩⟩
  case round =>
    obtain ⟨k, hk, rfl, D, hown, hnx, hI⟩ := hrel
    rcases Nat.lt_or_ge k l.length with hlt | hge
    · have h0 : wr.cell? ⟨b, off + k * 2, none⟩ = some (.int .i64 (nth l k).1) := (hnx.cell (by exact hb)).trans (hc k hlt).1
      have h1 : wr.cell? ⟨b, off + k * 2 + 1, none⟩ = some (.int .i64 (nth l k).2) := (hnx.cell (by exact hb)).trans (hc k hlt).2
      have hok := ho _ (nth_mem l k hlt)
      simp only [okC, Bool.and_eq_true, decide_eq_true_eq] at hok
      have m1 : IntKind.i64.min = -9223372036854775808 := by decide
      have m2 : IntKind.i64.max = 9223372036854775807 := by decide
      have hw1 : (Lit.int .i64 (nth l k).1).wf = true := by simp [Lit.wf, m1, m2]; omega
      have hw2 : (Lit.int .i64 (nth l k).2).wf = true := by simp [Lit.wf, m1, m2]; omega
      have hkey : keyOf Tryz.prog 3 (.int .i64 (nth l k).1) = some (.int .i64 (nth l k).1) := keyOf_int_mk Tryz.underlying3 hw1
      have hsz := hnx.size
      have d1 : decide ((k : Int) < (l.length : Int)) = true := by simp; omega
      cases hh : Maps.has D (.int .i64 (nth l k).1) with
      | false =>
        have hI2 := Lib.hid (hI.out.step (fun e => by rw [hh] at e; cases e))
        clear hI
        go_wp2_with (first
          | (at_lookup; refine wpList_lookup_own_ok_int _ rfl _ _ 185 rfl 3 3 .i64 kint Tryz.underlying185 Tryz.underlying3 (zint _) w.heap.size k _ rfl (hown.alloc _) _ _ rfl hkey ?_; intro c hat hwc)
          | (at_mapUpdate; refine wpList_mapUpdate_own _ rfl _ _ _ 185 rfl 3 3 kint Tryz.underlying185 _ w.heap.size k _ rfl (hown.alloc _) (by unfold maxLen; omega) _ _ _ rfl rfl hkey _ [] (plainElem_int Tryz.underlying3 hw2) ?_; intro w1 hown1 hgrow1)
          | go_in)
        go_roundw
        case rel => exact ⟨k + 1, by omega, by go_num, _, hown1, (hnx.alloc (by omega) _).grown hgrow1 (by simp; omega) (fun j hj => by cases hj; exact Nat.le_refl _), hI2⟩
        case measure => simp [intOf]; omega
      | true =>
        obtain ⟨j, hj, hjt⟩ := hI.out.has _ hh
        have hat0 := (hI.out.at' j hj).2
        rw [hjt] at hat0
        cases hne : ((nth l j).2 != (nth l k).2) with
        | true =>
          have hcf : consC l = false := by
            cases e : consC l
            · rfl
            · have := cons_iff.1 e _ (nth_mem l j (by omega)) _ (nth_mem l k hlt)
              simp only [ctrC, Bool.and_eq_false_iff, decide_eq_false_iff_not] at this
              simp at hne
              exact absurd this (by simp [hjt, hne])
          clear hI
          go_wp2_with (first
            | (at_lookup; refine wpList_lookup_own_ok_int _ rfl _ _ 185 rfl 3 3 .i64 kint Tryz.underlying185 Tryz.underlying3 (zint _) w.heap.size k _ rfl (hown.alloc _) _ _ rfl hkey ?_; intro c hat hwc; rw [hh]; obtain rfl : (nth l j).2 = c := by have := hat0.symm.trans hat; simpa using this)
            | go_in)
          go_ret
          exact ⟨by rw [hcf]; rfl, hnx.alloc (by omega) _⟩
        | false =>
          have hI2 := Lib.hid (hI.out.step (fun _ => by simp at hne; rw [← hne]; exact hat0))
          clear hI
          go_wp2_with (first
            | (at_lookup; refine wpList_lookup_own_ok_int _ rfl _ _ 185 rfl 3 3 .i64 kint Tryz.underlying185 Tryz.underlying3 (zint _) w.heap.size k _ rfl (hown.alloc _) _ _ rfl hkey ?_; intro c hat hwc; rw [hh]; obtain rfl : (nth l j).2 = c := by have := hat0.symm.trans hat; simpa using this)
            | (at_mapUpdate; refine wpList_mapUpdate_own _ rfl _ _ _ 185 rfl 3 3 kint Tryz.underlying185 _ w.heap.size k _ rfl (hown.alloc _) (by unfold maxLen; omega) _ _ _ rfl rfl hkey _ [] (plainElem_int Tryz.underlying3 hw2) ?_; intro w1 hown1 hgrow1)
            | go_in)
          go_roundw
          case rel => exact ⟨k + 1, by omega, by go_num, _, hown1, (hnx.alloc (by omega) _).grown hgrow1 (by simp; omega) (fun j hj => by cases hj; exact Nat.le_refl _), hI2⟩
          case measure => simp [intOf]; omega
    · have he : consC l = true := by
        obtain rfl : k = l.length := by omega
        exact hI.out.end'
      have d1 : decide ((k : Int) < (l.length : Int)) = false := by simp; omega
      go_wp2
      go_ret
      exact ⟨by rw [he]; rfl, hnx⟩
theorem vd_v' {H : Nat → Prop} {w : World} {c x : Value} (h : VD H w (D.v c) x) : x = c := by
  cases h; rfl
theorem consC_m (l : List Cl) (hl : l.length ≤ 4000) (ho : ∀ x ∈ l, okC x = true) : FnM Tryz.prog 110 [] [lC l] (vB (consC l)) [] := fnm_pure fun H μ w vs hv => by
  match vs, hv.1 with
  | [v], _ =>
    have h0 := hv.2 0 _ _ rfl rfl
    have h0' : VR H μ w (.d (.rows 2 (l.map rC))) v := h0
    cases h0' with
    | d h =>
      generalize hR : l.map rC = R at h
      cases h with
      | nil sz a cap hc =>
        have hl0 : l = [] := by simpa using hR
        subst hl0
        exact cons_none a cap w
      | rows sz rs b off cap vs hne hcap hlen hb hlt hsz hcell hone hval =>
        subst hR
        rw [List.length_map]
        refine cons_any l hl ho b off cap w hlt fun j hj => ?_
        have hr : (l.map rC)[j]? = some (rC (nth l j)) := by rw [List.getElem?_map, List.getElem?_eq_getElem hj, nth_getElem l j hj]; rfl
        have a0 := hcell j _ 0 _ hr rfl
        have a1 := hcell j _ 1 _ hr rfl
        have b0 := hval j _ 0 _ hr rfl
        have b1 := hval j _ 1 _ hr rfl
        rw [vd_v' b0] at a0
        rw [vd_v' b1] at a1
        exact ⟨a0, a1⟩
end Go.Proofs.YtdhogcklnehdhaaGreatDoor
/- Contracts: lists of claims: copied, put together, sorted. -/
namespace Go.Proofs.YtdhogcklnehdhaaGreatDoor
set_option linter.unusedSimpArgs false
set_option linter.unusedVariables false
set_option linter.unnecessarySimpa false
set_option linter.unusedSectionVars false
set_option maxRecDepth 100000
open Go Go.RowKit Go.Am Go.Proofs.Grow
abbrev rCs (l : List Cl) : List D := [.rows 2 (l.map rC)]
theorem growCZ_w (w : World) : Calls Tryz.prog 260 #[.slice none 0 0, .int .i64 0] w fun e w' => e = .returned (.slice none 0 0) ∧ w = w' := by
  go_enter Tryz.func260, Tryz.ntmps260
  go_wp2
  go_ret
  exact ⟨rfl, rfl⟩
theorem growCZ_m : FnM Tryz.prog 260 [] [.d (.v (.slice none 0 0)), vI 0] (.d (.v (.slice none 0 0))) [] := FnM.wrap' rfl rfl fun w => growCZ_w w
def preC (a b : List Cl) : Nat → List (List D)
  | 0 => []
  | 1 => a.map rC
  | _ => (a ++ b).map rC
def szC (a b : List Cl) : Nat → Int
  | 0 => 0
  | 1 => (a.length : Int)
  | _ => (a.length : Int) + (b.length : Int)
set_option maxHeartbeats 2000000 in
theorem concC_m (a b : List Cl) (hl : a.length ≤ 400 ∧ b.length ≤ 400) : FnM Tryz.prog 234 [] [.d (.rows 1 ([a, b].map rCs))] (.own 8) [(8, .arr 86 2 ((a ++ b).map rC))] := by
  refine FnM.of htb Tryz.func234 rfl rfl rfl rfl rfl fun cx hN h0 => ?_
  have hn3 : [a, b].length = 2 := rfl
  have n0 : (nth [a, b] 0).length = a.length := rfl
  have n1 : (nth [a, b] 1).length = b.length := rfl
  have pl0 : (preC a b 0).length = 0 := rfl
  have pl1 : (preC a b 1).length = a.length := by simp [preC]
  have z01 : szC a b (0 + 1) = (a.length : Int) := rfl
  have z12 : szC a b (1 + 1) = (a.length : Int) + (b.length : Int) := rfl
  have z0 : szC a b 0 = 0 := rfl
  have z1 : szC a b 1 = (a.length : Int) := rfl
  have z2 : szC a b 2 = (a.length : Int) + (b.length : Int) := rfl
  (repeat' (first | ((with_reducible apply WD_id); first | (refine WD_sum ?_) | (refine WD_nxt htb (by exact rfl) ?_) | (refine WD_idx htb ?_) | (refine WD_ap htb ?_)) | (refine ct ?_) | (with_reducible apply WA_block)))
  (refine WA_forV (2) [11, 3] [] (fun k => [(11, vI k), (3, vI (szC a b k))]) (fun k => []) (fun k => True) ?h0 ?_)
  case h0 => trivial
  intro k hk _
  obtain rfl | rfl | rfl : k = 0 ∨ k = 1 ∨ k = 2 := by omega
  · have t1 : decide (((0 : Nat) : Int) < 2) = true := by decide
    have t2 : decide (szC a b 0 + ((nth [a, b] 0).length : Int) < 0) = false := by simp only [decide_eq_false_iff_not]; omega
    (repeat' (first | ((with_reducible apply WD_id); first | (refine WD_sum ?_) | (refine WD_nxt htb (by exact rfl) ?_) | (refine WD_idx htb ?_) | (refine WD_ap htb ?_)) | (refine ct ?_) | (with_reducible apply WA_block)))
    refine ⟨by omega, trivial, ?_⟩
    (exact LeV [])
  · have t1 : decide (((1 : Nat) : Int) < 2) = true := by decide
    have t2 : decide (szC a b 1 + ((nth [a, b] 1).length : Int) < 0) = false := by simp only [decide_eq_false_iff_not]; omega
    (repeat' (first | ((with_reducible apply WD_id); first | (refine WD_sum ?_) | (refine WD_nxt htb (by exact rfl) ?_) | (refine WD_idx htb ?_) | (refine WD_ap htb ?_)) | (refine ct ?_) | (with_reducible apply WA_block)))
    refine ⟨by omega, trivial, ?_⟩
    (exact LeV [])
  · have t1 : decide (((2 : Nat) : Int) < 2) = false := by decide
    rcases Nat.lt_or_ge 0 (a.length + b.length) with h0' | h0'
    · have grwCN_m := grow_pm 24 (a.length + b.length) h0' (by omega)
      rw [show (((a.length + b.length : Nat) : Int)) = szC a b 2 by rw [z2]; omega] at grwCN_m
      (repeat' (first | ((with_reducible apply WD_id); first | (refine WD_sum ?_) | (refine WD_nxt htb (by exact rfl) ?_) | (refine WD_call (by exact rfl) ?_; first | (refine WD_cM (grwCN_m) ?_)) | (refine WD_idx htb ?_) | (refine WD_ap htb ?_)) | (refine ct ?_) | (with_reducible apply WA_block)))
      (refine WA_forV (2) [27, 6, 24] [24] (fun k => [(27, vI k), (6, .own 24)]) (fun k => [(24, .arr 86 2 (preC a b k))]) (fun k => True) ?h0 ?_)
      case h0 => trivial
      intro k hk2 _
      obtain rfl | rfl | rfl : k = 0 ∨ k = 1 ∨ k = 2 := by omega
      · have t3 : decide (((0 : Nat) : Int) < 2) = true := by decide
        (repeat' (first | ((with_reducible apply WD_id); first | (refine WD_sum ?_) | (refine WD_nxt htb (by exact rfl) ?_) | (refine WD_idx htb ?_) | (refine WD_ap htb ?_)) | (refine ct ?_) | (with_reducible apply WA_block)))
        refine ⟨by omega, trivial, ?_⟩
        (exact LeV [(24, 33)])
      · have t3 : decide (((1 : Nat) : Int) < 2) = true := by decide
        (repeat' (first | ((with_reducible apply WD_id); first | (refine WD_sum ?_) | (refine WD_nxt htb (by exact rfl) ?_) | (refine WD_idx htb ?_) | (refine WD_ap htb ?_)) | (refine ct ?_) | (with_reducible apply WA_block)))
        refine ⟨by omega, trivial, ?_⟩
        rw [show preC a b (1 + 1) = a.map rC ++ b.map rC from List.map_append]
        (exact LeV [(24, 33)])
      · (repeat' (first | ((with_reducible apply WD_id); first | (refine WD_sum ?_) | (refine WD_nxt htb (by exact rfl) ?_) | (refine WD_idx htb ?_) | (refine WD_ap htb ?_)) | (refine ct ?_) | (with_reducible apply WA_block)))
        refine gL (.inr rfl) (T' := [(2, .own 8)]) (M' := [(8, .arr 86 2 ((a ++ b).map rC))]) ?_ rfl rfl ⟨rfl, trivial⟩
        (exact LeV [(8, 24)])
    · have grwCZ_m := growCZ_m
      rw [show (0 : Int) = szC a b 2 by rw [z2]; omega] at grwCZ_m
      (repeat' (first | ((with_reducible apply WD_id); first | (refine WD_sum ?_) | (refine WD_nxt htb (by exact rfl) ?_) | (refine WD_call (by exact rfl) ?_; first | (refine WD_c0 (grwCZ_m) ?_)) | (refine WD_idx htb ?_) | (refine WD_ap htb ?_)) | (refine ct ?_) | (with_reducible apply WA_block)))
      refine WA_le (Le_nilT 24 6 86 2 rfl rfl) ?_
      (refine WA_forV (2) [27, 6, 24] [24] (fun k => [(27, vI k), (6, .own 24)]) (fun k => [(24, .arr 86 2 (preC a b k))]) (fun k => True) ?h0 ?_)
      case h0 => trivial
      intro k hk2 _
      obtain rfl | rfl | rfl : k = 0 ∨ k = 1 ∨ k = 2 := by omega
      · have t3 : decide (((0 : Nat) : Int) < 2) = true := by decide
        (repeat' (first | ((with_reducible apply WD_id); first | (refine WD_sum ?_) | (refine WD_nxt htb (by exact rfl) ?_) | (refine WD_idx htb ?_) | (refine WD_ap htb ?_)) | (refine ct ?_) | (with_reducible apply WA_block)))
        refine ⟨by omega, trivial, ?_⟩
        (exact LeV [(24, 33)])
      · have t3 : decide (((1 : Nat) : Int) < 2) = true := by decide
        (repeat' (first | ((with_reducible apply WD_id); first | (refine WD_sum ?_) | (refine WD_nxt htb (by exact rfl) ?_) | (refine WD_idx htb ?_) | (refine WD_ap htb ?_)) | (refine ct ?_) | (with_reducible apply WA_block)))
        refine ⟨by omega, trivial, ?_⟩
        rw [show preC a b (1 + 1) = a.map rC ++ b.map rC from List.map_append]
        (exact LeV [(24, 33)])
      · (repeat' (first | ((with_reducible apply WD_id); first | (refine WD_sum ?_) | (refine WD_nxt htb (by exact rfl) ?_) | (refine WD_idx htb ?_) | (refine WD_ap htb ?_)) | (refine ct ?_) | (with_reducible apply WA_block)))
        refine gL (.inr rfl) (T' := [(2, .own 8)]) (M' := [(8, .arr 86 2 ((a ++ b).map rC))]) ?_ rfl rfl ⟨rfl, trivial⟩
        (exact LeV [(8, 24)])
theorem cloC_m (l : List Cl) (hl : l.length ≤ 4000) : FnM Tryz.prog 91 [] [lC l] (lC l) [] := by
  cases l with
  | nil =>
    refine FnM.nil_cases 0 rfl ?_ fun ad cap => ?_
    all_goals
      refine FnM.of htb Tryz.func91 rfl rfl rfl rfl rfl fun cx hN h0 => ?_
      (repeat' (first | ((with_reducible apply WD_id); first | (refine WD_nxt htb (by exact rfl) ?_) | (refine WD_ap htb ?_) | (refine WD_nil htb ?_) | (refine WD_nilr htb ?_)) | (refine ct ?_) | (with_reducible apply WA_block)))
      (exact glV [(2, lC [])] [] (LeV []))
  | cons x r =>
    refine FnM.of htb Tryz.func91 rfl rfl rfl rfl rfl fun cx hN h0 => ?_
    (repeat' (first | ((with_reducible apply WD_id); first | (refine WD_nxt htb (by exact rfl) ?_) | (refine WD_ap htb ?_) | (refine WD_nil htb ?_) | (refine WD_nilr htb ?_)) | (refine ct ?_) | (with_reducible apply WA_block)))
    (exact glV [(2, lC (x :: r))] [] (LeV []))
theorem cloCO_m (l : List Cl) (hl : l.length ≤ 4000) : FnM Tryz.prog 91 [] [lC l] (.own 7) [(7, .arr 86 2 (l.map rC))] := by
  cases l with
  | nil =>
    refine FnM.nil_cases 0 rfl ?_ fun ad cap => ?_
    all_goals
      refine FnM.of htb Tryz.func91 rfl rfl rfl rfl rfl fun cx hN h0 => ?_
      (repeat' (first | ((with_reducible apply WD_id); first | (refine WD_nxt htb (by exact rfl) ?_) | (refine WD_ap htb ?_) | (refine WD_nil htb ?_) | (refine WD_nilr htb ?_)) | (refine ct ?_) | (with_reducible apply WA_block)))
    · exact gL (.inr rfl) (Le_nilT 7 2 86 2 rfl rfl) rfl rfl ⟨rfl, trivial⟩
    · refine gL (.inr rfl) (T' := [(2, .own 7)]) (M' := [(7, .arr 86 2 [])]) ?_ rfl rfl ⟨rfl, trivial⟩
      (exact LeV [])
  | cons x r =>
    refine FnM.of htb Tryz.func91 rfl rfl rfl rfl rfl fun cx hN h0 => ?_
    (repeat' (first | ((with_reducible apply WD_id); first | (refine WD_nxt htb (by exact rfl) ?_) | (refine WD_ap htb ?_) | (refine WD_nil htb ?_) | (refine WD_nilr htb ?_)) | (refine ct ?_) | (with_reducible apply WA_block)))
    refine gL (.inr rfl) (T' := [(2, .own 7)]) (M' := [(7, .arr 86 2 ((x :: r).map rC))]) ?_ rfl rfl ⟨rfl, trivial⟩
    (exact LeV [])
theorem srt1_m (x : Cl) : FnM Tryz.prog 257 [] [aC x] (vB (!okC x)) [] := by
  refine FnM.of htb Tryz.func257 rfl rfl rfl rfl rfl fun cx hN h0 => ?_
  (repeat' (first | ((with_reducible apply WD_id); first | (refine WD_nxt htb (by exact rfl) ?_) | (refine WD_call (by exact rfl) ?_; first | (refine WD_c0 (okC_m _) ?_))) | (refine ct ?_) | (with_reducible apply WA_block)))
  exact gE (.inr rfl) rfl rfl trivial
theorem ix1C_m (l : List Cl) (hl : l.length ≤ 4000) (ho : ∀ x ∈ l, okC x = true) : FnM Tryz.prog 166 [(7, .arr 86 2 (l.map rC))] [.own 7, .clo 257 []] (vI (-1)) [(7, .arr 86 2 (l.map rC))] := by
  refine FnM.of htb Tryz.func166 rfl rfl rfl rfl rfl fun cx hN h0 => ?_
  (repeat' (first | ((with_reducible apply WD_id); first | (refine WD_sum ?_) | (refine WD_nxt htb (by exact rfl) ?_) | (refine WD_idxo htb ?_) | (refine WD_lde htb ?_)) | (refine ct ?_) | (with_reducible apply WA_block)))
  (refine WA_forV (l.length) [8] [] (fun k => [(8, vI k)]) (fun k => []) (fun k => True) ?h0 ?_)
  case h0 => trivial
  intro k hk _
  rcases Nat.lt_or_ge k l.length with hk' | hk'
  · have t1 : decide ((k : Int) < (l.length : Int)) = true := by simp; omega
    have t2 : (!okC (nth l k)) = false := by rw [ho _ (nth_mem l k hk')]; rfl
    (repeat' (first | ((with_reducible apply WD_id); first | (refine WD_sum ?_) | (refine WD_nxt htb (by exact rfl) ?_) | (refine WD_call (by exact rfl) ?_; first | (refine WD_c0 (srt1_m (x := nth l k)) ?_)) | (refine WD_idxo htb ?_) | (refine WD_lde htb ?_)) | (refine ct ?_) | (with_reducible apply WA_block)))
    refine ⟨hk', trivial, ?_⟩
    (exact LeV [])
  · have t1 : decide ((k : Int) < (l.length : Int)) = false := by simp; omega
    (repeat' (first | ((with_reducible apply WD_id); first | (refine WD_sum ?_) | (refine WD_nxt htb (by exact rfl) ?_) | (refine WD_idxo htb ?_) | (refine WD_lde htb ?_)) | (refine ct ?_) | (with_reducible apply WA_block)))
    exact gE (.inr rfl) rfl rfl ⟨rfl, trivial⟩
theorem delC_pm (l : List Cl) (hl : l.length ≤ 4000) (ho : ∀ x ∈ l, okC x = true) : FnM Tryz.prog 256 [(7, .arr 86 2 (l.map rC))] [.own 7, .clo 257 []] (.own 7) [(7, .arr 86 2 (l.map rC))] := by
  refine FnM.of htb Tryz.func256 rfl rfl rfl rfl rfl fun cx hN h0 => ?_
  (repeat' (first | ((with_reducible apply WD_id); first | (refine WD_nxt htb (by exact rfl) ?_) | (refine WD_call (by exact rfl) ?_; first | (refine WD_cM (ix1C_m _ ?_ ?_) ?_; (exact hyp); (exact hyp)))) | (refine ct ?_) | (with_reducible apply WA_block)))
  exact gE (.inr rfl) rfl rfl ⟨rfl, trivial⟩
/-- What is sorted, without doubles. -/
theorem srtC_le (l : List Cl) : (srtC l).Pairwise fun x y => ltC y x = false := by
  have h := List.pairwise_mergeSort (le := fun x y => !ltC y x) (fun a b c h1 h2 => by
    simp only [Bool.not_eq_true'] at *
    cases e : ltC c a with
    | false => rfl
    | true =>
      cases f : ltC a b with
      | true => rw [ltC_tr e f] at h2; cases h2
      | false =>
        have := ltC_tri f h1
        subst this
        rw [e] at h2; cases h2) (fun a b => by
    cases e : ltC b a with
    | false => simp
    | true => simp [ltC_as e]) l
  exact h.imp fun h => by simpa using h
theorem ddM_spec {l : List Cl} (h : l.Pairwise fun x y => ltC y x = false) : ∀ n, n + 1 ≤ l.length → Asc (ddM l (n + 1)) ∧ (∀ x, x ∈ ddM l (n + 1) ↔ x ∈ l.take (n + 1)) ∧ ∀ x ∈ ddM l (n + 1), x = nth l n ∨ ltC x (nth l n) = true
  | 0, hn => by
    rw [show l.take 1 = [nth l 0] by rw [take_nxt (by omega)]; simp]
    exact ⟨by simp [Asc, ddM], by simp [ddM], by simp [ddM]⟩
  | n + 1, hn => by
    obtain ⟨h1, h2, h3⟩ := ddM_spec h n (by omega)
    have hle : ltC (nth l (n + 1)) (nth l n) = false := by
      rw [List.pairwise_iff_getElem] at h
      rw [nth_getElem l _ (by omega), nth_getElem l n (by omega)]
      exact h n (n + 1) (by omega) (by omega) (by omega)
    rw [take_nxt (show n + 1 < l.length by omega), ddM_next l (k := n + 1) (by omega)]
    rcases Classical.em (nth l (n + 1) = nth l n) with e | e
    · rw [if_pos (by simpa using e)]
      refine ⟨h1, fun x => ?_, fun x hx => ?_⟩
      · rw [h2, List.mem_append, List.mem_singleton, e]
        constructor
        · exact .inl
        · rintro (q | rfl)
          · exact q
          · rw [take_nxt (show n < l.length by omega)]; simp
      · rw [e]; exact h3 x hx
    · rw [if_neg (by simpa using e)]
      have hlt : ltC (nth l n) (nth l (n + 1)) = true := by
        cases q : ltC (nth l n) (nth l (n + 1)) with
        | true => rfl
        | false => exact absurd (ltC_tri hle q) e
      have hlt2 : ∀ x ∈ ddM l (n + 1), ltC x (nth l (n + 1)) = true := fun x hx => by
        rcases h3 x hx with rfl | q
        · exact hlt
        · exact ltC_tr q hlt
      refine ⟨?_, fun x => by rw [List.mem_append, List.mem_append, h2], fun x hx => ?_⟩
      · unfold Asc
        rw [List.pairwise_append]
        exact ⟨h1, by simp, fun a ha b hb => by obtain rfl := List.mem_singleton.1 hb; exact hlt2 a ha⟩
      · rcases List.mem_append.1 hx with q | q
        · exact .inr (hlt2 x q)
        · exact .inl (List.mem_singleton.1 q)
theorem dd_srt {l : List Cl} (ho : ∀ x ∈ l, okC x = true) : ddC (srtC l) = sortC l := by
  have hm : ∀ x, x ∈ srtC l ↔ x ∈ l := fun x => (List.mergeSort_perm l _).mem_iff
  rcases Nat.eq_zero_or_pos (srtC l).length with h0 | h0
  · have e : srtC l = [] := List.length_eq_zero_iff.1 h0
    have e2 : l = [] := List.length_eq_zero_iff.1 (by rw [← srtC_len]; exact h0)
    rw [e, e2]; rfl
  · obtain ⟨n, hn⟩ : ∃ n, (srtC l).length = n + 1 := ⟨(srtC l).length - 1, by omega⟩
    obtain ⟨h1, h2, _⟩ := ddM_spec (srtC_le l) n (by omega)
    unfold ddC
    rw [hn]
    refine asc_ext h1 (asc_sort l) fun x => ?_
    rw [h2, mem_sort, ← hn, List.take_length, hm]
    exact ⟨fun h => ⟨ho x h, h⟩, fun h => h.2⟩
theorem sortedCO_m (l : List Cl) (hl : l.length ≤ 4000) (ho : ∀ x ∈ l, okC x = true) : FnM Tryz.prog 231 [(8, .arr 86 2 (l.map rC))] [.own 8] (lC (sortC l)) [(8, .dead)] := by
  rw [← dd_srt ho]
  have hsl := srtC_len l
  refine FnM.of htb Tryz.func231 rfl rfl rfl rfl rfl fun cx hN h0 => ?_
  refine WA_le (s' := ⟨[(0, lC l)], [(8, .dead)]⟩) (Le.trans (Le_own 0 61 rfl rfl rfl) (LeV [])) ?_
  (repeat' (first | ((with_reducible apply WD_id); first | (refine WD_nxt htb (by exact rfl) ?_) | (refine WD_call (by exact rfl) ?_; first | (refine WD_cM (cloCO_m _ ?_) ?_; (exact hyp)) | (refine WD_cM (delC_pm (l := l) ?_ ?_) ?_; (exact hyp); (exact hyp)) | (refine WD_cM (sortC_pm (l := l) ?_) ?_; (exact hyp)) | (refine WD_cM (compC_pm (l := srtC l) ?_) ?_; (exact hyp)))) | (refine ct ?_) | (with_reducible apply WA_block)))
  refine gL (.inr rfl) (T' := [(2, lC (ddC (srtC l)))]) (M' := [(8, .dead)]) ?_ rfl rfl ⟨rfl, trivial⟩
  (exact LeV [])
theorem uniC_m (a b : List Cl) (hl : a.length ≤ 400 ∧ b.length ≤ 400) (ha : ∀ x ∈ a, okC x = true) (hb : ∀ x ∈ b, okC x = true) : FnM Tryz.prog 205 [] [lC a, lC b] (lC (sortC (a ++ b))) [] := by
  have ho : ∀ x ∈ a ++ b, okC x = true := fun x hx => by
    rcases List.mem_append.1 hx with h | h
    · exact ha x h
    · exact hb x h
  have hl2 : (a ++ b).length ≤ 4000 := by rw [List.length_append]; omega
  refine FnM.of htb Tryz.func205 rfl rfl rfl rfl rfl fun cx hN h0 => ?_
  (repeat' (first | ((with_reducible apply WD_id); first | (refine WD_nxt htb (by exact rfl) ?_) | (refine WD_call (by exact rfl) ?_; first | (refine WD_cM (concC_m (a := a) (b := b) ?_) ?_; (exact hyp)) | (refine WD_cM (sortedCO_m (l := a ++ b) ?_ ?_) ?_; (exact hyp); (exact hyp)))) | (refine ct ?_) | (with_reducible apply WA_block)))
  exact gE (.inr rfl) rfl rfl trivial
theorem putC_m (a : List Cl) (x : Cl) (hl : a.length ≤ 400) (ha : ∀ x ∈ a, okC x = true) (hx : okC x = true) : FnM Tryz.prog 171 [] [lC a, aC x] (lC (sortC (a ++ [x]))) [] := by
  have hb : ∀ y ∈ [x], okC y = true := fun y hy => by rw [List.mem_singleton.1 hy]; exact hx
  have hl2 : a.length ≤ 400 ∧ [x].length ≤ 400 := ⟨hl, by simp⟩
  refine FnM.of htb Tryz.func171 rfl rfl rfl rfl rfl fun cx hN h0 => ?_
  (repeat' (first | ((with_reducible apply WD_id); first | (refine WD_nxt htb (by exact rfl) ?_) | (refine WD_call (by exact rfl) ?_; first | (refine WD_c0 (uniC_m (a := a) (b := [x]) ?_ ?_ ?_) ?_; (exact hyp); (exact hyp); (exact hyp)))) | (refine ct ?_) | (with_reducible apply WA_block)))
  exact gE (.inr rfl) rfl rfl trivial
end Go.Proofs.YtdhogcklnehdhaaGreatDoor
/- Contracts: messages, and what a node sees. -/
namespace Go.Proofs.YtdhogcklnehdhaaGreatDoor
set_option linter.unusedSimpArgs false
set_option linter.unusedVariables false
set_option linter.unnecessarySimpa false
set_option linter.unusedSectionVars false
set_option maxRecDepth 100000
open Go Go.RowKit Go.Am Go.Proofs.Grow
section
variable {P : Program} {tbl : List (Nat × TI)} {o : Oper} {T : Nat → Option AV} {M : Nat → Option AO}
theorem made4 (z0 z1 z2 z3 : Value) : (madeCells #[z0, z1, z2, z3] 40).toList = (List.replicate 10 [z0, z1, z2, z3]).flatten := by
  apply List.ext_getElem?
  intro k
  by_cases hk : k < 40
  · obtain h | h | h | h | h | h | h | h | h | h | h | h | h | h | h | h | h | h | h | h | h | h | h | h | h | h | h | h | h | h | h | h | h | h | h | h | h | h | h | h : k = 0 ∨ k = 1 ∨ k = 2 ∨ k = 3 ∨ k = 4 ∨ k = 5 ∨ k = 6 ∨ k = 7 ∨ k = 8 ∨ k = 9 ∨ k = 10 ∨ k = 11 ∨ k = 12 ∨ k = 13 ∨ k = 14 ∨ k = 15 ∨ k = 16 ∨ k = 17 ∨ k = 18 ∨ k = 19 ∨ k = 20 ∨ k = 21 ∨ k = 22 ∨ k = 23 ∨ k = 24 ∨ k = 25 ∨ k = 26 ∨ k = 27 ∨ k = 28 ∨ k = 29 ∨ k = 30 ∨ k = 31 ∨ k = 32 ∨ k = 33 ∨ k = 34 ∨ k = 35 ∨ k = 36 ∨ k = 37 ∨ k = 38 ∨ k = 39 := by omega
    all_goals (subst h; simp [madeCells])
  · rw [List.getElem?_eq_none (by simp [madeCells]; omega), List.getElem?_eq_none (by simp; omega)]
/-- make of ten elements of four cells. -/
theorem step_mk4 (htb : TOK P tbl) (g : Nat) {ty e : TypeId} {x y : Operand} {i j : TI} {kl kc : IntKind} {z0 z1 z2 z3 : Value} (ho : o.op = .makeSlice ty x y) (ht : lk tbl ty = some i) (hs : i.isS = true) (he : i.el = some e) (hj : lk tbl e = some j) (hsz : j.size = 4) (hz : j.zero = [z0, z1, z2, z3])
    (h1 : ∀ u ∈ [z0, z1, z2, z3], u.oneCell' = true) (hx : evA T x = some (.d (.v (.int kl 10)))) (hy : evA T y = some (.d (.v (.int kc 10)))) (hb : j.bytes * 10 ≤ 281474976710656) (hg : M g = none) :
    StepOK P o T M ⟨.own g, [g], [(g, .arr e 4 (List.replicate 10 [.v z0, .v z1, .v z2, .v z3]))]⟩ :=
  step_any mem_self fun cx μ T' M' a w h hT hM => by
    rw [← hM g (by simp)] at hg
    have hd := slice_desc (htb _ _ ht) hs he
    obtain ⟨info, ds, z, q1, q2, q3, q4, q5, q6, _⟩ := ti_parts (htb _ _ hj)
    have h2 := (h.ev (x := x) hT (by simp [ho, Op.operands]) hx).val
    have h3 := (h.ev (x := y) hT (by simp [ho, Op.operands]) hy).val
    have hb2 : (info.bytes : Int) * ((10 : Nat) : Int) ≤ 281474976710656 := by
      have : ((info.bytes * 10 : Nat) : Int) ≤ 281474976710656 := by rw [q5]; omega
      rwa [Int.natCast_mul] at this
    have hr := run_make (P := P) w ty e info z hd q1 q3 kl kc 10 10 (by omega) (Int.le_refl _) hb2 (by omega)
    simp only [Int.toNat_natCast, q4, hsz, q6, hz] at hr
    have hxs := made4 z0 z1 z2 z3
    have hsize : (madeCells #[z0, z1, z2, z3] 40).size = 40 := by simp [madeCells]
    refine ⟨.slice (some ⟨w.heap.size, 0, none⟩) 10 10, w.alloc (.cells (madeCells #[z0, z1, z2, z3] 40) e), upμ μ g (.slice (some ⟨w.heap.size, 0, none⟩) 10 10), ?_, ?_, .own (upμ_self _ _)⟩
    · simp only [execOp, ho, h2, h3, Sem.run_bind, hr, Result.andThen_ok, Sem.run_pure]; rfl
    · refine h.new hg (chg_alloc w _) rfl (fun b hb => ?_) fun H' hk hH => ⟨_, (List.replicate 10 [z0, z1, z2, z3]).flatten, upμ_self _ _, ⟨by simp, .inr ⟨w.heap.size, 10, madeCells #[z0, z1, z2, z3] 40, by simp, Nat.zero_le _, heap_alloc_new w _, by simp, by unfold maxLen; omega, by rw [hsize], by rw [← hxs, List.take_of_length_le (by simp [hsize])]⟩⟩, fun r hr => by rw [List.eq_of_mem_replicate hr]; rfl, ?_, fun u hu => ?_⟩
      · obtain rfl := Option.some.inj hb
        simp
      · exact vds_of (H := H') (w := w.alloc (.cells (madeCells #[z0, z1, z2, z3] 40) e)) (List.replicate 10 [z0, z1, z2, z3]).flatten
      · obtain ⟨l, hl, hu⟩ := List.mem_flatten.1 hu
        rw [List.eq_of_mem_replicate hl] at hu
        exact h1 u hu
end
section
variable {P : Program} {tbl : List (Nat × TI)} {ops r : List Oper} {o : Oper} {fin : List (List Nat × List Nat) → List (Nat × AV) → List (Nat × AO) → Prop} {acc : List (List Nat × List Nat)} {T : List (Nat × AV)} {M : List (Nat × AO)}
theorem WD_mk4 (htb : TOK P tbl) {d : Tmp} {ty e : TypeId} {x y : Operand} {i j : TI} {kl kc : IntKind} {z0 z1 z2 z3 : Value} (k : WD P ops fin r (([d], [d]) :: acc) ((d, .own d) :: T) ((d, .arr e 4 (List.replicate 10 [.v z0, .v z1, .v z2, .v z3])) :: M)) (ho : o.op = .makeSlice ty x y := by exact rfl) (hgu : gd ops T o = some true := by exact rfl) (hd : o.dst = some d := by exact rfl)
    (ht : lk tbl ty = some i := by exact rfl) (hs : i.isS = true := by exact rfl) (he : i.el = some e := by exact rfl) (hj : lk tbl e = some j := by exact rfl) (hsz : j.size = 4 := by exact rfl) (hz : j.zero = [z0, z1, z2, z3] := by exact rfl) (h1 : ∀ u ∈ [z0, z1, z2, z3], u.oneCell' = true := by decide)
    (hx : evA (lk T) x = some (.d (.v (.int kl 10))) := by exact rfl) (hy : evA (lk T) y = some (.d (.v (.int kc 10))) := by exact rfl) (hb : j.bytes * 10 ≤ 281474976710656 := by decide) (hg : lk M d = none := by exact rfl) : WD P ops fin (o :: r) acc T M :=
  WD_do hgu hd (step_mk4 htb d ho ht hs he hj hsz hz h1 hx hy hb hg) k
end
/-- All rows of a slice of the call's own, their nil slices read as empty ones. -/
theorem Le_normR {cx : Cx} {T : List (Nat × AV)} {M : List (Nat × AO)} (g : Nat) {ty sz : Nat} {rs rs' : List (List D)} (hg : lk M g = some (.arr ty sz rs)) (hl : rs'.length = rs.length) (hz : ∀ r ∈ rs', r.length = sz) (h : DNs rs.flatten rs'.flatten) : Le cx ⟨T, M⟩ ⟨T, (g, .arr ty sz rs') :: M⟩ := by
  rintro a w ⟨μ, hI⟩
  refine ⟨μ, ?_⟩
  rw [← show upM (lk M) [(g, AO.arr ty sz rs')] = lk ((g, .arr ty sz rs') :: M) from upM_cons]
  refine hI.swap hg rfl rfl fun H' hk => ?_
  obtain ⟨v, xs, g1, g2, g3, g4, g5⟩ := hI.ob g _ hg
  exact ⟨v, xs, g1, by rw [hl]; exact g2, hz, (g4.mono hk).norm h, g5⟩
theorem rep4_dn : ∀ n : Nat, DNs (List.replicate n [D.v (.bool false), D.v (.int .i64 0), D.v (.slice none 0 0), D.v (.slice none 0 0)]).flatten ((List.replicate n mb0).map rMb).flatten
  | 0 => DNs.nil
  | n + 1 => by
    rw [List.replicate_succ, List.replicate_succ, List.flatten_cons, List.map_cons, List.flatten_cons]
    exact DNs.append (DNs.cons (.refl _) (DNs.cons (.refl _) (DNs.cons (.nil 1) (DNs.cons (.nil 3) DNs.nil)))) (rep4_dn n)
theorem Le_mk4 {cx : Cx} {T : List (Nat × AV)} {M : List (Nat × AO)} (g : Nat) {ty : Nat} (hg : lk M g = some (.arr ty 4 (List.replicate 10 [D.v (.bool false), D.v (.int .i64 0), D.v (.slice none 0 0), D.v (.slice none 0 0)]))) : Le cx ⟨T, M⟩ ⟨T, (g, .arr ty 4 ((List.replicate 10 mb0).map rMb)) :: M⟩ :=
  Le_normR g hg (by simp) (fun r hr => by obtain ⟨x, _, rfl⟩ := List.mem_map.1 hr; rfl) (rep4_dn 10)
end Go.Proofs.YtdhogcklnehdhaaGreatDoor
