/- Contract of slices.SortFunc at small sets of nodes, by the shelf. -/
import Derived.Test.YtkjpnmodlmlhdaaGreatDoorQAE
import Derived.Test.YtkjpnmodlmlhdaaGreatDoorQAF
import Derived.Shelf.SlSortCmp.NoneTotal
import Derived.Test.YtkjpnmodlmlhdaaGreatDoorQAN
namespace Go.Proofs.YtkjpnmodlmlhdaaGreatDoor
set_option linter.unusedSimpArgs false
set_option linter.unusedVariables false
set_option linter.unnecessarySimpa false
set_option linter.unusedSectionVars false
set_option maxRecDepth 100000
open Go Go.RowKit Go.Am Go.Proofs.Grow Go.Shelf Go.Sort
def renS : Ren := ⟨fun | 6 => 66 | 14 => 102 | 15 => 103 | 20 => 136 | 21 => 137 | 22 => 138 | 23 => 139 | 24 => 140 | 25 => 141 | 26 => 142 | 27 => 143 | 28 => 144 | 29 => 145 | 46 => 185 | 47 => 186 | 48 => 187 | 49 => 188 | 50 => 189 | 57 => 226 | n => n, fun | 0 => 0 | 3 => 3 | 4 => 4 | 5 => 5 | 9 => 9 | 22 => 22 | 24 => 3 | 25 => 27 | 39 => 159 | 45 => 186 | 46 => 187 | 50 => 80 | 53 => 193 | 55 => 38 | 66 => 230 | 70 => 234 | 76 => 256 | 77 => 257 | n => n, fun n => n⟩
theorem layS : SlLaysF.n6 Tryz.prog renS where
  mixed := hmix
  f6 := ⟨Tryz.f66.name, by kernel_rfl, Tryz.func66.trans (congrArg some (by kernel_rfl))⟩
  f14 := ⟨Tryz.f102.name, by kernel_rfl, Tryz.func102.trans (congrArg some (by kernel_rfl))⟩
  f15 := Tryz.func103.trans (congrArg some (by kernel_rfl))
  f20 := ⟨Tryz.f136.name, by kernel_rfl, Tryz.func136.trans (congrArg some (by kernel_rfl))⟩
  f21 := ⟨Tryz.f137.name, by kernel_rfl, Tryz.func137.trans (congrArg some (by kernel_rfl))⟩
  f22 := ⟨Tryz.f138.name, by kernel_rfl, Tryz.func138.trans (congrArg some (by kernel_rfl))⟩
  f23 := ⟨Tryz.f139.name, by kernel_rfl, Tryz.func139.trans (congrArg some (by kernel_rfl))⟩
  f24 := ⟨Tryz.f140.name, by kernel_rfl, Tryz.func140.trans (congrArg some (by kernel_rfl))⟩
  f25 := ⟨Tryz.f141.name, by kernel_rfl, Tryz.func141.trans (congrArg some (by kernel_rfl))⟩
  f26 := ⟨Tryz.f142.name, by kernel_rfl, Tryz.func142.trans (congrArg some (by kernel_rfl))⟩
  f27 := ⟨Tryz.f143.name, by kernel_rfl, Tryz.func143.trans (congrArg some (by kernel_rfl))⟩
  f28 := Tryz.func144.trans (congrArg some (by kernel_rfl))
  f29 := Tryz.func145.trans (congrArg some (by kernel_rfl))
  f46 := ⟨Tryz.f185.name, by kernel_rfl, Tryz.func185.trans (congrArg some (by kernel_rfl))⟩
  f47 := Tryz.func186.trans (congrArg some (by kernel_rfl))
  f48 := Tryz.func187.trans (congrArg some (by kernel_rfl))
  f49 := ⟨Tryz.f188.name, by kernel_rfl, Tryz.func188.trans (congrArg some (by kernel_rfl))⟩
  f50 := ⟨Tryz.f189.name, by kernel_rfl, Tryz.func189.trans (congrArg some (by kernel_rfl))⟩
  f57 := ⟨Tryz.f226.name, by kernel_rfl, Tryz.func226.trans (congrArg some (by kernel_rfl))⟩
  t0 := Tryz.underlying0
  a0 := Tryz.isAgg0
  z0 := Tryz.sizeOf0
  v0 := Tryz.zeroValue0
  t3 := Tryz.underlying3
  a3 := Tryz.isAgg3
  z3 := Tryz.sizeOf3
  v3 := Tryz.zeroValue3
  t4 := Tryz.underlying4
  a4 := Tryz.isAgg4
  z4 := Tryz.sizeOf4
  v4 := Tryz.zeroValue4
  t5 := Tryz.underlying5
  a5 := Tryz.isAgg5
  z5 := Tryz.sizeOf5
  v5 := Tryz.zeroValue5
  t9 := Tryz.underlying9
  a9 := Tryz.isAgg9
  z9 := Tryz.sizeOf9
  v9 := Tryz.zeroValue9
  t22 := Tryz.underlying22
  a22 := Tryz.isAgg22
  z22 := Tryz.sizeOf22
  v22 := Tryz.zeroValue22
  a24 := Tryz.isAgg3
  z24 := Tryz.sizeOf3
  t25 := Tryz.underlying27
  a25 := Tryz.isAgg27
  z25 := Tryz.sizeOf27
  v25 := Tryz.zeroValue27
  t39 := Tryz.underlying159
  a39 := Tryz.isAgg159
  z39 := Tryz.sizeOf159
  v39 := Tryz.zeroValue159
  t45 := Tryz.underlying186
  a45 := Tryz.isAgg186
  z45 := Tryz.sizeOf186
  v45 := Tryz.zeroValue186
  t46 := Tryz.underlying187
  a46 := Tryz.isAgg187
  z46 := Tryz.sizeOf187
  v46 := Tryz.zeroValue187
  t50 := Tryz.underlying80
  a50 := Tryz.isAgg80
  z50 := Tryz.sizeOf80
  v50 := Tryz.zeroValue80
  t53 := Tryz.underlying193
  a53 := Tryz.isAgg193
  z53 := Tryz.sizeOf193
  v53 := Tryz.zeroValue193
  t55 := Tryz.underlying38
  a55 := Tryz.isAgg38
  z55 := Tryz.sizeOf38
  v55 := Tryz.zeroValue38
  t66 := Tryz.underlying230
  a66 := Tryz.isAgg230
  z66 := Tryz.sizeOf230
  v66 := Tryz.zeroValue230
  t70 := Tryz.underlying234
  a70 := Tryz.isAgg234
  z70 := Tryz.sizeOf234
  v70 := Tryz.zeroValue234
  t76 := Tryz.underlying256
  a76 := Tryz.isAgg256
  z76 := Tryz.sizeOf256
  v76 := Tryz.zeroValue256
  t77 := Tryz.underlying257
  a77 := Tryz.isAgg257
  z77 := Tryz.sizeOf257
  v77 := Tryz.zeroValue257
/-- A world after draws and new blocks. -/
def Gx (w w' : World) : Prop := ∃ q os, w' = grow (w.drewN q) os
theorem Gx.refl (w : World) : Gx w w := ⟨0, #[], by rw [grow_empty]; rfl⟩
theorem Gx.alloc {w w' : World} (h : Gx w w') (o : Obj) : Gx w (w'.alloc o) := by
  obtain ⟨q, os, rfl⟩ := h
  exact ⟨q, os ++ #[o], by rw [alloc_eq_grow, grow_grow]⟩
theorem or_two_g (x y : Int) (w : World) :
    Calls Tryz.prog 94 #[.slice (some ⟨w.heap.size, 0, none⟩) 2 2] (w.alloc (.cells #[.int .i64 x, .int .i64 y] 3)) fun e w' => e = .returned (.int .i64 (orI [x, y])) ∧ w' = w.alloc (.cells #[.int .i64 x, .int .i64 y] 3) := by
  refine (or_int w.heap.size 0 2 [x, y] _ (by simp) ?_).mono ?_
  · intro i hi
    match i, hi with
    | 0, _ => simp [atI, go_sem]
    | 1, _ => simp [atI, go_sem]
  · rintro e w' ⟨he, rfl⟩; exact ⟨he, rfl⟩
abbrev F5 := Fin 32
set_option maxHeartbeats 4000000 in
/-- Where a set stands in the order, apart from its value. -/
theorem rank_w (x : F5) (w : World) : Calls Tryz.prog 104 #[.int .i64 (x.val : Int)] w fun e w' => e = .returned (.int .i64 (popN x.val : Int)) ∧ w = w' := by
  obtain ⟨n, hn⟩ := x
  obtain h | h | h | h | h | h | h | h | h | h | h | h | h | h | h | h | h | h | h | h | h | h | h | h | h | h | h | h | h | h | h | h : n = 0 ∨ n = 1 ∨ n = 2 ∨ n = 3 ∨ n = 4 ∨ n = 5 ∨ n = 6 ∨ n = 7 ∨ n = 8 ∨ n = 9 ∨ n = 10 ∨ n = 11 ∨ n = 12 ∨ n = 13 ∨ n = 14 ∨ n = 15 ∨ n = 16 ∨ n = 17 ∨ n = 18 ∨ n = 19 ∨ n = 20 ∨ n = 21 ∨ n = 22 ∨ n = 23 ∨ n = 24 ∨ n = 25 ∨ n = 26 ∨ n = 27 ∨ n = 28 ∨ n = 29 ∨ n = 30 ∨ n = 31 := by omega
  all_goals
    subst h
    go_enter Tryz.func104, Tryz.ntmps104
    go_wp2
    go_ret
    exact ⟨by kernel_rfl, rfl⟩
end Go.Proofs.YtkjpnmodlmlhdaaGreatDoor
/- Contract of slices.SortFunc at small sets of nodes: sorted. -/
namespace Go.Proofs.YtkjpnmodlmlhdaaGreatDoor
set_option linter.unusedSimpArgs false
set_option linter.unusedVariables false
set_option linter.unnecessarySimpa false
set_option linter.unusedSectionVars false
set_option maxRecDepth 100000
open Go Go.RowKit Go.Am Go.Proofs.Grow Go.Shelf Go.Sort
def cmpF (x y : F5) : Int := orI [cmpI (popN x.val) (popN y.val), cmpI x.val y.val]
theorem cmpF_g (x y : F5) (w : World) :
    Calls Tryz.prog 67 #[.int .i64 (x.val : Int), .int .i64 (y.val : Int)] w fun e w' => e = .returned (.int .i64 (cmpF x y)) ∧ Gx w w' := by
  go_enter Tryz.func67, Tryz.ntmps67
  go_wp2_with (first
    | (go_at_call 104; refine (rank_w _ _).mono ?_; rintro e _w ⟨rfl, rfl⟩)
    | (go_at_call 95; refine (cmp_int _ _ _).mono ?_; rintro e _w ⟨rfl, rfl⟩)
    | (go_at_call 94; refine (or_two_g _ _ _).mono ?_; rintro e w' ⟨rfl, rfl⟩))
  go_ret
  exact ⟨rfl, (Gx.refl w).alloc _⟩
def encF (x : F5) : Value := .int .i64 (x.val : Int)
def keyF (x : F5) : Nat := popN x.val * 32 + x.val
theorem lt_key (x y : F5) : ltOf cmpF x y = decide (keyF x < keyF y) := by
  have hx := x.isLt
  have hy := y.isLt
  unfold ltOf cmpF keyF
  rcases cmpI_cases (popN x.val : Int) (popN y.val : Int) with ⟨h, e⟩ | ⟨h, e⟩ | ⟨h, e⟩ <;> rcases cmpI_cases (x.val : Int) (y.val : Int) with ⟨k, f⟩ | ⟨k, f⟩ | ⟨k, f⟩ <;> simp only [orI, e, f]
  all_goals (rw [Bool.eq_iff_iff, decide_eq_true_eq, decide_eq_true_eq]; first | (constructor <;> intro q <;> omega) | (simp; omega))
theorem swo_F : SWO (ltOf cmpF) where
  irrefl x := by rw [lt_key]; simp
  trans x y z h k := by rw [lt_key, decide_eq_true_eq] at *; omega
  ntrans x y z h k := by rw [lt_key, decide_eq_false_iff_not] at *; omega
theorem layS0 : SlLaysF0.n6 Tryz.prog renS := { layS with }
def srtS (l : List F5) : List F5 := l.mergeSort fun x y => !(ltOf cmpF) y x
theorem srtS_len (l : List F5) : (srtS l).length = l.length := List.length_mergeSort _
theorem sortS_w (l : List F5) (cap blk : Nat) (w : World) (hH : Holds encF w blk 0 l.toArray) (hblk : blk < w.heap.size) (hl : l.length ≤ 1000) :
    Calls Tryz.prog 66 #[.slice (some ⟨blk, 0, none⟩) l.length cap, .func (.func 67) #[] #[]] w fun e w' => e = .returned (.tuple #[]) ∧ ∃ n os, w' = sortWorld encF w blk 0 n (srtS l).toArray os := by
  have eg : ∀ args w, (callFunc 67 args).run Tryz.prog w = .ok (.enter 67 args) w := enters_of Tryz.func67 (by kernel_rfl) rfl
  exact Any.slices_SortFunc_total layS encF (fun _ => rfl) cmpF swo_F 67 #[] blk 0 cap l.toArray w eg
    (fun m os dk _ x y => cmpF_g x y _) hH hblk (by simp; omega) (fun x y h k => by
      rw [lt_key, decide_eq_false_iff_not] at h k
      have hx := x.isLt
      have hy := y.isLt
      unfold keyF at h k
      exact Fin.ext (by omega))
def rF (x : F5) : List D := [.v (.int .i64 (x.val : Int))]
theorem rowsF_vals : ∀ l : List F5, (l.map rF).flatten = (l.map encF).map D.v
  | [] => rfl
  | x :: r => by
    rw [List.map_cons, List.flatten_cons, rowsF_vals r]; rfl
theorem vd_v {H : Nat → Prop} {w : World} {c x : Value} (h : VD H w (D.v c) x) : x = c := by
  cases h; rfl
theorem vds_vals {H : Nat → Prop} {w : World} {cs xs : List Value} (h : VDs H w (cs.map D.v) xs) : xs = cs := by
  apply List.ext_getElem?
  intro i
  have hl := h.1
  rw [List.length_map] at hl
  by_cases hi : i < cs.length
  · have h1 := h.2 i (D.v cs[i]) (xs[i]'(by omega)) (by simp [hi]) (by simp)
    rw [List.getElem?_eq_getElem hi, List.getElem?_eq_getElem (show i < xs.length by omega)]
    exact congrArg some (vd_v h1)
  · rw [List.getElem?_eq_none (by omega), List.getElem?_eq_none (by omega)]
theorem vds_of {H : Nat → Prop} {w : World} (cs : List Value) : VDs H w (cs.map D.v) cs := by
  refine ⟨by simp, fun i c v hc hv => ?_⟩
  simp only [List.getElem?_map, hv, Option.map_some] at hc
  obtain rfl := Option.some.inj hc
  exact .v _
theorem one_F {l : List F5} : ∀ u ∈ l.map encF, u.oneCell' = true := by
  intro u hu
  obtain ⟨x, _, rfl⟩ := List.mem_map.1 hu
  rfl
theorem rowsF_one (l : List F5) : ∀ r ∈ l.map rF, r.length = 1 := by
  intro r hr
  obtain ⟨x, _, rfl⟩ := List.mem_map.1 hr
  rfl
theorem sortS_m (l : List F5) (hl : l.length ≤ 1000) : FnM Tryz.prog 66 [(7, .arr 3 1 (l.map rF))] [.own 7, .clo 67 []] (.tup []) [(7, .arr 3 1 ((srtS l).map rF))] := by
  intro H0 μ w vs hlen hI
  obtain ⟨v1, v2, rfl⟩ : ∃ v1 v2, vs = [v1, v2] := by
    match vs, hlen with
    | [a, b], _ => exact ⟨a, b, rfl⟩
  have h1 := hI.tm 0 _ rfl
  have h2 := hI.tm 1 _ rfl
  obtain ⟨v, xs, hμ, ⟨hx1, hx2⟩, _, hd, _⟩ := hI.ob 7 _ rfl
  rw [rowsF_vals] at hd
  obtain rfl := vds_vals hd
  change VR _ _ _ _ v1 at h1
  change VR _ _ _ _ v2 at h2
  obtain ⟨a, n, cap, rfl, h3⟩ : ∃ a n cap, v1 = .slice a n cap ∧ μ 7 = some (.slice a n cap) := by
    cases h1 with
    | own h => exact ⟨_, _, _, rfl, h⟩
  obtain rfl : v = .slice a n cap := Option.some.inj (hμ.symm.trans h3)
  obtain rfl : v2 = .func (.func 67) #[] #[] := by
    cases h2 with
    | clo hl2 _ =>
      rw [List.length_eq_zero_iff.1 hl2.symm]
  rw [List.length_map] at hx2
  have done : ∀ w', InvM ⟨w, Hot μ (lk [(7, AO.arr 3 1 (l.map rF))]), H0, 2, μ⟩ μ (lk (argT 0 [.own 7, .clo 67 []])) (lk [(7, AO.arr 3 1 ((srtS l).map rF))]) ⟨#[.slice a n cap, .func (.func 67) #[] #[]], []⟩ w' →
      ∃ v μ', Ending.returned (.tuple #[]) = Ending.returned v ∧ InvM ⟨w, Hot μ (lk [(7, AO.arr 3 1 (l.map rF))]), H0, 1, μ⟩ μ' (lk [(0, .tup [])]) (lk [(7, AO.arr 3 1 ((srtS l).map rF))]) ⟨#[v], []⟩ w' := by
    intro w' h
    refine ⟨_, μ, rfl, fun t x ht => ?_, h.ob, h.inj, h.lo, h.fr, h.free, h.hs, h.base, rfl, rfl⟩
    simp only [lk] at ht
    split at ht
    · rename_i hb
      have := Nat.eq_of_beq_eq_true hb
      subst this
      obtain rfl := Option.some.inj ht
      exact .tup (vs := []) rfl (fun i c v hc _ => by simp at hc)
    · cases ht
  rcases Nat.eq_zero_or_pos l.length with h0 | h0
  · obtain rfl : l = [] := List.length_eq_zero_iff.1 h0
    obtain rfl : n = 0 := by
      rcases hx2 with ⟨h, _⟩ | ⟨g, c, cur, h, _⟩
      · injection h with _ h _
      · injection h with _ h _
    have h := AnyF.slices_SortFunc_none layS0 a cap (.func (.func 67) #[] #[]) w
    refine Calls.mono h ?_
    rintro e w' ⟨rfl, rfl⟩
    have e0 : srtS [] = [] := List.length_eq_zero_iff.1 (srtS_len [])
    rw [e0] at done ⊢
    exact done _ hI
  · rcases hx2 with ⟨_, h⟩ | ⟨g, c, cur, h, _, hg, hc1, hc2, hc3, hc4⟩
    · omega
    injection h with e1 e2 e3
    subst e1 e2 e3
    have hgl : g < w.heap.size := (Array.getElem?_eq_some_iff.1 hg).1
    have hcell : ∀ t, t < l.length → cur[t]? = (l.map encF)[t]? := by
      intro t ht
      rw [Nat.mul_one] at hc4
      rw [← hc4, List.getElem?_take_of_lt ht, Array.getElem?_toList]
    have hH : Holds encF w g 0 l.toArray := by
      intro t ht
      have ht : t < l.length := by simpa using ht
      constructor
      · simp only [World.cell?, hg, Nat.zero_add]
        simp only [Option.isSome_none, Bool.false_eq_true, if_false]
        rw [hcell t ht]
        simp [ht]
      · simp [World.frozen?, hg]
    refine Calls.mono (sortS_w l cap g w hH hgl hl) ?_
    rintro e w' ⟨rfl, q, os, rfl⟩
    have hsz : (srtS l).length = l.length := srtS_len l
    have hch : Chg (fun k => k = g) w (sortWorld encF w g 0 q (srtS l).toArray os) := by
      refine ⟨rfl, rfl, rfl, ?_, fun k hk hne => ?_⟩
      · simp [sortWorld, grow, putRow, mapBlock, ahead]
      · simp only [sortWorld, grow, putRow, mapBlock, ahead]
        rw [Array.getElem?_append_left (by simpa using hk), Array.getElem?_modify, if_neg (fun h => hne h.symm)]; rfl
    have hnew : (sortWorld encF w g 0 q (srtS l).toArray os).heap[g]? = some (.cells (putCells encF 0 (srtS l).toArray cur) 3 (0, 0)) := by
      simp only [sortWorld, grow, putRow, mapBlock, ahead]
      rw [Array.getElem?_append_left (by simpa using hgl), Array.getElem?_modify, if_pos rfl]
      show Option.map _ w.heap[g]? = _
      rw [hg]; rfl
    have hsize : (putCells encF 0 (srtS l).toArray cur).size = cur.size := by simp [putCells]
    have htake : (putCells encF 0 (srtS l).toArray cur).toList.take (l.length * 1) = (srtS l).map encF := by
      rw [Nat.mul_one]
      apply List.ext_getElem?
      intro t
      by_cases ht : t < l.length
      · have ht2 : t < (srtS l).length := by rw [hsz]; exact ht
        rw [List.getElem?_take_of_lt ht, Array.getElem?_toList, putCells, Array.getElem?_mapIdx, hcell t ht]
        simp [ht, ht2, hsz]
      · rw [List.getElem?_eq_none (by rw [List.length_take]; omega), List.getElem?_eq_none (by rw [List.length_map, hsz]; omega)]
    generalize putCells encF 0 (srtS l).toArray cur = cur' at *
    generalize sortWorld encF w g 0 q (srtS l).toArray os = w' at *
    have hrl : ((srtS l).map rF).length = l.length := by rw [List.length_map, hsz]
    have hw := hI.write (g := 7) (o := .arr 3 1 (l.map rF)) (o' := .arr 3 1 ((srtS l).map rF)) rfl rfl rfl hμ rfl hch (fun H' _ _ => by
      refine ⟨_, (srtS l).map encF, hμ, ⟨by rw [List.length_map, Nat.mul_one, List.length_map], .inr ⟨g, cap, cur', by rw [hrl], Nat.zero_le _, hnew, by rw [hrl]; exact hc1, hc2, by rw [hsize]; exact hc3, by rw [hrl]; exact htake⟩⟩, rowsF_one _, by rw [rowsF_vals]; exact vds_of _, one_F⟩)
    have e : upM (lk [(7, AO.arr 3 1 (l.map rF))]) [(7, AO.arr 3 1 ((srtS l).map rF))] = lk [(7, .arr 3 1 ((srtS l).map rF))] := by
      funext k
      by_cases hk : k = 7
      · subst hk; rw [upM_one_self]; rfl
      · rw [upM_one_other _ hk]
        have : Nat.beq 7 k = false := by
          cases hb : Nat.beq 7 k with
          | false => rfl
          | true => exact absurd (Nat.eq_of_beq_eq_true hb).symm hk
        simp [lk, this]
    rw [e] at hw
    exact done _ hw
end Go.Proofs.YtkjpnmodlmlhdaaGreatDoor
/- Contracts: the minimal quorums of a small configuration. -/
namespace Go.Proofs.YtkjpnmodlmlhdaaGreatDoor
set_option linter.unusedSimpArgs false
set_option linter.unusedVariables false
set_option linter.unnecessarySimpa false
set_option linter.unusedSectionVars false
set_option maxRecDepth 100000
open Go Go.RowKit Go.Am Go.Proofs.Grow Gos
def toF (n : Nat) : F5 := Fin.ofNat 32 n
theorem rows_toF : ∀ l : List Nat, (∀ x ∈ l, x < 32) → (l.map toF).map rF = l.map rN
  | [], _ => rfl
  | x :: r, h => by
    have hx := h x (by simp)
    have e : (toF x).val = x := by simp only [toF, Fin.ofNat]; omega
    rw [List.map_cons, List.map_cons, List.map_cons, rows_toF r fun y hy => h y (by simp [hy])]
    unfold rF rN
    rw [e]
def quoL (c : List Mb) (k : Nat) : List Nat := (List.range k).filter (quoN c)
def quoF (c : List Mb) : List F5 := (quoL c (2 ^ c.length)).map toF
theorem quoL_len (c : List Mb) (k : Nat) : (quoL c k).length ≤ k := by
  have := List.length_filter_le (quoN c) (List.range k)
  rwa [List.length_range] at this
theorem quoL_lt {c : List Mb} {k x : Nat} (h : x ∈ quoL c k) : x < k := List.mem_range.1 (List.mem_filter.1 h).1
theorem quoL_succ (c : List Mb) (k : Nat) : quoL c (k + 1) = quoL c k ++ if quoN c k = true then [k] else [] := by
  unfold quoL
  rw [List.range_succ, List.filter_append]
  congr 1
  cases h : quoN c k <;> simp [h]
theorem all_q (c : List Mb) (hc : OkC c ∧ c.length ≤ 5) : FnM Tryz.prog 37 [] [aCf c] (.d (.rows 1 ((quoF c).map rF))) [] := by
  obtain ⟨hc, h5⟩ := hc
  have hp : 2 ^ c.length ≤ 32 := Nat.pow_le_pow_right (by decide) h5
  have e9 : (quoF c).map rF = (quoL c (2 ^ c.length)).map rN := rows_toF _ fun x hx => Nat.lt_of_lt_of_le (quoL_lt hx) hp
  rw [e9]
  refine FnM.of htb Tryz.func37 rfl rfl rfl rfl rfl fun cx hN h0 => ?_
  (repeat' (first | ((with_reducible apply WD_id); first | (refine WD_sum ?_) | (refine WD_nxt htb (by exact rfl) ?_) | (refine WD_eq (shlN_step rfl rfl rfl) ?_) | (refine WD_ap htb ?_)) | (with_reducible apply WA_seq) | ((with_reducible apply gR hmix hN); exact (by kernel_rfl); (try dsimp only [List.append_eq, List.cons_append, List.nil_append])) | ((with_reducible apply WD_end); (first | exact no_draw | (intro _; kernel_rfl)); try simp only [thn, inB, List.length_map, List.cons_append, List.nil_append]) | ((with_reducible apply gCt); exact rfl; exact rfl) | ((with_reducible apply gCf); exact rfl; exact rfl) | ((with_reducible apply gCk); exact rfl; exact known; intro hb; rw [hb]; clear hb) | ((with_reducible apply gCn); exact rfl; exact known; intro hb; rw [hb]; clear hb) | (with_reducible apply WA_block) | ((with_reducible first | apply WA_skip | apply WA_ret | apply WA_exit | apply WA_label); try simp only [thn, inB, List.length_map, List.cons_append, List.nil_append])))
  refine WA_le (Le_nilT 60 3 3 1 rfl rfl) ?_
  (refine WA_forV (2 ^ c.length) [9, 3] [60] (fun k => [(9, vI k), (3, .own 60)]) (fun k => [(60, .arr 3 1 ((quoL c k).map rN))]) (fun k => True) ?h0 ?_)
  case h0 => trivial
  intro k hk _
  have hql := quoL_len c k
  rcases Nat.lt_or_ge k (2 ^ c.length) with hk' | hk'
  · have t1 : decide ((k : Int) < ((2 ^ c.length : Nat) : Int)) = true := by simp only [decide_eq_true_eq]; omega
    have hst := quoL_succ c k
    have hq := quo_m c k hc (by omega)
    cases hx : quoN c k with
    | true =>
      rw [hx] at hq
      rw [hx, if_pos rfl] at hst
      have qoZ_m := hq
      (repeat' (first | ((with_reducible apply WD_id); first | (refine WD_sum ?_) | (refine WD_nxt htb (by exact rfl) ?_) | (refine WD_call (by exact rfl) ?_; first | (refine WD_c0 (qoZ_m) ?_)) | (refine WD_ap htb ?_)) | (with_reducible apply WA_seq) | ((with_reducible apply gR hmix hN); exact (by kernel_rfl); (try dsimp only [List.append_eq, List.cons_append, List.nil_append])) | ((with_reducible apply WD_end); (first | exact no_draw | (intro _; kernel_rfl)); try simp only [thn, inB, List.length_map, List.cons_append, List.nil_append]) | ((with_reducible apply gCt); exact rfl; exact rfl) | ((with_reducible apply gCf); exact rfl; exact rfl) | ((with_reducible apply gCk); exact rfl; exact known; intro hb; rw [hb]; clear hb) | ((with_reducible apply gCn); exact rfl; exact known; intro hb; rw [hb]; clear hb) | (with_reducible apply WA_block) | ((with_reducible first | apply WA_skip | apply WA_ret | apply WA_exit | apply WA_label); try simp only [thn, inB, List.length_map, List.cons_append, List.nil_append])))
      refine ⟨hk', trivial, ?_⟩
      rw [hst, List.map_append]
      (exact LeV [(60, 18)])
    | false =>
      rw [hx] at hq
      rw [hx, if_neg (by simp), List.append_nil] at hst
      have qoZ_m := hq
      (repeat' (first | ((with_reducible apply WD_id); first | (refine WD_sum ?_) | (refine WD_nxt htb (by exact rfl) ?_) | (refine WD_call (by exact rfl) ?_; first | (refine WD_c0 (qoZ_m) ?_)) | (refine WD_ap htb ?_)) | (with_reducible apply WA_seq) | ((with_reducible apply gR hmix hN); exact (by kernel_rfl); (try dsimp only [List.append_eq, List.cons_append, List.nil_append])) | ((with_reducible apply WD_end); (first | exact no_draw | (intro _; kernel_rfl)); try simp only [thn, inB, List.length_map, List.cons_append, List.nil_append]) | ((with_reducible apply gCt); exact rfl; exact rfl) | ((with_reducible apply gCf); exact rfl; exact rfl) | ((with_reducible apply gCk); exact rfl; exact known; intro hb; rw [hb]; clear hb) | ((with_reducible apply gCn); exact rfl; exact known; intro hb; rw [hb]; clear hb) | (with_reducible apply WA_block) | ((with_reducible first | apply WA_skip | apply WA_ret | apply WA_exit | apply WA_label); try simp only [thn, inB, List.length_map, List.cons_append, List.nil_append])))
      refine ⟨hk', trivial, ?_⟩
      rw [hst]
      (exact LeV [])
  · have t1 : decide ((k : Int) < ((2 ^ c.length : Nat) : Int)) = false := by simp only [decide_eq_false_iff_not]; omega
    obtain rfl : k = 2 ^ c.length := by omega
    (repeat' (first | ((with_reducible apply WD_id); first | (refine WD_sum ?_) | (refine WD_nxt htb (by exact rfl) ?_) | (refine WD_ap htb ?_)) | (with_reducible apply WA_seq) | ((with_reducible apply gR hmix hN); exact (by kernel_rfl); (try dsimp only [List.append_eq, List.cons_append, List.nil_append])) | ((with_reducible apply WD_end); (first | exact no_draw | (intro _; kernel_rfl)); try simp only [thn, inB, List.length_map, List.cons_append, List.nil_append]) | ((with_reducible apply gCt); exact rfl; exact rfl) | ((with_reducible apply gCf); exact rfl; exact rfl) | ((with_reducible apply gCk); exact rfl; exact known; intro hb; rw [hb]; clear hb) | ((with_reducible apply gCn); exact rfl; exact known; intro hb; rw [hb]; clear hb) | (with_reducible apply WA_block) | ((with_reducible first | apply WA_skip | apply WA_ret | apply WA_exit | apply WA_label); try simp only [thn, inB, List.length_map, List.cons_append, List.nil_append])))
    (exact glV [(2, .d (.rows 1 ((quoL c (2 ^ c.length)).map rN)))] [] (LeV []))
theorem lst1_m (x : F5) : FnM Tryz.prog 64 [] [vI (x.val : Int)] (vB false) [] := by
  have hv : validS (x.val : Int) = true := valid_nat (by have := x.isLt; omega)
  have t0 : (!true) = false := rfl
  have hq := valid_m (x.val : Int)
  rw [hv] at hq
  refine FnM.of htb Tryz.func64 rfl rfl rfl rfl rfl fun cx hN h0 => ?_
  (repeat' (first | ((with_reducible apply WD_id); first | (refine WD_nxt htb (by exact rfl) ?_) | (refine WD_call (by exact rfl) ?_; first | (refine WD_c0 (valid_m _) ?_))) | (with_reducible apply WA_seq) | ((with_reducible apply gR hmix hN); exact (by kernel_rfl); (try dsimp only [List.append_eq, List.cons_append, List.nil_append])) | ((with_reducible apply WD_end); (first | exact no_draw | (intro _; kernel_rfl)); try simp only [thn, inB, List.length_map, List.cons_append, List.nil_append]) | (with_reducible apply WA_block) | ((with_reducible first | apply WA_skip | apply WA_ret | apply WA_exit | apply WA_label); try simp only [thn, inB, List.length_map, List.cons_append, List.nil_append])))
  exact gE (.inr rfl) rfl (congrArg vB (by rw [hv]; rfl)) trivial
theorem ix1_m (l : List F5) (hl : l.length ≤ 1000) : FnM Tryz.prog 100 [(7, .arr 3 1 (l.map rF))] [.own 7, .clo 64 []] (vI (-1)) [(7, .arr 3 1 (l.map rF))] := by
  refine FnM.of htb Tryz.func100 rfl rfl rfl rfl rfl fun cx hN h0 => ?_
  (repeat' (first | ((with_reducible apply WD_id); first | (refine WD_sum ?_) | (refine WD_nxt htb (by exact rfl) ?_) | (refine WD_idxo htb ?_) | (refine WD_lde1 htb ?_)) | (with_reducible apply WA_seq) | ((with_reducible apply gR hmix hN); exact (by kernel_rfl); (try dsimp only [List.append_eq, List.cons_append, List.nil_append])) | ((with_reducible apply WD_end); (first | exact no_draw | (intro _; kernel_rfl)); try simp only [thn, inB, List.length_map, List.cons_append, List.nil_append]) | ((with_reducible apply gCt); exact rfl; exact rfl) | ((with_reducible apply gCf); exact rfl; exact rfl) | ((with_reducible apply gCk); exact rfl; exact known; intro hb; rw [hb]; clear hb) | ((with_reducible apply gCn); exact rfl; exact known; intro hb; rw [hb]; clear hb) | (with_reducible apply WA_block) | ((with_reducible first | apply WA_skip | apply WA_ret | apply WA_exit | apply WA_label); try simp only [thn, inB, List.length_map, List.cons_append, List.nil_append])))
  (refine WA_forV (l.length) [8] [] (fun k => [(8, vI k)]) (fun k => []) (fun k => True) ?h0 ?_)
  case h0 => trivial
  intro k hk _
  rcases Nat.lt_or_ge k l.length with hk' | hk'
  · have t1 : decide ((k : Int) < (l.length : Int)) = true := by simp; omega
    (repeat' (first | ((with_reducible apply WD_id); first | (refine WD_sum ?_) | (refine WD_nxt htb (by exact rfl) ?_) | (refine WD_call (by exact rfl) ?_; first | (refine WD_c0 (lst1_m (x := nth l k)) ?_)) | (refine WD_idxo htb ?_) | (refine WD_lde1 htb ?_)) | (with_reducible apply WA_seq) | ((with_reducible apply gR hmix hN); exact (by kernel_rfl); (try dsimp only [List.append_eq, List.cons_append, List.nil_append])) | ((with_reducible apply WD_end); (first | exact no_draw | (intro _; kernel_rfl)); try simp only [thn, inB, List.length_map, List.cons_append, List.nil_append]) | ((with_reducible apply gCt); exact rfl; exact rfl) | ((with_reducible apply gCf); exact rfl; exact rfl) | ((with_reducible apply gCk); exact rfl; exact known; intro hb; rw [hb]; clear hb) | ((with_reducible apply gCn); exact rfl; exact known; intro hb; rw [hb]; clear hb) | (with_reducible apply WA_block) | ((with_reducible first | apply WA_skip | apply WA_ret | apply WA_exit | apply WA_label); try simp only [thn, inB, List.length_map, List.cons_append, List.nil_append])))
    refine ⟨hk', trivial, ?_⟩
    (exact LeV [])
  · have t1 : decide ((k : Int) < (l.length : Int)) = false := by simp; omega
    (repeat' (first | ((with_reducible apply WD_id); first | (refine WD_sum ?_) | (refine WD_nxt htb (by exact rfl) ?_) | (refine WD_idxo htb ?_) | (refine WD_lde1 htb ?_)) | (with_reducible apply WA_seq) | ((with_reducible apply gR hmix hN); exact (by kernel_rfl); (try dsimp only [List.append_eq, List.cons_append, List.nil_append])) | ((with_reducible apply WD_end); (first | exact no_draw | (intro _; kernel_rfl)); try simp only [thn, inB, List.length_map, List.cons_append, List.nil_append]) | ((with_reducible apply gCt); exact rfl; exact rfl) | ((with_reducible apply gCf); exact rfl; exact rfl) | ((with_reducible apply gCk); exact rfl; exact known; intro hb; rw [hb]; clear hb) | ((with_reducible apply gCn); exact rfl; exact known; intro hb; rw [hb]; clear hb) | (with_reducible apply WA_block) | ((with_reducible first | apply WA_skip | apply WA_ret | apply WA_exit | apply WA_label); try simp only [thn, inB, List.length_map, List.cons_append, List.nil_append])))
    exact gE (.inr rfl) rfl rfl ⟨rfl, trivial⟩
theorem del1_m (l : List F5) (hl : l.length ≤ 1000) : FnM Tryz.prog 63 [(7, .arr 3 1 (l.map rF))] [.own 7, .clo 64 []] (.own 7) [(7, .arr 3 1 (l.map rF))] := by
  refine FnM.of htb Tryz.func63 rfl rfl rfl rfl rfl fun cx hN h0 => ?_
  (repeat' (first | ((with_reducible apply WD_id); first | (refine WD_nxt htb (by exact rfl) ?_) | (refine WD_call (by exact rfl) ?_; first | (refine WD_cM (ix1_m _ ?_) ?_; (exact hyp)))) | (with_reducible apply WA_seq) | ((with_reducible apply gR hmix hN); exact (by kernel_rfl); (try dsimp only [List.append_eq, List.cons_append, List.nil_append])) | ((with_reducible apply WD_end); (first | exact no_draw | (intro _; kernel_rfl)); try simp only [thn, inB, List.length_map, List.cons_append, List.nil_append]) | ((with_reducible apply gCt); exact rfl; exact rfl) | (with_reducible apply WA_block) | ((with_reducible first | apply WA_skip | apply WA_ret | apply WA_exit | apply WA_label); try simp only [thn, inB, List.length_map, List.cons_append, List.nil_append])))
  exact gE (.inr rfl) rfl rfl ⟨rfl, trivial⟩
theorem cloO_m (l : List F5) (hl : l.length ≤ 1000) : FnM Tryz.prog 59 [] [.d (.rows 1 (l.map rF))] (.own 7) [(7, .arr 3 1 (l.map rF))] := by
  cases l with
  | nil =>
    refine FnM.nil_cases 0 rfl ?_ fun ad cap => ?_
    all_goals
      refine FnM.of htb Tryz.func59 rfl rfl rfl rfl rfl fun cx hN h0 => ?_
      (repeat' (first | ((with_reducible apply WD_id); first | (refine WD_nxt htb (by exact rfl) ?_) | (refine WD_ap htb ?_) | (refine WD_nil htb ?_) | (refine WD_nilr htb ?_)) | (with_reducible apply WA_seq) | ((with_reducible apply gR hmix hN); exact (by kernel_rfl); (try dsimp only [List.append_eq, List.cons_append, List.nil_append])) | ((with_reducible apply WD_end); (first | exact no_draw | (intro _; kernel_rfl)); try simp only [thn, inB, List.length_map, List.cons_append, List.nil_append]) | ((with_reducible apply gCt); exact rfl; exact rfl) | ((with_reducible apply gCf); exact rfl; exact rfl) | (with_reducible apply WA_block) | ((with_reducible first | apply WA_skip | apply WA_ret | apply WA_exit | apply WA_label); try simp only [thn, inB, List.length_map, List.cons_append, List.nil_append])))
    · exact gL (.inr rfl) (Le_nilT 7 2 3 1 rfl rfl) rfl rfl ⟨rfl, trivial⟩
    · refine gL (.inr rfl) (T' := [(2, .own 7)]) (M' := [(7, .arr 3 1 [])]) ?_ rfl rfl ⟨rfl, trivial⟩
      (exact LeV [])
  | cons x r =>
    refine FnM.of htb Tryz.func59 rfl rfl rfl rfl rfl fun cx hN h0 => ?_
    (repeat' (first | ((with_reducible apply WD_id); first | (refine WD_nxt htb (by exact rfl) ?_) | (refine WD_ap htb ?_) | (refine WD_nil htb ?_) | (refine WD_nilr htb ?_)) | (with_reducible apply WA_seq) | ((with_reducible apply gR hmix hN); exact (by kernel_rfl); (try dsimp only [List.append_eq, List.cons_append, List.nil_append])) | ((with_reducible apply WD_end); (first | exact no_draw | (intro _; kernel_rfl)); try simp only [thn, inB, List.length_map, List.cons_append, List.nil_append]) | ((with_reducible apply gCt); exact rfl; exact rfl) | ((with_reducible apply gCf); exact rfl; exact rfl) | (with_reducible apply WA_block) | ((with_reducible first | apply WA_skip | apply WA_ret | apply WA_exit | apply WA_label); try simp only [thn, inB, List.length_map, List.cons_append, List.nil_append])))
    refine gL (.inr rfl) (T' := [(2, .own 7)]) (M' := [(7, .arr 3 1 ((x :: r).map rF))]) ?_ rfl rfl ⟨rfl, trivial⟩
    (exact LeV [])
def sbsF (s t : F5) : Bool := andn t.val s.val == 0
theorem lst2_m (s t : F5) : FnM Tryz.prog 69 [(5, .box 3 [vI (s.val : Int)])] [vI (t.val : Int), .ptr 5 0] (vB (sbsF s t)) [(5, .box 3 [vI (s.val : Int)])] := by
  have hs := s.isLt
  have ht := t.isLt
  refine FnM.of htb Tryz.func69 rfl rfl rfl rfl rfl fun cx hN h0 => ?_
  (repeat' (first | ((with_reducible apply WD_id); first | (refine WD_nxt htb (by exact rfl) ?_) | (refine WD_eq (bnotN_step rfl rfl rfl) ?_)) | (with_reducible apply WA_seq) | ((with_reducible apply gR hmix hN); exact (by kernel_rfl); (try dsimp only [List.append_eq, List.cons_append, List.nil_append])) | ((with_reducible apply WD_end); (first | exact no_draw | (intro _; kernel_rfl)); try simp only [thn, inB, List.length_map, List.cons_append, List.nil_append]) | (with_reducible apply WA_block) | ((with_reducible first | apply WA_skip | apply WA_ret | apply WA_exit | apply WA_label); try simp only [thn, inB, List.length_map, List.cons_append, List.nil_append])))
  exact gE (.inr rfl) rfl (congrArg vB (by unfold sbsF; rw [Bool.eq_iff_iff]; simp)) ⟨rfl, trivial⟩
theorem ix2_m (s : F5) (l : List F5) (hl : l.length ≤ 1000) : FnM Tryz.prog 100 [(5, .box 3 [vI (s.val : Int)])] [.d (.rows 1 (l.map rF)), .clo 69 [.ptr 5 0]] (vI (idxF (sbsF s) 0 l)) [(5, .box 3 [vI (s.val : Int)])] := by
  refine FnM.of htb Tryz.func100 rfl rfl rfl rfl rfl fun cx hN h0 => ?_
  (repeat' (first | ((with_reducible apply WD_id); first | (refine WD_sum ?_) | (refine WD_nxt htb (by exact rfl) ?_) | (refine WD_idx htb ?_)) | (with_reducible apply WA_seq) | ((with_reducible apply gR hmix hN); exact (by kernel_rfl); (try dsimp only [List.append_eq, List.cons_append, List.nil_append])) | ((with_reducible apply WD_end); (first | exact no_draw | (intro _; kernel_rfl)); try simp only [thn, inB, List.length_map, List.cons_append, List.nil_append]) | ((with_reducible apply gCt); exact rfl; exact rfl) | ((with_reducible apply gCf); exact rfl; exact rfl) | ((with_reducible apply gCk); exact rfl; exact known; intro hb; rw [hb]; clear hb) | ((with_reducible apply gCn); exact rfl; exact known; intro hb; rw [hb]; clear hb) | (with_reducible apply WA_block) | ((with_reducible first | apply WA_skip | apply WA_ret | apply WA_exit | apply WA_label); try simp only [thn, inB, List.length_map, List.cons_append, List.nil_append])))
  (refine WA_forV (l.length) [8] [] (fun k => [(8, vI k)]) (fun k => []) (fun k => idxF (sbsF s) 0 l = idxF (sbsF s) k (l.drop k)) ?h0 ?_)
  case h0 => rfl
  intro k hk hI
  rcases Nat.lt_or_ge k l.length with hk' | hk'
  · have t1 : decide ((k : Int) < (l.length : Int)) = true := by simp; omega
    have hs := lst2_m s (nth l k)
    cases hb : sbsF s (nth l k) with
    | true =>
      rw [hb] at hs
      have l2Z_m := hs
      (repeat' (first | ((with_reducible apply WD_id); first | (refine WD_sum ?_) | (refine WD_nxt htb (by exact rfl) ?_) | (refine WD_call (by exact rfl) ?_; first | (refine WD_cM (l2Z_m) ?_)) | (refine WD_idx htb ?_)) | (with_reducible apply WA_seq) | ((with_reducible apply gR hmix hN); exact (by kernel_rfl); (try dsimp only [List.append_eq, List.cons_append, List.nil_append])) | ((with_reducible apply WD_end); (first | exact no_draw | (intro _; kernel_rfl)); try simp only [thn, inB, List.length_map, List.cons_append, List.nil_append]) | ((with_reducible apply gCt); exact rfl; exact rfl) | ((with_reducible apply gCf); exact rfl; exact rfl) | ((with_reducible apply gCk); exact rfl; exact known; intro hb; rw [hb]; clear hb) | ((with_reducible apply gCn); exact rfl; exact known; intro hb; rw [hb]; clear hb) | (with_reducible apply WA_block) | ((with_reducible first | apply WA_skip | apply WA_ret | apply WA_exit | apply WA_label); try simp only [thn, inB, List.length_map, List.cons_append, List.nil_append])))
      exact gE (.inr rfl) rfl (congrArg vI (idx_hit hI hk' hb).symm) ⟨rfl, trivial⟩
    | false =>
      rw [hb] at hs
      have l2Z_m := hs
      (repeat' (first | ((with_reducible apply WD_id); first | (refine WD_sum ?_) | (refine WD_nxt htb (by exact rfl) ?_) | (refine WD_call (by exact rfl) ?_; first | (refine WD_cM (l2Z_m) ?_)) | (refine WD_idx htb ?_)) | (with_reducible apply WA_seq) | ((with_reducible apply gR hmix hN); exact (by kernel_rfl); (try dsimp only [List.append_eq, List.cons_append, List.nil_append])) | ((with_reducible apply WD_end); (first | exact no_draw | (intro _; kernel_rfl)); try simp only [thn, inB, List.length_map, List.cons_append, List.nil_append]) | ((with_reducible apply gCt); exact rfl; exact rfl) | ((with_reducible apply gCf); exact rfl; exact rfl) | ((with_reducible apply gCk); exact rfl; exact known; intro hb; rw [hb]; clear hb) | ((with_reducible apply gCn); exact rfl; exact known; intro hb; rw [hb]; clear hb) | (with_reducible apply WA_block) | ((with_reducible first | apply WA_skip | apply WA_ret | apply WA_exit | apply WA_label); try simp only [thn, inB, List.length_map, List.cons_append, List.nil_append])))
      refine ⟨hk', idx_miss hI hk' hb, ?_⟩
      (exact LeV [])
  · have t1 : decide ((k : Int) < (l.length : Int)) = false := by simp; omega
    (repeat' (first | ((with_reducible apply WD_id); first | (refine WD_sum ?_) | (refine WD_nxt htb (by exact rfl) ?_) | (refine WD_idx htb ?_)) | (with_reducible apply WA_seq) | ((with_reducible apply gR hmix hN); exact (by kernel_rfl); (try dsimp only [List.append_eq, List.cons_append, List.nil_append])) | ((with_reducible apply WD_end); (first | exact no_draw | (intro _; kernel_rfl)); try simp only [thn, inB, List.length_map, List.cons_append, List.nil_append]) | ((with_reducible apply gCt); exact rfl; exact rfl) | ((with_reducible apply gCf); exact rfl; exact rfl) | ((with_reducible apply gCk); exact rfl; exact known; intro hb; rw [hb]; clear hb) | ((with_reducible apply gCn); exact rfl; exact known; intro hb; rw [hb]; clear hb) | (with_reducible apply WA_block) | ((with_reducible first | apply WA_skip | apply WA_ret | apply WA_exit | apply WA_label); try simp only [thn, inB, List.length_map, List.cons_append, List.nil_append])))
    exact gE (.inr rfl) rfl (congrArg vI (idx_end hI hk').symm) ⟨rfl, trivial⟩
theorem idx_anyF {l : List F5} {p : F5 → Bool} : ∀ k, 0 ≤ k → decide (idxF p k l ≥ 0) = l.any p := by
  induction l with
  | nil => intro k _; rfl
  | cons x l ih =>
    intro k h0
    rw [idxF, List.any_cons]
    split
    · rename_i h; rw [h]; simp only [Bool.true_or, decide_eq_true_eq]; omega
    · rename_i h; rw [ih (k + 1) (by omega)]; simp [h]
theorem cn2_m (s : F5) (l : List F5) (hl : l.length ≤ 1000) : FnM Tryz.prog 68 [(5, .box 3 [vI (s.val : Int)])] [.d (.rows 1 (l.map rF)), .clo 69 [.ptr 5 0]] (vB (l.any (sbsF s))) [(5, .box 3 [vI (s.val : Int)])] := by
  have e := idx_anyF (l := l) (p := sbsF s) 0 (by decide)
  refine FnM.of htb Tryz.func68 rfl rfl rfl rfl rfl fun cx hN h0 => ?_
  (repeat' (first | ((with_reducible apply WD_id); first | (refine WD_nxt htb (by exact rfl) ?_) | (refine WD_call (by exact rfl) ?_; first | (refine WD_cM (ix2_m (s := s) (l := l) ?_) ?_; (exact hyp)))) | (with_reducible apply WA_seq) | ((with_reducible apply gR hmix hN); exact (by kernel_rfl); (try dsimp only [List.append_eq, List.cons_append, List.nil_append])) | ((with_reducible apply WD_end); (first | exact no_draw | (intro _; kernel_rfl)); try simp only [thn, inB, List.length_map, List.cons_append, List.nil_append]) | (with_reducible apply WA_block) | ((with_reducible first | apply WA_skip | apply WA_ret | apply WA_exit | apply WA_label); try simp only [thn, inB, List.length_map, List.cons_append, List.nil_append])))
  exact gE (.inr rfl) rfl (congrArg vB e) ⟨rfl, trivial⟩
def lsS (o : List F5) (s : F5) : List F5 := if o.any (sbsF s) = true then o else o ++ [s]
def lsF (l : List F5) : List F5 := l.foldl lsS []
theorem lsF_snoc (l : List F5) (x : F5) : lsF (l ++ [x]) = lsS (lsF l) x := by unfold lsF; rw [List.foldl_append]; rfl
theorem lsS_len (o : List F5) (s : F5) : (lsS o s).length ≤ o.length + 1 := by unfold lsS; split <;> simp
theorem lsF_take {l : List F5} {k : Nat} (h : k < l.length) : lsF (l.take (k + 1)) = lsS (lsF (l.take k)) (nth l k) := by
  rw [List.take_succ_eq_append_getElem h, lsF_snoc, nth_getElem _ _ h]
theorem lsF_len (l : List F5) : ∀ k, k ≤ l.length → (lsF (l.take k)).length ≤ k
  | 0, _ => by simp [lsF]
  | k + 1, h => by
    have ih := lsF_len l k (by omega)
    have := lsS_len (lsF (l.take k)) (nth l k)
    rw [lsF_take (by omega)]; omega
set_option maxHeartbeats 2000000 in
theorem least_m (l : List F5) (hl : l.length ≤ 1000) : FnM Tryz.prog 36 [] [.d (.rows 1 (l.map rF))] (.d (.rows 1 ((lsF (srtS l)).map rF))) [] := by
  have hsl := srtS_len l
  refine FnM.of htb Tryz.func36 rfl rfl rfl rfl rfl fun cx hN h0 => ?_
  (repeat' (first | ((with_reducible apply WD_id); first | (refine WD_sum ?_) | (refine WD_nxt htb (by exact rfl) ?_) | (refine WD_call (by exact rfl) ?_; first | (refine WD_cM (cloO_m _ ?_) ?_; (exact hyp)) | (refine WD_cM (del1_m _ ?_) ?_; (exact hyp)) | (refine WD_cM (sortS_m _ ?_) ?_; (exact hyp))) | (refine WD_idxo htb ?_) | (refine WD_lde1 htb ?_) | (refine WD_ap htb ?_)) | (with_reducible apply WA_seq) | ((with_reducible apply gR hmix hN); exact (by kernel_rfl); (try dsimp only [List.append_eq, List.cons_append, List.nil_append])) | ((with_reducible apply WD_end); (first | exact no_draw | (intro _; kernel_rfl)); try simp only [thn, inB, List.length_map, List.cons_append, List.nil_append]) | ((with_reducible apply gCt); exact rfl; exact rfl) | ((with_reducible apply gCf); exact rfl; exact rfl) | ((with_reducible apply gCk); exact rfl; exact known; intro hb; rw [hb]; clear hb) | ((with_reducible apply gCn); exact rfl; exact known; intro hb; rw [hb]; clear hb) | (with_reducible apply WA_block) | ((with_reducible first | apply WA_skip | apply WA_ret | apply WA_exit | apply WA_label); try simp only [thn, inB, List.length_map, List.cons_append, List.nil_append])))
  generalize srtS l = s at *
  have hs : s.length ≤ 1000 := by omega
  refine WA_le (Le_nilT 60 3 3 1 rfl rfl) ?_
  (refine WA_forV (s.length) [13, 3, 0] [7, 60] (fun k => [(13, vI k), (3, .own 60)]) (fun k => [(7, .arr 3 1 (s.map rF)), (60, .arr 3 1 ((lsF (s.take k)).map rF))]) (fun k => True) ?h0 ?_)
  case h0 => trivial
  intro k hk _
  have hol := lsF_len s k hk
  rcases Nat.lt_or_ge k s.length with hk' | hk'
  · have t1 : decide ((k : Int) < (s.length : Int)) = true := by simp; omega
    have hst := lsF_take hk'
    have hc := cn2_m (nth s k) (lsF (s.take k)) (by omega)
    rw [hst]
    generalize lsF (s.take k) = o at *
    unfold lsS
    cases hb : o.any (sbsF (nth s k)) with
    | true =>
      rw [hb] at hc
      have cnZ_m := hc
      have t2 : (!true) = false := rfl
      rw [if_pos rfl]
      (repeat' (first | ((with_reducible apply WD_id); first | (refine WD_sum ?_) | (refine WD_nxt htb (by exact rfl) ?_) | (refine WD_call (by exact rfl) ?_; first | (refine WD_cM (cnZ_m) ?_)) | (refine WD_idxo htb ?_) | (refine WD_lde1 htb ?_) | (refine WD_ap htb ?_)) | (with_reducible apply WA_seq) | ((with_reducible apply gR hmix hN); exact (by kernel_rfl); (try dsimp only [List.append_eq, List.cons_append, List.nil_append])) | ((with_reducible apply WD_end); (first | exact no_draw | (intro _; kernel_rfl)); try simp only [thn, inB, List.length_map, List.cons_append, List.nil_append]) | ((with_reducible apply gCt); exact rfl; exact rfl) | ((with_reducible apply gCf); exact rfl; exact rfl) | ((with_reducible apply gCk); exact rfl; exact known; intro hb; rw [hb]; clear hb) | ((with_reducible apply gCn); exact rfl; exact known; intro hb; rw [hb]; clear hb) | (with_reducible apply WA_block) | ((with_reducible first | apply WA_skip | apply WA_ret | apply WA_exit | apply WA_label); try simp only [thn, inB, List.length_map, List.cons_append, List.nil_append])))
      refine ⟨hk', trivial, ?_⟩
      (exact LeV [])
    | false =>
      rw [hb] at hc
      have cnZ_m := hc
      have t2 : (!false) = true := rfl
      rw [if_neg (by simp)]
      (repeat' (first | ((with_reducible apply WD_id); first | (refine WD_sum ?_) | (refine WD_nxt htb (by exact rfl) ?_) | (refine WD_call (by exact rfl) ?_; first | (refine WD_cM (cnZ_m) ?_)) | (refine WD_idxo htb ?_) | (refine WD_lde1 htb ?_) | (refine WD_ap htb ?_)) | (with_reducible apply WA_seq) | ((with_reducible apply gR hmix hN); exact (by kernel_rfl); (try dsimp only [List.append_eq, List.cons_append, List.nil_append])) | ((with_reducible apply WD_end); (first | exact no_draw | (intro _; kernel_rfl)); try simp only [thn, inB, List.length_map, List.cons_append, List.nil_append]) | ((with_reducible apply gCt); exact rfl; exact rfl) | ((with_reducible apply gCf); exact rfl; exact rfl) | ((with_reducible apply gCk); exact rfl; exact known; intro hb; rw [hb]; clear hb) | ((with_reducible apply gCn); exact rfl; exact known; intro hb; rw [hb]; clear hb) | (with_reducible apply WA_block) | ((with_reducible first | apply WA_skip | apply WA_ret | apply WA_exit | apply WA_label); try simp only [thn, inB, List.length_map, List.cons_append, List.nil_append])))
      refine ⟨hk', trivial, ?_⟩
      rw [List.map_append]
      (exact LeV [(60, 24)])
  · have t1 : decide ((k : Int) < (s.length : Int)) = false := by simp; omega
    have e1 : s.take k = s := take_all hk'
    rw [e1]
    (repeat' (first | ((with_reducible apply WD_id); first | (refine WD_sum ?_) | (refine WD_nxt htb (by exact rfl) ?_) | (refine WD_idxo htb ?_) | (refine WD_lde1 htb ?_) | (refine WD_ap htb ?_)) | (with_reducible apply WA_seq) | ((with_reducible apply gR hmix hN); exact (by kernel_rfl); (try dsimp only [List.append_eq, List.cons_append, List.nil_append])) | ((with_reducible apply WD_end); (first | exact no_draw | (intro _; kernel_rfl)); try simp only [thn, inB, List.length_map, List.cons_append, List.nil_append]) | ((with_reducible apply gCt); exact rfl; exact rfl) | ((with_reducible apply gCf); exact rfl; exact rfl) | ((with_reducible apply gCk); exact rfl; exact known; intro hb; rw [hb]; clear hb) | ((with_reducible apply gCn); exact rfl; exact known; intro hb; rw [hb]; clear hb) | (with_reducible apply WA_block) | ((with_reducible first | apply WA_skip | apply WA_ret | apply WA_exit | apply WA_label); try simp only [thn, inB, List.length_map, List.cons_append, List.nil_append])))
    (exact glV [(2, .d (.rows 1 ((lsF s).map rF)))] [] (LeV []))
def minI (c : List Mb) : List Int := (lsF (srtS (quoF c))).map fun x => (x.val : Int)
theorem minI_rows (c : List Mb) : (minI c).map rI = (lsF (srtS (quoF c))).map rF := by unfold minI; rw [List.map_map]; rfl
theorem minI_len {c : List Mb} (h : c.length ≤ 5) : (minI c).length ≤ 1000 := by
  have h1 := lsF_len (srtS (quoF c)) (srtS (quoF c)).length (Nat.le_refl _)
  rw [List.take_length, srtS_len] at h1
  have h2 : (quoF c).length ≤ 2 ^ c.length := by unfold quoF; rw [List.length_map]; exact quoL_len c _
  have hp : 2 ^ c.length ≤ 32 := Nat.pow_le_pow_right (by decide) h
  unfold minI; rw [List.length_map]; omega
theorem mini_m (c : List Mb) (hc : (OkC c ∧ c.length ≤ 5) ∧ valC c = 0) : FnM Tryz.prog 18 [] [aCf c] (.tup [lI (minI c), vI 0]) [] := by
  obtain ⟨hc, hv⟩ := hc
  have hc1 := hc.1
  have t1 : (valC c != 0) = false := by rw [hv]; rfl
  have hp : 2 ^ c.length ≤ 32 := Nat.pow_le_pow_right (by decide) hc.2
  have hq : (quoF c).length ≤ 1000 := by
    have : (quoF c).length ≤ 2 ^ c.length := by unfold quoF; rw [List.length_map]; exact quoL_len c _
    omega
  show FnM _ _ _ _ (.tup [.d (.rows 1 ((minI c).map rI)), vI 0]) _
  rw [minI_rows]
  refine FnM.of htb Tryz.func18 rfl rfl rfl rfl rfl fun cx hN h0 => ?_
  (repeat' (first | ((with_reducible apply WD_id); first | (refine WD_nxt htb (by exact rfl) ?_) | (refine WD_call (by exact rfl) ?_; first | (refine WD_c0 (valC_m _ ?_) ?_; (exact hyp)) | (refine WD_c0 (all_q (c := c) ?_) ?_; (exact hyp)) | (refine WD_c0 (least_m (l := quoF c) ?_) ?_; (exact hyp)))) | (with_reducible apply WA_seq) | ((with_reducible apply gR hmix hN); exact (by kernel_rfl); (try dsimp only [List.append_eq, List.cons_append, List.nil_append])) | ((with_reducible apply WD_end); (first | exact no_draw | (intro _; kernel_rfl)); try simp only [thn, inB, List.length_map, List.cons_append, List.nil_append]) | ((with_reducible apply gCf); exact rfl; exact rfl) | ((with_reducible apply gCn); exact rfl; exact known; intro hb; rw [hb]; clear hb) | (with_reducible apply WA_block) | ((with_reducible first | apply WA_skip | apply WA_ret | apply WA_exit | apply WA_label); try simp only [thn, inB, List.length_map, List.cons_append, List.nil_append])))
  exact gE (.inr rfl) rfl rfl trivial
end Go.Proofs.YtkjpnmodlmlhdaaGreatDoor
