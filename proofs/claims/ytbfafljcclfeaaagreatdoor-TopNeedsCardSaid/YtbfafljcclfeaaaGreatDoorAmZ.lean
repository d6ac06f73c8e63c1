/- Nothing is claimed here: parts of slices: cut, copied into, appended to in place; spare cells. -/
import Derived.Test.YtbfafljcclfeaaaGreatDoorAmP
import Derived.Test.YtbfafljcclfeaaaGreatDoorAmM
import Derived.Test.YtbfafljcclfeaaaGreatDoorW0
namespace Go.Am
set_option linter.unusedSimpArgs false
set_option linter.unusedVariables false
set_option linter.unnecessarySimpa false
set_option linter.unusedSectionVars false
set_option maxRecDepth 100000
open Go Go.RowKit Go.Proofs.Grow
section
variable {P : Program} {tbl : List (Nat × TI)} {ops r : List Oper} {o : Oper} {fin : List (List Nat × List Nat) → List (Nat × AV) → List (Nat × AO) → Prop} {acc : List (List Nat × List Nat)} {T : List (Nat × AV)} {M : List (Nat × AO)}
theorem partx {rs : List (List D)} {y : AV} {g sz lo n : Nat} {c : Option Nat} (h : Part rs y g sz lo n c := by first | exact Part.own | exact Part.sl) : Part rs y g sz lo n c := h
def AV.home : AV → Option Nat
  | .own g => some g
  | .sl g _ _ _ _ => some g
  | _ => none
theorem mkx {M : Nat → Option AO} {g ty sz : Nat} {c : Option Nat} {rs : List (List D)} (h : M g = some (mkO ty sz c rs) := by first | exact (rfl : _ = some (mkO _ _ none _)) | exact (rfl : _ = some (mkO _ _ (some _) _))) : M g = some (mkO ty sz c rs) := h
theorem ownx {y : AV} {c : Option Nat} (h : ∀ g, y = .own g → c = none := by first | exact fun _ _ => rfl | (intro g e; cases e)) : ∀ g, y = .own g → c = none := h
theorem nonex {c : Option Nat} {p : Prop} (h : c = none → p := by first | exact fun _ => len | (intro e; cases e)) : c = none → p := h
theorem fitx {c : Option Nat} {b n : Nat} (h : b ≤ n ∨ ∃ q, c = some q ∧ b ≤ q := by first | exact Or.inl len | exact Or.inr ⟨_, rfl, len⟩) : b ≤ n ∨ ∃ q, c = some q ∧ b ≤ q := h
theorem WD_cut (htb : TOK P tbl) {dd : Tmp} {ty e ety : TypeId} {x : Operand} {lo hi : Option Operand} {i j : TI} {g sz l0 n a b : Nat} {c c' : Option Nat} {y : AV} {rs : List (List D)} (k : WD P ops fin r (([g], []) :: acc) ((dd, .sl g sz (l0 + a) (b - a) (c.map (· - a))) :: T) M) (ho : o.op = .slice ty x lo hi none := by exact rfl)
    (hgu : gd ops T o = some true := by exact rfl) (hd : o.dst = some dd := by exact rfl) (ht : lk tbl ty = some i := by exact rfl) (hs : i.isS = true := by exact rfl) (he : i.el = some e := by exact rfl) (hj : lk tbl e = some j := by exact rfl) (hsz : j.size = sz := by exact rfl)
    (hx : evA (lk T) x = some y := by exact rfl) (hh : y.home = some g := by exact rfl) (hg : lk M g = some (mkO ety sz c' rs) := by exact mkx) (hp : Part rs y g sz l0 n c := by exact partx) (hown : ∀ g', y = .own g' → c' = none := by exact ownx) (hlo : bdA (lk T) lo 0 a := by exact bdx) (hhi : bdA (lk T) hi n b := by exact bdx) (hb : b ≤ n ∨ ∃ q, c = some q ∧ b ≤ q := by exact fitx) (hab : a ≤ b := by exact len) : WD P ops fin (o :: r) acc T M :=
  WD_dv hgu hd (step_cut htb ho ht hs he hj hsz hx hp hg hown hlo hhi hb hab rfl) k
theorem WD_cut3 (htb : TOK P tbl) {dd : Tmp} {ty e ety : TypeId} {x z : Operand} {lo hi : Option Operand} {i j : TI} {g sz l0 n a b m : Nat} {k0 : IntKind} {qz : Int} {c c' : Option Nat} {y : AV} {rs : List (List D)} (k : WD P ops fin r (([g], []) :: acc) ((dd, .sl g sz (l0 + a) (b - a) none) :: T) M) (ho : o.op = .slice ty x lo hi (some z) := by exact rfl)
    (hgu : gd ops T o = some true := by exact rfl) (hd : o.dst = some dd := by exact rfl) (ht : lk tbl ty = some i := by exact rfl) (hs : i.isS = true := by exact rfl) (he : i.el = some e := by exact rfl) (hj : lk tbl e = some j := by exact rfl) (hsz : j.size = sz := by exact rfl)
    (hx : evA (lk T) x = some y := by exact rfl) (hh : y.home = some g := by exact rfl) (hg : lk M g = some (mkO ety sz c' rs) := by exact mkx) (hp : Part rs y g sz l0 n c := by exact partx) (hown : ∀ g', y = .own g' → c' = none := by exact ownx) (hlo : bdA (lk T) lo 0 a := by exact bdx) (hi2 : hi.isSome = true := by exact rfl) (hhi : bdA (lk T) hi n b := by exact bdx)
    (hz : evA (lk T) z = some (.d (.v (.int k0 qz))) := by exact rfl) (hq : qz = (m : Int) := by exact nat_q) (hab : a ≤ b := by exact len) (hbm : b ≤ m := by exact len) (hmn : m ≤ n := by exact len) : WD P ops fin (o :: r) acc T M :=
  WD_dv hgu hd (step_cut3 htb ho ht hs he hj hsz hx hp hg hown hlo hi2 hhi (by rw [hz, hq]) hab hbm hmn) k
theorem WD_lens (htb : TOK P tbl) {d : Tmp} {ty e : TypeId} {x : Operand} {i : TI} {g sz lo n : Nat} {c : Option Nat} (k : WD P ops fin r (([], []) :: acc) ((d, .d (.v (.int .i64 (n : Int)))) :: T) M) (ho : o.op = .call { callee := .builtin .len, args := #[x], argTypes := #[ty] } := by exact rfl)
    (hgu : gd ops T o = some true := by exact rfl) (hd : o.dst = some d := by exact rfl) (ht : lk tbl ty = some i := by exact rfl) (hs : i.isS = true := by exact rfl) (he : i.el = some e := by exact rfl) (hx : evA (lk T) x = some (.sl g sz lo n c) := by exact rfl) : WD P ops fin (o :: r) acc T M :=
  WD_dv hgu hd (step_len_sl htb ho ht hs he hx) k
theorem WD_caps (htb : TOK P tbl) {d : Tmp} {ty e : TypeId} {x : Operand} {i : TI} {g sz lo n c : Nat} (k : WD P ops fin r (([], []) :: acc) ((d, .d (.v (.int .i64 (c : Int)))) :: T) M) (ho : o.op = .call { callee := .builtin .cap, args := #[x], argTypes := #[ty] } := by exact rfl)
    (hgu : gd ops T o = some true := by exact rfl) (hd : o.dst = some d := by exact rfl) (ht : lk tbl ty = some i := by exact rfl) (hs : i.isS = true := by exact rfl) (he : i.el = some e := by exact rfl) (hx : evA (lk T) x = some (.sl g sz lo n (some c)) := by exact rfl) : WD P ops fin (o :: r) acc T M :=
  WD_dv hgu hd (step_cap_sl htb ho ht hs he hx) k
theorem WD_cps (htb : TOK P tbl) {dd : Tmp} {s x : Operand} {t e : TypeId} {i j : TI} {g sz lo nd : Nat} {c c' : Option Nat} {y : AV} {L : List Nat} {rs rs2 : List (List D)} (k : WD P ops fin r ((g :: L, [g]) :: acc) ((dd, .d (.v (.int .i64 (rs2.length : Int)))) :: T) ((g, mkO e sz c' (rs.take lo ++ rs2 ++ rs.drop (lo + rs2.length))) :: M))
    (ho : o.op = .call { callee := .builtin .copy, args := #[s, x], argTypes := #[t, t] } := by exact rfl) (hgu : gd ops T o = some true := by exact rfl) (hd : o.dst = some dd := by exact rfl) (ht : lk tbl t = some i := by exact rfl) (hs : i.isS = true := by exact rfl) (he : i.el = some e := by exact rfl) (hj : lk tbl e = some j := by exact rfl)
    (hpos : Nat.blt 0 j.size = true := by exact rfl) (hsz : j.size = sz := by exact rfl) (hsv : evA (lk T) s = some y := by exact rfl) (hh : y.home = some g := by exact rfl) (hg : lk M g = some (mkO e sz c' rs) := by exact mkx) (hp : Part rs y g sz lo nd c := by exact partx) (hown : ∀ g', y = .own g' → c' = none := by exact ownx)
    (hsrc : Src (lk T) (lk M) e sz x L rs2 := by exact srcx) (hk : rs2.length ≤ nd := by exact len) (hlo : lo ≤ rs.length := by exact len) (hno : c' = none → lo + rs2.length ≤ rs.length := by exact nonex) : WD P ops fin (o :: r) acc T M :=
  WD_do hgu hd (step_copy htb ho ht hs he hj hpos hsz hsv hp hg hown (.src hsrc) (Nat.min_eq_left hk) hlo hno) k
theorem WD_cpp (htb : TOK P tbl) {dd : Tmp} {s x : Operand} {t e : TypeId} {i j : TI} {g sz lo nd g2 lo2 n2 : Nat} {c c' c2 c2' : Option Nat} {y : AV} {rs rs2 : List (List D)} (k : WD P ops fin r (([g, g2], [g]) :: acc) ((dd, .d (.v (.int .i64 (((rs2.drop lo2).take (min n2 nd)).length : Int)))) :: T) ((g, mkO e sz c' (rs.take lo ++ (rs2.drop lo2).take (min n2 nd) ++ rs.drop (lo + ((rs2.drop lo2).take (min n2 nd)).length))) :: M))
    (ho : o.op = .call { callee := .builtin .copy, args := #[s, x], argTypes := #[t, t] } := by exact rfl) (hgu : gd ops T o = some true := by exact rfl) (hd : o.dst = some dd := by exact rfl) (ht : lk tbl t = some i := by exact rfl) (hs : i.isS = true := by exact rfl) (he : i.el = some e := by exact rfl) (hj : lk tbl e = some j := by exact rfl)
    (hpos : Nat.blt 0 j.size = true := by exact rfl) (hsz : j.size = sz := by exact rfl) (hsv : evA (lk T) s = some y := by exact rfl) (hh : y.home = some g := by exact rfl) (hg : lk M g = some (mkO e sz c' rs) := by exact mkx) (hp : Part rs y g sz lo nd c := by exact partx) (hown : ∀ g', y = .own g' → c' = none := by exact ownx)
    (hx : evA (lk T) x = some (.sl g2 sz lo2 n2 c2) := by exact rfl) (hg2 : lk M g2 = some (mkO e sz c2' rs2) := by exact mkx) (hk : lo2 + min n2 nd ≤ rs2.length := by exact len) (hlo : lo ≤ rs.length := by exact len) (hno : c' = none → lo + min n2 nd ≤ rs.length := by exact nonex) : WD P ops fin (o :: r) acc T M := by
  have hl : ((rs2.drop lo2).take (min n2 nd)).length = min n2 nd := by simp only [List.length_take, List.length_drop]; omega
  exact WD_do hgu hd (step_copy htb ho ht hs he hj hpos hsz hsv hp hg hown (.part (min n2 nd) hx hg2 (Nat.min_le_left _ _) hk) hl.symm hlo (fun e => by rw [hl]; exact hno e)) k
theorem WD_api (htb : TOK P tbl) {dd : Tmp} {s x : Operand} {t e : TypeId} {i j : TI} {g sz lo n q g2 lo2 n2 : Nat} {c' c2 c2' : Option Nat} {rs rs2 : List (List D)} (k : WD P ops fin r (([g, g2], [g]) :: acc) ((dd, .sl g sz lo (n + ((rs2.drop lo2).take n2).length) (some q)) :: T) ((g, mkO e sz c' (rs.take (lo + n) ++ (rs2.drop lo2).take n2 ++ rs.drop (lo + n + ((rs2.drop lo2).take n2).length))) :: M))
    (ho : o.op = .call { callee := .builtin .append, args := #[s, x], argTypes := #[t, t] } := by exact rfl) (hgu : gd ops T o = some true := by exact rfl) (hd : o.dst = some dd := by exact rfl) (ht : lk tbl t = some i := by exact rfl) (hs : i.isS = true := by exact rfl) (he : i.el = some e := by exact rfl) (hj : lk tbl e = some j := by exact rfl)
    (hpos : Nat.blt 0 j.size = true := by exact rfl) (hsz : j.size = sz := by exact rfl) (hsv : evA (lk T) s = some (.sl g sz lo n (some q)) := by exact rfl) (hg : lk M g = some (mkO e sz c' rs) := by exact mkx)
    (hx : evA (lk T) x = some (.sl g2 sz lo2 n2 c2) := by exact rfl) (hg2 : lk M g2 = some (mkO e sz c2' rs2) := by exact mkx) (hk : lo2 + n2 ≤ rs2.length := by exact len) (hroom : n + n2 ≤ q := by exact len) (hlo : lo + n ≤ rs.length := by exact len) (hno : c' = none → lo + n + n2 ≤ rs.length := by exact nonex) : WD P ops fin (o :: r) acc T M := by
  have hl : ((rs2.drop lo2).take n2).length = n2 := by simp only [List.length_take, List.length_drop]; omega
  exact WD_do hgu hd (step_app_in htb ho ht hs he hj hpos hsz hsv hg (.part n2 hx hg2 (Nat.le_refl _) hk) hl.symm hroom hlo hno) k
theorem WD_apz (htb : TOK P tbl) {dd : Tmp} {s x : Operand} {t tn e : TypeId} {i j jn : TI} {kn kq : IntKind} {g sz lo n q m : Nat} {qv : Int} {c' : Option Nat} {rs : List (List D)} (k : WD P ops fin r (([dd, g], [dd]) :: acc) ((dd, .own dd) :: T) ((dd, .arr e sz ((rs.drop lo).take n ++ List.replicate m (j.zero.map .v))) :: M))
    (ho : o.op = .call { callee := .builtin .append, args := #[s, x], argTypes := #[t, tn] } := by exact rfl) (hgu : gd ops T o = some true := by exact rfl) (hd : o.dst = some dd := by exact rfl) (ht : lk tbl t = some i := by exact rfl) (hs : i.isS = true := by exact rfl) (he : i.el = some e := by exact rfl) (hj : lk tbl e = some j := by exact rfl)
    (htn : lk tbl tn = some jn := by exact rfl) (hkn : jn.ik = some kn := by exact rfl) (hpos : Nat.blt 0 j.size = true := by exact rfl) (hzl : Nat.beq j.zero.length j.size = true := by exact rfl) (hone : j.zero.all Value.oneCell' = true := by exact rfl) (hsz : j.size = sz := by exact rfl)
    (hsv : evA (lk T) s = some (.sl g sz lo n (some q)) := by exact rfl) (hg : lk M g = some (mkO e sz c' rs) := by exact mkx) (hln : lo + n ≤ rs.length := by exact len) (hx : evA (lk T) x = some (.d (.v (.int kq qv))) := by exact rfl) (hq : qv = (m : Int) := by exact nat_q)
    (hm : 0 < m := by exact len) (hgr : q < n + m := by exact len) (hg' : lk M dd = none := by exact rfl) (hb : (n + m) * j.bytes ≤ 140737488355328 := by exact len) (h63 : n + m ≤ maxLen := by exact len) : WD P ops fin (o :: r) acc T M :=
  WD_do hgu hd (step_app_zeros htb dd ho ht hs he hj htn hkn hpos hzl hone hsz hsv hg hln hx hq hm hgr hg' hb h63) k
theorem WD_clr (htb : TOK P tbl) {x : Operand} {t e : TypeId} {i j : TI} {g sz lo n : Nat} {c c' : Option Nat} {rs : List (List D)} (k : WD P ops fin r (([g], [g]) :: acc) T ((g, mkO e sz c' (rs.take lo ++ List.replicate n (j.zero.map .v) ++ rs.drop (lo + n))) :: M))
    (ho : o.op = .call { callee := .builtin .clear, args := #[x], argTypes := #[t] } := by exact rfl) (hgu : gd ops T o = some true := by exact rfl) (hd : o.dst = none := by exact rfl) (ht : lk tbl t = some i := by exact rfl) (hs : i.isS = true := by exact rfl) (he : i.el = some e := by exact rfl) (hj : lk tbl e = some j := by exact rfl)
    (hpos : Nat.blt 0 j.size = true := by exact rfl) (hzl : Nat.beq j.zero.length j.size = true := by exact rfl) (hone : j.zero.all Value.oneCell' = true := by exact rfl) (hsz : j.size = sz := by exact rfl) (hx : evA (lk T) x = some (.sl g sz lo n c) := by exact rfl) (hg : lk M g = some (mkO e sz c' rs) := by exact mkx) (hlo : lo + n ≤ rs.length := by exact len) : WD P ops fin (o :: r) acc T M :=
  WD_dn hgu hd (step_clear htb ho ht hs he hj hpos hzl hone hsz hx hg hlo) k
theorem WD_ovl (htb : TOK P tbl) {dd : Tmp} {f : FuncId} {fn : Func} {x y : Operand} {t e : TypeId} {i j : TI} {gx g sz lo n : Nat} {c c' : Option Nat} {rs rs2 : List (List D)} (hf : P.funcs[f]? = some fn) (tR : TypeId) (hname : (fn.name == "runtime.NumGoroutine") = false) (hb : fn.body.isNone = true) (hn : Extern.findNext fn = none) (hfd : Extern.find fn = some (Extern.SlicesOverlaps.overlaps #[t, t] #[tR]))
    (k : WD P ops fin r (([gx, g], []) :: acc) ((dd, .d (.v (.bool false))) :: T) M) (ho : o.op = .call { callee := .value (.func f), args := #[x, y], argTypes := #[t, t] } := by exact rfl) (hgu : gd ops T o = some true := by exact rfl) (hd : o.dst = some dd := by exact rfl)
    (ht : lk tbl t = some i := by exact rfl) (hs : i.isS = true := by exact rfl) (he : i.el = some e := by exact rfl) (hj : lk tbl e = some j := by exact rfl) (hpos : Nat.blt 0 j.size = true := by exact rfl) (hsz : j.size = sz := by exact rfl)
    (hx : evA (lk T) x = some (.own gx) := by exact rfl) (hgx : lk M gx = some (.arr e sz rs2) := by exact rfl) (hy : evA (lk T) y = some (.sl g sz lo n c) := by exact rfl) (hg : lk M g = some (mkO e sz c' rs) := by exact mkx) (hne : Nat.beq gx g = false := by exact rfl) (hln : 0 < n := by exact len) (hl2 : 0 < rs2.length := by exact len) : WD P ops fin (o :: r) acc T M :=
  WD_dv hgu hd (step_overlaps htb ho hf hname hb hn hfd ht hs he hj hpos hsz hx hgx hy hg hne hln hl2) k
theorem WD_bso (htb : TOK P tbl) {d : Tmp} {ty e : TypeId} {len : Nat} {parts : Array (Nat × Operand)} {i j : TI} {ps : List (Nat × AV)} {cs : List AV} {rs : List (List D)} (k : WD P ops fin r (([d], [d]) :: acc) ((d, .own d) :: T) ((d, .arr e j.size rs) :: M)) (ho : o.op = .buildSlice ty len parts := by exact rfl) (hgu : gd ops T o = some true := by exact rfl) (hd : o.dst = some d := by exact rfl)
    (ht : lk tbl ty = some i := by exact rfl) (hs : i.isS = true := by exact rfl) (he : i.el = some e := by exact rfl) (hj : lk tbl e = some j := by exact rfl) (hpos : Nat.blt 0 j.size = true := by exact rfl) (hlen : Nat.ble (len * j.size) 16777216 = true := by exact rfl) (hone : j.zero.all Value.oneCell' = true := by exact rfl) (hzl : Nat.beq j.zero.length j.size = true := by exact rfl)
    (hp : evP (lk T) parts.toList = some ps := by exact rfl) (hf : fillA (fun k => some (k * j.size, j.size)) (zeroR j.zero (len * j.size)) ps = some cs := by exact rfl) (hc : chunkD j.size len cs = some rs := by exact rfl) (hg : lk M d = none := by exact rfl) : WD P ops fin (o :: r) acc T M :=
  WD_do hgu hd (go_buildSlice htb d ho ht hs he hj hpos hlen hone hzl hp hf hc hg) k
end
end Go.Am

/- Nothing is claimed here: one step of a walk, its rule found by itself. -/
namespace Go.Proofs.YtbfafljcclfeaaaGreatDoor
set_option linter.unusedSimpArgs false
set_option linter.unusedVariables false
set_option linter.unnecessarySimpa false
set_option linter.unusedSectionVars false
set_option maxRecDepth 100000
open Go Go.RowKit Go.Am Go.Proofs.Grow

/-- What is left, hidden from 'assumption'. -/
structure Kx (B : Prop) : Prop where
  x : B
theorem nx {A B : Prop} (b : B) (h : Kx B → A := by
    intro k
    first
    | ((with_reducible apply WD_id); first
        | (refine WD_sum ?_; exact k.x)
        | ((with_reducible apply WD_nxt htb); exact rfl; exact k.x)
        | (refine WD_unk ?_ ?_; exact rfl; first
            | ((with_reducible apply WD_t); exact rfl; exact rfl; exact known; intro hb; rw [hb]; exact k.x)
            | ((with_reducible apply WD_f); exact rfl; exact rfl; exact known; intro hb; rw [hb]; exact k.x))
        | (refine WD_idx htb ?_; exact k.x)
        | (refine WD_idxo htb ?_; exact k.x)
        | (refine WD_lde1 htb ?_; exact k.x)
        | (refine WD_lde htb ?_; exact k.x)
        | (refine WD_ste htb ?_; exact k.x)
        | (refine WD_ap htb ?_; exact k.x)
        | (refine WD_ap0 htb ?_; exact k.x)
        | (refine WD_nil htb ?_; exact k.x)
        | (refine WD_nilr htb ?_; exact k.x)
        | (refine WD_rem ?_; exact k.x)
        | (refine WD_quo ?_; exact k.x)
        | (refine WD_slc htb ?_; exact k.x)
        | (refine WD_ixa htb ?_; exact k.x)
        | (refine WD_ix1 htb ?_; exact k.x)
        | ((with_reducible apply WD_t); exact rfl; exact rfl; exact known; intro hb; rw [hb]; exact k.x)
        | ((with_reducible apply WD_f); exact rfl; exact rfl; exact known; intro hb; rw [hb]; exact k.x))
    | ((with_reducible apply WA_seq); exact k.x)
    | ((with_reducible apply gR hmix); assumption; kernel_rfl; (try dsimp only [List.append_eq, List.cons_append, List.nil_append]); exact k.x)
    | ((with_reducible refine WD_end ?_ ?_); (first | exact no_draw | (intro _; kernel_rfl)); (try simp only [thn, inB, List.length_map, List.cons_append, List.nil_append]); exact k.x)
    | ((with_reducible apply gCt); exact rfl; exact rfl; exact k.x)
    | ((with_reducible apply gCf); exact rfl; exact rfl; exact k.x)
    | ((with_reducible apply gCk); exact rfl; exact known; intro hb; rw [hb]; exact k.x)
    | ((with_reducible apply gCn); exact rfl; exact known; intro hb; rw [hb]; exact k.x)
    | ((with_reducible apply WA_block); exact k.x)
    | ((with_reducible first | apply WA_skip | apply WA_ret | apply WA_exit | apply WA_label); (try simp only [thn, inB, List.length_map, List.cons_append, List.nil_append]); exact k.x)) : A := h ⟨b⟩
end Go.Proofs.YtbfafljcclfeaaaGreatDoor
