import Derived.Test.YtdhogcklnehdhaaGreatDoorRAD
import Derived.Test.YtdhogcklnehdhaaGreatDoorRAA
namespace Go.Am
set_option linter.unusedSimpArgs false
set_option linter.unusedVariables false
set_option linter.unnecessarySimpa false
set_option linter.unusedSectionVars false
set_option maxRecDepth 100000
open Go Go.RowKit Go.Proofs.Grow
section
variable {P : Program} {tbl : List (Nat × TI)} {ops r : List Oper} {o : Oper} {fin : List (List Nat × List Nat) → List (Nat × AV) → List (Nat × AO) → Prop} {acc : List (List Nat × List Nat)} {T : List (Nat × AV)} {M : List (Nat × AO)}
theorem partx {rs : List (List D)} {y : AV} {g sz lo n : Nat} {c : Option Nat} (h : Part rs y g sz lo n c := by first | exact Part.own | exact Part.sl) : Part rs y g sz lo n c := h
def AV.home : AV → Option Nat
  | .own g => some g
  | .sl g _ _ _ _ => some g
  | _ => none
theorem mkx {M : Nat → Option AO} {g ty sz : Nat} {c : Option Nat} {rs : List (List D)} (h : M g = some (mkO ty sz c rs) := by first | exact (rfl : _ = some (mkO _ _ none _)) | exact (rfl : _ = some (mkO _ _ (some _) _))) : M g = some (mkO ty sz c rs) := h
theorem ownx {y : AV} {c : Option Nat} (h : ∀ g, y = .own g → c = none := by first | exact fun _ _ => rfl | (intro g e; cases e)) : ∀ g, y = .own g → c = none := h
theorem nonex {c : Option Nat} {p : Prop} (h : c = none → p := by first | exact fun _ => len | (intro e; cases e)) : c = none → p := h
theorem fitx {c : Option Nat} {b n : Nat} (h : b ≤ n ∨ ∃ q, c = some q ∧ b ≤ q := by first | exact Or.inl len | exact Or.inr ⟨_, rfl, len⟩) : b ≤ n ∨ ∃ q, c = some q ∧ b ≤ q := h
theorem WD_cut (htb : TOK P tbl) {dd : Tmp} {ty e ety : TypeId} {x : Operand} {lo hi : Option Operand} {i j : TI} {g sz l0 n a b : Nat} {c c' : Option Nat} {y : AV} {rs : List (List D)} (k : WD P ops fin r (([g], []) :: acc) ((dd, .sl g sz (l0 + a) (b - a) (c.map (· - a))) :: T) M) (ho : o.op = .slice ty x lo hi none := by exact rfl)
    (hgu : gd ops T o = some true := by exact rfl) (hd : o.dst = some dd := by exact rfl) (ht : lk tbl ty = some i := by exact rfl) (hs : i.isS = true := by exact rfl) (he : i.el = some e := by exact rfl) (hj : lk tbl e = some j := by exact rfl) (hsz : j.size = sz := by exact rfl)
    (hx : evA (lk T) x = some y := by exact rfl) (hh : y.home = some g := by exact rfl) (hg : lk M g = some (mkO ety sz c' rs) := by exact mkx) (hp : Part rs y g sz l0 n c := by exact partx) (hown : ∀ g', y = .own g' → c' = none := by exact ownx) (hlo : bdA (lk T) lo 0 a := by exact bdx) (hhi : bdA (lk T) hi n b := by exact bdx) (hb : b ≤ n ∨ ∃ q, c = some q ∧ b ≤ q := by exact fitx) (hab : a ≤ b := by exact len) : WD P ops fin (o :: r) acc T M :=
  WD_dv hgu hd (step_cut htb ho ht hs he hj hsz hx hp hg hown hlo hhi hb hab rfl) k
theorem WD_cut3 (htb : TOK P tbl) {dd : Tmp} {ty e ety : TypeId} {x z : Operand} {lo hi : Option Operand} {i j : TI} {g sz l0 n a b m : Nat} {k0 : IntKind} {qz : Int} {c c' : Option Nat} {y : AV} {rs : List (List D)} (k : WD P ops fin r (([g], []) :: acc) ((dd, .sl g sz (l0 + a) (b - a) none) :: T) M) (ho : o.op = .slice ty x lo hi (some z) := by exact rfl)
    (hgu : gd ops T o = some true := by exact rfl) (hd : o.dst = some dd := by exact rfl) (ht : lk tbl ty = some i := by exact rfl) (hs : i.isS = true := by exact rfl) (he : i.el = some e := by exact rfl) (hj : lk tbl e = some j := by exact rfl) (hsz : j.size = sz := by exact rfl)
    (hx : evA (lk T) x = some y := by exact rfl) (hh : y.home = some g := by exact rfl) (hg : lk M g = some (mkO ety sz c' rs) := by exact mkx) (hp : Part rs y g sz l0 n c := by exact partx) (hown : ∀ g', y = .own g' → c' = none := by exact ownx) (hlo : bdA (lk T) lo 0 a := by exact bdx) (hi2 : hi.isSome = true := by exact rfl) (hhi : bdA (lk T) hi n b := by exact bdx)
    (hz : evA (lk T) z = some (.d (.v (.int k0 qz))) := by exact rfl) (hq : qz = (m : Int) := by exact nat_q) (hab : a ≤ b := by exact len) (hbm : b ≤ m := by exact len) (hmn : m ≤ n := by exact len) : WD P ops fin (o :: r) acc T M :=
  WD_dv hgu hd (step_cut3 htb ho ht hs he hj hsz hx hp hg hown hlo hi2 hhi (by rw [hz, hq]) hab hbm hmn) k
theorem WD_lens (htb : TOK P tbl) {d : Tmp} {ty e : TypeId} {x : Operand} {i : TI} {g sz lo n : Nat} {c : Option Nat} (k : WD P ops fin r (([], []) :: acc) ((d, .d (.v (.int .i64 (n : Int)))) :: T) M) (ho : o.op = .call { callee := .builtin .len, args := #[x], argTypes := #[ty] } := by exact rfl)
    (hgu : gd ops T o = some true := by exact rfl) (hd : o.dst = some d := by exact rfl) (ht : lk tbl ty = some i := by exact rfl) (hs : i.isS = true := by exact rfl) (he : i.el = some e := by exact rfl) (hx : evA (lk T) x = some (.sl g sz lo n c) := by exact rfl) : WD P ops fin (o :: r) acc T M :=
  WD_dv hgu hd (step_len_sl htb ho ht hs he hx) k
theorem WD_caps (htb : TOK P tbl) {d : Tmp} {ty e : TypeId} {x : Operand} {i : TI} {g sz lo n c : Nat} (k : WD P ops fin r (([], []) :: acc) ((d, .d (.v (.int .i64 (c : Int)))) :: T) M) (ho : o.op = .call { callee := .builtin .cap, args := #[x], argTypes := #[ty] } := by exact rfl)
    (hgu : gd ops T o = some true := by exact rfl) (hd : o.dst = some d := by exact rfl) (ht : lk tbl ty = some i := by exact rfl) (hs : i.isS = true := by exact rfl) (he : i.el = some e := by exact rfl) (hx : evA (lk T) x = some (.sl g sz lo n (some c)) := by exact rfl) : WD P ops fin (o :: r) acc T M :=
  WD_dv hgu hd (step_cap_sl htb ho ht hs he hx) k
theorem WD_cps (htb : TOK P tbl) {dd : Tmp} {s x : Operand} {t e : TypeId} {i j : TI} {g sz lo nd : Nat} {c c' : Option Nat} {y : AV} {L : List Nat} {rs rs2 : List (List D)} (k : WD P ops fin r ((g :: L, [g]) :: acc) ((dd, .d (.v (.int .i64 (rs2.length : Int)))) :: T) ((g, mkO e sz c' (rs.take lo ++ rs2 ++ rs.drop (lo + rs2.length))) :: M))
    (ho : o.op = .call { callee := .builtin .copy, args := #[s, x], argTypes := #[t, t] } := by exact rfl) (hgu : gd ops T o = some true := by exact rfl) (hd : o.dst = some dd := by exact rfl) (ht : lk tbl t = some i := by exact rfl) (hs : i.isS = true := by exact rfl) (he : i.el = some e := by exact rfl) (hj : lk tbl e = some j := by exact rfl)
    (hpos : Nat.blt 0 j.size = true := by exact rfl) (hsz : j.size = sz := by exact rfl) (hsv : evA (lk T) s = some y := by exact rfl) (hh : y.home = some g := by exact rfl) (hg : lk M g = some (mkO e sz c' rs) := by exact mkx) (hp : Part rs y g sz lo nd c := by exact partx) (hown : ∀ g', y = .own g' → c' = none := by exact ownx)
    (hsrc : Src (lk T) (lk M) e sz x L rs2 := by exact srcx) (hk : rs2.length ≤ nd := by exact len) (hlo : lo ≤ rs.length := by exact len) (hno : c' = none → lo + rs2.length ≤ rs.length := by exact nonex) : WD P ops fin (o :: r) acc T M :=
  WD_do hgu hd (step_copy htb ho ht hs he hj hpos hsz hsv hp hg hown (.src hsrc) (Nat.min_eq_left hk) hlo hno) k
theorem WD_cpp (htb : TOK P tbl) {dd : Tmp} {s x : Operand} {t e : TypeId} {i j : TI} {g sz lo nd g2 lo2 n2 : Nat} {c c' c2 c2' : Option Nat} {y : AV} {rs rs2 : List (List D)} (k : WD P ops fin r (([g, g2], [g]) :: acc) ((dd, .d (.v (.int .i64 (((rs2.drop lo2).take (min n2 nd)).length : Int)))) :: T) ((g, mkO e sz c' (rs.take lo ++ (rs2.drop lo2).take (min n2 nd) ++ rs.drop (lo + ((rs2.drop lo2).take (min n2 nd)).length))) :: M))
    (ho : o.op = .call { callee := .builtin .copy, args := #[s, x], argTypes := #[t, t] } := by exact rfl) (hgu : gd ops T o = some true := by exact rfl) (hd : o.dst = some dd := by exact rfl) (ht : lk tbl t = some i := by exact rfl) (hs : i.isS = true := by exact rfl) (he : i.el = some e := by exact rfl) (hj : lk tbl e = some j := by exact rfl)
    (hpos : Nat.blt 0 j.size = true := by exact rfl) (hsz : j.size = sz := by exact rfl) (hsv : evA (lk T) s = some y := by exact rfl) (hh : y.home = some g := by exact rfl) (hg : lk M g = some (mkO e sz c' rs) := by exact mkx) (hp : Part rs y g sz lo nd c := by exact partx) (hown : ∀ g', y = .own g' → c' = none := by exact ownx)
    (hx : evA (lk T) x = some (.sl g2 sz lo2 n2 c2) := by exact rfl) (hg2 : lk M g2 = some (mkO e sz c2' rs2) := by exact mkx) (hk : lo2 + min n2 nd ≤ rs2.length := by exact len) (hlo : lo ≤ rs.length := by exact len) (hno : c' = none → lo + min n2 nd ≤ rs.length := by exact nonex) : WD P ops fin (o :: r) acc T M := by
  have hl : ((rs2.drop lo2).take (min n2 nd)).length = min n2 nd := by simp only [List.length_take, List.length_drop]; omega
  exact WD_do hgu hd (step_copy htb ho ht hs he hj hpos hsz hsv hp hg hown (.part (min n2 nd) hx hg2 (Nat.min_le_left _ _) hk) hl.symm hlo (fun e => by rw [hl]; exact hno e)) k
theorem WD_api (htb : TOK P tbl) {dd : Tmp} {s x : Operand} {t e : TypeId} {i j : TI} {g sz lo n q g2 lo2 n2 : Nat} {c' c2 c2' : Option Nat} {rs rs2 : List (List D)} (k : WD P ops fin r (([g, g2], [g]) :: acc) ((dd, .sl g sz lo (n + ((rs2.drop lo2).take n2).length) (some q)) :: T) ((g, mkO e sz c' (rs.take (lo + n) ++ (rs2.drop lo2).take n2 ++ rs.drop (lo + n + ((rs2.drop lo2).take n2).length))) :: M))
    (ho : o.op = .call { callee := .builtin .append, args := #[s, x], argTypes := #[t, t] } := by exact rfl) (hgu : gd ops T o = some true := by exact rfl) (hd : o.dst = some dd := by exact rfl) (ht : lk tbl t = some i := by exact rfl) (hs : i.isS = true := by exact rfl) (he : i.el = some e := by exact rfl) (hj : lk tbl e = some j := by exact rfl)
    (hpos : Nat.blt 0 j.size = true := by exact rfl) (hsz : j.size = sz := by exact rfl) (hsv : evA (lk T) s = some (.sl g sz lo n (some q)) := by exact rfl) (hg : lk M g = some (mkO e sz c' rs) := by exact mkx)
    (hx : evA (lk T) x = some (.sl g2 sz lo2 n2 c2) := by exact rfl) (hg2 : lk M g2 = some (mkO e sz c2' rs2) := by exact mkx) (hk : lo2 + n2 ≤ rs2.length := by exact len) (hroom : n + n2 ≤ q := by exact len) (hlo : lo + n ≤ rs.length := by exact len) (hno : c' = none → lo + n + n2 ≤ rs.length := by exact nonex) : WD P ops fin (o :: r) acc T M := by
  have hl : ((rs2.drop lo2).take n2).length = n2 := by simp only [List.length_take, List.length_drop]; omega
  exact WD_do hgu hd (step_app_in htb ho ht hs he hj hpos hsz hsv hg (.part n2 hx hg2 (Nat.le_refl _) hk) hl.symm hroom hlo hno) k
theorem WD_apz (htb : TOK P tbl) {dd : Tmp} {s x : Operand} {t tn e : TypeId} {i j jn : TI} {kn kq : IntKind} {g sz lo n q m : Nat} {qv : Int} {c' : Option Nat} {rs : List (List D)} (k : WD P ops fin r (([dd, g], [dd]) :: acc) ((dd, .own dd) :: T) ((dd, .arr e sz ((rs.drop lo).take n ++ List.replicate m (j.zero.map .v))) :: M))
    (ho : o.op = .call { callee := .builtin .append, args := #[s, x], argTypes := #[t, tn] } := by exact rfl) (hgu : gd ops T o = some true := by exact rfl) (hd : o.dst = some dd := by exact rfl) (ht : lk tbl t = some i := by exact rfl) (hs : i.isS = true := by exact rfl) (he : i.el = some e := by exact rfl) (hj : lk tbl e = some j := by exact rfl)
    (htn : lk tbl tn = some jn := by exact rfl) (hkn : jn.ik = some kn := by exact rfl) (hpos : Nat.blt 0 j.size = true := by exact rfl) (hzl : Nat.beq j.zero.length j.size = true := by exact rfl) (hone : j.zero.all Value.oneCell' = true := by exact rfl) (hsz : j.size = sz := by exact rfl)
    (hsv : evA (lk T) s = some (.sl g sz lo n (some q)) := by exact rfl) (hg : lk M g = some (mkO e sz c' rs) := by exact mkx) (hln : lo + n ≤ rs.length := by exact len) (hx : evA (lk T) x = some (.d (.v (.int kq qv))) := by exact rfl) (hq : qv = (m : Int) := by exact nat_q)
    (hm : 0 < m := by exact len) (hgr : q < n + m := by exact len) (hg' : lk M dd = none := by exact rfl) (hb : (n + m) * j.bytes ≤ 140737488355328 := by exact len) (h63 : n + m ≤ maxLen := by exact len) : WD P ops fin (o :: r) acc T M :=
  WD_do hgu hd (step_app_zeros htb dd ho ht hs he hj htn hkn hpos hzl hone hsz hsv hg hln hx hq hm hgr hg' hb h63) k
theorem WD_clr (htb : TOK P tbl) {x : Operand} {t e : TypeId} {i j : TI} {g sz lo n : Nat} {c c' : Option Nat} {rs : List (List D)} (k : WD P ops fin r (([g], [g]) :: acc) T ((g, mkO e sz c' (rs.take lo ++ List.replicate n (j.zero.map .v) ++ rs.drop (lo + n))) :: M))
    (ho : o.op = .call { callee := .builtin .clear, args := #[x], argTypes := #[t] } := by exact rfl) (hgu : gd ops T o = some true := by exact rfl) (hd : o.dst = none := by exact rfl) (ht : lk tbl t = some i := by exact rfl) (hs : i.isS = true := by exact rfl) (he : i.el = some e := by exact rfl) (hj : lk tbl e = some j := by exact rfl)
    (hpos : Nat.blt 0 j.size = true := by exact rfl) (hzl : Nat.beq j.zero.length j.size = true := by exact rfl) (hone : j.zero.all Value.oneCell' = true := by exact rfl) (hsz : j.size = sz := by exact rfl) (hx : evA (lk T) x = some (.sl g sz lo n c) := by exact rfl) (hg : lk M g = some (mkO e sz c' rs) := by exact mkx) (hlo : lo + n ≤ rs.length := by exact len) : WD P ops fin (o :: r) acc T M :=
  WD_dn hgu hd (step_clear htb ho ht hs he hj hpos hzl hone hsz hx hg hlo) k
theorem WD_ovl (htb : TOK P tbl) {dd : Tmp} {f : FuncId} {fn : Func} {x y : Operand} {t e : TypeId} {i j : TI} {gx g sz lo n : Nat} {c c' : Option Nat} {rs rs2 : List (List D)} (hf : P.funcs[f]? = some fn) (tR : TypeId) (hname : (fn.name == "runtime.NumGoroutine") = false) (hb : fn.body.isNone = true) (hn : Extern.findNext fn = none) (hfd : Extern.find fn = some (Extern.SlicesOverlaps.overlaps #[t, t] #[tR]))
    (k : WD P ops fin r (([gx, g], []) :: acc) ((dd, .d (.v (.bool false))) :: T) M) (ho : o.op = .call { callee := .value (.func f), args := #[x, y], argTypes := #[t, t] } := by exact rfl) (hgu : gd ops T o = some true := by exact rfl) (hd : o.dst = some dd := by exact rfl)
    (ht : lk tbl t = some i := by exact rfl) (hs : i.isS = true := by exact rfl) (he : i.el = some e := by exact rfl) (hj : lk tbl e = some j := by exact rfl) (hpos : Nat.blt 0 j.size = true := by exact rfl) (hsz : j.size = sz := by exact rfl)
    (hx : evA (lk T) x = some (.own gx) := by exact rfl) (hgx : lk M gx = some (.arr e sz rs2) := by exact rfl) (hy : evA (lk T) y = some (.sl g sz lo n c) := by exact rfl) (hg : lk M g = some (mkO e sz c' rs) := by exact mkx) (hne : Nat.beq gx g = false := by exact rfl) (hln : 0 < n := by exact len) (hl2 : 0 < rs2.length := by exact len) : WD P ops fin (o :: r) acc T M :=
  WD_dv hgu hd (step_overlaps htb ho hf hname hb hn hfd ht hs he hj hpos hsz hx hgx hy hg hne hln hl2) k
theorem WD_bso (htb : TOK P tbl) {d : Tmp} {ty e : TypeId} {len : Nat} {parts : Array (Nat × Operand)} {i j : TI} {ps : List (Nat × AV)} {cs : List AV} {rs : List (List D)} (k : WD P ops fin r (([d], [d]) :: acc) ((d, .own d) :: T) ((d, .arr e j.size rs) :: M)) (ho : o.op = .buildSlice ty len parts := by exact rfl) (hgu : gd ops T o = some true := by exact rfl) (hd : o.dst = some d := by exact rfl)
    (ht : lk tbl ty = some i := by exact rfl) (hs : i.isS = true := by exact rfl) (he : i.el = some e := by exact rfl) (hj : lk tbl e = some j := by exact rfl) (hpos : Nat.blt 0 j.size = true := by exact rfl) (hlen : Nat.ble (len * j.size) 16777216 = true := by exact rfl) (hone : j.zero.all Value.oneCell' = true := by exact rfl) (hzl : Nat.beq j.zero.length j.size = true := by exact rfl)
    (hp : evP (lk T) parts.toList = some ps := by exact rfl) (hf : fillA (fun k => some (k * j.size, j.size)) (zeroR j.zero (len * j.size)) ps = some cs := by exact rfl) (hc : chunkD j.size len cs = some rs := by exact rfl) (hg : lk M d = none := by exact rfl) : WD P ops fin (o :: r) acc T M :=
  WD_do hgu hd (go_buildSlice htb d ho ht hs he hj hpos hlen hone hzl hp hf hc hg) k
end
end Go.Am
/- Nothing is claimed here: one step of a walk, its rule found by itself. -/
namespace Go.Proofs.YtdhogcklnehdhaaGreatDoor
set_option linter.unusedSimpArgs false
set_option linter.unusedVariables false
set_option linter.unnecessarySimpa false
set_option linter.unusedSectionVars false
set_option maxRecDepth 100000
open Go Go.RowKit Go.Am Go.Proofs.Grow
/-- What is left, hidden from 'assumption'. -/
structure Kx (B : Prop) : Prop where
  x : B
theorem nx {A B : Prop} (b : B) (h : Kx B → A := by
    intro k
    first
    | ((with_reducible apply WD_id); first
        | (refine WD_sum ?_; exact k.x)
        | ((with_reducible apply WD_nxt htb); exact rfl; exact k.x)
        | (refine WD_unk ?_ ?_; exact rfl; first
            | ((with_reducible apply WD_t); exact rfl; exact rfl; exact known; intro hb; rw [hb]; exact k.x)
            | ((with_reducible apply WD_f); exact rfl; exact rfl; exact known; intro hb; rw [hb]; exact k.x))
        | (refine WD_idx htb ?_; exact k.x)
        | (refine WD_idxo htb ?_; exact k.x)
        | (refine WD_lde1 htb ?_; exact k.x)
        | (refine WD_lde htb ?_; exact k.x)
        | (refine WD_ste htb ?_; exact k.x)
        | (refine WD_ap htb ?_; exact k.x)
        | (refine WD_ap0 htb ?_; exact k.x)
        | (refine WD_nil htb ?_; exact k.x)
        | (refine WD_nilr htb ?_; exact k.x)
        | (refine WD_rem ?_; exact k.x)
        | (refine WD_quo ?_; exact k.x)
        | (refine WD_slc htb ?_; exact k.x)
        | (refine WD_ixa htb ?_; exact k.x)
        | (refine WD_ix1 htb ?_; exact k.x)
        | ((with_reducible apply WD_t); exact rfl; exact rfl; exact known; intro hb; rw [hb]; exact k.x)
        | ((with_reducible apply WD_f); exact rfl; exact rfl; exact known; intro hb; rw [hb]; exact k.x))
    | ((with_reducible apply WA_seq); exact k.x)
    | ((with_reducible apply gR hmix); assumption; kernel_rfl; (try dsimp only [List.append_eq, List.cons_append, List.nil_append]); exact k.x)
    | ((with_reducible refine WD_end ?_ ?_); (first | exact no_draw | (intro _; kernel_rfl)); (try simp only [thn, inB, List.length_map, List.cons_append, List.nil_append]); exact k.x)
    | ((with_reducible apply gCt); exact rfl; exact rfl; exact k.x)
    | ((with_reducible apply gCf); exact rfl; exact rfl; exact k.x)
    | ((with_reducible apply gCk); exact rfl; exact known; intro hb; rw [hb]; exact k.x)
    | ((with_reducible apply gCn); exact rfl; exact known; intro hb; rw [hb]; exact k.x)
    | ((with_reducible apply WA_block); exact k.x)
    | ((with_reducible first | apply WA_skip | apply WA_ret | apply WA_exit | apply WA_label); (try simp only [thn, inB, List.length_map, List.cons_append, List.nil_append]); exact k.x)) : A := h ⟨b⟩
theorem ct {A B : Prop} (b : B) (h : Kx B → A := by
    intro k
    first
    | ((with_reducible apply WA_seq); exact k.x)
    | ((with_reducible apply gR hmix); assumption; kernel_rfl; (try dsimp only [List.append_eq, List.cons_append, List.nil_append]); exact k.x)
    | ((with_reducible refine WD_end ?_ ?_); (first | exact no_draw | (intro _; kernel_rfl)); (try simp only [thn, inB, List.length_map, List.cons_append, List.nil_append]); exact k.x)
    | ((with_reducible apply gCt); exact rfl; exact rfl; exact k.x)
    | ((with_reducible apply gCf); exact rfl; exact rfl; exact k.x)
    | ((with_reducible apply gCk); exact rfl; exact known; intro hb; rw [hb]; exact k.x)
    | ((with_reducible apply gCn); exact rfl; exact known; intro hb; rw [hb]; exact k.x)
    | ((with_reducible apply WA_block); exact k.x)
    | ((with_reducible first | apply WA_skip | apply WA_ret | apply WA_exit | apply WA_label); (try simp only [thn, inB, List.length_map, List.cons_append, List.nil_append]); exact k.x)) : A := h ⟨b⟩
end Go.Proofs.YtdhogcklnehdhaaGreatDoor
namespace Go.Am
set_option linter.unusedSimpArgs false
set_option linter.unusedVariables false
set_option linter.unnecessarySimpa false
set_option linter.unusedSectionVars false
set_option maxRecDepth 100000
open Go Go.RowKit Go.Proofs.Grow
section
variable {P : Program} {tbl : List (Nat × TI)} {o : Oper} {T : Nat → Option AV} {M : Nat → Option AO}
theorem step_index_sl (htb : TOK P tbl) {ty e ety : TypeId} {x y : Operand} {i j : TI} {g sz lo m n : Nat} {c : Option Nat} {k : IntKind} {q : Int} {rs : List (List D)} (ho : o.op = .indexAddr ty x y) (ht : lk tbl ty = some i) (hs : i.isS = true) (he : i.el = some e) (hj : lk tbl e = some j) (hsz : j.size = sz)
    (hx : evA T x = some (.sl g sz lo m c)) (hg : M g = some (.arr ety sz rs)) (hy : evA T y = some (.d (.v (.int k q)))) (hq : q = (n : Int)) (hn : n < m) : StepOK P o T M ⟨.elt g sz (lo + n) 0, [g], []⟩ :=
  step_read [g] fun cx μ T' M' a w h hT hM => by
    subst hq
    subst hsz
    rw [← hM g (by simp)] at hg
    have h1 := h.ev (x := x) hT (by simp [ho, Op.operands]) hx
    have h2 := (h.ev (x := y) hT (by simp [ho, Op.operands]) hy).val
    have hg' : M' g = some (mkO ety j.size none rs) := hg
    obtain ⟨ad, m', cap, xs, q1, q2, q3, q4, q5, q6, _⟩ := h.cells hg'
    generalize hv : a.eval x = v at h1
    cases h1 with
    | @sl _ _ _ _ _ ad2 p m2 cap2 k2 hb hk hnk hc ha =>
      rw [q1] at hb
      obtain ⟨rfl, rfl, rfl⟩ : ad = ad2 ∧ m' = m2 ∧ cap = cap2 := by simpa using hb
      cases ad with
      | none => have := q5 rfl; omega
      | some z =>
        obtain ⟨b, cur, rfl, c1, c2, c3⟩ := q6 z rfl
        have hp : p = some ⟨b, lo * j.size, none⟩ := by
          rcases ha with rfl | ⟨e, _⟩
          · simp [addr_add]
          · omega
        subst hp
        have hrun := run_indexSlice htb ht hs he hj (b := b) (off := lo * j.size) (len := m) (cap := k2) (k := k) hn w
        have e : lo * j.size + n * j.size = (lo + n) * j.size + 0 := by rw [Nat.add_mul, Nat.add_zero]
        rw [e] at hrun
        exact ⟨.pointer (some ⟨b, (lo + n) * j.size + 0, none⟩), by simp only [execOp, ho, hv, h2, Sem.run_bind, hrun, Result.andThen_ok, Sem.run_pure], .elt q1⟩
theorem step_bits {op : BinOp} {t t' : TypeId} {x y : Operand} {a b : Int} {r : Value} (ho : o.op = .binOp op t x y t') (hx : evA T x = some (.d (.v (.int .i64 a)))) (hy : evA T y = some (.d (.v (.int .i64 b))))
    (hr : ∀ w, (binOp op t (.int .i64 a) (.int .i64 b)).run P w = .ok r w) : StepOK P o T M ⟨.d (.v r), [], []⟩ :=
  step_read [] fun cx μ T' M' ac w h hT _ => by
    have h1 := (h.ev (x := x) hT (by simp [ho, Op.operands]) hx).val
    have h2 := (h.ev (x := y) hT (by simp [ho, Op.operands]) hy).val
    refine ⟨r, ?_, .d (.v r)⟩
    simp only [execOp, ho, h1, h2, Sem.run_bind, run_guard_int, Result.andThen_ok, hr, Sem.run_pure]
end
section
variable {cx : Cx} {T : List (Nat × AV)} {M : List (Nat × AO)}
/-- A slice of the call's own gets another name. -/
theorem Le_own (t g' : Nat) {g ty sz : Nat} {rs : List (List D)} (ht : lk T t = some (.own g)) (hg : lk M g = some (.arr ty sz rs)) (hg' : lk M g' = none) : Le cx ⟨T, M⟩ ⟨(t, .own g') :: T, (g', .arr ty sz rs) :: (g, .dead) :: M⟩ := by
  rintro a w ⟨μ, h⟩
  obtain ⟨v, xs, h1, h2, h3, h4, h5⟩ := h.ob g _ hg
  have hv := h.tm t _ ht
  generalize hvv : a.tmps.getD t undef = u at hv
  cases hv with
  | @own _ p m2 c2 hb =>
    rw [h1] at hb
    obtain rfl : v = .slice p m2 c2 := by simpa using hb
    have h6 := h.append (w2 := w) (g' := g') (rs' := rs) (v' := .slice p m2 c2) (ys := xs) hg rfl h1 hg' (Chg.refl _ _) (fun b' hb' => .inl hb') h2 h3 h5 (fun H' hk => h4.mono hk)
    have e2 : upM (lk M) [(g', .arr ty sz rs), (g, .dead)] = lk ((g', .arr ty sz rs) :: (g, .dead) :: M) := by
      funext x
      simp only [upM, lk]
      cases Nat.beq g' x <;> cases Nat.beq g x <;> rfl
    rw [e2] at h6
    refine ⟨_, h6.slot ?_⟩
    rw [hvv]
    exact .own (upμ_self _ _)
end
section
variable {P : Program} {tbl : List (Nat × TI)} {ops r : List Oper} {o : Oper} {fin : List (List Nat × List Nat) → List (Nat × AV) → List (Nat × AO) → Prop} {acc : List (List Nat × List Nat)} {T : List (Nat × AV)} {M : List (Nat × AO)}
theorem WD_ixs (htb : TOK P tbl) {d : Tmp} {ty e ety : TypeId} {x y : Operand} {i j : TI} {g sz lo m n : Nat} {c : Option Nat} {kk : IntKind} {q : Int} {rs : List (List D)} (k : WD P ops fin r (([g], []) :: acc) ((d, .elt g sz (lo + n) 0) :: T) M) (ho : o.op = .indexAddr ty x y := by exact rfl)
    (hg : gd ops T o = some true := by exact rfl) (hd : o.dst = some d := by exact rfl) (ht : lk tbl ty = some i := by exact rfl) (hs : i.isS = true := by exact rfl) (he : i.el = some e := by exact rfl) (hj : lk tbl e = some j := by exact rfl) (hsz : j.size = sz := by exact rfl)
    (hx : evA (lk T) x = some (.sl g sz lo m c) := by exact rfl) (hM : lk M g = some (.arr ety sz rs) := by exact rfl) (hy : evA (lk T) y = some (.d (.v (.int kk q))) := by exact rfl) (hq : q = (n : Int) := by exact nat_q) (hn : n < m := by exact len) : WD P ops fin (o :: r) acc T M :=
  WD_dv hg hd (step_index_sl htb ho ht hs he hj hsz hx hM hy hq hn) k
end
end Go.Am
namespace Go.Proofs.YtdhogcklnehdhaaGreatDoor
set_option linter.unusedSimpArgs false
set_option linter.unusedVariables false
set_option linter.unnecessarySimpa false
set_option linter.unusedSectionVars false
set_option maxRecDepth 100000
open Go.RowKit Go.Proofs.Grow Go.Sort
theorem idx_step {α : Type} [Inhabited α] {p : α → Bool} {l : List α} {k : Nat} (hk : k < l.length) : idxF p k (l.drop k) = if p (nth l k) = true then (k : Int) else idxF p (k + 1) (l.drop (k + 1)) := by
  rw [drop_nth l k hk]; rfl
theorem idx_hit {α : Type} [Inhabited α] {p : α → Bool} {l : List α} {k : Nat} {r : Int} (hz : r = idxF p k (l.drop k)) (hk : k < l.length) (h : p (nth l k) = true) : r = (k : Int) := by
  rw [hz, idx_step hk, if_pos h]
theorem idx_miss {α : Type} [Inhabited α] {p : α → Bool} {l : List α} {k : Nat} {r : Int} (hz : r = idxF p k (l.drop k)) (hk : k < l.length) (h : p (nth l k) = false) : r = idxF p (k + 1) (l.drop (k + 1)) := by
  rw [hz, idx_step hk, if_neg (by simp [h])]
theorem idx_end {α : Type} {p : α → Bool} {l : List α} {k : Nat} {r : Int} (hz : r = idxF p k (l.drop k)) (hk : l.length ≤ k) : r = -1 := by
  rw [hz, List.drop_eq_nil_of_le hk]; rfl
end Go.Proofs.YtdhogcklnehdhaaGreatDoor
namespace Go.Proofs.YtdhogcklnehdhaaGreatDoor
set_option linter.unusedSimpArgs false
set_option linter.unusedVariables false
set_option linter.unnecessarySimpa false
set_option linter.unusedSectionVars false
set_option maxRecDepth 100000
open Go Go.RowKit Go.Am Go.Proofs.Grow
structure Sc where
  l : List Int
  i : Nat
/-- A source: at most 800 numbers, and how many of them have been given out. -/
def Sc.ok (s : Sc) : Prop := s.i ≤ s.l.length ∧ s.l.length ≤ 800
/-- The number that is drawn, and the source behind it. -/
def Sc.n (s : Sc) (k : Int) : Int := if s.i < s.l.length ∧ 1 ≤ k then nth s.l s.i % k else 0
def Sc.x (s : Sc) (k : Int) : Sc := if s.i < s.l.length ∧ 1 ≤ k then ⟨s.l, s.i + 1⟩ else s
theorem Sc.ok_x {s : Sc} (h : s.ok) (k : Int) : (s.x k).ok := by
  unfold Sc.x; split
  · obtain ⟨h1, h2⟩ := h; exact ⟨by dsimp only; omega, h2⟩
  · exact h
theorem Sc.n_bd (s : Sc) {k : Int} (h : 1 ≤ k) : 0 ≤ s.n k ∧ s.n k ≤ k - 1 := by
  unfold Sc.n; split
  · have h1 := Int.emod_nonneg (nth s.l s.i) (show k ≠ 0 by omega)
    have h2 := Int.emod_lt_of_pos (nth s.l s.i) (show 0 < k by omega)
    omega
  · omega
theorem tmod_bd (x : Int) {k : Int} (h : 1 ≤ k) : -k < x.tmod k ∧ x.tmod k < k := by
  have h1 := Int.emod_nonneg x (show k ≠ 0 by omega)
  have h2 := Int.emod_lt_of_pos x (show 0 < k by omega)
  rw [Int.tmod_eq_emod]
  split <;> rename_i h3
  · omega
  · have : (k.natAbs : Int) = k := by omega
    rw [this]
    have : ¬ x % k = 0 := fun e => h3 (.inr (Int.dvd_of_emod_eq_zero e))
    omega
theorem tmod_emod (x : Int) {k : Int} (h : 1 ≤ k) : (x.tmod k + k).tmod k = x % k := by
  have hb := tmod_bd x h
  rw [Int.tmod_eq_emod_of_nonneg (by omega), Int.add_emod_right, Int.tmod_eq_emod]
  split
  · rw [show ((0 : Nat) : Int) = 0 from rfl, Int.sub_zero]; exact Int.emod_emod_of_dvd x (Int.dvd_refl k)
  · have e : (k.natAbs : Int) = k := by omega
    rw [e, Int.sub_emod, Int.emod_self, Int.sub_zero, Int.emod_emod_of_dvd _ (Int.dvd_refl k), Int.emod_emod_of_dvd _ (Int.dvd_refl k)]
end Go.Proofs.YtdhogcklnehdhaaGreatDoor
namespace Go.Proofs.YtdhogcklnehdhaaGreatDoor
set_option linter.unusedSimpArgs false
set_option linter.unusedVariables false
set_option linter.unnecessarySimpa false
set_option linter.unusedSectionVars false
set_option maxRecDepth 100000
open Go Go.RowKit Go.Am Go.Proofs.Grow
section
variable {o : Oper} {t t' : TypeId} {x y : Operand} {T : Nat → Option AV} {M : Nat → Option AO} {a b : Int}
theorem band_step (ho : o.op = .binOp .and t x y t') (hx : evA T x = some (vI a)) (hy : evA T y = some (vI b)) : StepOK Tryz.prog o T M ⟨vI (bandI a b), [], []⟩ :=
  step_bits ho hx hy fun w => by simp only [binOp, Op.intBits]; rfl
theorem bor_step (ho : o.op = .binOp .or t x y t') (hx : evA T x = some (vI a)) (hy : evA T y = some (vI b)) : StepOK Tryz.prog o T M ⟨vI (borI a b), [], []⟩ :=
  step_bits ho hx hy fun w => by simp only [binOp, Op.intBits]; rfl
theorem bnot_step (ho : o.op = .binOp .andNot t x y t') (hx : evA T x = some (vI a)) (hy : evA T y = some (vI b)) : StepOK Tryz.prog o T M ⟨vI (bnotI a b), [], []⟩ :=
  step_bits ho hx hy fun w => by simp only [binOp, Op.intBits]; rfl
theorem shl_step (ho : o.op = .binOp .shl t x y t') (hx : evA T x = some (vI 1)) (hy : evA T y = some (vI b)) (h0 : 0 ≤ b := by exact num) : StepOK Tryz.prog o T M ⟨vI (shlI b), [], []⟩ :=
  step_bits ho hx hy fun w => by
    have h1 : ¬ b < 0 := by omega
    simp [binOp, Op.shift, shlI, IntKind.bits, h1]
end
theorem shl10 : shlI 10 = 1024 := by decide +kernel
theorem below_m (s : Int) : FnM Tryz.prog 133 [] [vI s, vI 10] (vB (validS s)) [] := by
  refine FnM.of htb Tryz.func133 rfl rfl rfl rfl rfl fun cx hN h0 => ?_
  (repeat' (first | ((with_reducible apply WD_id); first | (refine WD_nxt htb (by exact rfl) ?_) | (refine WD_eq (shl_step rfl rfl rfl) ?_) | ((refine WD_tf (by exact rfl) (by exact rfl) ?_ ?_) <;> (intro hb; (fail_if_success (with_reducible injection hb)); rw [hb]; (try simp only [List.length_map] at hb)))) | (refine ct ?_) | (with_reducible apply WA_block)))
  all_goals refine gE (.inr rfl) rfl (congrArg vB ?_) trivial
  all_goals first | (simp_all [validS, shl10]; done) | (simp_all [validS, shl10]; intros; omega)
theorem valid_m (s : Int) : FnM Tryz.prog 71 [] [vI s] (vB (validS s)) [] := by
  refine FnM.of htb Tryz.func71 rfl rfl rfl rfl rfl fun cx hN h0 => ?_
  (repeat' (first | ((with_reducible apply WD_id); first | (refine WD_nxt htb (by exact rfl) ?_) | (refine WD_call (by exact rfl) ?_; first | (refine WD_c0 (below_m _) ?_))) | (refine ct ?_) | (with_reducible apply WA_block)))
  exact gE (.inr rfl) rfl rfl trivial
theorem has_m (s x : Int) : FnM Tryz.prog 57 [] [vI s, vI x] (vB (hasB s x)) [] := by
  refine FnM.of htb Tryz.func57 rfl rfl rfl rfl rfl fun cx hN h0 => ?_
  (repeat' (first | ((with_reducible apply WD_id); first | (refine WD_nxt htb (by exact rfl) ?_) | (refine WD_call (by exact rfl) ?_; first | (refine WD_c0 (valid_m _) ?_)) | (refine WD_eq (shl_step rfl rfl rfl) ?_) | (refine WD_eq (band_step rfl rfl rfl) ?_) | ((refine WD_tf (by exact rfl) (by exact rfl) ?_ ?_) <;> (intro hb; (fail_if_success (with_reducible injection hb)); rw [hb]; (try simp only [List.length_map] at hb)))) | (refine ct ?_) | (with_reducible apply WA_block)))
  all_goals refine gE (.inr rfl) rfl (congrArg vB ?_) trivial
  all_goals first | (simp_all [hasB, nodeB, bne]; done) | (simp_all [hasB, nodeB, bne]; intros; omega)
theorem orN_m (l : List Int) (hl : l.length ≤ 100) : FnM Tryz.prog 197 [] [lI l] (vI (orI l)) [] := by
  refine FnM.of htb Tryz.func197 rfl rfl rfl rfl rfl fun cx hN h0 => ?_
  (repeat' (first | ((with_reducible apply WD_id); first | (refine WD_sum ?_) | (refine WD_nxt htb (by exact rfl) ?_) | (refine WD_idx htb ?_)) | (refine ct ?_) | (((with_reducible apply gC2); exact rfl) <;> (intro hb; rw [hb]))))
  (refine WA_forV (l.length) [8, 5] [] (fun k => [(8, vI k)]) (fun k => []) (fun k => orI l = orI (l.drop k)) ?h0 ?_)
  case h0 => rfl
  intro k hk hI
  (repeat' (first | ((with_reducible apply WD_id); first | (refine WD_sum ?_) | (refine WD_nxt htb (by exact rfl) ?_) | (refine WD_idx htb ?_)) | (refine ct ?_) | (((with_reducible apply gC2); exact rfl) <;> (intro hb; rw [hb]))))
  · have hk' : k < l.length := by simp at *; omega
    rw [drop_nth l k hk', orI, if_neg (by simpa using hb)] at hI
    exact gE (.inr rfl) rfl (congrArg vI hI.symm) trivial
  · have hk' : k < l.length := by simp at *; omega
    rw [drop_nth l k hk', orI, if_pos (by simpa using hb)] at hI
    refine ⟨hk', hI, ?_⟩
    (exact LeV [])
  · have hk' : l.length ≤ k := by simp at *; omega
    rw [List.drop_eq_nil_of_le hk'] at hI
    exact gE (.inr rfl) rfl (congrArg vI hI.symm) trivial
end Go.Proofs.YtdhogcklnehdhaaGreatDoor
namespace Go.Proofs.YtdhogcklnehdhaaGreatDoor
set_option linter.unusedSimpArgs false
set_option linter.unusedVariables false
set_option linter.unnecessarySimpa false
set_option linter.unusedSectionVars false
set_option maxRecDepth 100000
open Go Go.RowKit Go.Am Go.Proofs.Grow
mutual
def rTr : Tr → List D
  | .mk k ns is => [dI k, .rows 1 (ns.map rI), .rows 3 (rTrs is)]
def rTrs : List Tr → List (List D)
  | [] => []
  | t :: r => rTr t :: rTrs r
end
def rTp (t : Tr) : List D := [dI t.k, .rows 1 (t.ns.map rI), .rows 3 (t.is.map rTr)]
theorem rTrs_map : ∀ l : List Tr, rTrs l = l.map rTr
  | [] => rfl
  | t :: r => by simp only [rTrs, List.map_cons, rTrs_map r]
theorem rTr_p : rTr = rTp := funext fun t => by cases t; simp only [rTr, rTp, rTrs_map, Tr.k, Tr.ns, Tr.is]
abbrev lTr (l : List Tr) : AV := .d (.rows 3 (l.map rTr))
abbrev aTr (t : Tr) : AV := .agg [vI t.k, lI t.ns, lTr t.is]
theorem satT_eq (s : Int) (t : Tr) : satT s t = (validS s && decide (satL s t.is (cntI s t.ns 0) ≥ t.k)) := by cases t; simp only [satT, Tr.k, Tr.ns, Tr.is]; rfl
theorem take_all {α : Type} {l : List α} {k : Nat} (h : l.length ≤ k) : l.take k = l := List.take_of_length_le h
theorem sat_m : ∀ (d : Nat) (s : Int) (t : Tr) (hd : hT t ≤ d) (hs : sizT t ≤ 1000), FnM Tryz.prog 179 [] [aTr t, vI s] (vB (satT s t)) [] := by
  intro d
  induction d with
  | zero => intro s t hd; cases t; simp [hT] at hd
  | succ d ih =>
    intro s t hd hs
    have hl := siz_len t
    have satR_m : ∀ (s : Int) (x : Tr) (hx : hT x ≤ d ∧ sizT x ≤ 1000), FnM Tryz.prog 179 [] [aTr x, vI s] (vB (satT s x)) [] := fun s x hx => ih s x hx.1 hx.2
    show FnM _ _ _ [.agg [vI t.k, lI t.ns, .d (.rows 3 (t.is.map rTr))], vI s] _ _
    rw [rTr_p]
    refine FnM.of htb Tryz.func179 rfl rfl rfl rfl rfl fun cx hN h0 => ?_
    cases hv : validS s with
    | false =>
      have hv2 : (!validS s) = true := by rw [hv]; rfl
      (repeat' (first | (refine nx ?_) | (refine WD_call (by exact rfl) ?_; first | (refine WD_c0 (valid_m _) ?_)) | ((with_reducible apply WD_id); first | (refine WD_clr htb ?_))))
      exact gE (.inr rfl) rfl (congrArg vB (by rw [satT_eq, hv]; rfl)) trivial
    | true =>
      have hv2 : (!validS s) = false := by rw [hv]; rfl
      (repeat' (first | (refine nx ?_) | (refine WD_call (by exact rfl) ?_; first | (refine WD_c0 (valid_m _) ?_)) | ((with_reducible apply WD_id); first | (refine WD_clr htb ?_))))
      (refine WA_forV (t.ns.length) [16, 5] [] (fun k => [(16, vI k), (5, vI (cntI s (t.ns.take k) 0))]) (fun k => []) (fun k => True) ?h0 ?_)
      case h0 => trivial
      intro k hk _
      have hb := cntI_bd s (t.ns.take k) 0
      have hlk : (t.ns.take k).length ≤ k := by rw [List.length_take]; omega
      rcases Nat.lt_or_ge k t.ns.length with hk' | hk'
      · have t1 : decide ((k : Int) < (t.ns.length : Int)) = true := by simp; omega
        have hw := cntI_take (s := s) (a := 0) hk'
        cases hx : hasB s (nth t.ns k) with
        | true =>
          (repeat' (first | (refine nx ?_) | (refine WD_call (by exact rfl) ?_; first | (refine WD_c0 (has_m _ _) ?_)) | ((with_reducible apply WD_id); first | (refine WD_clr htb ?_))))
          refine ⟨hk', trivial, ?_⟩
          rw [hw, if_pos hx]
          (exact LeV [])
        | false =>
          (repeat' (first | (refine nx ?_) | (refine WD_call (by exact rfl) ?_; first | (refine WD_c0 (has_m _ _) ?_)) | ((with_reducible apply WD_id); first | (refine WD_clr htb ?_))))
          refine ⟨hk', trivial, ?_⟩
          rw [hw, if_neg (by simp [hx])]
          (exact LeV [])
      · have t1 : decide ((k : Int) < (t.ns.length : Int)) = false := by simp; omega
        have e1 : t.ns.take k = t.ns := take_all hk'
        rw [e1]
        rw [e1] at hb
        (repeat' (first | (refine nx ?_) | ((with_reducible apply WD_id); first | (refine WD_clr htb ?_))))
        (refine WA_forV (t.is.length) [29, 5] [] (fun k => [(29, vI k), (5, vI (satL s (t.is.take k) (cntI s t.ns 0)))]) (fun k => []) (fun k => True) ?h0 ?_)
        case h0 => trivial
        intro k2 hk2 _
        have hb2 := satL_bd s (t.is.take k2) (cntI s t.ns 0)
        have hlk2 : (t.is.take k2).length ≤ k2 := by rw [List.length_take]; omega
        rcases Nat.lt_or_ge k2 t.is.length with hk2' | hk2'
        · have t2 : decide ((k2 : Int) < (t.is.length : Int)) = true := by simp; omega
          have hw := satL_take (s := s) (a := cntI s t.ns 0) hk2'
          have hm := nth_mem t.is k2 hk2'
          have hx : hT (nth t.is k2) ≤ d ∧ sizT (nth t.is k2) ≤ 1000 := by have := hT_mem hm; have := siz_mem hm; omega
          cases hy : satT s (nth t.is k2) with
          | true =>
            (repeat' (first | (refine nx ?_) | (refine WD_call (by exact rfl) ?_; first | (refine WD_c0 (satR_m _ _ ?_) ?_; (exact hyp))) | ((with_reducible apply WD_id); first | (refine WD_clr htb ?_))))
            refine ⟨hk2', trivial, ?_⟩
            rw [hw, if_pos hy]
            (exact LeV [])
          | false =>
            (repeat' (first | (refine nx ?_) | (refine WD_call (by exact rfl) ?_; first | (refine WD_c0 (satR_m _ _ ?_) ?_; (exact hyp))) | ((with_reducible apply WD_id); first | (refine WD_clr htb ?_))))
            refine ⟨hk2', trivial, ?_⟩
            rw [hw, if_neg (by simp [hy])]
            (exact LeV [])
        · have t2 : decide ((k2 : Int) < (t.is.length : Int)) = false := by simp; omega
          have e2 : t.is.take k2 = t.is := take_all hk2'
          rw [e2]
          (repeat' (first | (refine nx ?_) | ((with_reducible apply WD_id); first | (refine WD_clr htb ?_))))
          exact gE (.inr rfl) rfl (congrArg vB (by rw [satT_eq, hv]; rfl)) trivial
theorem dep_m : ∀ (d : Nat) (t : Tr) (hd : hT t ≤ d) (hs : sizT t ≤ 1000), FnM Tryz.prog 105 [] [aTr t] (vI (depT t)) [] := by
  intro d
  induction d with
  | zero => intro t hd; cases t; simp [hT] at hd
  | succ d ih =>
    intro t hd hs
    have hl := siz_len t
    have depR_m : ∀ (x : Tr) (hx : hT x ≤ d ∧ sizT x ≤ 1000), FnM Tryz.prog 105 [] [aTr x] (vI (depT x)) [] := fun x hx => ih x hx.1 hx.2
    have hh : hT t = hL t.is + 1 := by cases t; simp only [hT, Tr.is]
    have hh2 := h_siz t
    have ed : depT t = depL t.is 0 + 1 := by cases t; simp only [depT, Tr.is]
    show FnM _ _ _ [.agg [vI t.k, lI t.ns, .d (.rows 3 (t.is.map rTr))]] _ _
    rw [rTr_p, ed]
    refine FnM.of htb Tryz.func105 rfl rfl rfl rfl rfl fun cx hN h0 => ?_
    (repeat' (first | (refine nx ?_) | ((with_reducible apply WD_id); first | (refine WD_clr htb ?_))))
    (refine WA_forV (t.is.length) [9, 3] [] (fun k => [(9, vI k), (3, vI (depL (t.is.take k) 0))]) (fun k => []) (fun k => True) ?h0 ?_)
    case h0 => trivial
    intro k hk _
    rcases Nat.lt_or_ge k t.is.length with hk' | hk'
    · have t1 : decide ((k : Int) < (t.is.length : Int)) = true := by simp; omega
      have hw := depL_take (a := 0) hk'
      have hm := nth_mem t.is k hk'
      have hx : hT (nth t.is k) ≤ d ∧ sizT (nth t.is k) ≤ 1000 := by have := hT_mem hm; have := siz_mem hm; omega
      (repeat' (first | (refine nx ?_) | (refine WD_call (by exact rfl) ?_; first | (refine WD_c0 (depR_m _ ?_) ?_; (exact hyp))) | ((with_reducible apply WD_id); first | (refine WD_clr htb ?_))))
      refine ⟨hk', trivial, ?_⟩
      rw [hw]
      (exact LeV [])
    · have t1 : decide ((k : Int) < (t.is.length : Int)) = false := by simp; omega
      have e1 : t.is.take k = t.is := take_all hk'
      rw [e1]
      have hb : 0 ≤ depL t.is 0 ∧ depL t.is 0 ≤ 1001 := by
        have := depL_h t.is 0
        rw [show ((0 : Nat) : Int) = 0 from rfl] at this
        omega
      (repeat' (first | (refine nx ?_) | ((with_reducible apply WD_id); first | (refine WD_clr htb ?_))))
      exact gE (.inr rfl) rfl rfl trivial
theorem siz_m : ∀ (d : Nat) (t : Tr) (hd : hT t ≤ d) (hs : sizT t ≤ 1000), FnM Tryz.prog 106 [] [aTr t] (vI (sizT t)) [] := by
  intro d
  induction d with
  | zero => intro t hd; cases t; simp [hT] at hd
  | succ d ih =>
    intro t hd hs
    have hl := siz_len t
    have sizR_m : ∀ (x : Tr) (hx : hT x ≤ d ∧ sizT x ≤ 1000), FnM Tryz.prog 106 [] [aTr x] (vI (sizT x)) [] := fun x hx => ih x hx.1 hx.2
    have ed : sizT t = sizL t.is ((t.ns.length : Int) + (t.is.length : Int)) := by cases t; simp only [sizT, Tr.is, Tr.ns]
    show FnM _ _ _ [.agg [vI t.k, lI t.ns, .d (.rows 3 (t.is.map rTr))]] _ _
    rw [rTr_p]
    refine FnM.of htb Tryz.func106 rfl rfl rfl rfl rfl fun cx hN h0 => ?_
    (repeat' (first | (refine nx ?_) | ((with_reducible apply WD_id); first | (refine WD_clr htb ?_))))
    (refine WA_forV (t.is.length) [16, 3] [] (fun k => [(16, vI k), (3, vI (sizL (t.is.take k) ((t.ns.length : Int) + (t.is.length : Int))))]) (fun k => []) (fun k => True) ?h0 ?_)
    case h0 => trivial
    intro k hk _
    rcases Nat.lt_or_ge k t.is.length with hk' | hk'
    · have t1 : decide ((k : Int) < (t.is.length : Int)) = true := by simp; omega
      have hw := sizL_take1 (a := (t.ns.length : Int) + (t.is.length : Int)) hk'
      have hm := nth_mem t.is k hk'
      have hx : hT (nth t.is k) ≤ d ∧ sizT (nth t.is k) ≤ 1000 := by have := hT_mem hm; have := siz_mem hm; omega
      have hb1 := sizL_take (l := t.is) (k := k + 1) (a := (t.ns.length : Int) + (t.is.length : Int))
      have hb2 := sizL_nn (t.is.take k) ((t.ns.length : Int) + (t.is.length : Int))
      have hb3 := siz_nn (nth t.is k)
      rw [hw, ← ed] at hb1
      (repeat' (first | (refine nx ?_) | (refine WD_call (by exact rfl) ?_; first | (refine WD_c0 (sizR_m _ ?_) ?_; (exact hyp))) | ((with_reducible apply WD_id); first | (refine WD_clr htb ?_))))
      refine ⟨hk', trivial, ?_⟩
      rw [hw]
      (exact LeV [])
    · have t1 : decide ((k : Int) < (t.is.length : Int)) = false := by simp; omega
      have e1 : t.is.take k = t.is := take_all hk'
      rw [e1, ← ed]
      (repeat' (first | (refine nx ?_) | ((with_reducible apply WD_id); first | (refine WD_clr htb ?_))))
      exact gE (.inr rfl) rfl rfl trivial
theorem tnode_m (n : Int) : FnM Tryz.prog 162 [] [vI n] (vB (nodeB n)) [] := by
  refine FnM.of htb Tryz.func162 rfl rfl rfl rfl rfl fun cx hN h0 => ?_
  (repeat' (first | (refine nx ?_) | ((with_reducible apply WD_id); first | (refine WD_clr htb ?_)) | ((refine WD_tf (by exact rfl) (by exact rfl) ?_ ?_) <;> (intro hb; (fail_if_success (with_reducible injection hb)); rw [hb]; (try simp only [List.length_map] at hb)))))
  all_goals refine gE (.inr rfl) rfl (congrArg vB ?_) trivial
  all_goals first | (simp_all [nodeB]; done) | (simp_all [nodeB]; intros; omega)
theorem nlev_m (n : Int) : FnM Tryz.prog 161 [] [vI n] (vB (!nodeB n)) [] := by
  refine FnM.of htb Tryz.func161 rfl rfl rfl rfl rfl fun cx hN h0 => ?_
  (repeat' (first | (refine nx ?_) | (refine WD_call (by exact rfl) ?_; first | (refine WD_c0 (tnode_m _) ?_)) | ((with_reducible apply WD_id); first | (refine WD_clr htb ?_))))
  exact gE (.inr rfl) rfl rfl trivial
theorem idxN_m (l : List Int) (hl : l.length ≤ 1000) : FnM Tryz.prog 194 [] [lI l, .clo 161 []] (vI (idxF (fun k => !nodeB k) 0 l)) [] := by
  refine FnM.of htb Tryz.func194 rfl rfl rfl rfl rfl fun cx hN h0 => ?_
  (repeat' (first | (refine nx ?_) | ((with_reducible apply WD_id); first | (refine WD_clr htb ?_)) | (((with_reducible apply gC2); exact rfl) <;> (intro hb; rw [hb]))))
  (refine WA_forV (l.length) [8] [] (fun k => [(8, vI k)]) (fun k => []) (fun k => idxF (fun k => !nodeB k) 0 l = idxF (fun k => !nodeB k) k (l.drop k)) ?h0 ?_)
  case h0 => rfl
  intro k hk hI
  (repeat' (first | (refine nx ?_) | (refine WD_call (by exact rfl) ?_; first | (refine WD_c0 (nlev_m _) ?_)) | ((with_reducible apply WD_id); first | (refine WD_clr htb ?_)) | (((with_reducible apply gC2); exact rfl) <;> (intro hb; rw [hb]))))
  · exact gE (.inr rfl) rfl (congrArg vI (idx_hit hI (by simp at *; omega) (by assumption)).symm) trivial
  · refine ⟨by simp at *; omega, idx_miss hI (by simp at *; omega) (by assumption), ?_⟩
    (exact LeV [])
  · exact gE (.inr rfl) rfl (congrArg vI (idx_end hI (by simp at *; omega)).symm) trivial
theorem contN_m (l : List Int) (hl : l.length ≤ 1000) : FnM Tryz.prog 159 [] [lI l, .clo 161 []] (vB (decide (idxF (fun k => !nodeB k) 0 l ≥ 0))) [] := by
  refine FnM.of htb Tryz.func159 rfl rfl rfl rfl rfl fun cx hN h0 => ?_
  (repeat' (first | (refine nx ?_) | (refine WD_call (by exact rfl) ?_; first | (refine WD_c0 (idxN_m _ ?_) ?_; (exact hyp))) | ((with_reducible apply WD_id); first | (refine WD_clr htb ?_))))
  exact gE (.inr rfl) rfl rfl trivial
theorem ofI_step {l : List Int} {k : Nat} {a : Int} (h : k < l.length) : ofI (l.drop k) a = if nodeB (nth l k) = false then (0, 5) else if hasB a (nth l k) = true then (0, 6) else ofI (l.drop (k + 1)) (borI a (shlI (nth l k))) := by
  rw [drop_nth l k h]; rfl
theorem of_m (l : List Int) (hl : l.length ≤ 1000) : FnM Tryz.prog 163 [] [lI l] (.tup [vI (ofI l 0).1, vI (ofI l 0).2]) [] := by
  refine FnM.of htb Tryz.func163 rfl rfl rfl rfl rfl fun cx hN h0 => ?_
  (repeat' (first | (refine nx ?_) | ((with_reducible apply WD_id); first | (refine WD_clr htb ?_))))
  (refine WA_anyV (α := Nat × Int) (fun x => l.length - x.1) ((0, 0)) [9, 4] [] (fun x => [(9, vI x.1), (4, vI x.2)]) (fun x => []) (fun x => x.1 ≤ l.length ∧ ofI l 0 = ofI (l.drop x.1) x.2) ?h0 ?_)
  case h0 => exact ⟨Nat.zero_le _, rfl⟩
  rintro ⟨k, a⟩ ⟨hk, hI⟩
  dsimp only at hk hI ⊢
  rcases Nat.lt_or_ge k l.length with hk' | hk'
  · have t1 : decide ((k : Int) < (l.length : Int)) = true := by simp; omega
    rw [ofI_step hk'] at hI
    cases hn : nodeB (nth l k) with
    | false =>
      rw [if_pos hn] at hI
      rw [hI]
      have hn2 : ¬ (0 ≤ nth l k ∧ nth l k < 10) := by intro h; simp [nodeB, h] at hn
      by_cases h0 : nth l k < 0
      · have t2 : decide (nth l k < 0) = true := by simp; omega
        (repeat' (first | (refine nx ?_) | ((with_reducible apply WD_id); first | (refine WD_clr htb ?_))))
        exact gE (.inr rfl) rfl rfl trivial
      · have t2 : decide (nth l k < 0) = false := by simp; omega
        have t3 : decide (nth l k ≥ 10) = true := by simp; omega
        (repeat' (first | (refine nx ?_) | ((with_reducible apply WD_id); first | (refine WD_clr htb ?_))))
        exact gE (.inr rfl) rfl rfl trivial
    | true =>
      have hn2 : 0 ≤ nth l k ∧ nth l k < 10 := by simpa [nodeB] using hn
      have t2 : decide (nth l k < 0) = false := by simp; omega
      have t3 : decide (nth l k ≥ 10) = false := by simp; omega
      rw [if_neg (by simp [hn])] at hI
      cases hh : hasB a (nth l k) with
      | true =>
        rw [if_pos hh] at hI
        rw [hI]
        (repeat' (first | (refine nx ?_) | (refine WD_call (by exact rfl) ?_; first | (refine WD_c0 (has_m _ _) ?_)) | ((with_reducible apply WD_id); first | (refine WD_clr htb ?_))))
        exact gE (.inr rfl) rfl rfl trivial
      | false =>
        rw [if_neg (by simp [hh])] at hI
        (repeat' (first | ((with_reducible apply WD_id); first | (refine WD_eq (shl_step rfl rfl rfl) ?_) | (refine WD_eq (bor_step rfl rfl rfl) ?_)) | (refine nx ?_) | (refine WD_call (by exact rfl) ?_; first | (refine WD_c0 (has_m _ _) ?_)) | ((with_reducible apply WD_id); first | (refine WD_clr htb ?_))))
        refine ⟨(k + 1, borI a (shlI (nth l k))), (by dsimp only; omega), ⟨hk', hI⟩, ?_⟩
        (exact LeV [])
  · have t1 : decide ((k : Int) < (l.length : Int)) = false := by simp; omega
    rw [List.drop_eq_nil_of_le hk'] at hI
    rw [hI]
    (repeat' (first | (refine nx ?_) | ((with_reducible apply WD_id); first | (refine WD_clr htb ?_))))
    exact gE (.inr rfl) rfl rfl trivial
theorem levT_eq (t : Tr) : levT t = if t.k < 1 ∨ (t.ns.length : Int) + (t.is.length : Int) < t.k then 4 else if decide (idxF (fun k => !nodeB k) 0 t.ns ≥ 0) = true then 5 else if (ofI t.ns 0).2 ≠ 0 then (ofI t.ns 0).2 else levL t.is := by cases t; simp only [levT, Tr.k, Tr.ns, Tr.is]; rfl
theorem levL_step {l : List Tr} {k : Nat} (h : k < l.length) : levL (l.drop k) = if levT (nth l k) ≠ 0 then levT (nth l k) else levL (l.drop (k + 1)) := by
  rw [drop_nth l k h, levL]
theorem lev_m : ∀ (d : Nat) (t : Tr) (hd : hT t ≤ d) (hs : sizT t ≤ 1000), FnM Tryz.prog 107 [] [aTr t] (vI (levT t)) [] := by
  intro d
  induction d with
  | zero => intro t hd; cases t; simp [hT] at hd
  | succ d ih =>
    intro t hd hs
    have hl := siz_len t
    have hn := hs
    have levR_m : ∀ (x : Tr) (hx : hT x ≤ d ∧ sizT x ≤ 1000), FnM Tryz.prog 107 [] [aTr x] (vI (levT x)) [] := fun x hx => ih x hx.1 hx.2
    show FnM _ _ _ [.agg [vI t.k, lI t.ns, .d (.rows 3 (t.is.map rTr))]] _ _
    rw [rTr_p, levT_eq]
    refine FnM.of htb Tryz.func107 rfl rfl rfl rfl rfl fun cx hN h0 => ?_
    by_cases hc1 : t.k < 1
    · have t1 : decide (t.k < 1) = true := by simp; omega
      rw [if_pos (.inl hc1)]
      (repeat' (first | (refine nx ?_) | ((with_reducible apply WD_id); first | (refine WD_clr htb ?_))))
      exact gE (.inr rfl) rfl rfl trivial
    have t1 : decide (t.k < 1) = false := by simp; omega
    by_cases hc2 : (t.ns.length : Int) + (t.is.length : Int) < t.k
    · have t2 : decide (t.k > (t.ns.length : Int) + (t.is.length : Int)) = true := by simp; omega
      rw [if_pos (.inr hc2)]
      (repeat' (first | (refine nx ?_) | ((with_reducible apply WD_id); first | (refine WD_clr htb ?_))))
      exact gE (.inr rfl) rfl rfl trivial
    have t2 : decide (t.k > (t.ns.length : Int) + (t.is.length : Int)) = false := by simp; omega
    rw [if_neg (by omega)]
    cases hc3 : decide (idxF (fun k => !nodeB k) 0 t.ns ≥ 0) with
    | true =>
      rw [if_pos rfl]
      (repeat' (first | (refine nx ?_) | (refine WD_call (by exact rfl) ?_; first | (refine WD_c0 (contN_m _ ?_) ?_; (exact hyp))) | ((with_reducible apply WD_id); first | (refine WD_clr htb ?_))))
      exact gE (.inr rfl) rfl rfl trivial
    | false =>
      rw [if_neg (by simp)]
      by_cases hc4 : (ofI t.ns 0).2 ≠ 0
      · rw [if_pos hc4]
        have t4 : ((ofI t.ns 0).2 != 0) = true := by simpa using hc4
        (repeat' (first | (refine nx ?_) | (refine WD_call (by exact rfl) ?_; first | (refine WD_c0 (contN_m _ ?_) ?_; (exact hyp)) | (refine WD_c0 (of_m _ ?_) ?_; (exact hyp))) | ((with_reducible apply WD_id); first | (refine WD_clr htb ?_))))
        exact gE (.inr rfl) rfl rfl trivial
      · rw [if_neg hc4]
        have t4 : ((ofI t.ns 0).2 != 0) = false := by simpa using hc4
        (repeat' (first | (refine nx ?_) | (refine WD_call (by exact rfl) ?_; first | (refine WD_c0 (contN_m _ ?_) ?_; (exact hyp)) | (refine WD_c0 (of_m _ ?_) ?_; (exact hyp))) | ((with_reducible apply WD_id); first | (refine WD_clr htb ?_))))
        (refine WA_forV (t.is.length) [38] [] (fun k => [(38, vI k)]) (fun k => []) (fun k => levL t.is = levL (t.is.drop k)) ?h0 ?_)
        case h0 => rfl
        intro k hk hI
        rcases Nat.lt_or_ge k t.is.length with hk' | hk'
        · have t5 : decide ((k : Int) < (t.is.length : Int)) = true := by simp; omega
          have hm := nth_mem t.is k hk'
          have hx : hT (nth t.is k) ≤ d ∧ sizT (nth t.is k) ≤ 1000 := by have := hT_mem hm; have := siz_mem hm; omega
          rw [levL_step hk'] at hI
          by_cases hy : levT (nth t.is k) ≠ 0
          · rw [if_pos hy] at hI
            have t6 : (levT (nth t.is k) != 0) = true := by simpa using hy
            (repeat' (first | (refine nx ?_) | (refine WD_call (by exact rfl) ?_; first | (refine WD_c0 (levR_m _ ?_) ?_; (exact hyp))) | ((with_reducible apply WD_id); first | (refine WD_clr htb ?_))))
            exact gE (.inr rfl) rfl (congrArg vI hI.symm) trivial
          · rw [if_neg hy] at hI
            have t6 : (levT (nth t.is k) != 0) = false := by simpa using hy
            (repeat' (first | (refine nx ?_) | (refine WD_call (by exact rfl) ?_; first | (refine WD_c0 (levR_m _ ?_) ?_; (exact hyp))) | ((with_reducible apply WD_id); first | (refine WD_clr htb ?_))))
            refine ⟨hk', hI, ?_⟩
            (exact LeV [])
        · have t5 : decide ((k : Int) < (t.is.length : Int)) = false := by simp; omega
          rw [List.drop_eq_nil_of_le hk'] at hI
          (repeat' (first | (refine nx ?_) | ((with_reducible apply WD_id); first | (refine WD_clr htb ?_))))
          exact gE (.inr rfl) rfl (congrArg vI hI.symm) trivial
theorem chk3_m (t : Tr) (hs : sizT t ≤ 1000) : FnM Tryz.prog 44 [] [aTr t] (vI (chkT t)) [] := by
  have hh : hT t ≤ hT t ∧ sizT t ≤ 1000 := ⟨Nat.le_refl _, hs⟩
  have depR_m : ∀ (x : Tr) (hx : hT x ≤ hT t ∧ sizT x ≤ 1000), FnM Tryz.prog 105 [] [aTr x] (vI (depT x)) [] := fun x hx => dep_m (hT t) x hx.1 hx.2
  have sizR_m : ∀ (x : Tr) (hx : hT x ≤ hT t ∧ sizT x ≤ 1000), FnM Tryz.prog 106 [] [aTr x] (vI (sizT x)) [] := fun x hx => siz_m (hT t) x hx.1 hx.2
  have levR_m : ∀ (x : Tr) (hx : hT x ≤ hT t ∧ sizT x ≤ 1000), FnM Tryz.prog 107 [] [aTr x] (vI (levT x)) [] := fun x hx => lev_m (hT t) x hx.1 hx.2
  refine FnM.of htb Tryz.func44 rfl rfl rfl rfl rfl fun cx hN h0 => ?_
  by_cases h1 : depT t > 4
  · have t1 : decide (depT t > 4) = true := by simpa using h1
    (repeat' (first | (refine nx ?_) | (refine WD_call (by exact rfl) ?_; first | (refine WD_c0 (depR_m _ ?_) ?_; (exact hyp))) | ((with_reducible apply WD_id); first | (refine WD_clr htb ?_))))
    exact gE (.inr rfl) rfl (congrArg vI (by unfold chkT; rw [if_pos (.inl h1)])) trivial
  have t1 : decide (depT t > 4) = false := by simpa using h1
  by_cases h2 : sizT t > 200
  · have t2 : decide (sizT t > 200) = true := by simpa using h2
    (repeat' (first | (refine nx ?_) | (refine WD_call (by exact rfl) ?_; first | (refine WD_c0 (depR_m _ ?_) ?_; (exact hyp)) | (refine WD_c0 (sizR_m _ ?_) ?_; (exact hyp))) | ((with_reducible apply WD_id); first | (refine WD_clr htb ?_))))
    exact gE (.inr rfl) rfl (congrArg vI (by unfold chkT; rw [if_pos (.inr h2)])) trivial
  have t2 : decide (sizT t > 200) = false := by simpa using h2
  (repeat' (first | (refine nx ?_) | (refine WD_call (by exact rfl) ?_; first | (refine WD_c0 (depR_m _ ?_) ?_; (exact hyp)) | (refine WD_c0 (sizR_m _ ?_) ?_; (exact hyp)) | (refine WD_c0 (levR_m _ ?_) ?_; (exact hyp))) | ((with_reducible apply WD_id); first | (refine WD_clr htb ?_))))
  exact gE (.inr rfl) rfl (congrArg vI (by unfold chkT; rw [if_neg (by omega)])) trivial
theorem useT_eq (t : Tr) : useT t = useL t.is (useI t.ns 0) := by cases t; simp only [useT, Tr.ns, Tr.is]
theorem use_m : ∀ (d : Nat) (t : Tr) (hd : hT t ≤ d) (hs : sizT t ≤ 1000), FnM Tryz.prog 147 [] [aTr t] (vI (useT t)) [] := by
  intro d
  induction d with
  | zero => intro t hd; cases t; simp [hT] at hd
  | succ d ih =>
    intro t hd hs
    have hl := siz_len t
    have useR_m : ∀ (x : Tr) (hx : hT x ≤ d ∧ sizT x ≤ 1000), FnM Tryz.prog 147 [] [aTr x] (vI (useT x)) [] := fun x hx => ih x hx.1 hx.2
    show FnM _ _ _ [.agg [vI t.k, lI t.ns, .d (.rows 3 (t.is.map rTr))]] _ _
    rw [rTr_p, useT_eq]
    refine FnM.of htb Tryz.func147 rfl rfl rfl rfl rfl fun cx hN h0 => ?_
    (repeat' (first | (refine nx ?_) | ((with_reducible apply WD_id); first | (refine WD_clr htb ?_))))
    (refine WA_forV (t.ns.length) [11, 3] [] (fun k => [(11, vI k), (3, vI (useI (t.ns.take k) 0))]) (fun k => []) (fun k => True) ?h0 ?_)
    case h0 => trivial
    intro k hk _
    rcases Nat.lt_or_ge k t.ns.length with hk' | hk'
    · have t1 : decide ((k : Int) < (t.ns.length : Int)) = true := by simp; omega
      have hw := useI_take (a := 0) hk'
      cases hx : nodeB (nth t.ns k) with
      | true =>
        have hx2 : 0 ≤ nth t.ns k ∧ nth t.ns k < 10 := by simpa [nodeB] using hx
        have hx3 := hx2.1
        (repeat' (first | ((with_reducible apply WD_id); first | (refine WD_eq (shl_step rfl rfl rfl) ?_) | (refine WD_eq (bor_step rfl rfl rfl) ?_)) | (refine nx ?_) | (refine WD_call (by exact rfl) ?_; first | (refine WD_c0 (tnode_m _) ?_)) | ((with_reducible apply WD_id); first | (refine WD_clr htb ?_))))
        refine ⟨hk', trivial, ?_⟩
        rw [hw, if_pos hx]
        (exact LeV [])
      | false =>
        (repeat' (first | (refine nx ?_) | (refine WD_call (by exact rfl) ?_; first | (refine WD_c0 (tnode_m _) ?_)) | ((with_reducible apply WD_id); first | (refine WD_clr htb ?_))))
        refine ⟨hk', trivial, ?_⟩
        rw [hw, if_neg (by simp [hx])]
        (exact LeV [])
    · have t1 : decide ((k : Int) < (t.ns.length : Int)) = false := by simp; omega
      have e1 : t.ns.take k = t.ns := take_all hk'
      rw [e1]
      (repeat' (first | (refine nx ?_) | ((with_reducible apply WD_id); first | (refine WD_clr htb ?_))))
      (refine WA_forV (t.is.length) [25, 3] [] (fun k => [(25, vI k), (3, vI (useL (t.is.take k) (useI t.ns 0)))]) (fun k => []) (fun k => True) ?h0 ?_)
      case h0 => trivial
      intro k2 hk2 _
      rcases Nat.lt_or_ge k2 t.is.length with hk2' | hk2'
      · have t2 : decide ((k2 : Int) < (t.is.length : Int)) = true := by simp; omega
        have hw := useL_take (a := useI t.ns 0) hk2'
        have hm := nth_mem t.is k2 hk2'
        have hx : hT (nth t.is k2) ≤ d ∧ sizT (nth t.is k2) ≤ 1000 := by have := hT_mem hm; have := siz_mem hm; omega
        (repeat' (first | ((with_reducible apply WD_id); first | (refine WD_eq (bor_step rfl rfl rfl) ?_)) | (refine nx ?_) | (refine WD_call (by exact rfl) ?_; first | (refine WD_c0 (useR_m _ ?_) ?_; (exact hyp))) | ((with_reducible apply WD_id); first | (refine WD_clr htb ?_))))
        refine ⟨hk2', trivial, ?_⟩
        rw [hw]
        (exact LeV [])
      · have t2 : decide ((k2 : Int) < (t.is.length : Int)) = false := by simp; omega
        have e2 : t.is.take k2 = t.is := take_all hk2'
        rw [e2]
        (repeat' (first | (refine nx ?_) | ((with_reducible apply WD_id); first | (refine WD_clr htb ?_))))
        exact gE (.inr rfl) rfl rfl trivial
end Go.Proofs.YtdhogcklnehdhaaGreatDoor
namespace Go.Proofs.YtdhogcklnehdhaaGreatDoor
set_option linter.unusedSimpArgs false
set_option linter.unusedVariables false
set_option linter.unnecessarySimpa false
set_option linter.unusedSectionVars false
set_option maxRecDepth 100000
open Go Go.RowKit Go.Am Go.Proofs.Grow
section
variable {o : Oper} {t t' : TypeId} {x y : Operand} {T : Nat → Option AV} {M : Nat → Option AO} {a b : Nat}
theorem bandN_step (ho : o.op = .binOp .and t x y t') (hx : evA T x = some (vI (a : Int))) (hy : evA T y = some (vI (b : Int))) (ha : a < 4611686018427387904 := by exact num) (hb : b < 4611686018427387904 := by exact num) : StepOK Tryz.prog o T M ⟨vI ((a &&& b : Nat) : Int), [], []⟩ := by
  rw [← band_nat ha hb]; exact band_step ho hx hy
theorem borN_step (ho : o.op = .binOp .or t x y t') (hx : evA T x = some (vI (a : Int))) (hy : evA T y = some (vI (b : Int))) (ha : a < 4611686018427387904 := by exact num) (hb : b < 4611686018427387904 := by exact num) : StepOK Tryz.prog o T M ⟨vI ((a ||| b : Nat) : Int), [], []⟩ := by
  rw [← bor_nat ha hb]; exact bor_step ho hx hy
theorem bnotN_step (ho : o.op = .binOp .andNot t x y t') (hx : evA T x = some (vI (a : Int))) (hy : evA T y = some (vI (b : Int))) (ha : a < 4611686018427387904 := by exact num) (hb : b < 4611686018427387904 := by exact num) : StepOK Tryz.prog o T M ⟨vI ((andn a b : Nat) : Int), [], []⟩ := by
  rw [← bnot_nat ha hb]; exact bnot_step ho hx hy
theorem shlN_step (ho : o.op = .binOp .shl t x y t') (hx : evA T x = some (vI 1)) (hy : evA T y = some (vI (b : Int))) (h0 : b ≤ 61 := by exact num) : StepOK Tryz.prog o T M ⟨vI ((2 ^ b : Nat) : Int), [], []⟩ := by
  rw [← shl_nat h0]; exact shl_step ho hx hy (by omega)
end
def rN (n : Nat) : List D := [dI (n : Int)]
abbrev lN (l : List Nat) : AV := .d (.rows 1 (l.map rN))
theorem nodes_m (s : Nat) (hs : s < 1024) : FnM Tryz.prog 68 [] [vI (s : Int)] (lN (nodesN s)) [] := by
  refine FnM.of htb Tryz.func68 rfl rfl rfl rfl rfl fun cx hN h0 => ?_
  (repeat' (first | (refine nx ?_) | ((with_reducible apply WD_id); first | (refine WD_clr htb ?_))))
  refine WA_le (Le_nilT 60 3 3 1 rfl rfl) ?_
  (refine WA_forV (10) [5, 3] [60] (fun k => [(5, vI k), (3, .own 60)]) (fun k => [(60, .arr 3 1 ((nodesTo s k).map rN))]) (fun k => True) ?h0 ?_)
  case h0 => trivial
  intro k hk _
  have hln := nodesTo_len s k
  rcases Nat.lt_or_ge k 10 with hk' | hk'
  · have t1 : decide ((k : Int) < 10) = true := by simp; omega
    have hst := nodesTo_succ s k
    have hh := has_nat hs hk'
    cases hx : s.testBit k with
    | true =>
      rw [hx] at hh
      rw [hx, if_pos rfl] at hst
      (repeat' (first | (refine nx ?_) | (refine WD_call (by exact rfl) ?_; first | (refine WD_c0 (has_m _ _) ?_)) | ((with_reducible apply WD_id); first | (refine WD_clr htb ?_))))
      refine ⟨hk', trivial, ?_⟩
      rw [hst, List.map_append]
      (exact LeV [(60, 14)])
    | false =>
      rw [hx] at hh
      rw [hx, if_neg (by simp)] at hst
      (repeat' (first | (refine nx ?_) | (refine WD_call (by exact rfl) ?_; first | (refine WD_c0 (has_m _ _) ?_)) | ((with_reducible apply WD_id); first | (refine WD_clr htb ?_))))
      refine ⟨hk', trivial, ?_⟩
      rw [hst]
      (exact LeV [])
  · have t1 : decide ((k : Int) < 10) = false := by simp; omega
    obtain rfl : k = 10 := by omega
    (repeat' (first | (refine nx ?_) | ((with_reducible apply WD_id); first | (refine WD_clr htb ?_))))
    (exact glV [(2, lN (nodesN s))] [] (LeV []))
def rMb (m : Mb) : List D := [.v (.bool m.decl), dI m.t.k, .rows 1 (m.t.ns.map rI), .rows 3 (m.t.is.map rTr)]
abbrev lMb (c : List Mb) : AV := .d (.rows 4 (c.map rMb))
abbrev aCf (c : List Mb) : AV := .agg [lMb c]
/-- Few members, with small trusts. -/
structure OkC (c : List Mb) : Prop where
  len : c.length ≤ 10
  siz : ∀ k, k < c.length → sizT (nth c k).t ≤ 1000
theorem decl_m (c : List Mb) (hc : OkC c) : FnM Tryz.prog 134 [] [aCf c] (vI (declN c : Nat)) [] := by
  have hl := hc.len
  refine FnM.of htb Tryz.func134 rfl rfl rfl rfl rfl fun cx hN h0 => ?_
  (repeat' (first | (refine nx ?_) | ((with_reducible apply WD_id); first | (refine WD_clr htb ?_))))
  (refine WA_forV (c.length) [9, 3] [] (fun k => [(9, vI k), (3, vI (declTo c k : Nat))]) (fun k => []) (fun k => True) ?h0 ?_)
  case h0 => trivial
  intro k hk _
  have hd := declTo_lt c k (by omega)
  rcases Nat.lt_or_ge k c.length with hk' | hk'
  · have t1 : decide ((k : Int) < (c.length : Int)) = true := by simp; omega
    have t2 : decide ((k : Int) < 10) = true := by simp; omega
    have hp := pow_lt (k := k) (by omega)
    cases hx : (nth c k).decl with
    | true =>
      have hst : declTo c (k + 1) = declTo c k ||| 2 ^ k := by rw [declTo, if_pos hx]
      (repeat' (first | ((with_reducible apply WD_id); first | (refine WD_eq (shlN_step rfl rfl rfl) ?_) | (refine WD_eq (borN_step rfl rfl rfl) ?_)) | (refine nx ?_) | ((with_reducible apply WD_id); first | (refine WD_clr htb ?_))))
      refine ⟨hk', trivial, ?_⟩
      rw [hst]
      (exact LeV [])
    | false =>
      have hst : declTo c (k + 1) = declTo c k := by rw [declTo, if_neg (by simp [hx])]
      (repeat' (first | (refine nx ?_) | ((with_reducible apply WD_id); first | (refine WD_clr htb ?_))))
      refine ⟨hk', trivial, ?_⟩
      rw [hst]
      (exact LeV [])
  · have t1 : decide ((k : Int) < (c.length : Int)) = false := by simp; omega
    obtain rfl : k = c.length := by omega
    (repeat' (first | (refine nx ?_) | ((with_reducible apply WD_id); first | (refine WD_clr htb ?_))))
    exact gE (.inr rfl) rfl rfl trivial
theorem content_m (c : List Mb) (k s : Nat) (hc : OkC c) (hk : k < c.length) : FnM Tryz.prog 135 [] [aCf c, vI (k : Int), vI (s : Int)] (vB (satT s (nth c k).t)) [] := by
  have hx : hT (nth c k).t ≤ hT (nth c k).t ∧ sizT (nth c k).t ≤ 1000 := ⟨Nat.le_refl _, hc.siz k hk⟩
  have satR_m : ∀ (s : Int) (x : Tr) (h : hT x ≤ hT (nth c k).t ∧ sizT x ≤ 1000), FnM Tryz.prog 179 [] [aTr x, vI s] (vB (satT s x)) [] := fun s x h => sat_m _ s x h.1 h.2
  refine FnM.of htb Tryz.func135 rfl rfl rfl rfl rfl fun cx hN h0 => ?_
  (repeat' (first | (refine nx ?_) | (refine WD_call (by exact rfl) ?_; first | (refine WD_c0 (satR_m _ _ ?_) ?_; (exact hyp))) | ((with_reducible apply WD_id); first | (refine WD_clr htb ?_))))
  exact gE (.inr rfl) rfl rfl trivial
theorem inside_m (c : List Mb) (s : Nat) (hc : OkC c) (hs : s < 1024) : FnM Tryz.prog 72 [] [aCf c, vI (s : Int)] (vB (andn s (declN c) == 0)) [] := by
  have hd := declN_lt hc.len
  refine FnM.of htb Tryz.func72 rfl rfl rfl rfl rfl fun cx hN h0 => ?_
  (repeat' (first | ((with_reducible apply WD_id); first | (refine WD_eq (bnotN_step rfl rfl rfl) ?_)) | (refine nx ?_) | (refine WD_call (by exact rfl) ?_; first | (refine WD_c0 (decl_m _ ?_) ?_; (exact hyp))) | ((with_reducible apply WD_id); first | (refine WD_clr htb ?_))))
  exact gE (.inr rfl) rfl (congrArg vB (by rw [Bool.eq_iff_iff]; first | (simp; done) | (simp; omega))) trivial
theorem unhL_step {c : List Mb} {s : Nat} {l : List Nat} {k : Nat} (h : k < l.length) : unhL c s (l.drop k) = if satT s (nth c (nth l k)).t = true then unhL c s (l.drop (k + 1)) else some (nth l k) := by
  rw [drop_nth l k h, unhL]
theorem unh_m (c : List Mb) (s : Nat) (hc : OkC c) (hs : s < 1024) (hin : ∀ k, s.testBit k = true → k < c.length) : FnM Tryz.prog 73 [] [aCf c, vI (s : Int)] (.tup [vI (uhR (unhN c s)).1, vB (uhR (unhN c s)).2]) [] := by
  refine FnM.of htb Tryz.func73 rfl rfl rfl rfl rfl fun cx hN h0 => ?_
  (repeat' (first | (refine nx ?_) | (refine WD_call (by exact rfl) ?_; first | (refine WD_c0 (nodes_m _ ?_) ?_; (exact hyp))) | ((with_reducible apply WD_id); first | (refine WD_clr htb ?_))))
  (refine WA_forV ((nodesN s).length) [11] [] (fun k => [(11, vI k)]) (fun k => []) (fun k => unhL c s (nodesN s) = unhL c s ((nodesN s).drop k)) ?h0 ?_)
  case h0 => rfl
  intro k hk hI
  have hln := nodesTo_len s 10
  rcases Nat.lt_or_ge k (nodesN s).length with hk' | hk'
  · have t1 : decide ((k : Int) < ((nodesN s).length : Int)) = true := by simp only [decide_eq_true_eq]; omega
    have hb := (mem_nodes hs).1 (nth_mem _ k hk')
    have hkc := hin _ hb
    have hk10 : k < 10 := Nat.lt_of_lt_of_le hk' hln
    rw [unhL_step hk'] at hI
    cases hx : satT s (nth c (nth (nodesN s) k)).t with
    | true =>
      rw [hx, if_pos rfl] at hI
      have t2 : (!satT s (nth c (nth (nodesN s) k)).t) = false := by rw [hx]; rfl
      (repeat' (first | (refine nx ?_) | (refine WD_call (by exact rfl) ?_; first | (refine WD_c0 (content_m _ _ _ ?_ ?_) ?_; (exact hyp); (exact hyp))) | ((with_reducible apply WD_id); first | (refine WD_clr htb ?_))))
      refine ⟨hk', hI, ?_⟩
      (exact LeV [])
    | false =>
      rw [hx, if_neg (by simp)] at hI
      have t2 : (!satT s (nth c (nth (nodesN s) k)).t) = true := by rw [hx]; rfl
      rw [show unhN c s = some (nth (nodesN s) k) from hI]
      (repeat' (first | (refine nx ?_) | (refine WD_call (by exact rfl) ?_; first | (refine WD_c0 (content_m _ _ _ ?_ ?_) ?_; (exact hyp); (exact hyp))) | ((with_reducible apply WD_id); first | (refine WD_clr htb ?_))))
      exact gE (.inr rfl) rfl rfl trivial
  · have t1 : decide ((k : Int) < ((nodesN s).length : Int)) = false := by simp only [decide_eq_false_iff_not]; omega
    rw [List.drop_eq_nil_of_le hk'] at hI
    rw [show unhN c s = none from hI]
    (repeat' (first | (refine nx ?_) | ((with_reducible apply WD_id); first | (refine WD_clr htb ?_))))
    exact gE (.inr rfl) rfl rfl trivial
theorem quo_m (c : List Mb) (s : Nat) (hc : OkC c) (hs : s < 1024) : FnM Tryz.prog 25 [] [aCf c, vI (s : Int)] (vB (quoN c s)) [] := by
  have hv := valid_nat hs
  have t0 : (!validS (s : Int)) = false := by rw [hv]; rfl
  refine FnM.of htb Tryz.func25 rfl rfl rfl rfl rfl fun cx hN h0 => ?_
  by_cases h1 : s = 0
  · have t1 : ((s : Int) == 0) = true := by simp [h1]
    (repeat' (first | (refine nx ?_) | (refine WD_call (by exact rfl) ?_; first | (refine WD_c0 (valid_m _) ?_)) | ((with_reducible apply WD_id); first | (refine WD_clr htb ?_))))
    exact gE (.inr rfl) rfl (congrArg vB (by simp [quoN, h1])) trivial
  have t1 : ((s : Int) == 0) = false := by simp [h1]
  cases h2 : (andn s (declN c) == 0) with
  | false =>
    have t2 : (!(andn s (declN c) == 0)) = true := by rw [h2]; rfl
    (repeat' (first | (refine nx ?_) | (refine WD_call (by exact rfl) ?_; first | (refine WD_c0 (valid_m _) ?_) | (refine WD_c0 (inside_m _ _ ?_ ?_) ?_; (exact hyp); (exact hyp))) | ((with_reducible apply WD_id); first | (refine WD_clr htb ?_))))
    exact gE (.inr rfl) rfl (congrArg vB (by simp [quoN, h2])) trivial
  | true =>
    have t2 : (!(andn s (declN c) == 0)) = false := by rw [h2]; rfl
    have hin : ∀ k, s.testBit k = true → k < c.length := fun k hk => by
      have := sub_bit (by simpa using h2) hk
      rw [declTo_bit] at this
      simp at this; exact this.1
    (repeat' (first | (refine nx ?_) | (refine WD_call (by exact rfl) ?_; first | (refine WD_c0 (valid_m _) ?_) | (refine WD_c0 (inside_m _ _ ?_ ?_) ?_; (exact hyp); (exact hyp)) | (refine WD_c0 (unh_m _ _ ?_ ?_ ?_) ?_; (exact hyp); (exact hyp); (exact hyp))) | ((with_reducible apply WD_id); first | (refine WD_clr htb ?_))))
    exact gE (.inr rfl) rfl (congrArg vB (by
      have h3 : (s == 0) = false := by simpa using h1
      unfold quoN; rw [h2, h3]
      cases unhN c s <;> rfl)) trivial
theorem elimG_fuel (c : List Mb) (hc : True) : ∀ (n s : Nat) (out : List Nat), s < 1024 → s ≤ n → elimG c (n + 1) s out = elimG c n s out
  | 0, s, out, hs, h => by
    obtain rfl : s = 0 := by omega
    have : unhN c 0 = none := unhL_none.2 fun k hk => by have := (mem_nodes (by omega)).1 hk; simp at this
    simp only [elimG, this]
  | n + 1, s, out, hs, h => by
    rw [elimG]
    conv => rhs; rw [elimG]
    cases hx : unhN c s with
    | none => rfl
    | some k =>
      simp only
      have hm := (mem_nodes hs).1 (unhL_some hx).1
      have := andn_lt hm
      exact elimG_fuel c hc n _ _ (by omega) (by omega)
theorem elimG_le (c : List Mb) : ∀ {n m s : Nat} {out : List Nat}, s < 1024 → s ≤ n → n ≤ m → elimG c m s out = elimG c n s out := by
  intro n m s out hs h hm
  induction m with
  | zero => obtain rfl : n = 0 := by omega
            rfl
  | succ m ih =>
    rcases Nat.lt_or_ge m n with h1 | h1
    · obtain rfl : n = m + 1 := by omega
      rfl
    · rw [elimG_fuel c trivial m s out hs (by omega), ih h1]
theorem elimG_step {c : List Mb} {s k : Nat} {out : List Nat} (hs : s < 1024) (h : unhN c s = some k) : elimG c s s out = elimG c (andn s (2 ^ k)) (andn s (2 ^ k)) (out ++ [k]) := by
  have hm := (mem_nodes hs).1 (unhL_some h).1
  have hl := andn_lt hm
  obtain ⟨n, rfl⟩ : ∃ n, s = n + 1 := ⟨s - 1, by omega⟩
  rw [elimG, h]
  exact elimG_le c (by omega) (Nat.le_refl _) (by omega)
theorem elim_m (c : List Mb) (s : Nat) (hc : OkC c) (hs : s < 1024) : FnM Tryz.prog 177 [] [aCf c, vI (s : Int)] (.tup [vI ((greatN c s).1 : Int), lN (greatN c s).2]) [] := by
  have hv := valid_nat hs
  have t0 : (!validS (s : Int)) = false := by rw [hv]; rfl
  have hd := declN_lt hc.len
  have ha := and_lt10 (b := declN c) hs
  have e0 : greatN c s = elimG c (s &&& declN c) (s &&& declN c) [] := elimG_le c ha (Nat.le_refl _) (by omega)
  rw [e0]
  refine FnM.of htb Tryz.func177 rfl rfl rfl rfl rfl fun cx hN h0 => ?_
  (repeat' (first | ((with_reducible apply WD_id); first | (refine WD_eq (bandN_step rfl rfl rfl) ?_)) | (refine nx ?_) | (refine WD_call (by exact rfl) ?_; first | (refine WD_c0 (valid_m _) ?_) | (refine WD_c0 (decl_m _ ?_) ?_; (exact hyp))) | ((with_reducible apply WD_id); first | (refine WD_clr htb ?_))))
  refine WA_le (Le_nilT 60 6 3 1 rfl rfl) ?_
  (refine WA_anyV (α := Nat × List Nat) (fun x => x.1) ((s &&& declN c, [])) [1, 6] [60] (fun x => [(1, vI (x.1 : Int)), (6, .own 60)]) (fun x => [(60, .arr 3 1 (x.2.map rN))]) (fun x => x.1 < 1024 ∧ x.1 + x.2.length ≤ 1024 ∧ andn x.1 (declN c) = 0 ∧ elimG c (s &&& declN c) (s &&& declN c) [] = elimG c x.1 x.1 x.2) ?h0 ?_)
  case h0 => exact ⟨ha, by simp; omega, sub_of fun k hk => by rw [Nat.testBit_and] at hk; simp at hk; exact hk.2, rfl⟩
  rintro ⟨x, out⟩ ⟨hx, hlo, hsub, hI⟩
  dsimp only at hx hlo hsub hI ⊢
  rw [hI]
  have hin : ∀ k, x.testBit k = true → k < c.length := fun k hk => by
    have := sub_bit hsub hk
    rw [declTo_bit] at this
    simp at this; exact this.1
  cases hu : unhN c x with
  | none =>
    have e1 : elimG c x x out = (x, out) := by
      cases x with
      | zero => rfl
      | succ n => rw [elimG, hu]
    have t2 : (!(uhR (unhN c x)).2) = true := by rw [hu]; rfl
    rw [e1]
    (repeat' (first | (refine nx ?_) | (refine WD_call (by exact rfl) ?_; first | (refine WD_c0 (unh_m _ _ ?_ ?_ ?_) ?_; (exact hyp); (exact hyp); (exact hyp))) | ((with_reducible apply WD_id); first | (refine WD_clr htb ?_))))
    (exact glV [(4, vI (x : Int)), (5, lN out)] [] (LeV []))
  | some k =>
    have hm := (mem_nodes hx).1 (unhL_some hu).1
    have hk10 := bit_lt hx hm
    have hp := pow_lt hk10
    have hl := andn_lt hm
    have e1 := elimG_step (out := out) hx hu
    have unhS_m : FnM Tryz.prog 73 [] [aCf c, vI (x : Int)] (.tup [vI (k : Int), vB true]) [] := by
      have := unh_m c x hc hx hin
      rw [hu] at this; exact this
    have hlen : out.length ≤ 1024 := by omega
    have hk61 : k ≤ 61 := by omega
    (repeat' (first | ((with_reducible apply WD_id); first | (refine WD_eq (shlN_step rfl rfl rfl) ?_) | (refine WD_eq (bnotN_step rfl rfl rfl) ?_)) | (refine nx ?_) | (refine WD_call (by exact rfl) ?_; first | (refine WD_c0 (unhS_m) ?_)) | ((with_reducible apply WD_id); first | (refine WD_clr htb ?_))))
    refine ⟨(andn x (2 ^ k), out ++ [k]), hl, ⟨by dsimp only; omega, by simp; omega, sub_of fun i hi => ?_, e1⟩, ?_⟩
    · rw [andn_bit] at hi
      simp at hi
      exact sub_bit hsub hi.1
    · rw [List.map_append]
      (exact LeV [(60, 29)])
theorem great_m (c : List Mb) (s : Nat) (hc : OkC c) (hs : s < 1024) : FnM Tryz.prog 125 [] [aCf c, vI (s : Int)] (vI ((greatN c s).1 : Int)) [] := by
  refine FnM.of htb Tryz.func125 rfl rfl rfl rfl rfl fun cx hN h0 => ?_
  (repeat' (first | (refine nx ?_) | (refine WD_call (by exact rfl) ?_; first | (refine WD_c0 (elim_m _ _ ?_ ?_) ?_; (exact hyp); (exact hyp))) | ((with_reducible apply WD_id); first | (refine WD_clr htb ?_))))
  exact gE (.inr rfl) rfl rfl trivial
end Go.Proofs.YtdhogcklnehdhaaGreatDoor
namespace Go.Proofs.YtdhogcklnehdhaaGreatDoor
set_option linter.unusedSimpArgs false
set_option linter.unusedVariables false
set_option linter.unnecessarySimpa false
set_option linter.unusedSectionVars false
set_option maxRecDepth 100000
open Go Go.RowKit Go.Am Go.Proofs.Grow
section
variable {o : Oper} {t t' : TypeId} {x y : Operand} {T : Nat → Option AV} {M : Nat → Option AO} {b : Nat}
theorem bnotE_step (ho : o.op = .binOp .andNot t x y t') (hx : evA T x = some (vI 1023)) (hy : evA T y = some (vI (b : Int))) (hb : b < 4611686018427387904 := by exact num) : StepOK Tryz.prog o T M ⟨vI ((andn 1023 b : Nat) : Int), [], []⟩ :=
  bnotN_step (a := 1023) ho hx hy (by decide) hb
end
abbrev aMb (m : Mb) : AV := .agg [vB m.decl, vI m.t.k, lI m.t.ns, lTr m.t.is]
def blankT (t : Tr) : Bool := (t.k == 0) && ((t.ns.length == 0) && (t.is.length == 0))
theorem blank_m (t : Tr) (hs : sizT t ≤ 1000) : FnM Tryz.prog 154 [] [aTr t] (vB (blankT t)) [] := by
  refine FnM.of htb Tryz.func154 rfl rfl rfl rfl rfl fun cx hN h0 => ?_
  cases h1 : (t.k == 0) with
  | false =>
    (repeat' (first | (refine nx ?_) | ((with_reducible apply WD_id); first | (refine WD_clr htb ?_))))
    exact gE (.inr rfl) rfl (congrArg vB (by simp [blankT, h1])) trivial
  | true =>
    cases h2 : (((t.ns.length : Int)) == 0) with
    | false =>
      (repeat' (first | (refine nx ?_) | ((with_reducible apply WD_id); first | (refine WD_clr htb ?_))))
      exact gE (.inr rfl) rfl (congrArg vB (by simp at h2; simp [blankT, h1, h2])) trivial
    | true =>
      (repeat' (first | (refine nx ?_) | ((with_reducible apply WD_id); first | (refine WD_clr htb ?_))))
      exact gE (.inr rfl) rfl (congrArg vB (by
        have e : (((t.is.length : Int)) == 0) = (t.is.length == 0) := by rw [Bool.eq_iff_iff]; simp
        have h3 : t.ns.length = 0 := by simpa using h2
        simp [blankT, h1, h3, e])) trivial
def membF (m : Mb) (n : Nat) : Int := if m.decl = false then (if blankT m.t = true then 0 else 1) else if chkT m.t ≠ 0 then chkT m.t else if useT m.t ≥ ((2 ^ n : Nat) : Int) then 5 else 0
theorem memb_m (m : Mb) (n : Nat) (hs : sizT m.t ≤ 1000) (hn : n ≤ 10) : FnM Tryz.prog 102 [] [aMb m, vI (n : Int)] (vI (membF m n)) [] := by
  have useS_m : FnM Tryz.prog 147 [] [aTr m.t] (vI (useT m.t)) [] := use_m _ m.t (Nat.le_refl _) hs
  refine FnM.of htb Tryz.func102 rfl rfl rfl rfl rfl fun cx hN h0 => ?_
  unfold membF
  cases hd : m.decl with
  | false =>
    have t0 : (!m.decl) = true := by rw [hd]; rfl
    rw [if_pos rfl]
    cases hb : blankT m.t with
    | false =>
      have t1 : (!blankT m.t) = true := by rw [hb]; rfl
      (repeat' (first | (refine nx ?_) | (refine WD_call (by exact rfl) ?_; first | (refine WD_c0 (blank_m _ ?_) ?_; (exact hyp))) | ((with_reducible apply WD_id); first | (refine WD_clr htb ?_))))
      exact gE (.inr rfl) rfl rfl trivial
    | true =>
      have t1 : (!blankT m.t) = false := by rw [hb]; rfl
      (repeat' (first | (refine nx ?_) | (refine WD_call (by exact rfl) ?_; first | (refine WD_c0 (blank_m _ ?_) ?_; (exact hyp))) | ((with_reducible apply WD_id); first | (refine WD_clr htb ?_))))
      exact gE (.inr rfl) rfl rfl trivial
  | true =>
    have t0 : (!m.decl) = false := by rw [hd]; rfl
    rw [if_neg (by simp)]
    by_cases hc : chkT m.t ≠ 0
    · rw [if_pos hc]
      have t1 : (chkT m.t != 0) = true := by simpa using hc
      (repeat' (first | (refine nx ?_) | (refine WD_call (by exact rfl) ?_; first | (refine WD_c0 (chk3_m _ ?_) ?_; (exact hyp))) | ((with_reducible apply WD_id); first | (refine WD_clr htb ?_))))
      exact gE (.inr rfl) rfl rfl trivial
    · rw [if_neg hc]
      have t1 : (chkT m.t != 0) = false := by simpa using hc
      have hn61 : n ≤ 61 := by omega
      by_cases hu : useT m.t ≥ ((2 ^ n : Nat) : Int)
      · rw [if_pos hu]
        have t2 : decide (useT m.t ≥ ((2 ^ n : Nat) : Int)) = true := by simpa using hu
        (repeat' (first | ((with_reducible apply WD_id); first | (refine WD_eq (shlN_step rfl rfl rfl) ?_)) | (refine nx ?_) | (refine WD_call (by exact rfl) ?_; first | (refine WD_c0 (chk3_m _ ?_) ?_; (exact hyp)) | (refine WD_c0 (useS_m) ?_)) | ((with_reducible apply WD_id); first | (refine WD_clr htb ?_))))
        exact gE (.inr rfl) rfl rfl trivial
      · rw [if_neg hu]
        have t2 : decide (useT m.t ≥ ((2 ^ n : Nat) : Int)) = false := by simpa using hu
        (repeat' (first | ((with_reducible apply WD_id); first | (refine WD_eq (shlN_step rfl rfl rfl) ?_)) | (refine nx ?_) | (refine WD_call (by exact rfl) ?_; first | (refine WD_c0 (chk3_m _ ?_) ?_; (exact hyp)) | (refine WD_c0 (useS_m) ?_)) | ((with_reducible apply WD_id); first | (refine WD_clr htb ?_))))
        exact gE (.inr rfl) rfl rfl trivial
def valL (n : Nat) : List Mb → Int
  | [] => 0
  | m :: r => if membF m n ≠ 0 then membF m n else valL n r
def valC (c : List Mb) : Int := valL c.length c
theorem valL_step {n : Nat} {l : List Mb} {k : Nat} (h : k < l.length) : valL n (l.drop k) = if membF (nth l k) n ≠ 0 then membF (nth l k) n else valL n (l.drop (k + 1)) := by
  rw [drop_nth l k h, valL]
theorem valC_m (c : List Mb) (hc : OkC c) : FnM Tryz.prog 62 [] [aCf c] (vI (valC c)) [] := by
  have hl := hc.len
  have t0 : decide ((c.length : Int) > 10) = false := by simp; omega
  refine FnM.of htb Tryz.func62 rfl rfl rfl rfl rfl fun cx hN h0 => ?_
  (repeat' (first | (refine nx ?_) | ((with_reducible apply WD_id); first | (refine WD_clr htb ?_))))
  (refine WA_forV (c.length) [13] [] (fun k => [(13, vI k)]) (fun k => []) (fun k => valL c.length c = valL c.length (c.drop k)) ?h0 ?_)
  case h0 => rfl
  intro k hk hI
  rcases Nat.lt_or_ge k c.length with hk' | hk'
  · have t1 : decide ((k : Int) < (c.length : Int)) = true := by simp; omega
    have hs := hc.siz k hk'
    have membS_m : FnM Tryz.prog 102 [] [aMb (nth c k), vI ((c.map rMb).length : Int)] (vI (membF (nth c k) c.length)) [] := by rw [List.length_map]; exact memb_m _ _ hs hl
    rw [valL_step hk'] at hI
    by_cases hy : membF (nth c k) c.length ≠ 0
    · rw [if_pos hy] at hI
      have t2 : (membF (nth c k) c.length != 0) = true := by simpa using hy
      (repeat' (first | (refine nx ?_) | (refine WD_call (by exact rfl) ?_; first | (refine WD_c0 (membS_m) ?_)) | ((with_reducible apply WD_id); first | (refine WD_clr htb ?_))))
      exact gE (.inr rfl) rfl (congrArg vI hI.symm) trivial
    · rw [if_neg hy] at hI
      have t2 : (membF (nth c k) c.length != 0) = false := by simpa using hy
      (repeat' (first | (refine nx ?_) | (refine WD_call (by exact rfl) ?_; first | (refine WD_c0 (membS_m) ?_)) | ((with_reducible apply WD_id); first | (refine WD_clr htb ?_))))
      refine ⟨hk', hI, ?_⟩
      (exact LeV [])
  · have t1 : decide ((k : Int) < (c.length : Int)) = false := by simp; omega
    rw [List.drop_eq_nil_of_le hk'] at hI
    (repeat' (first | (refine nx ?_) | ((with_reducible apply WD_id); first | (refine WD_clr htb ?_))))
    exact gE (.inr rfl) rfl (congrArg vI hI.symm) trivial
def blkN (c : List Mb) (v s : Nat) : Bool := (declN c).testBit v && !satT (((andn 1023 s ||| 2 ^ v : Nat)) : Int) (nth c v).t
theorem blk_m (c : List Mb) (v s : Nat) (hc : OkC c) (hv : v < 10) (hs : s < 1024) : FnM Tryz.prog 232 [] [aCf c, vI (v : Int), vI (s : Int)] (vB (blkN c v s)) [] := by
  have t0 : (!validS (s : Int)) = false := by rw [valid_nat hs]; rfl
  have hd := declN_lt hc.len
  have hh := has_nat hd hv
  have hp := pow_lt hv
  have ha := andn_lt10 (b := s) (show 1023 < 1024 by decide)
  have hv61 : v ≤ 61 := by omega
  refine FnM.of htb Tryz.func232 rfl rfl rfl rfl rfl fun cx hN h0 => ?_
  cases hb : (declN c).testBit v with
  | false =>
    rw [hb] at hh
    have t1 : (!hasB ((declN c : Nat) : Int) (v : Int)) = true := by rw [hh]; rfl
    (repeat' (first | (refine nx ?_) | (refine WD_call (by exact rfl) ?_; first | (refine WD_c0 (valid_m _) ?_) | (refine WD_c0 (decl_m _ ?_) ?_; (exact hyp)) | (refine WD_c0 (has_m _ _) ?_)) | ((with_reducible apply WD_id); first | (refine WD_clr htb ?_))))
    exact gE (.inr rfl) rfl (congrArg vB (by simp [blkN, hb])) trivial
  | true =>
    rw [hb] at hh
    have t1 : (!hasB ((declN c : Nat) : Int) (v : Int)) = false := by rw [hh]; rfl
    have hvc : v < c.length := by rw [declTo_bit] at hb; simp at hb; exact hb.1
    have satS_m : FnM Tryz.prog 179 [] [aTr (nth c v).t, vI ((andn 1023 s ||| 2 ^ v : Nat) : Int)] (vB (satT ((andn 1023 s ||| 2 ^ v : Nat) : Int) (nth c v).t)) [] := sat_m _ _ _ (Nat.le_refl _) (hc.siz v hvc)
    (repeat' (first | ((with_reducible apply WD_id); first | (refine WD_eq (bnotE_step rfl rfl rfl) ?_) | (refine WD_eq (shlN_step rfl rfl rfl) ?_) | (refine WD_eq (borN_step rfl rfl rfl) ?_)) | (refine nx ?_) | (refine WD_call (by exact rfl) ?_; first | (refine WD_c0 (valid_m _) ?_) | (refine WD_c0 (decl_m _ ?_) ?_; (exact hyp)) | (refine WD_c0 (has_m _ _) ?_) | (refine WD_c0 (satS_m) ?_)) | ((with_reducible apply WD_id); first | (refine WD_clr htb ?_))))
    exact gE (.inr rfl) rfl (congrArg vB (by simp [blkN, hb])) trivial
def accN (c : List Mb) (v votes accepts : Nat) : Bool := blkN c v accepts || (greatN c (votes ||| accepts)).1.testBit v
theorem elimG_lt (c : List Mb) : ∀ (n s : Nat) (out : List Nat), (elimG c n s out).1 ≤ s
  | 0, s, out => Nat.le_refl _
  | n + 1, s, out => by
    rw [elimG]
    split
    · exact Nat.le_refl _
    · exact Nat.le_trans (elimG_lt c n _ _) (andn_le _ _)
theorem great_lt (c : List Mb) {s : Nat} (hs : s < 1024) : (greatN c s).1 < 1024 := Nat.lt_of_le_of_lt (elimG_lt c _ _ _) (and_lt10 hs)
theorem acc_m (c : List Mb) (v a b : Nat) (hc : OkC c) (hv : v < 10) (ha : a < 1024) (hb : b < 1024) : FnM Tryz.prog 203 [] [aCf c, vI (v : Int), vI (a : Int), vI (b : Int)] (vB (accN c v a b)) [] := by
  have t0 : (!validS (a : Int)) = false := by rw [valid_nat ha]; rfl
  have t1 : (!validS (b : Int)) = false := by rw [valid_nat hb]; rfl
  have ho := or_lt10 ha hb
  have hg := great_lt c ho
  have hh := has_nat hg hv
  refine FnM.of htb Tryz.func203 rfl rfl rfl rfl rfl fun cx hN h0 => ?_
  cases hx : blkN c v b with
  | true =>
    (repeat' (first | (refine nx ?_) | (refine WD_call (by exact rfl) ?_; first | (refine WD_c0 (valid_m _) ?_) | (refine WD_c0 (blk_m _ _ _ ?_ ?_ ?_) ?_; (exact hyp); (exact hyp); (exact hyp))) | ((with_reducible apply WD_id); first | (refine WD_clr htb ?_))))
    exact gE (.inr rfl) rfl (congrArg vB (by simp [accN, hx])) trivial
  | false =>
    (repeat' (first | ((with_reducible apply WD_id); first | (refine WD_eq (borN_step rfl rfl rfl) ?_)) | (refine nx ?_) | (refine WD_call (by exact rfl) ?_; first | (refine WD_c0 (valid_m _) ?_) | (refine WD_c0 (blk_m _ _ _ ?_ ?_ ?_) ?_; (exact hyp); (exact hyp); (exact hyp)) | (refine WD_c0 (great_m _ _ ?_ ?_) ?_; (exact hyp); (exact hyp)) | (refine WD_c0 (has_m _ _) ?_)) | ((with_reducible apply WD_id); first | (refine WD_clr htb ?_))))
    exact gE (.inr rfl) rfl (congrArg vB (by simp [accN, hx, hh])) trivial
end Go.Proofs.YtdhogcklnehdhaaGreatDoor
namespace Go.Am
set_option linter.unusedSimpArgs false
set_option linter.unusedVariables false
set_option linter.unnecessarySimpa false
set_option linter.unusedSectionVars false
set_option maxRecDepth 100000
open Go Go.RowKit Go.Proofs.Grow
/-- A nil slice inside of data read as an empty one. -/
inductive DN : D → D → Prop
  | refl (x : D) : DN x x
  | nil (sz : Nat) : DN (.v (.slice none 0 0)) (.rows sz [])
  | rows (sz : Nat) (rs rs' : List (List D)) (hl : rs.length = rs'.length) (hr : ∀ (i : Nat) (r r' : List D), rs[i]? = some r → rs'[i]? = some r' → r.length = r'.length)
      (h : ∀ (i : Nat) (r r' : List D) (j : Nat) (c c' : D), rs[i]? = some r → rs'[i]? = some r' → r[j]? = some c → r'[j]? = some c' → DN c c') : DN (.rows sz rs) (.rows sz rs')
theorem VD.norm {H : Nat → Prop} {w : World} {x y : D} (h : DN x y) : ∀ {v : Value}, VD H w x v → VD H w y v := by
  induction h with
  | refl x => exact fun h => h
  | nil sz => intro v h; cases h; exact .nil sz none 0 fun _ => rfl
  | rows sz rs rs' hl hr _ ih =>
    intro v h
    cases h with
    | nil _ a cap hc =>
      obtain rfl : rs' = [] := List.eq_nil_of_length_eq_zero (by simpa using hl.symm)
      exact .nil sz a cap hc
    | rows _ _ b off cap vs hne hcap hlen hb hlt hsz hcell hone hval =>
      have get : ∀ (i : Nat) (r' : List D), rs'[i]? = some r' → ∃ r, rs[i]? = some r ∧ r.length = r'.length := fun i r' h => by
        have hi : i < rs.length := by rw [hl]; exact (List.getElem?_eq_some_iff.1 h).1
        have e : rs[i]? = some rs[i] := List.getElem?_eq_getElem hi
        exact ⟨_, e, hr i _ r' e h⟩
      have gc : ∀ (i : Nat) (r' : List D) (j : Nat) (c' : D), rs'[i]? = some r' → r'[j]? = some c' → ∃ r c, rs[i]? = some r ∧ r[j]? = some c := fun i r' j c' h1 h2 => by
        obtain ⟨r, e1, e2⟩ := get i r' h1
        have hj : j < r.length := by rw [e2]; exact (List.getElem?_eq_some_iff.1 h2).1
        exact ⟨r, r[j], e1, List.getElem?_eq_getElem hj⟩
      rw [hl]
      refine .rows sz rs' b off cap vs (fun e => hne (List.eq_nil_of_length_eq_zero (by rw [hl, e]; rfl))) (by omega) (by omega) hb hlt (fun i r' h1 => ?_) (fun i r' j c' h1 h2 => ?_) (fun i r' j c' h1 h2 => ?_) (fun i r' j c' h1 h2 => ?_)
      · obtain ⟨r, e1, e2⟩ := get i r' h1; rw [← e2]; exact hsz i r e1
      · obtain ⟨r, c, e1, e2⟩ := gc i r' j c' h1 h2; exact hcell i r j c e1 e2
      · obtain ⟨r, c, e1, e2⟩ := gc i r' j c' h1 h2; exact hone i r j c e1 e2
      · obtain ⟨r, c, e1, e2⟩ := gc i r' j c' h1 h2; exact ih i r r' j c c' e1 h1 e2 h2 (hval i r j c e1 e2)
def DNs (r r' : List D) : Prop := r.length = r'.length ∧ ∀ (j : Nat) (c c' : D), r[j]? = some c → r'[j]? = some c' → DN c c'
theorem DNs.nil : DNs [] [] := ⟨rfl, fun j c c' h => by simp at h⟩
theorem DNs.cons {c c' : D} {r r' : List D} (h : DN c c') (k : DNs r r') : DNs (c :: r) (c' :: r') := ⟨by simp [k.1], fun j x y hx hy => by
  cases j with
  | zero => cases hx; cases hy; exact h
  | succ j => exact k.2 j x y hx hy⟩
theorem DNs.refl (r : List D) : DNs r r := ⟨rfl, fun j c c' h h' => by rw [h] at h'; cases h'; exact .refl _⟩
theorem DNs.append {a a' b b' : List D} (h : DNs a a') (k : DNs b b') : DNs (a ++ b) (a' ++ b') := by
  induction a generalizing a' with
  | nil => obtain rfl : a' = [] := List.eq_nil_of_length_eq_zero (by simpa using h.1.symm)
           exact k
  | cons x r ih =>
    cases a' with
    | nil => have := h.1; simp at this
    | cons y s => exact DNs.cons (h.2 0 x y rfl rfl) (ih ⟨by have := h.1; simpa using this, fun j c c' hc hc' => h.2 (j + 1) c c' hc hc'⟩)
theorem VDs.norm {H : Nat → Prop} {w : World} {r r' : List D} {vs : List Value} (h : DNs r r') (k : VDs H w r vs) : VDs H w r' vs := ⟨by rw [← h.1]; exact k.1, fun i c v hc hv => by
  have hi : i < r.length := by rw [h.1]; exact (List.getElem?_eq_some_iff.1 hc).1
  have e : r[i]? = some r[i] := List.getElem?_eq_getElem hi
  exact (k.2 i _ v e hv).norm (h.2 i _ c e hc)⟩
/-- The last row of a slice of the call's own, its nil slices read as empty ones. -/
theorem Le_norm {cx : Cx} {T : List (Nat × AV)} {M : List (Nat × AO)} (g : Nat) {ty sz : Nat} {rs : List (List D)} {r r' : List D} (hg : lk M g = some (.arr ty sz (rs ++ [r]))) (h : DNs r r') : Le cx ⟨T, M⟩ ⟨T, (g, .arr ty sz (rs ++ [r'])) :: M⟩ := by
  rintro a w ⟨μ, hI⟩
  refine ⟨μ, ?_⟩
  rw [← show upM (lk M) [(g, AO.arr ty sz (rs ++ [r']))] = lk ((g, .arr ty sz (rs ++ [r'])) :: M) from upM_cons]
  refine hI.swap hg rfl rfl fun H' hk => ?_
  obtain ⟨v, xs, g1, g2, g3, g4, g5⟩ := hI.ob g _ hg
  refine ⟨v, xs, g1, by rw [show (rs ++ [r']).length = (rs ++ [r]).length by simp]; exact g2, fun q hq => ?_, ?_, g5⟩
  · rcases List.mem_append.1 hq with hq | hq
    · exact g3 q (List.mem_append_left _ hq)
    · obtain rfl : q = r' := by simpa using hq
      rw [← h.1]; exact g3 r (by simp)
  · rw [List.flatten_append] at g4 ⊢
    refine (g4.mono hk).norm (DNs.append (DNs.refl _) ?_)
    simpa using h
end Go.Am
namespace Go.Proofs.YtdhogcklnehdhaaGreatDoor
open Go.RowKit Go.Proofs.Grow Go.Sort
def lowI (t b : Int) : Int := mxI t b - b
def delI (s : Int) : List Int → Int → List Int → Int × List Int
  | [], k, o => (k, o)
  | x :: r, k, o => if hasB s x = true then delI s r (lowI k 1) o else delI s r k (o ++ [x])
mutual
def delT (s : Int) : Tr → Tr
  | .mk k ns is => delL s is (delI s ns (mxI k 0) []).1 (delI s ns (mxI k 0) []).2 []
def delL (s : Int) : List Tr → Int → List Int → List Tr → Tr
  | [], k, ns, o => .mk k ns o
  | t :: r, k, ns, o => if (delT s t).k = 0 then delL s r (lowI k 1) ns o else delL s r k ns (o ++ [delT s t])
end
mutual
def kbT : Tr → Nat
  | .mk k _ is => max k.natAbs (kbL is)
def kbL : List Tr → Nat
  | [] => 0
  | t :: r => max (kbT t) (kbL r)
end
theorem kbL_mem : ∀ {l : List Tr} {x : Tr}, x ∈ l → kbT x ≤ kbL l
  | t :: r, x, h => by
    rcases List.mem_cons.1 h with rfl | h
    · simp only [kbL]; omega
    · have := kbL_mem h; simp only [kbL]; omega
theorem kb_mem {t x : Tr} (h : x ∈ t.is) : kbT x ≤ kbT t := by
  cases t with
  | mk k ns is => have := kbL_mem (l := is) h; simp only [kbT]; omega
theorem kb_k (t : Tr) : t.k.natAbs ≤ kbT t := by cases t; simp only [kbT, Tr.k]; omega
theorem delI_step {s : Int} {l : List Int} {k : Nat} {a : Int} {o : List Int} (h : k < l.length) : delI s (l.drop k) a o = if hasB s (nth l k) = true then delI s (l.drop (k + 1)) (lowI a 1) o else delI s (l.drop (k + 1)) a (o ++ [nth l k]) := by
  rw [drop_nth l k h, delI]
theorem delL_step {s : Int} {l : List Tr} {k : Nat} {a : Int} {ns : List Int} {o : List Tr} (h : k < l.length) : delL s (l.drop k) a ns o = if (delT s (nth l k)).k = 0 then delL s (l.drop (k + 1)) (lowI a 1) ns o else delL s (l.drop (k + 1)) a ns (o ++ [delT s (nth l k)]) := by
  rw [drop_nth l k h, delL]
theorem delI_bd (s : Int) : ∀ (l : List Int) (a : Int) (o : List Int), 0 ≤ a → (0 ≤ (delI s l a o).1 ∧ (delI s l a o).1 ≤ a) ∧ (delI s l a o).2.length ≤ o.length + l.length
  | [], a, o, h => by simp [delI]; omega
  | x :: r, a, o, h => by
    unfold delI
    split
    · have h1 : 0 ≤ lowI a 1 ∧ lowI a 1 ≤ a := by unfold lowI mxI; split <;> omega
      have := delI_bd s r (lowI a 1) o h1.1
      simp only [List.length_cons]; omega
    · have := delI_bd s r a (o ++ [x]) h
      simp only [List.length_cons, List.length_append, List.length_nil] at *; omega
theorem sizL_app : ∀ (l m : List Tr) (a : Int), sizL (l ++ m) a = sizL m (sizL l a)
  | [], m, a => rfl
  | t :: r, m, a => by simp only [List.cons_append, sizL]; exact sizL_app r m _
theorem sizL_add : ∀ (l : List Tr) (a b : Int), sizL l (a + b) = sizL l a + b
  | [], a, b => rfl
  | t :: r, a, b => by simp only [sizL]; rw [show a + b + sizT t = a + sizT t + b by omega]; exact sizL_add r _ b
mutual
theorem del_siz (s : Int) : ∀ t : Tr, sizT (delT s t) ≤ sizT t
  | .mk k ns is => by
    have h1 := delI_bd s ns (mxI k 0) [] (by unfold mxI; split <;> omega)
    have h2 := delL_siz s is (delI s ns (mxI k 0) []).1 (delI s ns (mxI k 0) []).2 []
    simp only [List.length_nil, sizL] at h1 h2
    simp only [delT, sizT]
    have h3 := sizL_add is 0 ((ns.length : Int) + (is.length : Int))
    rw [Int.zero_add] at h3
    omega
theorem delL_siz (s : Int) : ∀ (l : List Tr) (k : Int) (ns : List Int) (o : List Tr), sizT (delL s l k ns o) ≤ (ns.length : Int) + (o.length : Int) + sizL o 0 + (l.length : Int) + sizL l 0
  | [], k, ns, o => by
    simp only [delL, sizT, sizL, List.length_nil]
    have h3 := sizL_add o 0 ((ns.length : Int) + (o.length : Int))
    rw [Int.zero_add] at h3
    omega
  | t :: r, k, ns, o => by
    have e := sizL_add r 0 (sizT t)
    have h1 := del_siz s t
    have h0 := siz_nn t
    unfold delL
    split
    · have := delL_siz s r (lowI k 1) ns o
      simp only [sizL, List.length_cons]
      omega
    · have := delL_siz s r k ns (o ++ [delT s t])
      rw [sizL_app] at this
      simp only [sizL, List.length_cons, List.length_append, List.length_nil] at this ⊢
      omega
end
/-- Who goes, who is changed, who stays. -/
def dtrT (s : Int) (k : Nat) (t : Tr) : Tr := if (delT s t).k = 0 then .mk 1 [(k : Int)] [] else delT s t
def delM (s : Nat) (k : Nat) (m : Mb) : Mb := if s.testBit k = true then ⟨false, .mk 0 [] []⟩ else if m.decl = true then ⟨true, dtrT s k m.t⟩ else m
def delTo (c : List Mb) (s n : Nat) : List Mb := (List.range n).map fun k => delM s k (nth c k)
abbrev delC (c : List Mb) (s : Nat) : List Mb := delTo c s c.length
theorem delTo_succ (c : List Mb) (s n : Nat) : delTo c s (n + 1) = delTo c s n ++ [delM s n (nth c n)] := by
  unfold delTo; rw [List.range_succ, List.map_append]; rfl
theorem delTo_len (c : List Mb) (s n : Nat) : (delTo c s n).length = n := by simp [delTo]
theorem delTo_nth {c : List Mb} {s n k : Nat} (h : k < n) : nth (delTo c s n) k = delM s k (nth c k) := by
  rw [nth_getElem _ k (by rw [delTo_len]; exact h)]; simp [delTo]
theorem delC_ok {c : List Mb} (hc : OkC c) (s : Nat) : OkC (delC c s) := ⟨by rw [delTo_len]; exact hc.len, fun k hk => by
  rw [delTo_len] at hk
  have h1 := hc.siz k hk
  rw [delTo_nth hk]
  unfold delM
  split
  · simp [sizT, sizL]
  · split
    · show sizT (dtrT s k (nth c k).t) ≤ 1000
      unfold dtrT
      split
      · simp [sizT, sizL]
      · exact Int.le_trans (del_siz _ _) h1
    · exact h1⟩
end Go.Proofs.YtdhogcklnehdhaaGreatDoor
