import Derived.Test.YtdhogcklnehdhaaGreatDoorRAL
import Derived.Test.YtdhogcklnehdhaaGreatDoorRAI
import Derived.Test.YtdhogcklnehdhaaGreatDoorRAE
import Derived.Test.YtdhogcklnehdhaaGreatDoorRAJ
namespace Go.Proofs.YtdhogcklnehdhaaGreatDoor
set_option linter.unusedSimpArgs false
set_option linter.unusedVariables false
set_option linter.unnecessarySimpa false
set_option linter.unusedSectionVars false
set_option maxRecDepth 100000
open Go Go.RowKit Go.Am Go.Proofs.Grow
def rVo (v : Vo) : List D := [dI v.nd, dI v.sq, dI v.t.k, .rows 1 (v.t.ns.map rI), .rows 3 (v.t.is.map rTr), .rows 2 (v.vo.map rC), .rows 2 (v.ac.map rC), .rows 2 (v.co.map rC), .rows 7 (v.he.map rMs)]
abbrev aVo (v : Vo) : AV := .agg [vI v.nd, vI v.sq, vI v.t.k, lI v.t.ns, lTr v.t.is, lC v.vo, lC v.ac, lC v.co, lMs v.he]
abbrev lVo (l : List Vo) : AV := .d (.rows 9 (l.map rVo))
theorem vms_m (m : Ms) (h : MsOK 10 m) : FnM Tryz.prog 54 [] [aMs m] (aMs m) [] := by
  have hs : sizT m.t ≤ 1000 := by have := h.t.siz; omega
  have h1 : m.vo.length ≤ 4000 := by have := h.vo.len; omega
  have h2 : m.ac.length ≤ 4000 := by have := h.ac.len; omega
  refine FnM.of htb Tryz.func54 rfl rfl rfl rfl rfl fun cx hN h0 => ?_
  (repeat' (first | ((with_reducible apply WD_id); first | (refine WD_nxt htb (by exact rfl) ?_) | (refine WD_call (by exact rfl) ?_; first | (refine WD_c0 (vtr_m _ ?_) ?_; (exact hyp)) | (refine WD_c0 (cloC_m _ ?_) ?_; (exact hyp)))) | (refine ct ?_) | (with_reducible apply WA_block)))
  (exact glV [(2, .ptr 2 0)] [(2, .box 56 (cellsOf (aMs m)))] (LeV []))
theorem ams_m (m : Ms) (h : MsOK 10 m) : FnM Tryz.prog 92 [] [aMs m] (aMs m) [] := by
  have hs : sizT m.t ≤ 1000 := by have := h.t.siz; omega
  have h1 : m.vo.length ≤ 4000 := by have := h.vo.len; omega
  have h2 : m.ac.length ≤ 4000 := by have := h.ac.len; omega
  refine FnM.of htb Tryz.func92 rfl rfl rfl rfl rfl fun cx hN h0 => ?_
  (repeat' (first | ((with_reducible apply WD_id); first | (refine WD_nxt htb (by exact rfl) ?_) | (refine WD_call (by exact rfl) ?_; first | (refine WD_c0 (atr_m _ ?_) ?_; (exact hyp)) | (refine WD_c0 (cloC_m _ ?_) ?_; (exact hyp)))) | (refine ct ?_) | (with_reducible apply WA_block)))
  (exact glV [(2, .ptr 2 0)] [(2, .box 56 (cellsOf (aMs m)))] (LeV []))
theorem say_m (v : Vo) : FnM Tryz.prog 55 [] [aVo v] (aMs (sayV v)) [] := by
  refine FnM.of htb Tryz.func55 rfl rfl rfl rfl rfl fun cx hN h0 => ?_
  (repeat' (first | ((with_reducible apply WD_id); first | (refine WD_nxt htb (by exact rfl) ?_)) | (refine ct ?_) | (with_reducible apply WA_block)))
  (exact glV [(2, .ptr 2 0)] [(2, .box 56 (cellsOf (aMs (sayV v))))] (LeV []))
theorem Say_m (v : Vo) (h : VoOK 10 v) : FnM Tryz.prog 14 [] [aVo v] (aMs (sayV v)) [] := by
  have vmsX_m := vms_m (sayV v) (say_ok h h.nd1)
  refine FnM.of htb Tryz.func14 rfl rfl rfl rfl rfl fun cx hN h0 => ?_
  (repeat' (first | ((with_reducible apply WD_id); first | (refine WD_nxt htb (by exact rfl) ?_) | (refine WD_call (by exact rfl) ?_; first | (refine WD_c0 (say_m (v := v)) ?_) | (refine WD_c0 (vmsX_m) ?_))) | (refine ct ?_) | (with_reducible apply WA_block)))
  (exact glV [(2, .ptr 2 0)] [(2, .box 56 (cellsOf (aMs (sayV v))))] (LeV []))
theorem start_m (k : Nat) (t : Tr) (hk : k < 10) (ht : chkT t = 0) : FnM Tryz.prog 12 [] [vI (k : Int), aTr t] (.tup [aVo ⟨(k : Int), 1, t, [], [], [], []⟩, vI 0]) [] := by
  have hs : sizT t ≤ 1000 := by have := (chk_lev ht).1; omega
  have t1 : decide ((k : Int) < 0) = false := by simp only [decide_eq_false_iff_not]; omega
  have t2 : decide ((k : Int) ≥ 10) = false := by simp only [decide_eq_false_iff_not]; omega
  have chkY := chk3_m t hs
  rw [ht] at chkY
  have chkY_m := chkY
  refine FnM.of htb Tryz.func12 rfl rfl rfl rfl rfl fun cx hN h0 => ?_
  (repeat' (first | ((with_reducible apply WD_id); first | (refine WD_nxt htb (by exact rfl) ?_) | (refine WD_call (by exact rfl) ?_; first | (refine WD_c0 (chkY_m) ?_) | (refine WD_c0 (vtr_m _ ?_) ?_; (exact hyp)))) | (refine ct ?_) | (with_reducible apply WA_block)))
  (exact glV [(4, .ptr 4 0), (5, vI 0)] [(4, .box 49 (cellsOf (aVo ⟨(k : Int), 1, t, [], [], [], []⟩)))] (LeV []))
theorem cloM11_m (l : List Ms) (hl : l.length ≤ 1000) : FnM Tryz.prog 51 [] [lMs l] (.own 11) [(11, .arr 56 7 (l.map rMs))] := by
  cases l with
  | nil =>
    refine FnM.nil_cases 0 rfl ?_ fun ad cap => ?_
    all_goals
      refine FnM.of htb Tryz.func51 rfl rfl rfl rfl rfl fun cx hN h0 => ?_
      (repeat' (first | ((with_reducible apply WD_id); first | (refine WD_nxt htb (by exact rfl) ?_) | (refine WD_ap htb ?_) | (refine WD_nil htb ?_) | (refine WD_nilr htb ?_)) | (refine ct ?_) | (with_reducible apply WA_block)))
    · exact gL (.inr rfl) (Le_nilT 11 2 56 7 rfl rfl) rfl rfl ⟨rfl, trivial⟩
    · refine gL (.inr rfl) (T' := [(2, .own 11)]) (M' := [(11, .arr 56 7 [])]) ?_ rfl rfl ⟨rfl, trivial⟩
      (exact LeV [(11, 7)])
  | cons x r =>
    refine FnM.of htb Tryz.func51 rfl rfl rfl rfl rfl fun cx hN h0 => ?_
    (repeat' (first | ((with_reducible apply WD_id); first | (refine WD_nxt htb (by exact rfl) ?_) | (refine WD_ap htb ?_) | (refine WD_nil htb ?_) | (refine WD_nilr htb ?_)) | (refine ct ?_) | (with_reducible apply WA_block)))
    refine gL (.inr rfl) (T' := [(2, .own 11)]) (M' := [(11, .arr 56 7 ((x :: r).map rMs))]) ?_ rfl rfl ⟨rfl, trivial⟩
    (exact LeV [(11, 7)])
theorem cloM37_m (l : List Ms) (hl : l.length ≤ 1000) : FnM Tryz.prog 51 [] [lMs l] (.own 37) [(37, .arr 56 7 (l.map rMs))] := by
  cases l with
  | nil =>
    refine FnM.nil_cases 0 rfl ?_ fun ad cap => ?_
    all_goals
      refine FnM.of htb Tryz.func51 rfl rfl rfl rfl rfl fun cx hN h0 => ?_
      (repeat' (first | ((with_reducible apply WD_id); first | (refine WD_nxt htb (by exact rfl) ?_) | (refine WD_ap htb ?_) | (refine WD_nil htb ?_) | (refine WD_nilr htb ?_)) | (refine ct ?_) | (with_reducible apply WA_block)))
    · exact gL (.inr rfl) (Le_nilT 37 2 56 7 rfl rfl) rfl rfl ⟨rfl, trivial⟩
    · refine gL (.inr rfl) (T' := [(2, .own 37)]) (M' := [(37, .arr 56 7 [])]) ?_ rfl rfl ⟨rfl, trivial⟩
      (exact LeV [(37, 7)])
  | cons x r =>
    refine FnM.of htb Tryz.func51 rfl rfl rfl rfl rfl fun cx hN h0 => ?_
    (repeat' (first | ((with_reducible apply WD_id); first | (refine WD_nxt htb (by exact rfl) ?_) | (refine WD_ap htb ?_) | (refine WD_nil htb ?_) | (refine WD_nilr htb ?_)) | (refine ct ?_) | (with_reducible apply WA_block)))
    refine gL (.inr rfl) (T' := [(2, .own 37)]) (M' := [(37, .arr 56 7 ((x :: r).map rMs))]) ?_ rfl rfl ⟨rfl, trivial⟩
    (exact LeV [(37, 7)])
theorem take_snoc {α : Type} [Inhabited α] {l : List α} {k : Nat} (h : k < l.length) : l.take (k + 1) = l.take k ++ [nth l k] := by rw [List.take_succ_eq_append_getElem h, nth_getElem l k h]
set_option maxHeartbeats 1000000 in
theorem fresh_v (v : Vo) (h : VoOK 10 v) : FnM Tryz.prog 121 [] [aVo v] (aVo v) [] := by
  have hs : sizT v.t ≤ 1000 := by have := h.t.siz; omega
  have h1 : v.vo.length ≤ 4000 := by have := h.vo.len; omega
  have h2 : v.ac.length ≤ 4000 := by have := h.ac.len; omega
  have h3 : v.co.length ≤ 4000 := by have := h.co.len; omega
  have hhl := h.hlen (Nat.le_refl _)
  refine FnM.of htb Tryz.func121 rfl rfl rfl rfl rfl fun cx hN h0 => ?_
  (repeat' (first | ((with_reducible apply WD_id); first | (refine WD_sum ?_) | (refine WD_nxt htb (by exact rfl) ?_) | (refine WD_call (by exact rfl) ?_; first | (refine WD_c0 (vtr_m _ ?_) ?_; (exact hyp)) | (refine WD_c0 (cloC_m _ ?_) ?_; (exact hyp))) | (refine WD_idx htb ?_) | (refine WD_ap htb ?_)) | (refine ct ?_) | (with_reducible apply WA_block)))
  refine WA_le (Le_nilM 61 1 8 56 7 rfl rfl rfl rfl) ?_
  (refine WA_forV (v.he.length) [27] [1, 61] (fun k => [(27, vI k)]) (fun k => [(1, .box 49 [vI v.nd, vI v.sq, vI v.t.k, lI v.t.ns, lTr v.t.is, lC v.vo, lC v.ac, lC v.co, .own 61]), (61, .arr 56 7 ((v.he.take k).map rMs))]) (fun k => True) ?h0 ?_)
  case h0 => trivial
  intro k hk _
  have hlk : (v.he.take k).length ≤ k := by rw [List.length_take]; omega
  rcases Nat.lt_or_ge k v.he.length with hk' | hk'
  · have t1 : decide ((k : Int) < (v.he.length : Int)) = true := by simp; omega
    have hm := (h.he _ (nth_mem v.he k hk')).1
    have hw := take_snoc hk'
    (repeat' (first | ((with_reducible apply WD_id); first | (refine WD_sum ?_) | (refine WD_nxt htb (by exact rfl) ?_) | (refine WD_call (by exact rfl) ?_; first | (refine WD_c0 (vms_m (m := nth v.he k) ?_) ?_; (exact hyp))) | (refine WD_idx htb ?_) | (refine WD_ap htb ?_)) | (refine ct ?_) | (with_reducible apply WA_block)))
    refine ⟨hk', trivial, ?_⟩
    rw [hw, List.map_append, List.map_cons, List.map_nil]
    (exact LeV [(61, 36)])
  · have t1 : decide ((k : Int) < (v.he.length : Int)) = false := by simp; omega
    have e1 : v.he.take k = v.he := take_all hk'
    rw [e1]
    (repeat' (first | ((with_reducible apply WD_id); first | (refine WD_sum ?_) | (refine WD_nxt htb (by exact rfl) ?_) | (refine WD_idx htb ?_) | (refine WD_ap htb ?_)) | (refine ct ?_) | (with_reducible apply WA_block)))
    (exact glV [(2, .ptr 2 0)] [(2, .box 49 (cellsOf (aVo v)))] (LeV []))
section
variable {P : Program} {tbl : List (Nat × TI)} {ops r : List Oper} {o : Oper} {fin : List (List Nat × List Nat) → List (Nat × AV) → List (Nat × AO) → Prop} {acc : List (List Nat × List Nat)} {T : List (Nat × AV)} {M : List (Nat × AO)}
/-- An append whose slice gets a name of our own. -/
theorem WD_apg (htb : TOK P tbl) (h : Nat) {d : Tmp} {s x : Operand} {t e : TypeId} {i j : TI} {g : Nat} {L : List Nat} {rs rs2 : List (List D)} (k : WD P ops fin r (([h, g] ++ L, [h, g]) :: acc) ((d, .own h) :: T) ((h, .arr e j.size (rs ++ rs2)) :: (g, .dead) :: M))
    (ho : o.op = .call { callee := .builtin .append, args := #[s, x], argTypes := #[t, t] } := by exact rfl) (hgu : gd ops T o = some true := by exact rfl) (hd : o.dst = some d := by exact rfl) (ht : lk tbl t = some i := by exact rfl) (hs : i.isS = true := by exact rfl) (he : i.el = some e := by exact rfl) (hj : lk tbl e = some j := by exact rfl)
    (hpos : Nat.blt 0 j.size = true := by exact rfl) (hzl : Nat.beq j.zero.length j.size = true := by exact rfl) (hsv : evA (lk T) s = some (.own g) := by exact rfl) (hg : lk M g = some (.arr e j.size rs) := by exact rfl) (hsrc : Go.Am.Src (lk T) (lk M) e j.size x L rs2 := by exact srcx) (hg' : lk M h = none := by exact rfl)
    (hb : (rs.length + rs2.length) * j.bytes ≤ 140737488355328 := by exact len) (h63 : rs.length + rs2.length ≤ maxLen := by exact len) : WD P ops fin (o :: r) acc T M :=
  WD_do hgu hd (go_append htb h ho ht hs he hj hpos hzl hsv hg hsrc hg' hb h63) k
end
theorem catM_step {l : List Ms} {k : Nat} {a : List Cl} (h : k < l.length) : catM (l.drop k) a = catM (l.drop (k + 1)) (a ++ (nth l k).vo ++ (nth l k).ac) := by
  rw [drop_nth l k h, catM]
set_option maxHeartbeats 1000000 in
theorem known_m (l : List Ms) (hl : l.length ≤ 11) (h : ∀ m ∈ l, PlC m.vo ∧ PlC m.ac) : FnM Tryz.prog 202 [(71, .arr 56 7 (l.map rMs))] [.own 71] (lC (knowM l)) [(71, .arr 56 7 (l.map rMs))] := by
  refine FnM.of htb Tryz.func202 rfl rfl rfl rfl rfl fun cx hN h0 => ?_
  (repeat' (first | ((with_reducible apply WD_id); first | (refine WD_sum ?_) | (refine WD_nxt htb (by exact rfl) ?_) | (refine WD_idxo htb ?_) | (refine WD_lde htb ?_) | (refine WD_ap htb ?_)) | (refine ct ?_) | (with_reducible apply WA_block)))
  refine WA_le (Le_nilT 8 3 86 2 rfl rfl) ?_
  (refine WA_anyV (α := Nat × List Cl) (fun x => l.length - x.1) ((0, [])) [8, 3] [8] (fun x => [(8, vI x.1), (3, .own 8)]) (fun x => [(8, .arr 86 2 (x.2.map rC))]) (fun x => x.1 ≤ l.length ∧ x.2.length ≤ x.1 * 256 ∧ (∀ y ∈ x.2, okC y = true) ∧ knowM l = sortC (catM (l.drop x.1) x.2)) ?h0 ?_)
  case h0 => exact ⟨Nat.zero_le _, by simp, by simp, rfl⟩
  rintro ⟨k, A⟩ ⟨hk, hA, hok, hI⟩
  dsimp only at hk hA hok hI ⊢
  rcases Nat.lt_or_ge k l.length with hk' | hk'
  · have t1 : decide ((k : Int) < (l.length : Int)) = true := by simp; omega
    obtain ⟨p1, p2⟩ := h _ (nth_mem l k hk')
    have l1 := p1.len
    have l2 := p2.len
    rw [catM_step hk'] at hI
    (repeat' (first | ((with_reducible apply WD_id); first | (refine WD_sum ?_) | (refine WD_nxt htb (by exact rfl) ?_) | (refine WD_idxo htb ?_) | (refine WD_lde htb ?_) | (refine WD_ap htb ?_)) | (refine ct ?_) | (with_reducible apply WA_block)))
    refine ⟨(k + 1, A ++ (nth l k).vo ++ (nth l k).ac), by dsimp only; omega, ⟨by dsimp only; omega, by dsimp only; simp only [List.length_append]; omega, fun y hy => ?_, hI⟩, ?_⟩
    · dsimp only at hy
      rcases List.mem_append.1 hy with q | q
      · rcases List.mem_append.1 q with q | q
        · exact hok y q
        · exact p1.ok y q
      · exact p2.ok y q
    rw [List.map_append, List.map_append]
    (exact LeV [(8, 18)])
  · have t1 : decide ((k : Int) < (l.length : Int)) = false := by simp; omega
    have hA4 : A.length ≤ 4000 := by omega
    rw [List.drop_eq_nil_of_le hk', catM] at hI
    rw [hI]
    (repeat' (first | ((with_reducible apply WD_id); first | (refine WD_sum ?_) | (refine WD_nxt htb (by exact rfl) ?_) | (refine WD_call (by exact rfl) ?_; first | (refine WD_cM (sortedCO_m _ ?_ ?_) ?_; (exact hyp); (exact hyp))) | (refine WD_idxo htb ?_) | (refine WD_lde htb ?_) | (refine WD_ap htb ?_)) | (refine ct ?_) | (with_reducible apply WA_block)))
    refine gL (.inr rfl) (T' := [(2, lC (sortC A))]) (M' := [(71, .arr 56 7 (l.map rMs))]) ?_ rfl rfl ⟨rfl, trivial⟩
    (exact LeV [])
end Go.Proofs.YtdhogcklnehdhaaGreatDoor
namespace Go.Proofs.YtdhogcklnehdhaaGreatDoor
set_option linter.unusedSimpArgs false
set_option linter.unusedVariables false
set_option linter.unnecessarySimpa false
set_option linter.unusedSectionVars false
set_option maxRecDepth 100000
open Go Go.RowKit Go.Am Go.Proofs.Grow
def uhC (o : Option Cl) : Cl × Bool := match o with
  | none => ((0, 0), false)
  | some x => (x, true)
theorem he_ok {v : Vo} (h : VoOK 10 v) : ∀ m ∈ v.he ++ [sayV v], MsOK 10 m := fun m hm => by
  rcases List.mem_append.1 hm with hm | hm
  · exact (h.he m hm).1
  · rw [List.mem_singleton.1 hm]; exact say_ok h h.nd1
theorem find_step {α : Type} [Inhabited α] {p : α → Bool} {l : List α} {k : Nat} (h : k < l.length) : (l.drop k).find? p = if p (nth l k) = true then some (nth l k) else (l.drop (k + 1)).find? p := by
  rw [drop_nth l k h, List.find?_cons]
  cases p (nth l k) <;> rfl
theorem cloC30_m (l : List Cl) (hl : l.length ≤ 4000) : FnM Tryz.prog 91 [] [lC l] (.own 30) [(30, .arr 86 2 (l.map rC))] := by
  cases l with
  | nil =>
    refine FnM.nil_cases 0 rfl ?_ fun ad cap => ?_
    all_goals
      refine FnM.of htb Tryz.func91 rfl rfl rfl rfl rfl fun cx hN h0 => ?_
      (repeat' (first | ((with_reducible apply WD_id); first | (refine WD_nxt htb (by exact rfl) ?_) | (refine WD_ap htb ?_) | (refine WD_nil htb ?_) | (refine WD_nilr htb ?_)) | (refine ct ?_) | (with_reducible apply WA_block)))
    · exact gL (.inr rfl) (Le_nilT 30 2 86 2 rfl rfl) rfl rfl ⟨rfl, trivial⟩
    · refine gL (.inr rfl) (T' := [(2, .own 30)]) (M' := [(30, .arr 86 2 [])]) ?_ rfl rfl ⟨rfl, trivial⟩
      (exact LeV [(30, 7)])
  | cons x r =>
    refine FnM.of htb Tryz.func91 rfl rfl rfl rfl rfl fun cx hN h0 => ?_
    (repeat' (first | ((with_reducible apply WD_id); first | (refine WD_nxt htb (by exact rfl) ?_) | (refine WD_ap htb ?_) | (refine WD_nil htb ?_) | (refine WD_nilr htb ?_)) | (refine ct ?_) | (with_reducible apply WA_block)))
    refine gL (.inr rfl) (T' := [(2, .own 30)]) (M' := [(30, .arr 86 2 ((x :: r).map rC))]) ?_ rfl rfl ⟨rfl, trivial⟩
    (exact LeV [(30, 7)])
theorem consP_m (l : List Cl) (x : Cl) (hl : l.length ≤ 400) (ho : ∀ y ∈ l, okC y = true) (hx : okC x = true) : FnM Tryz.prog 110 [] [.d (.rows 2 (l.map rC ++ [[dI x.1, dI x.2]]))] (vB (consC (l ++ [x]))) [] := by
  have := consC_m (l ++ [x]) (by simp; omega) (fun y hy => by
    rcases List.mem_append.1 hy with h | h
    · exact ho y h
    · rw [List.mem_singleton.1 h]; exact hx)
  rw [show (lC (l ++ [x]) : AV) = .d (.rows 2 (l.map rC ++ [[dI x.1, dI x.2]])) by unfold lC; rw [List.map_append]; rfl] at this
  exact this
set_option maxHeartbeats 4000000 in
theorem next_v (v : Vo) (h : VoOK 10 v) : FnM Tryz.prog 170 [] [aVo v, aCf (viewV v.nd v.t v.he)] (.tup [aC (uhC (nxtV (viewF v) v)).1, vB (uhC (nxtV (viewF v) v)).2]) [] := by
  have hhl := h.hlen (Nat.le_refl _)
  have hho := he_ok h
  have hkn : ∀ m ∈ v.he ++ [sayV v], PlC m.vo ∧ PlC m.ac := fun m hm => ⟨(hho m hm).vo, (hho m hm).ac⟩
  have hkl : (v.he ++ [sayV v]).length ≤ 11 := by simp; omega
  have hkl2 : (v.he ++ [sayV v]).length ≤ 1000 := by omega
  have hvc := okC_view (Nat.le_refl _) h
  have hac := h.ac.len
  have hn0 := h.nd0
  have hn1 := h.nd1
  obtain ⟨d, hd⟩ : ∃ d : Nat, v.nd = (d : Int) := ⟨v.nd.toNat, by omega⟩
  have hdn : v.nd.toNat = d := by omega
  have hrw : v.he.map rMs ++ [rMs (sayV v)] = (v.he ++ [sayV v]).map rMs := by simp
  refine FnM.of htb Tryz.func170 rfl rfl rfl rfl rfl fun cx hN h0 => ?_
  (repeat' (first | ((with_reducible apply WD_id); first | (refine WD_sum ?_) | (refine WD_nxt htb (by exact rfl) ?_) | (refine WD_call (by exact rfl) ?_; first | (refine WD_cM (cloM11_m _ ?_) ?_; (exact hyp))) | (refine WD_idx htb ?_) | (refine WD_ap htb ?_) | (refine WD_t (by exact rfl) (by exact rfl) (by exact known) fun hb => ?_; rw [hb]; clear hb) | (refine WD_f (by exact rfl) (by exact rfl) (by exact known) fun hb => ?_; rw [hb]; clear hb)) | (refine ct ?_) | (with_reducible apply WA_block)))
  (with_reducible apply WD_id); refine WD_call (by exact rfl) ?_; refine WD_c0 (say_m v) ?_
  (with_reducible apply WD_id); refine WD_nxt htb (by exact rfl) ?_
  refine WD_apg htb 71 ?_
  show WD _ _ _ _ _ _ ((71, .arr _ 7 (v.he.map rMs ++ [rMs (sayV v)])) :: _)
  rw [hrw]
  have hF : nxtV (viewF v) v = (knowM (v.he ++ [sayV v])).find? (canV (viewF v) v (v.he ++ [sayV v])) := rfl
  have hl1 : ∀ p : Ms → Bool, setM p (v.he ++ [sayV v]) 0 < 1024 := fun p => he_lt (Nat.le_refl _) h p
  rw [hF]
  generalize v.he ++ [sayV v] = L at *
  (repeat' (first | ((with_reducible apply WD_id); first | (refine WD_sum ?_) | (refine WD_nxt htb (by exact rfl) ?_) | (refine WD_call (by exact rfl) ?_; first | (refine WD_cM (known_m (l := L) ?_ ?_) ?_; (exact hyp); (exact hyp))) | (refine WD_idx htb ?_) | (refine WD_ap htb ?_) | (refine WD_t (by exact rfl) (by exact rfl) (by exact known) fun hb => ?_; rw [hb]; clear hb) | (refine WD_f (by exact rfl) (by exact rfl) (by exact known) fun hb => ?_; rw [hb]; clear hb)) | (refine ct ?_) | (with_reducible apply WA_block)))
  have hKo : ∀ x ∈ knowM L, okC x = true := (plc_sort _).ok
  have hKl : (knowM L).length ≤ 128 := sort_len _
  clear hF
  generalize knowM L = K at *
  (refine WA_forV (K.length) [19, 9, 10, 11, 12, 13, 14, 15, 16] [71, 11] (fun k => [(19, vI k)]) (fun k => [(71, .arr 56 7 (L.map rMs))]) (fun k => K.find? (canV (viewF v) v L) = (K.drop k).find? (canV (viewF v) v L)) ?h0 ?_)
  case h0 => rfl
  intro k hk hI
  rcases Nat.lt_or_ge k K.length with hk' | hk'
  · have t1 : decide ((k : Int) < (K.length : Int)) = true := by simp; omega
    have hxo := hKo _ (nth_mem K k hk')
    have hcl : v.ac.length ≤ 10000 := by omega
    have hcl4 : v.ac.length ≤ 4000 := by omega
    have hcl5 : v.ac.length ≤ 400 := by omega
    have hao := h.ac.ok
    rw [find_step hk'] at hI
    cases e1 : hasC v.ac (nth K k) with
    | true =>
      have hcan : canV (viewF v) v L (nth K k) = false := by unfold canV; rw [e1]; rfl
      rw [hcan, if_neg (by simp)] at hI
      (repeat' (first | ((with_reducible apply WD_id); first | (refine WD_sum ?_) | (refine WD_nxt htb (by exact rfl) ?_) | (refine WD_call (by exact rfl) ?_; first | (refine WD_c0 (hasC_m (x := nth K k) _ ?_) ?_; (exact hyp))) | (refine WD_idx htb ?_) | (refine WD_ap htb ?_) | (refine WD_t (by exact rfl) (by exact rfl) (by exact known) fun hb => ?_; rw [hb]; clear hb) | (refine WD_f (by exact rfl) (by exact rfl) (by exact known) fun hb => ?_; rw [hb]; clear hb)) | (refine ct ?_) | (with_reducible apply WA_block)))
      refine ⟨hk', hI, ?_⟩
      (exact LeV [])
    | false =>
      cases e2 : consC (v.ac ++ [nth K k]) with
      | false =>
        have hcan : canV (viewF v) v L (nth K k) = false := by unfold canV; rw [e1, e2]; rfl
        rw [hcan, if_neg (by simp)] at hI
        have t2 : (!consC (v.ac ++ [nth K k])) = true := by rw [e2]; rfl
        (repeat' (first | ((with_reducible apply WD_id); first | (refine WD_sum ?_) | (refine WD_nxt htb (by exact rfl) ?_) | (refine WD_call (by exact rfl) ?_; first | (refine WD_c0 (hasC_m (x := nth K k) _ ?_) ?_; (exact hyp)) | (refine WD_cM (cloC30_m _ ?_) ?_; (exact hyp)) | (refine WD_c0 (consP_m (x := nth K k) _ ?_ ?_ ?_) ?_; (exact hyp); (exact hyp); (exact hyp))) | (refine WD_idx htb ?_) | (refine WD_ap htb ?_) | (refine WD_t (by exact rfl) (by exact rfl) (by exact known) fun hb => ?_; rw [hb]; clear hb) | (refine WD_f (by exact rfl) (by exact rfl) (by exact known) fun hb => ?_; rw [hb]; clear hb)) | (refine ct ?_) | (with_reducible apply WA_block)))
        refine ⟨hk', hI, ?_⟩
        (exact LeV [])
      | true =>
        have t2 : (!consC (v.ac ++ [nth K k])) = false := by rw [e2]; rfl
        have l1 : votS L (nth K k) < 1024 := hl1 _
        have l2 : accS L (nth K k) < 1024 := hl1 _
        have accN0 := acc_m (viewF v) d (votS L (nth K k)) (accS L (nth K k)) hvc (by omega) l1 l2
        rw [← hd] at accN0
        have accN_m := accN0
        cases e3 : accN (viewF v) d (votS L (nth K k)) (accS L (nth K k)) with
        | true =>
          have hcan : canV (viewF v) v L (nth K k) = true := by unfold canV; rw [e1, e2, hdn, e3]; rfl
          rw [hcan, if_pos rfl] at hI
          rw [hI]
          (repeat' (first | ((with_reducible apply WD_id); first | (refine WD_sum ?_) | (refine WD_nxt htb (by exact rfl) ?_) | (refine WD_call (by exact rfl) ?_; first | (refine WD_c0 (hasC_m (x := nth K k) _ ?_) ?_; (exact hyp)) | (refine WD_cM (cloC30_m _ ?_) ?_; (exact hyp)) | (refine WD_c0 (consP_m (x := nth K k) _ ?_ ?_ ?_) ?_; (exact hyp); (exact hyp); (exact hyp)) | (refine WD_c0 (vot_m (l := L) (w0 := nth K k) ?_ ?_) ?_; (exact hyp); (exact hyp)) | (refine WD_c0 (acp_m (l := L) (w0 := nth K k) ?_ ?_) ?_; (exact hyp); (exact hyp)) | (refine WD_c0 (accN_m) ?_)) | (refine WD_idx htb ?_) | (refine WD_ap htb ?_) | (refine WD_t (by exact rfl) (by exact rfl) (by exact known) fun hb => ?_; rw [hb]; clear hb) | (refine WD_f (by exact rfl) (by exact rfl) (by exact known) fun hb => ?_; rw [hb]; clear hb)) | (refine ct ?_) | (with_reducible apply WA_block)))
          (exact glV [(4, .ptr 4 0), (5, vB true)] [(4, .box 86 [vI (nth K k).1, vI (nth K k).2])] (LeV []))
        | false =>
          have hcan : canV (viewF v) v L (nth K k) = false := by unfold canV; rw [e1, e2, hdn, e3]; rfl
          rw [hcan, if_neg (by simp)] at hI
          (repeat' (first | ((with_reducible apply WD_id); first | (refine WD_sum ?_) | (refine WD_nxt htb (by exact rfl) ?_) | (refine WD_call (by exact rfl) ?_; first | (refine WD_c0 (hasC_m (x := nth K k) _ ?_) ?_; (exact hyp)) | (refine WD_cM (cloC30_m _ ?_) ?_; (exact hyp)) | (refine WD_c0 (consP_m (x := nth K k) _ ?_ ?_ ?_) ?_; (exact hyp); (exact hyp); (exact hyp)) | (refine WD_c0 (vot_m (l := L) (w0 := nth K k) ?_ ?_) ?_; (exact hyp); (exact hyp)) | (refine WD_c0 (acp_m (l := L) (w0 := nth K k) ?_ ?_) ?_; (exact hyp); (exact hyp)) | (refine WD_c0 (accN_m) ?_)) | (refine WD_idx htb ?_) | (refine WD_ap htb ?_) | (refine WD_t (by exact rfl) (by exact rfl) (by exact known) fun hb => ?_; rw [hb]; clear hb) | (refine WD_f (by exact rfl) (by exact rfl) (by exact known) fun hb => ?_; rw [hb]; clear hb)) | (refine ct ?_) | (with_reducible apply WA_block)))
          refine ⟨hk', hI, ?_⟩
          (exact LeV [])
  · have t1 : decide ((k : Int) < (K.length : Int)) = false := by simp; omega
    rw [List.drop_eq_nil_of_le hk'] at hI
    rw [hI]
    (repeat' (first | ((with_reducible apply WD_id); first | (refine WD_sum ?_) | (refine WD_nxt htb (by exact rfl) ?_) | (refine WD_idx htb ?_) | (refine WD_ap htb ?_) | (refine WD_t (by exact rfl) (by exact rfl) (by exact known) fun hb => ?_; rw [hb]; clear hb) | (refine WD_f (by exact rfl) (by exact rfl) (by exact known) fun hb => ?_; rw [hb]; clear hb)) | (refine ct ?_) | (with_reducible apply WA_block)))
    (exact glV [(4, .ptr 4 0), (5, vB false)] [(4, .box 86 [vI 0, vI 0])] (LeV []))
end Go.Proofs.YtdhogcklnehdhaaGreatDoor
namespace Go.Proofs.YtdhogcklnehdhaaGreatDoor
set_option linter.unusedSimpArgs false
set_option linter.unusedVariables false
set_option linter.unnecessarySimpa false
set_option linter.unusedSectionVars false
set_option maxRecDepth 100000
open Go Go.RowKit Go.Am Go.Proofs.Grow
section
variable {P : Program} {tbl : List (Nat × TI)} {ops r : List Oper} {o : Oper} {fin : List (List Nat × List Nat) → List (Nat × AV) → List (Nat × AO) → Prop} {acc : List (List Nat × List Nat)} {T : List (Nat × AV)} {M : List (Nat × AO)}
/-- A variable that gets a name of our own. -/
theorem WD_alg (htb : TOK P tbl) (h : Nat) {d : Tmp} {ty : TypeId} {i : TI} {cs : List AV} (k : WD P ops fin r (([h], [h]) :: acc) ((d, .ptr h 0) :: T) ((h, .box ty cs) :: M)) (ho : o.op = .alloc ty := by exact rfl) (hgu : gd ops T o = some true := by exact rfl) (hd : o.dst = some d := by exact rfl)
    (ht : lk tbl ty = some i := by exact rfl) (hg : lk M h = none := by exact rfl) (hz : zeroA i.zero = some cs := by exact rfl) : WD P ops fin (o :: r) acc T M := WD_do hgu hd (go_alloc htb h ho ht hg hz) k
end
abbrev withA (v : Vo) (A : List Cl) : Vo := { v with ac := A }
theorem setA_none {c : List Mb} {v : Vo} (h : nxtV c v = none) : ∀ n, setA c n v = v
  | 0 => rfl
  | n + 1 => by rw [setA, h]
theorem conL_step {c : List Mb} {k : Nat} {l : List Ms} {a o : List Cl} {i : Nat} (h : i < a.length) : conL c k l (a.drop i) o = conL c k l (a.drop (i + 1)) (if conN c k (accS l (nth a i)) = true then sortC (o ++ [nth a i]) else o) := by
  rw [drop_nth a i h, conL]
set_option maxHeartbeats 4000000 in
theorem settled_m (v : Vo) (h : VoOK 10 v) : FnM Tryz.prog 118 [] [aVo v] (aVo (setV v)) [] := by
  have hhl := h.hlen (Nat.le_refl _)
  have hvc := okC_view (Nat.le_refl _) h
  have hn0 := h.nd0
  have hn1 := h.nd1
  obtain ⟨d, hd⟩ : ∃ d : Nat, v.nd = (d : Int) := ⟨v.nd.toNat, by omega⟩
  have hdn : v.nd.toNat = d := by omega
  have nx0_m := next_v v h
  refine FnM.of htb Tryz.func118 rfl rfl rfl rfl rfl fun cx hN h0 => ?_
  (repeat' (first | ((with_reducible apply WD_id); first | (refine WD_sum ?_) | (refine WD_nxt htb (by exact rfl) ?_) | (refine WD_call (by exact rfl) ?_; first | (refine WD_c0 (view_m (v := v) ?_) ?_; (exact hyp)) | (refine WD_c0 (nx0_m) ?_)) | (refine WD_idx htb ?_)) | (refine ct ?_) | (with_reducible apply WA_block)))
  (refine WA_anyV (α := Nat × List Cl) (fun x => x.1) ((129, v.ac)) [5, 9, 10, 11, 12, 13, 14, 15, 16, 17, 18, 19, 20, 21] [1, 3, 4] (fun x => [(5, vB (uhC (nxtV (viewF v) (withA v x.2))).2)]) (fun x => [(1, .box 49 [vI v.nd, vI v.sq, vI v.t.k, lI v.t.ns, lTr v.t.is, lC v.vo, lC x.2, lC v.co, lMs v.he]), (4, .box 86 [vI (uhC (nxtV (viewF v) (withA v x.2))).1.1, vI (uhC (nxtV (viewF v) (withA v x.2))).1.2]), (3, .box 27 [lMb (viewV v.nd v.t v.he)])]) (fun x => VoOK 10 (withA v x.2) ∧ setA (viewF v) 129 v = setA (viewF v) x.1 (withA v x.2) ∧ 128 - x.2.length < x.1) ?h0 ?_)
  case h0 => exact ⟨h, rfl, by dsimp only; omega⟩
  rintro ⟨n, A⟩ ⟨hA, hI, hn⟩
  dsimp only at hA hI hn ⊢
  cases hx : nxtV (viewF v) (withA v A) with
  | some x =>
    have t1 : (uhC (some x)).2 = true := rfl
    obtain ⟨q1, q2, _⟩ := nxt_some hx
    have hA2 := add_ok hA hx
    obtain ⟨n, rfl⟩ : ∃ m, n = m + 1 := ⟨n - 1, by omega⟩
    rw [show setA (viewF v) (n + 1) (withA v A) = setA (viewF v) n (withA v (sortC (A ++ [x]))) by rw [setA, hx]; rfl] at hI
    have hA3 : VoOK 10 (withA v (sortC (A ++ [x]))) := hA2
    have nx1 : FnM Tryz.prog 170 [] [aVo (withA v (sortC (A ++ [x]))), aCf (viewV v.nd v.t v.he)] (.tup [aC (uhC (nxtV (viewF v) (withA v (sortC (A ++ [x]))))).1, vB (uhC (nxtV (viewF v) (withA v (sortC (A ++ [x]))))).2]) [] := next_v (withA v (sortC (A ++ [x]))) hA3
    have nx0_m := nx1
    have hAl := hA.ac.len
    have hAl4 : A.length ≤ 400 := by have : A.length ≤ 128 := hAl; omega
    have hAo : ∀ y ∈ A, okC y = true := hA.ac.ok
    have ex : ((uhC (some x)).1.1, (uhC (some x)).1.2) = x := rfl
    (repeat' (first | ((with_reducible apply WD_id); first | (refine WD_sum ?_) | (refine WD_nxt htb (by exact rfl) ?_) | (refine WD_call (by exact rfl) ?_; first | (refine WD_c0 (putC_m (a := A) (x := x) ?_ ?_ ?_) ?_; (exact hyp); (exact hyp); (exact hyp)) | (refine WD_c0 (nx0_m) ?_)) | (refine WD_idx htb ?_)) | (refine ct ?_) | (with_reducible apply WA_block)))
    refine WD_alg htb 72 ?_
    (repeat' (first | ((with_reducible apply WD_id); first | (refine WD_sum ?_) | (refine WD_nxt htb (by exact rfl) ?_) | (refine WD_call (by exact rfl) ?_; first | (refine WD_c0 (nx0_m) ?_)) | (refine WD_idx htb ?_)) | (refine ct ?_) | (with_reducible apply WA_block)))
    refine ⟨(n, sortC (A ++ [x])), by dsimp only; omega, ⟨hA3, hI, ?_⟩, ?_⟩
    · have h4 : A.length < (sortC (A ++ [x])).length := plc_sub_len hA.ac (fun y hy => mem_sort.2 ⟨hAo y hy, by simp [hy]⟩) (fun e => q2 (by
        show x ∈ A
        rw [show A = sortC (A ++ [x]) from e]
        exact mem_sort.2 ⟨q1, by simp⟩)) (plc_sort _)
      have := sort_len (A ++ [x])
      dsimp only
      omega
    (exact LeV [(4, 72)])
  | none =>
    have t1 : (uhC (none : Option Cl)).2 = false := rfl
    have hset : setV v = { v with ac := A, co := conL (viewF v) d (v.he ++ [sayV (withA v A)]) A v.co } := by
      unfold setV
      rw [hI, setA_none hx, hdn]
    have hho := he_ok hA
    have hhl2 := hA.hlen (Nat.le_refl _)
    have hrw : v.he.map rMs ++ [rMs (sayV (withA v A))] = (v.he ++ [sayV (withA v A)]).map rMs := by simp
    have hl1 : ∀ p : Ms → Bool, setM p (v.he ++ [sayV (withA v A)]) 0 < 1024 := fun p => he_lt (Nat.le_refl _) hA p
    have hkl2 : (v.he ++ [sayV (withA v A)]).length ≤ 1000 := by simp; omega
    have hho2 : ∀ m ∈ v.he ++ [sayV (withA v A)], MsOK 10 m := hho
    have hAo : ∀ y ∈ A, okC y = true := hA.ac.ok
    have hAl : A.length ≤ 128 := hA.ac.len
    rw [hset]
    clear hset hI
    (repeat' (first | ((with_reducible apply WD_id); first | (refine WD_sum ?_) | (refine WD_nxt htb (by exact rfl) ?_) | (refine WD_call (by exact rfl) ?_; first | (refine WD_cM (cloM37_m _ ?_) ?_; (exact hyp))) | (refine WD_idx htb ?_)) | (refine ct ?_) | (with_reducible apply WA_block)))
    (with_reducible apply WD_id); refine WD_call (by exact rfl) ?_; refine WD_c0 (say_m (withA v A)) ?_
    (with_reducible apply WD_id); refine WD_nxt htb (by exact rfl) ?_
    refine WD_apg htb 71 ?_
    show WD _ _ _ _ _ _ ((71, .arr _ 7 (v.he.map rMs ++ [rMs (sayV (withA v A))])) :: _)
    rw [hrw]
    generalize v.he ++ [sayV (withA v A)] = L at *
    (repeat' (first | ((with_reducible apply WD_id); first | (refine WD_sum ?_) | (refine WD_nxt htb (by exact rfl) ?_) | (refine WD_idx htb ?_)) | (refine ct ?_) | (with_reducible apply WA_block)))
    (refine WA_anyV (α := Nat × List Cl) (fun x => A.length - x.1) ((0, v.co)) [45, 35, 36, 37, 38, 39, 40, 41, 42, 22, 5, 4] [71, 37, 1, 4] (fun x => [(45, vI x.1)]) (fun x => [(71, .arr 56 7 (L.map rMs)), (1, .box 49 [vI v.nd, vI v.sq, vI v.t.k, lI v.t.ns, lTr v.t.is, lC v.vo, lC A, lC x.2, lMs v.he])]) (fun x => x.1 ≤ A.length ∧ PlC x.2 ∧ conL (viewF v) d L A v.co = conL (viewF v) d L (A.drop x.1) x.2) ?h0 ?_)
    case h0 => exact ⟨Nat.zero_le _, h.co, rfl⟩
    rintro ⟨k, o⟩ ⟨hk, ho, hI⟩
    dsimp only at hk ho hI ⊢
    rcases Nat.lt_or_ge k A.length with hk' | hk'
    · have t2 : decide ((k : Int) < (A.length : Int)) = true := by simp; omega
      have l2 : accS L (nth A k) < 1024 := hl1 _
      have con0 := con_m (viewF v) d (accS L (nth A k)) hvc (by omega) l2
      rw [← hd] at con0
      have conX_m := con0
      rw [conL_step hk'] at hI
      have hol := ho.len
      have hol4 : o.length ≤ 400 := by omega
      have hoo := ho.ok
      have hxo := hAo _ (nth_mem A k hk')
      cases e : conN (viewF v) d (accS L (nth A k)) with
      | true =>
        rw [e, if_pos rfl] at hI
        (repeat' (first | ((with_reducible apply WD_id); first | (refine WD_sum ?_) | (refine WD_nxt htb (by exact rfl) ?_) | (refine WD_call (by exact rfl) ?_; first | (refine WD_c0 (acp_m (l := L) (w0 := nth A k) ?_ ?_) ?_; (exact hyp); (exact hyp)) | (refine WD_c0 (conX_m) ?_) | (refine WD_c0 (putC_m (a := o) (x := nth A k) ?_ ?_ ?_) ?_; (exact hyp); (exact hyp); (exact hyp))) | (refine WD_idx htb ?_)) | (refine ct ?_) | (with_reducible apply WA_block)))
        refine ⟨(k + 1, sortC (o ++ [nth A k])), by dsimp only; omega, ⟨by dsimp only; omega, plc_sort _, hI⟩, ?_⟩
        (exact LeV [])
      | false =>
        rw [e, if_neg (by simp)] at hI
        (repeat' (first | ((with_reducible apply WD_id); first | (refine WD_sum ?_) | (refine WD_nxt htb (by exact rfl) ?_) | (refine WD_call (by exact rfl) ?_; first | (refine WD_c0 (acp_m (l := L) (w0 := nth A k) ?_ ?_) ?_; (exact hyp); (exact hyp)) | (refine WD_c0 (conX_m) ?_) | (refine WD_c0 (putC_m (a := o) (x := nth A k) ?_ ?_ ?_) ?_; (exact hyp); (exact hyp); (exact hyp))) | (refine WD_idx htb ?_)) | (refine ct ?_) | (with_reducible apply WA_block)))
        refine ⟨(k + 1, o), by dsimp only; omega, ⟨by dsimp only; omega, ho, hI⟩, ?_⟩
        (exact LeV [])
    · have t2 : decide ((k : Int) < (A.length : Int)) = false := by simp; omega
      rw [List.drop_eq_nil_of_le hk', conL] at hI
      rw [hI]
      (repeat' (first | ((with_reducible apply WD_id); first | (refine WD_sum ?_) | (refine WD_nxt htb (by exact rfl) ?_) | (refine WD_idx htb ?_)) | (refine ct ?_) | (with_reducible apply WA_block)))
      (exact glV [(2, .ptr 2 0)] [(2, .box 49 [vI v.nd, vI v.sq, vI v.t.k, lI v.t.ns, lTr v.t.is, lC v.vo, lC A, lC o, lMs v.he])] (LeV []))
end Go.Proofs.YtdhogcklnehdhaaGreatDoor
namespace Go.Proofs.YtdhogcklnehdhaaGreatDoor
set_option linter.unusedSimpArgs false
set_option linter.unusedVariables false
set_option linter.unnecessarySimpa false
set_option linter.unusedSectionVars false
set_option maxRecDepth 100000
open Go Go.RowKit Go.Am Go.Proofs.Grow
theorem ne_selfV (n : Int) : (n != n) = false := by simp
theorem eq_selfV (n : Int) : (n == n) = true := by simp
theorem eqIV_m (l : List Int) (hl : l.length ≤ 1000) : FnM Tryz.prog 174 [] [lI l, lI l] (vB true) [] := by
  have t0 := ne_selfV (l.length : Int)
  refine FnM.of htb Tryz.func174 rfl rfl rfl rfl rfl fun cx hN h0 => ?_
  (repeat' (first | ((with_reducible apply WD_id); first | (refine WD_sum ?_) | (refine WD_nxt htb (by exact rfl) ?_) | (refine WD_idx htb ?_)) | (refine ct ?_) | (with_reducible apply WA_block)))
  (refine WA_forV (l.length) [13] [] (fun k => [(13, vI k)]) (fun k => []) (fun k => True) ?h0 ?_)
  case h0 => trivial
  intro k hk _
  rcases Nat.lt_or_ge k l.length with hk' | hk'
  · have t1 : decide ((k : Int) < (l.length : Int)) = true := by simp; omega
    have t2 := ne_selfV (nth l k)
    (repeat' (first | ((with_reducible apply WD_id); first | (refine WD_sum ?_) | (refine WD_nxt htb (by exact rfl) ?_) | (refine WD_idx htb ?_)) | (refine ct ?_) | (with_reducible apply WA_block)))
    refine ⟨hk', trivial, ?_⟩
    (exact LeV [])
  · have t1 : decide ((k : Int) < (l.length : Int)) = false := by simp; omega
    (repeat' (first | ((with_reducible apply WD_id); first | (refine WD_sum ?_) | (refine WD_nxt htb (by exact rfl) ?_) | (refine WD_idx htb ?_)) | (refine ct ?_) | (with_reducible apply WA_block)))
    exact gE (.inr rfl) rfl rfl trivial
theorem not_tV : (!true) = false := rfl
theorem eqfTV_m (l : List Tr) (hl : l.length ≤ 1000) (ih : ∀ x ∈ l, FnM Tryz.prog 119 [] [aTr x, aTr x] (vB true) []) : FnM Tryz.prog 175 [] [lTr l, lTr l, .clo 119 []] (vB true) [] := by
  have t0 := ne_selfV (l.length : Int)
  have t9 := not_tV
  show FnM _ _ _ [.d (.rows 3 (l.map rTr)), .d (.rows 3 (l.map rTr)), _] _ _
  rw [rTr_p]
  refine FnM.of htb Tryz.func175 rfl rfl rfl rfl rfl fun cx hN h0 => ?_
  (repeat' (first | ((with_reducible apply WD_id); first | (refine WD_sum ?_) | (refine WD_nxt htb (by exact rfl) ?_) | (refine WD_idx htb ?_)) | (refine ct ?_) | (with_reducible apply WA_block)))
  (refine WA_forV (l.length) [17] [] (fun k => [(17, vI k)]) (fun k => []) (fun k => True) ?h0 ?_)
  case h0 => trivial
  intro k hk _
  rcases Nat.lt_or_ge k l.length with hk' | hk'
  · have t1 : decide ((k : Int) < (l.length : Int)) = true := by simp; omega
    have smTV_m := ih _ (nth_mem l k hk')
    (repeat' (first | ((with_reducible apply WD_id); first | (refine WD_sum ?_) | (refine WD_nxt htb (by exact rfl) ?_) | (refine WD_call (by exact rfl) ?_; first | (refine WD_c0 (smTV_m) ?_)) | (refine WD_idx htb ?_)) | (refine ct ?_) | (with_reducible apply WA_block)))
    refine ⟨hk', trivial, ?_⟩
    (exact LeV [])
  · have t1 : decide ((k : Int) < (l.length : Int)) = false := by simp; omega
    (repeat' (first | ((with_reducible apply WD_id); first | (refine WD_sum ?_) | (refine WD_nxt htb (by exact rfl) ?_) | (refine WD_idx htb ?_)) | (refine ct ?_) | (with_reducible apply WA_block)))
    exact gE (.inr rfl) rfl rfl trivial
theorem sameV_g : ∀ (d : Nat) (t : Tr) (hd : hT t ≤ d) (hs : sizT t ≤ 1000), FnM Tryz.prog 119 [] [aTr t, aTr t] (vB true) [] := by
  intro d
  induction d with
  | zero => intro t hd; cases t; simp [hT] at hd
  | succ d ih =>
    intro t hd hs
    have hl := siz_len t
    have t0 := eq_selfV t.k
    have eqTV_m := eqfTV_m t.is (by omega) fun x hx => ih x (by have := hT_mem hx; omega) (by have := siz_mem hx; omega)
    refine FnM.of htb Tryz.func119 rfl rfl rfl rfl rfl fun cx hN h0 => ?_
    (repeat' (first | ((with_reducible apply WD_id); first | (refine WD_nxt htb (by exact rfl) ?_) | (refine WD_call (by exact rfl) ?_; first | (refine WD_c0 (eqIV_m _ ?_) ?_; (exact hyp)) | (refine WD_c0 (eqTV_m) ?_)) | (refine WD_t (by exact rfl) (by exact rfl) (by exact known) fun hb => ?_; rw [hb]; clear hb)) | (refine ct ?_) | (with_reducible apply WA_block)))
    exact gE (.inr rfl) rfl rfl trivial
theorem sameV_t (t : Tr) (hs : sizT t ≤ 1000) : FnM Tryz.prog 119 [] [aTr t, aTr t] (vB true) [] := sameV_g _ t (Nat.le_refl _) hs
set_option maxHeartbeats 1000000 in
theorem turned_m (b v : Vo) (hb : VoOK 10 b) (hv : VoOK 10 v) (hw : VoOK 10 (setV v)) (hw2 : VoOK 10 (turV b v)) (ht : (setV v).t = b.t) : FnM Tryz.prog 53 [] [aVo b, aVo v] (aVo (turV b v)) [] := by
  have hbt := hb.t.siz
  have hts : sizT b.t ≤ 1000 := by omega
  have l1 : b.vo.length ≤ 10000 := by have := hb.vo.len; omega
  have l2 : b.ac.length ≤ 10000 := by have := hb.ac.len; omega
  have l3 : (setV v).vo.length ≤ 10000 := by have := hw.vo.len; omega
  have l4 : (setV v).ac.length ≤ 10000 := by have := hw.ac.len; omega
  have hsq := hw.sqb
  have hsq0 := hw.sq0
  have same0_m := sameV_t b.t hts
  have hset_m : FnM Tryz.prog 118 [] [aVo v] (aVo (setV v)) [] := settled_m v hv
  unfold turV at hw2 ⊢
  generalize setV v = w at *
  obtain ⟨nd, sq, t, vo, ac, co, he⟩ := w
  dsimp only at ht l3 l4 hsq hsq0 hset_m hw2 ⊢
  subst ht
  have t0 : (!true) = false := rfl
  have key : ∀ (x : Vo), VoOK 10 x → FnM Tryz.prog 121 [] [aVo x] (aVo x) [] := fun x hx => fresh_v x hx
  by_cases h1 : b.vo = vo
  · by_cases h2 : b.ac = ac
    · have t1 : (!decide (b.vo = vo)) = false := by simp [h1]
      have t2 : (!decide (b.ac = ac)) = false := by simp [h2]
      rw [if_pos ⟨h1, h2⟩]
      have frs_m := key _ hw
      refine FnM.of htb Tryz.func53 rfl rfl rfl rfl rfl fun cx hN h0 => ?_
      (repeat' (first | ((with_reducible apply WD_id); first | (refine WD_sum ?_) | (refine WD_nxt htb (by exact rfl) ?_) | (refine WD_call (by exact rfl) ?_; first | (refine WD_c0 (hset_m) ?_) | (refine WD_c0 (same0_m) ?_) | (refine WD_c0 (eqlC_m (a := b.vo) (b := vo) ?_ ?_) ?_; (exact hyp); (exact hyp)) | (refine WD_c0 (eqlC_m (a := b.ac) (b := ac) ?_ ?_) ?_; (exact hyp); (exact hyp)) | (refine WD_c0 (frs_m) ?_)) | (refine WD_t (by exact rfl) (by exact rfl) (by exact known) fun hb => ?_; rw [hb]; clear hb) | (refine WD_f (by exact rfl) (by exact rfl) (by exact known) fun hb => ?_; rw [hb]; clear hb)) | (refine ct ?_) | (with_reducible apply WA_block)))
      (exact glV [(4, .ptr 4 0)] [(4, .box 49 (cellsOf (aVo ⟨nd, sq, b.t, vo, ac, co, he⟩)))] (LeV []))
    · have t1 : (!decide (b.vo = vo)) = false := by simp [h1]
      have t2 : (!decide (b.ac = ac)) = true := by simp [h2]
      rw [if_neg (fun q => h2 q.2)] at hw2 ⊢
      have frs_m := key _ hw2
      refine FnM.of htb Tryz.func53 rfl rfl rfl rfl rfl fun cx hN h0 => ?_
      (repeat' (first | ((with_reducible apply WD_id); first | (refine WD_sum ?_) | (refine WD_nxt htb (by exact rfl) ?_) | (refine WD_call (by exact rfl) ?_; first | (refine WD_c0 (hset_m) ?_) | (refine WD_c0 (same0_m) ?_) | (refine WD_c0 (eqlC_m (a := b.vo) (b := vo) ?_ ?_) ?_; (exact hyp); (exact hyp)) | (refine WD_c0 (eqlC_m (a := b.ac) (b := ac) ?_ ?_) ?_; (exact hyp); (exact hyp)) | (refine WD_c0 (frs_m) ?_)) | (refine WD_t (by exact rfl) (by exact rfl) (by exact known) fun hb => ?_; rw [hb]; clear hb) | (refine WD_f (by exact rfl) (by exact rfl) (by exact known) fun hb => ?_; rw [hb]; clear hb)) | (refine ct ?_) | (with_reducible apply WA_block)))
      (exact glV [(4, .ptr 4 0)] [(4, .box 49 (cellsOf (aVo ⟨nd, sq + 1, b.t, vo, ac, co, he⟩)))] (LeV []))
  · have t1 : (!decide (b.vo = vo)) = true := by simp [h1]
    rw [if_neg (fun q => h1 q.1)] at hw2 ⊢
    have frs_m := key _ hw2
    refine FnM.of htb Tryz.func53 rfl rfl rfl rfl rfl fun cx hN h0 => ?_
    (repeat' (first | ((with_reducible apply WD_id); first | (refine WD_sum ?_) | (refine WD_nxt htb (by exact rfl) ?_) | (refine WD_call (by exact rfl) ?_; first | (refine WD_c0 (hset_m) ?_) | (refine WD_c0 (same0_m) ?_) | (refine WD_c0 (eqlC_m (a := b.vo) (b := vo) ?_ ?_) ?_; (exact hyp); (exact hyp)) | (refine WD_c0 (eqlC_m (a := b.ac) (b := ac) ?_ ?_) ?_; (exact hyp); (exact hyp)) | (refine WD_c0 (frs_m) ?_)) | (refine WD_t (by exact rfl) (by exact rfl) (by exact known) fun hb => ?_; rw [hb]; clear hb) | (refine WD_f (by exact rfl) (by exact rfl) (by exact known) fun hb => ?_; rw [hb]; clear hb)) | (refine ct ?_) | (with_reducible apply WA_block)))
    (exact glV [(4, .ptr 4 0)] [(4, .box 49 (cellsOf (aVo ⟨nd, sq + 1, b.t, vo, ac, co, he⟩)))] (LeV []))
end Go.Proofs.YtdhogcklnehdhaaGreatDoor
namespace Go.Proofs.YtdhogcklnehdhaaGreatDoor
set_option linter.unusedSimpArgs false
set_option linter.unusedVariables false
set_option linter.unnecessarySimpa false
set_option linter.unusedSectionVars false
set_option maxRecDepth 100000
open Go Go.RowKit Go.Am Go.Proofs.Grow
abbrev bxV (v : Vo) : AO := .box 49 [vI v.nd, vI v.sq, vI v.t.k, lI v.t.ns, lTr v.t.is, lC v.vo, lC v.ac, lC v.co, lMs v.he]
theorem val1_m (v : Vo) (x : Cl) (hl : v.ac.length ≤ 10000) : FnM Tryz.prog 112 [(1, bxV v)] [aC x, .ptr 1 0] (vB (!hasC v.ac x)) [(1, bxV v)] := by
  refine FnM.of htb Tryz.func112 rfl rfl rfl rfl rfl fun cx hN h0 => ?_
  (repeat' (first | ((with_reducible apply WD_id); first | (refine WD_nxt htb (by exact rfl) ?_) | (refine WD_call (by exact rfl) ?_; first | (refine WD_c0 (hasC_m _ _ ?_) ?_; (exact hyp)))) | (refine ct ?_) | (with_reducible apply WA_block)))
  exact gE (.inr rfl) rfl rfl ⟨rfl, trivial⟩
theorem ixV_m (v : Vo) (l : List Cl) (hl : v.ac.length ≤ 10000 ∧ l.length ≤ 10000) (ho : ∀ x ∈ l, x ∈ v.ac) : FnM Tryz.prog 166 [(1, bxV v)] [lC l, .clo 112 [.ptr 1 0]] (vI (-1)) [(1, bxV v)] := by
  obtain ⟨hl1, hl2⟩ := hl
  refine FnM.of htb Tryz.func166 rfl rfl rfl rfl rfl fun cx hN h0 => ?_
  (repeat' (first | ((with_reducible apply WD_id); first | (refine WD_sum ?_) | (refine WD_nxt htb (by exact rfl) ?_) | (refine WD_idx htb ?_)) | (refine ct ?_) | (with_reducible apply WA_block)))
  (refine WA_forV (l.length) [8] [] (fun k => [(8, vI k)]) (fun k => []) (fun k => True) ?h0 ?_)
  case h0 => trivial
  intro k hk _
  rcases Nat.lt_or_ge k l.length with hk' | hk'
  · have t1 : decide ((k : Int) < (l.length : Int)) = true := by simp; omega
    have t2 : (!hasC v.ac (nth l k)) = false := by
      have := ho _ (nth_mem l k hk')
      simp [hasC, this]
    (repeat' (first | ((with_reducible apply WD_id); first | (refine WD_sum ?_) | (refine WD_nxt htb (by exact rfl) ?_) | (refine WD_call (by exact rfl) ?_; first | (refine WD_cM (val1_m (v := v) (x := nth l k) ?_) ?_; (exact hyp))) | (refine WD_idx htb ?_)) | (refine ct ?_) | (with_reducible apply WA_block)))
    refine ⟨hk', trivial, ?_⟩
    (exact LeV [])
  · have t1 : decide ((k : Int) < (l.length : Int)) = false := by simp; omega
    (repeat' (first | ((with_reducible apply WD_id); first | (refine WD_sum ?_) | (refine WD_nxt htb (by exact rfl) ?_) | (refine WD_idx htb ?_)) | (refine ct ?_) | (with_reducible apply WA_block)))
    exact gE (.inr rfl) rfl rfl ⟨rfl, trivial⟩
theorem cnV_m (v : Vo) (l : List Cl) (hl : v.ac.length ≤ 10000 ∧ l.length ≤ 10000) (ho : ∀ x ∈ l, x ∈ v.ac) : FnM Tryz.prog 111 [(1, bxV v)] [lC l, .clo 112 [.ptr 1 0]] (vB false) [(1, bxV v)] := by
  refine FnM.of htb Tryz.func111 rfl rfl rfl rfl rfl fun cx hN h0 => ?_
  (repeat' (first | ((with_reducible apply WD_id); first | (refine WD_nxt htb (by exact rfl) ?_) | (refine WD_call (by exact rfl) ?_; first | (refine WD_cM (ixV_m (v := v) _ ?_ ?_) ?_; (exact hyp); (exact hyp)))) | (refine ct ?_) | (with_reducible apply WA_block)))
  exact gE (.inr rfl) rfl rfl ⟨rfl, trivial⟩
set_option maxHeartbeats 2000000 in
theorem valV_m (v : Vo) (h : VoOK 10 v) : FnM Tryz.prog 46 [] [aVo v] (vB true) [] := by
  have hn0 := h.nd0
  have hn1 := h.nd1
  have hs0 := h.sq0
  have hsb := h.sqb
  have hhl := h.hlen (Nat.le_refl _)
  have t1 : decide (v.nd < 0) = false := by simp only [decide_eq_false_iff_not]; omega
  have t2 : decide (v.nd ≥ 10) = false := by simp only [decide_eq_false_iff_not]; omega
  have t3 : decide (v.sq < 1) = false := by simp only [decide_eq_false_iff_not]; omega
  have t4 : decide (v.sq > 1000000) = false := by simp only [decide_eq_false_iff_not]; omega
  have hts := h.t.siz
  have chkU := chk3_m v.t (by omega)
  rw [h.t.chk] at chkU
  have chkU_m := chkU
  have p1 := h.vo
  have p2 := h.ac
  have p3 := h.co
  have l1 : v.vo.length ≤ 4000 := by have := p1.len; omega
  have l2 : v.ac.length ≤ 4000 := by have := p2.len; omega
  have l3 : v.ac.length ≤ 10000 ∧ v.co.length ≤ 10000 := by have := p2.len; have := p3.len; omega
  have o1 := p1.ok
  have o2 := p2.ok
  have hsub := h.sub
  have t5 : (!true) = false := rfl
  have t6 : (!consC v.vo) = false := by rw [h.cv]; rfl
  have t7 : (!consC v.ac) = false := by rw [h.ca]; rfl
  refine FnM.of htb Tryz.func46 rfl rfl rfl rfl rfl fun cx hN h0 => ?_
  (repeat' (first | ((with_reducible apply WD_id); first | (refine WD_sum ?_) | (refine WD_nxt htb (by exact rfl) ?_) | (refine WD_call (by exact rfl) ?_; first | (refine WD_c0 (chkU_m) ?_) | (refine WD_c0 (plC_m _ ?_) ?_; (exact hyp)) | (refine WD_c0 (consC_m _ ?_ ?_) ?_; (exact hyp); (exact hyp)) | (refine WD_cM (cnV_m (v := v) _ ?_ ?_) ?_; (exact hyp); (exact hyp))) | (refine WD_idx htb ?_) | (refine WD_t (by exact rfl) (by exact rfl) (by exact known) fun hb => ?_; rw [hb]; clear hb) | (refine WD_f (by exact rfl) (by exact rfl) (by exact known) fun hb => ?_; rw [hb]; clear hb)) | (refine ct ?_) | (with_reducible apply WA_block)))
  (refine WA_forV (v.he.length) [64] [] (fun k => [(64, vI k)]) (fun k => []) (fun k => True) ?h0 ?_)
  case h0 => trivial
  intro k hk _
  rcases Nat.lt_or_ge k v.he.length with hk' | hk'
  · have d1 : decide ((k : Int) < (v.he.length : Int)) = true := by simp; omega
    obtain ⟨hm, hne⟩ := h.he _ (nth_mem v.he k hk')
    have d2 : ((nth v.he k).nd == v.nd) = false := by simpa using hne
    rcases Nat.eq_zero_or_pos k with h0 | h0
    · have d3 : decide ((k : Int) > 0) = false := by simp; omega
      (repeat' (first | ((with_reducible apply WD_id); first | (refine WD_sum ?_) | (refine WD_nxt htb (by exact rfl) ?_) | (refine WD_call (by exact rfl) ?_; first | (refine WD_c0 (fpl_m (m := nth v.he k) ?_) ?_; (exact hyp))) | (refine WD_idx htb ?_) | (refine WD_t (by exact rfl) (by exact rfl) (by exact known) fun hb => ?_; rw [hb]; clear hb) | (refine WD_f (by exact rfl) (by exact rfl) (by exact known) fun hb => ?_; rw [hb]; clear hb)) | (refine ct ?_) | (with_reducible apply WA_block)))
      refine ⟨hk', trivial, ?_⟩
      (exact LeV [])
    · have d3 : decide ((k : Int) > 0) = true := by simp; omega
      have d4 : decide ((nth v.he ((k : Int) - 1).toNat).nd ≥ (nth v.he k).nd) = false := by
        have hs := h.asc
        rw [List.pairwise_iff_getElem] at hs
        have h1 := hs (k - 1) k (by omega) hk' (by omega)
        rw [show ((k : Int) - 1).toNat = k - 1 by omega, nth_getElem _ _ hk', nth_getElem _ _ (show k - 1 < v.he.length by omega)]
        simp only [decide_eq_false_iff_not]; omega
      (repeat' (first | ((with_reducible apply WD_id); first | (refine WD_sum ?_) | (refine WD_nxt htb (by exact rfl) ?_) | (refine WD_call (by exact rfl) ?_; first | (refine WD_c0 (fpl_m (m := nth v.he k) ?_) ?_; (exact hyp))) | (refine WD_idx htb ?_) | (refine WD_t (by exact rfl) (by exact rfl) (by exact known) fun hb => ?_; rw [hb]; clear hb) | (refine WD_f (by exact rfl) (by exact rfl) (by exact known) fun hb => ?_; rw [hb]; clear hb)) | (refine ct ?_) | (with_reducible apply WA_block)))
      refine ⟨hk', trivial, ?_⟩
      (exact LeV [])
  · have d1 : decide ((k : Int) < (v.he.length : Int)) = false := by simp; omega
    (repeat' (first | ((with_reducible apply WD_id); first | (refine WD_sum ?_) | (refine WD_nxt htb (by exact rfl) ?_) | (refine WD_idx htb ?_) | (refine WD_t (by exact rfl) (by exact rfl) (by exact known) fun hb => ?_; rw [hb]; clear hb) | (refine WD_f (by exact rfl) (by exact rfl) (by exact known) fun hb => ?_; rw [hb]; clear hb)) | (refine ct ?_) | (with_reducible apply WA_block)))
    exact gE (.inr rfl) rfl rfl trivial
end Go.Proofs.YtdhogcklnehdhaaGreatDoor
namespace Go.Proofs.YtdhogcklnehdhaaGreatDoor
set_option linter.unusedSimpArgs false
set_option linter.unusedVariables false
set_option linter.unnecessarySimpa false
set_option linter.unusedSectionVars false
set_option maxRecDepth 100000
open Go Go.RowKit Go.Am Go.Proofs.Grow
def putF {α : Type} (l : List α) (i : Nat) (x : α) : List α := l.take i ++ x :: l.drop i
theorem grow_eq {α : Type} {l vs : List α} {z : α} {i k : Nat} (hv : vs.length = 1) (hi : i < l.length) (hk : k = l.length + 1 - i) :
    ((l.take i ++ List.replicate k z).take i ++ vs ++ (l.take i ++ List.replicate k z).drop (i + vs.length)).take (i + vs.length) ++ (l.drop i).take (min (l.length - i) (((l.take i ++ List.replicate k z).take i ++ vs ++ (l.take i ++ List.replicate k z).drop (i + vs.length)).length - (i + vs.length))) ++
      ((l.take i ++ List.replicate k z).take i ++ vs ++ (l.take i ++ List.replicate k z).drop (i + vs.length)).drop (i + vs.length + ((l.drop i).take (min (l.length - i) (((l.take i ++ List.replicate k z).take i ++ vs ++ (l.take i ++ List.replicate k z).drop (i + vs.length)).length - (i + vs.length)))).length) = l.take i ++ vs ++ l.drop i := by
  have hA : (l.take i).length = i := by rw [List.length_take]; omega
  have h1 : (l.take i ++ List.replicate k z).take i = l.take i := List.take_left' hA
  have h2 : (l.take i ++ List.replicate k z).drop (i + vs.length) = (List.replicate k z).drop 1 := by
    rw [List.drop_append, List.drop_eq_nil_of_le (by omega), hA, hv, List.nil_append, Nat.add_sub_cancel_left]
  rw [h1, h2]
  generalize hR : (List.replicate k z).drop 1 = R
  have hRl : R.length = l.length - i := by rw [← hR, List.length_drop, List.length_replicate]; omega
  have h3 : (l.take i ++ vs ++ R).length = l.length + 1 := by rw [List.length_append, List.length_append, hA]; omega
  have h4 : (l.take i ++ vs ++ R).take (i + vs.length) = l.take i ++ vs := List.take_left' (by rw [List.length_append, hA])
  have h5 : (l.drop i).take (min (l.length - i) ((l.take i ++ vs ++ R).length - (i + vs.length))) = l.drop i := List.take_of_length_le (by rw [h3, List.length_drop]; omega)
  have h6 : (l.take i ++ vs ++ R).drop (i + vs.length + (l.drop i).length) = [] := List.drop_eq_nil_of_le (by rw [h3, List.length_drop]; omega)
  rw [h4, h5, h6, List.append_nil]
theorem shift_eq {α : Type} {l vs : List α} {i : Nat} (hv : vs.length = 1) (hi : i < l.length) :
    (l.take (i + vs.length) ++ (l.drop i).take (min (l.length + vs.length - i) (l.length + vs.length - (i + vs.length))) ++ l.drop (i + vs.length + ((l.drop i).take (min (l.length + vs.length - i) (l.length + vs.length - (i + vs.length)))).length)).take i ++ vs ++
      (l.take (i + vs.length) ++ (l.drop i).take (min (l.length + vs.length - i) (l.length + vs.length - (i + vs.length))) ++ l.drop (i + vs.length + ((l.drop i).take (min (l.length + vs.length - i) (l.length + vs.length - (i + vs.length)))).length)).drop (i + vs.length) = l.take i ++ vs ++ l.drop i := by
  have h1 : (l.drop i).take (min (l.length + vs.length - i) (l.length + vs.length - (i + vs.length))) = l.drop i := List.take_of_length_le (by rw [List.length_drop]; omega)
  have h2 : l.drop (i + vs.length + (l.drop i).length) = [] := List.drop_eq_nil_of_le (by rw [List.length_drop]; omega)
  have hA : (l.take (i + vs.length)).length = i + vs.length := by rw [List.length_take]; omega
  rw [h1, h2, List.append_nil, List.drop_left' hA, List.take_append_of_le_length (by omega), List.take_take, Nat.min_eq_left (by omega)]
theorem full_eq {α : Type} {l vs : List α} {i : Nat} : (l.take i ++ vs ++ l.drop i).take (l.length + vs.length) = l.take i ++ vs ++ l.drop i :=
  List.take_of_length_le (by simp only [List.length_append, List.length_take, List.length_drop]; omega)
theorem insM0 (l vs : List (List D)) (i : Nat) (hl : l.length ≤ 1000) (hi : i ≤ l.length) (hv : vs.length = 1) : FnM Tryz.prog 52 [(49, .arr 56 7 l), (61, .arr 56 7 vs)] [.own 49, vI i, .own 61] (.own 62) [(62, .arr 56 7 (l.take i ++ vs ++ l.drop i)), (49, .dead), (61, .dead)] := by
  refine FnM.of htb Tryz.func52 rfl rfl rfl rfl rfl fun cx hN h0 => ?_
  have t0 : ((vs.length : Int) == 0) = false := by simp only [beq_eq_false_iff_ne]; omega
  by_cases he : i = l.length
  · subst he
    have t1 : ((l.length : Int) == (l.length : Int)) = true := by simp
    (repeat' (first | ((with_reducible apply WD_id); first | (refine WD_sum ?_) | (refine WD_nxt htb (by exact rfl) ?_) | (refine WD_ap htb ?_) | (refine WD_cut htb ?_) | (refine WD_lens htb ?_) | (refine WD_caps htb ?_) | (refine WD_cps htb ?_) | (refine WD_cpp htb ?_) | (refine WD_apz htb ?_)) | (refine ct ?_) | (((with_reducible apply gC2); exact rfl) <;> (intro hb; rw [hb]))))
    (exact glV [(6, .own 62)] [(62, .arr 56 7 (l.take l.length ++ vs ++ l.drop l.length)), (49, .dead), (61, .dead)] (LeV [(62, 25)]))
  · have t1 : ((i : Int) == (l.length : Int)) = false := by simp only [beq_eq_false_iff_ne]; omega
    refine WA_room 0 rfl rfl fun q hq hq2 => ?_
    (repeat' (first | ((with_reducible apply WD_id); first | (refine WD_sum ?_) | (refine WD_nxt htb (by exact rfl) ?_) | (refine WD_call (by exact rfl) ?_; first | (refine WD_ovl htb Tryz.func116 4 (by kernel_rfl) (by kernel_rfl) (by kernel_rfl) (by kernel_rfl) ?_)) | (refine WD_ap htb ?_) | (refine WD_cut htb ?_) | (refine WD_lens htb ?_) | (refine WD_caps htb ?_) | (refine WD_cps htb ?_) | (refine WD_cpp htb ?_) | (refine WD_apz htb ?_)) | (refine ct ?_) | (((with_reducible apply gC2); exact rfl) <;> (intro hb; rw [hb]))))
    · simp only [Nat.zero_add, Nat.sub_zero, List.drop_zero]
      rw [grow_eq hv (by omega) (by omega)]
      (exact glV [(6, .own 62)] [(62, .arr 56 7 (l.take i ++ vs ++ l.drop i)), (49, .dead), (61, .dead)] (LeV [(62, 40)]))
    · simp only [Nat.zero_add, Nat.sub_zero, List.drop_zero, Option.map_some]
      rw [shift_eq hv (by omega)]
      have e := @full_eq _ l vs i
      exact glV [(6, .own 62)] [(62, .arr 56 7 (l.take i ++ vs ++ l.drop i)), (49, .dead), (61, .dead)] (Le.trans (Le_hide 6 62 rfl rfl (by simp only [List.length_append, List.length_take, List.length_drop]; omega) (show 0 < q by omega) rfl) (LeV []))
theorem insM_pm (l : List Ms) (i : Nat) (x : Ms) (hl : l.length ≤ 1000) (hi : i ≤ l.length) : FnM Tryz.prog 52 [(49, .arr 56 7 (l.map rMs)), (61, .arr 56 7 [rMs x])] [.own 49, vI i, .own 61] (.own 62) [(62, .arr 56 7 ((putF l i x).map rMs)), (49, .dead), (61, .dead)] := by
  have h := insM0 (l.map rMs) [rMs x] i (by simpa using hl) (by simpa using hi) rfl
  simpa only [putF, List.map_append, List.map_cons, List.map_take, List.map_drop, List.append_assoc, List.cons_append, List.nil_append] using h
def posM (i : Int) : List Ms → Nat
  | [] => 0
  | y :: r => if y.nd < i then posM i r + 1 else 0
theorem posM_le (i : Int) (l : List Ms) : posM i l ≤ l.length := by
  induction l with
  | nil => simp [posM]
  | cons y r ih => unfold posM; split <;> simp; omega
theorem posM_iff {i : Int} {l : List Ms} (h : l.Pairwise fun a b => a.nd < b.nd) : ∀ m, m < l.length → ((nth l m).nd < i ↔ m < posM i l) := by
  induction l with
  | nil => intro m hm; simp at hm
  | cons y r ih =>
    rw [List.pairwise_cons] at h
    intro m hm
    unfold posM
    by_cases e : y.nd < i
    · rw [if_pos e]
      cases m with
      | zero => simpa [nth] using e
      | succ m =>
        have := ih h.2 m (by simpa using hm)
        rw [show nth (y :: r) (m + 1) = nth r m from rfl, this]
        omega
    · rw [if_neg e]
      cases m with
      | zero => simpa [nth] using e
      | succ m =>
        have h1 := h.1 (nth r m) (nth_mem r m (by simpa using hm))
        rw [show nth (y :: r) (m + 1) = nth r m from rfl]
        constructor
        · intro h2; omega
        · intro h2; omega
section
variable {o : Oper} {t t' : TypeId} {x y : Operand} {T : Nat → Option AV} {M : Nat → Option AO}
theorem shr1_step {q : Int} (ho : o.op = .binOp .shr t x y t') (hx : evA T x = some (.d (.v (.int .u64 q)))) (hy : evA T y = some (.d (.v (.int .u64 1)))) : StepOK Tryz.prog o T M ⟨.d (.v (.int .u64 (q.fdiv 2))), [], []⟩ :=
  step_read [] fun cx μ T' M' ac w h hT _ => by
    have h1 := (h.ev (x := x) hT (by simp [ho, Op.operands]) hx).val
    have h2 := (h.ev (x := y) hT (by simp [ho, Op.operands]) hy).val
    refine ⟨.int .u64 (q.fdiv 2), ?_, .d (.v _)⟩
    simp only [execOp, ho, h1, h2]
    simp [eqGuard, binOp, Op.shift, IntKind.bits]
end
theorem hr1_m (x : Ms) (i : Int) : FnM Tryz.prog 49 [] [aMs x, vI i] (vI (cmpI x.nd i)) [] := by
  refine FnM.of htb Tryz.func49 rfl rfl rfl rfl rfl fun cx hN h0 => ?_
  (repeat' (first | ((with_reducible apply WD_id); first | (refine WD_nxt htb (by exact rfl) ?_) | (refine WD_call (by exact rfl) ?_; first | (refine WD_c0 (cmp_pm _ _) ?_))) | (refine ct ?_) | (with_reducible apply WA_block)))
  exact gE (.inr rfl) rfl rfl trivial
theorem cmpI_ltz (a b : Int) : cmpI a b < 0 ↔ a < b := by
  rcases cmpI_cases a b with ⟨h, e⟩ | ⟨h, e⟩ | ⟨h, e⟩ <;> rw [e] <;> omega
theorem cmpI_zz (a b : Int) : (cmpI a b == 0) = (a == b) := by
  rcases cmpI_cases a b with ⟨h, e⟩ | ⟨h, e⟩ | ⟨h, e⟩ <;> rw [e] <;> simp <;> omega
theorem half_eq {a b : Nat} (h : a + b < 4000) : IntKind.i64.wrap ((IntKind.u64.wrap ((a : Int) + (b : Int))).fdiv 2) = (((a + b) / 2 : Nat) : Int) := by
  have h1 : IntKind.u64.wrap ((a : Int) + (b : Int)) = (a : Int) + (b : Int) := by
    simp [IntKind.wrap, IntKind.bits, IntKind.signed]; omega
  rw [h1, IntWalk.i64_in]
  · rw [Int.fdiv_eq_ediv_of_nonneg _ (by omega)]; omega
  · rw [Int.fdiv_eq_ediv_of_nonneg _ (by omega)]; omega
def hitM (l : List Ms) (i : Int) (p : Nat) : Bool := decide (p < l.length) && ((nth l p).nd == i)
theorem bsM_m (l : List Ms) (i : Int) (p : Nat) (hl : l.length ≤ 1000) (hp : p ≤ l.length) (hpp : ∀ m, m < l.length → ((nth l m).nd < i ↔ m < p)) :
    FnM Tryz.prog 48 [] [lMs l, vI i, .clo 49 []] (.tup [vI p, vB (hitM l i p)]) [] := by
  refine FnM.of htb Tryz.func48 rfl rfl rfl rfl rfl fun cx hN h0 => ?_
  (repeat' (first | ((with_reducible apply WD_id); first | (refine WD_sum ?_) | (refine WD_nxt htb (by exact rfl) ?_) | (refine WD_idx htb ?_) | (refine WD_t (by exact rfl) (by exact rfl) (by exact known) fun hb => ?_; rw [hb]; clear hb) | (refine WD_f (by exact rfl) (by exact rfl) (by exact known) fun hb => ?_; rw [hb]; clear hb)) | (refine ct ?_) | (((with_reducible apply gC2); exact rfl) <;> (intro hb; rw [hb]))))
  (refine WA_anyV (α := Nat × Nat) (fun x => x.2 - x.1) ((0, l.length)) [9, 10] [] (fun x => [(9, vI x.1), (10, vI x.2)]) (fun x => []) (fun x => x.1 ≤ p ∧ p ≤ x.2 ∧ x.2 ≤ l.length) ?h0 ?_)
  case h0 => exact ⟨by simp, by simpa using hp, by simp⟩
  rintro ⟨a, b⟩ ⟨h1, h2, h3⟩
  dsimp only at h1 h2 h3
  by_cases hab : a < b
  · have d1 : decide ((a : Int) < (b : Int)) = true := by simp only [decide_eq_true_eq]; omega
    have hm : (a + b) / 2 < l.length := by omega
    have g2 := hpp _ hm
    (repeat' (first | ((with_reducible apply WD_id); first | (refine WD_sum ?_) | (refine WD_nxt htb (by exact rfl) ?_) | (refine WD_eq (shr1_step rfl rfl rfl) ?_) | (refine WD_idx htb ?_) | (refine WD_t (by exact rfl) (by exact rfl) (by exact known) fun hb => ?_; rw [hb]; clear hb) | (refine WD_f (by exact rfl) (by exact rfl) (by exact known) fun hb => ?_; rw [hb]; clear hb)) | (refine ct ?_) | (((with_reducible apply gC2); exact rfl) <;> (intro hb; rw [hb]))))
    rw [half_eq (by omega)]
    (repeat' (first | ((with_reducible apply WD_id); first | (refine WD_sum ?_) | (refine WD_nxt htb (by exact rfl) ?_) | (refine WD_call (by exact rfl) ?_; first | (refine WD_c0 (hr1_m _ _) ?_)) | (refine WD_idx htb ?_) | (refine WD_t (by exact rfl) (by exact rfl) (by exact known) fun hb => ?_; rw [hb]; clear hb) | (refine WD_f (by exact rfl) (by exact rfl) (by exact known) fun hb => ?_; rw [hb]; clear hb)) | (refine ct ?_) | (((with_reducible apply gC2); exact rfl) <;> (intro hb; rw [hb]))))
    · have g3 : (nth l ((a + b) / 2)).nd < i := by simp only [decide_eq_true_eq] at hb; exact (cmpI_ltz _ _).1 hb
      refine ⟨((a + b) / 2 + 1, b), by dsimp only; omega, ⟨by dsimp only; have := g2.1 g3; omega, h2, h3⟩, ?_⟩
      (exact LeV [])
    · have g3 : ¬ (nth l ((a + b) / 2)).nd < i := by simp only [decide_eq_false_iff_not] at hb; exact fun q => hb ((cmpI_ltz _ _).2 q)
      refine ⟨(a, (a + b) / 2), by dsimp only; omega, ⟨h1, by dsimp only; rw [g2] at g3; omega, by dsimp only; omega⟩, ?_⟩
      (exact LeV [])
  · have d1 : decide ((a : Int) < (b : Int)) = false := by simp only [decide_eq_false_iff_not]; omega
    obtain rfl : a = p := by omega
    by_cases hpl : a < l.length
    · have d2 : decide ((a : Int) < (l.length : Int)) = true := by simp only [decide_eq_true_eq]; omega
      (repeat' (first | ((with_reducible apply WD_id); first | (refine WD_sum ?_) | (refine WD_nxt htb (by exact rfl) ?_) | (refine WD_call (by exact rfl) ?_; first | (refine WD_c0 (hr1_m _ _) ?_)) | (refine WD_idx htb ?_) | (refine WD_t (by exact rfl) (by exact rfl) (by exact known) fun hb => ?_; rw [hb]; clear hb) | (refine WD_f (by exact rfl) (by exact rfl) (by exact known) fun hb => ?_; rw [hb]; clear hb)) | (refine ct ?_) | (((with_reducible apply gC2); exact rfl) <;> (intro hb; rw [hb]))))
      exact gE (.inr rfl) rfl (by simp [tupOf, hitM, hpl, cmpI_zz]) trivial
    · have d2 : decide ((a : Int) < (l.length : Int)) = false := by simp only [decide_eq_false_iff_not]; omega
      (repeat' (first | ((with_reducible apply WD_id); first | (refine WD_sum ?_) | (refine WD_nxt htb (by exact rfl) ?_) | (refine WD_idx htb ?_) | (refine WD_t (by exact rfl) (by exact rfl) (by exact known) fun hb => ?_; rw [hb]; clear hb) | (refine WD_f (by exact rfl) (by exact rfl) (by exact known) fun hb => ?_; rw [hb]; clear hb)) | (refine ct ?_) | (((with_reducible apply gC2); exact rfl) <;> (intro hb; rw [hb]))))
      exact gE (.inr rfl) rfl (by simp [tupOf, hitM, hpl]) trivial
end Go.Proofs.YtdhogcklnehdhaaGreatDoor
namespace Go.Proofs.YtdhogcklnehdhaaGreatDoor
set_option linter.unusedSimpArgs false
set_option linter.unusedVariables false
set_option linter.unnecessarySimpa false
set_option linter.unusedSectionVars false
set_option maxRecDepth 100000
open Go Go.RowKit Go.Am Go.Proofs.Grow
theorem putM_pos : ∀ {l : List Ms} {m : Ms}, l.Pairwise (fun a b => a.nd < b.nd) → putM l m = if hitM l m.nd (posM m.nd l) = true then l.set (posM m.nd l) m else putF l (posM m.nd l) m
  | [], m, _ => by simp [putM, posM, hitM, putF]
  | y :: r, m, h => by
    obtain ⟨h1, h2⟩ := List.pairwise_cons.1 h
    rw [putM, posM]
    by_cases e : y.nd < m.nd
    · rw [if_pos e, if_pos e, putM_pos h2]
      have e1 : hitM (y :: r) m.nd (posM m.nd r + 1) = hitM r m.nd (posM m.nd r) := by
        unfold hitM
        simp only [List.length_cons, Nat.add_lt_add_iff_right]
        rfl
      rw [e1]
      split <;> rfl
    · rw [if_neg e, if_neg e]
      by_cases e2 : y.nd = m.nd
      · have e1 : hitM (y :: r) m.nd 0 = true := by unfold hitM; simp [nth, e2]
        rw [if_pos e2, if_pos e1]; rfl
      · have e1 : hitM (y :: r) m.nd 0 = false := by unfold hitM; simp [nth, e2]
        rw [if_neg e2, if_neg (by simp [e1])]; rfl
theorem oldM_pos : ∀ {l : List Ms} {m : Ms}, l.Pairwise (fun a b => a.nd < b.nd) → oldM l m = (hitM l m.nd (posM m.nd l) && decide ((nth l (posM m.nd l)).sq ≥ m.sq))
  | [], m, _ => by simp [oldM, posM, hitM]
  | y :: r, m, h => by
    obtain ⟨h1, h2⟩ := List.pairwise_cons.1 h
    have hno : ∀ z ∈ r, ¬ y.nd < m.nd → decide (z.nd = m.nd) = false := fun z hz e => by have := h1 z hz; simp; omega
    rw [posM]
    by_cases e : y.nd < m.nd
    · rw [if_pos e]
      have e1 : hitM (y :: r) m.nd (posM m.nd r + 1) = hitM r m.nd (posM m.nd r) := by
        unfold hitM
        simp only [List.length_cons, Nat.add_lt_add_iff_right]
        rfl
      rw [e1, show nth (y :: r) (posM m.nd r + 1) = nth r (posM m.nd r) from rfl, ← oldM_pos h2]
      unfold oldM
      rw [List.any_cons, show decide (y.nd = m.nd) = false by simp; omega, Bool.false_and, Bool.false_or]
    · rw [if_neg e]
      have hr : (r.any fun z => decide (z.nd = m.nd) && decide (m.sq ≤ z.sq)) = false := by
        rw [List.any_eq_false]
        intro z hz
        rw [hno z hz e]; simp
      unfold oldM
      rw [List.any_cons, hr, Bool.or_false]
      by_cases e2 : y.nd = m.nd
      · simp [hitM, nth, e2]
      · simp [hitM, nth, e2]
theorem idx_any {α : Type} (p : α → Bool) : ∀ (l : List α) (k : Nat), decide (idxF p k l ≥ 0) = l.any p
  | [], k => by simp [idxF]
  | y :: r, k => by
    unfold idxF
    rw [List.any_cons]
    cases h : p y with
    | true => rw [if_pos rfl]; simp
    | false => rw [if_neg (by simp), idx_any p r]; rfl
abbrev bxC (x : Cl) : AO := .box 86 [vI x.1, vI x.2]
theorem vt1_m (x y : Cl) : FnM Tryz.prog 184 [(3, bxC x)] [aC y, .ptr 3 0] (vB (ctrC x y)) [(3, bxC x)] := by
  refine FnM.of htb Tryz.func184 rfl rfl rfl rfl rfl fun cx hN h0 => ?_
  (repeat' (first | ((with_reducible apply WD_id); first | (refine WD_nxt htb (by exact rfl) ?_) | (refine WD_call (by exact rfl) ?_; first | (refine WD_c0 (ctrC_m (x := x) (y := y)) ?_))) | (refine ct ?_) | (with_reducible apply WA_block)))
  exact gE (.inr rfl) rfl rfl ⟨rfl, trivial⟩
theorem ixW_m (x : Cl) (l : List Cl) (hl : l.length ≤ 4000) : FnM Tryz.prog 166 [(3, bxC x)] [lC l, .clo 184 [.ptr 3 0]] (vI (idxF (ctrC x) 0 l)) [(3, bxC x)] := by
  refine FnM.of htb Tryz.func166 rfl rfl rfl rfl rfl fun cx hN h0 => ?_
  (repeat' (first | ((with_reducible apply WD_id); first | (refine WD_sum ?_) | (refine WD_nxt htb (by exact rfl) ?_) | (refine WD_idx htb ?_)) | (refine ct ?_) | (with_reducible apply WA_block)))
  (refine WA_forV (l.length) [8] [] (fun k => [(8, vI k)]) (fun k => []) (fun k => idxF (ctrC x) 0 l = idxF (ctrC x) k (l.drop k)) ?h0 ?_)
  case h0 => rfl
  intro k hk hI
  rcases Nat.lt_or_ge k l.length with hk' | hk'
  · have t1 : decide ((k : Int) < (l.length : Int)) = true := by simp; omega
    cases hx : ctrC x (nth l k) with
    | true =>
      (repeat' (first | ((with_reducible apply WD_id); first | (refine WD_sum ?_) | (refine WD_nxt htb (by exact rfl) ?_) | (refine WD_call (by exact rfl) ?_; first | (refine WD_cM (vt1_m (x := x) (y := nth l k)) ?_)) | (refine WD_idx htb ?_)) | (refine ct ?_) | (with_reducible apply WA_block)))
      exact gE (.inr rfl) rfl (congrArg vI (idx_hit hI hk' hx).symm) ⟨rfl, trivial⟩
    | false =>
      (repeat' (first | ((with_reducible apply WD_id); first | (refine WD_sum ?_) | (refine WD_nxt htb (by exact rfl) ?_) | (refine WD_call (by exact rfl) ?_; first | (refine WD_cM (vt1_m (x := x) (y := nth l k)) ?_)) | (refine WD_idx htb ?_)) | (refine ct ?_) | (with_reducible apply WA_block)))
      refine ⟨hk', idx_miss hI hk' hx, ?_⟩
      (exact LeV [])
  · have t1 : decide ((k : Int) < (l.length : Int)) = false := by simp; omega
    (repeat' (first | ((with_reducible apply WD_id); first | (refine WD_sum ?_) | (refine WD_nxt htb (by exact rfl) ?_) | (refine WD_idx htb ?_)) | (refine ct ?_) | (with_reducible apply WA_block)))
    exact gE (.inr rfl) rfl (congrArg vI (idx_end hI hk').symm) ⟨rfl, trivial⟩
theorem cnW_m (x : Cl) (l : List Cl) (hl : l.length ≤ 4000) : FnM Tryz.prog 111 [(3, bxC x)] [lC l, .clo 184 [.ptr 3 0]] (vB (l.any (ctrC x))) [(3, bxC x)] := by
  refine FnM.of htb Tryz.func111 rfl rfl rfl rfl rfl fun cx hN h0 => ?_
  (repeat' (first | ((with_reducible apply WD_id); first | (refine WD_nxt htb (by exact rfl) ?_) | (refine WD_call (by exact rfl) ?_; first | (refine WD_cM (ixW_m (x := x) _ ?_) ?_; (exact hyp)))) | (refine ct ?_) | (with_reducible apply WA_block)))
  exact gE (.inr rfl) rfl (congrArg vB (idx_any _ _ _)) ⟨rfl, trivial⟩
set_option maxHeartbeats 2000000 in
theorem vote_m (v : Vo) (x : Cl) (h : VoOK 10 v) (hx : okC x = true) : FnM Tryz.prog 145 [] [aVo v, aC x] (.tup [aVo (votV v x).1, vI (votV v x).2]) [] := by
  have hval := valV_m v h
  have l1 : v.vo.length ≤ 4000 := by have := h.vo.len; omega
  have l2 : v.ac.length ≤ 4000 := by have := h.ac.len; omega
  have l3 : v.vo.length ≤ 10000 := by omega
  have l4 : v.vo.length ≤ 400 := by have := h.vo.len; omega
  have ho := h.vo.ok
  have t0 : (!true) = false := rfl
  have t1 : (!okC x) = false := by rw [hx]; rfl
  unfold votV
  cases e1 : v.vo.any (ctrC x) with
  | true =>
    rw [if_pos (.inl rfl)]
    refine FnM.of htb Tryz.func145 rfl rfl rfl rfl rfl fun cx hN h0 => ?_
    (repeat' (first | ((with_reducible apply WD_id); first | (refine WD_nxt htb (by exact rfl) ?_) | (refine WD_call (by exact rfl) ?_; first | (refine WD_c0 (valV_m (v := v) ?_) ?_; (exact hyp)) | (refine WD_c0 (okC_m _) ?_) | (refine WD_cM (cnW_m (x := x) _ ?_) ?_; (exact hyp))) | (refine WD_t (by exact rfl) (by exact rfl) (by exact known) fun hb => ?_; rw [hb]; clear hb) | (refine WD_f (by exact rfl) (by exact rfl) (by exact known) fun hb => ?_; rw [hb]; clear hb)) | (refine ct ?_) | (with_reducible apply WA_block)))
    (exact glV [(4, .ptr 4 0), (5, vI 14)] [(4, .box 49 (cellsOf (aVo vo0)))] (LeV []))
  | false =>
    cases e2 : v.ac.any (ctrC x) with
    | true =>
      rw [if_pos (.inr rfl)]
      refine FnM.of htb Tryz.func145 rfl rfl rfl rfl rfl fun cx hN h0 => ?_
      (repeat' (first | ((with_reducible apply WD_id); first | (refine WD_nxt htb (by exact rfl) ?_) | (refine WD_call (by exact rfl) ?_; first | (refine WD_c0 (valV_m (v := v) ?_) ?_; (exact hyp)) | (refine WD_c0 (okC_m _) ?_) | (refine WD_cM (cnW_m (x := x) _ ?_) ?_; (exact hyp))) | (refine WD_t (by exact rfl) (by exact rfl) (by exact known) fun hb => ?_; rw [hb]; clear hb) | (refine WD_f (by exact rfl) (by exact rfl) (by exact known) fun hb => ?_; rw [hb]; clear hb)) | (refine ct ?_) | (with_reducible apply WA_block)))
      (exact glV [(4, .ptr 4 0), (5, vI 14)] [(4, .box 49 (cellsOf (aVo vo0)))] (LeV []))
    | false =>
      rw [if_neg (by simp)]
      cases e3 : hasC v.vo x with
      | true =>
        rw [if_pos rfl]
        refine FnM.of htb Tryz.func145 rfl rfl rfl rfl rfl fun cx hN h0 => ?_
        (repeat' (first | ((with_reducible apply WD_id); first | (refine WD_nxt htb (by exact rfl) ?_) | (refine WD_call (by exact rfl) ?_; first | (refine WD_c0 (valV_m (v := v) ?_) ?_; (exact hyp)) | (refine WD_c0 (okC_m _) ?_) | (refine WD_cM (cnW_m (x := x) _ ?_) ?_; (exact hyp)) | (refine WD_c0 (hasC_m _ _ ?_) ?_; (exact hyp)) | (refine WD_c0 (fresh_v _ ?_) ?_; (exact hyp))) | (refine WD_t (by exact rfl) (by exact rfl) (by exact known) fun hb => ?_; rw [hb]; clear hb) | (refine WD_f (by exact rfl) (by exact rfl) (by exact known) fun hb => ?_; rw [hb]; clear hb)) | (refine ct ?_) | (with_reducible apply WA_block)))
        (exact glV [(4, .ptr 4 0), (5, vI 0)] [(4, .box 49 (cellsOf (aVo v)))] (LeV []))
      | false =>
        rw [if_neg (by simp)]
        have ok2 := ok_vote h hx (any_ctr (by simp [e1]))
        have tu : Turn v { v with vo := sortC (v.vo ++ [x]) } := ⟨rfl, rfl, rfl, fun y hy => mem_sort.2 ⟨ho y hy, by simp [hy]⟩, rfl, rfl⟩
        have s2 := turV_spec h ok2 tu
        have s1 := setV_spec ok2
        have trnV_m := turned_m v { v with vo := sortC (v.vo ++ [x]) } h ok2 s1.ok s2.ok (s1.t.trans tu.t)
        refine FnM.of htb Tryz.func145 rfl rfl rfl rfl rfl fun cx hN h0 => ?_
        (repeat' (first | ((with_reducible apply WD_id); first | (refine WD_nxt htb (by exact rfl) ?_) | (refine WD_call (by exact rfl) ?_; first | (refine WD_c0 (valV_m (v := v) ?_) ?_; (exact hyp)) | (refine WD_c0 (okC_m _) ?_) | (refine WD_cM (cnW_m (x := x) _ ?_) ?_; (exact hyp)) | (refine WD_c0 (hasC_m _ _ ?_) ?_; (exact hyp)) | (refine WD_c0 (putC_m (a := v.vo) (x := x) ?_ ?_ ?_) ?_; (exact hyp); (exact hyp); (exact hyp)) | (refine WD_c0 (trnV_m) ?_)) | (refine WD_t (by exact rfl) (by exact rfl) (by exact known) fun hb => ?_; rw [hb]; clear hb) | (refine WD_f (by exact rfl) (by exact rfl) (by exact known) fun hb => ?_; rw [hb]; clear hb)) | (refine ct ?_) | (with_reducible apply WA_block)))
        (exact glV [(4, .ptr 4 0), (5, vI 0)] [(4, .box 49 (cellsOf (aVo (turV v { v with vo := sortC (v.vo ++ [x]) }))))] (LeV []))
end Go.Proofs.YtdhogcklnehdhaaGreatDoor
namespace Go.Proofs.YtdhogcklnehdhaaGreatDoor
set_option linter.unusedSimpArgs false
set_option linter.unusedVariables false
set_option linter.unnecessarySimpa false
set_option linter.unusedSectionVars false
set_option maxRecDepth 100000
open Go Go.RowKit Go.Am Go.Proofs.Grow
theorem cloM49_m (l : List Ms) (hl : l.length ≤ 1000) : FnM Tryz.prog 51 [] [lMs l] (.own 49) [(49, .arr 56 7 (l.map rMs))] := by
  cases l with
  | nil =>
    refine FnM.nil_cases 0 rfl ?_ fun ad cap => ?_
    all_goals
      refine FnM.of htb Tryz.func51 rfl rfl rfl rfl rfl fun cx hN h0 => ?_
      (repeat' (first | ((with_reducible apply WD_id); first | (refine WD_bso htb ?_) | (refine WD_nxt htb (by exact rfl) ?_) | (refine WD_ap htb ?_) | (refine WD_nil htb ?_) | (refine WD_nilr htb ?_)) | (refine ct ?_) | (with_reducible apply WA_block)))
    · exact gL (.inr rfl) (Le_nilT 49 2 56 7 rfl rfl) rfl rfl ⟨rfl, trivial⟩
    · refine gL (.inr rfl) (T' := [(2, .own 49)]) (M' := [(49, .arr 56 7 [])]) ?_ rfl rfl ⟨rfl, trivial⟩
      (exact LeV [(49, 7)])
  | cons x r =>
    refine FnM.of htb Tryz.func51 rfl rfl rfl rfl rfl fun cx hN h0 => ?_
    (repeat' (first | ((with_reducible apply WD_id); first | (refine WD_bso htb ?_) | (refine WD_nxt htb (by exact rfl) ?_) | (refine WD_ap htb ?_) | (refine WD_nil htb ?_) | (refine WD_nilr htb ?_)) | (refine ct ?_) | (with_reducible apply WA_block)))
    refine gL (.inr rfl) (T' := [(2, .own 49)]) (M' := [(49, .arr 56 7 ((x :: r).map rMs))]) ?_ rfl rfl ⟨rfl, trivial⟩
    (exact LeV [(49, 7)])
theorem hitM_iff {l : List Ms} {i : Int} {p : Nat} (h : hitM l i p = true) : p < l.length := by
  simp only [hitM, Bool.and_eq_true, decide_eq_true_eq] at h; exact h.1
set_option maxHeartbeats 4000000 in
theorem hear_m (v : Vo) (m : Ms) (h : VoOK 10 v) (hm : MsOK 10 m) (hne : m.nd ≠ v.nd) : FnM Tryz.prog 13 [] [aVo v, aMs m] (.tup [aVo (heaV v m).1, vI (heaV v m).2]) [] := by
  have hhl := h.hlen (Nat.le_refl _)
  have hhl2 : v.he.length ≤ 1000 := by omega
  have hle := posM_le m.nd v.he
  have hpp := @posM_iff m.nd v.he h.asc
  have t0 : (!true) = false := rfl
  have t1 : (m.nd == v.nd) = false := by simpa using hne
  have hold := @oldM_pos v.he m h.asc
  have hput := @putM_pos v.he m h.asc
  generalize hp : posM m.nd v.he = p at *
  unfold heaV
  rw [hold]
  have ok2 := ok_hear h hm hne
  have tu : Turn v { v with he := putM v.he m } := ⟨rfl, rfl, rfl, fun y hy => hy, rfl, rfl⟩
  have s2 := turV_spec h ok2 tu
  have s1 := setV_spec ok2
  have trnH_m := turned_m v { v with he := putM v.he m } h ok2 s1.ok s2.ok (s1.t.trans tu.t)
  clear s1 s2 tu ok2
  cases hh : hitM v.he m.nd p with
  | true =>
    have hpl := hitM_iff hh
    cases ho : decide ((nth v.he p).sq ≥ m.sq) with
    | true =>
      rw [show (true && true) = true from rfl, if_pos rfl]
      refine FnM.of htb Tryz.func13 rfl rfl rfl rfl rfl fun cx hN h0 => ?_
      (repeat' (first | ((with_reducible apply WD_id); first | (refine WD_bso htb ?_) | (refine WD_nxt htb (by exact rfl) ?_) | (refine WD_call (by exact rfl) ?_; first | (refine WD_c0 (valV_m (v := v) ?_) ?_; (exact hyp)) | (refine WD_c0 (fpl_m (m := m) ?_) ?_; (exact hyp)) | (refine WD_c0 (bsM_m (l := v.he) (i := m.nd) (p := p) ?_ ?_ ?_) ?_; (exact hyp); (exact hyp); (exact hyp))) | (refine WD_idx htb ?_) | (refine WD_idxo htb ?_) | (refine WD_ste htb ?_) | (refine WD_t (by exact rfl) (by exact rfl) (by exact known) fun hb => ?_; rw [hb]; clear hb) | (refine WD_f (by exact rfl) (by exact rfl) (by exact known) fun hb => ?_; rw [hb]; clear hb)) | (refine ct ?_) | (with_reducible apply WA_block)))
      (exact glV [(4, .ptr 4 0), (5, vI 9)] [(4, .box 49 (cellsOf (aVo vo0)))] (LeV []))
    | false =>
      rw [if_neg (by simp)]
      rw [hh, if_pos rfl] at hput
      have hrow : (v.he.map rMs).set p (rMs m) = (v.he.set p m).map rMs := by rw [List.map_set]
      refine FnM.of htb Tryz.func13 rfl rfl rfl rfl rfl fun cx hN h0 => ?_
      (repeat' (first | ((with_reducible apply WD_id); first | (refine WD_bso htb ?_) | (refine WD_nxt htb (by exact rfl) ?_) | (refine WD_call (by exact rfl) ?_; first | (refine WD_c0 (valV_m (v := v) ?_) ?_; (exact hyp)) | (refine WD_c0 (fpl_m (m := m) ?_) ?_; (exact hyp)) | (refine WD_c0 (bsM_m (l := v.he) (i := m.nd) (p := p) ?_ ?_ ?_) ?_; (exact hyp); (exact hyp); (exact hyp))) | (refine WD_idx htb ?_) | (refine WD_idxo htb ?_) | (refine WD_ste htb ?_) | (refine WD_t (by exact rfl) (by exact rfl) (by exact known) fun hb => ?_; rw [hb]; clear hb) | (refine WD_f (by exact rfl) (by exact rfl) (by exact known) fun hb => ?_; rw [hb]; clear hb)) | (refine ct ?_) | (with_reducible apply WA_block)))
      (repeat' (first | ((with_reducible apply WD_id); first | (refine WD_bso htb ?_) | (refine WD_nxt htb (by exact rfl) ?_) | (refine WD_call (by exact rfl) ?_; first | (refine WD_cM (cloM49_m _ ?_) ?_; (exact hyp))) | (refine WD_idx htb ?_) | (refine WD_idxo htb ?_) | (refine WD_ste htb ?_) | (refine WD_t (by exact rfl) (by exact rfl) (by exact known) fun hb => ?_; rw [hb]; clear hb) | (refine WD_f (by exact rfl) (by exact rfl) (by exact known) fun hb => ?_; rw [hb]; clear hb)) | ((with_reducible apply WD_end); (first | exact no_draw | (intro _; kernel_rfl)); try simp only [thn, inB, List.length_map, List.cons_append, List.nil_append])))
      (repeat' (first | (with_reducible apply WA_seq) | ((with_reducible apply gCt); exact rfl; exact rfl) | ((with_reducible apply gCf); exact rfl; exact rfl) | ((with_reducible apply gCk); exact rfl; exact known; intro hb; rw [hb]; clear hb) | ((with_reducible apply gCn); exact rfl; exact known; intro hb; rw [hb]; clear hb) | (with_reducible apply WA_block) | ((with_reducible first | apply WA_skip | apply WA_ret | apply WA_exit | apply WA_label); try simp only [thn, inB, List.length_map, List.cons_append, List.nil_append])))
      ((with_reducible apply gR hmix hN); exact (by kernel_rfl); (try dsimp only [List.append_eq, List.cons_append, List.nil_append]))
      (repeat' (first | ((with_reducible apply WD_id); first | (refine WD_bso htb ?_) | (refine WD_nxt htb (by exact rfl) ?_) | (refine WD_idx htb ?_) | (refine WD_idxo htb ?_) | (refine WD_ste htb ?_) | (refine WD_t (by exact rfl) (by exact rfl) (by exact known) fun hb => ?_; rw [hb]; clear hb) | (refine WD_f (by exact rfl) (by exact rfl) (by exact known) fun hb => ?_; rw [hb]; clear hb)) | ((with_reducible apply WD_end); (first | exact no_draw | (intro _; kernel_rfl)); try simp only [thn, inB, List.length_map, List.cons_append, List.nil_append])))
      (repeat' (first | (with_reducible apply WA_seq) | ((with_reducible apply gCt); exact rfl; exact rfl) | ((with_reducible apply gCf); exact rfl; exact rfl) | ((with_reducible apply gCk); exact rfl; exact known; intro hb; rw [hb]; clear hb) | ((with_reducible apply gCn); exact rfl; exact known; intro hb; rw [hb]; clear hb) | (with_reducible apply WA_block) | ((with_reducible first | apply WA_skip | apply WA_ret | apply WA_exit | apply WA_label); try simp only [thn, inB, List.length_map, List.cons_append, List.nil_append])))
      ((with_reducible apply gR hmix hN); exact (by kernel_rfl); (try dsimp only [List.append_eq, List.cons_append, List.nil_append]))
      (repeat' (first | ((with_reducible apply WD_id); first | (refine WD_bso htb ?_) | (refine WD_nxt htb (by exact rfl) ?_) | (refine WD_idx htb ?_) | (refine WD_idxo htb ?_) | (refine WD_ste htb ?_) | (refine WD_t (by exact rfl) (by exact rfl) (by exact known) fun hb => ?_; rw [hb]; clear hb) | (refine WD_f (by exact rfl) (by exact rfl) (by exact known) fun hb => ?_; rw [hb]; clear hb)) | ((with_reducible apply WD_end); (first | exact no_draw | (intro _; kernel_rfl)); try simp only [thn, inB, List.length_map, List.cons_append, List.nil_append])))
      (repeat' (first | (with_reducible apply WA_seq) | ((with_reducible apply gCt); exact rfl; exact rfl) | ((with_reducible apply gCf); exact rfl; exact rfl) | ((with_reducible apply gCk); exact rfl; exact known; intro hb; rw [hb]; clear hb) | ((with_reducible apply gCn); exact rfl; exact known; intro hb; rw [hb]; clear hb) | (with_reducible apply WA_block) | ((with_reducible first | apply WA_skip | apply WA_ret | apply WA_exit | apply WA_label); try simp only [thn, inB, List.length_map, List.cons_append, List.nil_append])))
      show WA _ _ _ _ ⟨_, (49, .arr _ 7 ((v.he.map rMs).set p (rMs m))) :: _⟩
      rw [hrow, ← hput]
      refine WA_le (s' := ⟨[(8, .ptr 8 0), (4, .ptr 4 0), (3, .ptr 3 0), (2, .ptr 2 0)], [(8, .box 49 [vI v.nd, vI v.sq, vI v.t.k, lI v.t.ns, lTr v.t.is, lC v.vo, lC v.ac, lC v.co, lMs (putM v.he m)]), (4, .box 49 (cellsOf (aVo vo0))), (3, .box 56 (cellsOf (aMs m))), (2, .box 49 (cellsOf (aVo v)))]⟩) (LeV []) ?_
      (repeat' (first | ((with_reducible apply WD_id); first | (refine WD_bso htb ?_) | (refine WD_nxt htb (by exact rfl) ?_) | (refine WD_call (by exact rfl) ?_; first | (refine WD_c0 (trnH_m) ?_)) | (refine WD_idx htb ?_) | (refine WD_idxo htb ?_) | (refine WD_ste htb ?_) | (refine WD_t (by exact rfl) (by exact rfl) (by exact known) fun hb => ?_; rw [hb]; clear hb) | (refine WD_f (by exact rfl) (by exact rfl) (by exact known) fun hb => ?_; rw [hb]; clear hb)) | (refine ct ?_) | (with_reducible apply WA_block)))
      (exact glV [(4, .ptr 4 0), (5, vI 0)] [(4, .box 49 (cellsOf (aVo (turV v { v with he := putM v.he m }))))] (LeV []))
  | false =>
    rw [Bool.false_and, if_neg (by simp)]
    rw [hh, if_neg (by simp)] at hput
    refine FnM.of htb Tryz.func13 rfl rfl rfl rfl rfl fun cx hN h0 => ?_
    (repeat' (first | ((with_reducible apply WD_id); first | (refine WD_bso htb ?_) | (refine WD_nxt htb (by exact rfl) ?_) | (refine WD_call (by exact rfl) ?_; first | (refine WD_c0 (valV_m (v := v) ?_) ?_; (exact hyp)) | (refine WD_c0 (fpl_m (m := m) ?_) ?_; (exact hyp)) | (refine WD_c0 (bsM_m (l := v.he) (i := m.nd) (p := p) ?_ ?_ ?_) ?_; (exact hyp); (exact hyp); (exact hyp))) | (refine WD_idx htb ?_) | (refine WD_idxo htb ?_) | (refine WD_ste htb ?_) | (refine WD_t (by exact rfl) (by exact rfl) (by exact known) fun hb => ?_; rw [hb]; clear hb) | (refine WD_f (by exact rfl) (by exact rfl) (by exact known) fun hb => ?_; rw [hb]; clear hb)) | (refine ct ?_) | (with_reducible apply WA_block)))
    (repeat' (first | ((with_reducible apply WD_id); first | (refine WD_bso htb ?_) | (refine WD_nxt htb (by exact rfl) ?_) | (refine WD_call (by exact rfl) ?_; first | (refine WD_cM (cloM49_m _ ?_) ?_; (exact hyp))) | (refine WD_idx htb ?_) | (refine WD_idxo htb ?_) | (refine WD_ste htb ?_) | (refine WD_t (by exact rfl) (by exact rfl) (by exact known) fun hb => ?_; rw [hb]; clear hb) | (refine WD_f (by exact rfl) (by exact rfl) (by exact known) fun hb => ?_; rw [hb]; clear hb)) | ((with_reducible apply WD_end); (first | exact no_draw | (intro _; kernel_rfl)); try simp only [thn, inB, List.length_map, List.cons_append, List.nil_append])))
    (repeat' (first | (with_reducible apply WA_seq) | ((with_reducible apply gCt); exact rfl; exact rfl) | ((with_reducible apply gCf); exact rfl; exact rfl) | ((with_reducible apply gCk); exact rfl; exact known; intro hb; rw [hb]; clear hb) | ((with_reducible apply gCn); exact rfl; exact known; intro hb; rw [hb]; clear hb) | (with_reducible apply WA_block) | ((with_reducible first | apply WA_skip | apply WA_ret | apply WA_exit | apply WA_label); try simp only [thn, inB, List.length_map, List.cons_append, List.nil_append])))
    ((with_reducible apply gR hmix hN); exact (by kernel_rfl); (try dsimp only [List.append_eq, List.cons_append, List.nil_append]))
    (repeat' (first | ((with_reducible apply WD_id); first | (refine WD_bso htb ?_) | (refine WD_nxt htb (by exact rfl) ?_) | (refine WD_idx htb ?_) | (refine WD_idxo htb ?_) | (refine WD_ste htb ?_) | (refine WD_t (by exact rfl) (by exact rfl) (by exact known) fun hb => ?_; rw [hb]; clear hb) | (refine WD_f (by exact rfl) (by exact rfl) (by exact known) fun hb => ?_; rw [hb]; clear hb)) | ((with_reducible apply WD_end); (first | exact no_draw | (intro _; kernel_rfl)); try simp only [thn, inB, List.length_map, List.cons_append, List.nil_append])))
    (repeat' (first | (with_reducible apply WA_seq) | ((with_reducible apply gCt); exact rfl; exact rfl) | ((with_reducible apply gCf); exact rfl; exact rfl) | ((with_reducible apply gCk); exact rfl; exact known; intro hb; rw [hb]; clear hb) | ((with_reducible apply gCn); exact rfl; exact known; intro hb; rw [hb]; clear hb) | (with_reducible apply WA_block) | ((with_reducible first | apply WA_skip | apply WA_ret | apply WA_exit | apply WA_label); try simp only [thn, inB, List.length_map, List.cons_append, List.nil_append])))
    ((with_reducible apply gR hmix hN); exact (by kernel_rfl); (try dsimp only [List.append_eq, List.cons_append, List.nil_append]))
    (repeat' (first | ((with_reducible apply WD_id); first | (refine WD_bso htb ?_) | (refine WD_nxt htb (by exact rfl) ?_) | (refine WD_call (by exact rfl) ?_; first | (refine WD_cM (insM_pm (l := v.he) (i := p) (x := m) ?_ ?_) ?_; (exact hyp); (exact hyp))) | (refine WD_idx htb ?_) | (refine WD_idxo htb ?_) | (refine WD_ste htb ?_) | (refine WD_t (by exact rfl) (by exact rfl) (by exact known) fun hb => ?_; rw [hb]; clear hb) | (refine WD_f (by exact rfl) (by exact rfl) (by exact known) fun hb => ?_; rw [hb]; clear hb)) | ((with_reducible apply WD_end); (first | exact no_draw | (intro _; kernel_rfl)); try simp only [thn, inB, List.length_map, List.cons_append, List.nil_append])))
    (repeat' (first | (with_reducible apply WA_seq) | ((with_reducible apply gCt); exact rfl; exact rfl) | ((with_reducible apply gCf); exact rfl; exact rfl) | ((with_reducible apply gCk); exact rfl; exact known; intro hb; rw [hb]; clear hb) | ((with_reducible apply gCn); exact rfl; exact known; intro hb; rw [hb]; clear hb) | (with_reducible apply WA_block) | ((with_reducible first | apply WA_skip | apply WA_ret | apply WA_exit | apply WA_label); try simp only [thn, inB, List.length_map, List.cons_append, List.nil_append])))
    rw [← hput]
    refine WA_le (s' := ⟨[(8, .ptr 8 0), (4, .ptr 4 0), (3, .ptr 3 0), (2, .ptr 2 0)], [(8, .box 49 [vI v.nd, vI v.sq, vI v.t.k, lI v.t.ns, lTr v.t.is, lC v.vo, lC v.ac, lC v.co, lMs (putM v.he m)]), (4, .box 49 (cellsOf (aVo vo0))), (3, .box 56 (cellsOf (aMs m))), (2, .box 49 (cellsOf (aVo v)))]⟩) (LeV []) ?_
    (repeat' (first | ((with_reducible apply WD_id); first | (refine WD_bso htb ?_) | (refine WD_nxt htb (by exact rfl) ?_) | (refine WD_call (by exact rfl) ?_; first | (refine WD_c0 (trnH_m) ?_)) | (refine WD_idx htb ?_) | (refine WD_idxo htb ?_) | (refine WD_ste htb ?_) | (refine WD_t (by exact rfl) (by exact rfl) (by exact known) fun hb => ?_; rw [hb]; clear hb) | (refine WD_f (by exact rfl) (by exact rfl) (by exact known) fun hb => ?_; rw [hb]; clear hb)) | (refine ct ?_) | (with_reducible apply WA_block)))
    (exact glV [(4, .ptr 4 0), (5, vI 0)] [(4, .box 49 (cellsOf (aVo (turV v { v with he := putM v.he m }))))] (LeV []))
end Go.Proofs.YtdhogcklnehdhaaGreatDoor
namespace Go.Proofs.YtdhogcklnehdhaaGreatDoor
set_option linter.unusedSimpArgs false
set_option linter.unusedVariables false
set_option linter.unnecessarySimpa false
set_option linter.unusedSectionVars false
set_option maxRecDepth 100000
open Go Go.RowKit Go.Am Go.Proofs.Grow
abbrev aMt (m : Mt) : AV := .agg [lVo m.vs, vI (m.st : Int), vI (m.il : Int)]
def rPl (p : Pl) : List D := [dI p.kd, dI p.fr, dI p.to, dI p.c.1, dI p.c.2, dI p.t.k, .rows 1 (p.t.ns.map rI), .rows 3 (p.t.is.map rTr), dI p.m.nd, dI p.m.sq, dI p.m.t.k, .rows 1 (p.m.t.ns.map rI), .rows 3 (p.m.t.is.map rTr), .rows 2 (p.m.vo.map rC), .rows 2 (p.m.ac.map rC)]
abbrev aPl (p : Pl) : AV := .agg [vI p.kd, vI p.fr, vI p.to, vI p.c.1, vI p.c.2, vI p.t.k, lI p.t.ns, lTr p.t.is, vI p.m.nd, vI p.m.sq, vI p.m.t.k, lI p.m.t.ns, lTr p.m.t.is, lC p.m.vo, lC p.m.ac]
abbrev lPl (l : List Pl) : AV := .d (.rows 15 (l.map rPl))
theorem ins_m (t : Tr) (n : Nat) (hn : n ≤ 10) (ht : FitT n t) : FnM Tryz.prog 96 [] [aTr t, vI (n : Int)] (vB true) [] := by
  have hs := ht.siz
  have useX_m := use_m _ t (Nat.le_refl _) (by omega)
  have h1 : decide (useT t < ((2 ^ n : Nat) : Int)) = true := by simpa using ht.use
  refine FnM.of htb Tryz.func96 rfl rfl rfl rfl rfl fun cx hN h0 => ?_
  (repeat' (first | ((with_reducible apply WD_id); first | (refine WD_nxt htb (by exact rfl) ?_) | (refine WD_call (by exact rfl) ?_; first | (refine WD_c0 (useX_m) ?_)) | (refine WD_eq (shlN_step rfl rfl rfl) ?_)) | (refine ct ?_) | (with_reducible apply WA_block)))
  exact gE (.inr rfl) rfl (congrArg vB h1) trivial
theorem av1_m (m : Ms) (n : Nat) (hn : n ≤ 10) (h : MsOK n m) : FnM Tryz.prog 98 [(3, .box 3 [vI (n : Int)])] [aMs m, .ptr 3 0] (vB false) [(3, .box 3 [vI (n : Int)])] := by
  have ht := h.t
  have h1 := h.nd1
  have t1 : decide (m.nd ≥ (n : Int)) = false := by simp only [decide_eq_false_iff_not]; omega
  have t2 : (!true) = false := rfl
  refine FnM.of htb Tryz.func98 rfl rfl rfl rfl rfl fun cx hN h0 => ?_
  (repeat' (first | ((with_reducible apply WD_id); first | (refine WD_nxt htb (by exact rfl) ?_) | (refine WD_call (by exact rfl) ?_; first | (refine WD_c0 (ins_m (t := m.t) (n := n) ?_ ?_) ?_; (exact hyp); (exact hyp))) | (refine WD_f (by exact rfl) (by exact rfl) (by exact known) fun hb => ?_; rw [hb]; clear hb)) | (refine ct ?_) | (with_reducible apply WA_block)))
  exact gE (.inr rfl) rfl rfl ⟨rfl, trivial⟩
theorem aix_m (l : List Ms) (n : Nat) (hn : n ≤ 10 ∧ l.length ≤ 1000) (h : ∀ m ∈ l, MsOK n m) : FnM Tryz.prog 148 [(3, .box 3 [vI (n : Int)])] [lMs l, .clo 98 [.ptr 3 0]] (vI (-1)) [(3, .box 3 [vI (n : Int)])] := by
  obtain ⟨hn, hl⟩ := hn
  refine FnM.of htb Tryz.func148 rfl rfl rfl rfl rfl fun cx hN h0 => ?_
  (repeat' (first | ((with_reducible apply WD_id); first | (refine WD_sum ?_) | (refine WD_nxt htb (by exact rfl) ?_) | (refine WD_idx htb ?_)) | (refine ct ?_) | (with_reducible apply WA_block)))
  (refine WA_forV (l.length) [8] [] (fun k => [(8, vI k)]) (fun k => []) (fun k => True) ?h0 ?_)
  case h0 => trivial
  intro k hk _
  rcases Nat.lt_or_ge k l.length with hk' | hk'
  · have t1 : decide ((k : Int) < (l.length : Int)) = true := by simp; omega
    have hm := h _ (nth_mem l k hk')
    (repeat' (first | ((with_reducible apply WD_id); first | (refine WD_sum ?_) | (refine WD_nxt htb (by exact rfl) ?_) | (refine WD_call (by exact rfl) ?_; first | (refine WD_cM (av1_m (m := nth l k) (n := n) ?_ ?_) ?_; (exact hyp); (exact hyp))) | (refine WD_idx htb ?_)) | (refine ct ?_) | (with_reducible apply WA_block)))
    refine ⟨hk', trivial, ?_⟩
    (exact LeV [])
  · have t1 : decide ((k : Int) < (l.length : Int)) = false := by simp; omega
    (repeat' (first | ((with_reducible apply WD_id); first | (refine WD_sum ?_) | (refine WD_nxt htb (by exact rfl) ?_) | (refine WD_idx htb ?_)) | (refine ct ?_) | (with_reducible apply WA_block)))
    exact gE (.inr rfl) rfl rfl ⟨rfl, trivial⟩
theorem acn_m (l : List Ms) (n : Nat) (hn : n ≤ 10 ∧ l.length ≤ 1000) (h : ∀ m ∈ l, MsOK n m) : FnM Tryz.prog 97 [(3, .box 3 [vI (n : Int)])] [lMs l, .clo 98 [.ptr 3 0]] (vB false) [(3, .box 3 [vI (n : Int)])] := by
  refine FnM.of htb Tryz.func97 rfl rfl rfl rfl rfl fun cx hN h0 => ?_
  (repeat' (first | ((with_reducible apply WD_id); first | (refine WD_nxt htb (by exact rfl) ?_) | (refine WD_call (by exact rfl) ?_; first | (refine WD_cM (aix_m (n := n) _ ?_ ?_) ?_; (exact hyp); (exact hyp)))) | (refine ct ?_) | (with_reducible apply WA_block)))
  exact gE (.inr rfl) rfl rfl ⟨rfl, trivial⟩
set_option maxHeartbeats 4000000 in
theorem mval_m (m : Mt) (n : Nat) (h : MtOK n m) : FnM Tryz.prog 38 [] [aMt m] (vB true) [] := by
  have hn1 := h.n1
  have hn := h.n10
  have hl := h.len
  have h2 := two_le hn
  have hs := h.st
  have hi := h.il
  have t1 : decide (((m.vs.length : Nat) : Int) < 1) = false := by simp only [decide_eq_false_iff_not]; omega
  have t2 : decide (((m.vs.length : Nat) : Int) > 10) = false := by simp only [decide_eq_false_iff_not]; omega
  have t3 : decide ((m.il : Int) < 0) = false := by simp only [decide_eq_false_iff_not]; omega
  have t4 : decide ((m.il : Int) ≥ ((2 ^ m.vs.length : Nat) : Int)) = false := by rw [hl]; simp only [decide_eq_false_iff_not]; omega
  have t5 : decide ((m.st : Int) < 0) = false := by simp only [decide_eq_false_iff_not]; omega
  have t6 : decide ((m.st : Int) ≥ ((2 ^ m.vs.length : Nat) : Int)) = false := by rw [hl]; simp only [decide_eq_false_iff_not]; omega
  have t7 : (((m.il &&& m.st : Nat) : Int) != 0) = false := by rw [h.dis]; rfl
  have t8 : (!true) = false := rfl
  have hsl : m.st < 4611686018427387904 := by omega
  have hil : m.il < 4611686018427387904 := by omega
  have hln : m.vs.length ≤ 61 := by omega
  refine FnM.of htb Tryz.func38 rfl rfl rfl rfl rfl fun cx hN h0 => ?_
  (repeat' (first | ((with_reducible apply WD_id); first | (refine WD_sum ?_) | (refine WD_nxt htb (by exact rfl) ?_) | (refine WD_eq (shlN_step rfl rfl rfl) ?_) | (refine WD_eq (bandN_step rfl rfl rfl) ?_) | (refine WD_idx htb ?_) | (refine WD_f (by exact rfl) (by exact rfl) (by exact known) fun hb => ?_; rw [hb]; clear hb)) | (refine ct ?_) | (with_reducible apply WA_block)))
  refine WA_le (s' := ⟨[(50, vI 0), (49, vI (m.vs.length : Int)), (48, lVo m.vs), (3, .ptr 3 0), (1, .ptr 1 0)], [(3, .box 3 [vI (m.vs.length : Int)]), (1, .box 34 (cellsOf (aMt m)))]⟩) (LeV []) ?_
  (refine WA_forV (m.vs.length) [50] [] (fun k => [(50, vI k)]) (fun k => []) (fun k => True) ?h0 ?_)
  case h0 => trivial
  intro k hk _
  rcases Nat.lt_or_ge k m.vs.length with hk' | hk'
  · have d1 : decide ((k : Int) < (m.vs.length : Int)) = true := by simp; omega
    have hv := h.ok k (by omega)
    have hv10 := hv.mono hn
    have hnd := h.nd k (by omega)
    have d2 : ((nth m.vs k).nd != (k : Int)) = false := by rw [hnd]; simp
    have ht := hv.t
    have hhl := hv.hlen hn
    have hho : ∀ x ∈ (nth m.vs k).he, MsOK m.vs.length x := fun x hx => by rw [hl]; exact (hv.he x hx).1
    have ht2 : FitT m.vs.length (nth m.vs k).t := by rw [hl]; exact ht
    have hb : m.vs.length ≤ 10 ∧ (nth m.vs k).he.length ≤ 1000 := by omega
    have hb1 : m.vs.length ≤ 10 := hb.1
    (repeat' (first | ((with_reducible apply WD_id); first | (refine WD_sum ?_) | (refine WD_nxt htb (by exact rfl) ?_) | (refine WD_call (by exact rfl) ?_; first | (refine WD_c0 (valV_m (v := nth m.vs k) ?_) ?_; (exact hyp)) | (refine WD_c0 (ins_m (t := (nth m.vs k).t) (n := m.vs.length) ?_ ?_) ?_; (exact hyp); (exact hyp)) | (refine WD_cM (acn_m (l := (nth m.vs k).he) (n := m.vs.length) ?_ ?_) ?_; (exact hyp); (exact hyp))) | (refine WD_idx htb ?_) | (refine WD_f (by exact rfl) (by exact rfl) (by exact known) fun hb => ?_; rw [hb]; clear hb)) | (refine ct ?_) | (with_reducible apply WA_block)))
    refine ⟨hk', trivial, ?_⟩
    (exact LeV [])
  · have d1 : decide ((k : Int) < (m.vs.length : Int)) = false := by simp; omega
    (repeat' (first | ((with_reducible apply WD_id); first | (refine WD_sum ?_) | (refine WD_nxt htb (by exact rfl) ?_) | (refine WD_idx htb ?_) | (refine WD_f (by exact rfl) (by exact rfl) (by exact known) fun hb => ?_; rw [hb]; clear hb)) | (refine ct ?_) | (with_reducible apply WA_block)))
    exact gE (.inr rfl) rfl rfl trivial
theorem tgt_m (k : Int) : FnM Tryz.prog 144 [] [vI k] (vB (isTo k)) [] := by
  refine FnM.of htb Tryz.func144 rfl rfl rfl rfl rfl fun cx hN h0 => ?_
  (repeat' (first | ((with_reducible apply WD_id); first | (refine WD_nxt htb (by exact rfl) ?_) | ((refine WD_tf (by exact rfl) (by exact rfl) ?_ ?_) <;> (intro hb; (fail_if_success (with_reducible injection hb)); rw [hb]; (try simp only [List.length_map] at hb)))) | (refine ct ?_) | (with_reducible apply WA_block)))
  all_goals exact gE (.inr rfl) rfl (congrArg vB (by simp_all [isTo])) trivial
end Go.Proofs.YtdhogcklnehdhaaGreatDoor
