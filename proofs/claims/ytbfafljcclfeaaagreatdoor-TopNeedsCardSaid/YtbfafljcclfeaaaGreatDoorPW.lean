/- Plain facts for the walks: how a check of a list goes on from one place to the next. No program stands here. -/
import Derived.Test.YtbfafljcclfeaaaGreatDoorAmM
namespace Go.Proofs.YtbfafljcclfeaaaGreatDoor
set_option linter.unusedSimpArgs false
set_option linter.unusedVariables false
set_option linter.unnecessarySimpa false
set_option linter.unusedSectionVars false
set_option maxRecDepth 100000
open Go.RowKit Go.Proofs.Grow Go.Sort

theorem acc_iff {p : Option Int} {x : Acc} : accOk p x = true ↔ okId x.id = true ∧ ltO p x.id = true ∧ okA x.bal = true ∧ 0 ≤ x.seq ∧ x.seq ≤ 1000000 := by
  simp only [accOk, Bool.and_eq_true, okSeq_iff]
theorem acc_iff2 {p : Option Int} {x : Acc} : accOk p x = true ↔ (1 ≤ x.id ∧ x.id ≤ 1000) ∧ ltO p x.id = true ∧ okA x.bal = true ∧ 0 ≤ x.seq ∧ x.seq ≤ 1000000 := by
  simp only [accOk, Bool.and_eq_true, okSeq_iff, okId_iff]
theorem chk_step {l : List Acc} {k : Nat} (h20 : ¬ 20 < l.length) (hk : k < l.length) (hz : accsOk none l = accsOk (prevId l k) (l.drop k)) :
    (accOk (prevId l k) (nth l k) = false → chkA l = 74) ∧ (accOk (prevId l k) (nth l k) = true → accsOk none l = accsOk (prevId l (k + 1)) (l.drop (k + 1))) := by
  rw [drop_nth l k hk, accsOk] at hz
  constructor
  · intro h
    rw [h, Bool.false_and] at hz
    simp [chkA, h20, hz]
  · intro h
    rw [h, Bool.true_and] at hz
    rw [hz]; simp [prevId]
theorem chk_end {l : List Acc} {k : Nat} (h20 : ¬ 20 < l.length) (hk : l.length ≤ k) (hz : accsOk none l = accsOk (prevId l k) (l.drop k)) : chkA l = 0 := by
  rw [List.drop_eq_nil_of_le hk] at hz
  simp [chkA, h20, hz, accsOk]
theorem idx_step {α : Type} [Inhabited α] {p : α → Bool} {l : List α} {k : Nat} (hk : k < l.length) : idxF p k (l.drop k) = if p (nth l k) = true then (k : Int) else idxF p (k + 1) (l.drop (k + 1)) := by
  rw [drop_nth l k hk]; rfl
theorem idx_hit {α : Type} [Inhabited α] {p : α → Bool} {l : List α} {k : Nat} {r : Int} (hz : r = idxF p k (l.drop k)) (hk : k < l.length) (h : p (nth l k) = true) : r = (k : Int) := by
  rw [hz, idx_step hk, if_pos h]
theorem idx_miss {α : Type} [Inhabited α] {p : α → Bool} {l : List α} {k : Nat} {r : Int} (hz : r = idxF p k (l.drop k)) (hk : k < l.length) (h : p (nth l k) = false) : r = idxF p (k + 1) (l.drop (k + 1)) := by
  rw [hz, idx_step hk, if_neg (by simp [h])]
theorem idx_end {α : Type} {p : α → Bool} {l : List α} {k : Nat} {r : Int} (hz : r = idxF p k (l.drop k)) (hk : l.length ≤ k) : r = -1 := by
  rw [hz, List.drop_eq_nil_of_le hk]; rfl
theorem idxF_bd {α : Type} [Inhabited α] (p : α → Bool) (l : List α) : -1 ≤ idxF p 0 l ∧ idxF p 0 l < l.length ∧ (idxF p 0 l < 0 → idxF p 0 l = -1) := by
  rcases idxF_spec p l 0 with ⟨h, _⟩ | ⟨j, j1, j2, _⟩ <;> omega
theorem wsum_app (l : List Acc) (x : Acc) : ∀ s, wsumA s (l ++ [x]) = wrap64 (wsumA s l + x.bal) := by
  induction l with
  | nil => intro s; rfl
  | cons y r ih => intro s; exact ih _
theorem wsum_take {l : List Acc} {k : Nat} (hk : k < l.length) : wsumA 0 (l.take (k + 1)) = IntKind.i64.wrap (wsumA 0 (l.take k) + (nth l k).bal) := by
  rw [List.take_succ_eq_append_getElem hk, wsum_app, nth_getElem l k hk, IntWalk.i64_left]
theorem set_same {α : Type} [Inhabited α] (l : List α) {n : Nat} (hn : n < l.length) : l.set n (nth l n) = l := by
  rw [nth_getElem l n hn, List.set_getElem_self]
theorem good_all {l : List Acc} (h : chkA l = 0) : ∀ m, m < l.length → GoodA (nth l m) := fun m hm => (chkA_zero.1 h).2.1 _ (nth_mem l m hm)
theorem eqAccs_len : ∀ (l m : List Acc), ¬ l.length = m.length → eqAccs l m = false
  | [], [], h => absurd rfl h
  | [], _ :: _, _ => rfl
  | _ :: _, [], _ => rfl
  | x :: r, y :: s, h => by
    have := eqAccs_len r s (fun e => h (by simp [e]))
    simp [eqAccs, this]
theorem eqAccs_step {l m : List Acc} {k : Nat} (hl : k < l.length) (hm : k < m.length) {z : Bool} (hz : z = eqAccs (l.drop k) (m.drop k)) :
    (eqAcc (nth l k) (nth m k) = false → z = false) ∧ (eqAcc (nth l k) (nth m k) = true → z = eqAccs (l.drop (k + 1)) (m.drop (k + 1))) := by
  rw [drop_nth l k hl, drop_nth m k hm, eqAccs] at hz
  exact ⟨fun h => by rw [hz, h]; rfl, fun h => by rw [hz, h]; rfl⟩
theorem eqAccs_end {l m : List Acc} (h : l.length = m.length) {z : Bool} (hz : z = eqAccs (l.drop l.length) (m.drop l.length)) : z = true := by
  rw [List.drop_length, h, List.drop_length] at hz; exact hz
theorem eqLins_len : ∀ (l m : List Lin), ¬ l.length = m.length → eqLins l m = false
  | [], [], h => absurd rfl h
  | [], _ :: _, _ => rfl
  | _ :: _, [], _ => rfl
  | x :: r, y :: s, h => by
    have := eqLins_len r s (fun e => h (by simp [e]))
    simp [eqLins, this]
theorem eqLins_step {l m : List Lin} {k : Nat} (hl : k < l.length) (hm : k < m.length) {z : Bool} (hz : z = eqLins (l.drop k) (m.drop k)) :
    (eqLin (nth l k) (nth m k) = false → z = false) ∧ (eqLin (nth l k) (nth m k) = true → z = eqLins (l.drop (k + 1)) (m.drop (k + 1))) := by
  rw [drop_nth l k hl, drop_nth m k hm, eqLins] at hz
  exact ⟨fun h => by rw [hz, h]; rfl, fun h => by rw [hz, h]; rfl⟩
theorem eqLins_end {l m : List Lin} (h : l.length = m.length) {z : Bool} (hz : z = eqLins (l.drop l.length) (m.drop l.length)) : z = true := by
  rw [List.drop_length, h, List.drop_length] at hz; exact hz
theorem eqOffs_len : ∀ (l m : List Off), ¬ l.length = m.length → eqOffs l m = false
  | [], [], h => absurd rfl h
  | [], _ :: _, _ => rfl
  | _ :: _, [], _ => rfl
  | x :: r, y :: s, h => by
    have := eqOffs_len r s (fun e => h (by simp [e]))
    simp [eqOffs, this]
theorem eqOffs_step {l m : List Off} {k : Nat} (hl : k < l.length) (hm : k < m.length) {z : Bool} (hz : z = eqOffs (l.drop k) (m.drop k)) :
    (eqOff (nth l k) (nth m k) = false → z = false) ∧ (eqOff (nth l k) (nth m k) = true → z = eqOffs (l.drop (k + 1)) (m.drop (k + 1))) := by
  rw [drop_nth l k hl, drop_nth m k hm, eqOffs] at hz
  exact ⟨fun h => by rw [hz, h]; rfl, fun h => by rw [hz, h]; rfl⟩
theorem eqOffs_end {l m : List Off} (h : l.length = m.length) {z : Bool} (hz : z = eqOffs (l.drop l.length) (m.drop l.length)) : z = true := by
  rw [List.drop_length, h, List.drop_length] at hz; exact hz
theorem lin_step {all : List Acc} {l : List Lin} {k : Nat} (hA : chkA all = 0) (h60 : ¬ 60 < l.length) (hk : k < l.length) (hz : linsOk all none l = linsOk all (prevL l k) (l.drop k)) :
    (linOk all (prevL l k) (nth l k) = false → chkL l all = 74) ∧ (linOk all (prevL l k) (nth l k) = true → linsOk all none l = linsOk all (prevL l (k + 1)) (l.drop (k + 1))) := by
  rw [drop_nth l k hk, linsOk] at hz
  constructor
  · intro h
    rw [h, Bool.false_and] at hz
    simp [chkL, h60, hz, hA]
  · intro h
    rw [h, Bool.true_and] at hz
    rw [hz]; simp [prevL]
theorem lin_end {all : List Acc} {l : List Lin} {k : Nat} (hA : chkA all = 0) (h60 : ¬ 60 < l.length) (hk : l.length ≤ k) (hz : linsOk all none l = linsOk all (prevL l k) (l.drop k)) : chkL l all = 0 := by
  rw [List.drop_eq_nil_of_le hk] at hz
  simp [chkL, h60, hz, linsOk, hA]

theorem lin_iff {all : List Acc} {p : Option Lin} {x : Lin} : linOk all p x = true ↔ (findA all x.acc).2 = true ∧ assetB x.code x.iss = true ∧ nativeB x.code x.iss = false ∧ ¬ x.iss = x.acc ∧ okA x.lim = true ∧ 0 ≤ x.bal ∧ x.bal ≤ x.lim ∧ befO p x = true := by
  simp only [linOk, Bool.and_eq_true, Bool.not_eq_true', decide_eq_false_iff_not, beq_eq_false_iff_ne, ne_eq, Int.not_lt]
theorem prevL_pos {α : Type} [Inhabited α] {l : List α} {k : Nat} (h : 0 < k) : prevL l k = some (nth l ((k : Int) - 1).toNat) := by
  rw [show ((k : Int) - 1).toNat = k - 1 by omega]; unfold prevL; rw [if_neg (by omega)]
theorem prevL_zero {α : Type} [Inhabited α] {l : List α} {k : Nat} (h : ¬ 0 < k) : prevL l k = none := by
  unfold prevL; rw [if_pos (by omega)]
theorem off_step {g : Led} {k : Nat} (hL : chkL g.lins g.accs = 0) (h40 : ¬ 40 < g.offs.length) (hH : headOk g = true) (hk : k < g.offs.length) (hz : offsOk g none g.offs = offsOk g (prevL g.offs k) (g.offs.drop k)) :
    (offOk g (prevL g.offs k) (nth g.offs k) = false → chkO g = 74) ∧ (offOk g (prevL g.offs k) (nth g.offs k) = true → offsOk g none g.offs = offsOk g (prevL g.offs (k + 1)) (g.offs.drop (k + 1))) := by
  rw [drop_nth g.offs k hk, offsOk] at hz
  constructor
  · intro h
    rw [h, Bool.false_and] at hz
    simp [chkO, h40, hz, hL]
  · intro h
    rw [h, Bool.true_and] at hz
    rw [hz]; simp [prevL]
theorem off_end {g : Led} (hL : chkL g.lins g.accs = 0) (h40 : ¬ 40 < g.offs.length) (hH : headOk g = true) {k : Nat} (hk : g.offs.length ≤ k) (hz : offsOk g none g.offs = offsOk g (prevL g.offs k) (g.offs.drop k)) : chkO g = 0 := by
  rw [List.drop_eq_nil_of_le hk] at hz
  simp [chkO, h40, hz, offsOk, hL, hH]
theorem head_bad {g : Led} (hL : chkL g.lins g.accs = 0) (h40 : ¬ 40 < g.offs.length) (hH : headOk g = false) : chkO g = 74 := by
  simp [chkO, h40, hL, hH]
theorem head_iff {g : Led} : headOk g = true ↔ 1 ≤ g.nid ∧ g.nid ≤ 1000000 ∧ okA g.fees = true ∧ 0 ≤ g.num ∧ g.num ≤ 1000000 := by
  simp only [headOk, Bool.and_eq_true, Bool.not_eq_true', decide_eq_false_iff_not, Int.not_lt]
theorem off_iff {g : Led} {p : Option Off} {x : Off} : offOk g p x = true ↔ (findA g.accs x.seller).2 = true ∧ 1 ≤ x.id ∧ x.id < g.nid ∧ leP p x.id = false ∧ assetB x.sc x.si = true ∧ assetB x.bc x.bi = true ∧ eqT x.sc x.si x.bc x.bi = false ∧ 1 ≤ x.amt ∧ okA x.amt = true ∧
    ¬ (redF x.num x.den).1 = 0 ∧ (redF x.num x.den).1 = x.num ∧ (redF x.num x.den).2 = x.den := by
  simp only [offOk, Bool.and_eq_true, Bool.not_eq_true', decide_eq_false_iff_not, beq_eq_false_iff_ne, bne_eq_false_iff_eq, ne_eq, Int.not_lt, Int.not_le]
theorem chkO_head {g : Led} (h : chkO g = 0) : chkL g.lins g.accs = 0 ∧ g.offs.length ≤ 40 ∧ headOk g = true ∧ offsOk g none g.offs = true := by
  unfold chkO at h
  split at h
  · rename_i h1; exact absurd h h1
  · rename_i h1
    split at h
    · omega
    · rename_i h2
      split at h
      · rename_i h3; exact ⟨by simpa using h1, by omega, h3.1, h3.2⟩
      · omega
theorem chkO_nid {g : Led} (h : chkO g = 0) : 1 ≤ g.nid ∧ g.nid ≤ 1000000 := by
  have := head_iff.1 (chkO_head h).2.2.1; omega
end Go.Proofs.YtbfafljcclfeaaaGreatDoor
