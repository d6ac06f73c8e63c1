/- Plain laws: the ledger that is made is right. No program stands here. -/
import Derived.Test.YtgebgpdoddjfhaaGreatPL
import Derived.Test.YtgebgpdoddjfhaaGreatPlainA
namespace Go.Proofs.YtgebgpdoddjfhaaGreat
set_option linter.unusedSimpArgs false
set_option linter.unusedVariables false
set_option linter.unnecessarySimpa false
set_option linter.unusedSectionVars false
set_option maxRecDepth 100000
open Go Go.RowKit Go.Am Go.Proofs.Grow

theorem nth_snoc {α : Type} [Inhabited α] (l : List α) (x : α) (j : Nat) (hj : j < l.length + 1) : nth (l ++ [x]) j = if j < l.length then nth l j else x := by
  split
  · rename_i h; simp only [nth, List.getD_eq_getElem?_getD]; rw [List.getElem?_append_left h]
  · rename_i h
    obtain rfl : j = l.length := by omega
    simp [nth]
theorem bals_bd (s : Sc) : 0 ≤ nth bals (s.n 5).toNat ∧ nth bals (s.n 5).toNat ≤ 1000 := by
  have := s.n_bd (k := 5) (by decide)
  rcases (by omega : s.n 5 = 0 ∨ s.n 5 = 1 ∨ s.n 5 = 2 ∨ s.n 5 = 3 ∨ s.n 5 = 4) with e | e | e | e | e <;> rw [e] <;> decide
theorem accSt_ids (s : Sc) (k : Nat) : ∀ j, j < k → (nth (accSt s k).1 j).id = (j : Int) + 1 := by
  induction k with
  | zero => intro j hj; omega
  | succ k ih =>
    intro j hj
    have hl := accSt_len s k
    simp only [accSt]
    rw [nth_snoc _ _ _ (by omega)]
    split
    · exact ih j (by omega)
    · show (k : Int) + 1 = _; omega
theorem accSt_vals (s : Sc) (k : Nat) : ∀ x ∈ (accSt s k).1, (0 ≤ x.bal ∧ x.bal ≤ 1000) ∧ 0 ≤ x.seq ∧ x.seq ≤ 2 := by
  induction k with
  | zero => intro x hx; cases hx
  | succ k ih =>
    intro x hx
    simp only [accSt, List.mem_append, List.mem_singleton] at hx
    rcases hx with hx | rfl
    · exact ih x hx
    · have := ((accSt s k).2.x 5).n_bd (k := 3) (by decide)
      exact ⟨bals_bd _, by dsimp only; omega, by dsimp only; omega⟩
theorem accsF_made (s : Sc) : MadeA (accsF s).1 := by
  have hb := nF_bd s
  have hl : (accsF s).1.length = (nF s).toNat := accSt_len _ _
  refine ⟨by omega, by omega, fun j hj => accSt_ids _ _ j (by omega), fun x hx => (accSt_vals _ _ x hx).1, fun x hx => (accSt_vals _ _ x hx).2⟩
theorem accsF_len (s : Sc) : ((accsF s).1.length : Int) = nF s := by
  have hb := nF_bd s
  have hl : (accsF s).1.length = (nF s).toNat := accSt_len _ _
  omega
theorem ledF_accs (s : Sc) : (ledF s).1.accs = (accsF s).1 := (offSt_len _ _ _).1
theorem ledF_lins (s : Sc) : (ledF s).1.lins = (linsF s).1 := (offSt_len _ _ _).2.1
theorem ledF_made (s : Sc) : MadeA (ledF s).1.accs := by rw [ledF_accs]; exact accsF_made s
theorem ledF_ok {s : Sc} (h : s.ok) : (ledF s).2.ok := by
  refine offSt_ok (Sc.ok_x (linSt_ok (accSt_ok (Sc.ok_x ?_ 5) _) _) 6) _
  unfold s3F
  repeat (first | with_reducible exact h | with_reducible apply Sc.ok_x)
theorem MadeA.found {l : List Acc} (h : MadeA l) {i : Int} (h1 : 1 ≤ i) (h2 : i ≤ l.length) : (findA l i).2 = true := by
  obtain ⟨j, hj, rfl⟩ := h.place h1 h2
  rw [findA_at h.right.2.2 hj]

def lastO {α : Type} : Option α → List α → Option α
  | p, [] => p
  | _, x :: r => lastO (some x) r
theorem lastO_snoc {α : Type} (l : List α) (x : α) : ∀ p, lastO p (l ++ [x]) = some x := by
  induction l with
  | nil => intro p; rfl
  | cons y r ih => intro p; exact ih _
theorem lastO_mem {α : Type} {l : List α} : ∀ {p : Option α} {y : α}, lastO p l = some y → p = some y ∨ y ∈ l := by
  induction l with
  | nil => intro p y h; exact .inl h
  | cons x r ih =>
    intro p y h
    rcases ih h with e | e
    · exact .inr (by simp at e; simp [e])
    · exact .inr (by simp [e])
theorem linsOk_snoc (all : List Acc) (l : List Lin) (x : Lin) : ∀ p, linsOk all p (l ++ [x]) = (linsOk all p l && linOk all (lastO p l) x) := by
  induction l with
  | nil => intro p; simp [linsOk, lastO]
  | cons y r ih => intro p; simp only [List.cons_append, linsOk, lastO, ih, Bool.and_assoc]
theorem offsOk_snoc (g : Led) (l : List Off) (x : Off) : ∀ p, offsOk g p (l ++ [x]) = (offsOk g p l && offOk g (lastO p l) x) := by
  induction l with
  | nil => intro p; simp [offsOk, lastO]
  | cons y r ih => intro p; simp only [List.cons_append, offsOk, lastO, ih, Bool.and_assoc]

/-- One line more: the lines stay right. -/
theorem linStep_inv {all : List Acc} (hall : MadeA all) {i j : Int} {u : ByteArray} {t : List Lin × Sc} (h1 : 1 ≤ i) (h2 : i ≤ all.length) (hu : assetB u j = true) (hn : nativeB u j = false)
    (hI : linsOk all none t.1 = true) (hb : ∀ y, lastO none t.1 = some y → befL y i u j = true) :
    linsOk all none (linStep i u j t).1 = true ∧ ((linStep i u j t).1 = t.1 ∨ ∃ y, lastO none (linStep i u j t).1 = some y ∧ y.acc = i ∧ y.code = u ∧ y.iss = j) := by
  by_cases h : j = i
  · rw [linStep_a h]; exact ⟨hI, .inl rfl⟩
  by_cases h4 : t.2.n 4 = 0
  · rw [linStep_b h h4]; exact ⟨hI, .inl rfl⟩
  rw [linStep_c h h4]
  have c2 := lims_sc (t.2.x 4)
  have hln : lims.length = 4 := rfl
  rw [hln] at c2
  have hlim : 0 ≤ nth lims ((t.2.x 4).n 4).toNat ∧ nth lims ((t.2.x 4).n 4).toNat ≤ 1000000000000 := by
    have := (t.2.x 4).n_bd (k := 4) (by decide)
    rcases (by omega : (t.2.x 4).n 4 = 0 ∨ (t.2.x 4).n 4 = 1 ∨ (t.2.x 4).n 4 = 2 ∨ (t.2.x 4).n 4 = 3) with e | e | e | e <;> rw [e] <;> decide
  have hbal := ((t.2.x 4).x 4).n_bd (k := (if 400 < nth lims ((t.2.x 4).n 4).toNat then 400 else nth lims ((t.2.x 4).n 4).toNat) + 1) (by omega)
  refine ⟨?_, .inr ⟨_, lastO_snoc _ _ _, rfl, rfl, rfl⟩⟩
  dsimp only
  rw [linsOk_snoc, hI, Bool.true_and, lin_iff]
  refine ⟨hall.found h1 h2, hu, hn, h, okA_iff.2 hlim, by dsimp only; omega, ?_, ?_⟩
  · dsimp only
    split at hbal <;> (try simp only [*, if_true, if_false]) <;> (try rw [if_pos (by assumption)]) <;> omega
  · cases e : lastO none t.1 with
    | none => rfl
    | some y => exact hb y e
theorem eur_asset : assetB ⟨#[69, 85, 82]⟩ 2 = true := by decide +kernel
theorem usd_asset : assetB ⟨#[85, 83, 68]⟩ 1 = true := by decide +kernel
theorem eur_native : nativeB ⟨#[69, 85, 82]⟩ 2 = false := by decide +kernel
theorem usd_native : nativeB ⟨#[85, 83, 68]⟩ 1 = false := by decide +kernel
theorem nat_asset : assetB ⟨#[]⟩ 0 = true := by decide +kernel
theorem nat_native : nativeB ⟨#[]⟩ 0 = true := by decide +kernel
theorem eur_usd : lessA ⟨#[69, 85, 82]⟩ 2 ⟨#[85, 83, 68]⟩ 1 = true := by decide +kernel
theorem linSt_inv {all : List Acc} (hall : MadeA all) (s : Sc) (k : Nat) : (k : Int) ≤ all.length → linsOk all none (linSt s k).1 = true ∧ ∀ y, lastO none (linSt s k).1 = some y → y.acc < (k : Int) + 1 := by
  induction k with
  | zero => intro _; exact ⟨rfl, fun y h => by cases h⟩
  | succ k ih =>
    intro hk
    obtain ⟨i1, i2⟩ := ih (by omega)
    obtain ⟨a1, a2⟩ := linStep_inv (t := linSt s k) hall (i := (k : Int) + 1) (by omega) (by omega) eur_asset eur_native i1 (fun y hy => by have := i2 y hy; simp [befL]; omega)
    obtain ⟨b1, b2⟩ := linStep_inv (t := linStep ((k : Int) + 1) ⟨#[69, 85, 82]⟩ 2 (linSt s k)) hall (i := (k : Int) + 1) (by omega) (by omega) usd_asset usd_native a1 (fun y hy => by
      rcases a2 with e | ⟨z, e, z1, z2, z3⟩
      · rw [e] at hy; have := i2 y hy; simp [befL]; omega
      · rw [e] at hy
        obtain rfl := Option.some.inj hy
        simp [befL, z1, z2, z3, eur_usd])
    refine ⟨b1, fun y hy => ?_⟩
    have hy : lastO none (linStep ((k : Int) + 1) ⟨#[85, 83, 68]⟩ 1 (linStep ((k : Int) + 1) ⟨#[69, 85, 82]⟩ 2 (linSt s k))).1 = some y := hy
    rcases b2 with e | ⟨z, e, z1, z2, z3⟩
    · rw [e] at hy
      rcases a2 with e | ⟨z, e, z1, z2, z3⟩
      · rw [e] at hy; have := i2 y hy; omega
      · rw [e] at hy; obtain rfl := Option.some.inj hy; omega
    · rw [e] at hy; obtain rfl := Option.some.inj hy; omega
theorem linsF_right (s : Sc) : chkL (linsF s).1 (accsF s).1 = 0 := by
  have hb := nF_bd s
  have h := linSt_inv (accsF_made s) (accsF s).2 (nF s).toNat (by rw [accsF_len]; omega)
  have hl := linSt_len (accsF s).2 (nF s).toNat
  unfold chkL
  rw [if_neg (by simp [chkA_zero.2 (accsF_made s).right]), if_neg (by unfold linsF; omega)]
  exact if_pos h.1
theorem ledF_right (s : Sc) : chkL (ledF s).1.lins (ledF s).1.accs = 0 := by rw [ledF_accs, ledF_lins]; exact linsF_right s

/-- Reduced prices are reduced. -/
theorem redF_idem {n d : Int} (h : priceB n d = true) : (1 ≤ (redF n d).1 ∧ (redF n d).1 ≤ 1000000) ∧ (1 ≤ (redF n d).2 ∧ (redF n d).2 ≤ 1000000) ∧ redF (redF n d).1 (redF n d).2 = redF n d := by
  obtain ⟨⟨n1, n2⟩, d1, d2⟩ := price_iff.1 h
  obtain ⟨a, rfl⟩ := Int.eq_ofNat_of_zero_le (show 0 ≤ n by omega)
  obtain ⟨b, rfl⟩ := Int.eq_ofNat_of_zero_le (show 0 ≤ d by omega)
  have hg : 0 < Nat.gcd a b := Nat.gcd_pos_of_pos_left _ (by omega)
  have ha := Nat.div_pos (Nat.le_of_dvd (by omega) (Nat.gcd_dvd_left a b)) hg
  have hb := Nat.div_pos (Nat.le_of_dvd (by omega) (Nat.gcd_dvd_right a b)) hg
  have ha2 := Nat.div_le_self a (Nat.gcd a b)
  have hb2 := Nat.div_le_self b (Nat.gcd a b)
  have e : redF (a : Int) (b : Int) = (((a / Nat.gcd a b : Nat) : Int), ((b / Nat.gcd a b : Nat) : Int)) := by
    unfold redF; rw [if_pos h]; simp [gcdI]
  have hgg : Nat.gcd (a / Nat.gcd a b) (b / Nat.gcd a b) = 1 := by
    rw [Nat.gcd_div (Nat.gcd_dvd_left a b) (Nat.gcd_dvd_right a b)]; exact Nat.div_self hg
  rw [e]
  generalize a / Nat.gcd a b = p at *
  generalize b / Nat.gcd a b = q at *
  refine ⟨by dsimp only; omega, by dsimp only; omega, ?_⟩
  dsimp only
  unfold redF
  rw [if_pos (price_iff.2 (by omega))]
  simp [gcdI, hgg]
theorem addO_yes {g : Led} {a : Int} {u : ByteArray} {i : Int} {v : ByteArray} {j n p q : Int} (h : (addO g a u i v j n p q).2.2 = 0) :
    chkO g = 0 ∧ (findA g.accs a).2 = true ∧ assetB u i = true ∧ assetB v j = true ∧ eqT u i v j = false ∧ 1 ≤ n ∧ okA n = true ∧ priceB p q = true ∧ holdsF g a u i = true ∧ holdsF g a v j = true ∧ ¬ heldF g a u i = 0 ∧ ¬ g.offs.length = 40 ∧ ¬ g.nid = 1000000 ∧
      addO g a u i v j n p q = ({ g with offs := g.offs ++ [⟨g.nid, a, u, i, v, j, n, (redF p q).1, (redF p q).2⟩], nid := g.nid + 1 }, g.nid, 0) := by
  unfold addO at h ⊢
  obtain ⟨h1, h⟩ := ite_no h (fun hc => hc)
  rw [if_neg h1]
  obtain ⟨h2, h⟩ := ite_no h (fun _ => (by intro e; cases e))
  rw [if_neg h2]
  obtain ⟨h3, h⟩ := ite_no h (fun _ => (by intro e; cases e))
  rw [if_neg h3]
  obtain ⟨h4, h⟩ := ite_no h (fun _ => (by intro e; cases e))
  rw [if_neg h4]
  obtain ⟨h5, h⟩ := ite_no h (fun _ => (by intro e; cases e))
  rw [if_neg h5]
  obtain ⟨h6, h⟩ := ite_no h (fun _ => (by intro e; cases e))
  rw [if_neg h6]
  obtain ⟨h7, h⟩ := ite_no h (fun _ => (by intro e; cases e))
  rw [if_neg h7]
  simp only [not_or, Bool.not_eq_false, Bool.not_eq_true, Int.not_lt] at h1 h2 h3 h4 h5 h6 h7
  exact ⟨Classical.not_not.1 h1, h2, h3.1, h3.2.1, h3.2.2, h4.1, h4.2.1, h4.2.2, h5.1, h5.2, h6, h7.1, h7.2, rfl⟩
theorem offsOk_mem {g : Led} {l : List Off} : ∀ {p : Option Off}, offsOk g p l = true → ∀ y ∈ l, ∃ q, offOk g q y = true := by
  induction l with
  | nil => intro p _ y hy; cases hy
  | cons x r ih =>
    intro p h y hy
    simp only [offsOk, Bool.and_eq_true] at h
    rcases List.mem_cons.1 hy with rfl | hy
    · exact ⟨p, h.1⟩
    · exact ih h.2 y hy
theorem offsOk_more {g g' : Led} (ha : g'.accs = g.accs) (hn : g.nid ≤ g'.nid) {l : List Off} : ∀ {p : Option Off}, offsOk g p l = true → offsOk g' p l = true := by
  induction l with
  | nil => intro p h; rfl
  | cons x r ih =>
    intro p h
    simp only [offsOk, Bool.and_eq_true] at h ⊢
    refine ⟨?_, ih h.2⟩
    have := off_iff.1 h.1
    rw [off_iff, ha]
    refine ⟨this.1, this.2.1, by omega, this.2.2.2⟩
theorem addO_right {g : Led} {a : Int} {u : ByteArray} {i : Int} {v : ByteArray} {j n p q : Int} (h : (addO g a u i v j n p q).2.2 = 0) : chkO (addO g a u i v j n p q).1 = 0 := by
  obtain ⟨h1, h2, h3, h4, h5, h6, h7, h8, h9, h10, h11, h12, h13, e⟩ := addO_yes h
  rw [e]
  obtain ⟨c1, c2, c3, c4⟩ := chkO_head h1
  obtain ⟨r1, r2, r3⟩ := redF_idem h8
  have c5 := head_iff.1 c3
  dsimp only
  unfold chkO
  rw [if_neg (by simp [c1]), if_neg (by simp; omega), if_pos]
  refine ⟨head_iff.2 ⟨by dsimp only; omega, by dsimp only; omega, c5.2.2.1, c5.2.2.2⟩, ?_⟩
  have c6 := offsOk_more (g := g) (g' := { g with offs := g.offs ++ [⟨g.nid, a, u, i, v, j, n, (redF p q).1, (redF p q).2⟩], nid := g.nid + 1 }) rfl (by dsimp only; omega) c4
  dsimp only at c6 ⊢
  rw [offsOk_snoc, c6, Bool.true_and, off_iff]
  refine ⟨h2, by dsimp only; omega, by dsimp only; omega, ?_, h3, h4, h5, h6, h7, by dsimp only; rw [r3]; omega, by dsimp only; rw [r3], by dsimp only; rw [r3]⟩
  cases e2 : lastO none g.offs with
  | none => rfl
  | some y =>
    rcases lastO_mem e2 with e3 | e3
    · cases e3
    · obtain ⟨z, hz⟩ := offsOk_mem c4 y e3
      have := off_iff.1 hz
      simp [leP]; omega
theorem led0F_right (s : Sc) : chkO (led0F s) = 0 := by
  have hL : chkL (led0F s).lins (led0F s).accs = 0 := linsF_right s
  have hO : (led0F s).offs = [] := rfl
  have h1 : (led0F s).nid = 1 := rfl
  have h2 : (led0F s).fees = (s.x 5).n 50 := rfl
  have h3 : (led0F s).num = s.n 5 := rfl
  have b1 := s.n_bd (k := 5) (by decide)
  have b2 := (s.x 5).n_bd (k := 50) (by decide)
  generalize led0F s = g at *
  unfold chkO
  rw [if_neg (by simp [hL]), if_neg (by simp [hO]), if_pos]
  refine ⟨head_iff.2 ⟨by omega, by omega, okA_iff.2 (by omega), by omega, by omega⟩, by rw [hO]; rfl⟩
theorem offSt_right {n : Int} {t : Led × Sc} (h : chkO t.1 = 0) (k : Nat) : chkO (offSt n t k).1 = 0 := by
  induction k with
  | zero => exact h
  | succ k ih =>
    rw [offSt_succ]
    by_cases e : (askF n (offSt n t k)).2.2 = 0
    · rw [offStep_yes e]; exact addO_right e
    · rw [offStep_no e]; exact ih
theorem ledF_all (s : Sc) : chkO (ledF s).1 = 0 := by
  have h := offSt_right (n := nF s) (t := (led0F s, (linsF s).2.x 6)) (led0F_right s) ((linsF s).2.n 6).toNat
  unfold ledF; exact h
theorem ledF_lens (s : Sc) : (ledF s).1.accs.length ≤ 5 ∧ (ledF s).1.lins.length ≤ 10 ∧ (ledF s).1.offs.length ≤ 5 := by
  have hb := nF_bd s
  have h1 := (ledF_made s).five
  have hl := linSt_len (accsF s).2 (nF s).toNat
  have e3 := (offSt_len (nF s) (led0F s, (linsF s).2.x 6) ((linsF s).2.n 6).toNat).2.2
  have c6 := (linsF s).2.n_bd (k := 6) (by decide)
  refine ⟨h1, by rw [ledF_lins]; unfold linsF; omega, ?_⟩
  have : (led0F s).offs.length = 0 := rfl
  simp only [this] at e3
  unfold ledF; omega
end Go.Proofs.YtgebgpdoddjfhaaGreat
