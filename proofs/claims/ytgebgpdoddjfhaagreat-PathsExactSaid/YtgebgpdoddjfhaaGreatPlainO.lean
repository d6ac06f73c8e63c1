/- Plain functions and laws on offers: crossing the book. No program stands here. -/
import Derived.Test.YtgebgpdoddjfhaaGreatPlainM
import Derived.Test.YtgebgpdoddjfhaaGreatPM
namespace Go.Proofs.YtgebgpdoddjfhaaGreat
set_option linter.unusedSimpArgs false
set_option linter.unusedVariables false
set_option linter.unnecessarySimpa false
set_option linter.unusedSectionVars false
set_option maxRecDepth 100000
open Go Go.RowKit Go.Am Go.Proofs.Grow

def min2 (a b : Int) : Int := if b < a then b else a
def max2 (a b : Int) : Int := if b > a then b else a
theorem min2_le (a b : Int) : min2 a b ≤ a ∧ min2 a b ≤ b ∧ (min2 a b = a ∨ min2 a b = b) := by unfold min2; split <;> omega
theorem max2_ge (a b : Int) : a ≤ max2 a b ∧ b ≤ max2 a b ∧ (max2 a b = a ∨ max2 a b = b) := by unfold max2; split <;> omega
/-- The greatest amount of an offer whose cost is at most a number. -/
def withinF (x : Off) (m : Int) : Int := if priceB x.num x.den = true then min2 1000000000000 (m * x.den / x.num) else 0
/-- How much of an offer can be had, in a ledger that is right. -/
def ablP (g : Led) (x : Off) : Int := max2 0 (min2 (min2 x.amt (heldF g x.seller x.sc x.si)) (withinF x (roomF g x.seller x.bc x.bi)))
structure Deal where
  g : Led
  want : Int
  left : Int
def useN (d : Deal) (x : Off) : Int := min2 (min2 d.want (ablP d.g x)) (withinF x d.left)
/-- n of the offer at a place is bought. -/
def buyF (d : Deal) (j : Nat) (n : Int) : Deal :=
  ⟨{ (creditF (debitF d.g (nth d.g.offs j).seller (nth d.g.offs j).sc (nth d.g.offs j).si n).1 (nth d.g.offs j).seller (nth d.g.offs j).bc (nth d.g.offs j).bi (costF (nth d.g.offs j) n).1).1 with
      offs := d.g.offs.set j { nth d.g.offs j with amt := (nth d.g.offs j).amt - n } }, d.want - n, d.left - (costF (nth d.g.offs j) n).1⟩
def use1 (d : Deal) (j : Nat) : Deal := if 0 < useN d (nth d.g.offs j) then buyF d j (useN d (nth d.g.offs j)) else d
def useF (d : Deal) (j : Nat) : Deal × Bool :=
  if 0 < ablP (use1 d j).g (nth (use1 d j).g.offs j) then (use1 d j, false) else ({ use1 d j with g := { (use1 d j).g with offs := (use1 d j).g.offs.eraseIdx j } }, true)
def crossL (t : Int) : List Off → Deal → Deal
  | [], d => d
  | x :: r, d => if x.seller = t then crossL t r d else if (useF d (idxO d.g.offs x.id).toNat).2 = true then crossL t r (useF d (idxO d.g.offs x.id).toNat).1 else (useF d (idxO d.g.offs x.id).toNat).1
def crossD (g : Led) (t : Int) (u : ByteArray) (i : Int) (v : ByteArray) (j n most : Int) : Deal := crossL t (bookO g u i v j) ⟨g, n, most⟩
def crossF (g : Led) (t : Int) (u : ByteArray) (i : Int) (v : ByteArray) (j n most : Int) : Led × Int × Int × Int :=
  if ¬ chkO g = 0 then (led0, 0, 0, chkO g) else if assetB u i = false ∨ assetB v j = false ∨ eqT u i v j = true then (led0, 0, 0, 71) else if okA n = false ∨ okA most = false then (led0, 0, 0, 65) else
  ((crossD g t u i v j n most).g, n - (crossD g t u i v j n most).want, most - (crossD g t u i v j n most).left, 0)
def takeO (g : Led) (b : Int) (u : ByteArray) (i : Int) (v : ByteArray) (j n most : Int) : Led × Int × Int × Int :=
  if ¬ chkO g = 0 then (led0, 0, 0, chkO g) else if (findA g.accs b).2 = false then (led0, 0, 0, 67) else
  if ¬ (crossF g b u i v j n most).2.2.2 = 0 then (led0, 0, 0, (crossF g b u i v j n most).2.2.2) else
  if ¬ (debitF (crossF g b u i v j n most).1 b v j (crossF g b u i v j n most).2.2.1).2 = 0 then (led0, 0, 0, (debitF (crossF g b u i v j n most).1 b v j (crossF g b u i v j n most).2.2.1).2) else
  if ¬ (creditF (debitF (crossF g b u i v j n most).1 b v j (crossF g b u i v j n most).2.2.1).1 b u i (crossF g b u i v j n most).2.1).2 = 0 then (led0, 0, 0, (creditF (debitF (crossF g b u i v j n most).1 b v j (crossF g b u i v j n most).2.2.1).1 b u i (crossF g b u i v j n most).2.1).2) else
  ((creditF (debitF (crossF g b u i v j n most).1 b v j (crossF g b u i v j n most).2.2.1).1 b u i (crossF g b u i v j n most).2.1).1, (crossF g b u i v j n most).2.1, (crossF g b u i v j n most).2.2.1, 0)

/-- An offer is right by itself, in a ledger with these accounts. -/
structure GoodO (all : List Acc) (x : Off) : Prop where
  seller : (findA all x.seller).2 = true
  id : 1 ≤ x.id
  sell : assetB x.sc x.si = true
  buy : assetB x.bc x.bi = true
  two : eqT x.sc x.si x.bc x.bi = false
  amt : 1 ≤ x.amt ∧ x.amt ≤ 1000000000000
  num : 1 ≤ x.num ∧ x.num ≤ 1000000
  den : 1 ≤ x.den ∧ x.den ≤ 1000000
  low : redF x.num x.den = (x.num, x.den)
theorem GoodO.price {all : List Acc} {x : Off} (h : GoodO all x) : priceB x.num x.den = true := price_iff.2 ⟨h.num, h.den⟩
structure RightO (g : Led) : Prop where
  right : RightG g
  len : g.offs.length ≤ 40
  head : headOk g = true
  good : ∀ x ∈ g.offs, GoodO g.accs x
  next : ∀ x ∈ g.offs, x.id < g.nid
  asc : (g.offs.map Off.id).Pairwise (· < ·)
theorem redF_pos {n d : Int} (h : ¬ (redF n d).1 = 0) : priceB n d = true := by
  cases e : priceB n d with
  | true => rfl
  | false => unfold redF at h; rw [if_neg (by simp [e])] at h; exact absurd rfl h
theorem offsOk_iff (g : Led) (l : List Off) : ∀ p, offsOk g p l = true ↔ (∀ x ∈ l, GoodO g.accs x ∧ x.id < g.nid) ∧ (l.map Off.id).Pairwise (· < ·) ∧ ∀ q, p = some q → ∀ x ∈ l, q.id < x.id := by
  induction l with
  | nil => intro p; simp [offsOk]
  | cons x r ih =>
    intro p
    simp only [offsOk, Bool.and_eq_true, ih, off_iff]
    constructor
    · rintro ⟨⟨h1, h2, h3, h4, h5, h6, h7, h8, h9, h10, h11, h12⟩, h13, h14, h15⟩
      have hp := redF_pos h10
      have hp2 := price_iff.1 hp
      refine ⟨fun y hy => ?_, ?_, fun q hq y hy => ?_⟩
      · rcases List.mem_cons.1 hy with rfl | hy
        · exact ⟨⟨h1, h2, h5, h6, h7, ⟨h8, (okA_iff.1 h9).2⟩, hp2.1, hp2.2, Prod.ext h11 h12⟩, h3⟩
        · exact h13 y hy
      · simp only [List.map_cons, List.pairwise_cons]
        refine ⟨fun b hb => ?_, h14⟩
        obtain ⟨y, hy, rfl⟩ := List.mem_map.1 hb
        exact h15 x rfl y hy
      · subst hq
        have h2' : q.id < x.id := by simpa [leP] using h4
        rcases List.mem_cons.1 hy with rfl | hy
        · exact h2'
        · have := h15 x rfl y hy; omega
    · rintro ⟨h1, h2, h3⟩
      obtain ⟨g1, g2⟩ := h1 x (by simp)
      simp only [List.map_cons, List.pairwise_cons] at h2
      refine ⟨⟨g1.seller, g1.id, g2, ?_, g1.sell, g1.buy, g1.two, g1.amt.1, okA_iff.2 (by have := g1.amt; omega), by rw [g1.low]; have := g1.num; dsimp only; omega, by rw [g1.low], by rw [g1.low]⟩, fun y hy => h1 y (by simp [hy]), h2.2, fun q hq y hy => ?_⟩
      · cases p with
        | none => rfl
        | some q => simpa [leP] using h3 q rfl x (by simp)
      · cases hq; exact h2.1 _ (List.mem_map.2 ⟨y, hy, rfl⟩)
theorem chkO_zero {g : Led} : chkO g = 0 ↔ RightO g := by
  constructor
  · intro h
    obtain ⟨h1, h2, h3, h4⟩ := chkO_head h
    obtain ⟨g1, g2, _⟩ := (offsOk_iff g g.offs none).1 h4
    exact ⟨chkL_zero.1 h1, h2, h3, fun x hx => (g1 x hx).1, fun x hx => (g1 x hx).2, g2⟩
  · intro h
    have h4 := (offsOk_iff g g.offs none).2 ⟨fun x hx => ⟨h.good x hx, h.next x hx⟩, h.asc, fun q hq => (by cases hq)⟩
    have h1 := chkL_zero.2 h.right
    have h2 := h.len
    unfold chkO
    rw [if_neg (by simp [h1]), if_neg (by omega), if_pos ⟨h.head, h4⟩]

theorem oid_inj {l : List Off} (h : (l.map Off.id).Pairwise (· < ·)) {j k : Nat} (hj : j < l.length) (hk : k < l.length) (e : (nth l j).id = (nth l k).id) : j = k := by
  rw [List.pairwise_iff_getElem] at h
  rw [nth_getElem l j hj, nth_getElem l k hk] at e
  rcases Nat.lt_trichotomy j k with q | q | q
  · have := h j k (by simpa using hj) (by simpa using hk) q; simp only [List.getElem_map] at this; omega
  · exact q
  · have := h k j (by simpa using hk) (by simpa using hj) q; simp only [List.getElem_map] at this; omega
theorem idxO_cases (l : List Off) (i : Int) : (idxO l i = -1 ∧ ∀ x ∈ l, ¬ x.id = i) ∨ ∃ j : Nat, j < l.length ∧ idxO l i = (j : Int) ∧ (nth l j).id = i := by
  rcases idxF_spec (hasOff i) l 0 with ⟨h1, h2⟩ | ⟨j, j1, j2, j3, _⟩
  · exact .inl ⟨h1, fun x hx e => by have := h2 x hx; simp [hasOff, e] at this⟩
  · exact .inr ⟨j, j1, by unfold idxO; rw [j2]; simp, by simpa [hasOff] using j3⟩
theorem idxO_at {l : List Off} (h : (l.map Off.id).Pairwise (· < ·)) {j : Nat} (hj : j < l.length) : idxO l (nth l j).id = (j : Int) := by
  rcases idxO_cases l (nth l j).id with ⟨_, h2⟩ | ⟨k, k1, k2, k3⟩
  · exact absurd rfl (h2 _ (nth_mem l j hj))
  · rw [k2, oid_inj h k1 hj k3]

theorem set_id {α : Type} [Inhabited α] (l : List α) (n : Nat) : l.set n (nth l n) = l := by
  by_cases h : n < l.length
  · exact set_same l h
  · exact List.set_eq_of_length_le (by omega)
theorem addL_zero (g : Led) (a : Int) (u : ByteArray) (i : Int) : addL g a u i 0 = g := by
  unfold addL
  split
  · rw [Int.add_zero]; show { g with accs := g.accs.set _ (nth g.accs _) } = g; rw [set_id]
  · split
    · rfl
    · rw [Int.add_zero]; show { g with lins := g.lins.set _ (nth g.lins _) } = g; rw [set_id]

/-- What a price asks, rounded up. -/
def ceilP (x : Off) (n : Int) : Int := (n * x.num + (x.den - 1)) / x.den
theorem ceil_bd {x : Off} (hd : 1 ≤ x.den) (n : Int) : n * x.num ≤ ceilP x n * x.den ∧ ceilP x n * x.den ≤ n * x.num + (x.den - 1) := by
  unfold ceilP
  have h1 := Int.mul_ediv_add_emod (n * x.num + (x.den - 1)) x.den
  have h2 := Int.emod_nonneg (n * x.num + (x.den - 1)) (show x.den ≠ 0 by omega)
  have h3 := Int.emod_lt_of_pos (n * x.num + (x.den - 1)) (show 0 < x.den by omega)
  rw [Int.mul_comm] at h1
  omega
theorem ceil_le {x : Off} (hd : 1 ≤ x.den) {n m : Int} : ceilP x n ≤ m ↔ n * x.num ≤ m * x.den := by
  have h := ceil_bd hd n
  constructor
  · intro h1
    have := Int.mul_le_mul_of_nonneg_right h1 (show 0 ≤ x.den by omega)
    omega
  · intro h1
    refine Classical.byContradiction fun hn => ?_
    have h2 : m + 1 ≤ ceilP x n := by omega
    have := Int.mul_le_mul_of_nonneg_right h2 (show 0 ≤ x.den by omega)
    rw [Int.add_mul] at this
    omega
theorem ceil_nonneg {x : Off} (hd : 1 ≤ x.den) (hn : 0 ≤ x.num) {n : Int} (h : 0 ≤ n) : 0 ≤ ceilP x n := by
  unfold ceilP
  have := Int.mul_nonneg h hn
  exact Int.ediv_nonneg (by omega) (by omega)
theorem le_quo {x : Off} (hn : 1 ≤ x.num) {n m : Int} : n ≤ m * x.den / x.num ↔ n * x.num ≤ m * x.den := Int.le_ediv_iff_mul_le (by omega)
theorem cost_eq {all : List Acc} {x : Off} (h : GoodO all x) {n : Int} (n0 : 0 ≤ n) (n1 : n ≤ 1000000000000) (hc : ceilP x n ≤ 1000000000000) : costF x n = (ceilP x n, 0) := by
  have h0 := ceil_nonneg (x := x) h.den.1 (by have := h.num; omega) n0
  have e1 : (okA n && priceB x.num x.den) = true := by rw [h.price, okA_iff.2 ⟨n0, n1⟩]; rfl
  have e2 : okA (ceilP x n) = true := okA_iff.2 ⟨h0, hc⟩
  unfold ceilP at e2
  unfold costF upF scaleF
  rw [if_pos e1]
  unfold allA
  simp only [List.all_cons, List.all_nil, e2, Bool.and_true, if_true]
  rfl
theorem within_le {x : Off} (hp : priceB x.num x.den = true) {m n : Int} (h : n ≤ withinF x m) : n ≤ 1000000000000 ∧ ceilP x n ≤ m := by
  unfold withinF at h
  rw [if_pos hp] at h
  have hb := min2_le 1000000000000 (m * x.den / x.num)
  have hp2 := price_iff.1 hp
  exact ⟨by omega, (ceil_le hp2.2.1).2 ((le_quo hp2.1.1).1 (by omega))⟩
theorem within_nonneg {x : Off} (hp : priceB x.num x.den = true) {m : Int} (h : 0 ≤ m) : 0 ≤ withinF x m := by
  unfold withinF
  rw [if_pos hp]
  have hp2 := price_iff.1 hp
  have hb := min2_le 1000000000000 (m * x.den / x.num)
  have := Int.ediv_nonneg (Int.mul_nonneg h (show 0 ≤ x.den by omega)) (show 0 ≤ x.num by omega)
  omega
theorem room_zero {g : Led} (h : RightG g) {a : Int} {u : ByteArray} {i : Int} (hf : (findA g.accs a).2 = true) (ha : assetB u i = true) (hp : (lookF g a u i).2.2 = false) : (lookF g a u i).1 = 0 ∧ (lookF g a u i).2.1 = 0 := by
  rcases look_cases h hf ha with ⟨_, _, _, j, hj, _, _, e⟩ | ⟨_, _, _, e⟩ | ⟨_, _, _, j, hj, _, _, _, _, e⟩ | ⟨_, _, _, e⟩ <;> rw [e] at hp ⊢ <;> simp at hp ⊢
/-- What can be had of an offer: the seller has it, and can take what it costs. -/
theorem able_bd {g : Led} (h : RightG g) {x : Off} (hx : GoodO g.accs x) {n : Int} (n0 : 0 < n) (hn : n ≤ ablP g x) :
    n ≤ x.amt ∧ n ≤ (lookF g x.seller x.sc x.si).1 ∧ (lookF g x.seller x.sc x.si).2.2 = true ∧ ceilP x n ≤ (lookF g x.seller x.bc x.bi).2.1 ∧ (lookF g x.seller x.bc x.bi).2.2 = true ∧ 0 < ceilP x n := by
  obtain ⟨e1, _⟩ := held_look h x.seller x.sc x.si
  obtain ⟨_, e2⟩ := held_look h x.seller x.bc x.bi
  unfold ablP at hn
  rw [e1, e2] at hn
  have b1 := max2_ge 0 (min2 (min2 x.amt (lookF g x.seller x.sc x.si).1) (withinF x (lookF g x.seller x.bc x.bi).2.1))
  have b2 := min2_le (min2 x.amt (lookF g x.seller x.sc x.si).1) (withinF x (lookF g x.seller x.bc x.bi).2.1)
  have b3 := min2_le x.amt (lookF g x.seller x.sc x.si).1
  obtain ⟨w1, w2⟩ := within_le hx.price (m := (lookF g x.seller x.bc x.bi).2.1) (n := n) (by omega)
  have hc : 0 < ceilP x n := by
    have h1 := (ceil_bd hx.den.1 n).1
    have h2 := Int.mul_le_mul_of_nonneg_left hx.num.1 (show 0 ≤ n by omega)
    refine Classical.byContradiction fun hq => ?_
    have := Int.mul_le_mul_of_nonneg_right (show ceilP x n ≤ 0 by omega) (show 0 ≤ x.den by have := hx.den; omega)
    omega
  refine ⟨by omega, by omega, ?_, w2, ?_, hc⟩
  · cases hp : (lookF g x.seller x.sc x.si).2.2 with
    | true => rfl
    | false => have := room_zero h hx.seller hx.sell hp; omega
  · cases hp : (lookF g x.seller x.bc x.bi).2.2 with
    | true => rfl
    | false => have := room_zero h hx.seller hx.buy hp; omega
/-- The ledger behind a sale. -/
def soldG (g : Led) (x : Off) (n : Int) : Led := addL (addL g x.seller x.sc x.si (-n)) x.seller x.bc x.bi (ceilP x n)
theorem sold_zero (g : Led) (x : Off) (hd : 1 ≤ x.den) : soldG g x 0 = g ∧ ceilP x 0 = 0 := by
  have e : ceilP x 0 = 0 := by
    unfold ceilP
    rw [Int.zero_mul, Int.zero_add]
    exact Int.ediv_eq_zero_of_lt (by omega) (by omega)
  exact ⟨by unfold soldG; rw [e, addL_zero, Int.neg_zero, addL_zero], e⟩
theorem ne_pair {x : Off} (h : eqT x.sc x.si x.bc x.bi = false) : ¬ (x.bc = x.sc ∧ x.bi = x.si) := fun ⟨e1, e2⟩ => by
  rw [e1, e2, Bool.eq_false_iff] at h
  exact h (eqT_iff.2 ⟨rfl, rfl⟩)
theorem sale {g : Led} (h : RightG g) {x : Off} (hx : GoodO g.accs x) {n : Int} (n0 : 0 < n) (hn : n ≤ ablP g x) :
    debitF g x.seller x.sc x.si n = (addL g x.seller x.sc x.si (-n), 0) ∧ creditF (addL g x.seller x.sc x.si (-n)) x.seller x.bc x.bi (ceilP x n) = (soldG g x n, 0) ∧ costF x n = (ceilP x n, 0) ∧ ceilP x n ≤ 1000000000000 ∧ 0 < ceilP x n ∧
    RightG (addL g x.seller x.sc x.si (-n)) ∧ (addL g x.seller x.sc x.si (-n)).offs = g.offs ∧ (addL g x.seller x.sc x.si (-n)).accs.length = g.accs.length ∧ (addL g x.seller x.sc x.si (-n)).lins.length = g.lins.length := by
  obtain ⟨a1, a2, a3, a4, a5, a6⟩ := able_bd h hx n0 hn
  have hbd := look_bd h hx.seller hx.sell
  have hbd2 := look_bd h hx.seller hx.buy
  have hk : okA n = true := okA_iff.2 (by have := hx.amt; omega)
  have hc0 := ceil_nonneg (x := x) hx.den.1 (by have := hx.num; omega) (show 0 ≤ n by omega)
  have hk2 : okA (ceilP x n) = true := okA_iff.2 (by omega)
  obtain ⟨s1, s2, s3, s4, s5, s6, s7, s8, s9, s10, s11, s12, s13, s14, _⟩ := addL_spec h hx.seller hx.sell (m := -n) a3 (by omega) (by omega)
  have e6 := s6 x.seller x.bc x.bi (fun ⟨_, e1, e2⟩ => ne_pair hx.two ⟨e1, e2⟩)
  refine ⟨by rw [debit_eq h hx.seller hx.sell hk, if_pos ⟨a3, a2⟩], ?_, cost_eq hx (by omega) (by have := hx.amt; omega) (by omega), by omega, a6, s1, s12, s13, s14⟩
  rw [credit_eq s1 s2 hx.buy hk2, e6, if_pos ⟨a5, a4⟩]
  rfl
end Go.Proofs.YtgebgpdoddjfhaaGreat
