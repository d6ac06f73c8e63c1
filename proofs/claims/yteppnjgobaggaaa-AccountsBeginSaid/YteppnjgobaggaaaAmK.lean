/- Nothing is claimed here: parts of a slice. -/
import Derived.Test.YteppnjgobaggaaaAmJ
namespace Go.Am
set_option linter.unusedSimpArgs false
set_option linter.unusedVariables false
set_option linter.unnecessarySimpa false
set_option linter.unusedSectionVars false
set_option maxRecDepth 100000
open Go Go.RowKit Go.Proofs.Grow

section
variable {P : Program} {tbl : List (Nat × TI)} {o : Oper} {T : Nat → Option AV} {M : Nat → Option AO}
def bdV (x : Option Value) (dflt n : Nat) : Prop := (x = none ∧ n = dflt) ∨ ∃ k, x = some (.int k (n : Int))
theorem run_slice (htb : TOK P tbl) {t e : TypeId} {i j : TI} (ht : lk tbl t = some i) (hs : i.isS = true) (he : i.el = some e) (hj : lk tbl e = some j) {lo hi : Option Value} {n cap a b : Nat} (ad : Option Addr) (hlo : bdV lo 0 a) (hhi : bdV hi n b) (hab : a ≤ b) (hb : b ≤ n) (hn : n ≤ cap) (w : World) :
    (Instr.sliceAt t (.slice ad n cap) lo hi none).run P w = .ok (.slice (if cap = a then ad else ad.map (·.add (a * j.size))) (b - a) (cap - a)) w := by
  have h := slice_desc (htb _ _ ht) hs he
  have hz := run_size (P := P) (w := w) (htb _ _ hj)
  have h1 : (b : Int) ≤ (cap : Int) := by omega
  have h2 : (a : Int) ≤ (b : Int) := by omega
  have h3 : (a : Int) ≤ (n : Int) := by omega
  have h4 : b ≤ cap := by omega
  have h5 : ¬ cap < b := by omega
  have h6 : ¬ b < a := by omega
  rcases hlo with ⟨rfl, rfl⟩ | ⟨k, rfl⟩ <;> rcases hhi with ⟨rfl, rfl⟩ | ⟨k', rfl⟩ <;>
    simp [Instr.sliceAt, Instr.slice, Instr.sliceBounds, Instr.sliceBound, asIntOf, run_underlying h, hz, h1, h2, h3, hab, h4, h5, h6]
theorem VD.slice {H : Nat → Prop} {w : World} {sz : Nat} {rs : List (List D)} {u : Value} (h : VD H w (.rows sz rs) u) {a b : Nat} (hab : a ≤ b) (hb : b ≤ rs.length) : ∃ ad cap, u = .slice ad rs.length cap ∧ rs.length ≤ cap ∧ VD H w (.rows sz ((rs.take b).drop a)) (.slice (if cap = a then ad else ad.map (·.add (a * sz))) (b - a) (cap - a)) := by
  cases h with
  | nil sz ad cap hc =>
    obtain rfl : b = 0 := by simpa using hb
    obtain rfl : a = 0 := by omega
    refine ⟨ad, cap, rfl, Nat.zero_le _, ?_⟩
    refine .nil sz _ _ fun hn => ?_
    split at hn
    · rename_i e; simp [e]
    · cases ad with
      | none => exact hc rfl
      | some x => cases hn
  | rows _ _ blk off cap vs hne hcap hlen hb2 hlt hsz hcell hone hval =>
    refine ⟨_, cap, rfl, hcap, ?_⟩
    have hl : ((rs.take b).drop a).length = b - a := by simp; omega
    by_cases e : a = b
    · subst e
      have e1 : (rs.take a).drop a = [] := by simp
      rw [e1, Nat.sub_self]
      exact .nil sz _ _ fun hn => by split at hn <;> cases hn
    · have hg : ∀ (i : Nat) (r : List D), ((rs.take b).drop a)[i]? = some r → rs[a + i]? = some r := by
        intro i r hr
        rw [List.getElem?_drop] at hr
        by_cases hi : a + i < b
        · rwa [List.getElem?_take_of_lt hi] at hr
        · rw [List.getElem?_eq_none (by simp; omega)] at hr; cases hr
      rw [if_neg (by omega), ← hl]
      have ead : (some (⟨blk, off, none⟩ : Addr)).map (·.add (a * sz)) = some ⟨blk, off + a * sz, none⟩ := by
        simp only [Option.map_some, Addr.add]
        split
        · rename_i e0; rw [e0]; rfl
        · rfl
      rw [ead]
      refine .rows sz _ blk (off + a * sz) (cap - a) (fun i j => vs (a + i) j) (fun e0 => ?_) (by omega) (by omega) hb2 hlt (fun i r hr => hsz _ r (hg i r hr)) (fun i r j c hr hc => ?_) (fun i r j c hr hc => hone _ r j c (hg i r hr) hc) (fun i r j c hr hc => hval _ r j c (hg i r hr) hc)
      · rw [e0] at hl; simp at hl; omega
      · have := hcell _ r j c (hg i r hr) hc
        rw [← this]
        congr 2
        rw [Nat.add_mul]; omega
def bdA (T : Nat → Option AV) (x : Option Operand) (dflt n : Nat) : Prop := (x = none ∧ n = dflt) ∨ ∃ y k, x = some y ∧ evA T y = some (.d (.v (.int k (n : Int))))
theorem bdA_q {y : Operand} {k : IntKind} {q : Int} {d : Nat} (hy : evA T y = some (.d (.v (.int k q)))) (h0 : 0 ≤ q) : bdA T (some y) d q.toNat := .inr ⟨y, k, rfl, by rw [hy, Int.toNat_of_nonneg h0]⟩
theorem step_slice (htb : TOK P tbl) {ty e : TypeId} {x : Operand} {lo hi : Option Operand} {i j : TI} {sz a b : Nat} {rs : List (List D)} (ho : o.op = .slice ty x lo hi none) (ht : lk tbl ty = some i) (hs : i.isS = true) (he : i.el = some e) (hj : lk tbl e = some j) (hsz : j.size = sz)
    (hx : evA T x = some (.d (.rows sz rs))) (hlo : bdA T lo 0 a) (hhi : bdA T hi rs.length b) (hab : a ≤ b) (hb : b ≤ rs.length) : StepOK P o T M ⟨.d (.rows sz ((rs.take b).drop a)), [], []⟩ :=
  step_read [] fun cx μ T' M' ac w h hT hM => by
    subst hsz
    have h1 := h.ev (x := x) hT (by simp [ho, Op.operands]) hx
    have hl : bdV (lo.map ac.eval) 0 a := by
      rcases hlo with ⟨rfl, rfl⟩ | ⟨y, k, rfl, hy⟩
      · exact .inl ⟨rfl, rfl⟩
      · exact .inr ⟨k, by simp [(h.ev (x := y) hT (by simp [ho, Op.operands]) hy).val]⟩
    have hh : bdV (hi.map ac.eval) rs.length b := by
      rcases hhi with ⟨rfl, rfl⟩ | ⟨y, k, rfl, hy⟩
      · exact .inl ⟨rfl, rfl⟩
      · exact .inr ⟨k, by simp [(h.ev (x := y) hT (by simp [ho, Op.operands]) hy).val]⟩
    generalize hv : ac.eval x = v at h1
    cases h1 with
    | d h1 =>
      obtain ⟨ad, cap, rfl, hcap, hres⟩ := h1.slice hab hb
      refine ⟨_, ?_, .d hres⟩
      simp only [execOp, ho, hv, Option.map_none, Sem.run_bind, run_slice htb ht hs he hj ad hl hh hab hb hcap, Result.andThen_ok, Sem.run_pure]
end
end Go.Am
