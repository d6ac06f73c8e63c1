/- Contracts of the program's functions on offers: taking. -/
import Derived.Test.YteppnjgobaggaaaGreatWO5
import Derived.Test.YteppnjgobaggaaaGreatWG
import Derived.Test.YteppnjgobaggaaaGreatPM
import Derived.Test.YteppnjgobaggaaaGreatPlainU
import Derived.Test.YteppnjgobaggaaaGreatAmY
import Derived.Test.YteppnjgobaggaaaGreatWR5
import Derived.Test.YteppnjgobaggaaaGreatWRx
import Derived.Test.YteppnjgobaggaaaGreatWR3
import Derived.Test.YteppnjgobaggaaaGreatRawX
namespace Go.Proofs.YteppnjgobaggaaaGreat
set_option linter.unusedSimpArgs false
set_option linter.unusedVariables false
set_option linter.unnecessarySimpa false
set_option linter.unusedSectionVars false
set_option maxRecDepth 100000
open Go Go.RowKit Go.Am Go.Proofs.Grow

theorem cross_pe (g : Led) (t : Int) (u : ByteArray) (i : Int) (v : ByteArray) (j n most : Int) (x : Led) (p c e : Int) (hl : g.lins.length ≤ 1000) (ha : g.accs.length ≤ 1000) (ho : g.offs.length ≤ 12) (he : crossF g t u i v j n most = (x, p, c, e)) :
    FnM Tryz.prog 27 [] [aG g, vI t, aT u i, aT v j, vI n, vI most] (.tup [aG x, vI p, vI c, vI e]) [] := by
  have := cross_pm g t u i v j n most hl ha ho
  rwa [he] at this
theorem debit_pq (g : Led) (a : Int) (u : ByteArray) (i n : Int) (x : Led) (e : Int) (hl : g.lins.length ≤ 1000) (ha : g.accs.length ≤ 1000) (ho : g.offs.length ≤ 1000) (he : debitF g a u i n = (x, e)) : FnM Tryz.prog 65 [] [aG g, vI a, aT u i, vI n] (.tup [aG x, vI e]) [] := by
  have := debit_pm g a u i n hl ha ho
  rwa [he] at this
theorem credit_pq (g : Led) (a : Int) (u : ByteArray) (i n : Int) (x : Led) (e : Int) (hl : g.lins.length ≤ 1000) (ha : g.accs.length ≤ 1000) (ho : g.offs.length ≤ 1000) (he : creditF g a u i n = (x, e)) : FnM Tryz.prog 66 [] [aG g, vI a, aT u i, vI n] (.tup [aG x, vI e]) [] := by
  have := credit_pm g a u i n hl ha ho
  rwa [he] at this
theorem addL_lens (g : Led) (a : Int) (u : ByteArray) (i n : Int) : (addL g a u i n).lins.length = g.lins.length ∧ (addL g a u i n).accs.length = g.accs.length ∧ (addL g a u i n).offs.length = g.offs.length := by
  unfold addL
  split
  · simp
  · split <;> simp
theorem debit_lens {g : Led} {a : Int} {u : ByteArray} {i n : Int} {x : Led} {e : Int} (he : debitF g a u i n = (x, e)) : x.lins.length ≤ g.lins.length ∧ x.accs.length ≤ g.accs.length ∧ x.offs.length ≤ g.offs.length := by
  have hx : x = (debitF g a u i n).1 := by rw [he]
  obtain ⟨h1, h2, h3⟩ := addL_lens g a u i (-n)
  subst hx
  unfold debitF
  split
  · simp [led0]
  · split
    · simp [led0]
    · split
      · simp [led0]
      · dsimp only; omega
theorem credit_lens {g : Led} {a : Int} {u : ByteArray} {i n : Int} {x : Led} {e : Int} (he : creditF g a u i n = (x, e)) : x.lins.length ≤ g.lins.length ∧ x.accs.length ≤ g.accs.length ∧ x.offs.length ≤ g.offs.length := by
  have hx : x = (creditF g a u i n).1 := by rw [he]
  obtain ⟨h1, h2, h3⟩ := addL_lens g a u i n
  subst hx
  unfold creditF
  split
  · simp [led0]
  · split
    · split
      · simp [led0]
      · dsimp only; omega
    · split
      · simp [led0]
      · dsimp only; omega
theorem cross_lens {g : Led} {t : Int} {u : ByteArray} {i : Int} {v : ByteArray} {j n most : Int} {x : Led} {p c e : Int} (he : crossF g t u i v j n most = (x, p, c, e)) : x.lins.length ≤ g.lins.length ∧ x.accs.length ≤ g.accs.length ∧ x.offs.length ≤ g.offs.length := by
  have hx : x = (crossF g t u i v j n most).1 := by rw [he]
  subst hx
  unfold crossF
  split
  · simp [led0]
  · rename_i h1
    split
    · simp [led0]
    · split
      · simp [led0]
      · rename_i h3
        simp only [not_or, Bool.not_eq_false] at h3
        obtain ⟨hM, _⟩ := moved_all (chkO_zero.1 (Classical.not_not.1 h1)) (u := u) (i := i) (v := v) (j := j) (t := t) (okA_iff.1 h3.1).1 (okA_iff.1 h3.2).1
        have h1 := hM.la
        have h2 := hM.ll
        have h3 := hM.lo
        dsimp only
        omega
set_option maxHeartbeats 4000000 in
theorem take_pm (g : Led) (b : Int) (u : ByteArray) (i : Int) (v : ByteArray) (j n most : Int) (hl : g.lins.length ≤ 1000) (ha : g.accs.length ≤ 1000) (ho : g.offs.length ≤ 12) :
    FnM Tryz.prog 18 [] [aG g, vI b, aT u i, aT v j, vI n, vI most] (.tup [aG (takeO g b u i v j n most).1, vI (takeO g b u i v j n most).2.1, vI (takeO g b u i v j n most).2.2.1, vI (takeO g b u i v j n most).2.2.2]) [] := by
  refine FnM.of htb Tryz.func18 rfl rfl rfl rfl rfl fun cx hN h0 => ?_
  unfold takeO
  by_cases hc : chkO g = 0
  case neg =>
    have hd : (chkO g != 0) = true := by simp [hc]
    rw [if_pos hc]
    (repeat' (first | (refine nx ?_) | (refine WD_unk (by exact rfl) ?_; ((refine WD_tf (by exact rfl) (by exact rfl) ?_ ?_) <;> (intro hb; (fail_if_success (with_reducible injection hb)); rw [hb]; (try simp only [List.length_map] at hb)))) | (refine WD_call (by exact rfl) ?_; first | (refine WD_c0 (chkO_pm _ ?_ ?_ ?_) ?_; (exact hyp); (exact hyp); (exact hyp))) | ((refine WD_tf (by exact rfl) (by exact rfl) ?_ ?_) <;> (intro hb; (fail_if_success (with_reducible injection hb)); rw [hb]; (try simp only [List.length_map] at hb))) | (((with_reducible apply gC2); exact rfl) <;> (intro hb; rw [hb]))))
    (exact glV [(12, .ptr 12 0), (13, vI 0), (14, vI 0), (15, vI (chkO g))] [(12, .box 30 (cellsOf (aG led0)))] (LeV []))
  have hd : (chkO g != 0) = false := by simp [hc]
  rw [if_neg (by simp [hc])]
  cases hf : (findA g.accs b).2 with
  | false =>
    have hf1 : (!(findA g.accs b).2) = true := by simp [hf]
    rw [if_pos rfl]
    (repeat' (first | (refine nx ?_) | (refine WD_unk (by exact rfl) ?_; ((refine WD_tf (by exact rfl) (by exact rfl) ?_ ?_) <;> (intro hb; (fail_if_success (with_reducible injection hb)); rw [hb]; (try simp only [List.length_map] at hb)))) | (refine WD_call (by exact rfl) ?_; first | (refine WD_c0 (chkO_pm _ ?_ ?_ ?_) ?_; (exact hyp); (exact hyp); (exact hyp)) | (refine WD_c0 (findA_pm _ _ ?_) ?_; (exact hyp))) | ((refine WD_tf (by exact rfl) (by exact rfl) ?_ ?_) <;> (intro hb; (fail_if_success (with_reducible injection hb)); rw [hb]; (try simp only [List.length_map] at hb))) | (((with_reducible apply gC2); exact rfl) <;> (intro hb; rw [hb]))))
    (exact glV [(12, .ptr 12 0), (13, vI 0), (14, vI 0), (15, vI 67)] [(12, .box 30 (cellsOf (aG led0)))] (LeV []))
  | true =>
    have hf1 : (!(findA g.accs b).2) = false := by simp [hf]
    rw [if_neg (by simp)]
    rcases hX : crossF g b u i v j n most with ⟨x, p, c, e⟩
    obtain ⟨x1, x2, x3⟩ := cross_lens hX
    dsimp only
    by_cases he : e = 0
    case neg =>
      have e1 : (e == 0) = false := by simp [he]
      have e2 : (e != 0) = true := by simp [he]
      rw [if_pos he]
      (repeat' (first | (refine nx ?_) | (refine WD_unk (by exact rfl) ?_; ((refine WD_tf (by exact rfl) (by exact rfl) ?_ ?_) <;> (intro hb; (fail_if_success (with_reducible injection hb)); rw [hb]; (try simp only [List.length_map] at hb)))) | (refine WD_call (by exact rfl) ?_; first | (refine WD_c0 (chkO_pm _ ?_ ?_ ?_) ?_; (exact hyp); (exact hyp); (exact hyp)) | (refine WD_c0 (findA_pm _ _ ?_) ?_; (exact hyp)) | (refine WD_e0 (fun h => cross_pe _ _ _ _ _ _ _ _ _ _ _ _ ?_ ?_ ?_ h) ?_; (exact hyp); (exact hyp); (exact hyp))) | ((refine WD_tf (by exact rfl) (by exact rfl) ?_ ?_) <;> (intro hb; (fail_if_success (with_reducible injection hb)); rw [hb]; (try simp only [List.length_map] at hb))) | (((with_reducible apply gC2); exact rfl) <;> (intro hb; rw [hb]))))
      (exact glV [(12, .ptr 12 0), (13, vI 0), (14, vI 0), (15, vI e)] [(12, .box 30 (cellsOf (aG led0)))] (LeV []))
    subst he
    rw [if_neg (by simp)]
    rcases hD : debitF x b v j c with ⟨y, f⟩
    obtain ⟨y1, y2, y3⟩ := debit_lens hD
    dsimp only
    have l1 : x.lins.length ≤ 1000 := by omega
    have l2 : x.accs.length ≤ 1000 := by omega
    have l3 : x.offs.length ≤ 1000 := by omega
    by_cases hf0 : f = 0
    case neg =>
      have e1 : (f == 0) = false := by simp [hf0]
      have e2 : (f != 0) = true := by simp [hf0]
      rw [if_pos hf0]
      (repeat' (first | (refine nx ?_) | (refine WD_unk (by exact rfl) ?_; ((refine WD_tf (by exact rfl) (by exact rfl) ?_ ?_) <;> (intro hb; (fail_if_success (with_reducible injection hb)); rw [hb]; (try simp only [List.length_map] at hb)))) | (refine WD_call (by exact rfl) ?_; first | (refine WD_c0 (chkO_pm _ ?_ ?_ ?_) ?_; (exact hyp); (exact hyp); (exact hyp)) | (refine WD_c0 (findA_pm _ _ ?_) ?_; (exact hyp)) | (refine WD_e0 (fun h => cross_pe _ _ _ _ _ _ _ _ _ _ _ _ ?_ ?_ ?_ h) ?_; (exact hyp); (exact hyp); (exact hyp)) | (refine WD_e0 (fun h => debit_pq _ _ _ _ _ _ _ ?_ ?_ ?_ h) ?_; (exact hyp); (exact hyp); (exact hyp))) | ((refine WD_tf (by exact rfl) (by exact rfl) ?_ ?_) <;> (intro hb; (fail_if_success (with_reducible injection hb)); rw [hb]; (try simp only [List.length_map] at hb))) | (((with_reducible apply gC2); exact rfl) <;> (intro hb; rw [hb]))))
      (exact glV [(12, .ptr 12 0), (13, vI 0), (14, vI 0), (15, vI f)] [(12, .box 30 (cellsOf (aG led0)))] (LeV []))
    subst hf0
    rw [if_neg (by simp)]
    rcases hC : creditF y b u i p with ⟨z, h⟩
    dsimp only
    have l4 : y.lins.length ≤ 1000 := by omega
    have l5 : y.accs.length ≤ 1000 := by omega
    have l6 : y.offs.length ≤ 1000 := by omega
    by_cases hh : h = 0
    case neg =>
      have e2 : (h != 0) = true := by simp [hh]
      rw [if_pos hh]
      (repeat' (first | (refine nx ?_) | (refine WD_unk (by exact rfl) ?_; ((refine WD_tf (by exact rfl) (by exact rfl) ?_ ?_) <;> (intro hb; (fail_if_success (with_reducible injection hb)); rw [hb]; (try simp only [List.length_map] at hb)))) | (refine WD_call (by exact rfl) ?_; first | (refine WD_c0 (chkO_pm _ ?_ ?_ ?_) ?_; (exact hyp); (exact hyp); (exact hyp)) | (refine WD_c0 (findA_pm _ _ ?_) ?_; (exact hyp)) | (refine WD_e0 (fun h => cross_pe _ _ _ _ _ _ _ _ _ _ _ _ ?_ ?_ ?_ h) ?_; (exact hyp); (exact hyp); (exact hyp)) | (refine WD_e0 (fun h => debit_pq _ _ _ _ _ _ _ ?_ ?_ ?_ h) ?_; (exact hyp); (exact hyp); (exact hyp)) | (refine WD_e0 (fun h => credit_pq _ _ _ _ _ _ _ ?_ ?_ ?_ h) ?_; (exact hyp); (exact hyp); (exact hyp))) | ((refine WD_tf (by exact rfl) (by exact rfl) ?_ ?_) <;> (intro hb; (fail_if_success (with_reducible injection hb)); rw [hb]; (try simp only [List.length_map] at hb))) | (((with_reducible apply gC2); exact rfl) <;> (intro hb; rw [hb]))))
      (exact glV [(12, .ptr 12 0), (13, vI 0), (14, vI 0), (15, vI h)] [(12, .box 30 (cellsOf (aG led0)))] (LeV []))
    subst hh
    rw [if_neg (by simp)]
    (repeat' (first | (refine nx ?_) | (refine WD_unk (by exact rfl) ?_; ((refine WD_tf (by exact rfl) (by exact rfl) ?_ ?_) <;> (intro hb; (fail_if_success (with_reducible injection hb)); rw [hb]; (try simp only [List.length_map] at hb)))) | (refine WD_call (by exact rfl) ?_; first | (refine WD_c0 (chkO_pm _ ?_ ?_ ?_) ?_; (exact hyp); (exact hyp); (exact hyp)) | (refine WD_c0 (findA_pm _ _ ?_) ?_; (exact hyp)) | (refine WD_e0 (fun h => cross_pe _ _ _ _ _ _ _ _ _ _ _ _ ?_ ?_ ?_ h) ?_; (exact hyp); (exact hyp); (exact hyp)) | (refine WD_e0 (fun h => debit_pq _ _ _ _ _ _ _ ?_ ?_ ?_ h) ?_; (exact hyp); (exact hyp); (exact hyp)) | (refine WD_e0 (fun h => credit_pq _ _ _ _ _ _ _ ?_ ?_ ?_ h) ?_; (exact hyp); (exact hyp); (exact hyp))) | ((refine WD_tf (by exact rfl) (by exact rfl) ?_ ?_) <;> (intro hb; (fail_if_success (with_reducible injection hb)); rw [hb]; (try simp only [List.length_map] at hb))) | (((with_reducible apply gC2); exact rfl) <;> (intro hb; rw [hb]))))
    (exact glV [(12, .ptr 12 0), (13, vI p), (14, vI c), (15, vI 0)] [(12, .box 30 (cellsOf (aG z)))] (LeV []))
theorem take_pe (g : Led) (b : Int) (u : ByteArray) (i : Int) (v : ByteArray) (j n most : Int) (x : Led) (p c e : Int) (hl : g.lins.length ≤ 1000) (ha : g.accs.length ≤ 1000) (ho : g.offs.length ≤ 12) (he : takeO g b u i v j n most = (x, p, c, e)) :
    FnM Tryz.prog 18 [] [aG g, vI b, aT u i, aT v j, vI n, vI most] (.tup [aG x, vI p, vI c, vI e]) [] := by
  have := take_pm g b u i v j n most hl ha ho
  rwa [he] at this
end Go.Proofs.YteppnjgobaggaaaGreat

/- The statements on offers: the example, and what all of them use. -/
namespace Go.Proofs.YteppnjgobaggaaaGreat
set_option linter.unusedSimpArgs false
set_option linter.unusedVariables false
set_option linter.unnecessarySimpa false
set_option linter.unusedSectionVars false
set_option maxRecDepth 100000
open Go Go.RowKit Go.Am Go.Proofs.Grow

theorem ledz_e (s : Sc) (t : Led × Sc) (hs : s.ok) (he : ledF s = t) : FnM Tryz.prog 16 [s.box] [.ptr 9000 0] (aG t.1) [t.2.box] := he ▸ led_m s hs
theorem Book_pe (g : Led) (u : ByteArray) (i : Int) (v : ByteArray) (j : Int) (l : List Int) (hl : g.lins.length ≤ 1000) (ha : g.accs.length ≤ 1000) (ho : g.offs.length ≤ 12) (he : bookI g u i v j = l) : FnM Tryz.prog 28 [] [aG g, aT u i, aT v j] (lI l) [] := he ▸ Book_pm g u i v j hl ha ho
theorem add_re (g : Led) (a : Int) (u : ByteArray) (i : Int) (v : ByteArray) (j n p q : Int) (x : Led) (k e : Int) (hl : g.lins.length ≤ 1000) (ha : g.accs.length ≤ 1000) (ho : g.offs.length ≤ 1000) (he : addO g a u i v j n p q = (x, k, e)) :
    FnM Tryz.prog 43 [] [aG g, vI a, aT u i, aT v j, vI n, vI p, vI q] (.tup [aG x, vI k, vI e]) [] := by
  have := add_rm g a u i v j n p q hl ha ho
  rwa [he] at this
abbrev bU : ByteArray := ⟨#[85, 83, 68]⟩
abbrev bN : ByteArray := ⟨#[]⟩
abbrev l21 : List Int := [2, 1]
def mk0 : Led := ⟨0, [⟨1, 5, 0⟩, ⟨2, 100, 0⟩], [⟨2, bU, 1, 0, 50⟩], [], 1, 0, 0⟩
def mk1 : Led := ⟨0, [⟨1, 5, 0⟩, ⟨2, 100, 0⟩], [⟨2, bU, 1, 0, 50⟩], [⟨1, 1, bU, 1, bN, 0, 10, 1, 1⟩], 2, 0, 0⟩
def mk2 : Led := ⟨0, [⟨1, 5, 0⟩, ⟨2, 100, 0⟩], [⟨2, bU, 1, 0, 50⟩], [⟨1, 1, bU, 1, bN, 0, 10, 1, 1⟩, ⟨2, 1, bU, 1, bN, 0, 10, 1, 2⟩], 3, 0, 0⟩
def mk3 : Led := ⟨0, [⟨1, 15, 0⟩, ⟨2, 90, 0⟩], [⟨2, bU, 1, 15, 50⟩], [⟨1, 1, bU, 1, bN, 0, 5, 1, 1⟩], 3, 0, 0⟩
theorem ex38 : addO mk0 1 bU 1 bN 0 10 1 1 = (mk1, 1, 0) ∧ addO mk1 1 bU 1 bN 0 10 1 2 = (mk2, 2, 0) ∧ takeO mk2 2 bU 1 bN 0 15 100 = (mk3, 15, 10, 0) ∧ bookI mk2 bU 1 bN 0 = l21 ∧ heldF mk3 2 bU 1 = 15 :=
  ⟨by kernel_rfl, by kernel_rfl, by kernel_rfl, by kernel_rfl, by kernel_rfl⟩
set_option maxHeartbeats 1000000 in
theorem market_m : FnM Tryz.prog 67 [] [] (aG mk2) [] := by
  refine FnM.of htb Tryz.func67 rfl rfl rfl rfl rfl fun cx hN h0 => ?_
  obtain ⟨e1, e2, _⟩ := ex38
  (repeat' (first | (refine nx ?_) | (refine WD_unk (by exact rfl) ?_; ((refine WD_tf (by exact rfl) (by exact rfl) ?_ ?_) <;> (intro hb; (fail_if_success (with_reducible injection hb)); rw [hb]; (try simp only [List.length_map] at hb)))) | (refine WD_call (by exact rfl) ?_; first | (refine WD_c0 (usd_m) ?_) | (refine WD_e0 (fun h => add_re (g := mk0) (x := mk1) _ _ _ _ _ _ _ _ _ _ ?_ ?_ ?_ h) ?_; (exact hypS); (exact hypS); (exact hypS)) | (refine WD_e0 (fun h => add_re (g := mk1) (x := mk2) _ _ _ _ _ _ _ _ _ _ ?_ ?_ ?_ h) ?_; (exact hypS); (exact hypS); (exact hypS))) | ((refine WD_tf (by exact rfl) (by exact rfl) ?_ ?_) <;> (intro hb; (fail_if_success (with_reducible injection hb)); rw [hb]; (try simp only [List.length_map] at hb))) | (((with_reducible apply gC2); exact rfl) <;> (intro hb; rw [hb]))))
  exact gE (.inr rfl) rfl rfl trivial
set_option maxHeartbeats 1000000 in
theorem sane38_m : FnM Tryz.prog 21 [] [] (vB true) [] := by
  refine FnM.of htb Tryz.func21 rfl rfl rfl rfl rfl fun cx hN h0 => ?_
  obtain ⟨_, _, e3, e4, e5⟩ := ex38
  have t2 : ((l21.length : Int) == 2) = true := by rfl
  have t3 : (nth l21 0 == 2) = true := by rfl
  have t4 : (nth l21 1 == 1) = true := by rfl
  have t5 : ((mk3.offs.length : Int) == 1) = true := by rfl
  have t1 : (heldF mk3 2 bU 1 == 15) = true := by rw [e5]; rfl
  (repeat' (first | ((with_reducible apply WD_id); first | (refine WD_row htb l21 rI ?_ (hn := by first | (exact by decide) | (simp only [l21, List.length_cons, List.length_nil]; omega)))) | (refine nx ?_) | (refine WD_unk (by exact rfl) ?_; ((refine WD_tf (by exact rfl) (by exact rfl) ?_ ?_) <;> (intro hb; (fail_if_success (with_reducible injection hb)); rw [hb]; (try simp only [List.length_map] at hb)))) | (refine WD_call (by exact rfl) ?_; first | (refine WD_c0 (market_m) ?_) | (refine WD_c0 (usd_m) ?_) | (refine WD_e0 (fun h => take_pe (g := mk2) (x := mk3) (p := 15) (c := 10) (e := 0) _ _ _ _ _ _ _ ?_ ?_ ?_ h) ?_; (exact hypS); (exact hypS); (exact hypS)) | (refine WD_e0 (fun h => Book_pe (g := mk2) (l := l21) _ _ _ _ ?_ ?_ ?_ h) ?_; (exact hypS); (exact hypS); (exact hypS)) | (refine WD_c0 (held_rm (g := mk3) _ _ _ ?_ ?_) ?_; (exact hypS); (exact hypS))) | ((refine WD_tf (by exact rfl) (by exact rfl) ?_ ?_) <;> (intro hb; (fail_if_success (with_reducible injection hb)); rw [hb]; (try simp only [List.length_map] at hb))) | (((with_reducible apply gC2); exact rfl) <;> (intro hb; rw [hb]))))
  exact gE (.inr rfl) rfl (congrArg vB t1) trivial
end Go.Proofs.YteppnjgobaggaaaGreat

/- Contracts for the exact law of the offers: the reference's Able for any offer, Cancel and Take; lists of numbers. -/
namespace Go.Proofs.YteppnjgobaggaaaGreat
set_option linter.unusedSimpArgs false
set_option linter.unusedVariables false
set_option linter.unnecessarySimpa false
set_option linter.unusedSectionVars false
set_option maxRecDepth 100000
open Go Go.RowKit Go.Am Go.Proofs.Grow

theorem held_bd {g : Led} (hr : chkL g.lins g.accs = 0) (a : Int) (u : ByteArray) (i : Int) : 0 ≤ heldF g a u i ∧ heldF g a u i ≤ 1000000000000 := by
  have h := chkL_zero.1 hr
  rw [(held_look h a u i).1]
  by_cases hf : (findA g.accs a).2 = true
  · by_cases hu : assetB u i = true
    · have := look_bd h hf hu; omega
    · have e : lookF g a u i = (0, 0, false) := by unfold lookF; rw [if_pos (.inr (by simpa using hu))]
      rw [e]; decide
  · have e : lookF g a u i = (0, 0, false) := by unfold lookF; rw [if_pos (.inl (by simpa using hf))]
    rw [e]; decide
set_option maxHeartbeats 2000000 in
theorem AbleX_rm (g : Led) (x : Off) (hl : g.lins.length ≤ 1000) (ha : g.accs.length ≤ 1000) (ho : g.offs.length ≤ 1000) : FnM Tryz.prog 48 [] [aG g, aO x] (vI (ableF g x)) [] := by
  refine FnM.of htb Tryz.func48 rfl rfl rfl rfl rfl fun cx hN h0 => ?_
  by_cases hc : chkO g = 0
  case neg =>
    have t1 : (chkO g != 0) = true := by simp [hc]
    have e : ableF g x = 0 := by unfold ableF; rw [if_pos (.inl hc)]
    rw [e]
    (repeat' (first | (refine nx ?_) | (refine WD_unk (by exact rfl) ?_; ((refine WD_tf (by exact rfl) (by exact rfl) ?_ ?_) <;> (intro hb; (fail_if_success (with_reducible injection hb)); rw [hb]; (try simp only [List.length_map] at hb)))) | (refine WD_call (by exact rfl) ?_; first | (refine WD_c0 (chkO_rm _ ?_ ?_ ?_) ?_; (exact hyp); (exact hyp); (exact hyp)) | (refine WD_c0 (price_rm _ _) ?_)) | ((refine WD_tf (by exact rfl) (by exact rfl) ?_ ?_) <;> (intro hb; (fail_if_success (with_reducible injection hb)); rw [hb]; (try simp only [List.length_map] at hb))) | (((with_reducible apply gC2); exact rfl) <;> (intro hb; rw [hb]))))
    exact gE (.inr rfl) rfl rfl trivial
  have t1 : (chkO g != 0) = false := by simp [hc]
  have hr := (chkO_zero.1 hc).right
  have bh := held_bd (chkL_zero.2 hr) x.seller x.sc x.si
  have bk := room_bd (chkL_zero.2 hr) x.seller x.bc x.bi
  cases hp : priceB x.num x.den with
  | false =>
    have t2 : (!priceB x.num x.den) = true := by simp [hp]
    have e : ableF g x = 0 := by unfold ableF; rw [if_pos (.inr hp)]
    rw [e]
    (repeat' (first | (refine nx ?_) | (refine WD_unk (by exact rfl) ?_; ((refine WD_tf (by exact rfl) (by exact rfl) ?_ ?_) <;> (intro hb; (fail_if_success (with_reducible injection hb)); rw [hb]; (try simp only [List.length_map] at hb)))) | (refine WD_call (by exact rfl) ?_; first | (refine WD_c0 (chkO_rm _ ?_ ?_ ?_) ?_; (exact hyp); (exact hyp); (exact hyp)) | (refine WD_c0 (price_rm _ _) ?_)) | ((refine WD_tf (by exact rfl) (by exact rfl) ?_ ?_) <;> (intro hb; (fail_if_success (with_reducible injection hb)); rw [hb]; (try simp only [List.length_map] at hb))) | (((with_reducible apply gC2); exact rfl) <;> (intro hb; rw [hb]))))
    exact gE (.inr rfl) rfl rfl trivial
  | true =>
    have t2 : (!priceB x.num x.den) = false := by simp [hp]
    rw [able_min hc hp]
    have hp2 := price_iff.1 hp
    have hq : 0 ≤ roomF g x.seller x.bc x.bi * x.den / x.num := Int.ediv_nonneg (Int.mul_nonneg bk.1 (by omega)) (by omega)
    have hroom : 0 ≤ roomF g x.seller x.bc x.bi ∧ roomF g x.seller x.bc x.bi ≤ 1000000000000 := bk
    (repeat' (first | (refine nx ?_) | (refine WD_unk (by exact rfl) ?_; ((refine WD_tf (by exact rfl) (by exact rfl) ?_ ?_) <;> (intro hb; (fail_if_success (with_reducible injection hb)); rw [hb]; (try simp only [List.length_map] at hb)))) | (refine WD_call (by exact rfl) ?_; first | (refine WD_c0 (chkO_rm _ ?_ ?_ ?_) ?_; (exact hyp); (exact hyp); (exact hyp)) | (refine WD_c0 (price_rm _ _) ?_) | (refine WD_c0 (held_rm _ _ _ _ ?_ ?_) ?_; (exact hyp); (exact hyp))) | ((refine WD_tf (by exact rfl) (by exact rfl) ?_ ?_) <;> (intro hb; (fail_if_success (with_reducible injection hb)); rw [hb]; (try simp only [List.length_map] at hb))) | (((with_reducible apply gC2); exact rfl) <;> (intro hb; rw [hb]))))
    · refine gE (.inr rfl) rfl (congrArg vI ?_) trivial
      have hb' : min2 x.amt (heldF g x.seller x.sc x.si) < 0 := by simpa [min2] using hb
      generalize min2 x.amt (heldF g x.seller x.sc x.si) = m at *
      generalize roomF g x.seller x.bc x.bi * x.den / x.num = q at *
      unfold max2 min2
      repeat' (first | split | omega)
    · have hm : 0 ≤ (if heldF g x.seller x.sc x.si < x.amt then heldF g x.seller x.sc x.si else x.amt) ∧ (if heldF g x.seller x.sc x.si < x.amt then heldF g x.seller x.sc x.si else x.amt) ≤ 1000000000000 := by
        simp only [decide_eq_false_iff_not] at hb
        refine ⟨by omega, ?_⟩
        split <;> omega
      (repeat' (first | (refine nx ?_) | (refine WD_unk (by exact rfl) ?_; ((refine WD_tf (by exact rfl) (by exact rfl) ?_ ?_) <;> (intro hb; (fail_if_success (with_reducible injection hb)); rw [hb]; (try simp only [List.length_map] at hb)))) | (refine WD_call (by exact rfl) ?_; first | (refine WD_c0 (room_rm _ _ _ _ ?_ ?_) ?_; (exact hyp); (exact hyp)) | (refine WD_c0 (aff_rm _ _ _ ?_ ?_ ?_) ?_; (exact hyp); (exact hyp); (exact hyp))) | ((refine WD_tf (by exact rfl) (by exact rfl) ?_ ?_) <;> (intro hb; (fail_if_success (with_reducible injection hb)); rw [hb]; (try simp only [List.length_map] at hb))) | (((with_reducible apply gC2); exact rfl) <;> (intro hb; rw [hb]))))
      refine gE (.inr rfl) rfl (congrArg vI ?_) trivial
      show min2 (min2 x.amt (heldF g x.seller x.sc x.si)) _ = _
      replace hm : 0 ≤ min2 x.amt (heldF g x.seller x.sc x.si) := hm.1
      generalize min2 x.amt (heldF g x.seller x.sc x.si) = m at *
      generalize roomF g x.seller x.bc x.bi * x.den / x.num = q at *
      clear hb
      unfold max2 min2
      repeat' (first | split | omega)
theorem ints_m (l : List Int) (hl : l.length ≤ 1000) : FnM Tryz.prog 40 [] [lI l, lI l] (vB true) [] := by
  refine FnM.of htb Tryz.func40 rfl rfl rfl rfl rfl fun cx hN h0 => ?_
  have t1 : (((l.length : Nat) : Int) != ((l.length : Nat) : Int)) = false := by simp
  (repeat' (first | (refine nx ?_) | (refine WD_unk (by exact rfl) ?_; ((refine WD_tf (by exact rfl) (by exact rfl) ?_ ?_) <;> (intro hb; (fail_if_success (with_reducible injection hb)); rw [hb]; (try simp only [List.length_map] at hb)))) | ((refine WD_tf (by exact rfl) (by exact rfl) ?_ ?_) <;> (intro hb; (fail_if_success (with_reducible injection hb)); rw [hb]; (try simp only [List.length_map] at hb))) | (((with_reducible apply gC2); exact rfl) <;> (intro hb; rw [hb]))))
  (refine WA_forV (l.length) [13] [] (fun k => [(13, vI k)]) (fun k => []) (fun k => True) ?h0 ?_)
  case h0 => trivial
  intro k hk _
  by_cases hk2 : k < l.length
  case neg =>
    have d1 : decide ((k : Int) < (l.length : Int)) = false := by simp; omega
    (repeat' (first | (refine nx ?_) | (refine WD_unk (by exact rfl) ?_; ((refine WD_tf (by exact rfl) (by exact rfl) ?_ ?_) <;> (intro hb; (fail_if_success (with_reducible injection hb)); rw [hb]; (try simp only [List.length_map] at hb)))) | ((refine WD_tf (by exact rfl) (by exact rfl) ?_ ?_) <;> (intro hb; (fail_if_success (with_reducible injection hb)); rw [hb]; (try simp only [List.length_map] at hb))) | (((with_reducible apply gC2); exact rfl) <;> (intro hb; rw [hb]))))
    exact gE (.inr rfl) rfl rfl trivial
  have d1 : decide ((k : Int) < (l.length : Int)) = true := by simp; omega
  have d2 : (nth l k != nth l k) = false := by simp
  (repeat' (first | (refine nx ?_) | (refine WD_unk (by exact rfl) ?_; ((refine WD_tf (by exact rfl) (by exact rfl) ?_ ?_) <;> (intro hb; (fail_if_success (with_reducible injection hb)); rw [hb]; (try simp only [List.length_map] at hb)))) | ((refine WD_tf (by exact rfl) (by exact rfl) ?_ ?_) <;> (intro hb; (fail_if_success (with_reducible injection hb)); rw [hb]; (try simp only [List.length_map] at hb))) | (((with_reducible apply gC2); exact rfl) <;> (intro hb; rw [hb]))))
  refine ⟨hk2, trivial, ?_⟩
  (exact LeV [])
set_option maxHeartbeats 2000000 in
theorem cancel_rm (g : Led) (a i : Int) (hl : g.lins.length ≤ 1000) (ha : g.accs.length ≤ 1000) (ho : g.offs.length ≤ 1000) : FnM Tryz.prog 44 [] [aG g, vI a, vI i] (.tup [aG (cancelF g a i).1, vI (cancelF g a i).2]) [] := by
  refine FnM.of htb Tryz.func44 rfl rfl rfl rfl rfl fun cx hN h0 => ?_
  by_cases hc : chkO g = 0
  case neg =>
    have d1 : (chkO g != 0) = true := by simp [hc]
    have e : cancelF g a i = (led0, chkO g) := if_pos hc
    rw [e]
    (repeat' (first | (refine nx ?_) | (refine WD_unk (by exact rfl) ?_; ((refine WD_tf (by exact rfl) (by exact rfl) ?_ ?_) <;> (intro hb; (fail_if_success (with_reducible injection hb)); rw [hb]; (try simp only [List.length_map] at hb)))) | (refine WD_call (by exact rfl) ?_; first | (refine WD_c0 (chkO_rm _ ?_ ?_ ?_) ?_; (exact hyp); (exact hyp); (exact hyp))) | ((refine WD_tf (by exact rfl) (by exact rfl) ?_ ?_) <;> (intro hb; (fail_if_success (with_reducible injection hb)); rw [hb]; (try simp only [List.length_map] at hb))) | (((with_reducible apply gC2); exact rfl) <;> (intro hb; rw [hb]))))
    (exact glV [(6, .ptr 6 0), (7, vI (chkO g))] [(6, .box 30 (cellsOf (aG led0)))] (LeV []))
  have d1 : (chkO g != 0) = false := by simp [hc]
  have hasc := (chkO_zero.1 hc).asc
  by_cases hf : ∃ j, j < g.offs.length ∧ (nth g.offs j).id = i ∧ (nth g.offs j).seller = a
  case neg =>
    have e : cancelF g a i = (led0, 72) := by
      unfold cancelF
      rw [if_neg (by simp [hc])]
      rcases idxO_cases g.offs i with ⟨h1, _⟩ | ⟨j, j1, j2, j3⟩
      · rw [if_pos (.inl (by omega))]
      · rw [if_pos (.inr (by rw [j2]; intro h; exact hf ⟨j, j1, j3, h⟩))]
    rw [e]
    (repeat' (first | (refine nx ?_) | (refine WD_unk (by exact rfl) ?_; ((refine WD_tf (by exact rfl) (by exact rfl) ?_ ?_) <;> (intro hb; (fail_if_success (with_reducible injection hb)); rw [hb]; (try simp only [List.length_map] at hb)))) | (refine WD_call (by exact rfl) ?_; first | (refine WD_c0 (chkO_rm _ ?_ ?_ ?_) ?_; (exact hyp); (exact hyp); (exact hyp))) | ((refine WD_tf (by exact rfl) (by exact rfl) ?_ ?_) <;> (intro hb; (fail_if_success (with_reducible injection hb)); rw [hb]; (try simp only [List.length_map] at hb))) | (((with_reducible apply gC2); exact rfl) <;> (intro hb; rw [hb]))))
    clear hc d1 hasc
    (refine WA_forV (g.offs.length) [20] [] (fun k => [(20, vI k)]) (fun k => []) (fun k => True) ?h0 ?_)
    case h0 => trivial
    intro k hk _
    by_cases hk2 : k < g.offs.length
    case neg =>
      have d1 : decide ((k : Int) < (g.offs.length : Int)) = false := by simp; omega
      (repeat' (first | (refine nx ?_) | (refine WD_unk (by exact rfl) ?_; ((refine WD_tf (by exact rfl) (by exact rfl) ?_ ?_) <;> (intro hb; (fail_if_success (with_reducible injection hb)); rw [hb]; (try simp only [List.length_map] at hb)))) | ((refine WD_tf (by exact rfl) (by exact rfl) ?_ ?_) <;> (intro hb; (fail_if_success (with_reducible injection hb)); rw [hb]; (try simp only [List.length_map] at hb))) | (((with_reducible apply gC2); exact rfl) <;> (intro hb; rw [hb]))))
      (exact glV [(6, .ptr 6 0), (7, vI 72)] [(6, .box 30 (cellsOf (aG led0)))] (LeV []))
    have d1 : decide ((k : Int) < (g.offs.length : Int)) = true := by simp; omega
    cases h : ((nth g.offs k).id == i) with
    | false =>
      (repeat' (first | (refine nx ?_) | (refine WD_unk (by exact rfl) ?_; ((refine WD_tf (by exact rfl) (by exact rfl) ?_ ?_) <;> (intro hb; (fail_if_success (with_reducible injection hb)); rw [hb]; (try simp only [List.length_map] at hb)))) | ((refine WD_tf (by exact rfl) (by exact rfl) ?_ ?_) <;> (intro hb; (fail_if_success (with_reducible injection hb)); rw [hb]; (try simp only [List.length_map] at hb))) | (((with_reducible apply gC2); exact rfl) <;> (intro hb; rw [hb]))))
      refine ⟨hk2, trivial, ?_⟩
      (exact LeV [])
    | true =>
      have h2 : ((nth g.offs k).seller == a) = false := by
        rw [beq_eq_false_iff_ne]
        intro h2
        exact hf ⟨k, hk2, by simpa using h, h2⟩
      (repeat' (first | (refine nx ?_) | (refine WD_unk (by exact rfl) ?_; ((refine WD_tf (by exact rfl) (by exact rfl) ?_ ?_) <;> (intro hb; (fail_if_success (with_reducible injection hb)); rw [hb]; (try simp only [List.length_map] at hb)))) | ((refine WD_tf (by exact rfl) (by exact rfl) ?_ ?_) <;> (intro hb; (fail_if_success (with_reducible injection hb)); rw [hb]; (try simp only [List.length_map] at hb))) | (((with_reducible apply gC2); exact rfl) <;> (intro hb; rw [hb]))))
      refine ⟨hk2, trivial, ?_⟩
      (exact LeV [])
  obtain ⟨j, j1, j2, j3⟩ := hf
  have ej : idxO g.offs i = j := by rw [← j2]; exact idxO_at hasc j1
  obtain ⟨r, hr⟩ : ∃ r, withoutO g.offs i = r := ⟨_, rfl⟩
  have e : cancelF g a i = (⟨g.num, g.accs, g.lins, r, g.nid, g.fees, g.link⟩, 0) := by
    have hw : withoutO g.offs i = g.offs.eraseIdx j := by rw [← j2]; exact without_erase _ hasc j j1
    unfold cancelF
    rw [if_neg (by simp [hc]), if_neg (by rw [ej]; simp [j3]), ej, ← hr, hw]; rfl
  rw [e]
  have hne : ∀ k, k < g.offs.length → ¬ k = j → ((nth g.offs k).id == i) = false := by
    intro k hk hkj
    rw [beq_eq_false_iff_ne]
    intro h
    exact hkj (oid_inj hasc hk j1 (h.trans j2.symm))
  (repeat' (first | (refine nx ?_) | (refine WD_unk (by exact rfl) ?_; ((refine WD_tf (by exact rfl) (by exact rfl) ?_ ?_) <;> (intro hb; (fail_if_success (with_reducible injection hb)); rw [hb]; (try simp only [List.length_map] at hb)))) | (refine WD_call (by exact rfl) ?_; first | (refine WD_c0 (chkO_rm _ ?_ ?_ ?_) ?_; (exact hyp); (exact hyp); (exact hyp))) | ((refine WD_tf (by exact rfl) (by exact rfl) ?_ ?_) <;> (intro hb; (fail_if_success (with_reducible injection hb)); rw [hb]; (try simp only [List.length_map] at hb))) | (((with_reducible apply gC2); exact rfl) <;> (intro hb; rw [hb]))))
  clear hc d1 hasc e
  (refine WA_forV (g.offs.length) [20] [] (fun k => [(20, vI k)]) (fun k => []) (fun k => k ≤ j) ?h0 ?_)
  case h0 => exact Nat.zero_le _
  intro k hk hkj
  have hk2 : k < g.offs.length := by omega
  have d1 : decide ((k : Int) < (g.offs.length : Int)) = true := by simp; omega
  by_cases hkj2 : k = j
  · subst hkj2
    have h1 : ((nth g.offs k).id == i) = true := by simp [j2]
    have h2 : ((nth g.offs k).seller == a) = true := by simp [j3]
    (repeat' (first | (refine nx ?_) | (refine WD_unk (by exact rfl) ?_; ((refine WD_tf (by exact rfl) (by exact rfl) ?_ ?_) <;> (intro hb; (fail_if_success (with_reducible injection hb)); rw [hb]; (try simp only [List.length_map] at hb)))) | (refine WD_call (by exact rfl) ?_; first | (refine WD_e0 (fun h => withoutE_rm _ _ _ ?_ h) ?_; (exact hyp))) | ((refine WD_tf (by exact rfl) (by exact rfl) ?_ ?_) <;> (intro hb; (fail_if_success (with_reducible injection hb)); rw [hb]; (try simp only [List.length_map] at hb))) | (((with_reducible apply gC2); exact rfl) <;> (intro hb; rw [hb]))))
    (exact glV [(6, .ptr 6 0), (7, vI 0)] [(6, .box 30 (cellsOf (aG ⟨g.num, g.accs, g.lins, r, g.nid, g.fees, g.link⟩)))] (LeV []))
  · have h1 := hne k hk2 hkj2
    (repeat' (first | (refine nx ?_) | (refine WD_unk (by exact rfl) ?_; ((refine WD_tf (by exact rfl) (by exact rfl) ?_ ?_) <;> (intro hb; (fail_if_success (with_reducible injection hb)); rw [hb]; (try simp only [List.length_map] at hb)))) | ((refine WD_tf (by exact rfl) (by exact rfl) ?_ ?_) <;> (intro hb; (fail_if_success (with_reducible injection hb)); rw [hb]; (try simp only [List.length_map] at hb))) | (((with_reducible apply gC2); exact rfl) <;> (intro hb; rw [hb]))))
    refine ⟨hk2, by omega, ?_⟩
    (exact LeV [])
theorem crossX_re (g : Led) (t : Int) (u : ByteArray) (i : Int) (v : ByteArray) (j n most : Int) (x : Led) (b p e : Int) (hl : g.lins.length ≤ 1000) (ha : g.accs.length ≤ 1000) (ho : g.offs.length ≤ 12) (he : crossF g t u i v j n most = (x, b, p, e)) :
    FnM Tryz.prog 45 [] [aG g, vI t, aT u i, aT v j, vI n, vI most] (.tup [aG x, vI b, vI p, vI e]) [] := by
  have := crossR_rm g t u i v j n most hl ha ho
  rwa [he] at this
set_option maxHeartbeats 4000000 in
theorem takeR_rm (g : Led) (b : Int) (u : ByteArray) (i : Int) (v : ByteArray) (j n most : Int) (hl : g.lins.length ≤ 1000) (ha : g.accs.length ≤ 1000) (ho : g.offs.length ≤ 12) :
    FnM Tryz.prog 46 [] [aG g, vI b, aT u i, aT v j, vI n, vI most] (.tup [aG (takeO g b u i v j n most).1, vI (takeO g b u i v j n most).2.1, vI (takeO g b u i v j n most).2.2.1, vI (takeO g b u i v j n most).2.2.2]) [] := by
  refine FnM.of htb Tryz.func46 rfl rfl rfl rfl rfl fun cx hN h0 => ?_
  unfold takeO
  by_cases hc : chkO g = 0
  case neg =>
    have hd : (chkO g != 0) = true := by simp [hc]
    rw [if_pos hc]
    (repeat' (first | (refine nx ?_) | (refine WD_unk (by exact rfl) ?_; ((refine WD_tf (by exact rfl) (by exact rfl) ?_ ?_) <;> (intro hb; (fail_if_success (with_reducible injection hb)); rw [hb]; (try simp only [List.length_map] at hb)))) | (refine WD_call (by exact rfl) ?_; first | (refine WD_c0 (chkO_rm _ ?_ ?_ ?_) ?_; (exact hyp); (exact hyp); (exact hyp))) | ((refine WD_tf (by exact rfl) (by exact rfl) ?_ ?_) <;> (intro hb; (fail_if_success (with_reducible injection hb)); rw [hb]; (try simp only [List.length_map] at hb))) | (((with_reducible apply gC2); exact rfl) <;> (intro hb; rw [hb]))))
    (exact glV [(12, .ptr 12 0), (13, vI 0), (14, vI 0), (15, vI (chkO g))] [(12, .box 30 (cellsOf (aG led0)))] (LeV []))
  have hd : (chkO g != 0) = false := by simp [hc]
  rw [if_neg (by simp [hc])]
  cases hf : (findA g.accs b).2 with
  | false =>
    have hf1 : (!(findA g.accs b).2) = true := by simp [hf]
    rw [if_pos rfl]
    (repeat' (first | (refine nx ?_) | (refine WD_unk (by exact rfl) ?_; ((refine WD_tf (by exact rfl) (by exact rfl) ?_ ?_) <;> (intro hb; (fail_if_success (with_reducible injection hb)); rw [hb]; (try simp only [List.length_map] at hb)))) | (refine WD_call (by exact rfl) ?_; first | (refine WD_c0 (chkO_rm _ ?_ ?_ ?_) ?_; (exact hyp); (exact hyp); (exact hyp)) | (refine WD_c0 (findA_rm _ _ ?_) ?_; (exact hyp))) | ((refine WD_tf (by exact rfl) (by exact rfl) ?_ ?_) <;> (intro hb; (fail_if_success (with_reducible injection hb)); rw [hb]; (try simp only [List.length_map] at hb))) | (((with_reducible apply gC2); exact rfl) <;> (intro hb; rw [hb]))))
    (exact glV [(12, .ptr 12 0), (13, vI 0), (14, vI 0), (15, vI 67)] [(12, .box 30 (cellsOf (aG led0)))] (LeV []))
  | true =>
    have hf1 : (!(findA g.accs b).2) = false := by simp [hf]
    rw [if_neg (by simp)]
    rcases hX : crossF g b u i v j n most with ⟨x, p, c, e⟩
    obtain ⟨x1, x2, x3⟩ := cross_lens hX
    dsimp only
    by_cases he : e = 0
    case neg =>
      have e1 : (e == 0) = false := by simp [he]
      have e2 : (e != 0) = true := by simp [he]
      rw [if_pos he]
      (repeat' (first | (refine nx ?_) | (refine WD_unk (by exact rfl) ?_; ((refine WD_tf (by exact rfl) (by exact rfl) ?_ ?_) <;> (intro hb; (fail_if_success (with_reducible injection hb)); rw [hb]; (try simp only [List.length_map] at hb)))) | (refine WD_call (by exact rfl) ?_; first | (refine WD_c0 (chkO_rm _ ?_ ?_ ?_) ?_; (exact hyp); (exact hyp); (exact hyp)) | (refine WD_c0 (findA_rm _ _ ?_) ?_; (exact hyp)) | (refine WD_e0 (fun h => crossX_re _ _ _ _ _ _ _ _ _ _ _ _ ?_ ?_ ?_ h) ?_; (exact hyp); (exact hyp); (exact hyp))) | ((refine WD_tf (by exact rfl) (by exact rfl) ?_ ?_) <;> (intro hb; (fail_if_success (with_reducible injection hb)); rw [hb]; (try simp only [List.length_map] at hb))) | (((with_reducible apply gC2); exact rfl) <;> (intro hb; rw [hb]))))
      (exact glV [(12, .ptr 12 0), (13, vI 0), (14, vI 0), (15, vI e)] [(12, .box 30 (cellsOf (aG led0)))] (LeV []))
    subst he
    rw [if_neg (by simp)]
    rcases hD : debitF x b v j c with ⟨y, f⟩
    obtain ⟨y1, y2, y3⟩ := debit_lens hD
    dsimp only
    have l1 : x.lins.length ≤ 1000 := by omega
    have l2 : x.accs.length ≤ 1000 := by omega
    have l3 : x.offs.length ≤ 1000 := by omega
    by_cases hf0 : f = 0
    case neg =>
      have e1 : (f == 0) = false := by simp [hf0]
      have e2 : (f != 0) = true := by simp [hf0]
      rw [if_pos hf0]
      (repeat' (first | (refine nx ?_) | (refine WD_unk (by exact rfl) ?_; ((refine WD_tf (by exact rfl) (by exact rfl) ?_ ?_) <;> (intro hb; (fail_if_success (with_reducible injection hb)); rw [hb]; (try simp only [List.length_map] at hb)))) | (refine WD_call (by exact rfl) ?_; first | (refine WD_c0 (chkO_rm _ ?_ ?_ ?_) ?_; (exact hyp); (exact hyp); (exact hyp)) | (refine WD_c0 (findA_rm _ _ ?_) ?_; (exact hyp)) | (refine WD_e0 (fun h => crossX_re _ _ _ _ _ _ _ _ _ _ _ _ ?_ ?_ ?_ h) ?_; (exact hyp); (exact hyp); (exact hyp)) | (refine WD_e0 (fun h => debitE_rm _ _ _ _ _ _ _ ?_ ?_ h) ?_; (exact hyp); (exact hyp))) | ((refine WD_tf (by exact rfl) (by exact rfl) ?_ ?_) <;> (intro hb; (fail_if_success (with_reducible injection hb)); rw [hb]; (try simp only [List.length_map] at hb))) | (((with_reducible apply gC2); exact rfl) <;> (intro hb; rw [hb]))))
      (exact glV [(12, .ptr 12 0), (13, vI 0), (14, vI 0), (15, vI f)] [(12, .box 30 (cellsOf (aG led0)))] (LeV []))
    subst hf0
    rw [if_neg (by simp)]
    rcases hC : creditF y b u i p with ⟨z, h⟩
    dsimp only
    have l4 : y.lins.length ≤ 1000 := by omega
    have l5 : y.accs.length ≤ 1000 := by omega
    have l6 : y.offs.length ≤ 1000 := by omega
    by_cases hh : h = 0
    case neg =>
      have e2 : (h != 0) = true := by simp [hh]
      rw [if_pos hh]
      (repeat' (first | (refine nx ?_) | (refine WD_unk (by exact rfl) ?_; ((refine WD_tf (by exact rfl) (by exact rfl) ?_ ?_) <;> (intro hb; (fail_if_success (with_reducible injection hb)); rw [hb]; (try simp only [List.length_map] at hb)))) | (refine WD_call (by exact rfl) ?_; first | (refine WD_c0 (chkO_rm _ ?_ ?_ ?_) ?_; (exact hyp); (exact hyp); (exact hyp)) | (refine WD_c0 (findA_rm _ _ ?_) ?_; (exact hyp)) | (refine WD_e0 (fun h => crossX_re _ _ _ _ _ _ _ _ _ _ _ _ ?_ ?_ ?_ h) ?_; (exact hyp); (exact hyp); (exact hyp)) | (refine WD_e0 (fun h => debitE_rm _ _ _ _ _ _ _ ?_ ?_ h) ?_; (exact hyp); (exact hyp)) | (refine WD_e0 (fun h => creditE_rm _ _ _ _ _ _ _ ?_ ?_ h) ?_; (exact hyp); (exact hyp))) | ((refine WD_tf (by exact rfl) (by exact rfl) ?_ ?_) <;> (intro hb; (fail_if_success (with_reducible injection hb)); rw [hb]; (try simp only [List.length_map] at hb))) | (((with_reducible apply gC2); exact rfl) <;> (intro hb; rw [hb]))))
      (exact glV [(12, .ptr 12 0), (13, vI 0), (14, vI 0), (15, vI h)] [(12, .box 30 (cellsOf (aG led0)))] (LeV []))
    subst hh
    rw [if_neg (by simp)]
    (repeat' (first | (refine nx ?_) | (refine WD_unk (by exact rfl) ?_; ((refine WD_tf (by exact rfl) (by exact rfl) ?_ ?_) <;> (intro hb; (fail_if_success (with_reducible injection hb)); rw [hb]; (try simp only [List.length_map] at hb)))) | (refine WD_call (by exact rfl) ?_; first | (refine WD_c0 (chkO_rm _ ?_ ?_ ?_) ?_; (exact hyp); (exact hyp); (exact hyp)) | (refine WD_c0 (findA_rm _ _ ?_) ?_; (exact hyp)) | (refine WD_e0 (fun h => crossX_re _ _ _ _ _ _ _ _ _ _ _ _ ?_ ?_ ?_ h) ?_; (exact hyp); (exact hyp); (exact hyp)) | (refine WD_e0 (fun h => debitE_rm _ _ _ _ _ _ _ ?_ ?_ h) ?_; (exact hyp); (exact hyp)) | (refine WD_e0 (fun h => creditE_rm _ _ _ _ _ _ _ ?_ ?_ h) ?_; (exact hyp); (exact hyp))) | ((refine WD_tf (by exact rfl) (by exact rfl) ?_ ?_) <;> (intro hb; (fail_if_success (with_reducible injection hb)); rw [hb]; (try simp only [List.length_map] at hb))) | (((with_reducible apply gC2); exact rfl) <;> (intro hb; rw [hb]))))
    (exact glV [(12, .ptr 12 0), (13, vI p), (14, vI c), (15, vI 0)] [(12, .box 30 (cellsOf (aG z)))] (LeV []))
theorem takeX_re (g : Led) (t : Int) (u : ByteArray) (i : Int) (v : ByteArray) (j n most : Int) (x : Led) (b p e : Int) (hl : g.lins.length ≤ 1000) (ha : g.accs.length ≤ 1000) (ho : g.offs.length ≤ 12) (he : takeO g t u i v j n most = (x, b, p, e)) :
    FnM Tryz.prog 46 [] [aG g, vI t, aT u i, aT v j, vI n, vI most] (.tup [aG x, vI b, vI p, vI e]) [] := by
  have := takeR_rm g t u i v j n most hl ha ho
  rwa [he] at this
theorem cancelX_re (g : Led) (a i : Int) (x : Led) (e : Int) (hl : g.lins.length ≤ 1000) (ha : g.accs.length ≤ 1000) (ho : g.offs.length ≤ 1000) (he : cancelF g a i = (x, e)) : FnM Tryz.prog 44 [] [aG g, vI a, vI i] (.tup [aG x, vI e]) [] := by
  have := cancel_rm g a i hl ha ho
  rwa [he] at this
theorem cancelX_pe (g : Led) (a i : Int) (x : Led) (e : Int) (hl : g.lins.length ≤ 1000) (ha : g.accs.length ≤ 1000) (ho : g.offs.length ≤ 1000) (he : cancelF g a i = (x, e)) : FnM Tryz.prog 35 [] [aG g, vI a, vI i] (.tup [aG x, vI e]) [] := by
  have := cancel_pm g a i hl ha ho
  rwa [he] at this
theorem addX_pe (g : Led) (a : Int) (u : ByteArray) (i : Int) (v : ByteArray) (j n p q : Int) (x : Led) (k e : Int) (hl : g.lins.length ≤ 1000) (ha : g.accs.length ≤ 1000) (ho : g.offs.length ≤ 1000) (he : addO g a u i v j n p q = (x, k, e)) :
    FnM Tryz.prog 34 [] [aG g, vI a, aT u i, aT v j, vI n, vI p, vI q] (.tup [aG x, vI k, vI e]) [] := by
  have := addO_pm g a u i v j n p q hl ha ho
  rwa [he] at this
def smallB (g : Led) : Bool := decide (g.accs.length ≤ 10) && (decide (g.lins.length ≤ 10) && decide (g.offs.length ≤ 8))
theorem smallX_m (g : Led) : FnM Tryz.prog 37 [] [aG g] (vB (smallB g)) [] := by
  refine FnM.of htb Tryz.func37 rfl rfl rfl rfl rfl fun cx hN h0 => ?_
  (repeat' (first | (refine nx ?_) | (refine WD_unk (by exact rfl) ?_; ((refine WD_tf (by exact rfl) (by exact rfl) ?_ ?_) <;> (intro hb; (fail_if_success (with_reducible injection hb)); rw [hb]; (try simp only [List.length_map] at hb)))) | ((refine WD_tf (by exact rfl) (by exact rfl) ?_ ?_) <;> (intro hb; (fail_if_success (with_reducible injection hb)); rw [hb]; (try simp only [List.length_map] at hb))) | (((with_reducible apply gC2); exact rfl) <;> (intro hb; rw [hb]))))
  all_goals refine gE (.inr rfl) rfl (congrArg vB ?_) trivial
  all_goals simp only [smallB, decide_eq_true_eq, decide_eq_false_iff_not] at *
  · have h1 : g.accs.length ≤ 10 := by omega
    have h2 : g.lins.length ≤ 10 := by omega
    rw [decide_eq_true h1, decide_eq_true h2]
    simp only [Bool.true_and]
    exact decide_eq_decide.2 (by omega)
  · have h1 : g.accs.length ≤ 10 := by omega
    have h2 : ¬ g.lins.length ≤ 10 := by omega
    rw [decide_eq_true h1, decide_eq_false h2]; rfl
  · have h1 : ¬ g.accs.length ≤ 10 := by omega
    rw [decide_eq_false h1]; rfl
end Go.Proofs.YteppnjgobaggaaaGreat

/- OffersExact: the walk. -/
namespace Go.Proofs.YteppnjgobaggaaaGreat
set_option linter.unusedSimpArgs false
set_option linter.unusedVariables false
set_option linter.unnecessarySimpa false
set_option linter.unusedSectionVars false
set_option maxRecDepth 100000
open Go Go.ChangeShapes Go.WideShapes Go.Deep Go.RowKit Go.Am Go.Proofs.Grow

theorem WD_ixp {P : Program} {tbl : List (Nat × TI)} {ops r : List Oper} {o : Oper} {fin : List (List Nat × List Nat) → List (Nat × AV) → List (Nat × AO) → Prop} {acc : List (List Nat × List Nat)} {T : List (Nat × AV)} {M : List (Nat × AO)} (htb : TOK P tbl) {d : Tmp} {ty e : TypeId} {x y : Operand} {i j : TI} {g off n : Nat} {kk : IntKind} {q : Int} (k : WD P ops fin r (([], []) :: acc) ((d, .ptr g (off + n * j.size)) :: T) M) (ho : o.op = .indexAddr ty x y := by exact rfl)
    (hg : gd ops T o = some true := by exact rfl) (hd : o.dst = some d := by exact rfl) (ht : lk tbl ty = some i := by exact rfl) (ha : i.agg = true := by exact rfl) (he : i.el = some e := by exact rfl) (hj : lk tbl e = some j := by exact rfl) (hx : evA (lk T) x = some (.ptr g off) := by exact rfl)
    (hy : evA (lk T) y = some (.d (.v (.int kk q))) := by exact rfl) (hq : q = (n : Int) := by first | exact rfl | exact (Int.toNat_of_nonneg (by decide)).symm) (hn : Nat.blt n i.len = true := by exact rfl) : WD P ops fin (o :: r) acc T M := WD_dv hg hd (step_index_arr htb ho ht ha he hj hx (by rw [hy, hq]) hn) k
section
variable {o : Oper} {x : Operand} {T : Nat → Option AV} {M : Nat → Option AO}
theorem lenS_step {u : ByteArray} (ho : o.op = .call { callee := .builtin .len, args := #[x], argTypes := #[9] }) (hx : evA T x = some (vS u)) (_h : (0 : Nat) = 0) : StepOK Tryz.prog o T M ⟨vI u.size, [], []⟩ :=
  step_len_str htb ho Tryz.underlying9 hx
end
theorem open_off {H : Type} {enc : TypeId × Value → H} {w : World} {base b0 : Nat} {spare : Nat → Bool} {held : Bool} {r : Reach} {v : Value} {d : DataW H} {p : List MemPlace} (hv : Value.okWide Tryz.prog w r b0 45 v) (h : DataW.Trod enc Tryz.prog w base spare held 45 v d p) :
    ∃ x : Off, VR (fun _ => False) (fun _ => none) w (aO x) v := by
  obtain ⟨cs, rfl, hsz⟩ := okWide_struct Tryz.underlying45 hv
  obtain ⟨fuel, hf⟩ := h
  have hfit := trod_flat 5 fuel _ [.i .i64, .i .i64, .s, .i .i64, .s, .i .i64, .i .i64, .i .i64, .i .i64] _ _ (by kernel_rfl) hf
  obtain ⟨l⟩ := cs
  simp only [Value.cells] at hfit
  obtain ⟨v0, r0, rfl, ⟨n0, rfl, _⟩, f0⟩ := hfit.uncons
  obtain ⟨v1, r1, rfl, ⟨n1, rfl, _⟩, f1⟩ := f0.uncons
  obtain ⟨v2, r2, rfl, ⟨n2, rfl, _⟩, f2⟩ := f1.uncons
  obtain ⟨v3, r3, rfl, ⟨n3, rfl, _⟩, f3⟩ := f2.uncons
  obtain ⟨v4, r4, rfl, ⟨n4, rfl, _⟩, f4⟩ := f3.uncons
  obtain ⟨v5, r5, rfl, ⟨n5, rfl, _⟩, f5⟩ := f4.uncons
  obtain ⟨v6, r6, rfl, ⟨n6, rfl, _⟩, f6⟩ := f5.uncons
  obtain ⟨v7, r7, rfl, ⟨n7, rfl, _⟩, f7⟩ := f6.uncons
  obtain ⟨v8, r8, rfl, ⟨n8, rfl, _⟩, f8⟩ := f7.uncons
  obtain rfl := f8.unnil
  exact ⟨⟨n0, n1, n2, n3, n4, n5, n6, n7, n8⟩, VR.of_list (VRs.cons (.d (.v _)) (VRs.cons (.d (.v _)) (VRs.cons (.d (.v _)) (VRs.cons (.d (.v _)) (VRs.cons (.d (.v _)) (VRs.cons (.d (.v _)) (VRs.cons (.d (.v _)) (VRs.cons (.d (.v _)) (VRs.cons (.d (.v _)) VRs.nil)))))))))⟩
theorem add_lensX {g : Led} {a : Int} {u : ByteArray} {i : Int} {v : ByteArray} {j n p q : Int} {x : Led} {k e : Int} (he : addO g a u i v j n p q = (x, k, e)) : x.lins.length ≤ g.lins.length ∧ x.accs.length ≤ g.accs.length ∧ x.offs.length ≤ g.offs.length + 1 := by
  have hx : x = (addO g a u i v j n p q).1 := by rw [he]
  subst hx
  unfold addO
  repeat' split
  all_goals simp [led0]
theorem cancel_lensX {g : Led} {a i : Int} {x : Led} {e : Int} (he : cancelF g a i = (x, e)) : x.lins.length ≤ g.lins.length ∧ x.accs.length ≤ g.accs.length ∧ x.offs.length ≤ g.offs.length := by
  have hx : x = (cancelF g a i).1 := by rw [he]
  subst hx
  unfold cancelF
  repeat' split
  all_goals first | (simp [led0]; done) | (dsimp only; rw [List.length_eraseIdx]; split <;> omega)
theorem take_lensX {g : Led} {b : Int} {u : ByteArray} {i : Int} {v : ByteArray} {j n most : Int} {x : Led} {p c e : Int} (he : takeO g b u i v j n most = (x, p, c, e)) : x.lins.length ≤ g.lins.length ∧ x.accs.length ≤ g.accs.length ∧ x.offs.length ≤ g.offs.length := by
  have hx : x = (takeO g b u i v j n most).1 := by rw [he]
  subst hx
  unfold takeO
  rcases hX : crossF g b u i v j n most with ⟨x1, p1, c1, e1⟩
  have l1 := cross_lens hX
  dsimp only
  rcases hD : debitF x1 b v j c1 with ⟨x2, e2⟩
  have l2 := debit_lens hD
  dsimp only
  rcases hC : creditF x2 b u i p1 with ⟨x3, e3⟩
  have l3 := credit_lens hC
  dsimp only
  repeat' split
  all_goals first | (simp [led0]; done) | (dsimp only; omega)
theorem bookI_len (g : Led) (u : ByteArray) (i : Int) (v : ByteArray) (j : Int) : (bookI g u i v j).length ≤ g.offs.length := by
  unfold bookI
  split
  · rename_i h
    obtain ⟨_, _, _, hl⟩ := book_srt (chkO_zero.1 h) u i v j
    have := List.length_filter_le (pairO u i v j) g.offs
    rw [List.length_map]; omega
  · simp
theorem threeX {m : Nat} (h : m < 3) : m = 0 ∨ m = 1 ∨ m = 2 := by omega
theorem twoX {m : Nat} (h : m < 2) : m = 0 ∨ m = 1 := by omega
instance : Inhabited Led := ⟨led0⟩
/-- Two assets. -/
structure Par where
  u : ByteArray
  i : Int
  v : ByteArray
  j : Int
instance : Inhabited Par := ⟨⟨⟨#[]⟩, 0, ⟨#[]⟩, 0⟩⟩
/-- Four numbers. -/
structure Qua where
  a : Int
  b : Int
  c : Int
  d : Int
instance : Inhabited Qua := ⟨⟨0, 0, 0, 0⟩⟩
set_option maxHeartbeats 32000000 in
theorem off38_m (l : List Int) (g2 : Led) (ua : ByteArray) (ia : Int) (ub : ByteArray) (ib : Int) (o : Off) (i0 n0 m0 k0 : Int) : FnM Tryz.prog 9 [] [lI l, aG g2, aT ua ia, aT ub ib, aO o, vI i0, vI n0, vI m0, vI k0] (vB true) [] := by
  refine FnM.of htb Tryz.func9 rfl rfl rfl rfl rfl fun cx hN h0 => ?_
  cases hsm : smallB g2 with
  | false =>
    have t1 : (!smallB g2) = true := by simp [hsm]
    (repeat' (first | ((with_reducible apply WD_id); first | (refine WD_sum ?_) | (refine WD_nxt htb (by exact rfl) ?_) | (refine WD_unk (by exact rfl) ?_; first | (refine WD_t (by exact rfl) (by exact rfl) (by exact known) fun hb => ?_; rw [hb]; clear hb) | (refine WD_f (by exact rfl) (by exact rfl) (by exact known) fun hb => ?_; rw [hb]; clear hb) | ((refine WD_tf (by exact rfl) (by exact rfl) ?_ ?_) <;> (intro hb; (fail_if_success (with_reducible injection hb)); rw [hb]; (try simp only [List.length_map] at hb)))) | (refine WD_call (by exact rfl) ?_; first | (refine WD_c0 (smallX_m _) ?_) | (refine WD_c0 (sane38_m) ?_)) | (refine WD_eq (lenS_step rfl rfl rfl) ?_) | (refine WD_idx htb ?_) | (refine WD_idxo htb ?_) | (refine WD_lde1 htb ?_) | (refine WD_lde htb ?_) | (refine WD_ste htb ?_) | (refine WD_ap htb ?_) | (refine WD_ap0 htb ?_) | (refine WD_nil htb ?_) | (refine WD_nilr htb ?_) | (refine WD_rem ?_) | (refine WD_quo ?_) | (refine WD_slc htb ?_) | (refine WD_ixa htb ?_) | (refine WD_ix1 htb ?_) | (refine WD_ixp htb ?_) | (refine WD_t (by exact rfl) (by exact rfl) (by exact known) fun hb => ?_; rw [hb]; clear hb) | (refine WD_f (by exact rfl) (by exact rfl) (by exact known) fun hb => ?_; rw [hb]; clear hb) | ((refine WD_tf (by exact rfl) (by exact rfl) ?_ ?_) <;> (intro hb; (fail_if_success (with_reducible injection hb)); rw [hb]; (try simp only [List.length_map] at hb)))) | (with_reducible apply WA_seq) | ((with_reducible apply gR hmix hN); exact (by kernel_rfl); (try dsimp only [List.append_eq, List.cons_append, List.nil_append])) | ((with_reducible apply WD_end); (first | exact no_draw | (intro _; kernel_rfl)); try simp only [thn, inB, List.length_map, List.cons_append, List.nil_append]) | ((with_reducible apply gCt); exact rfl; exact rfl) | ((with_reducible apply gCf); exact rfl; exact rfl) | ((with_reducible apply gCk); exact rfl; exact known; intro hb; rw [hb]; clear hb) | ((with_reducible apply gCn); exact rfl; exact known; intro hb; rw [hb]; clear hb) | (((with_reducible apply gC2); exact rfl) <;> (intro hb; rw [hb])) | (with_reducible apply WA_block) | ((with_reducible first | apply WA_skip | apply WA_ret | apply WA_exit | apply WA_label); try simp only [thn, inB, List.length_map, List.cons_append, List.nil_append])))
    exact gE (.inr rfl) rfl rfl trivial
  | true =>
  have t1 : (!smallB g2) = false := by simp [hsm]
  by_cases h60 : ((ua.size : Nat) : Int) > 60
  · have t2 : decide (((ua.size : Nat) : Int) > 60) = true := by simpa using h60
    (repeat' (first | ((with_reducible apply WD_id); first | (refine WD_sum ?_) | (refine WD_nxt htb (by exact rfl) ?_) | (refine WD_unk (by exact rfl) ?_; first | (refine WD_t (by exact rfl) (by exact rfl) (by exact known) fun hb => ?_; rw [hb]; clear hb) | (refine WD_f (by exact rfl) (by exact rfl) (by exact known) fun hb => ?_; rw [hb]; clear hb) | ((refine WD_tf (by exact rfl) (by exact rfl) ?_ ?_) <;> (intro hb; (fail_if_success (with_reducible injection hb)); rw [hb]; (try simp only [List.length_map] at hb)))) | (refine WD_call (by exact rfl) ?_; first | (refine WD_c0 (smallX_m _) ?_) | (refine WD_c0 (sane38_m) ?_)) | (refine WD_eq (lenS_step rfl rfl rfl) ?_) | (refine WD_idx htb ?_) | (refine WD_idxo htb ?_) | (refine WD_lde1 htb ?_) | (refine WD_lde htb ?_) | (refine WD_ste htb ?_) | (refine WD_ap htb ?_) | (refine WD_ap0 htb ?_) | (refine WD_nil htb ?_) | (refine WD_nilr htb ?_) | (refine WD_rem ?_) | (refine WD_quo ?_) | (refine WD_slc htb ?_) | (refine WD_ixa htb ?_) | (refine WD_ix1 htb ?_) | (refine WD_ixp htb ?_) | (refine WD_t (by exact rfl) (by exact rfl) (by exact known) fun hb => ?_; rw [hb]; clear hb) | (refine WD_f (by exact rfl) (by exact rfl) (by exact known) fun hb => ?_; rw [hb]; clear hb) | ((refine WD_tf (by exact rfl) (by exact rfl) ?_ ?_) <;> (intro hb; (fail_if_success (with_reducible injection hb)); rw [hb]; (try simp only [List.length_map] at hb)))) | (with_reducible apply WA_seq) | ((with_reducible apply gR hmix hN); exact (by kernel_rfl); (try dsimp only [List.append_eq, List.cons_append, List.nil_append])) | ((with_reducible apply WD_end); (first | exact no_draw | (intro _; kernel_rfl)); try simp only [thn, inB, List.length_map, List.cons_append, List.nil_append]) | ((with_reducible apply gCt); exact rfl; exact rfl) | ((with_reducible apply gCf); exact rfl; exact rfl) | ((with_reducible apply gCk); exact rfl; exact known; intro hb; rw [hb]; clear hb) | ((with_reducible apply gCn); exact rfl; exact known; intro hb; rw [hb]; clear hb) | (((with_reducible apply gC2); exact rfl) <;> (intro hb; rw [hb])) | (with_reducible apply WA_block) | ((with_reducible first | apply WA_skip | apply WA_ret | apply WA_exit | apply WA_label); try simp only [thn, inB, List.length_map, List.cons_append, List.nil_append])))
    exact gE (.inr rfl) rfl rfl trivial
  have t2 : decide (((ua.size : Nat) : Int) > 60) = false := by simpa using h60
  by_cases h61 : ((ub.size : Nat) : Int) > 60
  · have t3 : decide (((ub.size : Nat) : Int) > 60) = true := by simpa using h61
    (repeat' (first | ((with_reducible apply WD_id); first | (refine WD_sum ?_) | (refine WD_nxt htb (by exact rfl) ?_) | (refine WD_unk (by exact rfl) ?_; first | (refine WD_t (by exact rfl) (by exact rfl) (by exact known) fun hb => ?_; rw [hb]; clear hb) | (refine WD_f (by exact rfl) (by exact rfl) (by exact known) fun hb => ?_; rw [hb]; clear hb) | ((refine WD_tf (by exact rfl) (by exact rfl) ?_ ?_) <;> (intro hb; (fail_if_success (with_reducible injection hb)); rw [hb]; (try simp only [List.length_map] at hb)))) | (refine WD_call (by exact rfl) ?_; first | (refine WD_c0 (smallX_m _) ?_) | (refine WD_c0 (sane38_m) ?_)) | (refine WD_eq (lenS_step rfl rfl rfl) ?_) | (refine WD_idx htb ?_) | (refine WD_idxo htb ?_) | (refine WD_lde1 htb ?_) | (refine WD_lde htb ?_) | (refine WD_ste htb ?_) | (refine WD_ap htb ?_) | (refine WD_ap0 htb ?_) | (refine WD_nil htb ?_) | (refine WD_nilr htb ?_) | (refine WD_rem ?_) | (refine WD_quo ?_) | (refine WD_slc htb ?_) | (refine WD_ixa htb ?_) | (refine WD_ix1 htb ?_) | (refine WD_ixp htb ?_) | (refine WD_t (by exact rfl) (by exact rfl) (by exact known) fun hb => ?_; rw [hb]; clear hb) | (refine WD_f (by exact rfl) (by exact rfl) (by exact known) fun hb => ?_; rw [hb]; clear hb) | ((refine WD_tf (by exact rfl) (by exact rfl) ?_ ?_) <;> (intro hb; (fail_if_success (with_reducible injection hb)); rw [hb]; (try simp only [List.length_map] at hb)))) | (with_reducible apply WA_seq) | ((with_reducible apply gR hmix hN); exact (by kernel_rfl); (try dsimp only [List.append_eq, List.cons_append, List.nil_append])) | ((with_reducible apply WD_end); (first | exact no_draw | (intro _; kernel_rfl)); try simp only [thn, inB, List.length_map, List.cons_append, List.nil_append]) | ((with_reducible apply gCt); exact rfl; exact rfl) | ((with_reducible apply gCf); exact rfl; exact rfl) | ((with_reducible apply gCk); exact rfl; exact known; intro hb; rw [hb]; clear hb) | ((with_reducible apply gCn); exact rfl; exact known; intro hb; rw [hb]; clear hb) | (((with_reducible apply gC2); exact rfl) <;> (intro hb; rw [hb])) | (with_reducible apply WA_block) | ((with_reducible first | apply WA_skip | apply WA_ret | apply WA_exit | apply WA_label); try simp only [thn, inB, List.length_map, List.cons_append, List.nil_append])))
    exact gE (.inr rfl) rfl rfl trivial
  have t3 : decide (((ub.size : Nat) : Int) > 60) = false := by simpa using h61
  have hs : Sc.ok ⟨l.take 800, 0⟩ := ⟨Nat.zero_le _, by simp; omega⟩
  have hm := ledF_made ⟨l.take 800, 0⟩
  have hlen := ledF_lens ⟨l.take 800, 0⟩
  have ho := ledF_ok hs
  generalize ht : ledF ⟨l.take 800, 0⟩ = t at *
  obtain ⟨l1, l2, l3⟩ := hlen
  have m1 := hm.one
  have m5 := hm.five
  obtain ⟨tb, htb2⟩ : ∃ tb, bentF t.2 t.1 = tb := ⟨_, rfl⟩
  have hbl := bentF_lens t.2 t.1
  have hbo := bentF_ok ho t.1
  rw [htb2] at hbl hbo
  have c1 : 1 ≤ t.1.accs.length := by omega
  have c2 : t.1.accs.length ≤ 900 := by omega
  have c3 : t.1.lins.length ≤ 900 := by omega
  have c4 : t.1.offs.length ≤ 900 := by omega
  have hsm2 : g2.accs.length ≤ 900 ∧ g2.lins.length ≤ 900 ∧ g2.offs.length ≤ 11 := by
    unfold smallB at hsm
    simp only [Bool.and_eq_true, decide_eq_true_eq] at hsm
    omega
  have hb2 : tb.1.accs.length ≤ 900 ∧ tb.1.lins.length ≤ 900 ∧ tb.1.offs.length ≤ 11 := by omega
  have hb0 : t.1.accs.length ≤ 900 ∧ t.1.lins.length ≤ 900 ∧ t.1.offs.length ≤ 11 := by omega
  (repeat' (first | ((with_reducible apply WD_id); first | (refine WD_sum ?_) | (refine WD_nxt htb (by exact rfl) ?_) | (refine WD_unk (by exact rfl) ?_; first | (refine WD_t (by exact rfl) (by exact rfl) (by exact known) fun hb => ?_; rw [hb]; clear hb) | (refine WD_f (by exact rfl) (by exact rfl) (by exact known) fun hb => ?_; rw [hb]; clear hb) | ((refine WD_tf (by exact rfl) (by exact rfl) ?_ ?_) <;> (intro hb; (fail_if_success (with_reducible injection hb)); rw [hb]; (try simp only [List.length_map] at hb)))) | (refine WD_call (by exact rfl) ?_; first | (refine WD_c0 (smallX_m _) ?_) | (refine WD_cM (new_m _) ?_) | (refine WD_eM (fun h => ledz_e _ _ ?_ h) ?_; (exact hypS)) | (refine WD_eM (fun h => bent_e (g := t.1) (t := tb) _ ?_ ?_ ?_ ?_ ?_ h) ?_; (exact hypS); (exact hypS); (exact hypS); (exact hypS); (exact hypS))) | (refine WD_eq (lenS_step rfl rfl rfl) ?_) | (refine WD_idx htb ?_) | (refine WD_idxo htb ?_) | (refine WD_lde1 htb ?_) | (refine WD_lde htb ?_) | (refine WD_ste htb ?_) | (refine WD_ap htb ?_) | (refine WD_ap0 htb ?_) | (refine WD_nil htb ?_) | (refine WD_nilr htb ?_) | (refine WD_rem ?_) | (refine WD_quo ?_) | (refine WD_slc htb ?_) | (refine WD_ixa htb ?_) | (refine WD_ix1 htb ?_) | (refine WD_ixp htb ?_) | (refine WD_t (by exact rfl) (by exact rfl) (by exact known) fun hb => ?_; rw [hb]; clear hb) | (refine WD_f (by exact rfl) (by exact rfl) (by exact known) fun hb => ?_; rw [hb]; clear hb) | ((refine WD_tf (by exact rfl) (by exact rfl) ?_ ?_) <;> (intro hb; (fail_if_success (with_reducible injection hb)); rw [hb]; (try simp only [List.length_map] at hb)))) | (with_reducible apply WA_seq) | ((with_reducible apply gR hmix hN); exact (by kernel_rfl); (try dsimp only [List.append_eq, List.cons_append, List.nil_append])) | ((with_reducible apply WD_end); (first | exact no_draw | (intro _; kernel_rfl)); try simp only [thn, inB, List.length_map, List.cons_append, List.nil_append]) | ((with_reducible apply gCt); exact rfl; exact rfl) | ((with_reducible apply gCf); exact rfl; exact rfl) | ((with_reducible apply gCk); exact rfl; exact known; intro hb; rw [hb]; clear hb) | ((with_reducible apply gCn); exact rfl; exact known; intro hb; rw [hb]; clear hb) | (((with_reducible apply gC2); exact rfl) <;> (intro hb; rw [hb])) | (with_reducible apply WA_block) | ((with_reducible first | apply WA_skip | apply WA_ret | apply WA_exit | apply WA_label); try simp only [thn, inB, List.length_map, List.cons_append, List.nil_append])))
  generalize tb.2 = s0 at *
  generalize tb.1 = g1 at *
  generalize t.1 = g0 at *
  clear hs hm ho ht hsm h60 h61 t1 t2 t3 m1 m5 htb2 hbl c1 c2 c3 c4 l1 l2 l3
  refine WA_le (s' := ⟨[(71, vI 0), (70, .agg [vI g0.num, lA g0.accs, lL g0.lins, lO g0.offs, vI g0.nid, vI g0.fees, vU g0.link, vI g1.num, lA g1.accs, lL g1.lins, lO g1.offs, vI g1.nid, vI g1.fees, vU g1.link, vI g2.num, lA g2.accs, lL g2.lins, lO g2.offs, vI g2.nid, vI g2.fees, vU g2.link]), (19, .ptr 9000 0), (11, .ptr 11 0), (12, .ptr 12 0), (13, .ptr 13 0), (5, vI i0), (6, vI n0), (7, vI m0), (8, vI k0)], [(11, .box 37 [vS ua, vI ia]), (12, .box 37 [vS ub, vI ib]), (13, .box 45 (cellsOf (aO o))), Sc.box s0]⟩) (LeV []) ?_
  (refine WA_anyV (α := Nat × Sc) (fun x => 3 - x.1) ((0, s0)) [71] [9000] (fun x => [(71, vI x.1)]) (fun x => [Sc.box x.2]) (fun x => x.1 ≤ 3 ∧ x.2.ok) ?h0 ?_)
  case h0 => exact ⟨Nat.zero_le _, hbo⟩
  clear hbo
  rintro ⟨a, s⟩ ⟨ha3, os⟩
  dsimp only at ha3 os
  by_cases ha : a < 3
  case neg =>
    obtain rfl : a = 3 := by omega
    have d1 : decide (((3 : Nat) : Int) < 3) = false := by decide
    (repeat' (first | ((with_reducible apply WD_id); first | (refine WD_sum ?_) | (refine WD_nxt htb (by exact rfl) ?_) | (refine WD_unk (by exact rfl) ?_; first | (refine WD_t (by exact rfl) (by exact rfl) (by exact known) fun hb => ?_; rw [hb]; clear hb) | (refine WD_f (by exact rfl) (by exact rfl) (by exact known) fun hb => ?_; rw [hb]; clear hb) | ((refine WD_tf (by exact rfl) (by exact rfl) ?_ ?_) <;> (intro hb; (fail_if_success (with_reducible injection hb)); rw [hb]; (try simp only [List.length_map] at hb)))) | (refine WD_call (by exact rfl) ?_; first | (refine WD_c0 (sane38_m) ?_)) | (refine WD_idx htb ?_) | (refine WD_idxo htb ?_) | (refine WD_lde1 htb ?_) | (refine WD_lde htb ?_) | (refine WD_ste htb ?_) | (refine WD_ap htb ?_) | (refine WD_ap0 htb ?_) | (refine WD_nil htb ?_) | (refine WD_nilr htb ?_) | (refine WD_rem ?_) | (refine WD_quo ?_) | (refine WD_slc htb ?_) | (refine WD_ixa htb ?_) | (refine WD_ix1 htb ?_) | (refine WD_ixp htb ?_) | (refine WD_t (by exact rfl) (by exact rfl) (by exact known) fun hb => ?_; rw [hb]; clear hb) | (refine WD_f (by exact rfl) (by exact rfl) (by exact known) fun hb => ?_; rw [hb]; clear hb) | ((refine WD_tf (by exact rfl) (by exact rfl) ?_ ?_) <;> (intro hb; (fail_if_success (with_reducible injection hb)); rw [hb]; (try simp only [List.length_map] at hb)))) | (with_reducible apply WA_seq) | ((with_reducible apply gR hmix hN); exact (by kernel_rfl); (try dsimp only [List.append_eq, List.cons_append, List.nil_append])) | ((with_reducible apply WD_end); (first | exact no_draw | (intro _; kernel_rfl)); try simp only [thn, inB, List.length_map, List.cons_append, List.nil_append]) | ((with_reducible apply gCt); exact rfl; exact rfl) | ((with_reducible apply gCf); exact rfl; exact rfl) | ((with_reducible apply gCk); exact rfl; exact known; intro hb; rw [hb]; clear hb) | ((with_reducible apply gCn); exact rfl; exact known; intro hb; rw [hb]; clear hb) | (((with_reducible apply gC2); exact rfl) <;> (intro hb; rw [hb])) | (with_reducible apply WA_block) | ((with_reducible first | apply WA_skip | apply WA_ret | apply WA_exit | apply WA_label); try simp only [thn, inB, List.length_map, List.cons_append, List.nil_append])))
    exact gE (.inr rfl) rfl rfl trivial
  have d1 : decide ((a : Int) < 3) = true := by simp only [decide_eq_true_eq]; omega
  obtain ⟨x1, x2, x3⟩ : (nth [g0, g1, g2] a).accs.length ≤ 900 ∧ (nth [g0, g1, g2] a).lins.length ≤ 900 ∧ (nth [g0, g1, g2] a).offs.length ≤ 11 := by rcases threeX ha with rfl | rfl | rfl <;> assumption
  (repeat' (first | ((with_reducible apply WD_id); first | (refine WD_sum ?_) | (refine WD_nxt htb (by exact rfl) ?_) | (refine WD_unk (by exact rfl) ?_; first | (refine WD_t (by exact rfl) (by exact rfl) (by exact known) fun hb => ?_; rw [hb]; clear hb) | (refine WD_f (by exact rfl) (by exact rfl) (by exact known) fun hb => ?_; rw [hb]; clear hb) | ((refine WD_tf (by exact rfl) (by exact rfl) ?_ ?_) <;> (intro hb; (fail_if_success (with_reducible injection hb)); rw [hb]; (try simp only [List.length_map] at hb)))) | (refine WD_idx htb ?_) | (refine WD_idxo htb ?_) | (refine WD_lde1 htb ?_) | (refine WD_lde htb ?_) | (refine WD_ste htb ?_) | (refine WD_ap htb ?_) | (refine WD_ap0 htb ?_) | (refine WD_nil htb ?_) | (refine WD_nilr htb ?_) | (refine WD_rem ?_) | (refine WD_quo ?_) | (refine WD_slc htb ?_) | (refine WD_ixa htb ?_) | (refine WD_ix1 htb ?_) | (refine WD_ixp htb ?_) | (refine WD_t (by exact rfl) (by exact rfl) (by exact known) fun hb => ?_; rw [hb]; clear hb) | (refine WD_f (by exact rfl) (by exact rfl) (by exact known) fun hb => ?_; rw [hb]; clear hb) | ((refine WD_tf (by exact rfl) (by exact rfl) ?_ ?_) <;> (intro hb; (fail_if_success (with_reducible injection hb)); rw [hb]; (try simp only [List.length_map] at hb)))) | (with_reducible apply WA_seq) | ((with_reducible apply gR hmix hN); exact (by kernel_rfl); (try dsimp only [List.append_eq, List.cons_append, List.nil_append])) | ((with_reducible apply WD_end); (first | exact no_draw | (intro _; kernel_rfl)); try simp only [thn, inB, List.length_map, List.cons_append, List.nil_append]) | ((with_reducible apply gCt); exact rfl; exact rfl) | ((with_reducible apply gCf); exact rfl; exact rfl) | ((with_reducible apply gCk); exact rfl; exact known; intro hb; rw [hb]; clear hb) | ((with_reducible apply gCn); exact rfl; exact known; intro hb; rw [hb]; clear hb) | (((with_reducible apply gC2); exact rfl) <;> (intro hb; rw [hb])) | (with_reducible apply WA_block) | ((with_reducible first | apply WA_skip | apply WA_ret | apply WA_exit | apply WA_label); try simp only [thn, inB, List.length_map, List.cons_append, List.nil_append])))
  refine WD_ixa htb (n := a) (ds := [vI (nth [g0, g1, g2] a).num, lA (nth [g0, g1, g2] a).accs, lL (nth [g0, g1, g2] a).lins, lO (nth [g0, g1, g2] a).offs, vI (nth [g0, g1, g2] a).nid, vI (nth [g0, g1, g2] a).fees, vU (nth [g0, g1, g2] a).link]) ?_ (hn := by rcases threeX ha with rfl | rfl | rfl <;> rfl) (hs := by rcases threeX ha with rfl | rfl | rfl <;> rfl)
  generalize nth [g0, g1, g2] a = X at *
  clear hb0 hb2 hsm2
  have t1 : (chkO X != chkO X) = false := by simp
  have os1 : (s.x 3).ok := Sc.ok_x os 3
  (repeat' (first | ((with_reducible apply WD_id); first | (refine WD_sum ?_) | (refine WD_nxt htb (by exact rfl) ?_) | (refine WD_unk (by exact rfl) ?_; first | (refine WD_t (by exact rfl) (by exact rfl) (by exact known) fun hb => ?_; rw [hb]; clear hb) | (refine WD_f (by exact rfl) (by exact rfl) (by exact known) fun hb => ?_; rw [hb]; clear hb) | ((refine WD_tf (by exact rfl) (by exact rfl) ?_ ?_) <;> (intro hb; (fail_if_success (with_reducible injection hb)); rw [hb]; (try simp only [List.length_map] at hb)))) | (refine WD_call (by exact rfl) ?_; first | (refine WD_c0 (chkO_pm _ ?_ ?_ ?_) ?_; (exact hypS); (exact hypS); (exact hypS)) | (refine WD_c0 (chkO_rm _ ?_ ?_ ?_) ?_; (exact hypS); (exact hypS); (exact hypS)) | (refine WD_cM (asset_m _ ?_) ?_; (exact hypS))) | (refine WD_idx htb ?_) | (refine WD_idxo htb ?_) | (refine WD_lde1 htb ?_) | (refine WD_lde htb ?_) | (refine WD_ste htb ?_) | (refine WD_ap htb ?_) | (refine WD_ap0 htb ?_) | (refine WD_nil htb ?_) | (refine WD_nilr htb ?_) | (refine WD_rem ?_) | (refine WD_quo ?_) | (refine WD_slc htb ?_) | (refine WD_ixa htb ?_) | (refine WD_ix1 htb ?_) | (refine WD_ixp htb ?_) | (refine WD_t (by exact rfl) (by exact rfl) (by exact known) fun hb => ?_; rw [hb]; clear hb) | (refine WD_f (by exact rfl) (by exact rfl) (by exact known) fun hb => ?_; rw [hb]; clear hb) | ((refine WD_tf (by exact rfl) (by exact rfl) ?_ ?_) <;> (intro hb; (fail_if_success (with_reducible injection hb)); rw [hb]; (try simp only [List.length_map] at hb)))) | (with_reducible apply WA_seq) | ((with_reducible apply gR hmix hN); exact (by kernel_rfl); (try dsimp only [List.append_eq, List.cons_append, List.nil_append])) | ((with_reducible apply WD_end); (first | exact no_draw | (intro _; kernel_rfl)); try simp only [thn, inB, List.length_map, List.cons_append, List.nil_append]) | ((with_reducible apply gCt); exact rfl; exact rfl) | ((with_reducible apply gCf); exact rfl; exact rfl) | ((with_reducible apply gCk); exact rfl; exact known; intro hb; rw [hb]; clear hb) | ((with_reducible apply gCn); exact rfl; exact known; intro hb; rw [hb]; clear hb) | (((with_reducible apply gC2); exact rfl) <;> (intro hb; rw [hb])) | (with_reducible apply WA_block) | ((with_reducible first | apply WA_skip | apply WA_ret | apply WA_exit | apply WA_label); try simp only [thn, inB, List.length_map, List.cons_append, List.nil_append])))
  have os2 : ((s.x 3).x 3).ok := Sc.ok_x os1 3
  generalize nth assets3 (s.n 3).toNat = A1 at *
  generalize nth assets3 ((s.x 3).n 3).toNat = B1 at *
  generalize (s.x 3).x 3 = s1 at *
  clear t1 d1 os os1
  refine WA_le (s' := ⟨[(88, vI 0), (87, .agg [vS ua, vI ia, vS ub, vI ib, vS A1.1, vI A1.2, vS B1.1, vI B1.2]), (22, .ptr 22 0), (71, vI a), (70, .agg [vI g0.num, lA g0.accs, lL g0.lins, lO g0.offs, vI g0.nid, vI g0.fees, vU g0.link, vI g1.num, lA g1.accs, lL g1.lins, lO g1.offs, vI g1.nid, vI g1.fees, vU g1.link, vI g2.num, lA g2.accs, lL g2.lins, lO g2.offs, vI g2.nid, vI g2.fees, vU g2.link]), (19, .ptr 9000 0), (11, .ptr 11 0), (12, .ptr 12 0), (13, .ptr 13 0), (5, vI i0), (6, vI n0), (7, vI m0), (8, vI k0)], [(22, .box 30 (cellsOf (aG X))), (11, .box 37 [vS ua, vI ia]), (12, .box 37 [vS ub, vI ib]), (13, .box 45 (cellsOf (aO o))), Sc.box s1]⟩) (LeV []) ?_
  (refine WA_anyV (α := Nat × Sc) (fun x => 2 - x.1) ((0, s1)) [88] [9000] (fun x => [(88, vI x.1)]) (fun x => [Sc.box x.2]) (fun x => x.1 ≤ 2 ∧ x.2.ok) ?h0 ?_)
  case h0 => exact ⟨Nat.zero_le _, os2⟩
  clear os2
  rintro ⟨b, s⟩ ⟨hb3, os⟩
  dsimp only at hb3 os
  have p1 : X.lins.length ≤ 1000 := by omega
  have p2 : X.accs.length ≤ 1000 := by omega
  have p3 : X.offs.length ≤ 1000 := by omega
  have p4 : X.offs.length ≤ 12 := by omega
  by_cases hb : b < 2
  case neg =>
    obtain rfl : b = 2 := by omega
    have d1 : decide (((2 : Nat) : Int) < 2) = false := by decide
    (repeat' (first | ((with_reducible apply WD_id); first | (refine WD_sum ?_) | (refine WD_bso htb ?_) | (refine WD_nxt htb (by exact rfl) ?_) | (refine WD_unk (by exact rfl) ?_; first | (refine WD_t (by exact rfl) (by exact rfl) (by exact known) fun hb => ?_; rw [hb]; clear hb) | (refine WD_f (by exact rfl) (by exact rfl) (by exact known) fun hb => ?_; rw [hb]; clear hb) | ((refine WD_tf (by exact rfl) (by exact rfl) ?_ ?_) <;> (intro hb; (fail_if_success (with_reducible injection hb)); rw [hb]; (try simp only [List.length_map] at hb)))) | (refine WD_idx htb ?_) | (refine WD_idxo htb ?_) | (refine WD_lde1 htb ?_) | (refine WD_lde htb ?_) | (refine WD_ste htb ?_) | (refine WD_ap htb ?_) | (refine WD_ap0 htb ?_) | (refine WD_nil htb ?_) | (refine WD_nilr htb ?_) | (refine WD_rem ?_) | (refine WD_quo ?_) | (refine WD_slc htb ?_) | (refine WD_ixa htb ?_) | (refine WD_ix1 htb ?_) | (refine WD_ixp htb ?_) | (refine WD_t (by exact rfl) (by exact rfl) (by exact known) fun hb => ?_; rw [hb]; clear hb) | (refine WD_f (by exact rfl) (by exact rfl) (by exact known) fun hb => ?_; rw [hb]; clear hb) | ((refine WD_tf (by exact rfl) (by exact rfl) ?_ ?_) <;> (intro hb; (fail_if_success (with_reducible injection hb)); rw [hb]; (try simp only [List.length_map] at hb)))) | (with_reducible apply WA_seq) | ((with_reducible apply gR hmix hN); exact (by kernel_rfl); (try dsimp only [List.append_eq, List.cons_append, List.nil_append])) | ((with_reducible apply WD_end); (first | exact no_draw | (intro _; kernel_rfl)); try simp only [thn, inB, List.length_map, List.cons_append, List.nil_append]) | ((with_reducible apply gCt); exact rfl; exact rfl) | ((with_reducible apply gCf); exact rfl; exact rfl) | ((with_reducible apply gCk); exact rfl; exact known; intro hb; rw [hb]; clear hb) | ((with_reducible apply gCn); exact rfl; exact known; intro hb; rw [hb]; clear hb) | (((with_reducible apply gC2); exact rfl) <;> (intro hb; rw [hb])) | (with_reducible apply WA_block) | ((with_reducible first | apply WA_skip | apply WA_ret | apply WA_exit | apply WA_label); try simp only [thn, inB, List.length_map, List.cons_append, List.nil_append])))
    rw [show ([D.v (Value.int IntKind.i64 o.id), D.v (Value.int IntKind.i64 o.seller), D.v (Value.string o.sc), D.v (Value.int IntKind.i64 o.si), D.v (Value.string o.bc), D.v (Value.int IntKind.i64 o.bi), D.v (Value.int IntKind.i64 o.amt), D.v (Value.int IntKind.i64 o.num), D.v (Value.int IntKind.i64 o.den)] :: List.map rO X.offs) = List.map rO (o :: X.offs) from rfl, List.length_map]
    refine WA_le (s' := ⟨[(318, vI 0), (317, vI (((o :: X.offs).length : Nat) : Int)), (316, lO (o :: X.offs)), (22, .ptr 22 0), (71, vI a), (70, .agg [vI g0.num, lA g0.accs, lL g0.lins, lO g0.offs, vI g0.nid, vI g0.fees, vU g0.link, vI g1.num, lA g1.accs, lL g1.lins, lO g1.offs, vI g1.nid, vI g1.fees, vU g1.link, vI g2.num, lA g2.accs, lL g2.lins, lO g2.offs, vI g2.nid, vI g2.fees, vU g2.link]), (19, .ptr 9000 0), (11, .ptr 11 0), (12, .ptr 12 0), (13, .ptr 13 0), (5, vI i0), (6, vI n0), (7, vI m0), (8, vI k0)], [(22, .box 30 (cellsOf (aG X))), (11, .box 37 [vS ua, vI ia]), (12, .box 37 [vS ub, vI ib]), (13, .box 45 (cellsOf (aO o))), Sc.box s]⟩) ?_ ?_
    · (exact LeV [])
    have hL : (o :: X.offs).length ≤ 900 := by simp; omega
    generalize o :: X.offs = L at *
    (refine WA_forV (L.length) [318] [] (fun k => [(318, vI k)]) (fun k => []) (fun k => True) ?h0 ?_)
    case h0 => trivial
    intro k hk _
    by_cases hk2 : k < L.length
    case neg =>
      have d2 : decide ((k : Int) < (L.length : Int)) = false := by simp; omega
      (repeat' (first | ((with_reducible apply WD_id); first | (refine WD_sum ?_) | (refine WD_nxt htb (by exact rfl) ?_) | (refine WD_unk (by exact rfl) ?_; first | (refine WD_t (by exact rfl) (by exact rfl) (by exact known) fun hb => ?_; rw [hb]; clear hb) | (refine WD_f (by exact rfl) (by exact rfl) (by exact known) fun hb => ?_; rw [hb]; clear hb) | ((refine WD_tf (by exact rfl) (by exact rfl) ?_ ?_) <;> (intro hb; (fail_if_success (with_reducible injection hb)); rw [hb]; (try simp only [List.length_map] at hb)))) | (refine WD_idx htb ?_) | (refine WD_idxo htb ?_) | (refine WD_lde1 htb ?_) | (refine WD_lde htb ?_) | (refine WD_ste htb ?_) | (refine WD_ap htb ?_) | (refine WD_ap0 htb ?_) | (refine WD_nil htb ?_) | (refine WD_nilr htb ?_) | (refine WD_rem ?_) | (refine WD_quo ?_) | (refine WD_slc htb ?_) | (refine WD_ixa htb ?_) | (refine WD_ix1 htb ?_) | (refine WD_ixp htb ?_) | (refine WD_t (by exact rfl) (by exact rfl) (by exact known) fun hb => ?_; rw [hb]; clear hb) | (refine WD_f (by exact rfl) (by exact rfl) (by exact known) fun hb => ?_; rw [hb]; clear hb) | ((refine WD_tf (by exact rfl) (by exact rfl) ?_ ?_) <;> (intro hb; (fail_if_success (with_reducible injection hb)); rw [hb]; (try simp only [List.length_map] at hb)))) | (with_reducible apply WA_seq) | ((with_reducible apply gR hmix hN); exact (by kernel_rfl); (try dsimp only [List.append_eq, List.cons_append, List.nil_append])) | ((with_reducible apply WD_end); (first | exact no_draw | (intro _; kernel_rfl)); try simp only [thn, inB, List.length_map, List.cons_append, List.nil_append]) | ((with_reducible apply gCt); exact rfl; exact rfl) | ((with_reducible apply gCf); exact rfl; exact rfl) | ((with_reducible apply gCk); exact rfl; exact known; intro hb; rw [hb]; clear hb) | ((with_reducible apply gCn); exact rfl; exact known; intro hb; rw [hb]; clear hb) | (((with_reducible apply gC2); exact rfl) <;> (intro hb; rw [hb])) | (with_reducible apply WA_block) | ((with_reducible first | apply WA_skip | apply WA_ret | apply WA_exit | apply WA_label); try simp only [thn, inB, List.length_map, List.cons_append, List.nil_append])))
      refine ⟨(a + 1, s), by dsimp only; omega, ⟨by dsimp only; omega, os⟩, ?_⟩
      (exact LeV [])
    have d2 : decide ((k : Int) < (L.length : Int)) = true := by simp; omega
    have u1 : ((costF (nth L k) n0).1 != (costF (nth L k) n0).1) = false := by simp
    have u2 : ((costF (nth L k) n0).2 != (costF (nth L k) n0).2) = false := by simp
    have u3 : (ableF X (nth L k) != ableF X (nth L k)) = false := by simp
    (repeat' (first | ((with_reducible apply WD_id); first | (refine WD_sum ?_) | (refine WD_nxt htb (by exact rfl) ?_) | (refine WD_unk (by exact rfl) ?_; first | (refine WD_t (by exact rfl) (by exact rfl) (by exact known) fun hb => ?_; rw [hb]; clear hb) | (refine WD_f (by exact rfl) (by exact rfl) (by exact known) fun hb => ?_; rw [hb]; clear hb) | ((refine WD_tf (by exact rfl) (by exact rfl) ?_ ?_) <;> (intro hb; (fail_if_success (with_reducible injection hb)); rw [hb]; (try simp only [List.length_map] at hb)))) | (refine WD_call (by exact rfl) ?_; first | (refine WD_c0 (costO_pm _ _) ?_) | (refine WD_c0 (cost_rm _ _) ?_) | (refine WD_c0 (Able_pm _ _ ?_ ?_ ?_) ?_; (exact hypS); (exact hypS); (exact hypS)) | (refine WD_c0 (AbleX_rm _ _ ?_ ?_ ?_) ?_; (exact hypS); (exact hypS); (exact hypS))) | (refine WD_idx htb ?_) | (refine WD_idxo htb ?_) | (refine WD_lde1 htb ?_) | (refine WD_lde htb ?_) | (refine WD_ste htb ?_) | (refine WD_ap htb ?_) | (refine WD_ap0 htb ?_) | (refine WD_nil htb ?_) | (refine WD_nilr htb ?_) | (refine WD_rem ?_) | (refine WD_quo ?_) | (refine WD_slc htb ?_) | (refine WD_ixa htb ?_) | (refine WD_ix1 htb ?_) | (refine WD_ixp htb ?_) | (refine WD_t (by exact rfl) (by exact rfl) (by exact known) fun hb => ?_; rw [hb]; clear hb) | (refine WD_f (by exact rfl) (by exact rfl) (by exact known) fun hb => ?_; rw [hb]; clear hb) | ((refine WD_tf (by exact rfl) (by exact rfl) ?_ ?_) <;> (intro hb; (fail_if_success (with_reducible injection hb)); rw [hb]; (try simp only [List.length_map] at hb)))) | (with_reducible apply WA_seq) | ((with_reducible apply gR hmix hN); exact (by kernel_rfl); (try dsimp only [List.append_eq, List.cons_append, List.nil_append])) | ((with_reducible apply WD_end); (first | exact no_draw | (intro _; kernel_rfl)); try simp only [thn, inB, List.length_map, List.cons_append, List.nil_append]) | ((with_reducible apply gCt); exact rfl; exact rfl) | ((with_reducible apply gCf); exact rfl; exact rfl) | ((with_reducible apply gCk); exact rfl; exact known; intro hb; rw [hb]; clear hb) | ((with_reducible apply gCn); exact rfl; exact known; intro hb; rw [hb]; clear hb) | (((with_reducible apply gC2); exact rfl) <;> (intro hb; rw [hb])) | (with_reducible apply WA_block) | ((with_reducible first | apply WA_skip | apply WA_ret | apply WA_exit | apply WA_label); try simp only [thn, inB, List.length_map, List.cons_append, List.nil_append])))
    refine ⟨hk2, trivial, ?_⟩
    (exact LeV [])
  have d1 : decide ((b : Int) < 2) = true := by simp only [decide_eq_true_eq]; omega
  (repeat' (first | ((with_reducible apply WD_id); first | (refine WD_sum ?_) | (refine WD_nxt htb (by exact rfl) ?_) | (refine WD_unk (by exact rfl) ?_; first | (refine WD_t (by exact rfl) (by exact rfl) (by exact known) fun hb => ?_; rw [hb]; clear hb) | (refine WD_f (by exact rfl) (by exact rfl) (by exact known) fun hb => ?_; rw [hb]; clear hb) | ((refine WD_tf (by exact rfl) (by exact rfl) ?_ ?_) <;> (intro hb; (fail_if_success (with_reducible injection hb)); rw [hb]; (try simp only [List.length_map] at hb)))) | (refine WD_idx htb ?_) | (refine WD_idxo htb ?_) | (refine WD_lde1 htb ?_) | (refine WD_lde htb ?_) | (refine WD_ste htb ?_) | (refine WD_ap htb ?_) | (refine WD_ap0 htb ?_) | (refine WD_nil htb ?_) | (refine WD_nilr htb ?_) | (refine WD_rem ?_) | (refine WD_quo ?_) | (refine WD_slc htb ?_) | (refine WD_ixa htb ?_) | (refine WD_ix1 htb ?_) | (refine WD_ixp htb ?_) | (refine WD_t (by exact rfl) (by exact rfl) (by exact known) fun hb => ?_; rw [hb]; clear hb) | (refine WD_f (by exact rfl) (by exact rfl) (by exact known) fun hb => ?_; rw [hb]; clear hb) | ((refine WD_tf (by exact rfl) (by exact rfl) ?_ ?_) <;> (intro hb; (fail_if_success (with_reducible injection hb)); rw [hb]; (try simp only [List.length_map] at hb)))) | (with_reducible apply WA_seq) | ((with_reducible apply gR hmix hN); exact (by kernel_rfl); (try dsimp only [List.append_eq, List.cons_append, List.nil_append])) | ((with_reducible apply WD_end); (first | exact no_draw | (intro _; kernel_rfl)); try simp only [thn, inB, List.length_map, List.cons_append, List.nil_append]) | ((with_reducible apply gCt); exact rfl; exact rfl) | ((with_reducible apply gCf); exact rfl; exact rfl) | ((with_reducible apply gCk); exact rfl; exact known; intro hb; rw [hb]; clear hb) | ((with_reducible apply gCn); exact rfl; exact known; intro hb; rw [hb]; clear hb) | (((with_reducible apply gC2); exact rfl) <;> (intro hb; rw [hb])) | (with_reducible apply WA_block) | ((with_reducible first | apply WA_skip | apply WA_ret | apply WA_exit | apply WA_label); try simp only [thn, inB, List.length_map, List.cons_append, List.nil_append])))
  refine WD_ixa htb (n := b) (ds := [vS (nth [Par.mk ua ia ub ib, Par.mk A1.1 A1.2 B1.1 B1.2] b).u, vI (nth [Par.mk ua ia ub ib, Par.mk A1.1 A1.2 B1.1 B1.2] b).i, vS (nth [Par.mk ua ia ub ib, Par.mk A1.1 A1.2 B1.1 B1.2] b).v, vI (nth [Par.mk ua ia ub ib, Par.mk A1.1 A1.2 B1.1 B1.2] b).j]) ?_ (hn := by rcases twoX hb with rfl | rfl <;> rfl) (hs := by rcases twoX hb with rfl | rfl <;> rfl)
  generalize nth [Par.mk ua ia ub ib, Par.mk A1.1 A1.2 B1.1 B1.2] b = P at *
  obtain ⟨P1, P2, Q1, Q2⟩ := P
  dsimp only
  have hbk := bookI_len X P1 P2 Q1 Q2
  have hbk2 : (bookI X P1 P2 Q1 Q2).length ≤ 1000 := by omega
  have t1 : (!true) = false := rfl
  (repeat' (first | ((with_reducible apply WD_id); first | (refine WD_sum ?_) | (refine WD_nxt htb (by exact rfl) ?_) | (refine WD_unk (by exact rfl) ?_; first | (refine WD_t (by exact rfl) (by exact rfl) (by exact known) fun hb => ?_; rw [hb]; clear hb) | (refine WD_f (by exact rfl) (by exact rfl) (by exact known) fun hb => ?_; rw [hb]; clear hb) | ((refine WD_tf (by exact rfl) (by exact rfl) ?_ ?_) <;> (intro hb; (fail_if_success (with_reducible injection hb)); rw [hb]; (try simp only [List.length_map] at hb)))) | (refine WD_call (by exact rfl) ?_; first | (refine WD_c0 (Book_pm _ _ _ _ _ ?_ ?_ ?_) ?_; (exact hypS); (exact hypS); (exact hypS)) | (refine WD_c0 (Book_rm _ _ _ _ _ ?_ ?_ ?_) ?_; (exact hypS); (exact hypS); (exact hypS)) | (refine WD_c0 (ints_m _ ?_) ?_; (exact hypS)) | (refine WD_cM (Range_m _ _ _ ?_ ?_ ?_ ?_) ?_; (exact hypS); (exact hypS); (exact hypS); (exact hypS)) | (refine WD_cM (N_m _ _ ?_ ?_) ?_; (exact hypS); (exact hypS))) | (refine WD_idx htb ?_) | (refine WD_idxo htb ?_) | (refine WD_lde1 htb ?_) | (refine WD_lde htb ?_) | (refine WD_ste htb ?_) | (refine WD_ap htb ?_) | (refine WD_ap0 htb ?_) | (refine WD_nil htb ?_) | (refine WD_nilr htb ?_) | (refine WD_rem ?_) | (refine WD_quo ?_) | (refine WD_slc htb ?_) | (refine WD_ixa htb ?_) | (refine WD_ix1 htb ?_) | (refine WD_ixp htb ?_) | (refine WD_t (by exact rfl) (by exact rfl) (by exact known) fun hb => ?_; rw [hb]; clear hb) | (refine WD_f (by exact rfl) (by exact rfl) (by exact known) fun hb => ?_; rw [hb]; clear hb) | ((refine WD_tf (by exact rfl) (by exact rfl) ?_ ?_) <;> (intro hb; (fail_if_success (with_reducible injection hb)); rw [hb]; (try simp only [List.length_map] at hb)))) | (with_reducible apply WA_seq) | ((with_reducible apply gR hmix hN); exact (by kernel_rfl); (try dsimp only [List.append_eq, List.cons_append, List.nil_append])) | ((with_reducible apply WD_end); (first | exact no_draw | (intro _; kernel_rfl)); try simp only [thn, inB, List.length_map, List.cons_append, List.nil_append]) | ((with_reducible apply gCt); exact rfl; exact rfl) | ((with_reducible apply gCf); exact rfl; exact rfl) | ((with_reducible apply gCk); exact rfl; exact known; intro hb; rw [hb]; clear hb) | ((with_reducible apply gCn); exact rfl; exact known; intro hb; rw [hb]; clear hb) | (((with_reducible apply gC2); exact rfl) <;> (intro hb; rw [hb])) | (with_reducible apply WA_block) | ((with_reducible first | apply WA_skip | apply WA_ret | apply WA_exit | apply WA_label); try simp only [thn, inB, List.length_map, List.cons_append, List.nil_append])))
  obtain ⟨r0, hr0⟩ : ∃ r0, 0 + s.n (6 - 0 + 1) = r0 := ⟨_, rfl⟩
  rw [hr0]
  have o1 : (s.x (6 - 0 + 1)).ok := Sc.ok_x os _
  generalize s.x (6 - 0 + 1) = sa at *
  obtain ⟨r1, hr1⟩ : ∃ r1, sa.n 120 = r1 := ⟨_, rfl⟩
  rw [hr1]
  have o2 : (sa.x 120).ok := Sc.ok_x o1 _
  generalize sa.x 120 = sb at *
  obtain ⟨r2, hr2⟩ : ∃ r2, 0 + sb.n (4 - 0 + 1) = r2 := ⟨_, rfl⟩
  rw [hr2]
  have o3 : (sb.x (4 - 0 + 1)).ok := Sc.ok_x o2 _
  generalize sb.x (4 - 0 + 1) = sc at *
  obtain ⟨r3, hr3⟩ : ∃ r3, 1 + sc.n (4 - 1 + 1) = r3 := ⟨_, rfl⟩
  rw [hr3]
  have o4 : (sc.x (4 - 1 + 1)).ok := Sc.ok_x o3 _
  generalize sc.x (4 - 1 + 1) = s2 at *
  clear hbk hbk2 t1 d1 os hr0 hr1 hr2 hr3 o1 o2 o3
  refine WA_le (s' := ⟨[(120, vI 0), (119, .agg [vI i0, vI n0, vI m0, vI k0, vI r0, vI r1, vI r2, vI r3]), (24, .ptr 24 0), (88, vI b), (87, .agg [vS ua, vI ia, vS ub, vI ib, vS A1.1, vI A1.2, vS B1.1, vI B1.2]), (22, .ptr 22 0), (71, vI a), (70, .agg [vI g0.num, lA g0.accs, lL g0.lins, lO g0.offs, vI g0.nid, vI g0.fees, vU g0.link, vI g1.num, lA g1.accs, lL g1.lins, lO g1.offs, vI g1.nid, vI g1.fees, vU g1.link, vI g2.num, lA g2.accs, lL g2.lins, lO g2.offs, vI g2.nid, vI g2.fees, vU g2.link]), (19, .ptr 9000 0), (11, .ptr 11 0), (12, .ptr 12 0), (13, .ptr 13 0), (5, vI i0), (6, vI n0), (7, vI m0), (8, vI k0)], [(24, .box 43 [vS P1, vI P2, vS Q1, vI Q2]), (22, .box 30 (cellsOf (aG X))), (11, .box 37 [vS ua, vI ia]), (12, .box 37 [vS ub, vI ib]), (13, .box 45 (cellsOf (aO o))), Sc.box s2]⟩) (LeV []) ?_
  (refine WA_forV (2) [120] [] (fun k => [(120, vI k)]) (fun k => []) (fun k => True) ?h0 ?_)
  case h0 => trivial
  intro c hc3 _
  by_cases hc : c < 2
  case neg =>
    obtain rfl : c = 2 := by omega
    have d1 : decide (((2 : Nat) : Int) < 2) = false := by decide
    (repeat' (first | ((with_reducible apply WD_id); first | (refine WD_sum ?_) | (refine WD_nxt htb (by exact rfl) ?_) | (refine WD_unk (by exact rfl) ?_; first | (refine WD_t (by exact rfl) (by exact rfl) (by exact known) fun hb => ?_; rw [hb]; clear hb) | (refine WD_f (by exact rfl) (by exact rfl) (by exact known) fun hb => ?_; rw [hb]; clear hb) | ((refine WD_tf (by exact rfl) (by exact rfl) ?_ ?_) <;> (intro hb; (fail_if_success (with_reducible injection hb)); rw [hb]; (try simp only [List.length_map] at hb)))) | (refine WD_idx htb ?_) | (refine WD_idxo htb ?_) | (refine WD_lde1 htb ?_) | (refine WD_lde htb ?_) | (refine WD_ste htb ?_) | (refine WD_ap htb ?_) | (refine WD_ap0 htb ?_) | (refine WD_nil htb ?_) | (refine WD_nilr htb ?_) | (refine WD_rem ?_) | (refine WD_quo ?_) | (refine WD_slc htb ?_) | (refine WD_ixa htb ?_) | (refine WD_ix1 htb ?_) | (refine WD_ixp htb ?_) | (refine WD_t (by exact rfl) (by exact rfl) (by exact known) fun hb => ?_; rw [hb]; clear hb) | (refine WD_f (by exact rfl) (by exact rfl) (by exact known) fun hb => ?_; rw [hb]; clear hb) | ((refine WD_tf (by exact rfl) (by exact rfl) ?_ ?_) <;> (intro hb; (fail_if_success (with_reducible injection hb)); rw [hb]; (try simp only [List.length_map] at hb)))) | (with_reducible apply WA_seq) | ((with_reducible apply gR hmix hN); exact (by kernel_rfl); (try dsimp only [List.append_eq, List.cons_append, List.nil_append])) | ((with_reducible apply WD_end); (first | exact no_draw | (intro _; kernel_rfl)); try simp only [thn, inB, List.length_map, List.cons_append, List.nil_append]) | ((with_reducible apply gCt); exact rfl; exact rfl) | ((with_reducible apply gCf); exact rfl; exact rfl) | ((with_reducible apply gCk); exact rfl; exact known; intro hb; rw [hb]; clear hb) | ((with_reducible apply gCn); exact rfl; exact known; intro hb; rw [hb]; clear hb) | (((with_reducible apply gC2); exact rfl) <;> (intro hb; rw [hb])) | (with_reducible apply WA_block) | ((with_reducible first | apply WA_skip | apply WA_ret | apply WA_exit | apply WA_label); try simp only [thn, inB, List.length_map, List.cons_append, List.nil_append])))
    refine ⟨(b + 1, s2), by dsimp only; omega, ⟨by dsimp only; omega, o4⟩, ?_⟩
    (exact LeV [])
  have d1 : decide ((c : Int) < 2) = true := by simp only [decide_eq_true_eq]; omega
  (repeat' (first | ((with_reducible apply WD_id); first | (refine WD_sum ?_) | (refine WD_nxt htb (by exact rfl) ?_) | (refine WD_unk (by exact rfl) ?_; first | (refine WD_t (by exact rfl) (by exact rfl) (by exact known) fun hb => ?_; rw [hb]; clear hb) | (refine WD_f (by exact rfl) (by exact rfl) (by exact known) fun hb => ?_; rw [hb]; clear hb) | ((refine WD_tf (by exact rfl) (by exact rfl) ?_ ?_) <;> (intro hb; (fail_if_success (with_reducible injection hb)); rw [hb]; (try simp only [List.length_map] at hb)))) | (refine WD_idx htb ?_) | (refine WD_idxo htb ?_) | (refine WD_lde1 htb ?_) | (refine WD_lde htb ?_) | (refine WD_ste htb ?_) | (refine WD_ap htb ?_) | (refine WD_ap0 htb ?_) | (refine WD_nil htb ?_) | (refine WD_nilr htb ?_) | (refine WD_rem ?_) | (refine WD_quo ?_) | (refine WD_slc htb ?_) | (refine WD_ixa htb ?_) | (refine WD_ix1 htb ?_) | (refine WD_ixp htb ?_) | (refine WD_t (by exact rfl) (by exact rfl) (by exact known) fun hb => ?_; rw [hb]; clear hb) | (refine WD_f (by exact rfl) (by exact rfl) (by exact known) fun hb => ?_; rw [hb]; clear hb) | ((refine WD_tf (by exact rfl) (by exact rfl) ?_ ?_) <;> (intro hb; (fail_if_success (with_reducible injection hb)); rw [hb]; (try simp only [List.length_map] at hb)))) | (with_reducible apply WA_seq) | ((with_reducible apply gR hmix hN); exact (by kernel_rfl); (try dsimp only [List.append_eq, List.cons_append, List.nil_append])) | ((with_reducible apply WD_end); (first | exact no_draw | (intro _; kernel_rfl)); try simp only [thn, inB, List.length_map, List.cons_append, List.nil_append]) | ((with_reducible apply gCt); exact rfl; exact rfl) | ((with_reducible apply gCf); exact rfl; exact rfl) | ((with_reducible apply gCk); exact rfl; exact known; intro hb; rw [hb]; clear hb) | ((with_reducible apply gCn); exact rfl; exact known; intro hb; rw [hb]; clear hb) | (((with_reducible apply gC2); exact rfl) <;> (intro hb; rw [hb])) | (with_reducible apply WA_block) | ((with_reducible first | apply WA_skip | apply WA_ret | apply WA_exit | apply WA_label); try simp only [thn, inB, List.length_map, List.cons_append, List.nil_append])))
  refine WD_ixa htb (n := c) (ds := [vI (nth [Qua.mk i0 n0 m0 k0, Qua.mk r0 r1 r2 r3] c).a, vI (nth [Qua.mk i0 n0 m0 k0, Qua.mk r0 r1 r2 r3] c).b, vI (nth [Qua.mk i0 n0 m0 k0, Qua.mk r0 r1 r2 r3] c).c, vI (nth [Qua.mk i0 n0 m0 k0, Qua.mk r0 r1 r2 r3] c).d]) ?_ (hn := by rcases twoX hc with rfl | rfl <;> rfl) (hs := by rcases twoX hc with rfl | rfl <;> rfl)
  generalize nth [Qua.mk i0 n0 m0 k0, Qua.mk r0 r1 r2 r3] c = q at *
  obtain ⟨q0, q1, q2, q3⟩ := q
  dsimp only
  rcases hA : addO X q0 P1 P2 Q1 Q2 q1 q2 q3 with ⟨z1, k1, e1⟩
  rcases hC : cancelF X q0 q2 with ⟨z2, e2⟩
  rcases hX : crossF X q0 P1 P2 Q1 Q2 q1 (IntKind.i64.wrap (q2 * 50)) with ⟨z3, b3, c3, e3⟩
  rcases hT : takeO X q0 P1 P2 Q1 Q2 q1 (IntKind.i64.wrap (q2 * 50)) with ⟨z4, b4, c4, e4⟩
  obtain ⟨w1, w2, w3⟩ := add_lensX hA
  obtain ⟨w4, w5, w6⟩ := cancel_lensX hC
  obtain ⟨w7, w8, w9⟩ := cross_lens hX
  obtain ⟨w10, w11, w12⟩ := take_lensX hT
  have u1 : (!eqLed z1 z1) = false := by rw [eqLed_refl]; rfl
  have u2 : (!eqLed z2 z2) = false := by rw [eqLed_refl]; rfl
  have u3 : (!eqLed z3 z3) = false := by rw [eqLed_refl]; rfl
  have u4 : (!eqLed z4 z4) = false := by rw [eqLed_refl]; rfl
  have v1 : (k1 != k1) = false := by simp
  have v2 : (e1 != e1) = false := by simp
  have v3 : (e2 != e2) = false := by simp
  have v4 : (b3 != b3) = false := by simp
  have v5 : (c3 != c3) = false := by simp
  have v6 : (e3 != e3) = false := by simp
  have v7 : (b4 != b4) = false := by simp
  have v8 : (c4 != c4) = false := by simp
  have v9 : (e4 != e4) = false := by simp
  (repeat' (first | ((with_reducible apply WD_id); first | (refine WD_sum ?_) | (refine WD_nxt htb (by exact rfl) ?_) | (refine WD_unk (by exact rfl) ?_; first | (refine WD_t (by exact rfl) (by exact rfl) (by exact known) fun hb => ?_; rw [hb]; clear hb) | (refine WD_f (by exact rfl) (by exact rfl) (by exact known) fun hb => ?_; rw [hb]; clear hb) | ((refine WD_tf (by exact rfl) (by exact rfl) ?_ ?_) <;> (intro hb; (fail_if_success (with_reducible injection hb)); rw [hb]; (try simp only [List.length_map] at hb)))) | (refine WD_call (by exact rfl) ?_; first | (refine WD_e0 (fun h => addX_pe _ _ _ _ _ _ _ _ _ _ _ _ ?_ ?_ ?_ h) ?_; (exact hypS); (exact hypS); (exact hypS)) | (refine WD_e0 (fun h => add_re _ _ _ _ _ _ _ _ _ _ _ _ ?_ ?_ ?_ h) ?_; (exact hypS); (exact hypS); (exact hypS)) | (refine WD_e0 (fun h => cancelX_pe _ _ _ _ _ ?_ ?_ ?_ h) ?_; (exact hypS); (exact hypS); (exact hypS)) | (refine WD_e0 (fun h => cancelX_re _ _ _ _ _ ?_ ?_ ?_ h) ?_; (exact hypS); (exact hypS); (exact hypS)) | (refine WD_e0 (fun h => cross_pe _ _ _ _ _ _ _ _ _ _ _ _ ?_ ?_ ?_ h) ?_; (exact hypS); (exact hypS); (exact hypS)) | (refine WD_e0 (fun h => crossX_re _ _ _ _ _ _ _ _ _ _ _ _ ?_ ?_ ?_ h) ?_; (exact hypS); (exact hypS); (exact hypS)) | (refine WD_e0 (fun h => take_pe _ _ _ _ _ _ _ _ _ _ _ _ ?_ ?_ ?_ h) ?_; (exact hypS); (exact hypS); (exact hypS)) | (refine WD_e0 (fun h => takeX_re _ _ _ _ _ _ _ _ _ _ _ _ ?_ ?_ ?_ h) ?_; (exact hypS); (exact hypS); (exact hypS)) | (refine WD_c0 (sameO_rm (g := z1) (h := z1) ?_ ?_ ?_) ?_; (exact hypS); (exact hypS); (exact hypS)) | (refine WD_c0 (sameO_rm (g := z2) (h := z2) ?_ ?_ ?_) ?_; (exact hypS); (exact hypS); (exact hypS)) | (refine WD_c0 (sameO_rm (g := z3) (h := z3) ?_ ?_ ?_) ?_; (exact hypS); (exact hypS); (exact hypS)) | (refine WD_c0 (sameO_rm (g := z4) (h := z4) ?_ ?_ ?_) ?_; (exact hypS); (exact hypS); (exact hypS))) | (refine WD_idx htb ?_) | (refine WD_idxo htb ?_) | (refine WD_lde1 htb ?_) | (refine WD_lde htb ?_) | (refine WD_ste htb ?_) | (refine WD_ap htb ?_) | (refine WD_ap0 htb ?_) | (refine WD_nil htb ?_) | (refine WD_nilr htb ?_) | (refine WD_rem ?_) | (refine WD_quo ?_) | (refine WD_slc htb ?_) | (refine WD_ixa htb ?_) | (refine WD_ix1 htb ?_) | (refine WD_ixp htb ?_) | (refine WD_t (by exact rfl) (by exact rfl) (by exact known) fun hb => ?_; rw [hb]; clear hb) | (refine WD_f (by exact rfl) (by exact rfl) (by exact known) fun hb => ?_; rw [hb]; clear hb) | ((refine WD_tf (by exact rfl) (by exact rfl) ?_ ?_) <;> (intro hb; (fail_if_success (with_reducible injection hb)); rw [hb]; (try simp only [List.length_map] at hb)))) | (with_reducible apply WA_seq) | ((with_reducible apply gR hmix hN); exact (by kernel_rfl); (try dsimp only [List.append_eq, List.cons_append, List.nil_append])) | ((with_reducible apply WD_end); (first | exact no_draw | (intro _; kernel_rfl)); try simp only [thn, inB, List.length_map, List.cons_append, List.nil_append]) | ((with_reducible apply gCt); exact rfl; exact rfl) | ((with_reducible apply gCf); exact rfl; exact rfl) | ((with_reducible apply gCk); exact rfl; exact known; intro hb; rw [hb]; clear hb) | ((with_reducible apply gCn); exact rfl; exact known; intro hb; rw [hb]; clear hb) | (((with_reducible apply gC2); exact rfl) <;> (intro hb; rw [hb])) | (with_reducible apply WA_block) | ((with_reducible first | apply WA_skip | apply WA_ret | apply WA_exit | apply WA_label); try simp only [thn, inB, List.length_map, List.cons_append, List.nil_append])))
  refine ⟨hc, trivial, ?_⟩
  (exact LeV [])
theorem law_OffersExact (a0 : Option Addr) (len0 cap0 : Nat) (z0 : List Int) (g1 : Led) (v1 : Value) (s2 : ByteArray) (i2 : Int) (s3 : ByteArray) (i3 : Int) (o4 : Off) (v4 : Value) (a5 a6 a7 a8 : Int) (w : World) (w0 : IsRowA .i64 w a0 len0 cap0 z0) (w1 : VR (fun _ => False) (fun _ => none) w (aG g1) v1) (w2 : s2.size ≤ maxLen) (x2 : (Lit.int .i64 i2).wf = true) (w3 : s3.size ≤ maxLen) (x3 : (Lit.int .i64 i3).wf = true) (w4 : VR (fun _ => False) (fun _ => none) w (aO o4) v4) (w5 : (Lit.int .i64 a5).wf = true) (w6 : (Lit.int .i64 a6).wf = true) (w7 : (Lit.int .i64 a7).wf = true) (w8 : (Lit.int .i64 a8).wf = true) :
    Calls Tryz.prog 9 #[.slice a0 len0 cap0, v1, .agg #[.string s2, .int .i64 i2], .agg #[.string s3, .int .i64 i3], v4, .int .i64 a5, .int .i64 a6, .int .i64 a7, .int .i64 a8] w fun e w' => e = .returned (.bool true) ∧ Ex w w' :=
  FnM.law (off38_m (z0.take len0) g1 s2 i2 s3 i3 o4 a5 a6 a7 a8) (VRs.cons (row_VR w0) (VRs.cons w1 (VRs.cons (VR.of_list (VRs.cons (.d (.v _)) (VRs.cons (.d (.v _)) VRs.nil))) (VRs.cons (VR.of_list (VRs.cons (.d (.v _)) (VRs.cons (.d (.v _)) VRs.nil))) (VRs.cons w4 (VRs.cons (.d (.v _)) (VRs.cons (.d (.v _)) (VRs.cons (.d (.v _)) (VRs.cons (.d (.v _)) VRs.nil)))))))))
end Go.Proofs.YteppnjgobaggaaaGreat
