/- Contracts of the program's functions on offers: taking. -/
import Derived.Test.YteppnjgobaggaaaGreatWO5
namespace Go.Proofs.YteppnjgobaggaaaGreat
set_option linter.unusedSimpArgs false
set_option linter.unusedVariables false
set_option linter.unnecessarySimpa false
set_option linter.unusedSectionVars false
set_option maxRecDepth 100000
open Go Go.RowKit Go.Am Go.Proofs.Grow

theorem cross_pe (g : Led) (t : Int) (u : ByteArray) (i : Int) (v : ByteArray) (j n most : Int) (x : Led) (p c e : Int) (hl : g.lins.length ≤ 1000) (ha : g.accs.length ≤ 1000) (ho : g.offs.length ≤ 12) (he : crossF g t u i v j n most = (x, p, c, e)) :
    FnM Tryz.prog 27 [] [aG g, vI t, aT u i, aT v j, vI n, vI most] (.tup [aG x, vI p, vI c, vI e]) [] := by
  have := cross_pm g t u i v j n most hl ha ho
  rwa [he] at this
theorem debit_pq (g : Led) (a : Int) (u : ByteArray) (i n : Int) (x : Led) (e : Int) (hl : g.lins.length ≤ 1000) (ha : g.accs.length ≤ 1000) (ho : g.offs.length ≤ 1000) (he : debitF g a u i n = (x, e)) : FnM Tryz.prog 65 [] [aG g, vI a, aT u i, vI n] (.tup [aG x, vI e]) [] := by
  have := debit_pm g a u i n hl ha ho
  rwa [he] at this
theorem credit_pq (g : Led) (a : Int) (u : ByteArray) (i n : Int) (x : Led) (e : Int) (hl : g.lins.length ≤ 1000) (ha : g.accs.length ≤ 1000) (ho : g.offs.length ≤ 1000) (he : creditF g a u i n = (x, e)) : FnM Tryz.prog 66 [] [aG g, vI a, aT u i, vI n] (.tup [aG x, vI e]) [] := by
  have := credit_pm g a u i n hl ha ho
  rwa [he] at this
theorem addL_lens (g : Led) (a : Int) (u : ByteArray) (i n : Int) : (addL g a u i n).lins.length = g.lins.length ∧ (addL g a u i n).accs.length = g.accs.length ∧ (addL g a u i n).offs.length = g.offs.length := by
  unfold addL
  split
  · simp
  · split <;> simp
theorem debit_lens {g : Led} {a : Int} {u : ByteArray} {i n : Int} {x : Led} {e : Int} (he : debitF g a u i n = (x, e)) : x.lins.length ≤ g.lins.length ∧ x.accs.length ≤ g.accs.length ∧ x.offs.length ≤ g.offs.length := by
  have hx : x = (debitF g a u i n).1 := by rw [he]
  obtain ⟨h1, h2, h3⟩ := addL_lens g a u i (-n)
  subst hx
  unfold debitF
  split
  · simp [led0]
  · split
    · simp [led0]
    · split
      · simp [led0]
      · dsimp only; omega
theorem credit_lens {g : Led} {a : Int} {u : ByteArray} {i n : Int} {x : Led} {e : Int} (he : creditF g a u i n = (x, e)) : x.lins.length ≤ g.lins.length ∧ x.accs.length ≤ g.accs.length ∧ x.offs.length ≤ g.offs.length := by
  have hx : x = (creditF g a u i n).1 := by rw [he]
  obtain ⟨h1, h2, h3⟩ := addL_lens g a u i n
  subst hx
  unfold creditF
  split
  · simp [led0]
  · split
    · split
      · simp [led0]
      · dsimp only; omega
    · split
      · simp [led0]
      · dsimp only; omega
theorem cross_lens {g : Led} {t : Int} {u : ByteArray} {i : Int} {v : ByteArray} {j n most : Int} {x : Led} {p c e : Int} (he : crossF g t u i v j n most = (x, p, c, e)) : x.lins.length ≤ g.lins.length ∧ x.accs.length ≤ g.accs.length ∧ x.offs.length ≤ g.offs.length := by
  have hx : x = (crossF g t u i v j n most).1 := by rw [he]
  subst hx
  unfold crossF
  split
  · simp [led0]
  · rename_i h1
    split
    · simp [led0]
    · split
      · simp [led0]
      · rename_i h3
        simp only [not_or, Bool.not_eq_false] at h3
        obtain ⟨hM, _⟩ := moved_all (chkO_zero.1 (Classical.not_not.1 h1)) (u := u) (i := i) (v := v) (j := j) (t := t) (okA_iff.1 h3.1).1 (okA_iff.1 h3.2).1
        have h1 := hM.la
        have h2 := hM.ll
        have h3 := hM.lo
        dsimp only
        omega
set_option maxHeartbeats 4000000 in
theorem take_pm (g : Led) (b : Int) (u : ByteArray) (i : Int) (v : ByteArray) (j n most : Int) (hl : g.lins.length ≤ 1000) (ha : g.accs.length ≤ 1000) (ho : g.offs.length ≤ 12) :
    FnM Tryz.prog 18 [] [aG g, vI b, aT u i, aT v j, vI n, vI most] (.tup [aG (takeO g b u i v j n most).1, vI (takeO g b u i v j n most).2.1, vI (takeO g b u i v j n most).2.2.1, vI (takeO g b u i v j n most).2.2.2]) [] := by
  refine FnM.of htb Tryz.func18 rfl rfl rfl rfl rfl fun cx hN h0 => ?_
  unfold takeO
  by_cases hc : chkO g = 0
  case neg =>
    have hd : (chkO g != 0) = true := by simp [hc]
    rw [if_pos hc]
    (repeat' (first | (refine nx ?_) | (refine WD_unk (by exact rfl) ?_; ((refine WD_tf (by exact rfl) (by exact rfl) ?_ ?_) <;> (intro hb; (fail_if_success (with_reducible injection hb)); rw [hb]; (try simp only [List.length_map] at hb)))) | (refine WD_call (by exact rfl) ?_; first | (refine WD_c0 (chkO_pm _ ?_ ?_ ?_) ?_; (exact hyp); (exact hyp); (exact hyp))) | ((refine WD_tf (by exact rfl) (by exact rfl) ?_ ?_) <;> (intro hb; (fail_if_success (with_reducible injection hb)); rw [hb]; (try simp only [List.length_map] at hb))) | (((with_reducible apply gC2); exact rfl) <;> (intro hb; rw [hb]))))
    (exact glV [(12, .ptr 12 0), (13, vI 0), (14, vI 0), (15, vI (chkO g))] [(12, .box 30 (cellsOf (aG led0)))] (LeV []))
  have hd : (chkO g != 0) = false := by simp [hc]
  rw [if_neg (by simp [hc])]
  cases hf : (findA g.accs b).2 with
  | false =>
    have hf1 : (!(findA g.accs b).2) = true := by simp [hf]
    rw [if_pos rfl]
    (repeat' (first | (refine nx ?_) | (refine WD_unk (by exact rfl) ?_; ((refine WD_tf (by exact rfl) (by exact rfl) ?_ ?_) <;> (intro hb; (fail_if_success (with_reducible injection hb)); rw [hb]; (try simp only [List.length_map] at hb)))) | (refine WD_call (by exact rfl) ?_; first | (refine WD_c0 (chkO_pm _ ?_ ?_ ?_) ?_; (exact hyp); (exact hyp); (exact hyp)) | (refine WD_c0 (findA_pm _ _ ?_) ?_; (exact hyp))) | ((refine WD_tf (by exact rfl) (by exact rfl) ?_ ?_) <;> (intro hb; (fail_if_success (with_reducible injection hb)); rw [hb]; (try simp only [List.length_map] at hb))) | (((with_reducible apply gC2); exact rfl) <;> (intro hb; rw [hb]))))
    (exact glV [(12, .ptr 12 0), (13, vI 0), (14, vI 0), (15, vI 67)] [(12, .box 30 (cellsOf (aG led0)))] (LeV []))
  | true =>
    have hf1 : (!(findA g.accs b).2) = false := by simp [hf]
    rw [if_neg (by simp)]
    rcases hX : crossF g b u i v j n most with ⟨x, p, c, e⟩
    obtain ⟨x1, x2, x3⟩ := cross_lens hX
    dsimp only
    by_cases he : e = 0
    case neg =>
      have e1 : (e == 0) = false := by simp [he]
      have e2 : (e != 0) = true := by simp [he]
      rw [if_pos he]
      (repeat' (first | (refine nx ?_) | (refine WD_unk (by exact rfl) ?_; ((refine WD_tf (by exact rfl) (by exact rfl) ?_ ?_) <;> (intro hb; (fail_if_success (with_reducible injection hb)); rw [hb]; (try simp only [List.length_map] at hb)))) | (refine WD_call (by exact rfl) ?_; first | (refine WD_c0 (chkO_pm _ ?_ ?_ ?_) ?_; (exact hyp); (exact hyp); (exact hyp)) | (refine WD_c0 (findA_pm _ _ ?_) ?_; (exact hyp)) | (refine WD_e0 (fun h => cross_pe _ _ _ _ _ _ _ _ _ _ _ _ ?_ ?_ ?_ h) ?_; (exact hyp); (exact hyp); (exact hyp))) | ((refine WD_tf (by exact rfl) (by exact rfl) ?_ ?_) <;> (intro hb; (fail_if_success (with_reducible injection hb)); rw [hb]; (try simp only [List.length_map] at hb))) | (((with_reducible apply gC2); exact rfl) <;> (intro hb; rw [hb]))))
      (exact glV [(12, .ptr 12 0), (13, vI 0), (14, vI 0), (15, vI e)] [(12, .box 30 (cellsOf (aG led0)))] (LeV []))
    subst he
    rw [if_neg (by simp)]
    rcases hD : debitF x b v j c with ⟨y, f⟩
    obtain ⟨y1, y2, y3⟩ := debit_lens hD
    dsimp only
    have l1 : x.lins.length ≤ 1000 := by omega
    have l2 : x.accs.length ≤ 1000 := by omega
    have l3 : x.offs.length ≤ 1000 := by omega
    by_cases hf0 : f = 0
    case neg =>
      have e1 : (f == 0) = false := by simp [hf0]
      have e2 : (f != 0) = true := by simp [hf0]
      rw [if_pos hf0]
      (repeat' (first | (refine nx ?_) | (refine WD_unk (by exact rfl) ?_; ((refine WD_tf (by exact rfl) (by exact rfl) ?_ ?_) <;> (intro hb; (fail_if_success (with_reducible injection hb)); rw [hb]; (try simp only [List.length_map] at hb)))) | (refine WD_call (by exact rfl) ?_; first | (refine WD_c0 (chkO_pm _ ?_ ?_ ?_) ?_; (exact hyp); (exact hyp); (exact hyp)) | (refine WD_c0 (findA_pm _ _ ?_) ?_; (exact hyp)) | (refine WD_e0 (fun h => cross_pe _ _ _ _ _ _ _ _ _ _ _ _ ?_ ?_ ?_ h) ?_; (exact hyp); (exact hyp); (exact hyp)) | (refine WD_e0 (fun h => debit_pq _ _ _ _ _ _ _ ?_ ?_ ?_ h) ?_; (exact hyp); (exact hyp); (exact hyp))) | ((refine WD_tf (by exact rfl) (by exact rfl) ?_ ?_) <;> (intro hb; (fail_if_success (with_reducible injection hb)); rw [hb]; (try simp only [List.length_map] at hb))) | (((with_reducible apply gC2); exact rfl) <;> (intro hb; rw [hb]))))
      (exact glV [(12, .ptr 12 0), (13, vI 0), (14, vI 0), (15, vI f)] [(12, .box 30 (cellsOf (aG led0)))] (LeV []))
    subst hf0
    rw [if_neg (by simp)]
    rcases hC : creditF y b u i p with ⟨z, h⟩
    dsimp only
    have l4 : y.lins.length ≤ 1000 := by omega
    have l5 : y.accs.length ≤ 1000 := by omega
    have l6 : y.offs.length ≤ 1000 := by omega
    by_cases hh : h = 0
    case neg =>
      have e2 : (h != 0) = true := by simp [hh]
      rw [if_pos hh]
      (repeat' (first | (refine nx ?_) | (refine WD_unk (by exact rfl) ?_; ((refine WD_tf (by exact rfl) (by exact rfl) ?_ ?_) <;> (intro hb; (fail_if_success (with_reducible injection hb)); rw [hb]; (try simp only [List.length_map] at hb)))) | (refine WD_call (by exact rfl) ?_; first | (refine WD_c0 (chkO_pm _ ?_ ?_ ?_) ?_; (exact hyp); (exact hyp); (exact hyp)) | (refine WD_c0 (findA_pm _ _ ?_) ?_; (exact hyp)) | (refine WD_e0 (fun h => cross_pe _ _ _ _ _ _ _ _ _ _ _ _ ?_ ?_ ?_ h) ?_; (exact hyp); (exact hyp); (exact hyp)) | (refine WD_e0 (fun h => debit_pq _ _ _ _ _ _ _ ?_ ?_ ?_ h) ?_; (exact hyp); (exact hyp); (exact hyp)) | (refine WD_e0 (fun h => credit_pq _ _ _ _ _ _ _ ?_ ?_ ?_ h) ?_; (exact hyp); (exact hyp); (exact hyp))) | ((refine WD_tf (by exact rfl) (by exact rfl) ?_ ?_) <;> (intro hb; (fail_if_success (with_reducible injection hb)); rw [hb]; (try simp only [List.length_map] at hb))) | (((with_reducible apply gC2); exact rfl) <;> (intro hb; rw [hb]))))
      (exact glV [(12, .ptr 12 0), (13, vI 0), (14, vI 0), (15, vI h)] [(12, .box 30 (cellsOf (aG led0)))] (LeV []))
    subst hh
    rw [if_neg (by simp)]
    (repeat' (first | (refine nx ?_) | (refine WD_unk (by exact rfl) ?_; ((refine WD_tf (by exact rfl) (by exact rfl) ?_ ?_) <;> (intro hb; (fail_if_success (with_reducible injection hb)); rw [hb]; (try simp only [List.length_map] at hb)))) | (refine WD_call (by exact rfl) ?_; first | (refine WD_c0 (chkO_pm _ ?_ ?_ ?_) ?_; (exact hyp); (exact hyp); (exact hyp)) | (refine WD_c0 (findA_pm _ _ ?_) ?_; (exact hyp)) | (refine WD_e0 (fun h => cross_pe _ _ _ _ _ _ _ _ _ _ _ _ ?_ ?_ ?_ h) ?_; (exact hyp); (exact hyp); (exact hyp)) | (refine WD_e0 (fun h => debit_pq _ _ _ _ _ _ _ ?_ ?_ ?_ h) ?_; (exact hyp); (exact hyp); (exact hyp)) | (refine WD_e0 (fun h => credit_pq _ _ _ _ _ _ _ ?_ ?_ ?_ h) ?_; (exact hyp); (exact hyp); (exact hyp))) | ((refine WD_tf (by exact rfl) (by exact rfl) ?_ ?_) <;> (intro hb; (fail_if_success (with_reducible injection hb)); rw [hb]; (try simp only [List.length_map] at hb))) | (((with_reducible apply gC2); exact rfl) <;> (intro hb; rw [hb]))))
    (exact glV [(12, .ptr 12 0), (13, vI p), (14, vI c), (15, vI 0)] [(12, .box 30 (cellsOf (aG z)))] (LeV []))
theorem take_pe (g : Led) (b : Int) (u : ByteArray) (i : Int) (v : ByteArray) (j n most : Int) (x : Led) (p c e : Int) (hl : g.lins.length ≤ 1000) (ha : g.accs.length ≤ 1000) (ho : g.offs.length ≤ 12) (he : takeO g b u i v j n most = (x, p, c, e)) :
    FnM Tryz.prog 18 [] [aG g, vI b, aT u i, aT v j, vI n, vI most] (.tup [aG x, vI p, vI c, vI e]) [] := by
  have := take_pm g b u i v j n most hl ha ho
  rwa [he] at this
end Go.Proofs.YteppnjgobaggaaaGreat
