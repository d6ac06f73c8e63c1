/- Rules: strings that are put together, 64-bit numbers, bytes that become a string; numbers in words, words joined. -/
import Derived.Test.YtkjpnmodlmlhdaaGreatDoorQAI
import Derived.Test.YtkjpnmodlmlhdaaGreatDoorQAE
import Derived.Lib.SlBytesRow
import Derived.Shelf.Strconv.Itoa3
import Derived.Shelf.Strings.OnBuilder
import Derived.Test.YtkjpnmodlmlhdaaGreatDoorQAA
namespace Go.Proofs.YtkjpnmodlmlhdaaGreatDoor
set_option linter.unusedSimpArgs false
set_option linter.unusedVariables false
set_option linter.unnecessarySimpa false
set_option linter.unusedSectionVars false
set_option maxRecDepth 100000
open Go Go.RowKit Go.Am Go.Proofs.Grow Go.Sort
abbrev vL (l : List UInt8) : AV := .d (.v (.string ⟨⟨l⟩⟩))
abbrev vU8 (n : Int) : AV := .d (.v (.int .u64 n))
section
variable {o : Oper} {t t' : TypeId} {x y : Operand} {T : Nat → Option AV} {M : Nat → Option AO} {P : Program} {tbl : List (Nat × TI)}
theorem step_bin {op : BinOp} {u v r : Value} (ho : o.op = .binOp op t x y t') (hx : evA T x = some (.d (.v u))) (hy : evA T y = some (.d (.v v))) (hg : ∀ w, (eqGuard op t x y u v).run P w = .ok () w) (hr : ∀ w, (binOp op t u v).run P w = .ok r w) : StepOK P o T M ⟨.d (.v r), [], []⟩ :=
  step_read [] fun cx μ T' M' ac w h hT _ => by
    have h1 := (h.ev (x := x) hT (by simp [ho, Op.operands]) hx).val
    have h2 := (h.ev (x := y) hT (by simp [ho, Op.operands]) hy).val
    refine ⟨r, ?_, .d (.v r)⟩
    simp only [execOp, ho, h1, h2, Sem.run_bind, hg, Result.andThen_ok, hr, Sem.run_pure]
theorem bytes_app (a b : List UInt8) : (⟨⟨a⟩⟩ : ByteArray) ++ (⟨⟨b⟩⟩ : ByteArray) = ⟨⟨a ++ b⟩⟩ := by
  apply ByteArray.ext
  apply Array.toList_inj.1
  simp
theorem cat_step {a b : List UInt8} (ho : o.op = .binOp .add t x y t') (hx : evA T x = some (vL a)) (hy : evA T y = some (vL b)) (h : a.length + b.length ≤ 1000000 := by exact num) : StepOK P o T M ⟨vL (a ++ b), [], []⟩ :=
  step_bin ho hx hy (fun w => run_guard_str _ _ _ _ _ _ w) fun w => by
    have h1 : ¬ (((⟨⟨a⟩⟩ : ByteArray).size + (⟨⟨b⟩⟩ : ByteArray).size : Nat) : Int) > IntKind.i64.max := by
      have e1 : (⟨⟨a⟩⟩ : ByteArray).size = a.length := by simp [ByteArray.size]
      have e2 : (⟨⟨b⟩⟩ : ByteArray).size = b.length := by simp [ByteArray.size]
      have e3 : IntKind.i64.max = 9223372036854775807 := by decide
      rw [e1, e2, e3]; omega
    simp only [binOp, Op.stringOp, if_neg h1, bytes_app, Sem.run_pure]
theorem geq_step {a b : List UInt8} (ho : o.op = .binOp .geq t x y t') (hx : evA T x = some (vL a)) (hy : evA T y = some (vL b)) : StepOK P o T M ⟨vB (!Op.bytesLess a b), [], []⟩ :=
  step_bin ho hx hy (fun w => run_guard_str _ _ _ _ _ _ w) fun w => by
    have e1 : (⟨⟨a⟩⟩ : ByteArray).toList = a := Lib.toList_data ⟨⟨a⟩⟩
    have e2 : (⟨⟨b⟩⟩ : ByteArray).toList = b := Lib.toList_data ⟨⟨b⟩⟩
    simp only [binOp, Op.stringOp, e1, e2, Sem.run_pure]
def xorU (a b : Int) : Int := IntKind.u64.wrap ((BitVec.ofInt 64 a ^^^ BitVec.ofInt 64 b).toNat : Int)
theorem xorU_step {a b : Int} (ho : o.op = .binOp .xor t x y t') (hx : evA T x = some (vU8 a)) (hy : evA T y = some (vU8 b)) : StepOK P o T M ⟨vU8 (xorU a b), [], []⟩ :=
  step_bin ho hx hy (fun w => run_guard_int _ _ _ _ _ _ _ w) fun w => by simp only [binOp, Op.intBits]; rfl
def shrU (a q : Int) : Int := a.fdiv (2 ^ (min q.toNat 64))
theorem shrU_step {a q : Int} {k : IntKind} (ho : o.op = .binOp .shr t x y t') (hx : evA T x = some (vU8 a)) (hy : evA T y = some (.d (.v (.int k q)))) (h0 : 0 ≤ q := by exact num) : StepOK P o T M ⟨vU8 (shrU a q), [], []⟩ :=
  step_bin ho hx hy (fun w => by unfold eqGuard; simp) fun w => by
    have h1 : ¬ q < 0 := by omega
    simp [binOp, Op.shift, shrU, IntKind.bits, h1]
end
/-- The hash of bytes. -/
def hashF (h : Int) : List UInt8 → Int
  | [] => h
  | b :: l => hashF (IntKind.u64.wrap (xorU h (IntKind.u64.wrap (b.toNat : Int)) * 1099511628211)) l
def headF (key : Int) : List UInt8 := (List.range 8).map fun i : Nat => UInt8.ofNat (IntKind.u8.wrap (shrU key (56 - 8 * (i : Int)))).toNat
def tagF (ks : List Int) (k : Int) (b : List UInt8) : Int := hashF 14695981039346656037 (headF (nth ks k.toNat) ++ b)
theorem hash_take (h : Int) : ∀ (l : List UInt8) {k : Nat}, k < l.length → hashF h (l.take (k + 1)) = IntKind.u64.wrap (xorU (hashF h (l.take k)) (IntKind.u64.wrap ((nth l k).toNat : Int)) * 1099511628211) := by
  intro l
  induction l generalizing h with
  | nil => intro k hk; simp at hk
  | cons b l ih =>
    intro k hk
    cases k with
    | zero => simp [hashF, nth]
    | succ k =>
      have := ih (IntKind.u64.wrap (xorU h (IntKind.u64.wrap (b.toNat : Int)) * 1099511628211)) (k := k) (by simpa using hk)
      simpa [hashF, nth] using this
def rB (c : UInt8) : List D := [.v (.int .u8 c.toNat)]
abbrev lB (l : List UInt8) : AV := .d (.rows 1 (l.map rB))
section
variable {o : Oper} {x : Operand} {T : Nat → Option AV} {M : Nat → Option AO}
theorem s2b_step {l : List UInt8} (ho : o.op = .convert 9 149 x) (hx : evA T x = some (vL l)) (h3 : true = true) (hl : l.length ≤ 1000000 := by exact num) : StepOK Tryz.prog o T M ⟨lB l, [], []⟩ :=
  step_s2b (el := 5) ho hx Tryz.underlying9 Tryz.underlying149 Tryz.underlying5 (by simp [ByteArray.size]; unfold maxLen; omega)
theorem b2s_step {l : List UInt8} (ho : o.op = .convert 149 9 x) (hx : evA T x = some (lB l)) (h3 : true = true) (hl : 0 < l.length := by exact num) : StepOK Tryz.prog o T M ⟨vL l, [], []⟩ :=
  step_read [] fun cx μ T' M' a w h hT _ => by
    have hx2 : evA T x = some (.d (.rows 1 (l.map rB))) := hx
    have h1 := h.ev (x := x) hT (by simp [ho, Op.operands]) hx2
    generalize hv : a.eval x = v at h1
    generalize hrs : l.map rB = rs at h1
    have hlen0 : rs.length = l.length := by rw [← hrs, List.length_map]
    cases h1 with
    | d h2 =>
      cases h2 with
      | nil sz aa cap hc => simp at hlen0; omega
      | rows sz rs b off cap vs hne hcap hlen hb hlt hsz hcell hone hval =>
        have hby : Lib.Bytes w b off ⟨⟨l⟩⟩ := fun i hi => by
          have hi' : i < l.length := by simpa [ByteArray.size] using hi
          have hr : rs[i]? = some (rB l[i]) := by rw [← hrs]; simp [hi']
          have a0 := hcell i _ 0 _ hr rfl
          have b0 := hval i _ 0 _ hr rfl
          generalize vs i 0 = x0 at a0 b0
          cases b0 with
          | v =>
            have a1 : w.cell? ⟨b, off + i, none⟩ = some (.int .u8 (l[i].toNat : Int)) := by simpa using a0
            exact a1
        have e : rs.length = (⟨⟨l⟩⟩ : ByteArray).size := by rw [hlen0]; simp [ByteArray.size]
        have hr := Lib.run_convert_whole (P := Tryz.prog) w _ _ _ Tryz.underlying149 Tryz.underlying5 Tryz.underlying9 b off ⟨⟨l⟩⟩ hby cap
        refine ⟨.string ⟨⟨l⟩⟩, ?_, .d (.v _)⟩
        rw [e] at hv
        simp only [execOp, ho, hv, Sem.run_bind, hr, Result.andThen_ok, Sem.run_pure]
end
end Go.Proofs.YtkjpnmodlmlhdaaGreatDoor
/- Contracts: numbers in words, words joined (both off the shelf). -/
namespace Go.Proofs.YtkjpnmodlmlhdaaGreatDoor
set_option linter.unusedSimpArgs false
set_option linter.unusedVariables false
set_option linter.unnecessarySimpa false
set_option linter.unusedSectionVars false
set_option maxRecDepth 100000
open Go Go.RowKit Go.Am Go.Proofs.Grow Go.Shelf Go.Sort
def renJ : Ren := ⟨fun | 156 => 135 | 165 => 182 | 166 => 183 | 169 => 184 | 240 => 224 | 241 => 225 | 276 => 245 | 277 => 246 | n => n, fun | 0 => 0 | 3 => 3 | 4 => 4 | 5 => 5 | 9 => 9 | 20 => 20 | 31 => 134 | 37 => 149 | 70 => 221 | 72 => 223 | 75 => 226 | 76 => 227 | 80 => 229 | 127 => 255 | 164 => 265 | n => n, fun | 1 => 1 | 3 => 2 | 4 => 3 | 15 => 6 | 16 => 7 | 17 => 0 | 18 => 4 | 19 => 5 | n => n⟩
theorem layJ : Lays.n156 Tryz.prog renJ where
  mixed := hmix
  f156 := Tryz.func135.trans (congrArg some (by kernel_rfl))
  f165 := Tryz.func182.trans (congrArg some (by kernel_rfl))
  f166 := Tryz.func183.trans (congrArg some (by kernel_rfl))
  f169 := Tryz.func184.trans (congrArg some (by kernel_rfl))
  f240 := Tryz.func224.trans (congrArg some (by kernel_rfl))
  f241 := Tryz.func225.trans (congrArg some (by kernel_rfl))
  f276 := Tryz.func245.trans (congrArg some (by kernel_rfl))
  f277 := Tryz.func246.trans (congrArg some (by kernel_rfl))
  t0 := Tryz.underlying0
  a0 := Tryz.isAgg0
  z0 := Tryz.sizeOf0
  v0 := Tryz.zeroValue0
  t3 := Tryz.underlying3
  a3 := Tryz.isAgg3
  z3 := Tryz.sizeOf3
  v3 := Tryz.zeroValue3
  t4 := Tryz.underlying4
  a4 := Tryz.isAgg4
  z4 := Tryz.sizeOf4
  v4 := Tryz.zeroValue4
  t9 := Tryz.underlying9
  a9 := Tryz.isAgg9
  z9 := Tryz.sizeOf9
  v9 := Tryz.zeroValue9
  t20 := Tryz.underlying20
  a20 := Tryz.isAgg20
  z20 := Tryz.sizeOf20
  v20 := Tryz.zeroValue20
  t31 := Tryz.underlying134
  a31 := Tryz.isAgg134
  z31 := Tryz.sizeOf134
  v31 := Tryz.zeroValue134
  t37 := Tryz.underlying149
  a37 := Tryz.isAgg149
  z37 := Tryz.sizeOf149
  v37 := Tryz.zeroValue149
  t70 := Tryz.underlying221
  a70 := Tryz.isAgg221
  z70 := Tryz.sizeOf221
  v70 := Tryz.zeroValue221
  t72 := Tryz.underlying223
  a72 := Tryz.isAgg223
  z72 := Tryz.sizeOf223
  v72 := Tryz.zeroValue223
  t75 := Tryz.underlying226
  a75 := Tryz.isAgg226
  z75 := Tryz.sizeOf226
  v75 := Tryz.zeroValue226
  t76 := Tryz.underlying227
  a76 := Tryz.isAgg227
  z76 := Tryz.sizeOf227
  v76 := Tryz.zeroValue227
  t127 := Tryz.underlying255
  a127 := Tryz.isAgg255
  z127 := Tryz.sizeOf255
  v127 := Tryz.zeroValue255
  t164 := Tryz.underlying265
  a164 := Tryz.isAgg265
  z164 := Tryz.sizeOf265
  v164 := Tryz.zeroValue265
theorem extJ : Builder.Extra Tryz.prog renJ where
  sizeBuilder := by kernel_rfl
  liesBuilder := by kernel_rfl
  t5 := Tryz.underlying5
  a5 := Tryz.isAgg5
  z5 := Tryz.sizeOf5
  v5 := Tryz.zeroValue5
  infoByte := by kernel_rfl
  cellsByte := by kernel_rfl
  sizeByte := by kernel_rfl
  neB5 := by decide
def renI : Ren := ⟨fun | 129 => 145 | 171 => 60 | 243 => 97 | 246 => 134 | 283 => 178 | 284 => 179 | 285 => 180 | 286 => 181 | 317 => 220 | 318 => 221 | 319 => 222 | 320 => 223 | 337 => 243 | 338 => 244 | n => n, fun | 0 => 0 | 2 => 2 | 3 => 3 | 4 => 4 | 5 => 5 | 9 => 9 | 20 => 20 | 37 => 149 | 46 => 159 | 51 => 193 | 53 => 38 | 171 => 217 | 173 => 219 | 212 => 253 | 213 => 254 | 232 => 285 | 233 => 286 | n => n, fun | 1 => 1 | 3 => 2 | 4 => 3 | 15 => 6 | 16 => 7 | 17 => 0 | 18 => 4 | 19 => 5 | n => n⟩
theorem layI : Lays.n171 Tryz.prog renI where
  mixed := hmix
  f129 := Tryz.func145.trans (congrArg some (by kernel_rfl))
  f171 := Tryz.func60.trans (congrArg some (by kernel_rfl))
  f243 := Tryz.func97.trans (congrArg some (by kernel_rfl))
  f246 := Tryz.func134.trans (congrArg some (by kernel_rfl))
  f283 := Tryz.func178.trans (congrArg some (by kernel_rfl))
  f284 := Tryz.func179.trans (congrArg some (by kernel_rfl))
  f285 := Tryz.func180.trans (congrArg some (by kernel_rfl))
  f286 := Tryz.func181.trans (congrArg some (by kernel_rfl))
  f317 := Tryz.func220.trans (congrArg some (by kernel_rfl))
  f318 := Tryz.func221.trans (congrArg some (by kernel_rfl))
  f319 := Tryz.func222.trans (congrArg some (by kernel_rfl))
  f320 := Tryz.func223.trans (congrArg some (by kernel_rfl))
  f337 := Tryz.func243.trans (congrArg some (by kernel_rfl))
  f338 := Tryz.func244.trans (congrArg some (by kernel_rfl))
  t0 := Tryz.underlying0
  a0 := Tryz.isAgg0
  z0 := Tryz.sizeOf0
  v0 := Tryz.zeroValue0
  t2 := Tryz.underlying2
  a2 := Tryz.isAgg2
  z2 := Tryz.sizeOf2
  v2 := Tryz.zeroValue2
  t3 := Tryz.underlying3
  a3 := Tryz.isAgg3
  z3 := Tryz.sizeOf3
  v3 := Tryz.zeroValue3
  t4 := Tryz.underlying4
  a4 := Tryz.isAgg4
  z4 := Tryz.sizeOf4
  v4 := Tryz.zeroValue4
  t5 := Tryz.underlying5
  a5 := Tryz.isAgg5
  z5 := Tryz.sizeOf5
  v5 := Tryz.zeroValue5
  t9 := Tryz.underlying9
  a9 := Tryz.isAgg9
  z9 := Tryz.sizeOf9
  v9 := Tryz.zeroValue9
  t20 := Tryz.underlying20
  a20 := Tryz.isAgg20
  z20 := Tryz.sizeOf20
  v20 := Tryz.zeroValue20
  t37 := Tryz.underlying149
  a37 := Tryz.isAgg149
  z37 := Tryz.sizeOf149
  v37 := Tryz.zeroValue149
  t46 := Tryz.underlying159
  a46 := Tryz.isAgg159
  z46 := Tryz.sizeOf159
  v46 := Tryz.zeroValue159
  t51 := Tryz.underlying193
  a51 := Tryz.isAgg193
  z51 := Tryz.sizeOf193
  v51 := Tryz.zeroValue193
  t53 := Tryz.underlying38
  a53 := Tryz.isAgg38
  z53 := Tryz.sizeOf38
  v53 := Tryz.zeroValue38
  t171 := Tryz.underlying217
  a171 := Tryz.isAgg217
  z171 := Tryz.sizeOf217
  v171 := Tryz.zeroValue217
  t173 := Tryz.underlying219
  a173 := Tryz.isAgg219
  z173 := Tryz.sizeOf219
  v173 := Tryz.zeroValue219
  t212 := Tryz.underlying253
  a212 := Tryz.isAgg253
  z212 := Tryz.sizeOf253
  v212 := Tryz.zeroValue253
  t213 := Tryz.underlying254
  a213 := Tryz.isAgg254
  z213 := Tryz.sizeOf254
  t232 := Tryz.underlying285
  a232 := Tryz.isAgg285
  z232 := Tryz.sizeOf285
  v232 := Tryz.zeroValue285
  t233 := Tryz.underlying286
  a233 := Tryz.isAgg286
  z233 := Tryz.sizeOf286
  v233 := Tryz.zeroValue286
  g17 := by kernel_rfl
  g18 := by kernel_rfl
  g19 := by kernel_rfl
theorem itoa_m (n : Nat) (hn : n < 100) : FnM Tryz.prog 60 [] [vI (n : Int)] (vL (Lib.decDigits n)) [] := FnM.wrap' rfl rfl fun w => (Any.strconv_Itoa_small layI n hn w).mono fun _ _ ⟨h, k⟩ => ⟨h, k.symm⟩
/-- A contract that gives a plain value, from the world's side. -/
theorem fnm_v {f : FuncId} {ys : List AV} {r : Value} (h : ∀ (H : Nat → Prop) (μ : Nat → Option Value) (w : World) (vs : List Value), VRs H μ w ys vs → Calls Tryz.prog f vs.toArray w fun e w' => e = .returned r ∧ Below w.heap.size w w') : FnM Tryz.prog f [] ys (.d (.v r)) [] := by
  intro H0 μ w vs hl hI
  refine (h _ _ w vs (args_vrs hl hI)).mono ?_
  rintro e w' ⟨rfl, hb⟩
  refine ⟨_, μ, rfl, ?_⟩
  have hno : ∀ b, ¬ Hot μ (lk ([] : List (Nat × AO))) b := by rintro b ⟨g, o, v, h1, _⟩; simp [lk] at h1
  refine ⟨fun u x hu => ?_, fun g o hg => by simp [lk] at hg, hI.inj, fun b hh => (hno b hh).elim, ⟨hb.os, hb.tape, hb.output, hb.size, fun k hk _ => hb.block k hk⟩, hI.free, hI.hs, hI.base, rfl, rfl⟩
  simp only [lk] at hu
  split at hu
  · rename_i hbq
    cases hu
    have := Nat.eq_of_beq_eq_true hbq
    subst this
    exact .d (.v _)
  · cases hu
def rW (x : List UInt8) : List D := [.v (.string ⟨⟨x⟩⟩)]
abbrev lW (l : List (List UInt8)) : AV := .d (.rows 1 (l.map rW))
theorem map_w (l : List (List UInt8)) : (l.map fun x => (⟨⟨x⟩⟩ : ByteArray)).map (·.data.toList) = l := by
  rw [List.map_map]; exact List.map_id'' (fun _ => rfl) l
theorem join_m (l : List (List UInt8)) (sep : List UInt8) (hl : l.length ≤ 1000) (hj : (Lib.join l sep).length ≤ 1000000) : FnM Tryz.prog 135 [] [lW l, vL sep] (vL (Lib.join l sep)) [] := fnm_v fun H μ w vs hv => by
  obtain ⟨hlen, hat⟩ := hv
  match vs, hlen with
  | [v, u], _ =>
    have h0 : VR H μ w (.d (.rows 1 (l.map rW))) v := hat 0 _ _ rfl rfl
    have h1 : VR H μ w (vL sep) u := hat 1 _ _ rfl rfl
    have e1 : u = .string ⟨⟨sep⟩⟩ := by
      cases h1 with
      | d h => cases h with
        | v => rfl
    subst e1
    generalize hrs : l.map rW = rs at h0
    have hlen0 : rs.length = l.length := by rw [← hrs, List.length_map]
    cases h0 with
    | d h2 =>
      cases h2 with
      | nil sz aa cap hc =>
        obtain rfl : l = [] := by simpa using hrs
        refine (Any.strings_Join_none layJ extJ aa cap ⟨⟨sep⟩⟩ w).mono ?_
        rintro e w' ⟨rfl, rfl⟩
        exact ⟨rfl, Below.refl _ _⟩
      | rows sz rs b off cap vs hne hcap hlen hb hlt hsz hcell hone hval =>
        have hc : ∀ (j : Nat) x, (l.map fun x => (⟨⟨x⟩⟩ : ByteArray))[j]? = some x → w.cell? ⟨b, off + j, none⟩ = some (.string x) := by
          intro j x hx
          have hj' : j < l.length := by have := (List.getElem?_eq_some_iff.1 hx).1; simpa using this
          have hr : rs[j]? = some (rW l[j]) := by rw [← hrs]; simp [hj']
          have a0 := hcell j _ 0 _ hr rfl
          have b0 := hval j _ 0 _ hr rfl
          generalize vs j 0 = x0 at a0 b0
          have e : x = ⟨⟨l[j]⟩⟩ := by simp [hj'] at hx; exact hx.symm
          cases b0 with
          | v => rw [e]; simpa using a0
        have e : rs.length = (l.map fun x => (⟨⟨x⟩⟩ : ByteArray)).length := by rw [hlen0, List.length_map]
        have h := Any.strings_Join layJ extJ b off cap (l.map fun x => (⟨⟨x⟩⟩ : ByteArray)) ⟨⟨sep⟩⟩ w hc hlt (by rw [List.length_map]; omega) (by rw [← e]; exact hcap) (by rw [map_w]; show (Lib.join l sep).length ≤ _; omega)
        rw [map_w, ← e] at h
        refine h.mono ?_
        rintro e w' ⟨rfl, hb⟩
        exact ⟨rfl, hb⟩
end Go.Proofs.YtkjpnmodlmlhdaaGreatDoor
/- Plain law: registries as sets of declarations. No program stands here. -/
namespace Go.Proofs.YtkjpnmodlmlhdaaGreatDoor.Gos
set_option linter.unusedSimpArgs false
set_option linter.unusedVariables false
set_option linter.unnecessarySimpa false
set_option linter.unusedSectionVars false
set_option maxRecDepth 100000
/-- A strict order on what is of interest, with numbers. -/
structure Ord (α : Type) where
  lt : α → α → Bool
  num : α → Int
  U : α → Prop
  irr : ∀ a, lt a a = false
  tr : ∀ {a b c}, lt a b = true → lt b c = true → lt a c = true
  tri : ∀ {a b}, U a → U b → lt a b = true ∨ a = b ∨ lt b a = true
  nm : ∀ {a b}, lt a b = true → num a ≤ num b
section
variable {α : Type} (O : Ord α)
/-- In a set, with at most one smaller one of the same number. -/
def L2 (S : α → Prop) (d : α) : Prop := S d ∧ ∀ e1 e2, S e1 → S e2 → O.num e1 = O.num d → O.num e2 = O.num d → O.lt e1 e2 = true → O.lt e2 d = true → False
def Srt : List α → Prop := List.Pairwise fun a b => O.lt a b = true
/-- The list of a set. -/
structure Can (l : List α) (S : α → Prop) : Prop where
  s : Srt O l
  m : ∀ d, d ∈ l ↔ L2 O S d
  u : ∀ d, S d → O.U d
  f : ∃ X : List α, ∀ d, S d → d ∈ X
variable {O}
theorem srt_ext : ∀ {l k : List α}, Srt O l → Srt O k → (∀ d, d ∈ l ↔ d ∈ k) → l = k
  | [], [], _, _, _ => rfl
  | [], b :: k, _, _, h => by have := (h b).2 (by simp); cases this
  | a :: l, [], _, _, h => by have := (h a).1 (by simp); cases this
  | a :: l, b :: k, hl, hk, h => by
    obtain ⟨h1, h2⟩ := List.pairwise_cons.1 hl
    obtain ⟨k1, k2⟩ := List.pairwise_cons.1 hk
    have e : a = b := by
      rcases List.mem_cons.1 ((h a).1 (by simp)) with e | e
      · exact e
      · rcases List.mem_cons.1 ((h b).2 (by simp)) with e' | e'
        · exact e'.symm
        · have := O.tr (k1 a e) (h1 b e')
          rw [O.irr] at this; cases this
    subst e
    rw [srt_ext h2 k2 fun d => ?_]
    constructor
    · intro hd
      rcases List.mem_cons.1 ((h d).1 (List.mem_cons_of_mem _ hd)) with rfl | e
      · have := h1 d hd; rw [O.irr] at this; cases this
      · exact e
    · intro hd
      rcases List.mem_cons.1 ((h d).2 (List.mem_cons_of_mem _ hd)) with rfl | e
      · have := k1 d hd; rw [O.irr] at this; cases this
      · exact e
theorem Can.unique {l k : List α} {S T : α → Prop} (h : Can O l S) (g : Can O k T) (e : ∀ d, S d ↔ T d) : l = k := by
  have : S = T := funext fun d => propext (e d)
  subst this
  exact srt_ext h.s g.s fun d => (h.m d).trans (g.m d).symm
/-- The number of those below, in a finite list. -/
def bel (X : List α) (e : α) : Nat := (X.filter fun x => O.lt x e).length
theorem bel_lt {X : List α} {a e : α} (ha : a ∈ X) (h : O.lt a e = true) : bel (O := O) X a < bel (O := O) X e := by
  unfold bel
  induction X with
  | nil => cases ha
  | cons x X ih =>
    have hm : ∀ y : List α, (y.filter fun x => O.lt x a).length ≤ (y.filter fun x => O.lt x e).length := fun y => by
      induction y with
      | nil => simp
      | cons z y ihy =>
        simp only [List.filter_cons]
        cases h1 : O.lt z a with
        | true => rw [O.tr h1 h]; simp; omega
        | false => cases O.lt z e <;> simp <;> omega
    rcases List.mem_cons.1 ha with rfl | ha
    · simp only [List.filter_cons, O.irr, h, if_true, Bool.false_eq_true, if_false, List.length_cons]
      have := hm X; omega
    · have := ih ha
      simp only [List.filter_cons]
      cases h1 : O.lt x a with
      | true => rw [O.tr h1 h]; simp; omega
      | false => cases O.lt x e <;> simp <;> omega
/-- What is in a set is in its list, or two smaller ones are. -/
theorem cl {S : α → Prop} (f : ∃ X : List α, ∀ d, S d → d ∈ X) : ∀ e, S e → L2 O S e ∨ ∃ e1 e2, L2 O S e1 ∧ L2 O S e2 ∧ O.num e1 = O.num e ∧ O.num e2 = O.num e ∧ O.lt e1 e2 = true ∧ O.lt e2 e = true := by
  obtain ⟨X, hX⟩ := f
  suffices h : ∀ n e, bel (O := O) X e ≤ n → S e → L2 O S e ∨ ∃ e1 e2, L2 O S e1 ∧ L2 O S e2 ∧ O.num e1 = O.num e ∧ O.num e2 = O.num e ∧ O.lt e1 e2 = true ∧ O.lt e2 e = true from fun e he => h _ e (Nat.le_refl _) he
  intro n
  induction n with
  | zero =>
    intro e hn he
    refine .inl ⟨he, fun e1 e2 h1 h2 _ _ _ h4 => ?_⟩
    have := bel_lt (hX e2 h2) h4
    omega
  | succ n ih =>
    intro e hn he
    rcases Classical.em (L2 O S e) with h | h
    · exact .inl h
    · right
      have : ∃ e1 e2, S e1 ∧ S e2 ∧ O.num e1 = O.num e ∧ O.num e2 = O.num e ∧ O.lt e1 e2 = true ∧ O.lt e2 e = true := by
        rcases Classical.em (∃ e1 e2, S e1 ∧ S e2 ∧ O.num e1 = O.num e ∧ O.num e2 = O.num e ∧ O.lt e1 e2 = true ∧ O.lt e2 e = true) with k | k
        · exact k
        · exact absurd ⟨he, fun e1 e2 h1 h2 h3 h4 h5 h6 => k ⟨e1, e2, h1, h2, h3, h4, h5, h6⟩⟩ h
      obtain ⟨e1, e2, s1, s2, n1, n2, l1, l2⟩ := this
      have b2 := bel_lt (hX e2 s2) l2
      have b1 := bel_lt (hX e1 s1) l1
      rcases ih e2 (by omega) s2 with q2 | ⟨f1, f2, g1, g2, g3, g4, g5, g6⟩
      · rcases ih e1 (by omega) s1 with q1 | ⟨f1, f2, g1, g2, g3, g4, g5, g6⟩
        · exact ⟨e1, e2, q1, q2, n1, n2, l1, l2⟩
        · exact ⟨f1, f2, g1, g2, g3.trans n1, g4.trans n1, g5, O.tr g6 (O.tr l1 l2)⟩
      · exact ⟨f1, f2, g1, g2, g3.trans n2, g4.trans n2, g5, O.tr g6 l2⟩
/-- Two sets with the same list. -/
theorem l2_eq {S T : α → Prop} (f : ∃ X : List α, ∀ d, T d → d ∈ X) (h1 : ∀ d, S d → T d) (h2 : ∀ d, L2 O T d → S d) : ∀ d, L2 O S d ↔ L2 O T d := by
  intro d
  constructor
  · rintro ⟨a, b⟩
    refine ⟨h1 d a, fun e1 e2 s1 s2 n1 n2 l1 l2 => ?_⟩
    rcases cl f e2 s2 with q2 | ⟨f1, f2, g1, g2, g3, g4, g5, g6⟩
    · rcases cl f e1 s1 with q1 | ⟨f1, f2, g1, g2, g3, g4, g5, g6⟩
      · exact b e1 e2 (h2 _ q1) (h2 _ q2) n1 n2 l1 l2
      · exact b f1 f2 (h2 _ g1) (h2 _ g2) (g3.trans n1) (g4.trans n1) g5 (O.tr g6 (O.tr l1 l2))
    · exact b f1 f2 (h2 _ g1) (h2 _ g2) (g3.trans n2) (g4.trans n2) g5 (O.tr g6 l2)
  · intro h
    exact ⟨h2 d h, fun e1 e2 s1 s2 => h.2 e1 e2 (h1 _ s1) (h1 _ s2)⟩
theorem Can.of_eq {l : List α} {S T : α → Prop} (h : Can O l S) (hu : ∀ d, T d → O.U d) (f : ∃ X : List α, ∀ d, T d → d ∈ X) (h1 : ∀ d, S d → T d) (h2 : ∀ d, L2 O T d → S d) : Can O l T :=
  ⟨h.s, fun d => (h.m d).trans (l2_eq f h1 h2 d), hu, f⟩
theorem fin_or {S T : α → Prop} (f : ∃ X : List α, ∀ d, S d → d ∈ X) (g : ∃ X : List α, ∀ d, T d → d ∈ X) : ∃ X : List α, ∀ d, S d ∨ T d → d ∈ X := by
  obtain ⟨X, hX⟩ := f
  obtain ⟨Y, hY⟩ := g
  exact ⟨X ++ Y, fun d h => by rcases h with h | h <;> simp [hX, hY, h]⟩
/-- Lists that are put together. -/
theorem Can.merge {l k m : List α} {S T : α → Prop} (h : Can O l S) (g : Can O k T) (hm : Can O m fun d => d ∈ l ∨ d ∈ k) : Can O m fun d => S d ∨ T d := by
  refine hm.of_eq (fun d hd => hd.elim (h.u d) (g.u d)) (fin_or h.f g.f) (fun d hd => hd.imp (fun q => ((h.m d).1 q).1) (fun q => ((g.m d).1 q).1)) fun d hd => ?_
  obtain ⟨a, b⟩ := hd
  rcases a with a | a
  · exact .inl ((h.m d).2 ⟨a, fun e1 e2 s1 s2 => b e1 e2 (.inl s1) (.inl s2)⟩)
  · exact .inr ((g.m d).2 ⟨a, fun e1 e2 s1 s2 => b e1 e2 (.inr s1) (.inr s2)⟩)
/-- What the other one lacks. -/
theorem Can.diff {l k m w : List α} {S T : α → Prop} (h : Can O l S) (g : Can O k T) (hm : Can O m fun d => S d ∨ T d) (hw : Can O w fun d => T d ∨ (d ∈ l ∧ d ∉ k ∧ d ∈ m)) : Can O w fun d => S d ∨ T d := by
  refine hw.of_eq hm.u hm.f (fun d hd => ?_) fun d hd => ?_
  · rcases hd with hd | ⟨hd, _⟩
    · exact .inr hd
    · exact .inl ((h.m d).1 hd).1
  · rcases Classical.em (T d) with ht | ht
    · exact .inl ht
    · have hs : S d := hd.1.resolve_right ht
      exact .inr ⟨(h.m d).2 ⟨hs, fun e1 e2 s1 s2 => hd.2 e1 e2 (.inl s1) (.inl s2)⟩, fun q => ht ((g.m d).1 q).1, (hm.m d).2 hd⟩
end
end Go.Proofs.YtkjpnmodlmlhdaaGreatDoor.Gos
/- Plain law: what stays of a sorted list: of each number the first two. No program stands here. -/
namespace Go.Proofs.YtkjpnmodlmlhdaaGreatDoor.Gos
set_option linter.unusedSimpArgs false
set_option linter.unusedVariables false
set_option linter.unnecessarySimpa false
set_option linter.unusedSectionVars false
set_option maxRecDepth 100000
section
variable {α : Type} [Inhabited α] (O : Ord α)
/-- One more, behind a list: the list is given from its end on. -/
def dStep (eqv : α → α → Bool) (r : List α) (d : α) : List α := match r with
  | [] => [d]
  | [a] => if eqv a d = true then [a] else [d, a]
  | a :: b :: q => if eqv a d = true ∨ O.num b = O.num d then a :: b :: q else d :: a :: b :: q
def dFold (eqv : α → α → Bool) : List α → List α → List α
  | [], r => r
  | d :: l, r => dFold eqv l (dStep O eqv r d)
variable {O}
/-- What holds of the list so far: it is the list of what came. -/
structure DInv (p : List α) (r : List α) : Prop where
  s : List.Pairwise (fun a b => O.lt b a = true) r
  m : ∀ d, d ∈ r ↔ L2 O (· ∈ p) d
theorem dInv_step {eqv : α → α → Bool} {p r : List α} {d : α} (he : ∀ a, a ∈ p → (eqv a d = true ↔ a = d)) (hu : ∀ a, a ∈ p → O.U a) (hd : O.U d) (hs : ∀ a, a ∈ p → O.lt d a = false) (h : DInv (O := O) p r) : DInv (O := O) (p ++ [d]) (dStep O eqv r d) := by
  have hrp : ∀ a, a ∈ r → a ∈ p := fun a ha => ((h.m a).1 ha).1
  have fp : ∃ X : List α, ∀ e, e ∈ p → e ∈ X := ⟨p, fun _ h => h⟩
  have hlt : ∀ a, a ∈ p → a ≠ d → O.lt a d = true := fun a ha hn => by
    rcases O.tri (hu a ha) hd with k | k | k
    · exact k
    · exact absurd k hn
    · rw [hs a ha] at k; cases k
  -- where nothing new comes
  have old : (d ∈ p ∨ ∃ e1 e2, e1 ∈ r ∧ e2 ∈ r ∧ O.num e1 = O.num d ∧ O.num e2 = O.num d ∧ O.lt e1 e2 = true ∧ O.lt e2 d = true) → DInv (O := O) (p ++ [d]) r := fun hq => ⟨h.s, fun x => by
    rw [h.m]
    rcases Classical.em (d ∈ p) with hp | hp
    · have : ∀ y, y ∈ p ++ [d] ↔ y ∈ p := fun y => by
        rw [List.mem_append, List.mem_singleton]
        exact ⟨fun k => k.elim id fun k => k ▸ hp, .inl⟩
      have e : (fun y => y ∈ p ++ [d]) = (fun y => y ∈ p) := funext fun y => propext (this y)
      rw [e]
    · obtain ⟨e1, e2, r1, r2, n1, n2, l1, l2⟩ := hq.resolve_left hp
      constructor
      · rintro ⟨a, b⟩
        refine ⟨List.mem_append_left _ a, fun f1 f2 s1 s2 m1 m2 q1 q2 => ?_⟩
        have k2 : f2 ∈ p := by
          rcases List.mem_append.1 s2 with k | k
          · exact k
          · obtain rfl := List.mem_singleton.1 k
            rw [hs x a] at q2; cases q2
        have k1 : f1 ∈ p := by
          rcases List.mem_append.1 s1 with k | k
          · exact k
          · obtain rfl := List.mem_singleton.1 k
            rw [hs f2 k2] at q1; cases q1
        exact b f1 f2 k1 k2 m1 m2 q1 q2
      · rintro ⟨a, b⟩
        have hx : x ∈ p := by
          rcases List.mem_append.1 a with k | k
          · exact k
          · obtain rfl := List.mem_singleton.1 k
            exact (b e1 e2 (List.mem_append_left _ (hrp _ r1)) (List.mem_append_left _ (hrp _ r2)) n1 n2 l1 l2).elim
        exact ⟨hx, fun f1 f2 s1 s2 => b f1 f2 (List.mem_append_left _ s1) (List.mem_append_left _ s2)⟩⟩
  -- where it comes
  have new : d ∉ p → (¬ ∃ e1 e2, e1 ∈ r ∧ e2 ∈ r ∧ O.num e1 = O.num d ∧ O.num e2 = O.num d ∧ O.lt e1 e2 = true) → DInv (O := O) (p ++ [d]) (d :: r) := fun hp hq => ⟨List.pairwise_cons.2 ⟨fun a ha => hlt a (hrp a ha) fun e => hp (e ▸ hrp a ha), h.s⟩, fun x => by
    rw [List.mem_cons, h.m]
    constructor
    · rintro (rfl | ⟨a, b⟩)
      · refine ⟨by simp, fun f1 f2 s1 s2 m1 m2 q1 q2 => hq ?_⟩
        have k2 : f2 ∈ p := by
          rcases List.mem_append.1 s2 with k | k
          · exact k
          · obtain rfl := List.mem_singleton.1 k
            rw [O.irr] at q2; cases q2
        have k1 : f1 ∈ p := by
          rcases List.mem_append.1 s1 with k | k
          · exact k
          · obtain rfl := List.mem_singleton.1 k
            rw [hs f2 k2] at q1; cases q1
        rcases cl fp f2 k2 with w2 | ⟨g1, g2, w1, w2, w3, w4, w5, w6⟩
        · rcases cl fp f1 k1 with w1 | ⟨g1, g2, w1, w2, w3, w4, w5, w6⟩
          · exact ⟨f1, f2, (h.m _).2 w1, (h.m _).2 w2, m1, m2, q1⟩
          · exact ⟨g1, g2, (h.m _).2 w1, (h.m _).2 w2, w3.trans m1, w4.trans m1, w5⟩
        · exact ⟨g1, g2, (h.m _).2 w1, (h.m _).2 w2, w3.trans m2, w4.trans m2, w5⟩
      · refine ⟨List.mem_append_left _ a, fun f1 f2 s1 s2 m1 m2 q1 q2 => ?_⟩
        have k2 : f2 ∈ p := by
          rcases List.mem_append.1 s2 with k | k
          · exact k
          · obtain rfl := List.mem_singleton.1 k
            rw [hs x a] at q2; cases q2
        have k1 : f1 ∈ p := by
          rcases List.mem_append.1 s1 with k | k
          · exact k
          · obtain rfl := List.mem_singleton.1 k
            rw [hs f2 k2] at q1; cases q1
        exact b f1 f2 k1 k2 m1 m2 q1 q2
    · rintro ⟨a, b⟩
      rcases List.mem_append.1 a with k | k
      · exact .inr ⟨k, fun f1 f2 s1 s2 => b f1 f2 (List.mem_append_left _ s1) (List.mem_append_left _ s2)⟩
      · exact .inl (List.mem_singleton.1 k)⟩
  -- the greatest one so far stands at the end
  have top : d ∈ p → d ∉ r → ∃ e1 e2, e1 ∈ r ∧ e2 ∈ r ∧ O.num e1 = O.num d ∧ O.num e2 = O.num d ∧ O.lt e1 e2 = true ∧ O.lt e2 d = true := fun hp hn => by
    rcases cl fp d hp with w | ⟨g1, g2, w1, w2, w3, w4, w5, w6⟩
    · exact absurd ((h.m d).2 w) hn
    · exact ⟨g1, g2, (h.m _).2 w1, (h.m _).2 w2, w3, w4, w5, w6⟩
  have hnum : ∀ a, a ∈ p → O.num a ≤ O.num d := fun a ha => by
    rcases Classical.em (a = d) with rfl | k
    · exact Int.le_refl _
    · exact O.nm (hlt a ha k)
  match r, h, hrp, old, new, top with
  | [], h, hrp, old, new, top =>
    show DInv (O := O) (p ++ [d]) [d]
    refine new (fun hp => ?_) (fun ⟨e1, _, h1, _⟩ => by cases h1)
    obtain ⟨e1, _, h1, _⟩ := top hp (by simp)
    cases h1
  | [a], h, hrp, old, new, top =>
    have ha := hrp a (by simp)
    show DInv (O := O) (p ++ [d]) (if eqv a d = true then [a] else [d, a])
    split
    · rename_i k
      have := (he a ha).1 k
      exact old (.inl (this ▸ ha))
    · rename_i k
      refine new (fun hp => ?_) (fun ⟨e1, e2, h1, h2, _, _, h5⟩ => ?_)
      · have hn : d ∉ [a] := fun q => k ((he a ha).2 (List.mem_singleton.1 q).symm)
        obtain ⟨e1, e2, h1, h2, _, _, h5, _⟩ := top hp hn
        rw [List.mem_singleton.1 h1, List.mem_singleton.1 h2, O.irr] at h5; cases h5
      · rw [List.mem_singleton.1 h1, List.mem_singleton.1 h2, O.irr] at h5; cases h5
  | a :: b :: q, h, hrp, old, new, top =>
    have ha := hrp a (by simp)
    have hb := hrp b (by simp)
    obtain ⟨t1, t2⟩ := List.pairwise_cons.1 h.s
    obtain ⟨t3, t4⟩ := List.pairwise_cons.1 t2
    have hba := t1 b (by simp)
    show DInv (O := O) (p ++ [d]) (if eqv a d = true ∨ O.num b = O.num d then a :: b :: q else d :: a :: b :: q)
    split
    · rename_i k
      rcases Classical.em (a = d) with e | e
      · exact old (.inl (e ▸ ha))
      · have nb := k.resolve_left fun k => e ((he a ha).1 k)
        have na : O.num a = O.num d := by
          have k1 := O.nm hba
          have k2 := hnum a ha
          omega
        exact old (.inr ⟨b, a, by simp, by simp, nb, na, hba, hlt a ha e⟩)
    · rename_i k
      have ka : a ≠ d := fun e => k (.inl ((he a ha).2 e))
      have kb : O.num b ≠ O.num d := fun e => k (.inr e)
      -- two of this number would be the last ones
      have no2 : ¬ ∃ e1 e2, e1 ∈ a :: b :: q ∧ e2 ∈ a :: b :: q ∧ O.num e1 = O.num d ∧ O.num e2 = O.num d ∧ O.lt e1 e2 = true := fun ⟨e1, e2, h1, h2, n1, n2, l1⟩ => by
        have small : ∀ x, x ∈ b :: q → O.num x = O.num d → False := fun x hx hn => by
          rcases List.mem_cons.1 hx with rfl | hx
          · exact kb hn
          · have k1 := O.nm (t3 x hx)
            have k2 := hnum b hb
            omega
        rcases List.mem_cons.1 h1 with rfl | h1
        · rcases List.mem_cons.1 h2 with rfl | h2
          · rw [O.irr] at l1; cases l1
          · exact small e2 h2 n2
        · exact small e1 h1 n1
      refine new (fun hp => ?_) no2
      have hn : d ∉ a :: b :: q := fun hq => by
        rcases List.mem_cons.1 hq with e | hq
        · exact ka e.symm
        · have k1 : O.lt d a = true := t1 d hq
          rw [hs a ha] at k1; cases k1
      obtain ⟨e1, e2, h1, h2, h3, h4, h5, _⟩ := top hp hn
      exact no2 ⟨e1, e2, h1, h2, h3, h4, h5⟩
theorem dFold_inv {eqv : α → α → Bool} : ∀ (l p r : List α), (∀ a d, a ∈ p ++ l → d ∈ l → (eqv a d = true ↔ a = d)) → (∀ a, a ∈ p ++ l → O.U a) → List.Pairwise (fun a b => O.lt b a = false) (p ++ l) → DInv (O := O) p r → DInv (O := O) (p ++ l) (dFold O eqv l r)
  | [], p, r, _, _, _, h => by simpa [dFold] using h
  | d :: l, p, r, he, hu, hs, h => by
    have h1 := dInv_step (d := d) (fun a ha => he a d (by simp [ha]) (by simp)) (fun a ha => hu a (by simp [ha])) (hu d (by simp)) (fun a ha => (List.pairwise_append.1 hs).2.2 a ha d (by simp)) h
    have := dFold_inv l (p ++ [d]) (dStep O eqv r d) (fun a x ha hx => he a x (by simpa using ha) (by simp [hx])) (fun a ha => hu a (by simpa using ha)) (by simpa using hs) h1
    rw [dFold]
    simpa using this
/-- Of a sorted list: the list of what is in it. -/
theorem ded_can {eqv : α → α → Bool} {l : List α} (he : ∀ a d, a ∈ l → d ∈ l → (eqv a d = true ↔ a = d)) (hu : ∀ a, a ∈ l → O.U a) (hs : List.Pairwise (fun a b => O.lt b a = false) l) : Can O (dFold O eqv l []).reverse (· ∈ l) := by
  have h : DInv (O := O) ([] ++ l) (dFold O eqv l []) := dFold_inv l [] [] (by simpa using he) (by simpa using hu) (by simpa using hs) ⟨List.Pairwise.nil, fun d => ⟨fun h => (by cases h), fun h => (by cases h.1)⟩⟩
  rw [List.nil_append] at h
  exact ⟨List.pairwise_reverse.2 h.s, fun d => by rw [List.mem_reverse]; exact h.m d, hu, ⟨l, fun _ h => h⟩⟩
end
end Go.Proofs.YtkjpnmodlmlhdaaGreatDoor.Gos
/- Plain law: insertion sort. No program stands here. -/
namespace Go.Proofs.YtkjpnmodlmlhdaaGreatDoor.Gos
set_option linter.unusedSimpArgs false
set_option linter.unusedVariables false
set_option linter.unnecessarySimpa false
set_option linter.unusedSectionVars false
set_option maxRecDepth 100000
open Go.Proofs.Grow
section
variable {α : Type} [Inhabited α] (O : Ord α)
def swpG (l : List α) (j : Nat) : List α := (l.set (j + 1) (nth l j)).set j (nth l (j + 1))
def snkG : Nat → List α → List α
  | 0, l => l
  | j + 1, l => if O.lt (nth l (j + 1)) (nth l j) = true then snkG j (swpG l j) else l
def srtG (l : List α) : Nat → List α
  | 0 => l
  | k + 1 => snkG O (k + 1) (srtG l k)
theorem swpG_len (l : List α) (j : Nat) : (swpG l j).length = l.length := by simp [swpG]
theorem snkG_len : ∀ (j : Nat) (l : List α), (snkG O j l).length = l.length
  | 0, _ => rfl
  | j + 1, l => by
    unfold snkG
    split
    · rw [snkG_len j, swpG_len]
    · rfl
theorem srtG_len (l : List α) (k : Nat) : (srtG O l k).length = l.length := by
  induction k with
  | zero => rfl
  | succ k ih => unfold srtG; rw [snkG_len, ih]
theorem nth_at (P S : List α) (y : α) : nth (P ++ y :: S) P.length = y := by simp [nth]
theorem nth_at1 (P S : List α) (z y : α) : nth (P ++ z :: y :: S) (P.length + 1) = y := by
  have := nth_at (P ++ [z]) S y
  simpa using this
theorem swpG_mid (P S : List α) (z y : α) : swpG (P ++ z :: y :: S) P.length = P ++ y :: z :: S := by
  unfold swpG
  rw [nth_at, nth_at1]
  simp
variable {O}
theorem lt_as {a b : α} (h : O.lt a b = true) : O.lt b a = false := by
  cases h2 : O.lt b a
  · rfl
  · have := O.tr h h2; rw [O.irr] at this; cases this
theorem le_tr {a b c : α} (ha : O.U a) (hb : O.U b) (h : O.lt b a = false) (k : O.lt c b = false) : O.lt c a = false := by
  cases h2 : O.lt c a
  · rfl
  · rcases O.tri ha hb with e | e | e
    · rw [O.tr h2 e] at k; cases k
    · rw [e, k] at h2; cases h2
    · rw [e] at h; cases h
abbrev SrtW (l : List α) : Prop := List.Pairwise (fun a b => O.lt b a = false) l
theorem snk_put : ∀ (n : Nat) (P S : List α) (y : α), P.length = n → O.U y → (∀ x ∈ P, O.U x) → SrtW (O := O) P → ∃ Q, snkG O n (P ++ y :: S) = Q ++ S ∧ SrtW (O := O) Q ∧ ∀ x, x ∈ Q ↔ x = y ∨ x ∈ P
  | 0, P, S, y, hn, _, _, _ => by
    obtain rfl := List.eq_nil_of_length_eq_zero hn
    exact ⟨[y], rfl, List.pairwise_singleton _ _, fun x => by simp⟩
  | n + 1, P, S, y, hn, hy, hP, hs => by
    obtain ⟨R, z, rfl⟩ : ∃ R z, P = R ++ [z] := by
      rcases List.eq_nil_or_concat P with rfl | ⟨R, z, rfl⟩
      · simp at hn
      · exact ⟨R, z, by simp⟩
    have hR : R.length = n := by simpa using hn
    have hz : O.U z := hP z (by simp)
    obtain ⟨s1, s2, s3⟩ := List.pairwise_append.1 hs
    have hle : ∀ x, x ∈ R → O.lt z x = false := fun x hx => s3 x hx z (by simp)
    unfold snkG
    have e : (R ++ [z]) ++ y :: S = R ++ z :: y :: S := by simp
    rw [e, ← hR, nth_at1, nth_at, swpG_mid]
    split
    · rename_i hl
      obtain ⟨Q, q1, q2, q3⟩ := snk_put R.length R (z :: S) y rfl hy (fun x hx => hP x (by simp [hx])) s1
      refine ⟨Q ++ [z], by rw [q1]; simp, List.pairwise_append.2 ⟨q2, List.pairwise_singleton _ _, fun a ha b hb => ?_⟩, fun x => ?_⟩
      · obtain rfl := List.mem_singleton.1 hb
        rcases (q3 a).1 ha with rfl | h
        · exact lt_as hl
        · exact hle a h
      · simp only [List.mem_append, List.mem_singleton, q3]
        exact ⟨fun h => by rcases h with (h | h) | h <;> simp [h], fun h => by rcases h with h | h | h <;> simp [h]⟩
    · rename_i hl
      have hl : O.lt y z = false := by simpa using hl
      refine ⟨R ++ [z, y], by simp, ?_, fun x => ?_⟩
      · have : R ++ [z, y] = (R ++ [z]) ++ [y] := by simp
        rw [this]
        refine List.pairwise_append.2 ⟨hs, List.pairwise_singleton _ _, fun a ha b hb => ?_⟩
        obtain rfl := List.mem_singleton.1 hb
        rcases List.mem_append.1 ha with h | h
        · exact le_tr (hP a (by simp [h])) hz (hle a h) hl
        · rw [List.mem_singleton.1 h]; exact hl
      · simp only [List.mem_append, List.mem_cons, List.mem_nil_iff, or_false]
        exact ⟨fun h => by rcases h with h | h | h <;> simp [h], fun h => by rcases h with h | h | h <;> simp [h]⟩
theorem srt_put {l : List α} (hu : ∀ x ∈ l, O.U x) : ∀ k, k < l.length → ∃ Q, srtG O l k = Q ++ l.drop (k + 1) ∧ SrtW (O := O) Q ∧ Q.length = k + 1 ∧ ∀ x, x ∈ Q ↔ x ∈ l.take (k + 1)
  | 0, hk => by
    cases l with
    | nil => simp at hk
    | cons x r => exact ⟨[x], rfl, List.pairwise_singleton _ _, rfl, fun y => by simp⟩
  | k + 1, hk => by
    obtain ⟨Q, q1, q2, q3, q4⟩ := srt_put hu k (by omega)
    unfold srtG
    have hd : l.drop (k + 1) = nth l (k + 1) :: l.drop (k + 1 + 1) := drop_nth l (k + 1) hk
    rw [q1, hd]
    obtain ⟨R, r1, r2, r3⟩ := snk_put (k + 1) Q (l.drop (k + 1 + 1)) (nth l (k + 1)) q3 (hu _ (nth_mem l _ hk)) (fun x hx => hu x (List.mem_of_mem_take ((q4 x).1 hx))) q2
    have hlen : R.length = k + 1 + 1 := by
      have := congrArg List.length r1
      rw [snkG_len] at this
      simp at this
      omega
    refine ⟨R, r1, r2, hlen, fun x => ?_⟩
    rw [r3, q4, List.take_succ_eq_append_getElem hk, nth_getElem l (k + 1) hk, List.mem_append, List.mem_singleton]
    exact or_comm
/-- Sorted, with the same elements. -/
theorem srtG_ok {l : List α} (hu : ∀ x ∈ l, O.U x) : SrtW (O := O) (srtG O l (l.length - 1)) ∧ ∀ x, x ∈ srtG O l (l.length - 1) ↔ x ∈ l := by
  cases l with
  | nil => exact ⟨List.Pairwise.nil, fun x => Iff.rfl⟩
  | cons y r =>
    obtain ⟨Q, q1, q2, q3, q4⟩ := srt_put hu ((y :: r).length - 1) (by simp)
    have e1 : (y :: r).drop ((y :: r).length - 1 + 1) = [] := by simp
    have e2 : (y :: r).take ((y :: r).length - 1 + 1) = y :: r := by simp
    rw [q1, e1, List.append_nil]
    exact ⟨q2, fun x => by rw [q4, e2]⟩
end
end Go.Proofs.YtkjpnmodlmlhdaaGreatDoor.Gos
/- Plain law: lists of declarations that are put together. No program stands here. -/
namespace Go.Proofs.YtkjpnmodlmlhdaaGreatDoor.Gos
set_option linter.unusedSimpArgs false
set_option linter.unusedVariables false
set_option linter.unnecessarySimpa false
set_option linter.unusedSectionVars false
set_option maxRecDepth 100000
open Go.Proofs.Grow
section
variable {α : Type} [Inhabited α] (O : Ord α) (eqv : α → α → Bool)
def ddS (o : List α) (d : α) : List α := if (o.length > 0 ∧ eqv (nth o (o.length - 1)) d = true) ∨ (o.length > 1 ∧ O.num (nth o (o.length - 2)) = O.num d) then o else o ++ [d]
def ddF : List α → List α → List α
  | [], o => o
  | d :: l, o => ddF l (ddS O eqv o d)
theorem ddS_rev (r : List α) (d : α) : ddS O eqv r.reverse d = (dStep O eqv r d).reverse := by
  match r with
  | [] => simp [ddS, dStep]
  | [a] =>
    have e : nth [a] 0 = a := rfl
    simp only [ddS, dStep, List.reverse_cons, List.reverse_nil, List.nil_append, List.length_singleton]
    rw [show 1 - 1 = 0 from rfl, e]
    by_cases h : eqv a d = true <;> simp [h]
  | a :: b :: q =>
    have e1 : nth ((a :: b :: q).reverse) ((a :: b :: q).reverse.length - 1) = a := by
      have := nth_at (q.reverse ++ [b]) [] a
      simpa using this
    have e2 : nth ((a :: b :: q).reverse) ((a :: b :: q).reverse.length - 2) = b := by
      have := nth_at q.reverse [a] b
      simpa using this
    unfold ddS
    rw [e1, e2]
    have l1 : (a :: b :: q).reverse.length > 0 := by simp
    have l2 : (a :: b :: q).reverse.length > 1 := by simp
    simp only [dStep, l1, l2, true_and]
    split
    · rfl
    · simp
theorem ddF_rev : ∀ (l r : List α), ddF O eqv l r.reverse = (dFold O eqv l r).reverse
  | [], r => rfl
  | d :: l, r => by rw [ddF, dFold, ddS_rev, ddF_rev]
def mgF (a b : List α) : List α := ddF O eqv (srtG O (a ++ b) ((a ++ b).length - 1)) []
variable {O} {eqv}
theorem mg_can {a b : List α} (he : ∀ x y, O.U x → O.U y → (eqv x y = true ↔ x = y)) (ha : ∀ x ∈ a, O.U x) (hb : ∀ x ∈ b, O.U x) : Can O (mgF O eqv a b) fun d => d ∈ a ∨ d ∈ b := by
  have hu : ∀ x ∈ a ++ b, O.U x := fun x hx => (List.mem_append.1 hx).elim (ha x) (hb x)
  obtain ⟨s1, s2⟩ := srtG_ok hu
  have h := ded_can (O := O) (eqv := eqv) (l := srtG O (a ++ b) ((a ++ b).length - 1)) (fun x y hx hy => he x y (hu x ((s2 x).1 hx)) (hu y ((s2 y).1 hy))) (fun x hx => hu x ((s2 x).1 hx)) s1
  have e : mgF O eqv a b = (dFold O eqv (srtG O (a ++ b) ((a ++ b).length - 1)) []).reverse := ddF_rev O eqv _ []
  rw [e]
  have e2 : (fun d => d ∈ srtG O (a ++ b) ((a ++ b).length - 1)) = fun d => d ∈ a ∨ d ∈ b := funext fun d => propext ((s2 d).trans List.mem_append)
  rw [e2] at h
  exact h
end
end Go.Proofs.YtkjpnmodlmlhdaaGreatDoor.Gos
