/-
  What any word says, and any number's words: the law HeapWords answers true, in the evaluator's reading: for every word and every number.
-/
import Derived.Test.YthahphbgfcpnjaaCode
import Derived.Test.YthahphbgfcpnjaaEvW
import Derived.Test.YthahphbgfcpnjaaEvU
import Derived.KernelRfl
set_option linter.unusedVariables false
set_option linter.unusedSimpArgs false
namespace Go.Ev.Seat
open Go Go.Ev
set_option maxRecDepth 20000
theorem t6 : tabOf tabL 6 = some a6 := rfl
theorem t28 : tabOf tabL 28 = some a28 := rfl
theorem t30 : tabOf tabL 30 = some a30 := rfl
theorem t33 : tabOf tabL 33 = some a33 := rfl
theorem t34 : tabOf tabL 34 = some a34 := rfl
theorem t35 : tabOf tabL 35 = some a35 := rfl
theorem t36 : tabOf tabL 36 = some a36 := rfl
theorem t37 : tabOf tabL 37 = some a37 := rfl
theorem t38 : tabOf tabL 38 = some a38 := rfl
theorem t39 : tabOf tabL 39 = some a39 := rfl
theorem t44 : tabOf tabL 44 = some a44 := rfl

def uw (w : Int) : Prop := 0 ≤ w ∧ w < 18446744073709551616

theorem and3 {w : Int} (h : uw w) : binInt .and .u64 w 3 = some (.int .u64 (w % 4)) := by
  have := and_mask (w := w) (m := 3) (k := 2) h.1 h.2 (by decide) (by decide)
  simpa using this

def sgn (w : Int) : Int := (IntKind.i64.wrap w).fdiv 4


def ref (w : Int) : Int := if 2305843009213693952 ≤ w.tdiv 4 then IntKind.i64.wrap (IntKind.i64.wrap (0 - IntKind.i64.wrap (IntKind.u64.wrap (4611686018427387903 - w.tdiv 4))) - 1) else IntKind.i64.wrap (w.tdiv 4)

theorem c33 (n : Nat) {w : Int} (h : uw w) : pcall (tabOf tabL) (n + 1) 33 [.int .u64 w] = some (.ok (.tup [.int .i64 (if w % 4 = 1 then sgn w else 0), .bool (decide (w % 4 = 1))])) := by
  rw [pcall_step t33]; by_cases hw : w % 4 = 1 <;> simp [evalCode, restr, evalOps, evalOp, AOp.kind, evP, AOpd.ev, Env.get, Env.put, okv, wantedA, binA, initEnv, finish, resAll, resOf, oneOr, pureRes, shutR, shutRL, shutV, shutL, shiftA, IntKind.bits, bi_add, bi_sub, bi_mul, bi_quo, bi_rem, bi_eql, bi_neq, bi_lss, bi_leq, bi_gtr, bi_geq, unA, evH, evs, a33, and3 h, hw, sgn]

theorem tmod4 {w : Int} (h : uw w) : w.tmod 4 = w % 4 := Int.tmod_eq_emod_of_nonneg h.1
theorem tdiv4 {w : Int} (h : uw w) : w.tdiv 4 = w / 4 := Int.tdiv_eq_ediv_of_nonneg h.1

theorem q4 {w : Int} (h : uw w) : IntKind.u64.wrap (w.tdiv 4) = w / 4 := by
  rw [tdiv4 h]; exact kw_u64_id (by have := h.1; omega) (by have := h.2; omega)

theorem sgn_eq {w : Int} (h : uw w) : sgn w = if 2305843009213693952 ≤ w / 4 then w / 4 - 4611686018427387904 else w / 4 := by
  have := h.1; have := h.2
  unfold sgn
  rw [kw_i64, Int.fdiv_eq_ediv_of_nonneg _ (by decide)]
  split <;> omega

theorem c34 (n : Nat) {w : Int} (h : uw w) : pcall (tabOf tabL) (n + 1) 34 [.int .u64 w] = some (.ok (.tup [.int .i64 (if w % 4 = 1 then sgn w else 0), .bool (decide (w % 4 = 1))])) := by
  have h0 := h.1; have h1 := h.2
  by_cases hw : w % 4 = 1
  · by_cases hb : 2305843009213693952 ≤ w / 4
    · have e : IntKind.i64.wrap (IntKind.i64.wrap (0 - IntKind.i64.wrap (IntKind.u64.wrap (4611686018427387903 - w / 4))) - 1) = w / 4 - 4611686018427387904 := by
        simp only [kw_i64, kw_u64]; omega
      rw [pcall_step t34]; simp [evalCode, restr, evalOps, evalOp, AOp.kind, evP, AOpd.ev, Env.get, Env.put, okv, wantedA, binA, initEnv, finish, resAll, resOf, oneOr, pureRes, shutR, shutRL, shutV, shutL, shiftA, IntKind.bits, bi_add, bi_sub, bi_mul, bi_quo, bi_rem, bi_eql, bi_neq, bi_lss, bi_leq, bi_gtr, bi_geq, unA, evH, evs, a34, tmod4 h, hw, q4 h, hb, sgn_eq h]
      simpa using e
    · have e : IntKind.i64.wrap (w / 4) = w / 4 := kw_i64_id (by omega) (by omega)
      rw [pcall_step t34]; simp [evalCode, restr, evalOps, evalOp, AOp.kind, evP, AOpd.ev, Env.get, Env.put, okv, wantedA, binA, initEnv, finish, resAll, resOf, oneOr, pureRes, shutR, shutRL, shutV, shutL, shiftA, IntKind.bits, bi_add, bi_sub, bi_mul, bi_quo, bi_rem, bi_eql, bi_neq, bi_lss, bi_leq, bi_gtr, bi_geq, unA, evH, evs, a34, tmod4 h, hw, q4 h, hb, sgn_eq h, e]
  · rw [pcall_step t34]; simp [evalCode, restr, evalOps, evalOp, AOp.kind, evP, AOpd.ev, Env.get, Env.put, okv, wantedA, binA, initEnv, finish, resAll, resOf, oneOr, pureRes, shutR, shutRL, shutV, shutL, shiftA, IntKind.bits, bi_add, bi_sub, bi_mul, bi_quo, bi_rem, bi_eql, bi_neq, bi_lss, bi_leq, bi_gtr, bi_geq, unA, evH, evs, a34, tmod4 h, hw]

theorem shr2 {w : Int} (h : uw w) : w.fdiv 4 = w / 4 := Int.fdiv_eq_ediv_of_nonneg _ (by decide)

theorem iw4 {w : Int} (h : uw w) : IntKind.i64.wrap (w / 4) = w / 4 := kw_i64_id (by have := h.1; omega) (by have := h.2; omega)

def tagged (w t : Int) : AVal := .tup [.int .i64 (if w % 4 = t then w / 4 else 0), .bool (decide (w % 4 = t))]

theorem c44 (n : Nat) {w t : Int} (h : uw w) : pcall (tabOf tabL) (n + 1) 44 [.int .u64 w, .int .u64 t] = some (.ok (tagged w t)) := by
  rw [pcall_step t44]; by_cases hw : w % 4 = t <;> simp [evalCode, restr, evalOps, evalOp, AOp.kind, evP, AOpd.ev, Env.get, Env.put, okv, wantedA, binA, initEnv, finish, resAll, resOf, oneOr, pureRes, shutR, shutRL, shutV, shutL, shiftA, IntKind.bits, bi_add, bi_sub, bi_mul, bi_quo, bi_rem, bi_eql, bi_neq, bi_lss, bi_leq, bi_gtr, bi_geq, unA, evH, evs, a44, and3 h, hw, tagged, shr2 h, iw4 h]

theorem c36 (n : Nat) {w t : Int} (h : uw w) : pcall (tabOf tabL) (n + 1) 36 [.int .u64 w, .int .u64 t] = some (.ok (tagged w t)) := by
  rw [pcall_step t36]; by_cases hw : w % 4 = t <;> simp [evalCode, restr, evalOps, evalOp, AOp.kind, evP, AOpd.ev, Env.get, Env.put, okv, wantedA, binA, initEnv, finish, resAll, resOf, oneOr, pureRes, shutR, shutRL, shutV, shutL, shiftA, IntKind.bits, bi_add, bi_sub, bi_mul, bi_quo, bi_rem, bi_eql, bi_neq, bi_lss, bi_leq, bi_gtr, bi_geq, unA, evH, evs, a36, tmod4 h, hw, tagged, q4 h, iw4 h]

theorem c35 (n : Nat) {w : Int} (h : uw w) : pcall (tabOf tabL) (n + 2) 35 [.int .u64 w] = some (.ok (tagged w 2)) := by
  have k := fun H m => callA_of (m := m) (H := H) (vs := [.int .u64 w, .int .u64 2]) rfl (c44 n (t := 2) h)
  rw [pcall_step t35]; by_cases hw : w % 4 = 2 <;> simp [evalCode, restr, evalOps, evalOp, AOp.kind, evP, AOpd.ev, Env.get, Env.put, okv, wantedA, binA, initEnv, finish, resAll, resOf, oneOr, pureRes, shutR, shutRL, shutV, shutL, shiftA, IntKind.bits, bi_add, bi_sub, bi_mul, bi_quo, bi_rem, bi_eql, bi_neq, bi_lss, bi_leq, bi_gtr, bi_geq, unA, evH, evs, eqA, restr, a35, k, tagged, hw]

theorem c30 (n : Nat) {w : Int} (h : uw w) : pcall (tabOf tabL) (n + 2) 30 [.int .u64 w] = some (.ok (tagged w 0)) := by
  have k := fun H m => callA_of (m := m) (H := H) (vs := [.int .u64 w, .int .u64 0]) rfl (c44 n (t := 0) h)
  rw [pcall_step t30]; by_cases hw : w % 4 = 0 <;> simp [evalCode, restr, evalOps, evalOp, AOp.kind, evP, AOpd.ev, Env.get, Env.put, okv, wantedA, binA, initEnv, finish, resAll, resOf, oneOr, pureRes, shutR, shutRL, shutV, shutL, shiftA, IntKind.bits, bi_add, bi_sub, bi_mul, bi_quo, bi_rem, bi_eql, bi_neq, bi_lss, bi_leq, bi_gtr, bi_geq, unA, evH, evs, eqA, restr, a30, k, tagged, hw]

def iw (n : Int) : Prop := -9223372036854775808 ≤ n ∧ n < 9223372036854775808

theorem shl2 (x : Int) : IntKind.u64.wrap (IntKind.u64.wrap x * 4) = (x * 4) % 18446744073709551616 := by
  simp only [kw_u64]; omega

theorem or4 {x b : Int} (h0 : 0 ≤ b) (hb : b < 4) : binInt .or .u64 ((x * 4) % 18446744073709551616) b = some (.int .u64 ((x * 4 + b) % 18446744073709551616)) := by
  have e : (x * 4) % 18446744073709551616 = (x % 4611686018427387904) * 2 ^ 2 := by omega
  rw [e, or_low (by omega) h0 (by simpa using hb) (by omega)]
  congr 2; omega

theorem c37 (n : Nat) (x : Int) : pcall (tabOf tabL) (n + 1) 37 [.int .i64 x] = some (.ok (.int .u64 ((x * 4 + 1) % 18446744073709551616))) := by
  rw [pcall_step t37]; simp [evalCode, restr, evalOps, evalOp, AOp.kind, evP, AOpd.ev, Env.get, Env.put, okv, wantedA, binA, initEnv, finish, resAll, resOf, oneOr, pureRes, shutR, shutRL, shutV, shutL, shiftA, IntKind.bits, bi_add, bi_sub, bi_mul, bi_quo, bi_rem, bi_eql, bi_neq, bi_lss, bi_leq, bi_gtr, bi_geq, unA, evH, evs, eqA, restr, a37, shl2, or4]

theorem c39 (n : Nat) (x : Int) : pcall (tabOf tabL) (n + 1) 39 [.int .i64 x] = some (.ok (.int .u64 ((x * 4 + 2) % 18446744073709551616))) := by
  rw [pcall_step t39]; simp [evalCode, restr, evalOps, evalOp, AOp.kind, evP, AOpd.ev, Env.get, Env.put, okv, wantedA, binA, initEnv, finish, resAll, resOf, oneOr, pureRes, shutR, shutRL, shutV, shutL, shiftA, IntKind.bits, bi_add, bi_sub, bi_mul, bi_quo, bi_rem, bi_eql, bi_neq, bi_lss, bi_leq, bi_gtr, bi_geq, unA, evH, evs, eqA, restr, a39, shl2, or4]

theorem c28 (n : Nat) (x : Int) : pcall (tabOf tabL) (n + 1) 28 [.int .i64 x] = some (.ok (.int .u64 ((x * 4) % 18446744073709551616))) := by
  rw [pcall_step t28]; simp [evalCode, restr, evalOps, evalOp, AOp.kind, evP, AOpd.ev, Env.get, Env.put, okv, wantedA, binA, initEnv, finish, resAll, resOf, oneOr, pureRes, shutR, shutRL, shutV, shutL, shiftA, IntKind.bits, bi_add, bi_sub, bi_mul, bi_quo, bi_rem, bi_eql, bi_neq, bi_lss, bi_leq, bi_gtr, bi_geq, unA, evH, evs, eqA, restr, a28, shl2]

theorem mul4 (x : Int) : IntKind.u64.wrap (IntKind.u64.wrap (4 * IntKind.u64.wrap x) + 1) = (x * 4 + 1) % 18446744073709551616 := by
  simp only [kw_u64]; omega

theorem c38 (n : Nat) (x : Int) : pcall (tabOf tabL) (n + 1) 38 [.int .i64 x] = some (.ok (.int .u64 ((x * 4 + 1) % 18446744073709551616))) := by
  rw [pcall_step t38]; simp [evalCode, restr, evalOps, evalOp, AOp.kind, evP, AOpd.ev, Env.get, Env.put, okv, wantedA, binA, initEnv, finish, resAll, resOf, oneOr, pureRes, shutR, shutRL, shutV, shutL, shiftA, IntKind.bits, bi_add, bi_sub, bi_mul, bi_quo, bi_rem, bi_eql, bi_neq, bi_lss, bi_leq, bi_gtr, bi_geq, unA, evH, evs, eqA, restr, a38, mul4]

theorem awake (n : Nat) : pcall (tabOf tabL) 100 7 [] = some (.ok (.bool true)) := by kernel_rfl

attribute [local irreducible] callA in
set_option maxHeartbeats 4000000 in
theorem words {w x : Int} (h : uw w) (hx : iw x) : pcall (tabOf tabL) 101 6 [.int .u64 w, .int .i64 x] = some (.ok (.bool true)) := by
  have h1 := hx.1; have h2 := hx.2
  have k7 := fun H m => callA_of (m := m) (H := H) (vs := []) rfl (awake 0)
  have k33 := fun H m => callA_of (m := m) (H := H) (vs := [.int .u64 w]) rfl (c33 99 h)
  have k34 := fun H m => callA_of (m := m) (H := H) (vs := [.int .u64 w]) rfl (c34 99 h)
  have k35 := fun H m => callA_of (m := m) (H := H) (vs := [.int .u64 w]) rfl (c35 98 h)
  have k36 := fun H m => callA_of (m := m) (H := H) (vs := [.int .u64 w, .int .u64 2]) rfl (c36 99 (t := 2) h)
  have k30 := fun H m => callA_of (m := m) (H := H) (vs := [.int .u64 w]) rfl (c30 98 h)
  have k36' := fun H m => callA_of (m := m) (H := H) (vs := [.int .u64 w, .int .u64 0]) rfl (c36 99 (t := 0) h)
  have k37 := fun H m => callA_of (m := m) (H := H) (vs := [.int .i64 x]) rfl (c37 99 x)
  have k38 := fun H m => callA_of (m := m) (H := H) (vs := [.int .i64 x]) rfl (c38 99 x)
  have k39 := fun H m => callA_of (m := m) (H := H) (vs := [.int .i64 x]) rfl (c39 99 x)
  have k28 := fun H m => callA_of (m := m) (H := H) (vs := [.int .i64 x]) rfl (c28 99 x)
  have hu : uw ((x * 4 + 1) % 18446744073709551616) := ⟨by omega, by omega⟩
  have kn := fun H m => callA_of (m := m) (H := H) (vs := [.int .u64 ((x * 4 + 1) % 18446744073709551616)]) rfl (c33 99 hu)
  have hmod : (x * 4 + 1) % 18446744073709551616 % 4 = 1 := by omega
  have hsg : (sgn ((x * 4 + 1) % 18446744073709551616) = x) ↔ (-2305843009213693952 ≤ x ∧ x ≤ 2305843009213693951) := by
    rw [sgn_eq hu]; split <;> omega
  simp only [hmod, if_true, decide_true] at kn
  simp only [tagged] at k35 k36 k30 k36'
  refine pcall_WL t6 ?_
  simp only [a6]
  have hin : (decide (-2305843009213693952 ≤ x) && decide (x ≤ 2305843009213693951)) = decide (sgn ((x * 4 + 1) % 18446744073709551616) = x) := by
    rw [← Bool.decide_and]; exact decide_eq_decide.2 hsg.symm
  have hImm : (x * 4 + 2) % 18446744073709551616 = IntKind.u64.wrap ((x * 4 + 1) % 18446744073709551616 + 1) := by rw [kw_u64]; omega
  have hPtr : (x * 4) % 18446744073709551616 = IntKind.u64.wrap ((x * 4 + 1) % 18446744073709551616 - 1) := by rw [kw_u64]; omega
  by_cases hlo : -2305843009213693952 ≤ x
  · skip
    (repeat' (first
    | refine WL_seq ?_
    | apply WL_prune
    | exact restr_nil
    | apply restr_cons rfl
    | refine WL_reg ?_
    | refine WO_nil ?_
    | refine WL_ret ?_
    | refine O_s rfl ?_
    | refine O_b true rfl rfl rfl (by first | rfl | exact decide_eq_true rfl | exact decide_eq_true hlo | exact decide_eq_true hImm | exact decide_eq_true hPtr | exact beq_self_eq_true _) ?_
    | refine O_b false rfl rfl rfl (by first | exact decide_eq_false hlo) ?_
    | refine O_p rfl rfl rfl ?_
    | refine O_c 7 rfl rfl (k7 _ _) ?_
    | refine O_c 33 rfl rfl (k33 _ _) ?_
    | refine O_c 34 rfl rfl (k34 _ _) ?_
    | refine O_c 35 rfl rfl (k35 _ _) ?_
    | refine O_c 36 rfl rfl (k36 _ _) ?_
    | refine O_c 30 rfl rfl (k30 _ _) ?_
    | refine O_c 36 rfl rfl (k36' _ _) ?_
    | refine O_c 37 rfl rfl (k37 _ _) ?_
    | refine O_c 38 rfl rfl (k38 _ _) ?_
    | refine O_c 39 rfl rfl (k39 _ _) ?_
    | refine O_c 28 rfl rfl (k28 _ _) ?_
    | refine O_c 33 rfl rfl (kn _ _) ?_))
    clear k7 k33 k34 k35 k36 k30 k36' k37 k38 k39 k28 kn hmod
    simp [finish, resAll, resOf, Env.get, oneOr, pureRes, shutR]
    rw [hsg]; exact ⟨fun h => h.2, fun h => ⟨hlo, h⟩⟩
  · skip
    (repeat' (first
    | refine WL_seq ?_
    | apply WL_prune
    | exact restr_nil
    | apply restr_cons rfl
    | refine WL_reg ?_
    | refine WO_nil ?_
    | refine WL_ret ?_
    | refine O_s rfl ?_
    | refine O_b true rfl rfl rfl (by first | rfl | exact decide_eq_true rfl | exact decide_eq_true hlo | exact decide_eq_true hImm | exact decide_eq_true hPtr | exact beq_self_eq_true _) ?_
    | refine O_b false rfl rfl rfl (by first | exact decide_eq_false hlo) ?_
    | refine O_p rfl rfl rfl ?_
    | refine O_c 7 rfl rfl (k7 _ _) ?_
    | refine O_c 33 rfl rfl (k33 _ _) ?_
    | refine O_c 34 rfl rfl (k34 _ _) ?_
    | refine O_c 35 rfl rfl (k35 _ _) ?_
    | refine O_c 36 rfl rfl (k36 _ _) ?_
    | refine O_c 30 rfl rfl (k30 _ _) ?_
    | refine O_c 36 rfl rfl (k36' _ _) ?_
    | refine O_c 37 rfl rfl (k37 _ _) ?_
    | refine O_c 38 rfl rfl (k38 _ _) ?_
    | refine O_c 39 rfl rfl (k39 _ _) ?_
    | refine O_c 28 rfl rfl (k28 _ _) ?_
    | refine O_c 33 rfl rfl (kn _ _) ?_))
    clear k7 k33 k34 k35 k36 k30 k36' k37 k38 k39 k28 kn hmod
    simp [finish, resAll, resOf, Env.get, oneOr, pureRes, shutR]
    rw [hsg]; exact fun h => hlo h.1
end Go.Ev.Seat
