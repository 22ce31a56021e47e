/-
  Appended zeros, copy, clear and maps: in the model as the evaluator says.
-/
import Derived.Test.YtbjoldcjbpngaaaEvL
import Derived.MapKept
set_option linter.unusedVariables false
set_option linter.unusedSimpArgs false
namespace Go.Ev
open Go

section
variable {P : Program} {Γ : Gh} {e : Env} {a : Act}

theorem run_append_zeros {w : World} {t u ty el : TypeId} {i : TypeInfo} {z : Value} {k k' : IntKind} {base : Option Addr} {sLen sCap : Nat} {n : Int} {olds : List Value}
    (ht : P.underlying t = some (.slice el)) (hu : P.underlying u = some (.int k)) (hi : P.info? el = some i) (hz : i.zero = some z) (hzs : z.cells.size = i.size) (hs0 : 0 < i.size)
    (hold : (Builtin.firstCells i.size sLen (.slice base sLen sCap)).run P w.drew = .ok olds.toArray w.drew) (h0 : 0 < n) (h1 : n < 9223372036854775808)
    (hgt : sCap < sLen + n.toNat) (hb : (sLen + n.toNat) * i.bytes ≤ 140737488355328) (hb0 : 0 < i.bytes) :
    ∃ cap, sLen + n.toNat ≤ cap ∧ (Builtin.append_ #[t, u] ty #[.slice base sLen sCap, .int k' n]).run P w =
      .ok (.slice (some ⟨w.heap.size, 0, none⟩) (sLen + n.toNat) cap) (w.drew.alloc (.cells (olds.toArray ++ Builtin.zeroCells z.cells n.toNat ++ Builtin.zeroCells z.cells (cap - (sLen + n.toNat))) el)) := by
  have hn : ¬ (sLen + n.toNat ≤ sCap) := by omega
  have hsmall : sLen + n.toNat ≤ 140737488355328 := Nat.le_trans (Nat.le_mul_of_pos_right _ hb0) hb
  have hw := wrap_i64 (n := n) (by omega) h1
  have h63' : ¬ (9223372036854775807 < ((sLen : Int) + (n.toNat : Int))) := by omega
  have hfit := growslice_fits (old := sCap) hgt hb
  have h48' : ¬ (281474976710656 < Builtin.nextslicecap (sLen + n.toNat) sCap * i.bytes) := by omega
  have hneg : ¬ n < 0 := by omega
  have hnb : n.toNat * i.bytes ≤ 140737488355328 := Nat.le_trans (Nat.mul_le_mul_right _ (by omega)) hb
  have hnb' : ¬ 281474976710656 < n * (i.bytes : Int) := by
    have : n * (i.bytes : Int) = ((n.toNat * i.bytes : Nat) : Int) := by
      rw [Int.natCast_mul, Int.toNat_of_nonneg (by omega)]
    rw [this]; omega
  have hnz : ¬ (n.toNat = 0 ∨ i.size = 0) := by omega
  refine ⟨grownCap w (sLen + n.toNat) sCap el, ?_, ?_⟩
  · unfold grownCap Question.cut; simp
  · have hmax : IntKind.i64.max = 9223372036854775807 := by decide
    have hn0 : n.toNat ≠ 0 := by omega
    have hs0' : i.size ≠ 0 := by omega
    have hmx : max n 0 = n := by omega
    have hsl : ¬ (9223372036854775807 < (sLen : Int) + n) := by omega
    simp [Builtin.append_, run_underlying ht, run_underlying hu, sizeOf, run_typeInfo _ hi, zeroValue, hz, asInt, asIntOf, hw, hneg, hnb', hn, h63', h48', hmax, Question.forced, hold, newRow, grownCap, hmx, hsl, hn0, hs0']
    intro h
    rcases Nat.mul_eq_zero.1 h with h | h <;> omega

theorem appz_sound {o : Oper} {C : Ctx} {id es bytes : Nat} {zv : AVal} {s x : AOpd} {v : AVal} {H H' : Heap} {w : World} (he : EnvRel Γ e a.tmps) (hR : Rel Γ H w) (hk : chkH P (.appz es bytes zv s x) o.op = true)
    (hv : evH C e id H (.appz es bytes zv s x) = some (.ok v, H')) : Done P o a w Γ v H' := by
  obtain ⟨dst, op, ty, pos, after, guard⟩ := o
  simp only at hk
  cases op <;> simp only [chkH, Bool.false_eq_true, Bool.and_eq_true, decide_eq_true_eq] at hk
  rename_i c
  obtain ⟨⟨⟨⟨hb, ha⟩, hes⟩, hby0⟩, ht⟩ := hk
  have hcal := builtinB_eq hb
  obtain ⟨s', x', hargs, hq⟩ := args2_eq ha
  simp only [Bool.and_eq_true] at hq
  split at ht <;> first | (cases ht; done) | skip
  rename_i t u hts
  simp only [Bool.and_eq_true, decide_eq_true_eq] at ht
  obtain ⟨hu, hel⟩ := ht
  obtain ⟨el, htu, hq2⟩ := elemB_some hel
  simp only [Bool.and_eq_true] at hq2
  obtain ⟨⟨⟨⟨hsz, hby⟩, hz⟩, hzv⟩, hlow⟩ := hq2
  obtain ⟨i, hi, his⟩ := sizeB_some hsz
  obtain ⟨i2, hi2, hib⟩ := bytesB_some hby
  rw [hi] at hi2; cases hi2
  obtain ⟨i3, z, hi3, hzv3, hzs, hz1⟩ := zlenB_some hz
  rw [hi] at hi3; cases hi3
  obtain ⟨i4, z4, hi4, hzv4, hzr, _⟩ := zvalB_some (Γ := Γ) hzv
  rw [hi] at hi4; cases hi4
  rw [hzv3] at hzv4; cases hzv4
  obtain ⟨ku, hu'⟩ := isIntB_true hu
  have hrun : ∀ (c' : Value) (w' : World), (Builtin.append_ #[t, u] ty #[a.eval s', a.eval x']).run P w = .ok c' w' →
      (execOp a.eval { dst, op := .call c, type := ty, pos, after, guard }).run P w = .ok (.value c') w' := by
    intro c' w' h
    have e1 : c.args.map a.eval = #[a.eval s', a.eval x'] := by
      apply Array.ext'; simp [hargs]
    have e2 : c.argTypes = #[t, u] := by apply Array.ext'; simpa using hts
    simp only [execOp, resolve, hcal, e1, e2, Sem.run_bind, Sem.run_pure, Result.andThen_ok, invoke, builtin, h]
  simp only [evH] at hv
  split at hv <;> first | (cases hv; done) | skip
  rename_i xs ee k n hs hx
  have hrs := ev_rep he hq.1 hs
  have hcx := (ev_rep he hq.2 hx).int_inv
  obtain ⟨base, cap, hcs, hle, hex⟩ := hrs.lst_slice
  split at hv <;> first | (cases hv; done) | skip
  rename_i hcond
  obtain ⟨h0, hzw, hall⟩ := hcond
  split at hv
  · rename_i hn0
    simp only [Option.some.injEq, Prod.mk.injEq, Ex.ok.injEq] at hv
    obtain ⟨rfl, rfl⟩ := hv
    subst hn0
    refine Done.same hR (hrun _ _ ?_) hrs
    rw [hcs, hcx]
    have hw0 : IntKind.i64.wrap 0 = 0 := by decide
    cases base <;> simp [Builtin.append_, run_underlying htu, run_underlying hu', sizeOf, run_typeInfo _ hi, asInt, asIntOf, hw0, hle, storeCells]
  · rename_i hn0
    split at hv <;> first | (cases hv; done) | skip
    rename_i hc2
    split at hv <;> first | (cases hv; done) | skip
    rename_i H2 hnew
    simp only [Option.some.injEq, Prod.mk.injEq, Ex.ok.injEq] at hv
    obtain ⟨rfl, rfl⟩ := hv
    have hRd : Rel Γ H w.drew := hR.drew _
    have hwx := width_all hall
    rw [hcs] at hrs
    obtain ⟨dx, hdx⟩ := lst_holds (P := P) hRd hrs
    have hlx : dx.length = xs.length * es := by rw [hdx.reps.1, flatL_length hwx]
    have fx := hdx.first es xs.length hwx (Nat.le_refl _)
    rw [List.take_of_length_le (by omega)] at fx
    have hcap := hex hc2.1
    obtain ⟨ncap, hncap, hrun2⟩ := run_append_zeros (P := P) (ty := ty) (k' := k) htu hu' hi hzv3 (by rw [hzs, his]) (by omega) (his ▸ fx) (by omega) hc2.2.2 (by omega) (by rw [hib]; exact hc2.2.1) (by omega)
    obtain ⟨g1, g2, g3⟩ := newAt_lookups hnew
    have hfr := newAt_fresh hR hnew
    have hxf : ∀ y, y ∈ xs → rfree y := by
      rcases hrs.lst_inv with ⟨rfl, _⟩ | ⟨_, _, _, _, _, _, _, _, _, k4, _⟩
      · simp
      · exact k4
    have hlen : (xs ++ List.replicate n.toNat zv).length = xs.length + n.toNat := by simp
    have hw : ∀ y, y ∈ xs ++ List.replicate n.toNat zv → y.width = es := by
      intro y hy; simp only [List.mem_append] at hy; rcases hy with hy | hy
      · exact hwx y hy
      · rw [List.eq_of_mem_replicate hy]; exact hzw
    have hfree : ∀ y, y ∈ xs ++ List.replicate n.toNat zv → rfree y := by
      intro y hy; simp only [List.mem_append] at hy; rcases hy with hy | hy
      · exact hxf y hy
      · rw [List.eq_of_mem_replicate hy]; exact hlow
    let cs : Array Value := dx.toArray ++ Builtin.zeroCells z.cells n.toNat ++ Builtin.zeroCells z.cells (ncap - (xs.length + n.toNat))
    have hzl : ∀ m, (Builtin.zeroCells z.cells m).toList = (List.replicate m z.cells.toList).flatten := by
      intro m; rw [← zeros_eq]; rfl
    have hcsl : cs.toList = dx ++ (List.replicate n.toNat z.cells.toList).flatten ++ (Builtin.zeroCells z.cells (ncap - (xs.length + n.toNat))).toList := by simp [cs, ← hzl]
    have hcs' : cs.size = ncap * es := by
      have : cs.size = dx.length + n.toNat * es + (ncap - (xs.length + n.toNat)) * es := by
        simp [cs, size_zeroCells', hzs]; omega
      rw [this, hlx, ← Nat.add_mul, ← Nat.add_mul]
      congr 1; omega
    have hfz : flatL (List.replicate n.toNat zv) = (List.replicate n.toNat zv.flat).flatten := by
      generalize n.toNat = m
      induction m with
      | zero => rfl
      | succ m ih => simp [List.replicate_succ, flatL, ih]
    have hreps : Reps Γ (flatL (xs ++ List.replicate n.toNat zv)) (cs.toList.take (flatL (xs ++ List.replicate n.toNat zv)).length) := by
      have h2 := hdx.reps.append (reps_flatten hzr.cells n.toNat)
      rw [flatL_append, hfz, hcsl, List.take_left' (by rw [← h2.1])]
      exact h2
    have h1 : ∀ c, c ∈ cs.toList → c.oneCell' = true := by
      intro c hc
      rw [hcsl] at hc
      simp only [List.mem_append] at hc
      rcases hc with (hc | hc) | hc
      · exact hdx.one c hc
      · exact one_flatten hz1 _ c hc
      · exact zeroCells_one hz1 _ c hc
    obtain ⟨r1, r2⟩ := hRd.listNew (cap := ncap) (es := es) (cs := cs) (el := el) g1 g2 g3 (fun l _ => hfr.2 l) hfree hw hes hcs' (by omega) hreps h1 (by simp)
    have hsz : w.drew.heap.size = w.heap.size := rfl
    refine ⟨_, .slice (some ⟨w.heap.size, 0, none⟩) (xs.length + n.toNat) ncap, _, _, hrun _ _ ?_, .inl rfl, ?_, r1, (Stp.drew Γ w _).trans r2⟩
    · rw [hcs, hcx]; exact hrun2
    · rw [hlen]
      refine .gl ?_ (fun _ => rfl)
      simp only [Gh.list, hsz, and_self, if_true]

theorem copy_sound {o : Oper} {C : Ctx} {id es : Nat} {d s : AOpd} {v : AVal} {H H' : Heap} {w : World} (he : EnvRel Γ e a.tmps) (hR : Rel Γ H w) (hk : chkH P (.copy es d s) o.op = true)
    (hv : evH C e id H (.copy es d s) = some (.ok v, H')) : Done P o a w Γ v H' := by
  obtain ⟨dst, op, ty, pos, after, guard⟩ := o
  simp only at hk
  cases op <;> simp only [chkH, Bool.false_eq_true, Bool.and_eq_true] at hk
  rename_i c
  obtain ⟨⟨hb, ha⟩, ht⟩ := hk
  have hcal := builtinB_eq hb
  obtain ⟨d', s', hargs, hq⟩ := args2_eq ha
  simp only [Bool.and_eq_true] at hq
  split at ht <;> first | (cases ht; done) | skip
  rename_i t hts
  obtain ⟨el, hu, hs⟩ := elemB_some ht
  simp only [evH] at hv
  split at hv <;> first | (cases hv; done) | skip
  rename_i b off len cap wd sv hd hsv
  split at hv <;> first | (cases hv; done) | skip
  rename_i ys hel
  split at hv <;> first | (cases hv; done) | skip
  rename_i vs hbl
  split at hv <;> first | (cases hv; done) | skip
  rename_i hcond
  obtain ⟨hwd, hle, hall⟩ := hcond
  simp only [Option.some.injEq, Prod.mk.injEq, Ex.ok.injEq] at hv
  obtain ⟨rfl, rfl⟩ := hv
  have hwy := width_all hall
  obtain ⟨g, hc, hmu⟩ := (ev_rep he hq.1 hd).sl_inv
  obtain ⟨g', cs, cty, k1, k2, k3, k4, k5, k6⟩ := hR.cells hbl
  rw [hmu] at k1; cases k1
  obtain ⟨dy, hy⟩ := elems_sound (P := P) hR hel (ev_rep he hq.2 hsv)
  have hly : dy.length = ys.length * es := by rw [hy.reps.1, flatL_length hwy]
  have fy := hy.first es (min ys.length len) hwy (Nat.min_le_left _ _)
  have hmin : min ys.length len * es ≤ len * es := Nat.mul_le_mul_right _ (Nat.min_le_right _ _)
  have hmin2 : min ys.length len * es ≤ ys.length * es := Nat.mul_le_mul_right _ (Nat.min_le_left _ _)
  have hlen' : (dy.take (min ys.length len * es)).length = min ys.length len * es := by simp; omega
  have hcl : cs.size = vs.length := by have := k5.1; simpa using this
  have hst := run_storeCells_at P g off cty (dy.take (min ys.length len * es)) 0 cs w k3 (by rw [hlen']; omega) (fun v hv => hy.one v (List.mem_of_mem_take hv))
  simp only [Nat.add_zero] at hst
  have hrt : Reps Γ (flatL (ys.take (min ys.length len))) (dy.take (min ys.length len * es)) := by
    rw [flatL_take hwy]; exact hy.reps.take _
  obtain ⟨r1, r2⟩ := hR.writeCells (vs' := putCells off (flatL (ys.take (min ys.length len))) vs) (cs' := (putCells off (dy.take (min ys.length len * es)) cs.toList).toArray) hbl hmu k2 k3 k4 (by simpa using k5.put off hrt) (by
    intro c hc
    simp only [putCells, List.mem_append] at hc
    rcases hc with (hc | hc) | hc
    · exact k6 c (List.mem_of_mem_take hc)
    · exact hy.one c (List.mem_of_mem_take hc)
    · exact k6 c (List.mem_of_mem_drop hc))
  refine ⟨.value (goInt (min ys.length len : Nat)), _, _, _, ?_, .inl rfl, .int _ _, r1, r2⟩
  have e1 : (c.args.map a.eval)[0]? = some (a.eval d') ∧ (c.args.map a.eval)[1]? = some (a.eval s') := by
    rw [show c.args = [d', s'].toArray from by apply Array.ext'; simpa using hargs]; simp
  obtain ⟨i, hi, his⟩ := sizeB_some hs
  simp only [execOp, resolve, hcal, Sem.run_bind, Sem.run_pure, Result.andThen_ok, invoke, builtin, Builtin.copy_, hts, e1.1, e1.2, run_underlying hu, hc, hy.len, sizeOf, run_typeInfo _ hi, his]
  have hnm : Nat.min ys.length len = min ys.length len := rfl
  simp only [hnm, fy, Result.andThen_ok, Sem.run_bind, hst, Sem.run_pure, putCells]

theorem clear_sound {o : Oper} {C : Ctx} {id es : Nat} {zs : List AVal} {x : AOpd} {v : AVal} {H H' : Heap} {w : World} (he : EnvRel Γ e a.tmps) (hR : Rel Γ H w) (hk : chkH P (.clear es zs x) o.op = true)
    (hv : evH C e id H (.clear es zs x) = some (.ok v, H')) : Done P o a w Γ v H' := by
  obtain ⟨dst, op, ty, pos, after, guard⟩ := o
  simp only at hk
  cases op <;> simp only [chkH, Bool.false_eq_true, Bool.and_eq_true, decide_eq_true_eq] at hk
  rename_i c
  obtain ⟨⟨⟨hb, ha⟩, hes⟩, ht⟩ := hk
  have hcal := builtinB_eq hb
  obtain ⟨x', hargs, hko⟩ := args1_eq ha
  split at ht <;> first | (cases ht; done) | skip
  rename_i t hts
  obtain ⟨el, hu, hq⟩ := elemB_some ht
  simp only [Bool.and_eq_true] at hq
  obtain ⟨hs, hz⟩ := hq
  simp only [evH] at hv
  split at hv <;> first | (cases hv; done) | skip
  rename_i b off len cap wd hx
  split at hv <;> first | (cases hv; done) | skip
  rename_i vs hbl
  split at hv <;> first | (cases hv; done) | skip
  rename_i hcond
  obtain ⟨hwd, hle, hzl⟩ := hcond
  simp only [Option.some.injEq, Prod.mk.injEq, Ex.ok.injEq] at hv
  obtain ⟨rfl, rfl⟩ := hv
  obtain ⟨g, hc, hmu⟩ := (ev_rep he hko hx).sl_inv
  obtain ⟨g', cs, cty, k1, k2, k3, k4, k5, k6⟩ := hR.cells hbl
  rw [hmu] at k1; cases k1
  obtain ⟨z, hzr, hzreps, hz1⟩ := run_zeroB (Γ := Γ) hz w
  have hzs : z.cells.toList.length = es := by rw [hzreps.1]; exact hzl
  have hzz : (Builtin.zeroCells z.cells len).toList = (List.replicate len z.cells.toList).flatten := by rw [← zeros_eq]; rfl
  have hzlen : (Builtin.zeroCells z.cells len).toList.length = len * es := by
    rw [Array.length_toList, size_zeroCells', show z.cells.size = es by simpa using hzs]
  have hcl : cs.size = vs.length := by have := k5.1; simpa using this
  have hst := run_storeCells_at P g off cty (Builtin.zeroCells z.cells len).toList 0 cs w k3 (by rw [hzlen]; omega) (zeroCells_one hz1 len)
  simp only [Nat.add_zero] at hst
  have hrz : Reps Γ (flatL (List.replicate len (.agg zs))) (Builtin.zeroCells z.cells len).toList := by
    rw [flatL_replicate, hzz]; exact reps_flatten hzreps len
  obtain ⟨r1, r2⟩ := hR.writeCells (vs' := putCells off (flatL (List.replicate len (.agg zs))) vs) (cs' := (putCells off (Builtin.zeroCells z.cells len).toList cs.toList).toArray) hbl hmu k2 k3 k4 (by simpa using k5.put off hrz) (by
    intro c hc
    simp only [putCells, List.mem_append] at hc
    rcases hc with (hc | hc) | hc
    · exact k6 c (List.mem_of_mem_take hc)
    · exact zeroCells_one hz1 len c hc
    · exact k6 c (List.mem_of_mem_drop hc))
  have e1 : (c.args.map a.eval)[0]? = some (a.eval x') := by
    rw [show c.args = [x'].toArray from by apply Array.ext'; simpa using hargs]; simp
  refine ⟨.value (.tuple #[]), _, _, _, ?_, .inl rfl, rep_undef Γ, r1, r2⟩
  cases len with
  | zero =>
    have h0 : putCells off (Builtin.zeroCells z.cells 0).toList cs.toList = cs.toList := by
      have : (Builtin.zeroCells z.cells 0).toList = [] := by rw [hzz]; rfl
      rw [this, putCells_nil]
    rw [h0]
    have := setRow_self w g cs cty (0, 0) k3
    simp [execOp, resolve, hcal, invoke, builtin, Builtin.clear_, hts, e1, run_underlying hu, hc, this]
  | succ n =>
    simp [execOp, resolve, hcal, invoke, builtin, Builtin.clear_, hts, e1, run_underlying hu, hc, hzr, hst, putCells]

/-- The kind of a map's keys. -/
def keyD (ks : Bool) (D : TypeDesc) : Prop := (ks = false ∧ ∃ i, D = .int i) ∨ (ks = true ∧ D = .string)

theorem keyB_some {ks : Bool} {t : TypeId} {q : TypeId → Bool} (h : keyB P ks t q = true) : ∃ k e D, P.underlying t = some (.map k e) ∧ P.underlying k = some D ∧ keyD ks D ∧ q e = true := by
  unfold keyB at h
  split at h
  · rename_i k e hu
    simp only [Bool.and_eq_true] at h
    have h1 := h.1
    split at h1
    · rename_i i hk; exact ⟨k, e, _, hu, hk, .inl ⟨by simpa using h1, i, rfl⟩, h.2⟩
    · rename_i hk; exact ⟨k, e, _, hu, hk, .inr ⟨h1, rfl⟩, h.2⟩
    · cases h1
  · cases h

/-- Keys that the evaluator compares are compared so in the model. -/
theorem keyEq_now {ks : Bool} {k k' : AVal} {c c' : Value} {D : TypeDesc} {r : Bool} (hD : keyD ks D) (h : keyEq ks k k' = some r) (hk : Rep Γ k c) (hk' : Rep Γ k' c') : Instr.sameNow D c c' = some r := by
  unfold keyEq at h
  split at h
  · rename_i q x q' y
    split at h <;> first | (cases h; done) | skip
    rename_i hq
    subst hq
    cases h
    have e1 := hk.int_inv
    have e2 := hk'.int_inv
    subst e1; subst e2
    rcases hD with ⟨_, i, rfl⟩ | ⟨h, _⟩
    · simp [Instr.sameNow]; rfl
    · cases h
  · rename_i x y
    cases h
    have e1 := hk.str_inv
    have e2 := hk'.str_inv
    subst e1; subst e2
    rcases hD with ⟨h, _⟩ | ⟨_, rfl⟩
    · cases h
    · simp only [Instr.sameNow]
      congr 1
      rw [Bool.eq_iff_iff, MapKept.bytes_beq]
      simp
  · cases h

theorem findNow_sound {ks : Bool} {k : AVal} {c : Value} {D : TypeDesc} (hD : keyD ks D) (hk : Rep Γ k c) : ∀ {es : List (AVal × AVal)} {ents : List MapEntry} {n : Nat} {r : Option AVal},
    ents.length = es.length → (∀ (i : Nat) (x v : AVal) (en : MapEntry), es[i]? = some (x, v) → ents[i]? = some en → Rep Γ x en.key ∧ Rep Γ v en.val) → findKey ks k es = some r →
    ∃ q, Instr.findNow D c ents n = some q ∧ match r with
      | none => q = none
      | some v => ∃ i u, q = some (i, u) ∧ Rep Γ v u
  | [], [], n, r, _, _, h => by simp [findKey] at h; subst h; exact ⟨none, rfl, rfl⟩
  | [], _ :: _, _, _, hl, _, _ => by simp at hl
  | _ :: _, [], _, _, hl, _, _ => by simp at hl
  | (k', v) :: es, en :: ents, n, r, hl, hr, h => by
    have h0 := hr 0 k' v en rfl rfl
    simp only [findKey] at h
    simp only [Instr.findNow]
    split at h
    · rename_i hq
      cases h
      rw [keyEq_now hD hq hk h0.1]
      exact ⟨_, rfl, n, en.val, rfl, h0.2⟩
    · rename_i hq
      rw [keyEq_now hD hq hk h0.1]
      exact findNow_sound hD hk (by simpa using hl) (fun i x v en hx hv => hr (i + 1) x v en (by simpa using hx) (by simpa using hv)) h
    · cases h

theorem checkKey_run {ks : Bool} {b : Bool} {k : AVal} {c : Value} {kt : TypeId} {D : TypeDesc} {w : World} (hu : P.underlying kt = some D) (hD : keyD ks D) : (Instr.checkKey b 10000 kt c).run P w = .ok () w := by
  show (Instr.checkKey b (9999 + 1) kt c).run P w = _
  rw [Instr.checkKey, Sem.run_bind, run_underlying hu, Result.andThen_ok]
  rcases hD with ⟨_, i, rfl⟩ | ⟨_, rfl⟩ <;> rfl

theorem run_getMap {w : World} {g : Nat} {ents : Array MapEntry} {clock : Nat} (h : w.heap[g]? = some (.map ents clock)) : (getObj g).run P w = .ok (.map ents clock) w := by
  simp [getObj, Sem.run, h]

theorem look_sound {o : Oper} {C : Ctx} {id : Nat} {ks ok : Bool} {z : AVal} {m k : AOpd} {v : AVal} {H H' : Heap} {w : World} (he : EnvRel Γ e a.tmps) (hR : Rel Γ H w) (hk : chkH P (.look ks ok z m k) o.op = true)
    (hv : evH C e id H (.look ks ok z m k) = some (.ok v, H')) : Done P o a w Γ v H' := by
  obtain ⟨dst, op, ty, pos, after, guard⟩ := o
  simp only at hk
  cases op <;> simp only [chkH, Bool.false_eq_true, Bool.and_eq_true, decide_eq_true_eq] at hk
  rename_i t m' k' ok'
  obtain ⟨⟨⟨rfl, hkm⟩, hkk⟩, hkt⟩ := hk
  obtain ⟨kt, el, D, hu, hku, hD, hz⟩ := keyB_some hkt
  obtain ⟨zv, hzr, hzrep, _⟩ := run_zvalB (Γ := Γ) hz w
  simp only [evH] at hv
  split at hv <;> first | (cases hv; done) | skip
  rename_i b kv hm hkv
  split at hv <;> first | (cases hv; done) | skip
  rename_i es hb
  split at hv <;> first | (cases hv; done) | skip
  obtain ⟨g, hc, hmu⟩ := (ev_rep he hkm hm).map_inv
  obtain ⟨g', ents, clock, h1, h2, h3, h4, h5⟩ := hR.blk _ _ hb
  rw [hmu] at h1; cases h1
  have hrk := ev_rep he hkk hkv
  have hck := checkKey_run (P := P) (b := ents.isEmpty) (c := a.eval k') (w := w) (k := kv) hku hD
  split at hv
  · rename_i u hf
    simp only [Option.some.injEq, Prod.mk.injEq, Ex.ok.injEq] at hv
    obtain ⟨rfl, rfl⟩ := hv
    obtain ⟨q, hq, i, uv, rfl, hru⟩ := findNow_sound (n := 0) hD hrk (ents := ents.toList) (by simpa using h4) (fun i x v en hx hv => h5 i x v en hx (by simpa using hv)) hf
    have hrun : (Instr.lookup t (a.eval m') (a.eval k') ok).run P w = .ok (if ok then .tuple #[uv, .bool true] else uv) w := by
      simp only [Instr.lookup, Sem.run_bind, run_underlying hu, Result.andThen_ok, hc, run_getMap h3, Sem.run_pure, hck, Instr.findKey, run_underlying hku, hq]
    refine Done.same hR (exec_v rfl hrun) ?_
    cases ok
    · exact hru
    · exact .tup (cs := [u, .bool true]) (ds := [uv, .bool true]) rfl (Reps.cons hru (Reps.cons (.bool true) (Reps.nil Γ))).2
  · rename_i hf
    simp only [Option.some.injEq, Prod.mk.injEq, Ex.ok.injEq] at hv
    obtain ⟨rfl, rfl⟩ := hv
    obtain ⟨q, hq, rfl⟩ := findNow_sound (n := 0) hD hrk (ents := ents.toList) (by simpa using h4) (fun i x v en hx hv => h5 i x v en hx (by simpa using hv)) hf
    have hrun : (Instr.lookup t (a.eval m') (a.eval k') ok).run P w = .ok (if ok then .tuple #[zv, .bool false] else zv) w := by
      simp only [Instr.lookup, Sem.run_bind, run_underlying hu, Result.andThen_ok, hc, run_getMap h3, Sem.run_pure, hck, Instr.findKey, run_underlying hku, hq, hzr]
    refine Done.same hR (exec_v rfl hrun) ?_
    cases ok
    · exact hzrep
    · exact .tup (cs := [z, .bool false]) (ds := [zv, .bool false]) rfl (Reps.cons hzrep (Reps.cons (.bool false) (Reps.nil Γ))).2
  · cases hv

theorem setKey_sound {ks : Bool} {k v : AVal} {c u : Value} {D : TypeDesc} (hD : keyD ks D) (hk : Rep Γ k c) (hv : Rep Γ v u) : ∀ {es es' : List (AVal × AVal)} {ents : List MapEntry} {n : Nat},
    ents.length = es.length → (∀ (i : Nat) (x y : AVal) (en : MapEntry), es[i]? = some (x, y) → ents[i]? = some en → Rep Γ x en.key ∧ Rep Γ y en.val) → setKey ks k v es = some es' →
    (∃ i val en, Instr.findNow D c ents n = some (some (n + i, val)) ∧ ents[i]? = some en ∧ Instr.sameNow D c en.key = some true ∧ es'.length = es.length ∧
      ∀ (j : Nat) (x y : AVal) (en' : MapEntry), es'[j]? = some (x, y) → (ents.modify i fun e => { e with key := e.key, val := u })[j]? = some en' → Rep Γ x en'.key ∧ Rep Γ y en'.val) ∨
    (Instr.findNow D c ents n = some none ∧ es' = es ++ [(k, v)])
  | [], es', [], n, _, _, h => by simp [setKey] at h; subst h; exact .inr ⟨rfl, rfl⟩
  | [], _, _ :: _, _, hl, _, _ => by simp at hl
  | _ :: _, _, [], _, hl, _, _ => by simp at hl
  | (k', v') :: es, es', en :: ents, n, hl, hr, h => by
    have h0 := hr 0 k' v' en rfl rfl
    simp only [setKey] at h
    simp only [Instr.findNow]
    split at h
    · rename_i hq
      cases h
      have hs := keyEq_now hD hq hk h0.1
      rw [hs]
      refine .inl ⟨0, en.val, en, by simp, rfl, hs, by simp, ?_⟩
      intro j x y en' hx hy
      cases j with
      | zero => simp at hx hy; obtain ⟨rfl, rfl⟩ := hx; subst hy; exact ⟨h0.1, hv⟩
      | succ j => simp at hx hy; exact hr (j + 1) x y en' (by simpa using hx) (by simpa using hy)
    · rename_i hq
      rw [keyEq_now hD hq hk h0.1]
      split at h <;> first | (cases h; done) | skip
      rename_i r' hr'
      cases h
      rcases setKey_sound hD hk hv (n := n + 1) (by simpa using hl) (fun i x y en hx hy => hr (i + 1) x y en (by simpa using hx) (by simpa using hy)) hr' with ⟨i, val, en1, e1, e2, e3, e4, e5⟩ | ⟨e1, rfl⟩
      · refine .inl ⟨i + 1, val, en1, by simp only; rw [e1]; simp; omega, by simpa using e2, e3, by simpa using e4, ?_⟩
        intro j x y en' hx hy
        cases j with
        | zero => simp at hx hy; obtain ⟨rfl, rfl⟩ := hx; subst hy; exact h0
        | succ j => simp at hx hy; exact e5 j x y en' hx hy
      · exact .inr ⟨e1, rfl⟩
    · cases h

theorem sameBits_key {D : TypeDesc} {ks : Bool} {c c' : Value} (hD : keyD ks D) (h : Instr.sameNow D c c' = some true) : Instr.sameBits 10000 c' c = true := by
  rcases hD with ⟨_, i, rfl⟩ | ⟨_, rfl⟩
  · cases c <;> cases c' <;> simp [Instr.sameNow] at h
    obtain ⟨rfl, rfl⟩ := h
    simp [Instr.sameBits]
  · cases c <;> cases c' <;> simp only [Instr.sameNow, reduceCtorEq, Option.some.injEq] at h
    rw [MapKept.bytes_beq] at h
    subst h
    simp only [Instr.sameBits]
    rw [MapKept.bytes_beq]

theorem upd_sound {o : Oper} {C : Ctx} {id : Nat} {ks : Bool} {m k x : AOpd} {v : AVal} {H H' : Heap} {w : World} (he : EnvRel Γ e a.tmps) (hR : Rel Γ H w) (hk : chkH P (.upd ks m k x) o.op = true)
    (hv : evH C e id H (.upd ks m k x) = some (.ok v, H')) : Done P o a w Γ v H' := by
  have hk' : ∃ t m' k' x', (o.op = .mapUpdate t m' k' x' ∨ o.op = .insert t m' k' x') ∧ chkO m m' = true ∧ chkO k k' = true ∧ chkO x x' = true ∧ keyB P ks t (fun _ => true) = true := by
    obtain ⟨dst, op, ty, pos, after, guard⟩ := o
    simp only at hk ⊢
    cases op <;> simp only [chkH, Bool.false_eq_true, Bool.and_eq_true] at hk
    · exact ⟨_, _, _, _, .inr rfl, hk.1.1.1, hk.1.1.2, hk.1.2, hk.2⟩
    · exact ⟨_, _, _, _, .inl rfl, hk.1.1.1, hk.1.1.2, hk.1.2, hk.2⟩
  obtain ⟨t, m', k', x', hop, hkm, hkk, hkx, hkt⟩ := hk'
  obtain ⟨kt, el, D, hu, hku, hD, _⟩ := keyB_some hkt
  simp only [evH] at hv
  split at hv <;> first | (cases hv; done) | skip
  rename_i b kv xv hm hkv hxv
  split at hv <;> first | (cases hv; done) | skip
  rename_i es hb
  split at hv <;> first | (cases hv; done) | skip
  split at hv <;> first | (cases hv; done) | skip
  rename_i es' hset
  simp only [Option.some.injEq, Prod.mk.injEq, Ex.ok.injEq] at hv
  obtain ⟨rfl, rfl⟩ := hv
  obtain ⟨g, hc, hmu⟩ := (ev_rep he hkm hm).map_inv
  obtain ⟨g', ents, clock, h1, h2, h3, h4, h5⟩ := hR.blk _ _ hb
  rw [hmu] at h1; cases h1
  have hrk := ev_rep he hkk hkv
  have hrx := ev_rep he hkx hxv
  have hck := checkKey_run (P := P) (b := false) (c := a.eval k') (w := w) (k := kv) hku hD
  have hlt : g < w.heap.size := (Array.getElem?_eq_some_iff.1 h3).1
  have hset' : ∀ ob : Obj, (setObj g ob).run P w = .ok () { w with heap := w.heap.setIfInBounds g ob } := by
    intro ob; simp [setObj, Sem.run, h3]
  have fin : ∀ (ents' : Array MapEntry) (clock' : Nat), (Instr.mapUpdate t (a.eval m') (a.eval k') (a.eval x')).run P w = .ok () { w with heap := w.heap.setIfInBounds g (.map ents' clock') } →
      ents'.size = es'.length → (∀ (i : Nat) (x y : AVal) (en : MapEntry), es'[i]? = some (x, y) → ents'[i]? = some en → Rep Γ x en.key ∧ Rep Γ y en.val) → Done P o a w Γ undefA (H.set b (.mp es')) := by
    intro ents' clock' hrun hsz hall
    have w1 : ({ w with heap := w.heap.setIfInBounds g (.map ents' clock') } : World).heap[g]? = some (.map ents' clock') := by simp [hlt]
    have w2 : ∀ q : Nat, q ≠ g → ({ w with heap := w.heap.setIfInBounds g (.map ents' clock') } : World).heap[q]? = w.heap[q]? := by
      intro q hq; simp [Array.getElem?_setIfInBounds_ne (Ne.symm hq)]
    have hMg : ∀ j, Γ.M g j = none := by
      intro j
      cases hm : Γ.M g j with
      | none => rfl
      | some d => have := hR.mem _ _ _ hm; simp [World.cell?, h3] at this
    obtain ⟨r1, r2⟩ := hR.write (Γ' := Γ) (B := .mp es') (w' := { w with heap := w.heap.setIfInBounds g (.map ents' clock') }) hb h2 (.refl Γ) (fun _ => rfl) (fun _ _ => ⟨rfl, fun _ => rfl⟩) (fun _ _ _ => rfl) w1 w2 (by simp) rfl rfl rfl
      (fun j d hm => by rw [hMg j] at hm; cases hm) ⟨g, ents', clock', hmu, h2, w1, hsz, hall⟩
    refine ⟨.skip, undef, _, Γ, ?_, .inr ⟨rfl, rfl⟩, rep_undef Γ, r1, r2⟩
    rcases hop with hop | hop
    · exact exec_u (by simp only [execOp, hop]) hrun
    · exact exec_u (by simp only [execOp, hop]) hrun
  rcases setKey_sound (n := 0) hD hrk hrx (ents := ents.toList) (by simpa using h4) (fun i x v en hx hv => h5 i x v en hx (by simpa using hv)) hset with ⟨i, val, en, e1, e2, e3, e4, e5⟩ | ⟨e1, rfl⟩
  · have e2' : ents[i]? = some en := by simpa using e2
    have hkeep : (Instr.keyThatStays en.key (a.eval k')).run P w = .ok (a.eval k') w := by
      simp [Instr.keyThatStays, sameBits_key hD e3]
    have hkeq : a.eval k' = en.key := by
      rcases hD with ⟨_, i, rfl⟩ | ⟨_, rfl⟩
      · revert e3; generalize a.eval k' = q; generalize en.key = r; intro e3
        cases q <;> cases r <;> simp [Instr.sameNow] at e3
        obtain ⟨rfl, rfl⟩ := e3; rfl
      · revert e3; generalize a.eval k' = q; generalize en.key = r; intro e3
        cases q <;> cases r <;> simp only [Instr.sameNow, reduceCtorEq, Option.some.injEq] at e3
        rw [MapKept.bytes_beq] at e3; subst e3; rfl
    refine fin (ents.modify i fun e => { e with key := a.eval k', val := a.eval x' }) clock ?_ (by simp; omega) ?_
    · simp only [Nat.zero_add] at e1
      simp only [Instr.mapUpdate, Sem.run_bind, run_underlying hu, Result.andThen_ok, hc, run_getMap h3, hck, Instr.findKey, run_underlying hku, e1, Sem.run_pure, e2', Option.map_some, Option.getD_some, hkeep, hset']
    · intro j x y en' hx hy
      refine e5 j x y en' hx ?_
      rw [← hy]
      rw [← Array.getElem?_toList, Array.toList_modify]
      rw [List.getElem?_modify, List.getElem?_modify]
      by_cases hij : i = j
      · subst hij
        rw [e2]
        simp [hkeq]
      · simp [hij]
  · refine fin (ents.push { key := a.eval k', val := a.eval x', born := clock }) (clock + 1) ?_ (by simp [h4]) ?_
    · simp only [Instr.mapUpdate, Sem.run_bind, run_underlying hu, Result.andThen_ok, hc, run_getMap h3, hck, Instr.findKey, run_underlying hku, e1, Sem.run_pure, hset']
    · intro j x y en' hx hy
      by_cases hj : j < es.length
      · rw [List.getElem?_append_left hj] at hx
        rw [Array.getElem?_push_lt (by omega)] at hy
        exact h5 j x y en' hx (by rw [← hy]; exact Array.getElem?_eq_getElem (by omega))
      · rw [List.getElem?_append_right (by omega)] at hx
        have hje : j = es.length := by
          have := (List.getElem?_eq_some_iff.1 hx).1
          simp at this; omega
        subst hje
        simp at hx
        obtain ⟨rfl, rfl⟩ := hx
        rw [← h4] at hy
        simp at hy
        subst hy
        exact ⟨hrk, hrx⟩
end

section
variable {Γ : Gh}
/-- The ghost cut back to the first blocks. -/
def Gh.cut (Γ : Gh) (n : Nat) : Gh :=
  { M := Γ.M, mu := fun b => if b < n then Γ.mu b else none, T := fun o l => if o < n then Γ.T o l else none, own := fun g => (Γ.own g).bind fun b => if b < n then some b else none }

theorem Rep.cut {n : Nat} {v : AVal} {c : Value} (h : Rep Γ v c) (hv : lowV n v = true) : Rep (Γ.cut n) v c :=
  Rep.move (Γ := Γ) (Γ' := Γ.cut n) (n := n) (fun _ _ _ h => h) (fun b g hb h => by simp only [Gh.cut]; rw [if_pos hb]; exact h) (fun o l c ho h => by simp only [Gh.cut]; rw [if_pos ho]; exact h) h hv

theorem Reps.cut {n : Nat} {vs : List AVal} {cs : List Value} (h : Reps Γ vs cs) (hv : lowL n vs = true) : Reps (Γ.cut n) vs cs :=
  ⟨h.1, fun i c d hc hd => (h.2 i c d hc hd).cut (lowL_get hv hc)⟩

theorem lowP_get {n : Nat} : ∀ {es : List (AVal × AVal)} {i : Nat} {k v : AVal}, lowP n es = true → es[i]? = some (k, v) → lowV n k = true ∧ lowV n v = true
  | [], i, k, v, _, h => by simp at h
  | (k0, v0) :: es, 0, k, v, hb, h => by simp only [lowP, Bool.and_eq_true] at hb; simp at h; obtain ⟨rfl, rfl⟩ := h; exact hb.1
  | (k0, v0) :: es, i + 1, k, v, hb, h => by simp only [lowP, Bool.and_eq_true] at hb; simp at h; exact lowP_get hb.2 h

theorem lowH_get {n : Nat} : ∀ {H : Heap} {i : Nat} {B : ABlock}, lowH n H = true → H[i]? = some B → lowB n B = true
  | [], i, B, _, h => by simp at h
  | b :: H, 0, B, hb, h => by simp only [lowH, Bool.and_eq_true] at hb; simp at h; exact h ▸ hb.1
  | b :: H, i + 1, B, hb, h => by simp only [lowH, Bool.and_eq_true] at hb; simp at h; exact lowH_get hb.2 h

theorem lowE_get {n : Nat} : ∀ {e : Env} {t : Nat} {v : AVal}, lowE n e = true → e.get t = some v → lowV n v = true
  | [], t, v, _, h => by simp [Env.get] at h
  | (k, u) :: e, t, v, hb, h => by
    simp only [lowE, Bool.and_eq_true] at hb
    simp only [Env.get] at h
    split at h
    · cases h; exact hb.1
    · exact lowE_get hb.2 h

theorem OkB.cut {n b : Nat} {B : ABlock} {w : World} (hn : b < n) (hB : lowB n B = true) (h : OkB Γ w b B) : OkB (Γ.cut n) w b B := by
  have own : ∀ g, Γ.own g = some b → (Γ.cut n).own g = some b := by
    intro g hg; simp [Gh.cut, hg, hn]
  have mu : (Γ.cut n).mu b = Γ.mu b := by simp [Gh.cut, hn]
  have T : ∀ l, (Γ.cut n).T b l = Γ.T b l := by intro l; simp [Gh.cut, hn]
  cases B with
  | hole => simp only [OkB] at h ⊢; rw [mu]; exact ⟨h.1, fun l => by rw [T]; exact h.2 l⟩
  | dead => trivial
  | cells vs =>
    obtain ⟨g, cs, ty, h1, h2, h3, h4, h5, h6⟩ := h
    exact ⟨g, cs, ty, by rw [mu]; exact h1, own g h2, h3, h4, h5.cut hB, h6⟩
  | grow es xs op =>
    obtain ⟨c, h1, h2, h3, h4⟩ := h
    refine ⟨c, by rw [T]; exact h1, fun l hl => by rw [T]; exact h2 l hl, h3, ?_⟩
    rcases h4 with ⟨h4, h5⟩ | ⟨g, cap, cs, ty, k1, k2, k3, k4, k5, k6, k7, k8, k9⟩
    · exact .inl ⟨h4, h5.cut rfl⟩
    · exact .inr ⟨g, cap, cs, ty, k1, own g k2, k3, k4, k5, k6, k7, k8.cut (lowL_iff.2 fun v hv => low_mono (Nat.zero_le _) (flatL_rfree h3 v hv)), k9⟩
  | mp es =>
    obtain ⟨g, ents, clock, h1, h2, h3, h4, h5⟩ := h
    refine ⟨g, ents, clock, by rw [mu]; exact h1, own g h2, h3, h4, ?_⟩
    intro i k v en hk he
    have hl := lowP_get hB hk
    exact ⟨(h5 i k v en hk he).1.cut hl.1, (h5 i k v en hk he).2.cut hl.2⟩

/-- What lies behind the cut is dropped. -/
theorem Rel.cutv {n : Nat} {Γ0 : Gh} {H0 H : Heap} {w0 w : World} (hR0 : Rel Γ0 H0 w0) (hm : H0.length = n) (hR : Rel Γ H w) (hst : Stp Γ0 w0 Γ w) (hH : lowH n (H.take n) = true) : Rel (Γ.cut n) (H.take n) w ∧ Stp Γ0 w0 (Γ.cut n) w := by
  subst hm
  refine ⟨⟨hR.mem, ?_, ?_, ?_⟩, ⟨⟨hst.le.M, ?_, ?_⟩, ?_, hst.newM, hst.size, hst.heap, hst.os, hst.tape, hst.output⟩⟩
  · intro b B hb
    have hbl : b < H0.length := by
      have := (List.getElem?_eq_some_iff.1 hb).1
      simp at this; omega
    have hb' : H[b]? = some B := by rw [List.getElem?_take, if_pos hbl] at hb; exact hb
    exact OkB.cut hbl (lowH_get hH hb) (hR.blk b B hb')
  · intro b hb
    by_cases hbl : b < H0.length
    · have := hR.dom b (by simp at hb; omega)
      refine ⟨by simp only [Gh.cut]; rw [if_pos hbl]; exact this.1, fun l => by simp only [Gh.cut]; rw [if_pos hbl]; exact this.2 l⟩
    · simp [Gh.cut, hbl]
  · intro g b h
    simp only [Gh.cut, Option.bind_eq_some_iff] at h
    obtain ⟨b', h1, _⟩ := h
    exact hR.owned g b' h1
  · intro b g h
    have hb : b < H0.length := by
      rcases Nat.lt_or_ge b H0.length with h' | h'
      · exact h'
      · rw [(hR0.dom b h').1] at h; cases h
    simp only [Gh.cut]; rw [if_pos hb]; exact hst.le.mu b g h
  · intro o l c h
    have hb : o < H0.length := by
      rcases Nat.lt_or_ge o H0.length with h' | h'
      · exact h'
      · rw [(hR0.dom o h').2 l] at h; cases h
    simp only [Gh.cut]; rw [if_pos hb]; exact hst.le.T o l c h
  · intro g hg ho
    simp only [Gh.cut]
    rw [hst.own g hg ho]; rfl
end

end Go.Ev
