/-
  The other operations on memory: in the model as the evaluator says.
-/
import Derived.Test.YtbjoldcjbpngaaaEvJ
set_option linter.unusedVariables false
set_option linter.unusedSimpArgs false
namespace Go.Ev
open Go

section
variable {P : Program} {Γ : Gh} {e : Env} {a : Act}

theorem rep_undef (Γ : Gh) : Rep Γ undefA undef := .tup (cs := []) (ds := []) rfl (by simp)

theorem exec_u {o : Oper} {w w' : World} {s : Sem Unit} (h : execOp a.eval o = (do s; pure Next.skip)) (hs : s.run P w = .ok () w') : (execOp a.eval o).run P w = .ok .skip w' := by
  rw [h]; simp [hs]

theorem st_sound {o : Oper} {H H' : Heap} {w : World} {t : TypeId} {x' v' : Operand} {p v : AVal} {n : Nat} (hR : Rel Γ H w) (ho : o.op = .store t x' v') (hs : sizeB P t n = true) (hp : Rep Γ p (a.eval x')) (hv : Rep Γ v (a.eval v'))
    (hst : storeA H n p v = some H') : Done P o a w Γ undefA H' := by
  obtain ⟨w', Γ', r1, r2, r3⟩ := storeA_sound hR hs hst hp hv
  exact ⟨.skip, undef, w', Γ', exec_u (by simp only [execOp, ho]) r1, .inr ⟨rfl, rfl⟩, rep_undef Γ', r2, r3⟩

theorem sts_sound {o : Oper} {C : Ctx} {id : Nat} {x y : AOpd} {v : AVal} {H H' : Heap} {w : World} (he : EnvRel Γ e a.tmps) (hR : Rel Γ H w) (hk : chkH P (.sts x y) o.op = true)
    (hv : evH C e id H (.sts x y) = some (.ok v, H')) : Done P o a w Γ v H' := by
  obtain ⟨dst, op, ty, pos, after, guard⟩ := o
  simp only at hk
  cases op <;> simp only [chkH, Bool.false_eq_true, Bool.and_eq_true] at hk
  simp only [evH] at hv
  split at hv <;> first | (cases hv; done) | skip
  rename_i p u hp hu
  split at hv <;> first | (cases hv; done) | skip
  rename_i H1 hst
  simp only [Option.some.injEq, Prod.mk.injEq, Ex.ok.injEq] at hv
  obtain ⟨rfl, rfl⟩ := hv
  exact st_sound hR rfl hk.2 (ev_rep he hk.1.1 hp) (ev_rep he hk.1.2 hu) hst

theorem sta_sound {o : Oper} {C : Ctx} {id n : Nat} {x y : AOpd} {v : AVal} {H H' : Heap} {w : World} (he : EnvRel Γ e a.tmps) (hR : Rel Γ H w) (hk : chkH P (.sta n x y) o.op = true)
    (hv : evH C e id H (.sta n x y) = some (.ok v, H')) : Done P o a w Γ v H' := by
  obtain ⟨dst, op, ty, pos, after, guard⟩ := o
  simp only at hk
  cases op <;> simp only [chkH, Bool.false_eq_true, Bool.and_eq_true] at hk
  simp only [evH] at hv
  split at hv <;> first | (cases hv; done) | skip
  rename_i p u hp hu
  split at hv <;> first | (cases hv; done) | skip
  rename_i H1 hst
  simp only [Option.some.injEq, Prod.mk.injEq, Ex.ok.injEq] at hv
  obtain ⟨rfl, rfl⟩ := hv
  exact st_sound hR rfl hk.2 (ev_rep he hk.1.1 hp) (ev_rep he hk.1.2 hu) hst

theorem stk_sound {o : Oper} {C : Ctx} {id n : Nat} {x y : AOpd} {v : AVal} {H H' : Heap} {w : World} (he : EnvRel Γ e a.tmps) (hR : Rel Γ H w) (hk : chkH P (.stk n x y) o.op = true)
    (hv : evH C e id H (.stk n x y) = some (.ok v, H')) : Done P o a w Γ v H' := by
  obtain ⟨dst, op, ty, pos, after, guard⟩ := o
  simp only at hk
  cases op <;> simp only [chkH, Bool.false_eq_true, Bool.and_eq_true] at hk
  simp only [evH] at hv
  split at hv <;> first | (cases hv; done) | skip
  rename_i p u hp hu
  split at hv <;> first | (cases hv; done) | skip
  rename_i H1 hst
  simp only [Option.some.injEq, Prod.mk.injEq, Ex.ok.injEq] at hv
  obtain ⟨rfl, rfl⟩ := hv
  obtain ⟨w', Γ', r1, r2, r3⟩ := storeK_sound hR hk.2 hst (ev_rep he hk.1.1 hp) (ev_rep he hk.1.2 hu)
  exact ⟨.skip, undef, w', Γ', exec_u (by simp only [execOp]) r1, .inr ⟨rfl, rfl⟩, rep_undef Γ', r2, r3⟩

theorem run_indexAt {t el : TypeId} {w : World} {ad : Addr} {len cap es : Nat} {k : IntKind} {n : Int} (hu : P.underlying t = some (.slice el)) (hs : sizeB P el es = true) (h0 : 0 ≤ n) (h1 : n < len) :
    (Instr.indexAt t (.slice (some ad) len cap) (.int k n)).run P w = .ok (.pointer (some (ad.add (n.toNat * es)))) w := by
  simp [Instr.indexAt, asIntOf, run_underlying hu, h0, h1, run_sizeB hs]

theorem lst_elem {xs : List AVal} {ee : Bool} {c : Value} {n es : Nat} {y : AVal} (h : Rep Γ (.lst xs ee) c) (hn : xs[n]? = some y) (hw : y.width = es) :
    ∃ g off cap, c = .slice (some ⟨g, off, none⟩) xs.length cap ∧ Rep Γ (.ro y.flat) (.pointer (some ⟨g, off + n * es, none⟩)) := by
  rcases h.lst_inv with ⟨rfl, base, cap, rfl, hE⟩ | ⟨g, off, cap, es', f, rfl, k1, k2, k3, k4, k5, k6, k7⟩
  · simp at hn
  · have hy := List.mem_of_getElem? hn
    have hes : es' = es := (k3 y hy).symm.trans hw
    subst hes
    refine ⟨g, off, cap, rfl, .ro (fun j => f (n * es' + j)) (rfree_flat (k4 y hy)) ?_ ?_ ?_⟩
    · intro j c hj
      rw [Nat.add_assoc]; exact k5 _ c (flatL_get k3 hn hj)
    · intro j c hj; exact k6 _ c (flatL_get k3 hn hj)
    · intro j c hj; exact k7 _ c (flatL_get k3 hn hj)

theorem ia_sound {o : Oper} {C : Ctx} {id es : Nat} {x i : AOpd} {v : AVal} {H H' : Heap} {w : World} (he : EnvRel Γ e a.tmps) (hR : Rel Γ H w) (hk : chkH P (.ia es x i) o.op = true)
    (hv : evH C e id H (.ia es x i) = some (.ok v, H')) : Done P o a w Γ v H' := by
  obtain ⟨dst, op, ty, pos, after, guard⟩ := o
  simp only at hk
  cases op <;> simp only [chkH, Bool.false_eq_true, Bool.and_eq_true] at hk
  rename_i t x' i'
  obtain ⟨el, hu, hs⟩ := elemB_some hk.2
  simp only [evH] at hv
  split at hv
  · rename_i ol len k n hx hi
    have hci := (ev_rep he hk.1.2 hi).int_inv
    have hrx := ev_rep he hk.1.1 hx
    split at hv <;> first | (cases hv; done) | skip
    rename_i es0 xs op hb
    split at hv <;> first | (cases hv; done) | skip
    rename_i hcond
    obtain ⟨h0, h1, hlen, hany⟩ := hcond
    subst hlen
    cases op with
    | none =>
      simp only [Option.bind_eq_some_iff, Option.some.injEq, Prod.mk.injEq, Ex.ok.injEq] at hv
      obtain ⟨y, hy, rfl, rfl⟩ := hv
      rw [hy] at hany
      have hw : y.width = es := by simpa using hany
      obtain ⟨c1, k1, hlst⟩ := grow_lst (hR.blk _ _ hb)
      obtain ⟨ad, cap, hcx, hT, _⟩ := hrx.gl_inv
      rw [hcx, k1] at hT
      cases hT
      obtain ⟨g, off, cap', hc', hro⟩ := lst_elem hlst hy hw
      cases hc'
      refine Done.same hR (exec_v rfl ?_) hro
      rw [hcx, hci]
      have := run_indexAt (P := P) (w := w) (ad := ⟨g, off, none⟩) (cap := cap) (k := k) hu hs h0 h1
      rw [addr_add] at this
      exact this
    | some f =>
      simp only at hv
      split at hv <;> first | (cases hv; done) | skip
      rename_i hff
      simp only [Option.some.injEq, Prod.mk.injEq, Ex.ok.injEq] at hv
      obtain ⟨rfl, rfl⟩ := hv
      obtain ⟨c', k1, k0, k2, k3⟩ := hR.blk _ _ hb
      rcases k3 with ⟨hbad, _⟩ | ⟨g, cap, cs, cty, rfl, _⟩
      · cases hbad
      · obtain ⟨ad, cap', hcx, hT, _⟩ := hrx.gl_inv
        rw [hcx, k1] at hT
        cases hT
        refine Done.same hR (c := .pointer (some ⟨g, n.toNat * es, none⟩)) (exec_v rfl ?_) (.lptr (cap := cap) k1)
        rw [hcx, hci]
        have := run_indexAt (P := P) (w := w) (ad := ⟨g, 0, none⟩) (cap := cap) (k := k) hu hs h0 h1
        rw [addr_add, Nat.zero_add] at this
        exact this
  · rename_i xs ee k n hx hi
    have hci := (ev_rep he hk.1.2 hi).int_inv
    have hrx := ev_rep he hk.1.1 hx
    split at hv <;> first | (cases hv; done) | skip
    rename_i h0
    split at hv <;> first | (cases hv; done) | skip
    rename_i y hy
    split at hv <;> first | (cases hv; done) | skip
    rename_i hw
    simp only [Option.some.injEq, Prod.mk.injEq, Ex.ok.injEq] at hv
    obtain ⟨rfl, rfl⟩ := hv
    obtain ⟨g, off, cap', hc', hro⟩ := lst_elem hrx hy hw
    refine Done.same hR (exec_v rfl ?_) hro
    rw [hc', hci]
    have hlt : n < xs.length := by have := (List.getElem?_eq_some_iff.1 hy).1; omega
    have := run_indexAt (P := P) (w := w) (ad := ⟨g, off, none⟩) (cap := cap') (k := k) hu hs h0 hlt
    rw [addr_add] at this
    exact this
  · rename_i b off len cap wd k n hx hi
    have hci := (ev_rep he hk.1.2 hi).int_inv
    obtain ⟨g, hcx, hmu⟩ := (ev_rep he hk.1.1 hx).sl_inv
    split at hv <;> first | (cases hv; done) | skip
    rename_i hcond
    simp only [Option.some.injEq, Prod.mk.injEq, Ex.ok.injEq] at hv
    obtain ⟨rfl, rfl⟩ := hv
    refine Done.same hR (exec_v rfl ?_) (.ptr (g := g) hmu)
    rw [hcx, hci]
    have := run_indexAt (P := P) (w := w) (ad := ⟨g, off, none⟩) (cap := cap) (k := k) hu hs hcond.1 hcond.2.1
    rw [addr_add] at this
    exact this
  · cases hv

theorem builtinB_eq {c : Call} {b : Builtin} (h : builtinB c b = true) : c.callee = .builtin b := by
  unfold builtinB at h
  split at h
  · rename_i b' hb'; simp at h; rw [hb', h]
  · cases h

theorem args1_eq {l : List Operand} {q : Operand → Bool} (h : args1 l q = true) : ∃ x, l = [x] ∧ q x = true := by
  unfold args1 at h
  split at h
  · exact ⟨_, rfl, h⟩
  · cases h

theorem args2_eq {l : List Operand} {q : Operand → Operand → Bool} (h : args2 l q = true) : ∃ x y, l = [x, y] ∧ q x y = true := by
  unfold args2 at h
  split at h
  · exact ⟨_, _, rfl, h⟩
  · cases h

theorem len_sound {o : Oper} {C : Ctx} {id : Nat} {k : LenK} {x : AOpd} {v : AVal} {H H' : Heap} {w : World} (he : EnvRel Γ e a.tmps) (hR : Rel Γ H w) (hk : chkH P (.len k x) o.op = true)
    (hv : evH C e id H (.len k x) = some (.ok v, H')) : Done P o a w Γ v H' := by
  obtain ⟨dst, op, ty, pos, after, guard⟩ := o
  simp only at hk
  cases op <;> simp only [chkH, Bool.false_eq_true, Bool.and_eq_true] at hk
  rename_i c
  obtain ⟨⟨hb, ha⟩, ht⟩ := hk
  have hcal := builtinB_eq hb
  obtain ⟨x', hargs, hko⟩ := args1_eq ha
  split at ht <;> first | (cases ht; done) | skip
  rename_i t hts
  simp only [evH] at hv
  split at hv <;> first | (cases hv; done) | skip
  rename_i u hu
  have hrx := ev_rep he hko hu
  unfold okv at hv
  split at hv <;> first | (cases hv; done) | skip
  rename_i v0 hlen
  simp only [Option.some.injEq, Prod.mk.injEq, Ex.ok.injEq] at hv
  obtain ⟨rfl, rfl⟩ := hv
  rw [Option.map_eq_some_iff] at hlen
  obtain ⟨n, hn, rfl⟩ := hlen
  refine Done.same hR (c := goInt n) ?_ (.int _ _)
  have e1 : (c.args.map a.eval)[0]? = some (a.eval x') := by
    rw [show c.args = [x'].toArray from by apply Array.ext'; simpa using hargs]; simp
  have key : (Builtin.len_ c.argTypes ty (c.args.map a.eval)).run P w = .ok (goInt n) w := by
    unfold lenTy at ht
    split at ht
    · rename_i el hut
      have : k = .slice := by simpa using ht
      subst this
      cases u <;> simp only [lenOf, reduceCtorEq, Option.some.injEq] at hn
      · obtain ⟨base, cap, hc, _, _⟩ := hrx.lst_slice
        simp [Builtin.len_, hts, e1, run_underlying hut, hc, hn]
      · obtain ⟨ad, cap, hc, _, _⟩ := hrx.gl_inv
        simp [Builtin.len_, hts, e1, run_underlying hut, hc, hn]
      · obtain ⟨g, hc, _⟩ := hrx.sl_inv
        simp [Builtin.len_, hts, e1, run_underlying hut, hc, hn]
    · rename_i hut
      have : k = .str := by simpa using ht
      subst this
      cases u <;> simp only [lenOf, reduceCtorEq, Option.some.injEq] at hn
      have hc := hrx.str_inv
      simp [Builtin.len_, hts, e1, run_underlying hut, hc, stringSize, hn]
    · rename_i kt et hut
      have : k = .map := by simpa using ht
      subst this
      cases u <;> simp only [lenOf, reduceCtorEq, Option.some.injEq] at hn
      · subst hn
        have hc : a.eval x' = .map none := by generalize a.eval x' = cx at hrx; cases hrx; rfl
        simp [Builtin.len_, hts, e1, run_underlying hut, hc]
      · split at hn <;> first | (cases hn; done) | skip
        rename_i es hbm
        simp only [Option.some.injEq] at hn
        obtain ⟨g, hc, hmu⟩ := hrx.map_inv
        obtain ⟨g', ents, clock, h1, h2, h3, h4, h5⟩ := hR.blk _ _ hbm
        rw [h1] at hmu; cases hmu
        have hgo : (getObj g).run P w = .ok (.map ents clock) w := by simp [getObj, Sem.run, h3]
        simp [Builtin.len_, hts, e1, run_underlying hut, hc, hgo, h4, hn]
    · cases ht
  simp only [execOp, resolve, hcal, Sem.run_bind, Sem.run_pure, Result.andThen_ok, invoke, builtin, key]

theorem cap_sound {o : Oper} {C : Ctx} {id : Nat} {x : AOpd} {v : AVal} {H H' : Heap} {w : World} (he : EnvRel Γ e a.tmps) (hR : Rel Γ H w) (hk : chkH P (.cap x) o.op = true)
    (hv : evH C e id H (.cap x) = some (.ok v, H')) : Done P o a w Γ v H' := by
  obtain ⟨dst, op, ty, pos, after, guard⟩ := o
  simp only at hk
  cases op <;> simp only [chkH, Bool.false_eq_true, Bool.and_eq_true] at hk
  rename_i c
  obtain ⟨⟨hb, ha⟩, ht⟩ := hk
  have hcal := builtinB_eq hb
  obtain ⟨x', hargs, hko⟩ := args1_eq ha
  split at ht <;> first | (cases ht; done) | skip
  rename_i t hts
  unfold lenTy at ht
  split at ht
  · rename_i el hut
    simp only [evH] at hv
    have e1 : (c.args.map a.eval)[0]? = some (a.eval x') := by
      rw [show c.args = [x'].toArray from by apply Array.ext'; simpa using hargs]; simp
    split at hv
    · rename_i hu
      simp only [Option.some.injEq, Prod.mk.injEq, Ex.ok.injEq] at hv
      obtain ⟨rfl, rfl⟩ := hv
      obtain ⟨g, hc, _⟩ := (ev_rep he hko hu).sl_inv
      refine Done.same hR (c := goInt _) ?_ (.int _ _)
      simp [execOp, resolve, hcal, invoke, builtin, Builtin.cap_, hts, e1, run_underlying hut, hc]
    · rename_i xs hu
      simp only [Option.some.injEq, Prod.mk.injEq, Ex.ok.injEq] at hv
      obtain ⟨rfl, rfl⟩ := hv
      obtain ⟨base, cap, hc, _, hcl⟩ := (ev_rep he hko hu).lst_slice
      refine Done.same hR (c := goInt _) ?_ (.int _ _)
      have := hcl rfl
      simp [execOp, resolve, hcal, invoke, builtin, Builtin.cap_, hts, e1, run_underlying hut, hc, this]
    · cases hv
  all_goals first | (simp at ht; done) | (cases ht; done)
end

end Go.Ev
