/-
  Slice expressions, appended zeros, copy, clear and maps: in the model as the evaluator says.
-/
import Derived.Test.YtbjoldcjbpngaaaEvK
set_option linter.unusedVariables false
set_option linter.unusedSimpArgs false
namespace Go.Ev
open Go

section
variable {P : Program} {Γ : Gh} {e : Env} {a : Act}

theorem slca_sound {o : Oper} {C : Ctx} {id len es : Nat} {wd : Option Nat} {x : AOpd} {lo hi mx : Option AOpd} {v : AVal} {H H' : Heap} {w : World} (he : EnvRel Γ e a.tmps) (hR : Rel Γ H w) (hk : chkH P (.slca len es wd x lo hi mx) o.op = true)
    (hv : evH C e id H (.slca len es wd x lo hi mx) = some (.ok v, H')) : Done P o a w Γ v H' := by
  obtain ⟨dst, op, ty, pos, after, guard⟩ := o
  simp only at hk
  cases op <;> simp only [chkH, Bool.false_eq_true, Bool.and_eq_true] at hk
  rename_i t x' lo' hi' mx'
  obtain ⟨⟨⟨⟨hkx, hkl⟩, hkh⟩, hkm⟩, ht⟩ := hk
  unfold arrB at ht
  split at ht <;> first | (cases ht; done) | skip
  rename_i n el hu
  simp only [Bool.and_eq_true, decide_eq_true_eq] at ht
  obtain ⟨rfl, hs⟩ := ht
  simp only [evH] at hv
  split at hv <;> first | (cases hv; done) | skip
  rename_i b off lov hiv mxv hx hlo hhi hmx
  split at hv <;> first | (cases hv; done) | skip
  rename_i l h m hb
  split at hv <;> first | (cases hv; done) | skip
  rename_i hcond
  simp only [Option.some.injEq, Prod.mk.injEq, Ex.ok.injEq] at hv
  obtain ⟨rfl, rfl⟩ := hv
  obtain ⟨g, hc, hmu⟩ := (ev_rep he hkx hx).ptr_inv
  obtain ⟨hbr, h1, h2, h3⟩ := run_bounds (P := P) (b0 := false) w (Nat.le_refl n) (opt_reps he hkl hlo) (opt_reps he hkh hhi) (opt_reps he hkm hmx) hb
  refine Done.same hR (c := .slice (some ⟨g, off + l * es, none⟩) (h - l) (m - l)) (exec_v rfl ?_) (.sl hmu)
  rw [hc]
  have hne : m ≠ l := by omega
  simp only [Instr.sliceAt, Sem.run_bind, run_underlying hu, Result.andThen_ok, Instr.sureAddr, Sem.run_pure, hbr, run_sizeB hs, hne, if_false, addr_add]

theorem bounds_zero {n cap l h m : Nat} {k : IntKind} {lo hi : Option AVal} (hb : bounds n n lo hi (some (.int k 0)) = some (l, h, m)) : l = 0 ∧ h = 0 ∧ m = 0 ∧ bounds n cap lo hi (some (.int k 0)) = some (0, 0, 0) := by
  have hz : ∀ y, bnd y (.int k 0) = some 0 := by intro y; simp [bnd]
  unfold bounds at hb ⊢
  simp only [hz] at hb ⊢
  split at hb <;> first | (cases hb; done) | skip
  rename_i h' hh
  split at hb <;> first | (cases hb; done) | skip
  rename_i l' hl
  have e1 : h' = 0 := by
    cases hi with
    | none => simp at hh
    | some v =>
      simp only at hh
      cases v <;> simp only [bnd, reduceCtorEq] at hh
      split at hh <;> first | (cases hh; done) | skip
      simp at hh; omega
  subst e1
  have e2 : l' = 0 := by
    cases lo with
    | none => simp at hl; exact hl.symm
    | some v =>
      simp only at hl
      cases v <;> simp only [bnd, reduceCtorEq] at hl
      split at hl <;> first | (cases hl; done) | skip
      simp at hl; omega
  subst e2
  simp only [Option.some.injEq, Prod.mk.injEq] at hb
  obtain ⟨rfl, rfl, rfl⟩ := hb
  exact ⟨rfl, rfl, rfl, rfl⟩

theorem bounds_more {n cap l h m : Nat} {lo hi : Option AVal} (hb : bounds n n lo hi none = some (l, h, m)) (hc : n ≤ cap) : bounds n cap lo hi none = some (l, h, cap) ∧ l ≤ h ∧ h ≤ n := by
  have hmono : ∀ v h', bnd n v = some h' → bnd cap v = some h' ∧ h' ≤ n := by
    intro v h' hv
    cases v <;> simp only [bnd, reduceCtorEq] at hv ⊢
    split at hv <;> first | (cases hv; done) | skip
    rename_i hi
    rw [if_pos ⟨hi.1, by omega⟩]
    simp at hv
    exact ⟨by rw [hv], by omega⟩
  have hb2 : ∀ y v l', bnd y v = some l' → l' ≤ y := by
    intro y v l' hv
    cases v <;> simp only [bnd, reduceCtorEq] at hv
    split at hv <;> first | (cases hv; done) | skip
    simp at hv; omega
  unfold bounds at hb ⊢
  simp only [Option.isSome_none, Bool.false_eq_true, if_false] at hb ⊢
  split at hb <;> first | (cases hb; done) | skip
  rename_i h' hh
  split at hb <;> first | (cases hb; done) | skip
  rename_i l' hl
  simp only [Option.some.injEq, Prod.mk.injEq] at hb
  obtain ⟨rfl, rfl, rfl⟩ := hb
  have e1 : h' ≤ n := by
    cases hi with
    | none => simp at hh; omega
    | some v => exact (hmono v h' hh).2
  have e2 : l' ≤ h' := by
    cases lo with
    | none => simp at hl; omega
    | some v => exact hb2 _ v _ hl
  refine ⟨?_, e2, e1⟩
  cases hi with
  | none =>
    simp at hh
    subst hh
    simp only
    rw [hl]
  | some v =>
    have := (hmono v h' hh).1
    simp only [this]
    rw [hl]

theorem run_sliceAt {t el : TypeId} {w : World} {base : Option Addr} {len cap l h m es : Nat} {lo hi mx : Option Value} (hu : P.underlying t = some (.slice el)) (hs : sizeB P el es = true) (hb : (Instr.sliceBounds true len cap lo hi mx).run P w = .ok (l, h, m) w) :
    (Instr.sliceAt t (.slice base len cap) lo hi mx).run P w = .ok (.slice (if m = l then base else base.map (·.add (l * es))) (h - l) (m - l)) w := by
  simp only [Instr.sliceAt, Sem.run_bind, run_underlying hu, Result.andThen_ok, Instr.slice, hb, run_sizeB hs, Sem.run_pure]

theorem cutLst_sound {t el : TypeId} {w : World} {es : Nat} {xs : List AVal} {ee : Bool} {c : Value} {v : AVal} {lo hi mx : Option AVal} {lo' hi' mx' : Option Operand} (hu : P.underlying t = some (.slice el)) (hs : sizeB P el es = true)
    (h1 : (lo = none ∧ lo' = none) ∨ ∃ u z, lo = some u ∧ lo' = some z ∧ Rep Γ u (a.eval z)) (h2 : (hi = none ∧ hi' = none) ∨ ∃ u z, hi = some u ∧ hi' = some z ∧ Rep Γ u (a.eval z))
    (h3 : (mx = none ∧ mx' = none) ∨ ∃ u z, mx = some u ∧ mx' = some z ∧ Rep Γ u (a.eval z)) (hr : Rep Γ (.lst xs ee) c) (hv : cutLst es xs ee lo hi mx = some v) :
    ∃ d, (Instr.sliceAt t c (lo'.map a.eval) (hi'.map a.eval) (mx'.map a.eval)).run P w = .ok d w ∧ Rep Γ v d := by
  obtain ⟨base, cap, rfl, hle, hex⟩ := hr.lst_slice
  unfold cutLst at hv
  split at hv
  · rename_i k m
    split at hv <;> first | (cases hv; done) | skip
    rename_i hm0
    subst hm0
    split at hv <;> first | (cases hv; done) | skip
    rename_i q hq
    obtain ⟨l, h, m⟩ := q
    simp only [Option.some.injEq] at hv
    subst hv
    obtain ⟨_, _, _, hb⟩ := bounds_zero (cap := cap) hq
    obtain ⟨hbr, _⟩ := run_bounds (P := P) (b0 := true) w hle h1 h2 h3 hb
    refine ⟨_, run_sliceAt hu hs hbr, ?_⟩
    simp only [if_true, Nat.sub_self]
    rcases hr.lst_inv with ⟨rfl, base', cap0, he, hE⟩ | ⟨g, off, cap', es', f, he, k1, k2, k3, k4, k5, k6, k7⟩
    · cases he
      refine Rep.emp ?_
      rcases hE with ⟨rfl, _⟩ | ⟨⟨a, rfl⟩, _⟩
      · exact .inl ⟨by simp, rfl⟩
      · exact .inr ⟨⟨_, rfl⟩, fun _ => rfl⟩
    · cases he
      exact .lst (xs := []) (es := 0) f (Nat.le_refl _) (fun _ => rfl) (by simp) (by simp) (by simp [flatL]) (by simp [flatL]) (by simp [flatL])
  · cases hv
  · split at hv <;> first | (cases hv; done) | skip
    rename_i l h m hq
    split at hv <;> first | (cases hv; done) | skip
    rename_i hall
    simp only [Option.some.injEq] at hv
    subst hv
    have hw := width_all hall
    obtain ⟨hb, hlh, hhn⟩ := bounds_more hq hle
    obtain ⟨hbr, _⟩ := run_bounds (P := P) (b0 := true) w hle h1 h2 h3 hb
    refine ⟨_, run_sliceAt hu hs hbr, ?_⟩
    have hlen : ((xs.take h).drop l).length = h - l := by simp; omega
    rcases hr.lst_inv with ⟨rfl, base', cap0, he, hE⟩ | ⟨g, off, cap', es', f, he, k1, k2, k3, k4, k5, k6, k7⟩
    · cases he
      simp at hhn
      have : l = 0 := by omega
      subst this; subst hhn
      simp
      refine Rep.emp ?_
      rcases hE with ⟨rfl, h0⟩ | ⟨⟨a, rfl⟩, h0⟩
      · exact .inl ⟨by simp, h0⟩
      · right
        refine ⟨?_, h0⟩
        split
        · exact ⟨_, rfl⟩
        · exact ⟨_, rfl⟩
    · cases he
      have hmem : ∀ y, y ∈ (xs.take h).drop l → y ∈ xs := fun y hy => List.mem_of_mem_take (List.mem_of_mem_drop hy)
      have hflat : flatL ((xs.take h).drop l) = ((flatL xs).take (h * es)).drop (l * es) := by
        rw [flatL_drop (fun y hy => hw y (List.mem_of_mem_take hy)), flatL_take hw]
      have hget : ∀ (j : Nat) (c : AVal), (flatL ((xs.take h).drop l))[j]? = some c → (flatL xs)[l * es + j]? = some c := by
        intro j c hj
        rw [hflat, List.getElem?_drop, List.getElem?_take] at hj
        split at hj
        · exact hj
        · cases hj
      by_cases hcl : cap = l
      · have hemp : (xs.take h).drop l = [] := List.eq_nil_of_length_eq_zero (by omega)
        rw [hemp] at hlen ⊢
        rw [if_pos hcl]
        have e0 : h - l = 0 := by simpa using hlen.symm
        have e1 : cap - l = 0 := by omega
        rw [e0, e1]
        exact .lst (xs := []) (es := 0) f (Nat.le_refl _) (fun _ => rfl) (by simp) (by simp) (by simp [flatL]) (by simp [flatL]) (by simp [flatL])
      · rw [if_neg hcl]
        simp only [Option.map_some, addr_add]
        rw [← hlen]
        refine .lst (es := es) (fun j => f (l * es + j)) (by omega) ?_ (fun y hy => hw y (hmem y hy)) (fun y hy => k4 y (hmem y hy)) ?_ ?_ ?_
        · intro hee
          simp only [Bool.and_eq_true, decide_eq_true_eq] at hee
          have := k2 hee.1
          omega
        · intro j c hj; rw [Nat.add_assoc]; exact k5 _ c (hget j c hj)
        · intro j c hj; exact k6 _ c (hget j c hj)
        · intro j c hj; exact k7 _ c (hget j c hj)

theorem asLst_sound {H : Heap} {w : World} {s : AVal} {xs : List AVal} {ee : Bool} {c : Value} (hR : Rel Γ H w) (h : asLst H s = some (xs, ee)) (hr : Rep Γ s c) : Rep Γ (.lst xs ee) c := by
  cases s <;> simp only [asLst, reduceCtorEq] at h
  · cases h; exact hr
  · split at h <;> first | (cases h; done) | skip
    rename_i xs' _ hg
    cases h
    obtain ⟨_, xs'', he, _, _, h'⟩ := growAt_sound hR hr hg
    cases he
    exact h'

/-- A list's id is given up, and a new one takes its block. -/
theorem cutOpen_sound {t el : TypeId} {w : World} {es : Nat} {s v : AVal} {c : Value} {H H' : Heap} {lo hi mx : Option AVal} {lo' hi' mx' : Option Operand} (hR : Rel Γ H w) (hu : P.underlying t = some (.slice el)) (hs : sizeB P el es = true)
    (h1 : (lo = none ∧ lo' = none) ∨ ∃ u z, lo = some u ∧ lo' = some z ∧ Rep Γ u (a.eval z)) (h2 : (hi = none ∧ hi' = none) ∨ ∃ u z, hi = some u ∧ hi' = some z ∧ Rep Γ u (a.eval z))
    (h3 : (mx = none ∧ mx' = none) ∨ ∃ u z, mx = some u ∧ mx' = some z ∧ Rep Γ u (a.eval z)) (hr : Rep Γ s c) (hv : cutOpen H es s lo hi mx = some (v, H')) :
    ∃ d Γ', (Instr.sliceAt t c (lo'.map a.eval) (hi'.map a.eval) (mx'.map a.eval)).run P w = .ok d w ∧ Rep Γ' v d ∧ Rel Γ' H' w ∧ Stp Γ w Γ' w := by
  unfold cutOpen at hv
  split at hv <;> first | (cases hv; done) | skip
  rename_i ol len k hh
  split at hv <;> first | (cases hv; done) | skip
  rename_i es0 xs f hb
  split at hv <;> first | (cases hv; done) | skip
  rename_i hcond
  obtain ⟨rfl, hfh, hhl, rfl⟩ := hcond
  simp only [Option.some.injEq, Prod.mk.injEq] at hv
  obtain ⟨rfl, rfl⟩ := hv
  obtain ⟨c', k1, k0, k2, k3⟩ := hR.blk _ _ hb
  rcases k3 with ⟨hbad, _⟩ | ⟨g, cap, cs, cty, rfl, e2, e3, e4, e5, e6, e7, e8, e9, e10, e11, e12⟩
  · cases hbad
  obtain ⟨ad, cap', rfl, hT, _⟩ := hr.gl_inv
  rw [k1] at hT
  cases hT
  have hb0 : bounds xs.length cap none (some (.int k hh)) none = some (0, hh.toNat, cap) := by
    simp only [bounds, bnd]
    rw [if_pos ⟨by omega, by omega⟩]
  obtain ⟨hbr, _⟩ := run_bounds (P := P) (b0 := true) w e4 h1 h2 h3 hb0
  have hlt : ol < H.length := (List.getElem?_eq_some_iff.1 hb).1
  have hlen : (xs.take hh.toNat).length = hh.toNat := by simp; omega
  have hdomN := hR.dom H.length (Nat.le_refl _)
  simp only [Option.getD_some] at e10 e11 e12
  generalize hΓ : Γ.list H.length g hh.toNat (.slice (some ⟨g, 0, none⟩) hh.toNat cap) (hh.toNat * es0) cs = Γ'
  have hfe : f * es0 ≤ hh.toNat * es0 := Nat.mul_le_mul_right _ (by omega)
  have hcap : hh.toNat * es0 ≤ cs.size := by rw [e5]; exact Nat.mul_le_mul_right _ (by omega)
  have hle : Γ.le Γ' := by
    subst hΓ
    refine ⟨?_, fun _ _ h => h, ?_⟩
    · intro q j d hm
      simp only [Gh.list]
      split
      · rename_i eq; subst eq
        by_cases hj : j < f * es0
        · rw [if_pos (by omega), ← e11 j hj]; exact hm
        · rw [e12 j (by omega)] at hm; cases hm
      · exact hm
    · intro q l d hm
      simp only [Gh.list]
      split
      · rename_i eq; rw [eq.1, hdomN.2] at hm; cases hm
      · exact hm
  refine ⟨.slice (some ⟨g, 0, none⟩) hh.toNat cap, Γ', ?_, ?_, ⟨?_, ?_, ?_, ?_⟩, ⟨hle, ?_, ?_, Nat.le_refl _, fun _ _ _ => rfl, rfl, rfl, rfl⟩⟩
  · rw [run_sliceAt hu hs hbr]
    have : (if cap = 0 then (some (⟨g, 0, none⟩ : Addr)) else (some (⟨g, 0, none⟩ : Addr)).map (·.add (0 * es0))) = some ⟨g, 0, none⟩ := by
      split
      · rfl
      · simp [addr_add]
    rw [this]; simp
  · refine .gl ?_ (fun _ => rfl)
    subst hΓ
    simp [Gh.list]
  · intro q j d hm
    subst hΓ
    simp only [Gh.list] at hm
    split at hm
    · rename_i eq; subst eq
      rw [cell_at e3]
      split at hm
      · exact hm
      · cases hm
    · exact hR.mem q j d hm
  · intro q B hq
    by_cases e1 : q = H.length
    · subst e1
      rw [List.getElem?_append_right (by simp)] at hq
      simp at hq
      subst hq
      have hwt : ∀ y, y ∈ xs.take hh.toNat → y.width = es0 := fun y hy => e7 y (List.mem_of_mem_take hy)
      have hfl := flatL_length e7
      have hflt := flatL_length hwt
      refine ⟨.slice (some ⟨g, 0, none⟩) hh.toNat cap, by rw [hlen]; subst hΓ; simp [Gh.list], ?_, fun y hy => k2 y (List.mem_of_mem_take hy), .inr ⟨g, cap, cs, cty, by rw [hlen], by subst hΓ; simp [Gh.list], e3, by omega, e5, e6, hwt, ?_, e9, by simp, ?_, ?_⟩⟩
      · intro l hl
        subst hΓ
        simp only [Gh.list]
        rw [if_neg (by omega)]
        exact hdomN.2 l
      · rw [flatL_take e7]
        have := (e8.take (hh.toNat * es0)).mono hle
        rw [List.take_take] at this
        rw [List.length_take]
        exact this
      · intro j hj; simp only [Option.getD_none, hlen] at hj; subst hΓ; simp only [Gh.list, if_true]; rw [if_pos hj]
      · intro j hj; simp only [Option.getD_none, hlen] at hj; subst hΓ; simp only [Gh.list, if_true]; rw [if_neg (by omega)]
    · have hq' : (H.set ol .dead)[q]? = some B := by
        by_cases hql : q < H.length
        · rw [List.getElem?_append_left (by simpa using hql)] at hq; exact hq
        · rw [List.getElem?_append_right (by simp; omega)] at hq
          rw [List.getElem?_eq_none (by simp; omega)] at hq
          cases hq
      by_cases e2' : q = ol
      · subst e2'
        rw [List.getElem?_set_self hlt] at hq'
        cases hq'
        trivial
      · rw [List.getElem?_set_ne (Ne.symm e2')] at hq'
        refine (hR.blk q B hq').step hle ?_ ?_
        · intro g' hg'
          have hne : g' ≠ g := by intro eq; subst eq; rw [e2] at hg'; cases hg'; exact e2' rfl
          subst hΓ
          refine ⟨?_, rfl, ?_⟩
          · simp only [Gh.list]; rw [if_neg hne]; exact hg'
          · intro o; simp only [Gh.list]; rw [if_neg hne]
        · subst hΓ
          exact ⟨rfl, fun l => by simp only [Gh.list]; rw [if_neg (by intro h; exact e1 h.1)]⟩
  · intro q hq
    simp at hq
    obtain ⟨d1, d2⟩ := hR.dom q (by omega)
    subst hΓ
    exact ⟨d1, fun l => by simp only [Gh.list]; rw [if_neg (by omega)]; exact d2 l⟩
  · intro q b hq
    subst hΓ
    simp only [Gh.list] at hq
    split at hq
    · rename_i eq; subst eq; exact (Array.getElem?_eq_some_iff.1 e3).1
    · exact hR.owned q b hq
  · intro q hq ho
    subst hΓ
    simp only [Gh.list]
    rw [if_neg (by intro eq; subst eq; rw [e2] at ho; cases ho)]; exact ho
  · intro q o hq ho
    subst hΓ
    simp only [Gh.list]
    rw [if_neg (by intro eq; subst eq; rw [e2] at ho; cases ho)]

theorem slc_sound {o : Oper} {C : Ctx} {id es : Nat} {x : AOpd} {lo hi mx : Option AOpd} {v : AVal} {H H' : Heap} {w : World} (he : EnvRel Γ e a.tmps) (hR : Rel Γ H w) (hk : chkH P (.slc es x lo hi mx) o.op = true)
    (hv : evH C e id H (.slc es x lo hi mx) = some (.ok v, H')) : Done P o a w Γ v H' := by
  obtain ⟨dst, op, ty, pos, after, guard⟩ := o
  simp only at hk
  cases op <;> simp only [chkH, Bool.false_eq_true, Bool.and_eq_true] at hk
  rename_i t x' lo' hi' mx'
  obtain ⟨⟨⟨⟨hkx, hkl⟩, hkh⟩, hkm⟩, ht⟩ := hk
  obtain ⟨el, hu, hs⟩ := elemB_some ht
  simp only [evH] at hv
  split at hv <;> first | (cases hv; done) | skip
  · rename_i b off len cap wd lov hiv mxv hx hlo hhi hmx
    split at hv <;> first | (cases hv; done) | skip
    rename_i l h m hb
    split at hv <;> first | (cases hv; done) | skip
    rename_i hcond
    simp only [Option.some.injEq, Prod.mk.injEq, Ex.ok.injEq] at hv
    obtain ⟨rfl, rfl⟩ := hv
    obtain ⟨g, hc, hmu⟩ := (ev_rep he hkx hx).sl_inv
    obtain ⟨hbr, h1, h2, h3⟩ := run_bounds (P := P) (b0 := true) w hcond.2.2 (opt_reps he hkl hlo) (opt_reps he hkh hhi) (opt_reps he hkm hmx) hb
    refine Done.same hR (c := .slice (some ⟨g, off + l * es, none⟩) (h - l) (m - l)) (exec_v rfl ?_) (.sl hmu)
    rw [hc, run_sliceAt hu hs hbr]
    have hne : m ≠ l := by omega
    simp [hne, addr_add]
  · rename_i s lov hiv mxv _ hx hlo hhi hmx
    split at hv
    · rename_i v' H1 hco
      simp only [Option.some.injEq, Prod.mk.injEq, Ex.ok.injEq] at hv
      obtain ⟨rfl, rfl⟩ := hv
      obtain ⟨d, Γ', r1, r2, r3, r4⟩ := cutOpen_sound (P := P) (t := t) hR hu hs (opt_reps he hkl hlo) (opt_reps he hkh hhi) (opt_reps he hkm hmx) (ev_rep he hkx hx) hco
      exact ⟨_, d, w, Γ', exec_v rfl r1, .inl rfl, r2, r3, r4⟩
    · split at hv <;> first | (cases hv; done) | skip
      rename_i xs ee has
      split at hv <;> first | (cases hv; done) | skip
      rename_i v' hcu
      simp only [Option.some.injEq, Prod.mk.injEq, Ex.ok.injEq] at hv
      obtain ⟨rfl, rfl⟩ := hv
      obtain ⟨d, r1, r2⟩ := cutLst_sound (P := P) (t := t) (w := w) hu hs (opt_reps he hkl hlo) (opt_reps he hkh hhi) (opt_reps he hkm hmx) (asLst_sound hR has (ev_rep he hkx hx)) hcu
      exact Done.same hR (exec_v rfl r1) r2
end

end Go.Ev
