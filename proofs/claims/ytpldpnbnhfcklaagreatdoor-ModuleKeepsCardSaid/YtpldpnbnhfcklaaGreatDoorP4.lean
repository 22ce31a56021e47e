/-
  Part 4 of a proof: ModuleKeeps: for every input the law returns true, and what it was given reads behind the call as before. No conditions beyond the row's own.
-/
import Derived.Test.YtpldpnbnhfcklaaGreatDoorP3
import Derived.MapKept
import Derived.Laws.BytesArg
import Derived.Laws.IdiomStrings
import Derived.Orders
import Derived.Scope
import Derived.ProofKit
import Derived.Lib.Bytealg
namespace Go.Ev
set_option linter.unusedVariables false
set_option linter.unusedSimpArgs false
open Go
section
variable {P : Program} {Γ : Gh} {e : Env} {a : Act}
theorem y5n {o : Oper} {C : Ctx} {id len es : Nat} {wd : Option Nat} {x : AOpd} {lo hi mx : Option AOpd} {v : AVal} {H H' : Heap} {w : World} (he : EnvRel Γ e a.tmps) (hR : Rel Γ H w) (hk : chkH P (.slca len es wd x lo hi mx) o.op = true)
    (hv : evH C e id H (.slca len es wd x lo hi mx) = some (.ok v, H')) : Done P o a w Γ v H' := by
  obtain ⟨dst, op, ty, pos, after, guard⟩ := o
  simp only at hk
  cases op <;> simp only [chkH, Bool.false_eq_true, Bool.and_eq_true] at hk
  rename_i t x' lo' hi' mx'
  obtain ⟨⟨⟨⟨hkx, hkl⟩, hkh⟩, hkm⟩, ht⟩ := hk
  unfold arrB at ht
  split at ht <;> first | (cases ht; done) | skip
  rename_i n el hu
  simp only [Bool.and_eq_true, decide_eq_true_eq] at ht
  obtain ⟨rfl, hs⟩ := ht
  simp only [evH] at hv
  split at hv <;> first | (cases hv; done) | skip
  rename_i b off lov hiv mxv hx hlo hhi hmx
  split at hv <;> first | (cases hv; done) | skip
  rename_i l h m hb
  split at hv <;> first | (cases hv; done) | skip
  rename_i hcond
  simp only [Option.some.injEq, Prod.mk.injEq, Ex.ok.injEq] at hv
  obtain ⟨rfl, rfl⟩ := hv
  obtain ⟨g, hc, hmu⟩ := (ev_rep he hkx hx).ptr_inv
  obtain ⟨hbr, h1, h2, h3⟩ := y0w (P := P) (b0 := false) w (Nat.le_refl n) (opt_reps he hkl hlo) (opt_reps he hkh hhi) (opt_reps he hkm hmx) hb
  refine Done.same hR (c := .slice (some ⟨g, off + l * es, none⟩) (h - l) (m - l)) (exec_v rfl ?_) (.sl hmu)
  rw [hc]
  have hne : m ≠ l := by omega
  simp only [Instr.sliceAt, Sem.run_bind, run_underlying hu, Result.andThen_ok, Instr.sureAddr, Sem.run_pure, hbr, run_sizeB hs, hne, if_false, addr_add]
theorem y5g {n cap l h m : Nat} {k : IntKind} {lo hi : Option AVal} (hb : bounds n n lo hi (some (.int k 0)) = some (l, h, m)) : l = 0 ∧ h = 0 ∧ m = 0 ∧ bounds n cap lo hi (some (.int k 0)) = some (0, 0, 0) := by
  have hz : ∀ y, bnd y (.int k 0) = some 0 := by intro y; simp [bnd]
  unfold bounds at hb ⊢
  simp only [hz] at hb ⊢
  split at hb <;> first | (cases hb; done) | skip
  rename_i h' hh
  split at hb <;> first | (cases hb; done) | skip
  rename_i l' hl
  have e1 : h' = 0 := by
    cases hi with
    | none => simp at hh
    | some v =>
      simp only at hh
      cases v <;> simp only [bnd, reduceCtorEq] at hh
      split at hh <;> first | (cases hh; done) | skip
      simp at hh; omega
  subst e1
  have e2 : l' = 0 := by
    cases lo with
    | none => simp at hl; exact hl.symm
    | some v =>
      simp only at hl
      cases v <;> simp only [bnd, reduceCtorEq] at hl
      split at hl <;> first | (cases hl; done) | skip
      simp at hl; omega
  subst e2
  simp only [Option.some.injEq, Prod.mk.injEq] at hb
  obtain ⟨rfl, rfl, rfl⟩ := hb
  exact ⟨rfl, rfl, rfl, rfl⟩
theorem y57 {n cap l h m : Nat} {lo hi : Option AVal} (hb : bounds n n lo hi none = some (l, h, m)) (hc : n ≤ cap) : bounds n cap lo hi none = some (l, h, cap) ∧ l ≤ h ∧ h ≤ n := by
  have hmono : ∀ v h', bnd n v = some h' → bnd cap v = some h' ∧ h' ≤ n := by
    intro v h' hv
    cases v <;> simp only [bnd, reduceCtorEq] at hv ⊢
    split at hv <;> first | (cases hv; done) | skip
    rename_i hi
    rw [if_pos ⟨hi.1, by omega⟩]
    simp at hv
    exact ⟨by rw [hv], by omega⟩
  have hb2 : ∀ y v l', bnd y v = some l' → l' ≤ y := by
    intro y v l' hv
    cases v <;> simp only [bnd, reduceCtorEq] at hv
    split at hv <;> first | (cases hv; done) | skip
    simp at hv; omega
  unfold bounds at hb ⊢
  simp only [Option.isSome_none, Bool.false_eq_true, if_false] at hb ⊢
  split at hb <;> first | (cases hb; done) | skip
  rename_i h' hh
  split at hb <;> first | (cases hb; done) | skip
  rename_i l' hl
  simp only [Option.some.injEq, Prod.mk.injEq] at hb
  obtain ⟨rfl, rfl, rfl⟩ := hb
  have e1 : h' ≤ n := by
    cases hi with
    | none => simp at hh; omega
    | some v => exact (hmono v h' hh).2
  have e2 : l' ≤ h' := by
    cases lo with
    | none => simp at hl; omega
    | some v => exact hb2 _ v _ hl
  refine ⟨?_, e2, e1⟩
  cases hi with
  | none =>
    simp at hh
    subst hh
    simp only
    rw [hl]
  | some v =>
    have := (hmono v h' hh).1
    simp only [this]
    rw [hl]
theorem y15 {t el : TypeId} {w : World} {base : Option Addr} {len cap l h m es : Nat} {lo hi mx : Option Value} (hu : P.underlying t = some (.slice el)) (hs : sizeB P el es = true) (hb : (Instr.sliceBounds true len cap lo hi mx).run P w = .ok (l, h, m) w) :
    (Instr.sliceAt t (.slice base len cap) lo hi mx).run P w = .ok (.slice (if m = l then base else base.map (·.add (l * es))) (h - l) (m - l)) w := by
  simp only [Instr.sliceAt, Sem.run_bind, run_underlying hu, Result.andThen_ok, Instr.slice, hb, run_sizeB hs, Sem.run_pure]
theorem y54 {t el : TypeId} {w : World} {es : Nat} {xs : List AVal} {ee : Bool} {c : Value} {v : AVal} {lo hi mx : Option AVal} {lo' hi' mx' : Option Operand} (hu : P.underlying t = some (.slice el)) (hs : sizeB P el es = true)
    (h1 : (lo = none ∧ lo' = none) ∨ ∃ u z, lo = some u ∧ lo' = some z ∧ Rep Γ u (a.eval z)) (h2 : (hi = none ∧ hi' = none) ∨ ∃ u z, hi = some u ∧ hi' = some z ∧ Rep Γ u (a.eval z))
    (h3 : (mx = none ∧ mx' = none) ∨ ∃ u z, mx = some u ∧ mx' = some z ∧ Rep Γ u (a.eval z)) (hr : Rep Γ (.lst xs ee) c) (hv : cutLst es xs ee lo hi mx = some v) :
    ∃ d, (Instr.sliceAt t c (lo'.map a.eval) (hi'.map a.eval) (mx'.map a.eval)).run P w = .ok d w ∧ Rep Γ v d := by
  obtain ⟨base, cap, rfl, hle, hex⟩ := hr.lst_slice
  unfold cutLst at hv
  split at hv
  · rename_i k m
    split at hv <;> first | (cases hv; done) | skip
    rename_i hm0
    subst hm0
    split at hv <;> first | (cases hv; done) | skip
    rename_i q hq
    obtain ⟨l, h, m⟩ := q
    simp only [Option.some.injEq] at hv
    subst hv
    obtain ⟨_, _, _, hb⟩ := y5g (cap := cap) hq
    obtain ⟨hbr, _⟩ := y0w (P := P) (b0 := true) w hle h1 h2 h3 hb
    refine ⟨_, y15 hu hs hbr, ?_⟩
    simp only [if_true, Nat.sub_self]
    rcases hr.lst_inv with ⟨rfl, base', cap0, he, hE⟩ | ⟨g, off, cap', es', f, he, k1, k2, k3, k4, k5, k6, k7⟩
    · cases he
      refine Rep.emp ?_
      rcases hE with ⟨rfl, _⟩ | ⟨⟨a, rfl⟩, _⟩
      · exact .inl ⟨by simp, rfl⟩
      · exact .inr ⟨⟨_, rfl⟩, fun _ => rfl⟩
    · cases he
      exact .lst (xs := []) (es := 0) f (Nat.le_refl _) (fun _ => rfl) (by simp) (by simp) (by simp [flatL]) (by simp [flatL]) (by simp [flatL])
  · cases hv
  · split at hv <;> first | (cases hv; done) | skip
    rename_i l h m hq
    split at hv <;> first | (cases hv; done) | skip
    rename_i hall
    simp only [Option.some.injEq] at hv
    subst hv
    have hw := width_all hall
    obtain ⟨hb, hlh, hhn⟩ := y57 hq hle
    obtain ⟨hbr, _⟩ := y0w (P := P) (b0 := true) w hle h1 h2 h3 hb
    refine ⟨_, y15 hu hs hbr, ?_⟩
    have hlen : ((xs.take h).drop l).length = h - l := by simp; omega
    rcases hr.lst_inv with ⟨rfl, base', cap0, he, hE⟩ | ⟨g, off, cap', es', f, he, k1, k2, k3, k4, k5, k6, k7⟩
    · cases he
      simp at hhn
      have : l = 0 := by omega
      subst this; subst hhn
      simp
      refine Rep.emp ?_
      rcases hE with ⟨rfl, h0⟩ | ⟨⟨a, rfl⟩, h0⟩
      · exact .inl ⟨by simp, h0⟩
      · right
        refine ⟨?_, h0⟩
        split
        · exact ⟨_, rfl⟩
        · exact ⟨_, rfl⟩
    · cases he
      have hmem : ∀ y, y ∈ (xs.take h).drop l → y ∈ xs := fun y hy => List.mem_of_mem_take (List.mem_of_mem_drop hy)
      have hflat : flatL ((xs.take h).drop l) = ((flatL xs).take (h * es)).drop (l * es) := by
        rw [y5x (fun y hy => hw y (List.mem_of_mem_take hy)), y24 hw]
      have hget : ∀ (j : Nat) (c : AVal), (flatL ((xs.take h).drop l))[j]? = some c → (flatL xs)[l * es + j]? = some c := by
        intro j c hj
        rw [hflat, List.getElem?_drop, List.getElem?_take] at hj
        split at hj
        · exact hj
        · cases hj
      by_cases hcl : cap = l
      · have hemp : (xs.take h).drop l = [] := List.eq_nil_of_length_eq_zero (by omega)
        rw [hemp] at hlen ⊢
        rw [if_pos hcl]
        have e0 : h - l = 0 := by simpa using hlen.symm
        have e1 : cap - l = 0 := by omega
        rw [e0, e1]
        exact .lst (xs := []) (es := 0) f (Nat.le_refl _) (fun _ => rfl) (by simp) (by simp) (by simp [flatL]) (by simp [flatL]) (by simp [flatL])
      · rw [if_neg hcl]
        simp only [Option.map_some, addr_add]
        rw [← hlen]
        refine .lst (es := es) (fun j => f (l * es + j)) (by omega) ?_ (fun y hy => hw y (hmem y hy)) (fun y hy => k4 y (hmem y hy)) ?_ ?_ ?_
        · intro hee
          simp only [Bool.and_eq_true, decide_eq_true_eq] at hee
          have := k2 hee.1
          omega
        · intro j c hj; rw [Nat.add_assoc]; exact k5 _ c (hget j c hj)
        · intro j c hj; exact k6 _ c (hget j c hj)
        · intro j c hj; exact k7 _ c (hget j c hj)
theorem y56 {H : Heap} {w : World} {s : AVal} {xs : List AVal} {ee : Bool} {c : Value} (hR : Rel Γ H w) (h : asLst H s = some (xs, ee)) (hr : Rep Γ s c) : Rep Γ (.lst xs ee) c := by
  cases s <;> simp only [asLst, reduceCtorEq] at h
  · cases h; exact hr
  · split at h <;> first | (cases h; done) | skip
    rename_i xs' _ hg
    cases h
    obtain ⟨_, xs'', he, _, _, h'⟩ := y26 hR hr hg
    cases he
    exact h'
theorem y4v {t el : TypeId} {w : World} {es : Nat} {s v : AVal} {c : Value} {H H' : Heap} {lo hi mx : Option AVal} {lo' hi' mx' : Option Operand} (hR : Rel Γ H w) (hu : P.underlying t = some (.slice el)) (hs : sizeB P el es = true)
    (h1 : (lo = none ∧ lo' = none) ∨ ∃ u z, lo = some u ∧ lo' = some z ∧ Rep Γ u (a.eval z)) (h2 : (hi = none ∧ hi' = none) ∨ ∃ u z, hi = some u ∧ hi' = some z ∧ Rep Γ u (a.eval z))
    (h3 : (mx = none ∧ mx' = none) ∨ ∃ u z, mx = some u ∧ mx' = some z ∧ Rep Γ u (a.eval z)) (hr : Rep Γ s c) (hv : cutOpen H es s lo hi mx = some (v, H')) :
    ∃ d Γ', (Instr.sliceAt t c (lo'.map a.eval) (hi'.map a.eval) (mx'.map a.eval)).run P w = .ok d w ∧ Rep Γ' v d ∧ Rel Γ' H' w ∧ Stp Γ w Γ' w := by
  unfold cutOpen at hv
  split at hv <;> first | (cases hv; done) | skip
  rotate_left
  · rename_i ol len k l
    split at hv <;> first | (cases hv; done) | skip
    rename_i es0 xs f hb
    split at hv <;> first | (cases hv; done) | skip
    rename_i hcond
    obtain ⟨rfl, hfh, hhl, rfl⟩ := hcond
    simp only [Option.some.injEq, Prod.mk.injEq] at hv
    obtain ⟨rfl, rfl⟩ := hv
    obtain ⟨c', k1, k0, k2, k3⟩ := hR.blk _ _ hb
    rcases k3 with ⟨hbad, _⟩ | ⟨g, cap, cs, cty, rfl, e2, e3, e4, e5, e6, _⟩
    · cases hbad
    obtain ⟨ad, cap', rfl, hT, _⟩ := hr.gl_inv
    rw [k1] at hT
    cases hT
    have hb0 : bounds xs.length cap (some (.int k l)) none none = some (l.toNat, xs.length, cap) := by
      have hbn : bnd xs.length (.int k l) = some l.toNat := by
        simp only [bnd]; rw [if_pos ⟨by omega, by omega⟩]
      simp [bounds, hbn]
    obtain ⟨hbr, _⟩ := y0w (P := P) (b0 := true) w e4 h1 h2 h3 hb0
    refine ⟨.slice (some ⟨g, l.toNat * es0, none⟩) (xs.length - l.toNat) (cap - l.toNat), Γ, ?_, .gtl k1, hR, .refl Γ w⟩
    rw [y15 hu hs hbr]
    have : cap ≠ l.toNat := by omega
    simp [this, addr_add]
  rename_i ol len k hh
  split at hv <;> first | (cases hv; done) | skip
  rename_i es0 xs f hb
  split at hv <;> first | (cases hv; done) | skip
  rename_i hcond
  obtain ⟨rfl, hfh, hhl, rfl⟩ := hcond
  simp only [Option.some.injEq, Prod.mk.injEq] at hv
  obtain ⟨rfl, rfl⟩ := hv
  obtain ⟨c', k1, k0, k2, k3⟩ := hR.blk _ _ hb
  rcases k3 with ⟨hbad, _⟩ | ⟨g, cap, cs, cty, rfl, e2, e3, e4, e5, e6, e7, e8, e9, e10, e11, e12⟩
  · cases hbad
  obtain ⟨ad, cap', rfl, hT, _⟩ := hr.gl_inv
  rw [k1] at hT
  cases hT
  have hb0 : bounds xs.length cap none (some (.int k hh)) none = some (0, hh.toNat, cap) := by
    simp only [bounds, bnd]
    rw [if_pos ⟨by omega, by omega⟩]
  obtain ⟨hbr, _⟩ := y0w (P := P) (b0 := true) w e4 h1 h2 h3 hb0
  have hlt : ol < H.length := (List.getElem?_eq_some_iff.1 hb).1
  have hlen : (xs.take hh.toNat).length = hh.toNat := by simp; omega
  have hdomN := hR.dom H.length (Nat.le_refl _)
  simp only [Option.getD_some] at e10 e11 e12
  have hop : (if f = hh.toNat then none else some f : Option Nat).getD hh.toNat = f := by
    split
    · rename_i e; simp [e]
    · rfl
  generalize (if f = hh.toNat then none else some f : Option Nat) = opq at hop
  generalize hΓ : Γ.list H.length g hh.toNat (.slice (some ⟨g, 0, none⟩) hh.toNat cap) (f * es0) cs = Γ'
  have hfe : f * es0 ≤ hh.toNat * es0 := Nat.mul_le_mul_right _ (by omega)
  have hcap : hh.toNat * es0 ≤ cs.size := by rw [e5]; exact Nat.mul_le_mul_right _ (by omega)
  have hle : Γ.le Γ' := by
    subst hΓ
    refine ⟨?_, fun _ _ h => h, ?_⟩
    · intro q j d hm
      simp only [Gh.list]
      split
      · rename_i eq; subst eq
        by_cases hj : j < f * es0
        · rw [if_pos (by omega), ← e11 j hj]; exact hm
        · rw [e12 j (by omega)] at hm; cases hm
      · exact hm
    · intro q l d hm
      simp only [Gh.list]
      split
      · rename_i eq; rw [eq.1, hdomN.2] at hm; cases hm
      · exact hm
  refine ⟨.slice (some ⟨g, 0, none⟩) hh.toNat cap, Γ', ?_, ?_, ⟨?_, ?_, ?_, ?_⟩, ⟨hle, ?_, ?_, Nat.le_refl _, fun _ _ _ => rfl, rfl, rfl, rfl⟩⟩
  · rw [y15 hu hs hbr]
    have : (if cap = 0 then (some (⟨g, 0, none⟩ : Addr)) else (some (⟨g, 0, none⟩ : Addr)).map (·.add (0 * es0))) = some ⟨g, 0, none⟩ := by
      split
      · rfl
      · simp [addr_add]
    rw [this]; simp
  · refine .gl ?_ (fun _ => rfl)
    subst hΓ
    simp [Gh.list]
  · intro q j d hm
    subst hΓ
    simp only [Gh.list] at hm
    split at hm
    · rename_i eq; subst eq
      rw [cell_at e3]
      split at hm
      · exact hm
      · cases hm
    · exact hR.mem q j d hm
  · intro q B hq
    by_cases e1 : q = H.length
    · subst e1
      rw [List.getElem?_append_right (by simp)] at hq
      simp at hq
      subst hq
      have hwt : ∀ y, y ∈ xs.take hh.toNat → y.width = es0 := fun y hy => e7 y (List.mem_of_mem_take hy)
      have hfl := y01 e7
      have hflt := y01 hwt
      refine ⟨.slice (some ⟨g, 0, none⟩) hh.toNat cap, by rw [hlen]; subst hΓ; simp [Gh.list], ?_, fun y hy => k2 y (List.mem_of_mem_take hy), .inr ⟨g, cap, cs, cty, by rw [hlen], by subst hΓ; simp [Gh.list], e3, by omega, e5, e6, hwt, ?_, e9, by rw [hlen, hop]; omega, ?_, ?_⟩⟩
      · intro l hl
        subst hΓ
        simp only [Gh.list]
        rw [if_neg (by omega)]
        exact hdomN.2 l
      · rw [y24 e7]
        have := (e8.take (hh.toNat * es0)).mono hle
        rw [List.take_take] at this
        rw [List.length_take]
        exact this
      · intro j hj; rw [hlen, hop] at hj; subst hΓ; simp only [Gh.list, if_true]; rw [if_pos hj]
      · intro j hj; rw [hlen, hop] at hj; subst hΓ; simp only [Gh.list, if_true]; rw [if_neg (by omega)]
    · have hq' : (H.set ol .dead)[q]? = some B := by
        by_cases hql : q < H.length
        · rw [List.getElem?_append_left (by simpa using hql)] at hq; exact hq
        · rw [List.getElem?_append_right (by simp; omega)] at hq
          rw [List.getElem?_eq_none (by simp; omega)] at hq
          cases hq
      by_cases e2' : q = ol
      · subst e2'
        rw [List.getElem?_set_self hlt] at hq'
        cases hq'
        trivial
      · rw [List.getElem?_set_ne (Ne.symm e2')] at hq'
        refine (hR.blk q B hq').step hle ?_ ?_
        · intro g' hg'
          have hne : g' ≠ g := by intro eq; subst eq; rw [e2] at hg'; cases hg'; exact e2' rfl
          subst hΓ
          refine ⟨?_, rfl, ?_⟩
          · simp only [Gh.list]; rw [if_neg hne]; exact hg'
          · intro o; simp only [Gh.list]; rw [if_neg hne]
        · subst hΓ
          exact ⟨rfl, fun l => by simp only [Gh.list]; rw [if_neg (by intro h; exact e1 h.1)]⟩
  · intro q hq
    simp at hq
    obtain ⟨d1, d2⟩ := hR.dom q (by omega)
    subst hΓ
    exact ⟨d1, fun l => by simp only [Gh.list]; rw [if_neg (by omega)]; exact d2 l⟩
  · intro q b hq
    subst hΓ
    simp only [Gh.list] at hq
    split at hq
    · rename_i eq; subst eq; exact (Array.getElem?_eq_some_iff.1 e3).1
    · exact hR.owned q b hq
  · intro q hq ho
    subst hΓ
    simp only [Gh.list]
    rw [if_neg (by intro eq; subst eq; rw [e2] at ho; cases ho)]; exact ho
  · intro q o hq ho
    subst hΓ
    simp only [Gh.list]
    rw [if_neg (by intro eq; subst eq; rw [e2] at ho; cases ho)]
theorem slc_sound {o : Oper} {C : Ctx} {id es : Nat} {x : AOpd} {lo hi mx : Option AOpd} {v : AVal} {H H' : Heap} {w : World} (he : EnvRel Γ e a.tmps) (hR : Rel Γ H w) (hk : chkH P (.slc es x lo hi mx) o.op = true)
    (hv : evH C e id H (.slc es x lo hi mx) = some (.ok v, H')) : Done P o a w Γ v H' := by
  obtain ⟨dst, op, ty, pos, after, guard⟩ := o
  simp only at hk
  cases op <;> simp only [chkH, Bool.false_eq_true, Bool.and_eq_true] at hk
  rename_i t x' lo' hi' mx'
  obtain ⟨⟨⟨⟨hkx, hkl⟩, hkh⟩, hkm⟩, ht⟩ := hk
  obtain ⟨el, hu, hs⟩ := y0r ht
  simp only [evH] at hv
  split at hv <;> first | (cases hv; done) | skip
  · rename_i b off len cap wd lov hiv mxv hx hlo hhi hmx
    split at hv <;> first | (cases hv; done) | skip
    rename_i l h m hb
    split at hv <;> first | (cases hv; done) | skip
    rename_i hcond
    simp only [Option.some.injEq, Prod.mk.injEq, Ex.ok.injEq] at hv
    obtain ⟨rfl, rfl⟩ := hv
    obtain ⟨g, hc, hmu⟩ := (ev_rep he hkx hx).sl_inv
    obtain ⟨hbr, h1, h2, h3⟩ := y0w (P := P) (b0 := true) w hcond.2.2 (opt_reps he hkl hlo) (opt_reps he hkh hhi) (opt_reps he hkm hmx) hb
    refine Done.same hR (c := .slice (some ⟨g, off + l * es, none⟩) (h - l) (m - l)) (exec_v rfl ?_) (.sl hmu)
    rw [hc, y15 hu hs hbr]
    have hne : m ≠ l := by omega
    simp [hne, addr_add]
  · rename_i s lov hiv mxv _ hx hlo hhi hmx
    split at hv
    · rename_i v' H1 hco
      simp only [Option.some.injEq, Prod.mk.injEq, Ex.ok.injEq] at hv
      obtain ⟨rfl, rfl⟩ := hv
      obtain ⟨d, Γ', r1, r2, r3, r4⟩ := y4v (P := P) (t := t) hR hu hs (opt_reps he hkl hlo) (opt_reps he hkh hhi) (opt_reps he hkm hmx) (ev_rep he hkx hx) hco
      exact ⟨_, d, w, Γ', exec_v rfl r1, .inl rfl, r2, r3, r4⟩
    · split at hv <;> first | (cases hv; done) | skip
      rename_i xs ee has
      split at hv <;> first | (cases hv; done) | skip
      rename_i v' hcu
      simp only [Option.some.injEq, Prod.mk.injEq, Ex.ok.injEq] at hv
      obtain ⟨rfl, rfl⟩ := hv
      obtain ⟨d, r1, r2⟩ := y54 (P := P) (t := t) (w := w) hu hs (opt_reps he hkl hlo) (opt_reps he hkh hhi) (opt_reps he hkm hmx) (y56 hR has (ev_rep he hkx hx)) hcu
      exact Done.same hR (exec_v rfl r1) r2
end
end Go.Ev
namespace Go.Ev
set_option linter.unusedVariables false
set_option linter.unusedSimpArgs false
open Go
section
variable {P : Program} {Γ : Gh} {e : Env} {a : Act}
theorem y3y {w : World} {t u ty el : TypeId} {i : TypeInfo} {z : Value} {k k' : IntKind} {base : Option Addr} {sLen sCap : Nat} {n : Int} {olds : List Value}
    (ht : P.underlying t = some (.slice el)) (hu : P.underlying u = some (.int k)) (hi : P.info? el = some i) (hz : i.zero = some z) (hzs : z.cells.size = i.size) (hs0 : 0 < i.size)
    (hold : (Builtin.firstCells i.size sLen (.slice base sLen sCap)).run P w.drew = .ok olds.toArray w.drew) (h0 : 0 < n) (h1 : n < 9223372036854775808)
    (hgt : sCap < sLen + n.toNat) (hb : (sLen + n.toNat) * i.bytes ≤ 140737488355328) (hb0 : 0 < i.bytes) :
    ∃ cap, sLen + n.toNat ≤ cap ∧ (Builtin.append_ #[t, u] ty #[.slice base sLen sCap, .int k' n]).run P w =
      .ok (.slice (some ⟨w.heap.size, 0, none⟩) (sLen + n.toNat) cap) (w.drew.alloc (.cells (olds.toArray ++ Builtin.zeroCells z.cells n.toNat ++ Builtin.zeroCells z.cells (cap - (sLen + n.toNat))) el)) := by
  have hn : ¬ (sLen + n.toNat ≤ sCap) := by omega
  have hsmall : sLen + n.toNat ≤ 140737488355328 := Nat.le_trans (Nat.le_mul_of_pos_right _ hb0) hb
  have hw := wrap_i64 (n := n) (by omega) h1
  have h63' : ¬ (9223372036854775807 < ((sLen : Int) + (n.toNat : Int))) := by omega
  have hfit := growslice_fits (old := sCap) hgt hb
  have h48' : ¬ (281474976710656 < Builtin.nextslicecap (sLen + n.toNat) sCap * i.bytes) := by omega
  have hneg : ¬ n < 0 := by omega
  have hnb : n.toNat * i.bytes ≤ 140737488355328 := Nat.le_trans (Nat.mul_le_mul_right _ (by omega)) hb
  have hnb' : ¬ 281474976710656 < n * (i.bytes : Int) := by
    have : n * (i.bytes : Int) = ((n.toNat * i.bytes : Nat) : Int) := by
      rw [Int.natCast_mul, Int.toNat_of_nonneg (by omega)]
    rw [this]; omega
  have hnz : ¬ (n.toNat = 0 ∨ i.size = 0) := by omega
  refine ⟨grownCap w (sLen + n.toNat) sCap el, ?_, ?_⟩
  · unfold grownCap Question.cut; simp
  · have hmax : IntKind.i64.max = 9223372036854775807 := by decide
    have hn0 : n.toNat ≠ 0 := by omega
    have hs0' : i.size ≠ 0 := by omega
    have hmx : max n 0 = n := by omega
    have hsl : ¬ (9223372036854775807 < (sLen : Int) + n) := by omega
    simp [Builtin.append_, run_underlying ht, run_underlying hu, sizeOf, run_typeInfo _ hi, zeroValue, hz, asInt, asIntOf, hw, hneg, hnb', hn, h63', h48', hmax, Question.forced, hold, newRow, grownCap, hmx, hsl, hn0, hs0']
    intro h
    rcases Nat.mul_eq_zero.1 h with h | h <;> omega
theorem y5q {o : Oper} {C : Ctx} {id es bytes : Nat} {zv : AVal} {s x : AOpd} {v : AVal} {H H' : Heap} {w : World} (he : EnvRel Γ e a.tmps) (hR : Rel Γ H w) (hk : chkH P (.appz es bytes zv s x) o.op = true)
    (hv : evH C e id H (.appz es bytes zv s x) = some (.ok v, H')) : Done P o a w Γ v H' := by
  obtain ⟨dst, op, ty, pos, after, guard⟩ := o
  simp only at hk
  cases op <;> simp only [chkH, Bool.false_eq_true, Bool.and_eq_true, decide_eq_true_eq] at hk
  rename_i c
  obtain ⟨⟨⟨⟨hb, ha⟩, hes⟩, hby0⟩, ht⟩ := hk
  have hcal := y18 hb
  obtain ⟨s', x', hargs, hq⟩ := args2_eq ha
  simp only [Bool.and_eq_true] at hq
  split at ht <;> first | (cases ht; done) | skip
  rename_i t u hts
  simp only [Bool.and_eq_true, decide_eq_true_eq] at ht
  obtain ⟨hu, hel⟩ := ht
  obtain ⟨el, htu, hq2⟩ := y0r hel
  simp only [Bool.and_eq_true] at hq2
  obtain ⟨⟨⟨⟨hsz, hby⟩, hz⟩, hzv⟩, hlow⟩ := hq2
  obtain ⟨i, hi, his⟩ := y1h hsz
  obtain ⟨i2, hi2, hib⟩ := y2g hby
  rw [hi] at hi2; cases hi2
  obtain ⟨i3, z, hi3, hzv3, hzs, hz1⟩ := y43 hz
  rw [hi] at hi3; cases hi3
  obtain ⟨i4, z4, hi4, hzv4, hzr, _⟩ := y45 (Γ := Γ) hzv
  rw [hi] at hi4; cases hi4
  rw [hzv3] at hzv4; cases hzv4
  obtain ⟨ku, hu'⟩ := y5a hu
  have hrun : ∀ (c' : Value) (w' : World), (Builtin.append_ #[t, u] ty #[a.eval s', a.eval x']).run P w = .ok c' w' →
      (execOp a.eval { dst, op := .call c, type := ty, pos, after, guard }).run P w = .ok (.value c') w' := by
    intro c' w' h
    have e1 : c.args.map a.eval = #[a.eval s', a.eval x'] := by
      apply Array.ext'; simp [hargs]
    have e2 : c.argTypes = #[t, u] := by apply Array.ext'; simpa using hts
    simp only [execOp, resolve, hcal, e1, e2, Sem.run_bind, Sem.run_pure, Result.andThen_ok, invoke, builtin, h]
  simp only [evH] at hv
  split at hv <;> first | (cases hv; done) | skip
  rename_i xs ee k n hs hx
  have hrs := ev_rep he hq.1 hs
  have hcx := (ev_rep he hq.2 hx).int_inv
  obtain ⟨base, cap, hcs, hle, hex⟩ := hrs.lst_slice
  split at hv <;> first | (cases hv; done) | skip
  rename_i hcond
  obtain ⟨h0, hzw, hall⟩ := hcond
  split at hv
  · rename_i hn0
    simp only [Option.some.injEq, Prod.mk.injEq, Ex.ok.injEq] at hv
    obtain ⟨rfl, rfl⟩ := hv
    subst hn0
    refine Done.same hR (hrun _ _ ?_) hrs
    rw [hcs, hcx]
    have hw0 : IntKind.i64.wrap 0 = 0 := by decide
    cases base <;> simp [Builtin.append_, run_underlying htu, run_underlying hu', sizeOf, run_typeInfo _ hi, asInt, asIntOf, hw0, hle, storeCells]
  · rename_i hn0
    split at hv <;> first | (cases hv; done) | skip
    rename_i hc2
    split at hv <;> first | (cases hv; done) | skip
    rename_i H2 hnew
    simp only [Option.some.injEq, Prod.mk.injEq, Ex.ok.injEq] at hv
    obtain ⟨rfl, rfl⟩ := hv
    have hRd : Rel Γ H w.drew := hR.drew _
    have hwx := width_all hall
    rw [hcs] at hrs
    obtain ⟨dx, hdx⟩ := lst_holds (P := P) hRd hrs
    have hlx : dx.length = xs.length * es := by rw [hdx.reps.1, y01 hwx]
    have fx := hdx.first es xs.length hwx (Nat.le_refl _)
    rw [List.take_of_length_le (by omega)] at fx
    have hcap := hex hc2.1
    obtain ⟨ncap, hncap, hrun2⟩ := y3y (P := P) (ty := ty) (k' := k) htu hu' hi hzv3 (by rw [hzs, his]) (by omega) (his ▸ fx) (by omega) hc2.2.2 (by omega) (by rw [hib]; exact hc2.2.1) (by omega)
    obtain ⟨g1, g2, g3⟩ := y2v hnew
    have hfr := y2i hR hnew
    have hxf : ∀ y, y ∈ xs → rfree y := by
      rcases hrs.lst_inv with ⟨rfl, _⟩ | ⟨_, _, _, _, _, _, _, _, _, k4, _⟩
      · simp
      · exact k4
    have hlen : (xs ++ List.replicate n.toNat zv).length = xs.length + n.toNat := by simp
    have hw : ∀ y, y ∈ xs ++ List.replicate n.toNat zv → y.width = es := by
      intro y hy; simp only [List.mem_append] at hy; rcases hy with hy | hy
      · exact hwx y hy
      · rw [List.eq_of_mem_replicate hy]; exact hzw
    have hfree : ∀ y, y ∈ xs ++ List.replicate n.toNat zv → rfree y := by
      intro y hy; simp only [List.mem_append] at hy; rcases hy with hy | hy
      · exact hxf y hy
      · rw [List.eq_of_mem_replicate hy]; exact hlow
    let cs : Array Value := dx.toArray ++ Builtin.zeroCells z.cells n.toNat ++ Builtin.zeroCells z.cells (ncap - (xs.length + n.toNat))
    have hzl : ∀ m, (Builtin.zeroCells z.cells m).toList = (List.replicate m z.cells.toList).flatten := by
      intro m; rw [← zeros_eq]; rfl
    have hcsl : cs.toList = dx ++ (List.replicate n.toNat z.cells.toList).flatten ++ (Builtin.zeroCells z.cells (ncap - (xs.length + n.toNat))).toList := by simp [cs, ← hzl]
    have hcs' : cs.size = ncap * es := by
      have : cs.size = dx.length + n.toNat * es + (ncap - (xs.length + n.toNat)) * es := by
        simp [cs, size_zeroCells', hzs]; omega
      rw [this, hlx, ← Nat.add_mul, ← Nat.add_mul]
      congr 1; omega
    have hfz : flatL (List.replicate n.toNat zv) = (List.replicate n.toNat zv.flat).flatten := by
      generalize n.toNat = m
      induction m with
      | zero => rfl
      | succ m ih => simp [List.replicate_succ, flatL, ih]
    have hreps : Reps Γ (flatL (xs ++ List.replicate n.toNat zv)) (cs.toList.take (flatL (xs ++ List.replicate n.toNat zv)).length) := by
      have h2 := hdx.reps.append (y12 hzr.cells n.toNat)
      rw [y1g, hfz, hcsl, List.take_left' (by rw [← h2.1])]
      exact h2
    have h1 : ∀ c, c ∈ cs.toList → c.oneCell' = true := by
      intro c hc
      rw [hcsl] at hc
      simp only [List.mem_append] at hc
      rcases hc with (hc | hc) | hc
      · exact hdx.one c hc
      · exact y1t hz1 _ c hc
      · exact y0q hz1 _ c hc
    obtain ⟨r1, r2⟩ := hRd.listNew (cap := ncap) (es := es) (cs := cs) (el := el) g1 g2 g3 (fun l _ => hfr.2 l) hfree hw hes hcs' (by omega) hreps h1 (by simp)
    have hsz : w.drew.heap.size = w.heap.size := rfl
    refine ⟨_, .slice (some ⟨w.heap.size, 0, none⟩) (xs.length + n.toNat) ncap, _, _, hrun _ _ ?_, .inl rfl, ?_, r1, (Stp.drew Γ w _).trans r2⟩
    · rw [hcs, hcx]; exact hrun2
    · rw [hlen]
      refine .gl ?_ (fun _ => rfl)
      simp only [Gh.list, hsz, and_self, if_true]
theorem y5k {o : Oper} {C : Ctx} {id es : Nat} {d s : AOpd} {v : AVal} {H H' : Heap} {w : World} (he : EnvRel Γ e a.tmps) (hR : Rel Γ H w) (hk : chkH P (.copy es d s) o.op = true)
    (hv : evH C e id H (.copy es d s) = some (.ok v, H')) : Done P o a w Γ v H' := by
  obtain ⟨dst, op, ty, pos, after, guard⟩ := o
  simp only at hk
  cases op <;> simp only [chkH, Bool.false_eq_true, Bool.and_eq_true] at hk
  rename_i c
  obtain ⟨⟨hb, ha⟩, ht⟩ := hk
  have hcal := y18 hb
  obtain ⟨d', s', hargs, hq⟩ := args2_eq ha
  simp only [Bool.and_eq_true] at hq
  split at ht <;> first | (cases ht; done) | skip
  rename_i t hts
  obtain ⟨el, hu, hs⟩ := y0r ht
  simp only [evH] at hv
  split at hv <;> first | (cases hv; done) | skip
  rename_i b off len cap wd sv hd hsv
  split at hv <;> first | (cases hv; done) | skip
  rename_i ys hel
  split at hv <;> first | (cases hv; done) | skip
  rename_i vs hbl
  split at hv <;> first | (cases hv; done) | skip
  rename_i hcond
  obtain ⟨hwd, hle, hall⟩ := hcond
  simp only [Option.some.injEq, Prod.mk.injEq, Ex.ok.injEq] at hv
  obtain ⟨rfl, rfl⟩ := hv
  have hwy := width_all hall
  obtain ⟨g, hc, hmu⟩ := (ev_rep he hq.1 hd).sl_inv
  obtain ⟨g', cs, cty, k1, k2, k3, k4, k5, k6⟩ := hR.cells hbl
  rw [hmu] at k1; cases k1
  obtain ⟨dy, hy⟩ := y1s (P := P) hR hel (ev_rep he hq.2 hsv)
  have hly : dy.length = ys.length * es := by rw [hy.reps.1, y01 hwy]
  have fy := hy.first es (min ys.length len) hwy (Nat.min_le_left _ _)
  have hmin : min ys.length len * es ≤ len * es := Nat.mul_le_mul_right _ (Nat.min_le_right _ _)
  have hmin2 : min ys.length len * es ≤ ys.length * es := Nat.mul_le_mul_right _ (Nat.min_le_left _ _)
  have hlen' : (dy.take (min ys.length len * es)).length = min ys.length len * es := by simp; omega
  have hcl : cs.size = vs.length := by have := k5.1; simpa using this
  have hst := run_storeCells_at P g off cty (dy.take (min ys.length len * es)) 0 cs w k3 (by rw [hlen']; omega) (fun v hv => hy.one v (List.mem_of_mem_take hv))
  simp only [Nat.add_zero] at hst
  have hrt : Reps Γ (flatL (ys.take (min ys.length len))) (dy.take (min ys.length len * es)) := by
    rw [y24 hwy]; exact hy.reps.take _
  obtain ⟨r1, r2⟩ := hR.writeCells (vs' := putCells off (flatL (ys.take (min ys.length len))) vs) (cs' := (putCells off (dy.take (min ys.length len * es)) cs.toList).toArray) hbl hmu k2 k3 k4 (by simpa using k5.put off hrt) (by
    intro c hc
    simp only [putCells, List.mem_append] at hc
    rcases hc with (hc | hc) | hc
    · exact k6 c (List.mem_of_mem_take hc)
    · exact hy.one c (List.mem_of_mem_take hc)
    · exact k6 c (List.mem_of_mem_drop hc))
  refine ⟨.value (goInt (min ys.length len : Nat)), _, _, _, ?_, .inl rfl, .int _ _, r1, r2⟩
  have e1 : (c.args.map a.eval)[0]? = some (a.eval d') ∧ (c.args.map a.eval)[1]? = some (a.eval s') := by
    rw [show c.args = [d', s'].toArray from by apply Array.ext'; simpa using hargs]; simp
  obtain ⟨i, hi, his⟩ := y1h hs
  simp only [execOp, resolve, hcal, Sem.run_bind, Sem.run_pure, Result.andThen_ok, invoke, builtin, Builtin.copy_, hts, e1.1, e1.2, run_underlying hu, hc, hy.len, sizeOf, run_typeInfo _ hi, his]
  have hnm : Nat.min ys.length len = min ys.length len := rfl
  simp only [hnm, fy, Result.andThen_ok, Sem.run_bind, hst, Sem.run_pure, putCells]
theorem y5f {zs : List AVal} {es : Nat} {y : AVal} (hl : zs.length = es) (hz : ∀ z, z ∈ zs → aggV z = false) (h : es = 1 ∨ aggV y = true) : (zeroAs zs y).flat = zs := by
  cases y with
  | agg _ => rfl
  | _ =>
    rcases h with h | h
    · rw [h] at hl
      obtain ⟨z, rfl⟩ := List.length_eq_one_iff.1 hl
      have := hz z (by simp)
      show z.flat = [z]
      cases z <;> first | rfl | (simp [aggV] at this)
    · simp [aggV] at h
theorem y4y {zs : List AVal} {y : AVal} (hz : ∀ z, z ∈ zs → rfree z) : rfree (zeroAs zs y) := by
  cases y with
  | agg _ => exact lowL_iff.2 hz
  | _ =>
    cases zs with
    | nil => rfl
    | cons z zs => exact hz z (by simp)
theorem y3j {zs : List AVal} {g : AVal → AVal} : ∀ {ys : List AVal}, (∀ y, y ∈ ys → (g y).flat = zs) → flatL (ys.map g) = (List.replicate ys.length zs).flatten
  | [], _ => rfl
  | y :: ys, h => by
    have ih := y3j (ys := ys) (g := g) (zs := zs) (fun z hz => h z (by simp [hz]))
    simp only [List.map_cons, flatL, List.length_cons, List.replicate_succ, List.flatten_cons, ih, h y (by simp)]
theorem y5b {o : Oper} {C : Ctx} {id es : Nat} {zs : List AVal} {x : AOpd} {v : AVal} {H H' : Heap} {w : World} (he : EnvRel Γ e a.tmps) (hR : Rel Γ H w) (hk : chkH P (.clear es zs x) o.op = true)
    (hv : evH C e id H (.clear es zs x) = some (.ok v, H')) : Done P o a w Γ v H' := by
  obtain ⟨dst, op, ty, pos, after, guard⟩ := o
  simp only at hk
  cases op <;> simp only [chkH, Bool.false_eq_true, Bool.and_eq_true, decide_eq_true_eq] at hk
  rename_i c
  obtain ⟨⟨⟨hb, ha⟩, hes⟩, ht⟩ := hk
  have hcal := y18 hb
  obtain ⟨x', hargs, hko⟩ := args1_eq ha
  split at ht <;> first | (cases ht; done) | skip
  rename_i t hts
  obtain ⟨el, hu, hq⟩ := y0r ht
  simp only [Bool.and_eq_true] at hq
  obtain ⟨hs, hz⟩ := hq
  simp only [evH] at hv
  split at hv <;> first | (cases hv; done) | skip
  rotate_left
  · rename_i ol l lo es' hx
    split at hv <;> first | (cases hv; done) | skip
    rename_i es0 xs f hb'
    split at hv <;> first | (cases hv; done) | skip
    rename_i hcond
    obtain ⟨q1, q2, q3, hflo, hlol, hzl, hzall, hsh⟩ := hcond
    subst q1; subst q2; subst q3
    simp only [Option.some.injEq, Prod.mk.injEq, Ex.ok.injEq] at hv
    obtain ⟨rfl, rfl⟩ := hv
    have hzf : ∀ z, z ∈ zs → rfree z := fun z hz => by
      have := List.all_eq_true.1 hzall z hz
      simp only [Bool.and_eq_true] at this
      exact this.1
    have hza : ∀ z, z ∈ zs → aggV z = false := fun z hz => by
      have := List.all_eq_true.1 hzall z hz
      simp only [Bool.and_eq_true, Bool.not_eq_true'] at this
      exact this.2
    obtain ⟨g, cap, hc, hT⟩ := (ev_rep he hko hx).gtl_inv
    obtain ⟨c', k1, k0, k2, k3⟩ := hR.blk _ _ hb'
    rw [k1] at hT
    cases hT
    rcases k3 with ⟨hbad, _⟩ | ⟨g1, cap1, cs, cty, e1, e2, e3, e4, e5, e6, e7, e8, e9, e10, e11, e12⟩
    · cases hbad
    cases e1
    simp only [Option.getD_some] at e10 e11 e12
    obtain ⟨z, hzr, hzreps, hz1⟩ := run_zeroB (Γ := Γ) hz w
    have hzs : z.cells.toList.length = es0 := by rw [hzreps.1]; exact hzl
    have hzz : (Builtin.zeroCells z.cells (xs.length - lo)).toList = (List.replicate (xs.length - lo) z.cells.toList).flatten := by rw [← zeros_eq]; rfl
    have hzlen : (Builtin.zeroCells z.cells (xs.length - lo)).toList.length = (xs.length - lo) * es0 := by
      rw [Array.length_toList, size_zeroCells', show z.cells.size = es0 by simpa using hzs]
    have hmul : lo * es0 + (xs.length - lo) * es0 = xs.length * es0 := by rw [← Nat.add_mul]; congr 1; omega
    have hlc : xs.length * es0 ≤ cap * es0 := Nat.mul_le_mul_right _ e4
    have hfe : f * es0 ≤ lo * es0 := Nat.mul_le_mul_right _ hflo
    have hfit : lo * es0 + (Builtin.zeroCells z.cells (xs.length - lo)).toList.length ≤ cs.toList.length := by simp only [hzlen, Array.length_toList]; omega
    have hst := run_storeCells_at P g (lo * es0) cty (Builtin.zeroCells z.cells (xs.length - lo)).toList 0 cs w e3 (by rw [Array.length_toList] at hfit; exact hfit) (y0q hz1 _)
    simp only [Nat.add_zero] at hst
    let cs' : Array Value := (putCells (lo * es0) (Builtin.zeroCells z.cells (xs.length - lo)).toList cs.toList).toArray
    have hcs' : cs'.toList = putCells (lo * es0) (Builtin.zeroCells z.cells (xs.length - lo)).toList cs.toList := by simp [cs']
    have hsz' : cs'.size = cs.size := by
      have := y0c (lo * es0) (Builtin.zeroCells z.cells (xs.length - lo)).toList cs.toList hfit
      simpa [cs'] using this
    have hold : ∀ j, j < f * es0 → cs'[j]? = cs[j]? := by
      intro j hj
      have : cs'.toList[j]? = cs.toList[j]? := by
        rw [hcs', y0o hfit, if_pos (by omega)]
      simpa using this
    have hzy : ∀ y, y ∈ xs.drop lo → (zeroAs zs y).flat = zs := fun y hy => y5f hzl hza (hsh.imp (fun h => h) fun h => List.all_eq_true.1 h y hy)
    have hw' : ∀ y, y ∈ xs.take lo ++ (xs.drop lo).map (zeroAs zs) → y.width = es0 := by
      intro y hy
      rcases List.mem_append.1 hy with hy | hy
      · exact e7 y (List.mem_of_mem_take hy)
      · obtain ⟨y0, hy0, rfl⟩ := List.mem_map.1 hy
        show (zeroAs zs y0).flat.length = es0
        rw [hzy y0 hy0]; exact hzl
    have hf' : ∀ y, y ∈ xs.take lo ++ (xs.drop lo).map (zeroAs zs) → rfree y := by
      intro y hy
      rcases List.mem_append.1 hy with hy | hy
      · exact k2 y (List.mem_of_mem_take hy)
      · obtain ⟨y0, _, rfl⟩ := List.mem_map.1 hy
        exact y4y hzf
    have hlen2 : (xs.take lo ++ (xs.drop lo).map (zeroAs zs)).length = xs.length := by simp; omega
    have hflat : flatL (xs.take lo ++ (xs.drop lo).map (zeroAs zs)) = (flatL xs).take (lo * es0) ++ (List.replicate (xs.length - lo) zs).flatten := by
      rw [y1g, y24 e7, y3j hzy, List.length_drop]
    have hrz : Reps Γ (List.replicate (xs.length - lo) zs).flatten (Builtin.zeroCells z.cells (xs.length - lo)).toList := by
      rw [hzz]; exact y12 hzreps _
    have hfl := y01 e7
    have hreps : Reps Γ (flatL (xs.take lo ++ (xs.drop lo).map (zeroAs zs))) (cs'.toList.take (flatL (xs.take lo ++ (xs.drop lo).map (zeroAs zs))).length) := by
      rw [y01 hw', hlen2, hflat]
      have h2 := ((e8.take (lo * es0)).append hrz)
      have : cs'.toList.take (xs.length * es0) = (cs.toList.take (flatL xs).length).take (lo * es0) ++ (Builtin.zeroCells z.cells (xs.length - lo)).toList := by
        rw [hcs', putCells, List.take_take, hfl, Nat.min_eq_left (by omega)]
        rw [List.take_append_of_le_length (by simp only [List.length_append, List.length_take, hzlen, Array.length_toList]; omega)]
        rw [List.take_of_length_le (by simp only [List.length_append, List.length_take, hzlen, Array.length_toList]; omega)]
      rw [this]; exact h2
    obtain ⟨r1, r2⟩ := hR.write (Γ' := Γ) (B := .grow es0 (xs.take lo ++ (xs.drop lo).map (zeroAs zs)) (some f)) (o := .cells cs' cty) (w' := w.setRow g cs') hb' e2 (.refl Γ) (fun _ => rfl) (fun _ _ => ⟨rfl, fun _ => rfl⟩)
      (fun k j hk => rfl) (y02 w g cs cs' cty (0, 0) e3) (fun k hk => y0n w g k cs' hk) (y19 w g cs') rfl rfl rfl
      (fun j c hm => by
        rw [cell_at (y02 w g cs cs' cty (0, 0) e3)]
        by_cases hj : j < f * es0
        · rw [hold j hj, ← e11 j hj]; exact hm
        · rw [e12 j (by omega)] at hm; cases hm)
      ⟨_, by rw [hlen2]; exact k1, by rw [hlen2]; exact k0, hf', .inr ⟨g, cap, cs', cty, by rw [hlen2], e2, y02 w g cs cs' cty (0, 0) e3, by rw [hlen2]; exact e4, hsz'.trans e5, e6, hw', hreps, by
          intro c hc
          rw [hcs'] at hc
          simp only [putCells, List.mem_append] at hc
          rcases hc with (hc | hc) | hc
          · exact e9 c (List.mem_of_mem_take hc)
          · exact y0q hz1 _ c hc
          · exact e9 c (List.mem_of_mem_drop hc), by rw [hlen2]; exact e10, fun j hj => by simp only [Option.getD_some] at hj; rw [hold j hj]; exact e11 j hj, fun j hj => e12 j (by simpa using hj)⟩⟩
    have e1 : (c.args.map a.eval)[0]? = some (a.eval x') := by
      rw [show c.args = [x'].toArray from by apply Array.ext'; simpa using hargs]; simp
    refine ⟨.value (.tuple #[]), _, _, _, ?_, .inl rfl, rep_undef Γ, r1, r2⟩
    obtain ⟨n, hn⟩ : ∃ n, xs.length - lo = n + 1 := ⟨xs.length - lo - 1, by omega⟩
    simp only [hn] at hst hc hcs'
    simp [execOp, resolve, hcal, invoke, builtin, Builtin.clear_, hts, e1, run_underlying hu, hc, hzr, hst, cs', hn, putCells]
  rename_i b off len cap wd hx
  split at hv <;> first | (cases hv; done) | skip
  rename_i vs hbl
  split at hv <;> first | (cases hv; done) | skip
  rename_i hcond
  obtain ⟨hwd, hle, hzl⟩ := hcond
  simp only [Option.some.injEq, Prod.mk.injEq, Ex.ok.injEq] at hv
  obtain ⟨rfl, rfl⟩ := hv
  obtain ⟨g, hc, hmu⟩ := (ev_rep he hko hx).sl_inv
  obtain ⟨g', cs, cty, k1, k2, k3, k4, k5, k6⟩ := hR.cells hbl
  rw [hmu] at k1; cases k1
  obtain ⟨z, hzr, hzreps, hz1⟩ := run_zeroB (Γ := Γ) hz w
  have hzs : z.cells.toList.length = es := by rw [hzreps.1]; exact hzl
  have hzz : (Builtin.zeroCells z.cells len).toList = (List.replicate len z.cells.toList).flatten := by rw [← zeros_eq]; rfl
  have hzlen : (Builtin.zeroCells z.cells len).toList.length = len * es := by
    rw [Array.length_toList, size_zeroCells', show z.cells.size = es by simpa using hzs]
  have hcl : cs.size = vs.length := by have := k5.1; simpa using this
  have hst := run_storeCells_at P g off cty (Builtin.zeroCells z.cells len).toList 0 cs w k3 (by rw [hzlen]; omega) (y0q hz1 len)
  simp only [Nat.add_zero] at hst
  have hrz : Reps Γ (flatL (List.replicate len (.agg zs))) (Builtin.zeroCells z.cells len).toList := by
    rw [y29, hzz]; exact y12 hzreps len
  obtain ⟨r1, r2⟩ := hR.writeCells (vs' := putCells off (flatL (List.replicate len (.agg zs))) vs) (cs' := (putCells off (Builtin.zeroCells z.cells len).toList cs.toList).toArray) hbl hmu k2 k3 k4 (by simpa using k5.put off hrz) (by
    intro c hc
    simp only [putCells, List.mem_append] at hc
    rcases hc with (hc | hc) | hc
    · exact k6 c (List.mem_of_mem_take hc)
    · exact y0q hz1 len c hc
    · exact k6 c (List.mem_of_mem_drop hc))
  have e1 : (c.args.map a.eval)[0]? = some (a.eval x') := by
    rw [show c.args = [x'].toArray from by apply Array.ext'; simpa using hargs]; simp
  refine ⟨.value (.tuple #[]), _, _, _, ?_, .inl rfl, rep_undef Γ, r1, r2⟩
  cases len with
  | zero =>
    have h0 : putCells off (Builtin.zeroCells z.cells 0).toList cs.toList = cs.toList := by
      have : (Builtin.zeroCells z.cells 0).toList = [] := by rw [hzz]; rfl
      rw [this, y39]
    rw [h0]
    have := setRow_self w g cs cty (0, 0) k3
    simp [execOp, resolve, hcal, invoke, builtin, Builtin.clear_, hts, e1, run_underlying hu, hc, this]
  | succ n =>
    simp [execOp, resolve, hcal, invoke, builtin, Builtin.clear_, hts, e1, run_underlying hu, hc, hzr, hst, putCells]
def keyD (ks : Bool) (D : TypeDesc) : Prop := (ks = false ∧ ∃ i, D = .int i) ∨ (ks = true ∧ D = .string)
theorem keyB_some {ks : Bool} {t : TypeId} {q : TypeId → Bool} (h : keyB P ks t q = true) : ∃ k e D, P.underlying t = some (.map k e) ∧ P.underlying k = some D ∧ keyD ks D ∧ q e = true := by
  unfold keyB at h
  split at h
  · rename_i k e hu
    simp only [Bool.and_eq_true] at h
    have h1 := h.1
    split at h1
    · rename_i i hk; exact ⟨k, e, _, hu, hk, .inl ⟨by simpa using h1, i, rfl⟩, h.2⟩
    · rename_i hk; exact ⟨k, e, _, hu, hk, .inr ⟨h1, rfl⟩, h.2⟩
    · cases h1
  · cases h
theorem keyEq_now {ks : Bool} {k k' : AVal} {c c' : Value} {D : TypeDesc} {r : Bool} (hD : keyD ks D) (h : keyEq ks k k' = some r) (hk : Rep Γ k c) (hk' : Rep Γ k' c') : Instr.sameNow D c c' = some r := by
  unfold keyEq at h
  split at h
  · rename_i q x q' y
    split at h <;> first | (cases h; done) | skip
    rename_i hq
    subst hq
    cases h
    have e1 := hk.int_inv
    have e2 := hk'.int_inv
    subst e1; subst e2
    rcases hD with ⟨_, i, rfl⟩ | ⟨h, _⟩
    · simp [Instr.sameNow]; rfl
    · cases h
  · rename_i x y
    cases h
    have e1 := hk.str_inv
    have e2 := hk'.str_inv
    subst e1; subst e2
    rcases hD with ⟨h, _⟩ | ⟨_, rfl⟩
    · cases h
    · simp only [Instr.sameNow]
      congr 1
      rw [Bool.eq_iff_iff, MapKept.bytes_beq]
      simp
  · cases h
theorem y1y {ks : Bool} {k : AVal} {c : Value} {D : TypeDesc} (hD : keyD ks D) (hk : Rep Γ k c) : ∀ {es : List (AVal × AVal)} {ents : List MapEntry} {n : Nat} {r : Option AVal},
    ents.length = es.length → (∀ (i : Nat) (x v : AVal) (en : MapEntry), es[i]? = some (x, v) → ents[i]? = some en → Rep Γ x en.key ∧ Rep Γ v en.val) → findKey ks k es = some r →
    ∃ q, Instr.findNow D c ents n = some q ∧ match r with
      | none => q = none
      | some v => ∃ i u, q = some (i, u) ∧ Rep Γ v u
  | [], [], n, r, _, _, h => by simp [findKey] at h; subst h; exact ⟨none, rfl, rfl⟩
  | [], _ :: _, _, _, hl, _, _ => by simp at hl
  | _ :: _, [], _, _, hl, _, _ => by simp at hl
  | (k', v) :: es, en :: ents, n, r, hl, hr, h => by
    have h0 := hr 0 k' v en rfl rfl
    simp only [findKey] at h
    simp only [Instr.findNow]
    split at h
    · rename_i hq
      cases h
      rw [keyEq_now hD hq hk h0.1]
      exact ⟨_, rfl, n, en.val, rfl, h0.2⟩
    · rename_i hq
      rw [keyEq_now hD hq hk h0.1]
      exact y1y hD hk (by simpa using hl) (fun i x v en hx hv => hr (i + 1) x v en (by simpa using hx) (by simpa using hv)) h
    · cases h
theorem y3b {ks : Bool} {b : Bool} {k : AVal} {c : Value} {kt : TypeId} {D : TypeDesc} {w : World} (hu : P.underlying kt = some D) (hD : keyD ks D) : (Instr.checkKey b 10000 kt c).run P w = .ok () w := by
  show (Instr.checkKey b (9999 + 1) kt c).run P w = _
  rw [Instr.checkKey, Sem.run_bind, run_underlying hu, Result.andThen_ok]
  rcases hD with ⟨_, i, rfl⟩ | ⟨_, rfl⟩ <;> rfl
theorem y25 {w : World} {g : Nat} {ents : Array MapEntry} {clock : Nat} (h : w.heap[g]? = some (.map ents clock)) : (getObj g).run P w = .ok (.map ents clock) w := by
  simp [getObj, Sem.run, h]
theorem y5r {o : Oper} {C : Ctx} {id : Nat} {ks ok : Bool} {z : AVal} {m k : AOpd} {v : AVal} {H H' : Heap} {w : World} (he : EnvRel Γ e a.tmps) (hR : Rel Γ H w) (hk : chkH P (.look ks ok z m k) o.op = true)
    (hv : evH C e id H (.look ks ok z m k) = some (.ok v, H')) : Done P o a w Γ v H' := by
  obtain ⟨dst, op, ty, pos, after, guard⟩ := o
  simp only at hk
  cases op <;> simp only [chkH, Bool.false_eq_true, Bool.and_eq_true, decide_eq_true_eq] at hk
  rename_i t m' k' ok'
  obtain ⟨⟨⟨rfl, hkm⟩, hkk⟩, hkt⟩ := hk
  obtain ⟨kt, el, D, hu, hku, hD, hz⟩ := keyB_some hkt
  obtain ⟨zv, hzr, hzrep, _⟩ := run_zvalB (Γ := Γ) hz w
  simp only [evH] at hv
  split at hv <;> first | (cases hv; done) | skip
  rename_i b kv hm hkv
  split at hv <;> first | (cases hv; done) | skip
  rename_i es hb
  split at hv <;> first | (cases hv; done) | skip
  obtain ⟨g, hc, hmu⟩ := (ev_rep he hkm hm).map_inv
  obtain ⟨g', ents, clock, h1, h2, h3, h4, h5⟩ := hR.blk _ _ hb
  rw [hmu] at h1; cases h1
  have hrk := ev_rep he hkk hkv
  have hck := y3b (P := P) (b := ents.isEmpty) (c := a.eval k') (w := w) (k := kv) hku hD
  split at hv
  · rename_i u hf
    simp only [Option.some.injEq, Prod.mk.injEq, Ex.ok.injEq] at hv
    obtain ⟨rfl, rfl⟩ := hv
    obtain ⟨q, hq, i, uv, rfl, hru⟩ := y1y (n := 0) hD hrk (ents := ents.toList) (by simpa using h4) (fun i x v en hx hv => h5 i x v en hx (by simpa using hv)) hf
    have hrun : (Instr.lookup t (a.eval m') (a.eval k') ok).run P w = .ok (if ok then .tuple #[uv, .bool true] else uv) w := by
      simp only [Instr.lookup, Sem.run_bind, run_underlying hu, Result.andThen_ok, hc, y25 h3, Sem.run_pure, hck, Instr.findKey, run_underlying hku, hq]
    refine Done.same hR (exec_v rfl hrun) ?_
    cases ok
    · exact hru
    · exact .tup (cs := [u, .bool true]) (ds := [uv, .bool true]) rfl (Reps.cons hru (Reps.cons (.bool true) (Reps.nil Γ))).2
  · rename_i hf
    simp only [Option.some.injEq, Prod.mk.injEq, Ex.ok.injEq] at hv
    obtain ⟨rfl, rfl⟩ := hv
    obtain ⟨q, hq, rfl⟩ := y1y (n := 0) hD hrk (ents := ents.toList) (by simpa using h4) (fun i x v en hx hv => h5 i x v en hx (by simpa using hv)) hf
    have hrun : (Instr.lookup t (a.eval m') (a.eval k') ok).run P w = .ok (if ok then .tuple #[zv, .bool false] else zv) w := by
      simp only [Instr.lookup, Sem.run_bind, run_underlying hu, Result.andThen_ok, hc, y25 h3, Sem.run_pure, hck, Instr.findKey, run_underlying hku, hq, hzr]
    refine Done.same hR (exec_v rfl hrun) ?_
    cases ok
    · exact hzrep
    · exact .tup (cs := [z, .bool false]) (ds := [zv, .bool false]) rfl (Reps.cons hzrep (Reps.cons (.bool false) (Reps.nil Γ))).2
  · cases hv
theorem y33 {ks : Bool} {k v : AVal} {c u : Value} {D : TypeDesc} (hD : keyD ks D) (hk : Rep Γ k c) (hv : Rep Γ v u) : ∀ {es es' : List (AVal × AVal)} {ents : List MapEntry} {n : Nat},
    ents.length = es.length → (∀ (i : Nat) (x y : AVal) (en : MapEntry), es[i]? = some (x, y) → ents[i]? = some en → Rep Γ x en.key ∧ Rep Γ y en.val) → setKey ks k v es = some es' →
    (∃ i val en, Instr.findNow D c ents n = some (some (n + i, val)) ∧ ents[i]? = some en ∧ Instr.sameNow D c en.key = some true ∧ es'.length = es.length ∧
      ∀ (j : Nat) (x y : AVal) (en' : MapEntry), es'[j]? = some (x, y) → (ents.modify i fun e => { e with key := e.key, val := u })[j]? = some en' → Rep Γ x en'.key ∧ Rep Γ y en'.val) ∨
    (Instr.findNow D c ents n = some none ∧ es' = es ++ [(k, v)])
  | [], es', [], n, _, _, h => by simp [setKey] at h; subst h; exact .inr ⟨rfl, rfl⟩
  | [], _, _ :: _, _, hl, _, _ => by simp at hl
  | _ :: _, _, [], _, hl, _, _ => by simp at hl
  | (k', v') :: es, es', en :: ents, n, hl, hr, h => by
    have h0 := hr 0 k' v' en rfl rfl
    simp only [setKey] at h
    simp only [Instr.findNow]
    split at h
    · rename_i hq
      cases h
      have hs := keyEq_now hD hq hk h0.1
      rw [hs]
      refine .inl ⟨0, en.val, en, by simp, rfl, hs, by simp, ?_⟩
      intro j x y en' hx hy
      cases j with
      | zero => simp at hx hy; obtain ⟨rfl, rfl⟩ := hx; subst hy; exact ⟨h0.1, hv⟩
      | succ j => simp at hx hy; exact hr (j + 1) x y en' (by simpa using hx) (by simpa using hy)
    · rename_i hq
      rw [keyEq_now hD hq hk h0.1]
      split at h <;> first | (cases h; done) | skip
      rename_i r' hr'
      cases h
      rcases y33 hD hk hv (n := n + 1) (by simpa using hl) (fun i x y en hx hy => hr (i + 1) x y en (by simpa using hx) (by simpa using hy)) hr' with ⟨i, val, en1, e1, e2, e3, e4, e5⟩ | ⟨e1, rfl⟩
      · refine .inl ⟨i + 1, val, en1, by simp only; rw [e1]; simp; omega, by simpa using e2, e3, by simpa using e4, ?_⟩
        intro j x y en' hx hy
        cases j with
        | zero => simp at hx hy; obtain ⟨rfl, rfl⟩ := hx; subst hy; exact h0
        | succ j => simp at hx hy; exact e5 j x y en' hx hy
      · exact .inr ⟨e1, rfl⟩
    · cases h
theorem y52 {D : TypeDesc} {ks : Bool} {c c' : Value} (hD : keyD ks D) (h : Instr.sameNow D c c' = some true) : Instr.sameBits 10000 c' c = true := by
  rcases hD with ⟨_, i, rfl⟩ | ⟨_, rfl⟩
  · cases c <;> cases c' <;> simp [Instr.sameNow] at h
    obtain ⟨rfl, rfl⟩ := h
    simp [Instr.sameBits]
  · cases c <;> cases c' <;> simp only [Instr.sameNow, reduceCtorEq, Option.some.injEq] at h
    rw [MapKept.bytes_beq] at h
    subst h
    simp only [Instr.sameBits]
    rw [MapKept.bytes_beq]
theorem upd_sound {o : Oper} {C : Ctx} {id : Nat} {ks : Bool} {m k x : AOpd} {v : AVal} {H H' : Heap} {w : World} (he : EnvRel Γ e a.tmps) (hR : Rel Γ H w) (hk : chkH P (.upd ks m k x) o.op = true)
    (hv : evH C e id H (.upd ks m k x) = some (.ok v, H')) : Done P o a w Γ v H' := by
  have hk' : ∃ t m' k' x', (o.op = .mapUpdate t m' k' x' ∨ o.op = .insert t m' k' x') ∧ chkO m m' = true ∧ chkO k k' = true ∧ chkO x x' = true ∧ keyB P ks t (fun _ => true) = true := by
    obtain ⟨dst, op, ty, pos, after, guard⟩ := o
    simp only at hk ⊢
    cases op <;> simp only [chkH, Bool.false_eq_true, Bool.and_eq_true] at hk
    · exact ⟨_, _, _, _, .inr rfl, hk.1.1.1, hk.1.1.2, hk.1.2, hk.2⟩
    · exact ⟨_, _, _, _, .inl rfl, hk.1.1.1, hk.1.1.2, hk.1.2, hk.2⟩
  obtain ⟨t, m', k', x', hop, hkm, hkk, hkx, hkt⟩ := hk'
  obtain ⟨kt, el, D, hu, hku, hD, _⟩ := keyB_some hkt
  simp only [evH] at hv
  split at hv <;> first | (cases hv; done) | skip
  rename_i b kv xv hm hkv hxv
  split at hv <;> first | (cases hv; done) | skip
  rename_i es hb
  split at hv <;> first | (cases hv; done) | skip
  split at hv <;> first | (cases hv; done) | skip
  rename_i es' hset
  simp only [Option.some.injEq, Prod.mk.injEq, Ex.ok.injEq] at hv
  obtain ⟨rfl, rfl⟩ := hv
  obtain ⟨g, hc, hmu⟩ := (ev_rep he hkm hm).map_inv
  obtain ⟨g', ents, clock, h1, h2, h3, h4, h5⟩ := hR.blk _ _ hb
  rw [hmu] at h1; cases h1
  have hrk := ev_rep he hkk hkv
  have hrx := ev_rep he hkx hxv
  have hck := y3b (P := P) (b := false) (c := a.eval k') (w := w) (k := kv) hku hD
  have hlt : g < w.heap.size := (Array.getElem?_eq_some_iff.1 h3).1
  have hset' : ∀ ob : Obj, (setObj g ob).run P w = .ok () { w with heap := w.heap.setIfInBounds g ob } := by
    intro ob; simp [setObj, Sem.run, h3]
  have fin : ∀ (ents' : Array MapEntry) (clock' : Nat), (Instr.mapUpdate t (a.eval m') (a.eval k') (a.eval x')).run P w = .ok () { w with heap := w.heap.setIfInBounds g (.map ents' clock') } →
      ents'.size = es'.length → (∀ (i : Nat) (x y : AVal) (en : MapEntry), es'[i]? = some (x, y) → ents'[i]? = some en → Rep Γ x en.key ∧ Rep Γ y en.val) → Done P o a w Γ undefA (H.set b (.mp es')) := by
    intro ents' clock' hrun hsz hall
    have w1 : ({ w with heap := w.heap.setIfInBounds g (.map ents' clock') } : World).heap[g]? = some (.map ents' clock') := by simp [hlt]
    have w2 : ∀ q : Nat, q ≠ g → ({ w with heap := w.heap.setIfInBounds g (.map ents' clock') } : World).heap[q]? = w.heap[q]? := by
      intro q hq; simp [Array.getElem?_setIfInBounds_ne (Ne.symm hq)]
    have hMg : ∀ j, Γ.M g j = none := by
      intro j
      cases hm : Γ.M g j with
      | none => rfl
      | some d => have := hR.mem _ _ _ hm; simp [World.cell?, h3] at this
    obtain ⟨r1, r2⟩ := hR.write (Γ' := Γ) (B := .mp es') (w' := { w with heap := w.heap.setIfInBounds g (.map ents' clock') }) hb h2 (.refl Γ) (fun _ => rfl) (fun _ _ => ⟨rfl, fun _ => rfl⟩) (fun _ _ _ => rfl) w1 w2 (by simp) rfl rfl rfl
      (fun j d hm => by rw [hMg j] at hm; cases hm) ⟨g, ents', clock', hmu, h2, w1, hsz, hall⟩
    refine ⟨.skip, undef, _, Γ, ?_, .inr ⟨rfl, rfl⟩, rep_undef Γ, r1, r2⟩
    rcases hop with hop | hop
    · exact exec_u (by simp only [execOp, hop]) hrun
    · exact exec_u (by simp only [execOp, hop]) hrun
  rcases y33 (n := 0) hD hrk hrx (ents := ents.toList) (by simpa using h4) (fun i x v en hx hv => h5 i x v en hx (by simpa using hv)) hset with ⟨i, val, en, e1, e2, e3, e4, e5⟩ | ⟨e1, rfl⟩
  · have e2' : ents[i]? = some en := by simpa using e2
    have hkeep : (Instr.keyThatStays en.key (a.eval k')).run P w = .ok (a.eval k') w := by
      simp [Instr.keyThatStays, y52 hD e3]
    have hkeq : a.eval k' = en.key := by
      rcases hD with ⟨_, i, rfl⟩ | ⟨_, rfl⟩
      · revert e3; generalize a.eval k' = q; generalize en.key = r; intro e3
        cases q <;> cases r <;> simp [Instr.sameNow] at e3
        obtain ⟨rfl, rfl⟩ := e3; rfl
      · revert e3; generalize a.eval k' = q; generalize en.key = r; intro e3
        cases q <;> cases r <;> simp only [Instr.sameNow, reduceCtorEq, Option.some.injEq] at e3
        rw [MapKept.bytes_beq] at e3; subst e3; rfl
    refine fin (ents.modify i fun e => { e with key := a.eval k', val := a.eval x' }) clock ?_ (by simp; omega) ?_
    · simp only [Nat.zero_add] at e1
      simp only [Instr.mapUpdate, Sem.run_bind, run_underlying hu, Result.andThen_ok, hc, y25 h3, hck, Instr.findKey, run_underlying hku, e1, Sem.run_pure, e2', Option.map_some, Option.getD_some, hkeep, hset']
    · intro j x y en' hx hy
      refine e5 j x y en' hx ?_
      rw [← hy]
      rw [← Array.getElem?_toList, Array.toList_modify]
      rw [List.getElem?_modify, List.getElem?_modify]
      by_cases hij : i = j
      · subst hij
        rw [e2]
        simp [hkeq]
      · simp [hij]
  · refine fin (ents.push { key := a.eval k', val := a.eval x', born := clock }) (clock + 1) ?_ (by simp [h4]) ?_
    · simp only [Instr.mapUpdate, Sem.run_bind, run_underlying hu, Result.andThen_ok, hc, y25 h3, hck, Instr.findKey, run_underlying hku, e1, Sem.run_pure, hset']
    · intro j x y en' hx hy
      by_cases hj : j < es.length
      · rw [List.getElem?_append_left hj] at hx
        rw [Array.getElem?_push_lt (by omega)] at hy
        exact h5 j x y en' hx (by rw [← hy]; exact Array.getElem?_eq_getElem (by omega))
      · rw [List.getElem?_append_right (by omega)] at hx
        have hje : j = es.length := by
          have := (List.getElem?_eq_some_iff.1 hx).1
          simp at this; omega
        subst hje
        simp at hx
        obtain ⟨rfl, rfl⟩ := hx
        rw [← h4] at hy
        simp at hy
        subst hy
        exact ⟨hrk, hrx⟩
end
section
variable {Γ : Gh}
def Gh.cut (Γ : Gh) (n : Nat) : Gh :=
  { M := Γ.M, mu := fun b => if b < n then Γ.mu b else none, T := fun o l => if o < n then Γ.T o l else none, own := fun g => (Γ.own g).bind fun b => if b < n then some b else none }
theorem Rep.cut {n : Nat} {v : AVal} {c : Value} (h : Rep Γ v c) (hv : lowV n v = true) : Rep (Γ.cut n) v c :=
  Rep.move (Γ := Γ) (Γ' := Γ.cut n) (n := n) (fun _ _ _ h => h) (fun b g hb h => by simp only [Gh.cut]; rw [if_pos hb]; exact h) (fun o l c ho h => by simp only [Gh.cut]; rw [if_pos ho]; exact h) h hv
theorem Reps.cut {n : Nat} {vs : List AVal} {cs : List Value} (h : Reps Γ vs cs) (hv : lowL n vs = true) : Reps (Γ.cut n) vs cs :=
  ⟨h.1, fun i c d hc hd => (h.2 i c d hc hd).cut (lowL_get hv hc)⟩
theorem lowP_get {n : Nat} : ∀ {es : List (AVal × AVal)} {i : Nat} {k v : AVal}, lowP n es = true → es[i]? = some (k, v) → lowV n k = true ∧ lowV n v = true
  | [], i, k, v, _, h => by simp at h
  | (k0, v0) :: es, 0, k, v, hb, h => by simp only [lowP, Bool.and_eq_true] at hb; simp at h; obtain ⟨rfl, rfl⟩ := h; exact hb.1
  | (k0, v0) :: es, i + 1, k, v, hb, h => by simp only [lowP, Bool.and_eq_true] at hb; simp at h; exact lowP_get hb.2 h
theorem lowH_get {n : Nat} : ∀ {H : Heap} {i : Nat} {B : ABlock}, lowH n H = true → H[i]? = some B → lowB n B = true
  | [], i, B, _, h => by simp at h
  | b :: H, 0, B, hb, h => by simp only [lowH, Bool.and_eq_true] at hb; simp at h; exact h ▸ hb.1
  | b :: H, i + 1, B, hb, h => by simp only [lowH, Bool.and_eq_true] at hb; simp at h; exact lowH_get hb.2 h
theorem lowE_get {n : Nat} : ∀ {e : Env} {t : Nat} {v : AVal}, lowE n e = true → e.get t = some v → lowV n v = true
  | [], t, v, _, h => by simp [Env.get] at h
  | (k, u) :: e, t, v, hb, h => by
    simp only [lowE, Bool.and_eq_true] at hb
    simp only [Env.get] at h
    split at h
    · cases h; exact hb.1
    · exact lowE_get hb.2 h
theorem OkB.cut {n b : Nat} {B : ABlock} {w : World} (hn : b < n) (hB : lowB n B = true) (h : OkB Γ w b B) : OkB (Γ.cut n) w b B := by
  have own : ∀ g, Γ.own g = some b → (Γ.cut n).own g = some b := by
    intro g hg; simp [Gh.cut, hg, hn]
  have mu : (Γ.cut n).mu b = Γ.mu b := by simp [Gh.cut, hn]
  have T : ∀ l, (Γ.cut n).T b l = Γ.T b l := by intro l; simp [Gh.cut, hn]
  cases B with
  | hole => simp only [OkB] at h ⊢; rw [mu]; exact ⟨h.1, fun l => by rw [T]; exact h.2 l⟩
  | dead => trivial
  | cells vs =>
    obtain ⟨g, cs, ty, h1, h2, h3, h4, h5, h6⟩ := h
    exact ⟨g, cs, ty, by rw [mu]; exact h1, own g h2, h3, h4, h5.cut hB, h6⟩
  | grow es xs op =>
    obtain ⟨c, h1, h2, h3, h4⟩ := h
    refine ⟨c, by rw [T]; exact h1, fun l hl => by rw [T]; exact h2 l hl, h3, ?_⟩
    rcases h4 with ⟨h4, h5⟩ | ⟨g, cap, cs, ty, k1, k2, k3, k4, k5, k6, k7, k8, k9⟩
    · exact .inl ⟨h4, h5.cut rfl⟩
    · exact .inr ⟨g, cap, cs, ty, k1, own g k2, k3, k4, k5, k6, k7, k8.cut (lowL_iff.2 fun v hv => low_mono (Nat.zero_le _) (y2f h3 v hv)), k9⟩
  | mp es =>
    obtain ⟨g, ents, clock, h1, h2, h3, h4, h5⟩ := h
    refine ⟨g, ents, clock, by rw [mu]; exact h1, own g h2, h3, h4, ?_⟩
    intro i k v en hk he
    have hl := lowP_get hB hk
    exact ⟨(h5 i k v en hk he).1.cut hl.1, (h5 i k v en hk he).2.cut hl.2⟩
theorem Rel.cutv {n : Nat} {Γ0 : Gh} {H0 H : Heap} {w0 w : World} (hR0 : Rel Γ0 H0 w0) (hm : H0.length = n) (hR : Rel Γ H w) (hst : Stp Γ0 w0 Γ w) (hH : lowH n (H.take n) = true) : Rel (Γ.cut n) (H.take n) w ∧ Stp Γ0 w0 (Γ.cut n) w := by
  subst hm
  refine ⟨⟨hR.mem, ?_, ?_, ?_⟩, ⟨⟨hst.le.M, ?_, ?_⟩, ?_, hst.newM, hst.size, hst.heap, hst.os, hst.tape, hst.output⟩⟩
  · intro b B hb
    have hbl : b < H0.length := by
      have := (List.getElem?_eq_some_iff.1 hb).1
      simp at this; omega
    have hb' : H[b]? = some B := by rw [List.getElem?_take, if_pos hbl] at hb; exact hb
    exact OkB.cut hbl (lowH_get hH hb) (hR.blk b B hb')
  · intro b hb
    by_cases hbl : b < H0.length
    · have := hR.dom b (by simp at hb; omega)
      refine ⟨by simp only [Gh.cut]; rw [if_pos hbl]; exact this.1, fun l => by simp only [Gh.cut]; rw [if_pos hbl]; exact this.2 l⟩
    · simp [Gh.cut, hbl]
  · intro g b h
    simp only [Gh.cut, Option.bind_eq_some_iff] at h
    obtain ⟨b', h1, _⟩ := h
    exact hR.owned g b' h1
  · intro b g h
    have hb : b < H0.length := by
      rcases Nat.lt_or_ge b H0.length with h' | h'
      · exact h'
      · rw [(hR0.dom b h').1] at h; cases h
    simp only [Gh.cut]; rw [if_pos hb]; exact hst.le.mu b g h
  · intro o l c h
    have hb : o < H0.length := by
      rcases Nat.lt_or_ge o H0.length with h' | h'
      · exact h'
      · rw [(hR0.dom o h').2 l] at h; cases h
    simp only [Gh.cut]; rw [if_pos hb]; exact hst.le.T o l c h
  · intro g hg ho
    simp only [Gh.cut]
    rw [hst.own g hg ho]; rfl
end
end Go.Ev
namespace Go.Ev
set_option linter.unusedVariables false
set_option linter.unusedSimpArgs false
open Go
def chkC (p : AOp) (op : Op) : Bool :=
  match p with
  | .call _ f args => match op with
    | .call c => (match c.callee with
      | .value (.func g) => decide (f = g)
      | _ => false) && chkOs args c.args.toList
    | _ => false
  | .callv _ x args => match op with
    | .call c => (match c.callee with
      | .value y => chkO x y
      | _ => false) && chkOs args c.args.toList
    | _ => false
  | .panic x => match op with
    | .panic y => chkO x y
    | .call c => (match c.callee with
      | .builtin b => decide (b = .panic)
      | _ => false) && args1 c.args.toList (chkO x)
    | _ => false
  | _ => false
def chkOp (P : Program) (p : AOp) (op : Op) : Bool :=
  match p.kind with
  | .pure => chkP P p op
  | .new => chkN P p op
  | .heap => chkH P p op || chkC p op
def ExOk (Γ : Gh) : Ex → Ending → Prop
  | .ok v, .returned c => Rep Γ v c
  | .pan v, .panicked ch => ∃ c, ch = [{ v := c, recovered := false }] ∧ Rep Γ v c
  | _, _ => False
def CallsOk (P : Program) (call : FuncId → List AVal → Heap → Option (Ex × Heap)) : Prop :=
  ∀ (f : FuncId) (as : List AVal) (H H' : Heap) (x : Ex), call f as H = some (x, H') → (∃ fn, P.funcs[f]? = some fn ∧ fn.body.isSome = true ∧ (fn.name == "runtime.NumGoroutine") = false) ∧
    ∀ (Γ : Gh) (w : World) (cs : Array Value), Rel Γ H w → Reps Γ as cs.toList → Calls P f cs w fun e w' => ∃ Γ', Rel Γ' H' w' ∧ Stp Γ w Γ' w' ∧ ExOk Γ' x e
section
variable {P : Program} {Γ : Gh} {e : Env} {a : Act}
def Gh.after (Γ : Gh) (n : Nat) (w' : World) : Gh := { Γ with M := fun g o => if g < n then Γ.M g o else w'.cell? ⟨g, o, none⟩ }
theorem y4q {Γ1 Γ2 : Gh} {H : Heap} {w : World} (hR : Rel Γ1 H w) (hM : ∀ g o c, Γ1.M g o = some c → Γ2.M g o = some c) (hB : ∀ g b o c, Γ1.own g = some b → w.cell? ⟨g, o, none⟩ = some c → Γ2.M g o = some c) (P : Program) :
    ∀ v, (∀ v' c, shutR H v = some v' → Rep Γ1 v c → Rep Γ2 v' c ∧ rfree v') := by
  have mv : ∀ {v : AVal} {c : Value}, Rep Γ1 v c → rfree v → Rep Γ2 v c := fun h hf => h.move (n := 0) hM (fun _ _ h => absurd h (by omega)) (fun _ _ _ h => absurd h (by omega)) hf
  intro v
  induction v using AVal.rec (motive_2 := fun vs => ∀ vs' cs, shutRL H vs = some vs' → Reps Γ1 vs cs → Reps Γ2 vs' cs ∧ lowL 0 vs' = true) with
  | nil =>
    rename_i cs hv hr
    simp [shutRL] at hv; subst hv
    exact ⟨⟨hr.1, by simp⟩, rfl⟩
  | cons v vs ih1 ih2 =>
    rename_i vs' cs hv hr
    simp only [shutRL] at hv
    split at hv
    · rename_i a ha
      split at hv
      · rename_i b hb
        cases hv
        cases cs with
        | nil => have := hr.1; simp at this
        | cons d ds =>
          have h0 : Rep Γ1 v d := hr.2 0 v d rfl rfl
          have hs : Reps Γ1 vs ds := ⟨by simpa using hr.1, fun i x y hx hy => hr.2 (i + 1) x y (by simpa using hx) (by simpa using hy)⟩
          have r1 := ih1 a d ha h0
          have r2 := ih2 b ds hb hs
          exact ⟨Reps.cons r1.1 r2.1, by simp only [lowL, Bool.and_eq_true]; exact ⟨r1.2, r2.2⟩⟩
      · cases hv
    · cases hv
  | int k n => intro v' c hv hr; simp [shutR] at hv; subst hv; exact ⟨mv hr rfl, rfl⟩
  | bool b => intro v' c hv hr; simp [shutR] at hv; subst hv; exact ⟨mv hr rfl, rfl⟩
  | str b => intro v' c hv hr; simp [shutR] at hv; subst hv; exact ⟨mv hr rfl, rfl⟩
  | nilp => intro v' c hv hr; simp [shutR] at hv; subst hv; exact ⟨mv hr rfl, rfl⟩
  | nili => intro v' c hv hr; simp [shutR] at hv; subst hv; exact ⟨mv hr rfl, rfl⟩
  | nilf => intro v' c hv hr; simp [shutR] at hv; subst hv; exact ⟨mv hr rfl, rfl⟩
  | nilm => intro v' c hv hr; simp [shutR] at hv; subst hv; exact ⟨mv hr rfl, rfl⟩
  | ro b => intro v' c hv hr; simp [shutR] at hv; subst hv; exact ⟨mv hr rfl, rfl⟩
  | lst xs e => intro v' c hv hr; simp [shutR] at hv; subst hv; exact ⟨mv hr.lst_false rfl, rfl⟩
  | gl o len =>
    intro v' c hv hr
    simp only [shutR] at hv
    obtain ⟨_, xs, rfl, _, _, h⟩ := y26 hR hr hv
    exact ⟨mv h rfl, rfl⟩
  | agg cs ih =>
    intro v' c hv hr
    simp only [shutR] at hv
    split at hv
    · rename_i cs' hc
      cases hv
      obtain ⟨ds, rfl, hrs, h1⟩ := hr.agg_inv
      obtain ⟨r1, r2⟩ := ih _ _ hc hrs
      exact ⟨.agg r1.1 r1.2 h1, by simpa [rfree, lowV] using r2⟩
    · cases hv
  | tup cs ih =>
    intro v' c hv hr
    simp only [shutR] at hv
    split at hv
    · rename_i cs' hc
      cases hv
      obtain ⟨ds, rfl, hrs⟩ := hr.tup_inv
      obtain ⟨r1, r2⟩ := ih _ _ hc hrs
      exact ⟨.tup r1.1 r1.2, by simpa [rfree, lowV] using r2⟩
    · cases hv
  | iface t v ih =>
    intro v' c hv hr
    simp only [shutR] at hv
    split at hv
    · rename_i u hu
      cases hv
      cases hr with | iface _ h =>
      obtain ⟨r1, r2⟩ := ih _ _ hu h
      exact ⟨.iface t r1, by simpa [rfree, lowV] using r2⟩
    · cases hv
  | fn f cs ih =>
    intro v' c hv hr
    simp only [shutR] at hv
    split at hv
    · rename_i cs' hc
      cases hv
      obtain ⟨ds, rfl, hrs⟩ := hr.fn_inv
      obtain ⟨r1, r2⟩ := ih _ _ hc hrs
      exact ⟨.fn f r1.1 r1.2, by simpa [rfree, lowV] using r2⟩
    · cases hv
  | sl b off len cap wd =>
    intro v' c hv hr
    simp only [shutR] at hv
    split at hv <;> first | (cases hv; done) | skip
    rename_i xs hel
    split at hv <;> first | (cases hv; done) | skip
    rename_i hall
    cases hv
    have hw := width_all hall.2
    have hel0 := hel
    unfold y22 at hel
    split at hel <;> first | (cases hel; done) | skip
    rename_i vs hb
    split at hel <;> first | (cases hel; done) | skip
    rename_i hle
    obtain ⟨g, cs, ty, h1, h2, h3, h4, h5, h6⟩ := hR.cells hb
    obtain ⟨g', rfl, hmu⟩ := hr.sl_inv
    rw [h1] at hmu; cases hmu
    have hone : ∀ d, d ∈ cs.toList.drop off → d.oneCell' = true := fun d hd => h6 d (List.mem_of_mem_drop hd)
    have hgr := y1n (w := wd) (n := len) (h5.drop off) hone
    obtain ⟨r1, r2⟩ := y1v hR hel hgr
    have hrr := y2o r1
    rw [y1q hone] at hrr
    have hlen : xs.length = len := by
      rw [← r1.1, hgr.1, y1k (by simp; omega)]
    have hfl := y01 hw
    have get : ∀ (j : Nat) (y : AVal), (flatL xs)[j]? = some y → ∃ d, cs[off + j]? = some d ∧ Rep Γ1 y d := by
      intro j y hj
      obtain ⟨d, hd, hrep⟩ := hrr.get hj
      rw [List.getElem?_take] at hd
      split at hd
      · rw [List.getElem?_drop] at hd
        exact ⟨d, by simpa using hd, hrep⟩
      · cases hd
    refine ⟨?_, rfl⟩
    have hcl := hall.1
    rw [← hlen] at hcl ⊢
    refine .lst (fun j => cs.getD (off + j) undef) hcl (by simp) hw r2 ?_ ?_ ?_
    · intro j y hj
      obtain ⟨d, hd, _⟩ := get j y hj
      have := hB g b (off + j) d h2 (by rw [cell_at h3]; exact hd)
      rw [this]; simp [Array.getD_eq_getD_getElem?, hd]
    · intro j y hj
      obtain ⟨d, hd, _⟩ := get j y hj
      have := h6 d (List.mem_of_getElem? (by simpa using hd))
      simpa [Array.getD_eq_getD_getElem?, hd] using this
    · intro j y hj
      obtain ⟨d, hd, hrep⟩ := get j y hj
      have hf : rfree y := y2f r2 y (List.mem_of_getElem? hj)
      have := mv hrep hf
      simpa [Array.getD_eq_getD_getElem?, hd] using this
  | emp b =>
    intro v' c hv hr
    simp [shutR] at hv; subst hv
    cases hr with
    | empN => exact ⟨.lstN _, rfl⟩
    | empE => exact ⟨.lstE (by simp), rfl⟩
  | _ => intro v' c hv hr; simp [shutR] at hv
theorem Rel.bare {H : Heap} {w : World} (hR : Rel Γ H w) : Rel ⟨Γ.M, fun _ => none, fun _ _ => none, fun _ => none⟩ [] w :=
  ⟨hR.mem, by simp, fun _ _ => ⟨rfl, fun _ => rfl⟩, by simp⟩
theorem pure_call {call : FuncId → List AVal → Heap → Option (Ex × Heap)} (hC : CallsOk P call) {f : FuncId} {as : List AVal} {x : Ex} {H : Heap} {w : World} {cs : Array Value} (hR : Rel Γ H w)
    (hx : pureRes (call f as []) = some x) (hr : Reps Γ as cs.toList) (hf : ∀ v, v ∈ as → rfree v) :
    Calls P f cs w fun e w' => ∃ Γ', Rel Γ' H w' ∧ Stp Γ w Γ' w' ∧ ExOk Γ' x e := by
  have mv : Reps ⟨Γ.M, fun _ => none, fun _ _ => none, fun _ => none⟩ as cs.toList :=
    ⟨hr.1, fun i c d hc hd => Rep.move (Γ := Γ) (Γ' := ⟨Γ.M, fun _ => none, fun _ _ => none, fun _ => none⟩) (n := 0) (fun _ _ _ h => h) (fun _ _ h => absurd h (by omega)) (fun _ _ _ h => absurd h (by omega)) (hr.2 i c d hc hd) (hf c (List.mem_of_getElem? hc))⟩
  have main : ∀ (x0 : Ex) (H0 : Heap), call f as [] = some (x0, H0) → (∀ v0, (x0 = .ok v0 ∨ x0 = .pan v0) → ∃ v', shutR H0 v0 = some v' ∧ ((x0 = .ok v0 ∧ x = .ok v') ∨ (x0 = .pan v0 ∧ x = .pan v'))) →
      Calls P f cs w fun e w' => ∃ Γ', Rel Γ' H w' ∧ Stp Γ w Γ' w' ∧ ExOk Γ' x e := by
    intro x0 H0 hc hsh
    refine ((hC f as [] H0 x0 hc).2 _ w cs hR.bare mv).mono ?_
    rintro e w' ⟨Γ1, r1, r2, r3⟩
    have hsz := r2.size
    have hno : ∀ g, g < w.heap.size → Γ1.own g = none := fun g hg => r2.own g hg rfl
    have hM1 : ∀ g o, g < w.heap.size → Γ1.M g o = Γ.M g o := fun g o hg => r2.newM g o hg rfl
    have hheap : ∀ g : Nat, g < w.heap.size → w'.heap[g]? = w.heap[g]? := fun g hg => r2.heap g hg rfl
    have hlt : ∀ g o c, Γ.M g o = some c → g < w.heap.size := fun g o c h => hR.memLt h
    have hle : Γ.le (Γ.after w.heap.size w') := by
      refine ⟨?_, fun _ _ h => h, fun _ _ _ h => h⟩
      intro g o c h
      simp only [Gh.after]
      rw [if_pos (hlt g o c h)]; exact h
    have hM : ∀ g o c, Γ1.M g o = some c → (Γ.after w.heap.size w').M g o = some c := by
      intro g o c h
      simp only [Gh.after]
      split
      · rename_i hg; rw [← hM1 g o hg]; exact h
      · exact r1.mem g o c h
    have hB : ∀ g b o c, Γ1.own g = some b → w'.cell? ⟨g, o, none⟩ = some c → (Γ.after w.heap.size w').M g o = some c := by
      intro g b o c h hc
      simp only [Gh.after]
      split
      · rename_i hg; rw [hno g hg] at h; cases h
      · exact hc
    have hRel : Rel (Γ.after w.heap.size w') H w' := by
      refine ⟨?_, ?_, hR.dom, fun g b h => Nat.lt_of_lt_of_le (hR.owned g b h) hsz⟩
      · intro g o c h
        simp only [Gh.after] at h
        split at h
        · rename_i hg
          have := hR.mem g o c h
          simpa [World.cell?, hheap g hg] using this
        · exact h
      · intro b B hb
        refine (hR.blk b B hb).step hle ?_ ⟨rfl, fun _ => rfl⟩
        intro g hg
        have hgl := hR.owned g b hg
        refine ⟨hg, hheap g hgl, ?_⟩
        intro o
        simp only [Gh.after]
        rw [if_pos hgl]
    have hStp : Stp Γ w (Γ.after w.heap.size w') w' := by
      refine ⟨hle, fun _ _ h => h, ?_, hsz, fun g hg _ => hheap g hg, r2.os, r2.tape, r2.output⟩
      intro g o hg _
      simp only [Gh.after]
      rw [if_pos hg]
    refine ⟨_, hRel, hStp, ?_⟩
    cases x0 with
    | ok v0 =>
      obtain ⟨v', hs, h | h⟩ := hsh v0 (.inl rfl)
      · rw [h.2]
        cases e <;> simp only [ExOk] at r3 ⊢
        exact (y4q r1 hM hB P v0 v' _ hs r3).1
      · cases h.1
    | pan v0 =>
      obtain ⟨v', hs, h | h⟩ := hsh v0 (.inr rfl)
      · cases h.1
      · rw [h.2]
        cases e <;> simp only [ExOk] at r3 ⊢
        obtain ⟨c, hc, hrep⟩ := r3
        exact ⟨c, hc, (y4q r1 hM hB P v0 v' _ hs hrep).1⟩
  unfold pureRes at hx
  split at hx
  · rename_i v H0 hc
    split at hx <;> first | (cases hx; done) | skip
    rename_i v' hs
    cases hx
    refine main _ H0 hc ?_
    rintro v0 (h | h)
    · cases h; exact ⟨v', hs, .inl ⟨rfl, rfl⟩⟩
    · cases h
  · rename_i v H0 hc
    split at hx <;> first | (cases hx; done) | skip
    rename_i v' hs
    cases hx
    refine main _ H0 hc ?_
    rintro v0 (h | h)
    · cases h
    · cases h; exact ⟨v', hs, .inr ⟨rfl, rfl⟩⟩
  · cases hx
theorem y4z {r : Option (Ex × Heap)} {x : Ex} (h : pureRes r = some x) : ∃ q, r = some q := by
  unfold pureRes at h
  split at h
  · exact ⟨_, rfl⟩
  · exact ⟨_, rfl⟩
  · cases h
theorem cut_sound {C : Ctx} (hC : CallsOk P C.call) {f : FuncId} {as : List AVal} {x : Ex} {H H' : Heap} {w : World} {cs : Array Value} (hR : Rel Γ H w) (hx : cutRes H.length (C.call f as H) = some (x, H')) (hr : Reps Γ as cs.toList) :
    (∃ fn, P.funcs[f]? = some fn ∧ fn.body.isSome = true ∧ (fn.name == "runtime.NumGoroutine") = false) ∧ Calls P f cs w fun e w' => ∃ Γ', Rel Γ' H' w' ∧ Stp Γ w Γ' w' ∧ ExOk Γ' x e := by
  have key : ∀ (v : AVal) (H1 : Heap) (Γ1 : Gh) (w1 : World), Rel Γ1 H1 w1 → Stp Γ w Γ1 w1 → ∃ Γ', Rel Γ' (cutH H.length v H1) w1 ∧ Stp Γ w Γ' w1 ∧ ∀ c, Rep Γ1 v c → Rep Γ' v c := by
    intro v H1 Γ1 w1 h1 h2
    unfold cutH
    split
    · exact ⟨Γ1, h1, h2, fun _ h => h⟩
    · split
      · rename_i hl
        simp only [Bool.and_eq_true] at hl
        obtain ⟨r1, r2⟩ := hR.cutv rfl h1 h2 hl.2
        exact ⟨_, r1, r2, fun c hc => hc.cut hl.1⟩
      · exact ⟨Γ1, h1, h2, fun _ h => h⟩
  cases hcl : C.call f as H with
  | none => rw [hcl] at hx; cases hx
  | some q =>
    obtain ⟨x1, H1⟩ := q
    rw [hcl] at hx
    obtain ⟨q1, q2⟩ := hC f as H H1 x1 hcl
    refine ⟨q1, (q2 Γ w cs hR hr).mono ?_⟩
    rintro e w' ⟨Γ1, h1, h2, h3⟩
    cases x1 with
    | ok v =>
      simp only [cutRes, Option.some.injEq, Prod.mk.injEq] at hx
      obtain ⟨rfl, rfl⟩ := hx
      obtain ⟨Γ', r1, r2, r3⟩ := key v H1 Γ1 w' h1 h2
      refine ⟨Γ', r1, r2, ?_⟩
      cases e <;> simp only [ExOk] at h3 ⊢
      exact r3 _ h3
    | pan v =>
      simp only [cutRes, Option.some.injEq, Prod.mk.injEq] at hx
      obtain ⟨rfl, rfl⟩ := hx
      obtain ⟨Γ', r1, r2, r3⟩ := key v H1 Γ1 w' h1 h2
      refine ⟨Γ', r1, r2, ?_⟩
      cases e <;> simp only [ExOk] at h3 ⊢
      obtain ⟨c, hc1, hc2⟩ := h3
      exact ⟨c, hc1, r3 _ hc2⟩
theorem y5e {C : Ctx} (hC : CallsOk P C.call) {raw : Bool} {f : FuncId} {as : List AVal} {x : Ex} {H H' : Heap} {w : World} {cs : Array Value} (hR : Rel Γ H w) (hx : callA C raw f as H = some (x, H')) (hr : Reps Γ as cs.toList) :
    (∃ fn, P.funcs[f]? = some fn ∧ fn.body.isSome = true ∧ (fn.name == "runtime.NumGoroutine") = false) ∧ Calls P f cs w fun e w' => ∃ Γ', Rel Γ' H' w' ∧ Stp Γ w Γ' w' ∧ ExOk Γ' x e := by
  unfold callA at hx
  split at hx
  · exact cut_sound hC hR hx hr
  · split at hx
    · rename_i as' hs
      split at hx <;> first | (cases hx; done) | skip
      rename_i x' hp
      simp only [Option.some.injEq, Prod.mk.injEq] at hx
      obtain ⟨rfl, rfl⟩ := hx
      obtain ⟨r1, r2⟩ := y1v hR hs hr
      obtain ⟨q, hq⟩ := y4z hp
      exact ⟨(hC f as' [] q.2 q.1 hq).1, pure_call hC hR hp r1 r2⟩
    · exact cut_sound hC hR hx hr
theorem evH_ok {C : Ctx} {p : AOp} {op : Op} {id : Nat} {H H' : Heap} {v : AVal} (hk : chkH P p op = true) : evH C e id H p ≠ some (.pan v, H') := by
  cases p <;> simp only [chkH, Bool.false_eq_true] at hk <;> intro h <;> simp only [evH, okv] at h <;> (repeat' (split at h)) <;>
    first | (cases h; done) | (simp [Option.bind_eq_some_iff] at h; done) | skip
theorem y3f : ∀ {xs : List AVal} {s : List UInt8}, bytesOf xs = some s → ∃ ns : List Int, xs = ns.map (AVal.int .u8) ∧ s = ns.map fun n => UInt8.ofNat n.toNat
  | [], s, h => by simp [bytesOf] at h; subst h; exact ⟨[], rfl, rfl⟩
  | x :: r, s, h => by
    unfold bytesOf at h
    split at h <;> first | (cases h; done) | skip
    · rename_i heq; cases heq
    rename_i n r' heq
    cases heq
    split at h <;> first | (cases h; done) | skip
    rename_i s' hs
    cases h
    obtain ⟨ns, rfl, rfl⟩ := y3f hs
    exact ⟨n :: ns, rfl, rfl⟩
theorem y4k : ∀ ns : List Int, flatL (ns.map (AVal.int .u8)) = ns.map (AVal.int .u8)
  | [] => rfl
  | n :: ns => by simp only [List.map_cons, flatL, AVal.flat, y4k ns]; rfl
theorem b2s_sound {o : Oper} {C : Ctx} {id : Nat} {x : AOpd} {v : AVal} {H H' : Heap} {w : World} (he : EnvRel Γ e a.tmps) (hR : Rel Γ H w) (hk : chkH P (.b2s x) o.op = true)
    (hv : evH C e id H (.b2s x) = some (.ok v, H')) : Done P o a w Γ v H' := by
  obtain ⟨dst, op, ty, pos, after, guard⟩ := o
  simp only at hk
  cases op <;> simp only [chkH, Bool.false_eq_true, Bool.and_eq_true] at hk
  rename_i s d y
  simp only [evH] at hv
  split at hv <;> first | (cases hv; done) | skip
  rename_i xs fl hx
  split at hv <;> first | (cases hv; done) | skip
  rename_i bs hb
  simp only [Option.some.injEq, Prod.mk.injEq, Ex.ok.injEq] at hv
  obtain ⟨rfl, rfl⟩ := hv
  have h1 := ev_rep he hk.1.1 hx
  have h2 := hk.1.2
  have h3 := hk.2
  unfold isStrB at h2
  split at h2 <;> first | (cases h2; done) | skip
  rename_i hd
  unfold elemB at h3
  split at h3 <;> first | (cases h3; done) | skip
  rename_i el hs
  simp only [] at h3
  split at h3 <;> first | (cases h3; done) | skip
  rename_i k hel
  have hk8 : k = .u8 := of_decide_eq_true h3
  subst hk8
  obtain ⟨ns, rfl, rfl⟩ := y3f hb
  generalize hc : a.eval y = c at h1
  have key : (Go.convert s d c).run P w = .ok (.string ⟨(ns.map fun n => UInt8.ofNat n.toNat).toArray⟩) w := by
    rcases h1.lst_inv with ⟨he, base, cap, rfl, _⟩ | ⟨g, off, cap, es, f, rfl, h4, h5, h6, h7, h8, h9, h10⟩
    · have : ns = [] := by simpa using he
      subst this
      cases base with
      | none => exact run_convert_bytes_nil w s el hs hel 0 cap d hd
      | some ad =>
        rw [run_convert_bytes_string w s d el _ 0 cap hs hel hd, run_bytesToString w ad 0 cap [] (by
          have := run_loadCells_list (P := P) w ad [] (fun j v hj => by simp at hj)
          simpa using this)]
        rfl
    · have := run_convert_bytes_arg (P := P) w s el hs hel g off (ns.map (AVal.int .u8)).length cap ns (by simp) (by
        intro i hi
        rw [List.length_map] at hi
        have hj : (flatL (ns.map (AVal.int .u8)))[i]? = some (.int .u8 ns[i]) := by rw [y4k, List.getElem?_map, List.getElem?_eq_getElem hi]; rfl
        have e1 := h8 i _ hj
        have e2 := (h10 i _ hj).int_inv
        rw [hR.mem _ _ _ e1, e2]
        simp [List.getD, List.getElem?_eq_getElem hi]) d hd
      rw [this]; rfl
  refine Done.same hR (exec_v rfl ?_) (.str _)
  rw [hc]; exact key
theorem y3l : ∀ s : List UInt8, flatL (s.map fun b => AVal.int .u8 b.toNat) = s.map fun b => AVal.int .u8 b.toNat
  | [] => rfl
  | b :: s => by simp only [List.map_cons, flatL, AVal.flat, y3l s]; rfl
theorem s2b_sound {o : Oper} {C : Ctx} {id : Nat} {x : AOpd} {v : AVal} {H H' : Heap} {w : World} (he : EnvRel Γ e a.tmps) (hR : Rel Γ H w) (hk : chkH P (.s2b x) o.op = true)
    (hv : evH C e id H (.s2b x) = some (.ok v, H')) : Done P o a w Γ v H' := by
  obtain ⟨dst, op, ty, pos, after, guard⟩ := o
  simp only at hk
  cases op <;> simp only [chkH, Bool.false_eq_true, Bool.and_eq_true] at hk
  rename_i s d y
  simp only [evH] at hv
  split at hv <;> first | (cases hv; done) | skip
  rename_i bs hx
  simp only [Option.some.injEq, Prod.mk.injEq, Ex.ok.injEq] at hv
  obtain ⟨rfl, rfl⟩ := hv
  have h1 := (ev_rep he hk.1.1 hx).str_inv
  have h2 := hk.1.2
  have h3 := hk.2
  unfold isStrB at h2
  split at h2 <;> first | (cases h2; done) | skip
  rename_i hs
  unfold elemB at h3
  split at h3 <;> first | (cases h3; done) | skip
  rename_i el hd
  simp only [] at h3
  split at h3 <;> first | (cases h3; done) | skip
  rename_i k hel
  have hk8 : k = .u8 := of_decide_eq_true h3
  subst hk8
  have key := run_bytes_of_string (P := P) w s d el ⟨bs.toArray⟩ hs hd hel
  have hge := grownCap_ge w (⟨bs.toArray⟩ : ByteArray).size 0 el
  generalize grownCap w (⟨bs.toArray⟩ : ByteArray).size 0 el = cap at key hge
  have hsz : (⟨bs.toArray⟩ : ByteArray).size = bs.length := by simp [ByteArray.size]
  obtain ⟨r1, r2⟩ := (hR.drew (w.drawn + 1)).newMem (cs := bytesRow ⟨bs.toArray⟩ cap) (ty := el) (fr := ((bytesRow ⟨bs.toArray⟩ cap).size, (bytesRow ⟨bs.toArray⟩ cap).size + 1))
  refine ⟨.value (.slice (some ⟨w.heap.size, 0, none⟩) bs.length cap), _, _, _, ?_, .inl rfl, ?_, r1, (Stp.drew Γ w _).trans r2⟩
  · simp only [execOp, h1, Sem.run_bind, key, Result.andThen_ok, hsz]
    rfl
  · have hcells : (bytesRow ⟨bs.toArray⟩ cap).toList = (bs.map fun b => Value.int .u8 b.toNat) ++ List.replicate (cap - bs.length) (.int .u8 0) := by
      simp [bytesRow, hsz]
    have := lst_mem (Γ := Γ.mem w.heap.size (bytesRow ⟨bs.toArray⟩ cap)) (g := w.heap.size) (cs := bytesRow ⟨bs.toArray⟩ cap) (xs := bs.map fun b => AVal.int .u8 b.toNat) (cap := cap) (es := 1) (e := false) (fun j hj => by simp [Gh.mem])
      (fun x hx => by obtain ⟨b, _, rfl⟩ := List.mem_map.1 hx; rfl) (fun x hx => by obtain ⟨b, _, rfl⟩ := List.mem_map.1 hx; rfl)
      (by
        rw [y3l, hcells, List.length_map, List.take_left' (by simp)]
        refine ⟨by simp, ?_⟩
        intro i c dd hc hdd
        rw [List.getElem?_map] at hc hdd
        cases hb : bs[i]? with
        | none => rw [hb] at hc; cases hc
        | some b =>
          rw [hb] at hc hdd
          cases hc; cases hdd
          exact .int _ _)
      (by
        intro c hc
        rw [hcells] at hc
        rcases List.mem_append.1 hc with h | h
        · obtain ⟨b, _, rfl⟩ := List.mem_map.1 h; rfl
        · rw [List.eq_of_mem_replicate h]; rfl)
      (by rw [List.length_map]; omega) (by simp)
    rw [List.length_map] at this
    exact this
theorem evH_sound {C : Ctx} {o : Oper} {p : AOp} {id : Nat} {v : AVal} {H H' : Heap} {w : World} (he : EnvRel Γ e a.tmps) (hR : Rel Γ H w) (hk : chkH P p o.op = true) (hv : evH C e id H p = some (.ok v, H')) : Done P o a w Γ v H' := by
  cases p
  case ia => exact ia_sound he hR hk hv
  case bsl => exact bsl_sound he hR hk hv
  case lds => exact lds_sound he hR hk hv
  case lda => exact lda_sound he hR hk hv
  case sts => exact sts_sound he hR hk hv
  case sta => exact sta_sound he hR hk hv
  case stk => exact stk_sound he hR hk hv
  case slc => exact slc_sound he hR hk hv
  case slca => exact y5n he hR hk hv
  case len => exact len_sound he hR hk hv
  case cap => exact cap_sound he hR hk hv
  case app => exact app_sound he hR hk hv
  case appz => exact y5q he hR hk hv
  case copy => exact y5k he hR hk hv
  case clear => exact y5b he hR hk hv
  case b2s => exact b2s_sound he hR hk hv
  case s2b => exact s2b_sound he hR hk hv
  case look => exact y5r he hR hk hv
  case upd => exact upd_sound he hR hk hv
  all_goals simp [chkH] at hk
theorem op_wp {C : Ctx} (hC : CallsOk P C.call) {o : Oper} {p : AOp} {x : Ex} {id : Nat} {H H' : Heap} {w : World} {K : Act → World → Prop} {Q : Exit → Act → World → Prop} (he : EnvRel Γ e a.tmps) (hR : Rel Γ H w) (hk : chkOp P p o.op = true)
    (hv : evalOp C e id H p = some (x, H')) (hok : ∀ v c w' Γ', x = .ok v → Rep Γ' v c → Rel Γ' H' w' → Stp Γ w Γ' w' → K (a.put o.dst c) w')
    (hpan : ∀ v c w' Γ', x = .pan v → Rep Γ' v c → Rel Γ' H' w' → Stp Γ w Γ' w' → Q (.panic [{ v := c, recovered := false }]) a w') : o.wp P a w K Q := by
  have done : ∀ v, x = .ok v → Done P o a w Γ v H' → o.wp P a w K Q := by
    rintro v hx ⟨nx, c, w', Γ', r1, r2, r3, r4, r5⟩
    unfold Oper.wp
    rw [r1]
    rcases r2 with rfl | ⟨rfl, rfl⟩
    · exact hok v c w' Γ' hx r3 r4 r5
    · exact hok v undef w' Γ' hx r3 r4 r5
  have called : ∀ (f : FuncId) (as : List AVal) (cs : Array Value) (raw : Bool), (execOp a.eval o).run P w = (callFunc f cs).run P w → callA C raw f as H = some (x, H') → Reps Γ as cs.toList → o.wp P a w K Q := by
    intro f as cs raw hrun hc hr
    obtain ⟨⟨fn, h1, h2, h3⟩, hcl⟩ := y5e hC hR hc hr
    unfold Oper.wp
    rw [hrun]
    have hn : fn.body.isNone = false := by
      cases hb : fn.body with
      | none => rw [hb] at h2; cases h2
      | some c => rfl
    have : (callFunc f cs).run P w = .ok (.enter f cs) w := by
      simp only [callFunc, Sem.run_bind, run_program, Result.andThen_ok, h1, h3, hn, Bool.false_eq_true, if_false, Sem.run_pure]
    rw [this, Oper.upon_enter]
    refine hcl.mono ?_
    rintro en w' ⟨Γ', r1, r2, r3⟩
    cases x with
    | ok v =>
      cases en <;> simp only [ExOk] at r3
      exact hok v _ w' Γ' rfl r3 r1 r2
    | pan v =>
      cases en <;> simp only [ExOk] at r3
      obtain ⟨c, rfl, hrep⟩ := r3
      exact hpan v c w' Γ' rfl hrep r1 r2
  unfold chkOp at hk
  unfold evalOp at hv
  split at hk
  · rename_i hkd
    rw [hkd] at hv
    simp only [okv] at hv
    split at hv <;> first | (cases hv; done) | skip
    rename_i v hv'
    cases hv
    obtain ⟨c, r1, r2⟩ := evP_sound (P := P) (w := w) he hkd hk hv'
    exact done v rfl (Done.same hR r1 r2)
  · rename_i hkd
    rw [hkd] at hv
    simp only at hv
    split at hv <;> first | (cases hv; done) | skip
    rename_i v B hv'
    split at hv <;> first | (cases hv; done) | skip
    rename_i H1 hn
    cases hv
    exact done v rfl (evN_sound he hR hk hv' hn)
  · rename_i hkd
    rw [hkd] at hv
    simp only at hv
    have hor := Bool.or_eq_true_iff.1 hk
    clear hk
    rcases hor with hk | hk
    · cases x with
      | ok v => exact done v rfl (evH_sound he hR hk hv)
      | pan v => exact absurd hv (evH_ok hk)
    · obtain ⟨dst, op, ty, pos, after, guard⟩ := o
      simp only at hk
      cases p <;> simp only [chkC, Bool.false_eq_true] at hk
      case call raw f args =>
        cases op <;> simp only [Bool.false_eq_true, Bool.and_eq_true] at hk
        rename_i c
        obtain ⟨hcal, hargs⟩ := hk
        simp only [evH] at hv
        split at hv <;> first | (cases hv; done) | skip
        rename_i vs hvs
        have hr := evs_reps he hargs hvs
        have hce : c.callee = .value (.func f) := by
          split at hcal
          · rename_i g hg; rw [hg]; have := of_decide_eq_true hcal; rw [this]
          · cases hcal
        refine called f vs (c.args.map a.eval) raw ?_ hv (by simpa using hr)
        simp [execOp, resolve, hce, Act.eval, Deferred.ofValue, invoke]
      case callv raw y args =>
        cases op <;> simp only [Bool.false_eq_true, Bool.and_eq_true] at hk
        rename_i c
        obtain ⟨hcal, hargs⟩ := hk
        simp only [evH] at hv
        split at hv <;> first | (cases hv; done) | skip
        rename_i f caps vs hy hvs
        have hr := evs_reps he hargs hvs
        split at hcal <;> first | (cases hcal; done) | skip
        rename_i y' hce
        obtain ⟨ds, hds, hcaps⟩ := (ev_rep he hcal hy).fn_inv
        refine called f (vs ++ caps) (c.args.map a.eval ++ ds.toArray) raw ?_ hv (by simpa using hr.append hcaps)
        simp [execOp, resolve, hce, hds, Deferred.ofValue, invoke]
      case panic y =>
        have hpn : ∃ y', chkO y y' = true ∧ (execOp a.eval { dst := dst, op := op, type := ty, pos := pos, after := after, guard := guard }).run P w = (do pure (Next.value (← Instr.panic (a.eval y'))) : Sem Next).run P w := by
          cases op <;> simp only [Bool.false_eq_true, Bool.and_eq_true] at hk
          case panic y' => exact ⟨y', hk, rfl⟩
          case call c =>
            obtain ⟨hcal, hargs⟩ := hk
            split at hcal <;> first | (cases hcal; done) | skip
            rename_i b hb
            have hb' := of_decide_eq_true hcal
            subst hb'
            obtain ⟨y', hy', hq⟩ := args1_eq hargs
            refine ⟨y', hq, ?_⟩
            have : c.args = #[y'] := by rw [ofToList c.args, hy']
            simp [execOp, resolve, hb, invoke, builtin, this]
        obtain ⟨y', hq, hrun⟩ := hpn
        simp only [evH] at hv
        split at hv <;> first | (cases hv; done) | skip
        rename_i t v hy
        simp only [Option.some.injEq, Prod.mk.injEq] at hv
        obtain ⟨rfl, rfl⟩ := hv
        have hrep := ev_rep he hq hy
        have hc : ∃ c, a.eval y' = .iface t c := by
          generalize a.eval y' = z at hrep
          cases hrep; exact ⟨_, rfl⟩
        obtain ⟨c, hc⟩ := hc
        unfold Oper.wp
        rw [hrun]
        have hrun2 : (do pure (Next.value (← Instr.panic (a.eval y'))) : Sem Next).run P w = .halt (.panic (a.eval y')) w := by
          rw [hc]
          simp [Instr.panic, goPanic]
        rw [hrun2, Oper.upon_panic]
        exact hpan _ _ w Γ rfl hrep hR (Stp.refl Γ w)
end
end Go.Ev
namespace Go.Ev
set_option linter.unusedVariables false
set_option linter.unusedSimpArgs false
open Go
structure St (Γ : Gh) (n : Nat) (e : Env) (H : Heap) (a : Act) (w : World) : Prop where
  env : EnvRel Γ e a.tmps
  rel : Rel Γ H w
  size : n ≤ a.tmps.size
  defers : a.defers = []
def chkDst (n : Nat) (d d' : Option Nat) : Bool :=
  decide (d = d') && match d with
    | some t => decide (t < n)
    | none => true
def chkG (ops : Array Oper) (g : Option (Nat × Bool)) (g' : Option (Nat × Bool)) : Bool :=
  match g, g' with
  | none, none => true
  | some (t, want), some (j, want') => decide (((ops[j]?).bind (·.dst)) = some t) && decide (want = want')
  | _, _ => false
def chkOper (P : Program) (n : Nat) (ops : Array Oper) (ao : AOper) (o : Oper) : Bool :=
  chkDst n ao.dst o.dst && chkG ops ao.guard o.guard && chkOp P ao.op o.op
def chkOps (P : Program) (n : Nat) (ops : Array Oper) : List AOper → List Oper → Bool
  | [], [] => true
  | ao :: l, o :: os => chkOper P n ops ao o && chkOps P n ops l os
  | _, _ => false
def ExitOk (Γ : Gh) : AEx → Exit → Prop
  | .norm, .normal => True
  | .exit i, .exit j => i = j
  | .ret, .ret => True
  | .pan v, .panic ch => ∃ c, ch = [{ v := c, recovered := false }] ∧ Rep Γ v c
  | _, _ => False
def QOk (Γ : Gh) (w : World) (n : Nat) (r : AEx × Env × Heap) : Exit → Act → World → Prop :=
  fun ex a' w' => ∃ Γ', Stp Γ w Γ' w' ∧ St Γ' n r.2.1 r.2.2 a' w' ∧ ExitOk Γ' r.1 ex
section
variable {P : Program} {Γ : Gh} {e : Env} {a : Act}
theorem Env.get_put (e : Env) (d : Option Nat) (v : AVal) (t : Nat) : (e.put d v).get t = if d = some t then some v else e.get t := by
  cases d with
  | none => simp [Env.put]
  | some d =>
    simp only [Env.put, Env.get, Option.some.injEq]
theorem chkDst_eq {n : Nat} {d d' : Option Nat} (h : chkDst n d d' = true) : d' = d ∧ ∀ t, d = some t → t < n := by
  simp only [chkDst, Bool.and_eq_true, decide_eq_true_eq] at h
  refine ⟨h.1.symm, ?_⟩
  intro t ht
  have := h.2
  rw [ht] at this
  simpa using this
theorem St.put {n : Nat} {H : Heap} {w : World} (hS : St Γ n e H a w) {d : Option Nat} (hd : ∀ t, d = some t → t < n) {v : AVal} {c : Value} (hr : Rep Γ v c) : St Γ n (e.put d v) H (a.put d c) w := by
  refine ⟨?_, hS.rel, ?_, ?_⟩
  · intro t u hu
    rw [Env.get_put] at hu
    cases d with
    | none => simp at hu; exact hS.env t u hu
    | some t0 =>
      have hlt := hd t0 rfl
      simp only [Option.some.injEq] at hu
      simp only [Act.put]
      split at hu
      · rename_i e; subst e; cases hu
        have : t0 < a.tmps.size := Nat.lt_of_lt_of_le hlt hS.size
        simpa [Array.getD_eq_getD_getElem?, Array.getElem?_setIfInBounds, this] using hr
      · rename_i ne
        have := hS.env t u hu
        simpa [Array.getD_eq_getD_getElem?, Array.getElem?_setIfInBounds, ne] using this
  · cases d <;> simp [Act.put, hS.size]
  · cases d <;> simp [Act.put, hS.defers]
theorem y1b {n : Nat} {H : Heap} {w : World} {ops : Array Oper} {ao : AOper} {o : Oper} (hS : St Γ n e H a w) (hg : chkG ops ao.guard o.guard = true) {b : Bool} (hw : wantedA e ao.guard = some b) :
    Region.wanted o (yielded ops a.tmps) = b := by
  obtain ⟨dst, op, ty, pos, after, guard⟩ := o
  obtain ⟨ad, aop, ag⟩ := ao
  simp only at hg hw
  cases ag with
  | none =>
    cases guard <;> simp [chkG] at hg
    simp [wantedA] at hw
    subst hw
    rfl
  | some g =>
    obtain ⟨t, want⟩ := g
    cases guard with
    | none => simp [chkG] at hg
    | some g' =>
      obtain ⟨j, want'⟩ := g'
      simp only [chkG, Bool.and_eq_true, decide_eq_true_eq] at hg
      obtain ⟨hj, rfl⟩ := hg
      simp only [wantedA] at hw
      simp only [Region.wanted, yielded, hj, Option.bind_some]
      split at hw <;> first | (cases hw; done) | skip
      · rename_i x hx
        cases hw
        have := (hS.env t _ hx).bool_inv
        have h2 : a.tmps[t]? = some (.bool x) := by
          rw [Array.getD_eq_getD_getElem?] at this
          cases h3 : a.tmps[t]? with
          | none => rw [h3] at this; cases this
          | some v => rw [h3] at this; simpa using this
        simp only [h2]
        cases x <;> cases want <;> rfl
      · rename_i hx
        cases hw
        obtain ⟨ds, hds, hl⟩ := (hS.env t _ hx).tup_inv
        rw [Array.getD_eq_getD_getElem?] at hds
        cases h3 : a.tmps[t]? with
        | none => rfl
        | some v =>
          rw [h3] at hds
          simp at hds
          subst hds
          rfl
theorem St.mono {n : Nat} {H H' : Heap} {Γ' : Gh} {w w' : World} (hS : St Γ n e H a w) (hst : Stp Γ w Γ' w') (hR : Rel Γ' H' w') : St Γ' n e H' a w' :=
  ⟨hS.env.mono hst.le, hR, hS.size, hS.defers⟩
theorem ops_wp {C : Ctx} (hC : CallsOk P C.call) {n : Nat} {ops : Array Oper} : ∀ (l : List AOper) (os : List Oper) (i : Nat), ops.toList.drop i = os → chkOps P n ops l os = true →
    ∀ (Γ0 : Gh) (w0 : World) (Γ : Gh) (e : Env) (H : Heap) (a : Act) (w : World) (r : AEx × Env × Heap), St Γ n e H a w → Stp Γ0 w0 Γ w → evalOps C l e H = some r → wpOps P ops (QOk Γ0 w0 n r) (List.range' i os.length) a w := by
  intro l
  induction l with
  | nil =>
    intro os i hos hk Γ0 w0 Γ e H a w r hS hst hv
    cases os with
    | cons => simp [chkOps] at hk
    | nil =>
      simp [evalOps] at hv
      subst hv
      simp only [List.length_nil, List.range'_zero, wpOps]
      exact ⟨Γ, hst, hS, trivial⟩
  | cons ao l ih =>
    intro os i hos hk Γ0 w0 Γ e H a w r hS hst hv
    cases os with
    | nil => simp [chkOps] at hk
    | cons o os =>
      simp only [chkOps, Bool.and_eq_true] at hk
      obtain ⟨hko, hkr⟩ := hk
      simp only [chkOper, Bool.and_eq_true] at hko
      obtain ⟨⟨hd, hg⟩, hop⟩ := hko
      obtain ⟨hd1, hd2⟩ := chkDst_eq hd
      have hoi : ops[i]? = some o := by
        have : (ops.toList.drop i)[0]? = some o := by rw [hos]; rfl
        simpa using this
      have hos' : ops.toList.drop (i + 1) = os := by
        rw [← List.drop_drop, hos]; rfl
      simp only [List.length_cons, List.range'_succ, wpOps, hoi]
      simp only [evalOps] at hv
      split at hv <;> first | (cases hv; done) | skip
      · rename_i hw
        rw [y1b hS hg hw]
        simp only [if_true]
        left
        split at hv <;> first | (cases hv; done) | skip
        · rename_i v H' hev
          refine op_wp hC hS.env hS.rel hop hev ?_ ?_
          · intro v' c w' Γ' hx hrep hR hst'
            cases hx
            rw [hd1]
            exact ih os (i + 1) hos' hkr Γ0 w0 Γ' _ _ _ _ r ((hS.mono hst' hR).put hd2 hrep) (hst.trans hst') hv
          · intro v' c w' Γ' hx; cases hx
        · rename_i v H' hev
          cases hv
          refine op_wp hC hS.env hS.rel hop hev ?_ ?_
          · intro v' c w' Γ' hx; cases hx
          · intro v' c w' Γ' hx hrep hR hst'
            cases hx
            exact ⟨Γ', hst.trans hst', hS.mono hst' hR, c, rfl, hrep⟩
      · rename_i hw
        rw [y1b hS hg hw]
        simp only [Bool.false_eq_true, if_false]
        rw [hd1]
        exact ih os (i + 1) hos' hkr Γ0 w0 Γ _ _ _ _ r (hS.put hd2 (rep_undef Γ)) hst hv
theorem reg_wp {C : Ctx} (hC : CallsOk P C.call) {n id : Nat} {ops : Array Oper} {l : List AOper} {H : Heap} {w : World} {r : AEx × Env × Heap} (hk : chkOps P n ops l ops.toList = true) (hS : St Γ n e H a w) (hv : evalOps C l e H = some r) :
    (Code.region id ops false).wp P (QOk Γ w n r) a w := by
  refine wp_region ?_
  have := ops_wp hC l ops.toList 0 (by simp) hk Γ w Γ e H a w r hS (Stp.refl Γ w) hv
  rw [List.range_eq_range']
  simpa using this
theorem y3s {n m : Nat} {Γ0 : Gh} {H0 H : Heap} {w0 w : World} (hR0 : Rel Γ0 H0 w0) (hm : H0.length = m) (hS : St Γ n e H a w) (hst : Stp Γ0 w0 Γ w) :
    ∃ Γ', St Γ' n e (trunc m e H) a w ∧ Stp Γ0 w0 Γ' w := by
  unfold trunc
  split
  · exact ⟨Γ, hS, hst⟩
  · rename_i hlen
    split
    · rename_i hlow
      simp only [Bool.and_eq_true] at hlow
      obtain ⟨hE, hH⟩ := hlow
      obtain ⟨r1, r2⟩ := hR0.cutv hm hS.rel hst hH
      exact ⟨Γ.cut m, ⟨fun t v hv => (hS.env t v hv).cut (lowE_get hE hv), r1, hS.size, hS.defers⟩, r2⟩
    · exact ⟨Γ, hS, hst⟩
theorem restr_get : ∀ (ks : List Nat) (t : Nat) (v : AVal), (restr e ks).get t = some v → e.get t = some v
  | [], t, v, h => by simp [restr, Env.get] at h
  | k :: ks, t, v, h => by
    simp only [restr] at h
    split at h
    · rename_i u hu
      simp only [Env.get] at h
      split at h
      · rename_i hk; cases h; rw [← hk]; exact hu
      · exact restr_get ks t v h
    · exact restr_get ks t v h
theorem St.restr {n : Nat} {H : Heap} {w : World} (hS : St Γ n e H a w) (keep : List Nat) : St Γ n (Ev.restr e keep) H a w :=
  ⟨fun t v hv => hS.env t v (restr_get keep t v hv), hS.rel, hS.size, hS.defers⟩
def Gh.laid (Γ : Gh) (b l : Nat) (c : Value) : Gh := { Γ with T := fun o k => if o = b ∧ k = l then some c else Γ.T o k }
theorem Rel.list {es0 : Nat} {H : Heap} {w : World} {xs : List AVal} {c : Value} (hR : Rel Γ H w) (hr : Rep Γ (.lst xs true) c) :
    Rel (Γ.laid H.length xs.length c) (H ++ [.grow es0 xs none]) w ∧ Stp Γ w (Γ.laid H.length xs.length c) w ∧ Rep (Γ.laid H.length xs.length c) (.gl H.length xs.length) c := by
  have hT := fun l => (hR.dom H.length (Nat.le_refl _)).2 l
  have hle : Γ.le (Γ.laid H.length xs.length c) := by
    refine ⟨fun _ _ _ h => h, fun _ _ h => h, ?_⟩
    intro o l d h
    simp only [Gh.laid]
    rw [if_neg ?_]; exact h
    rintro ⟨rfl, rfl⟩
    rw [hT] at h; cases h
  have hnew : (Γ.laid H.length xs.length c).T H.length xs.length = some c := by simp [Gh.laid]
  refine ⟨⟨hR.mem, ?_, ?_, hR.owned⟩, ⟨hle, fun _ _ h => h, fun _ _ _ _ => rfl, Nat.le_refl _, fun _ _ _ => rfl, rfl, rfl, rfl⟩, ?_⟩
  · intro b B hb
    by_cases hbl : b < H.length
    · rw [List.getElem?_append_left hbl] at hb
      refine (hR.blk b B hb).step hle ?_ ⟨rfl, ?_⟩
      · intro g hg; exact ⟨hg, rfl, fun _ => rfl⟩
      · intro l; simp only [Gh.laid]; rw [if_neg (by rintro ⟨h, _⟩; omega)]
    · rw [List.getElem?_append_right (by omega)] at hb
      have hb0 : b = H.length := by
        have := (List.getElem?_eq_some_iff.1 hb).1
        simp at this; omega
      subst hb0
      simp at hb
      subst hb
      refine ⟨c, hnew, ?_, ?_, .inl ⟨rfl, hr.mono hle⟩⟩
      · intro l hl
        simp only [Gh.laid]
        rw [if_neg (by rintro ⟨_, h⟩; omega)]; exact hT l
      · rcases hr.lst_inv with ⟨rfl, _⟩ | ⟨g, off, cap, es, f, h1, h2, h3, h4, h5, _⟩
        · simp
        · exact h5
  · intro b hb
    simp at hb
    obtain ⟨h1, h2⟩ := hR.dom b (by omega)
    refine ⟨h1, fun l => ?_⟩
    simp only [Gh.laid]; rw [if_neg (by rintro ⟨h, _⟩; omega)]; exact h2 l
  · rcases hr.lst_inv with ⟨rfl, base, cap, rfl, hE⟩ | ⟨g, off, cap, es, f, rfl, h2, h3, h4, h5, _⟩
    · exact .gl hnew (by simp)
    · exact .gl hnew (fun _ => rfl)
theorem Rel.relist0 {es0 es1 b : Nat} {op : Option Nat} {H : Heap} {w : World} {xs ys : List AVal} {c : Value} (hR : Rel Γ H w) (hb : H[b]? = some (.grow es1 xs op)) (hl : xs.length < ys.length) (hr : Rep Γ (.lst ys true) c) :
    Rel (Γ.laid b ys.length c) (H.set b (.grow es0 ys none)) w ∧ Stp Γ w (Γ.laid b ys.length c) w ∧ Rep (Γ.laid b ys.length c) (.gl b ys.length) c := by
  have hlt : b < H.length := (List.getElem?_eq_some_iff.1 hb).1
  have hT : ∀ l, xs.length < l → Γ.T b l = none := by
    obtain ⟨_, _, h, _⟩ := hR.blk b _ hb
    exact h
  have hle : Γ.le (Γ.laid b ys.length c) := by
    refine ⟨fun _ _ _ h => h, fun _ _ h => h, ?_⟩
    intro o l d h
    simp only [Gh.laid]
    rw [if_neg ?_]; exact h
    rintro ⟨rfl, rfl⟩
    rw [hT _ hl] at h; cases h
  have hnew : (Γ.laid b ys.length c).T b ys.length = some c := by simp [Gh.laid]
  refine ⟨⟨hR.mem, ?_, ?_, hR.owned⟩, ⟨hle, fun _ _ h => h, fun _ _ _ _ => rfl, Nat.le_refl _, fun _ _ _ => rfl, rfl, rfl, rfl⟩, ?_⟩
  · intro k B hk
    by_cases hkb : k = b
    · subst hkb
      rw [List.getElem?_set_self hlt] at hk
      cases hk
      refine ⟨c, hnew, ?_, ?_, .inl ⟨rfl, hr.mono hle⟩⟩
      · intro l h2
        simp only [Gh.laid]
        rw [if_neg (by rintro ⟨_, h⟩; omega)]; exact hT l (by omega)
      · rcases hr.lst_inv with ⟨rfl, _⟩ | ⟨g, off, cap, es, f, h1, h2, h3, h4, h5, _⟩
        · simp
        · exact h5
    · rw [List.getElem?_set_ne (Ne.symm hkb)] at hk
      refine (hR.blk k B hk).step hle ?_ ⟨rfl, ?_⟩
      · intro g hg; exact ⟨hg, rfl, fun _ => rfl⟩
      · intro l; simp only [Gh.laid]; rw [if_neg (by rintro ⟨h, _⟩; exact hkb h)]
  · intro k hk
    rw [List.length_set] at hk
    obtain ⟨h1, h2⟩ := hR.dom k hk
    refine ⟨h1, fun l => ?_⟩
    simp only [Gh.laid]; rw [if_neg (by rintro ⟨h, _⟩; omega)]; exact h2 l
  · rcases hr.lst_inv with ⟨rfl, base, cap, rfl, hE⟩ | ⟨g, off, cap, es, f, rfl, h2, h3, h4, h5, _⟩
    · exact .gl hnew (by simp)
    · exact .gl hnew (fun _ => rfl)
def Gh.moved (Γ : Gh) (b b' l : Nat) (c : Value) : Gh := { Γ with T := fun o k => if o = b ∧ k = l then some c else Γ.T o k, own := fun k => if Γ.own k = some b' then some b else Γ.own k }
theorem Rel.relist {es es1 b b' : Nat} {op op1 : Option Nat} {H : Heap} {w : World} {xs ys : List AVal} {c : Value} (hR : Rel Γ H w) (hb : H[b]? = some (.grow es1 xs op1)) (hb' : H[b']? = some (.grow es ys op)) (hne : b ≠ b')
    (hl : xs.length < ys.length) (hr : Rep Γ (.gl b' ys.length) c) :
    Rel (Γ.moved b b' ys.length c) ((H.set b (.grow es ys op)).set b' .dead) w ∧ Stp Γ w (Γ.moved b b' ys.length c) w ∧ Rep (Γ.moved b b' ys.length c) (.gl b ys.length) c := by
  have hlt : b < H.length := (List.getElem?_eq_some_iff.1 hb).1
  have hlt' : b' < H.length := (List.getElem?_eq_some_iff.1 hb').1
  have hT : ∀ l, xs.length < l → Γ.T b l = none := by
    obtain ⟨_, _, h, _⟩ := hR.blk b _ hb
    exact h
  have hle : Γ.le (Γ.moved b b' ys.length c) := by
    refine ⟨fun _ _ _ h => h, fun _ _ h => h, ?_⟩
    intro o l d h
    simp only [Gh.moved]
    rw [if_neg ?_]; exact h
    rintro ⟨rfl, rfl⟩
    rw [hT _ hl] at h; cases h
  have hnew : (Γ.moved b b' ys.length c).T b ys.length = some c := by simp [Gh.moved]
  have hgl : Γ.T b' ys.length = some c ∧ ∃ a len cap, c = .slice a len cap ∧ len = ys.length ∧ (0 < ys.length → a.isSome = true) := by
    cases hr with
    | gl h1 h2 => exact ⟨h1, _, _, _, rfl, rfl, h2⟩
  obtain ⟨hc, a, len, cap, rfl, rfl, ha⟩ := hgl
  refine ⟨⟨hR.mem, ?_, ?_, ?_⟩, ⟨hle, ?_, fun _ _ _ _ => rfl, Nat.le_refl _, fun _ _ _ => rfl, rfl, rfl, rfl⟩, .gl hnew ha⟩
  · intro k B hk
    by_cases hkb' : k = b'
    · subst hkb'
      rw [List.getElem?_set_self (by simpa using hlt')] at hk
      cases hk
      trivial
    rw [List.getElem?_set_ne (Ne.symm hkb')] at hk
    by_cases hkb : k = b
    · subst hkb
      rw [List.getElem?_set_self hlt] at hk
      cases hk
      obtain ⟨c1, h1, h2, h3, h4⟩ := hR.blk b' _ hb'
      rw [hc] at h1
      cases h1
      refine ⟨_, hnew, ?_, h3, ?_⟩
      · intro l h5
        simp only [Gh.moved]
        rw [if_neg (by rintro ⟨_, h⟩; omega)]; exact hT l (by omega)
      · rcases h4 with ⟨h5, h6⟩ | ⟨g, cap1, cs, ty, k1, k2, k3, k4, k5, k6, k7, k8, k9⟩
        · exact .inl ⟨h5, h6.mono hle⟩
        · exact .inr ⟨g, cap1, cs, ty, k1, by simp only [Gh.moved]; rw [if_pos k2], k3, k4, k5, k6, k7, k8.mono hle, k9⟩
    · rw [List.getElem?_set_ne (Ne.symm hkb)] at hk
      refine (hR.blk k B hk).step hle ?_ ⟨rfl, ?_⟩
      · intro g hg
        refine ⟨?_, rfl, fun _ => rfl⟩
        simp only [Gh.moved]
        rw [if_neg (by rw [hg]; rintro h; cases h; exact hkb' rfl)]; exact hg
      · intro l; simp only [Gh.moved]; rw [if_neg (by rintro ⟨h, _⟩; exact hkb h)]
  · intro k hk
    rw [List.length_set, List.length_set] at hk
    obtain ⟨h1, h2⟩ := hR.dom k hk
    refine ⟨h1, fun l => ?_⟩
    simp only [Gh.moved]; rw [if_neg (by rintro ⟨h, _⟩; omega)]; exact h2 l
  · intro g k hg
    simp only [Gh.moved] at hg
    split at hg
    · rename_i h; exact hR.owned g b' h
    · exact hR.owned g k hg
  · intro g hg ho
    simp only [Gh.moved]
    rw [if_neg (by rw [ho]; simp)]; exact ho
theorem own_sound {n t : Nat} {off : Option Nat} {H : Heap} {w : World} (hS : St Γ n e H a w) : ∃ Γ', St Γ' n (ownA t off e H).1 (ownA t off e H).2 a w ∧ Stp Γ w Γ' w := by
  unfold ownA
  split
  · rename_i xs ht
    obtain ⟨r1, r2, r3⟩ := hS.rel.list (es0 := widthL xs) (hS.env t _ ht)
    refine ⟨_, ⟨?_, r1, hS.size, hS.defers⟩, r2⟩
    intro u v hv
    simp only [Env.get] at hv
    split at hv
    · rename_i hu; cases hv; rw [← hu]; exact r3
    · exact (hS.env u v hv).mono r2.le
  · rename_i k b o ht
    split
    · rename_i vs hb
      split
      · rename_i xs hx
        obtain ⟨g, cs, ty, h1, h2, h3, h4, h5, h6⟩ := hS.rel.cells hb
        obtain ⟨c, hc, hrep⟩ := h5.get hx
        obtain ⟨r1, r2, r3⟩ := hS.rel.list (es0 := widthL xs) hrep
        have hbl : b < H.length := (List.getElem?_eq_some_iff.1 hb).1
        refine ⟨_, ⟨hS.env.mono r2.le, ⟨r1.mem, ?_, ?_, r1.owned⟩, hS.size, hS.defers⟩, r2⟩
        · intro b' B hb'
          by_cases hbb : b' = b
          · subst hbb
            rw [List.getElem?_append_left (by simpa using hbl), List.getElem?_set_self hbl] at hb'
            cases hb'
            have hB := r1.blk b' (.cells vs) (by rw [List.getElem?_append_left hbl]; exact hb)
            obtain ⟨g', cs', ty', k1, k2, k3, k4, k5, k6⟩ := hB
            have e1 : g' = g := by
              have := r2.le.mu b' g h1
              rw [k1] at this; cases this; rfl
            subst e1
            rw [h3] at k3; cases k3
            refine ⟨g', cs, ty, k1, k2, h3, k4, ?_, k6⟩
            have := k5.set r3 (o + k)
            have hset : cs.toList.set (o + k) c = cs.toList := by
              apply List.ext_getElem?
              intro j
              rw [List.getElem?_set]
              split
              · rename_i hj; subst hj
                rw [hc]
                rw [if_pos (List.getElem?_eq_some_iff.1 hc).1]
              · rfl
            rw [hset] at this
            exact this
          · have : (H.set b (.cells (vs.set (o + k) (.gl H.length xs.length))) ++ [ABlock.grow (widthL xs) xs none])[b']? = (H ++ [ABlock.grow (widthL xs) xs none])[b']? := by
              by_cases hl : b' < H.length
              · rw [List.getElem?_append_left (by simpa using hl), List.getElem?_append_left hl, List.getElem?_set_ne (fun h => hbb h.symm)]
              · rw [List.getElem?_append_right (by simpa using Nat.le_of_not_lt hl), List.getElem?_append_right (by omega)]
                simp
            rw [this] at hb'
            exact r1.blk b' B hb'
        · intro b' hb'
          exact r1.dom b' (by simpa using hb')
      · exact ⟨Γ, hS, Stp.refl Γ w⟩
    · exact ⟨Γ, hS, Stp.refl Γ w⟩
  · rename_i s ys ht
    split
    · split
      · rename_i b m hs es1 xs op hb
        split
        · rename_i hl
          obtain ⟨r1, r2, r3⟩ := hS.rel.relist0 (es0 := widthL ys) hb hl (hS.env t _ ht)
          refine ⟨_, ⟨?_, r1, hS.size, hS.defers⟩, r2⟩
          intro u v hv
          simp only [Env.get] at hv
          split at hv
          · rename_i hu; cases hv; rw [← hu]; exact r3
          · exact (hS.env u v hv).mono r2.le
        · exact ⟨Γ, hS, Stp.refl Γ w⟩
      · exact ⟨Γ, hS, Stp.refl Γ w⟩
    · exact ⟨Γ, hS, Stp.refl Γ w⟩
  · rename_i s b' n' ht
    split
    · rename_i b m hs
      split
      · rename_i es1 xs op1 es ys op hb hb'
        split
        · rename_i hl
          obtain ⟨hl1, rfl, hl2⟩ := hl
          obtain ⟨r1, r2, r3⟩ := hS.rel.relist hb hb' hl1 hl2 (hS.env t _ ht)
          refine ⟨_, ⟨?_, r1, hS.size, hS.defers⟩, r2⟩
          intro u v hv
          simp only [Env.get] at hv
          split at hv
          · rename_i hu; cases hv; rw [← hu]; exact r3
          · exact (hS.env u v hv).mono r2.le
        · exact ⟨Γ, hS, Stp.refl Γ w⟩
      · exact ⟨Γ, hS, Stp.refl Γ w⟩
    · exact ⟨Γ, hS, Stp.refl Γ w⟩
  · exact ⟨Γ, hS, Stp.refl Γ w⟩
theorem y4i {H : Heap} {w : World} (hR : Rel Γ H w) {v v' : AVal} {c : Value} (hv : frzV H v = some v') (hr : Rep Γ v c) : Rep Γ v' c := by
  cases v <;> simp only [frzV, reduceCtorEq] at hv <;> exact (y3t hR hv hr).1
theorem frz_sound {n t : Nat} {off : Option Nat} {H : Heap} {w : World} (hS : St Γ n e H a w) : St Γ n (frzA t off e H).1 (frzA t off e H).2 a w := by
  unfold frzA
  split
  · rename_i v ht
    split
    · rename_i v' hv
      refine ⟨?_, hS.rel, hS.size, hS.defers⟩
      intro u x hx
      simp only [Env.get] at hx
      split at hx
      · rename_i hu; cases hx; rw [← hu]; exact y4i hS.rel hv (hS.env t _ ht)
      · exact hS.env u x hx
    · exact hS
  · rename_i k b o ht
    split
    · rename_i vs hb
      split
      · rename_i v hx
        split
        · rename_i v' hv
          obtain ⟨g, cs, ty, h1, h2, h3, h4, h5, h6⟩ := hS.rel.cells hb
          obtain ⟨c, hc, hrep⟩ := h5.get hx
          have r3 := y4i hS.rel hv hrep
          have hbl : b < H.length := (List.getElem?_eq_some_iff.1 hb).1
          refine ⟨hS.env, ⟨hS.rel.mem, ?_, ?_, hS.rel.owned⟩, hS.size, hS.defers⟩
          · intro b' B hb'
            by_cases hbb : b' = b
            · subst hbb
              rw [List.getElem?_set_self hbl] at hb'
              cases hb'
              refine ⟨g, cs, ty, h1, h2, h3, h4, ?_, h6⟩
              have := h5.set r3 (o + k)
              have hset : cs.toList.set (o + k) c = cs.toList := by
                apply List.ext_getElem?
                intro j
                rw [List.getElem?_set]
                split
                · rename_i hj; subst hj
                  rw [hc]
                  rw [if_pos (List.getElem?_eq_some_iff.1 hc).1]
                · rfl
              rw [hset] at this
              exact this
            · rw [List.getElem?_set_ne (fun h => hbb h.symm)] at hb'
              exact hS.rel.blk b' B hb'
          · intro b' hb'
            exact hS.rel.dom b' (by simpa using hb')
        · exact hS
      · exact hS
    · exact hS
  · exact hS
theorem y37 {n : Nat} {w : World} : ∀ (l : List (Nat × Option Nat)) {e : Env} {H : Heap}, St Γ n e H a w → St Γ n (frzAll l e H).1 (frzAll l e H).2 a w
  | [], _, _, h => h
  | p :: r, _, _, h => y37 r (frz_sound h)
theorem Rel.shutl {H : Heap} {w : World} {o es f : Nat} {xs : List AVal} (hR : Rel Γ H w) (hb : H[o]? = some (.grow es xs (some f))) : ∃ Γ', Rel Γ' (H.set o (.grow es xs none)) w ∧ Stp Γ w Γ' w := by
  obtain ⟨c', k1, k0, k2, k3⟩ := hR.blk _ _ hb
  rcases k3 with ⟨hbad, _⟩ | ⟨g, cap, cs, ty, rfl, e2, e3, e4, e5, e6, e7, e8, e9, e10, e11, e12⟩
  · cases hbad
  · simp only [Option.getD_some] at e10 e11 e12
    have hle : Γ.le (Γ.shutM g (xs.length * es) cs) := by
      refine ⟨?_, fun _ _ h => h, fun _ _ _ h => h⟩
      intro k j c hm
      simp only [Gh.shutM]
      split
      · rename_i ek; subst ek
        by_cases hj : j < f * es
        · have hfi' : f * es ≤ xs.length * es := Nat.mul_le_mul_right _ e10
          rw [if_pos (by omega), ← e11 j hj]
          exact hm
        · rw [e12 j (by omega)] at hm; cases hm
      · exact hm
    obtain ⟨r1, r2⟩ := hR.write (Γ' := Γ.shutM g (xs.length * es) cs) (B := .grow es xs none) (o := .cells cs ty) (w' := w) hb e2 hle (fun _ => rfl) (fun _ _ => ⟨rfl, fun _ => rfl⟩)
      (fun k j hk => by simp [Gh.shutM, hk]) e3 (fun k hk => rfl) rfl rfl rfl rfl
      (fun j c hm => by
        simp only [Gh.shutM, if_true] at hm
        rw [cell_at e3]
        split at hm
        · exact hm
        · cases hm)
      ⟨_, k1, k0, k2, .inr ⟨g, cap, cs, ty, rfl, e2, e3, e4, e5, e6, e7, e8.mono hle, e9, by simp, fun j hj => by simp at hj; simp [Gh.shutM, hj], fun j hj => by simp at hj; simp [Gh.shutM]; omega⟩⟩
    exact ⟨_, r1, r2⟩
theorem y5p {n t : Nat} {off : Option Nat} {H : Heap} {w : World} (hS : St Γ n e H a w) : ∃ Γ', St Γ' n e (sealA t off e H) a w ∧ Stp Γ w Γ' w := by
  unfold sealA
  split
  · split
    · rename_i hb
      split
      · obtain ⟨Γ', r1, r2⟩ := hS.rel.shutl hb
        exact ⟨Γ', ⟨hS.env.mono r2.le, r1, hS.size, hS.defers⟩, r2⟩
      · exact ⟨Γ, hS, Stp.refl Γ w⟩
    · exact ⟨Γ, hS, Stp.refl Γ w⟩
  · exact ⟨Γ, hS, Stp.refl Γ w⟩
theorem wp_loop_n {c : Code} {Q : Exit → Act → World → Prop} (I : Nat → Act → World → Prop) (no : ∀ a w, ¬ I 0 a w)
    (round : ∀ n a w, I (n + 1) a w → c.wp P (Exit.then (I n) Q) a w) (n : Nat) {w : World} (h : I n a w) : (Code.loop c).wp P Q a w := by
  intro b k cs
  have key : ∀ n a w, I n a w → ∃ e a' w', Q e a' w' ∧ Arrives P (lone (b.at a (.code c :: .inLoop c :: k)) cs w) b k cs e a' w' := by
    intro n
    induction n with
    | zero => intro a w hI; exact absurd hI (no a w)
    | succ n ih =>
      intro a w hI
      obtain ⟨e, a₁, w₁, hq, harr⟩ := round n a w hI b (.inLoop c :: k) cs
      cases e with
      | normal =>
        obtain ⟨e₂, a₂, w₂, hq₂, harr₂⟩ := ih a₁ w₁ hq
        exact ⟨e₂, a₂, w₂, hq₂, .of_steps (Steps.trans harr (.one step_inLoop)) harr₂⟩
      | exit id => exact ⟨_, a₁, w₁, hq, .pass (x := .inLoop c) rfl (fun _ _ => .inl (by simp)) harr⟩
      | goto l => exact ⟨_, a₁, w₁, hq, .pass (x := .inLoop c) rfl (fun _ _ => .inl (by simp)) harr⟩
      | ret => exact ⟨_, a₁, w₁, hq, .pass (x := .inLoop c) rfl (fun _ _ => .inl (by simp)) harr⟩
      | panic ch => exact ⟨_, a₁, w₁, hq, .pass (x := .inLoop c) rfl (fun _ _ => .inl (by simp)) harr⟩
      | outgrown => exact ⟨_, a₁, w₁, hq, .pass (x := .inLoop c) rfl (fun _ _ => .inl (by simp)) harr⟩
  obtain ⟨e, a', w', hq, harr⟩ := key n a w h
  exact ⟨e, a', w', hq, .of_steps (.one step_loop) harr⟩
end
end Go.Ev
namespace Go.Ev
set_option linter.unusedVariables false
set_option linter.unusedSimpArgs false
open Go
def AOpd.on (S : Nat → Bool) : AOpd → Bool
  | .t n => S n
  | .c _ => true
def optOn (S : Nat → Bool) : Option AOpd → Bool
  | none => true
  | some x => x.on S
def allOn (S : Nat → Bool) : List AOpd → Bool
  | [] => true
  | x :: xs => x.on S && allOn S xs
def partsOn (S : Nat → Bool) : List (Nat × Nat × AOpd) → Bool
  | [] => true
  | (_, _, x) :: xs => x.on S && partsOn S xs
def partsOn' (S : Nat → Bool) : List (Nat × AOpd) → Bool
  | [] => true
  | (_, x) :: xs => x.on S && partsOn' S xs
def AOp.on (S : Nat → Bool) : AOp → Bool
  | .mv x => x.on S
  | .pick c a b => c.on S && a.on S && b.on S
  | .bin _ x y => x.on S && y.on S
  | .eqv _ _ x y => x.on S && y.on S
  | .isnil _ _ x => x.on S
  | .un _ x => x.on S
  | .cvi _ x => x.on S
  | .cvs x => x.on S
  | .mki _ x => x.on S
  | .mkf _ caps => allOn S caps
  | .fld _ _ x => x.on S
  | .ixs x i => x.on S && i.on S
  | .ixa _ _ _ x i => x.on S && i.on S
  | .fa _ x => x.on S
  | .nc x => x.on S
  | .iaa _ _ x i => x.on S && i.on S
  | .ext _ x => x.on S
  | .build _ parts => partsOn S parts
  | .mm _ x y => x.on S && y.on S
  | .slcs x lo hi => x.on S && optOn S lo && optOn S hi
  | .alloc _ => true
  | .box x => x.on S
  | .mks _ _ _ _ l c => l.on S && c.on S
  | .mkm => true
  | .ia _ x i => x.on S && i.on S
  | .bsl _ _ _ parts => partsOn' S parts
  | .lds x => x.on S
  | .lda _ x => x.on S
  | .sts x v => x.on S && v.on S
  | .sta _ x v => x.on S && v.on S
  | .stk _ x v => x.on S && v.on S
  | .slc _ x lo hi mx => x.on S && optOn S lo && optOn S hi && optOn S mx
  | .slca _ _ _ x lo hi mx => x.on S && optOn S lo && optOn S hi && optOn S mx
  | .len _ x => x.on S
  | .cap x => x.on S
  | .app _ _ _ s x => s.on S && x.on S
  | .appz _ _ _ s n => s.on S && n.on S
  | .copy _ d s => d.on S && s.on S
  | .clear _ _ x => x.on S
  | .b2s x => x.on S
  | .s2b x => x.on S
  | .call _ _ args => allOn S args
  | .callv _ x args => x.on S && allOn S args
  | .look _ _ _ m k => m.on S && k.on S
  | .upd _ m k v => m.on S && k.on S && v.on S
  | .panic x => x.on S
def guardOn (S : Nat → Bool) : Option (Nat × Bool) → Bool
  | none => true
  | some (t, _) => S t
def AOper.on (S : Nat → Bool) (o : AOper) : Bool := o.op.on S && guardOn S o.guard
def notDst (d : Option Nat) (t : Nat) : Bool := match d with
  | some d => !Nat.beq d t
  | none => true
def regOk (x y : AOper) : Bool :=
  y.on (notDst x.dst) && x.on (notDst y.dst) && match x.dst with
    | some d => notDst y.dst d
    | none => true
def edgeOn (x : Oper) (o : Nat) : Bool := x.after.toList.any fun e => Region.binds .any e && Nat.beq e.on o
def depOk (x : Oper) (ds : List (List Nat)) (o : Nat) : Bool :=
  edgeOn x o || x.after.toList.any fun e => Region.binds .any e && match ds[e.on]? with
    | some d => !notIn o d
    | none => false
def allDeps (x : Oper) (ds : List (List Nat)) : List Nat → Bool
  | [] => true
  | o :: os => depOk x ds o && allDeps x ds os
def pairsOk (y : AOper) (deps : List Nat) : Nat → List (AOper × Nat × List Nat) → Bool
  | _, [] => true
  | o, x :: xs => (!notIn o deps || regOk x.1 y) && pairsOk y deps (o + 1) xs
def chkDrawL (i : Nat) (pre : List (AOper × Nat × List Nat)) (ds : List (List Nat)) : List (AOper × Nat × List Nat) → List Oper → Bool
  | [], [] => true
  | p :: ps, o :: os => (o.after.toList.all fun e => !Region.binds .any e || Nat.blt e.on i) && allDeps o ds p.2.2 && pairsOk p.1 p.2.2 0 pre && chkDrawL (i + 1) (pre ++ [p]) (ds ++ [p.2.2]) ps os
  | _, _ => false
def chkDraw (P : Program) (n : Nat) (l : List (AOper × Nat × List Nat)) (ops : Array Oper) : Bool :=
  chkOps P n ops (l.map (·.1)) ops.toList && chkDrawL 0 [] [] l ops.toList
def Agree (S : Nat → Bool) (e e' : Env) : Prop := ∀ t, S t = true → e.get t = e'.get t
section
variable {S : Nat → Bool} {e e' : Env}
theorem ev_on (hA : Agree S e e') {x : AOpd} (h : x.on S = true) : x.ev e = x.ev e' := by
  cases x with
  | t n => exact hA n h
  | c v => rfl
theorem optEv_on (hA : Agree S e e') {x : Option AOpd} (h : optOn S x = true) : optEv e x = optEv e' x := by
  cases x with
  | none => rfl
  | some x => simp only [optEv, ev_on hA (x := x) h]
theorem evs_on (hA : Agree S e e') : ∀ {xs : List AOpd}, allOn S xs = true → evs e xs = evs e' xs
  | [], _ => rfl
  | x :: xs, h => by
    simp only [allOn, Bool.and_eq_true] at h
    simp only [evs, ev_on hA h.1, evs_on hA h.2]
theorem buildA_on (hA : Agree S e e') : ∀ {ps : List (Nat × Nat × AOpd)} {cs : List AVal}, partsOn S ps = true → buildA e ps cs = buildA e' ps cs
  | [], _, _ => rfl
  | (off, sz, x) :: ps, cs, h => by
    simp only [partsOn, Bool.and_eq_true] at h
    simp only [buildA, ev_on hA h.1]
    split
    · split
      · exact buildA_on hA h.2
      · rfl
    · rfl
theorem bslGo_on (hA : Agree S e e') {H : Heap} {es : Nat} : ∀ {ps : List (Nat × AOpd)} {xs : List AVal}, partsOn' S ps = true → bslGo e H es ps xs = bslGo e' H es ps xs
  | [], _, _ => rfl
  | (i, x) :: ps, xs, h => by
    simp only [partsOn', Bool.and_eq_true] at h
    simp only [bslGo, ev_on hA h.1]
    split
    · split
      · split
        · exact bslGo_on hA h.2
        · rfl
      · rfl
    · rfl
theorem y3r (hA : Agree S e e') : ∀ {ps : List (Nat × AOpd)}, partsOn' S ps = true → partsGls e ps = partsGls e' ps
  | [], _ => rfl
  | (i, x) :: ps, h => by
    simp only [partsOn', Bool.and_eq_true] at h
    simp only [partsGls, ev_on hA h.1, y3r hA h.2]
theorem evP_on (hA : Agree S e e') {op : AOp} (h : op.on S = true) : evP e op = evP e' op := by
  cases op <;> simp only [AOp.on, Bool.and_eq_true] at h <;> simp only [evP] <;>
    first
      | rfl
      | (simp only [ev_on hA h]; done)
      | (simp only [ev_on hA h.1, ev_on hA h.2]; done)
      | (simp only [ev_on hA h.1.1, ev_on hA h.1.2, ev_on hA h.2]; done)
      | (simp only [evs_on hA h]; done)
      | (simp only [buildA_on hA h]; done)
      | (simp only [ev_on hA h.1.1, optEv_on hA h.1.2, optEv_on hA h.2]; done)
theorem evN_on (hA : Agree S e e') {id : Nat} {op : AOp} (h : op.on S = true) : evN e id op = evN e' id op := by
  cases op <;> simp only [AOp.on, Bool.and_eq_true] at h <;> simp only [evN] <;>
    first
      | rfl
      | (simp only [ev_on hA h]; done)
      | (simp only [ev_on hA h.1, ev_on hA h.2]; done)
theorem evH_on (hA : Agree S e e') {C : Ctx} {id : Nat} {H : Heap} {op : AOp} (h : op.on S = true) : evH C e id H op = evH C e' id H op := by
  cases op <;> simp only [AOp.on, Bool.and_eq_true] at h <;> simp only [evH] <;>
    first
      | rfl
      | (simp only [ev_on hA h]; done)
      | (simp only [ev_on hA h.1, ev_on hA h.2]; done)
      | (simp only [ev_on hA h.1.1, ev_on hA h.1.2, ev_on hA h.2]; done)
      | (simp only [evs_on hA h]; done)
      | (simp only [bslGo_on hA h]; done)
      | (simp only [ev_on hA h.1, evs_on hA h.2]; done)
      | (simp only [ev_on hA h.1.1.1, optEv_on hA h.1.1.2, optEv_on hA h.1.2, optEv_on hA h.2]; done)
theorem footH_on (hA : Agree S e e') {H : Heap} {op : AOp} (h : op.on S = true) : footH e H op = footH e' H op := by
  cases op <;> simp only [AOp.on, Bool.and_eq_true] at h <;> simp only [footH] <;>
    first
      | rfl
      | (simp only [ev_on hA h]; done)
      | (simp only [ev_on hA h.1, ev_on hA h.2]; done)
      | (simp only [ev_on hA h.1]; done)
      | (simp only [ev_on hA h.1.1, ev_on hA h.1.2, ev_on hA h.2]; done)
      | (simp only [evs_on hA h]; done)
      | (simp only [y3r hA h]; done)
      | (simp only [ev_on hA h.1, evs_on hA h.2]; done)
      | (simp only [ev_on hA h.1.1.1]; done)
theorem stepV_on (hA : Agree S e e') {C : Ctx} {base j : Nat} {H : Heap} {o : AOper} (h : o.on S = true) : stepV C base o j e H = stepV C base o j e' H := by
  simp only [AOper.on, Bool.and_eq_true] at h
  have hw : wantedA e o.guard = wantedA e' o.guard := by
    cases hg : o.guard with
    | none => rfl
    | some g =>
      obtain ⟨t, want⟩ := g
      have h2 := h.2
      rw [hg] at h2
      simp only [wantedA, hA t h2]
  have hop : ∀ id, evalOp C e id H o.op = evalOp C e' id H o.op := by
    intro id
    simp only [evalOp, evP_on hA h.1, evN_on hA h.1, evH_on hA h.1]
  have hf : ∀ id H', footA e id H H' o.op = footA e' id H H' o.op := by
    intro id H'
    simp only [footA, footH_on hA h.1]
  simp only [stepV, hw, hop, hf]
end
theorem opd_true (x : AOpd) : x.on (fun _ => true) = true := by cases x <;> rfl
theorem opt_true (x : Option AOpd) : optOn (fun _ => true) x = true := by
  cases x with
  | none => rfl
  | some x => exact opd_true x
theorem all_true : ∀ xs : List AOpd, allOn (fun _ => true) xs = true
  | [] => rfl
  | x :: xs => by simp only [allOn, opd_true, all_true xs, Bool.and_true]
theorem y4b : ∀ xs : List (Nat × Nat × AOpd), partsOn (fun _ => true) xs = true
  | [] => rfl
  | (_, _, x) :: xs => by simp only [partsOn, opd_true, y4b xs, Bool.and_true]
theorem parts'_true : ∀ xs : List (Nat × AOpd), partsOn' (fun _ => true) xs = true
  | [] => rfl
  | (_, x) :: xs => by simp only [partsOn', opd_true, parts'_true xs, Bool.and_true]
theorem oper_true (o : AOper) : o.on (fun _ => true) = true := by
  obtain ⟨d, op, g⟩ := o
  simp only [AOper.on, Bool.and_eq_true]
  refine ⟨?_, ?_⟩
  · cases op <;> simp only [AOp.on, opd_true, opt_true, all_true, y4b, parts'_true, Bool.and_true]
  · cases g <;> rfl
def EqE (e e' : Env) : Prop := ∀ t, e.get t = e'.get t
theorem EqE.agree {e e' : Env} (h : EqE e e') : Agree (fun _ => true) e e' := fun t _ => h t
theorem EqE.put {e e' : Env} (h : EqE e e') (d : Option Nat) (v : AVal) : EqE (e.put d v) (e'.put d v) := by
  intro t; rw [Env.get_put, Env.get_put, h t]
theorem runD_eqE {C : Ctx} {base : Nat} : ∀ {l : List (AOper × Nat × List Nat)} {e e' e1 : Env} {H H1 : Heap} {fs : List Foot}, EqE e e' → runD C base l e H = some (fs, e1, H1) →
    ∃ e1', runD C base l e' H = some (fs, e1', H1) ∧ EqE e1 e1'
  | [], e, e', e1, H, H1, fs, he, h => by
    simp only [runD, Option.some.injEq, Prod.mk.injEq] at h
    obtain ⟨rfl, rfl, rfl⟩ := h
    exact ⟨e', rfl, he⟩
  | p :: l, e, e', e1, H, H1, fs, he, h => by
    simp only [runD] at h ⊢
    rw [← stepV_on he.agree (oper_true p.1)]
    split at h
    · rename_i f v H' hs
      split at h
      · rename_i fs' r' hr
        simp only [Option.some.injEq, Prod.mk.injEq] at h
        obtain ⟨rfl, rfl⟩ := h
        obtain ⟨e1', h1, h2⟩ := runD_eqE (he.put p.1.dst v) hr
        refine ⟨e1', ?_, h2⟩
        simp only [h1]
      · cases h
    · cases h
end Go.Ev
namespace Go.Ev
set_option linter.unusedVariables false
set_option linter.unusedSimpArgs false
open Go
theorem notIn_iff {b : Nat} : ∀ {l : List Nat}, notIn b l = true ↔ b ∉ l
  | [] => by simp [notIn]
  | x :: xs => by
    simp only [notIn, Bool.and_eq_true, Bool.not_eq_true', notIn_iff (l := xs), List.mem_cons, not_or]
    constructor
    · rintro ⟨h, h2⟩; exact ⟨fun e => by subst e; simp at h, h2⟩
    · rintro ⟨h, h2⟩; exact ⟨by cases hb : Nat.beq x b with
        | false => rfl
        | true => exact absurd (Nat.eq_of_beq_eq_true hb).symm h, h2⟩
theorem y4g {l : List Nat} : ∀ {xs : List Nat}, noneIn l xs = true ↔ ∀ b, b ∈ xs → b ∉ l
  | [] => by simp [noneIn]
  | x :: xs => by simp [noneIn, notIn_iff, y4g (xs := xs)]
theorem shut_loc {H H2 : Heap} : ∀ v, (∀ b, b ∈ glsV v → H2[b]? = H[b]?) → shutV H2 v = shutV H v := by
  intro v
  induction v using AVal.rec (motive_2 := fun vs => (∀ b, b ∈ glsL vs → H2[b]? = H[b]?) → shutL H2 vs = shutL H vs) with
  | nil => rfl
  | cons v vs ih1 ih2 =>
    rename_i h
    simp only [glsL, List.mem_append] at h
    simp only [shutL, ih1 fun b hb => h b (.inl hb), ih2 fun b hb => h b (.inr hb)]
  | gl o len => intro h; simp only [shutV, growAt, h o (by simp [glsV])]
  | agg cs ih => intro h; simp only [shutV, ih (by simpa [glsV] using h)]
  | tup cs ih => intro h; simp only [shutV, ih (by simpa [glsV] using h)]
  | iface t v ih => intro h; simp only [shutV, ih (by simpa [glsV] using h)]
  | fn f cs ih => intro h; simp only [shutV, ih (by simpa [glsV] using h)]
  | _ => intro h; simp only [shutV]
theorem shutL_loc {H H2 : Heap} : ∀ vs, (∀ b, b ∈ glsL vs → H2[b]? = H[b]?) → shutL H2 vs = shutL H vs
  | [], _ => rfl
  | v :: vs, h => by
    simp only [glsL, List.mem_append] at h
    simp only [shutL, shut_loc v fun b hb => h b (.inl hb), shutL_loc vs fun b hb => h b (.inr hb)]
theorem bslGo_loc {e : Env} {H H2 : Heap} {es : Nat} : ∀ {ps : List (Nat × AOpd)} {xs : List AVal}, (∀ b, b ∈ partsGls e ps → H2[b]? = H[b]?) → bslGo e H2 es ps xs = bslGo e H es ps xs
  | [], _, _ => rfl
  | (i, x) :: ps, xs, h => by
    simp only [bslGo]
    simp only [partsGls] at h
    cases hx : x.ev e with
    | none => rfl
    | some v =>
      rw [hx] at h
      simp only [List.mem_append] at h
      simp only [shut_loc v fun b hb => h b (.inl hb)]
      split
      · split
        · exact bslGo_loc fun b hb => h b (.inr hb)
        · rfl
      · rfl
def Local (f : Heap → Option (List Nat × List Nat)) (g : Heap → Option (Ex × Heap)) (H H' : Heap) (v : AVal) (r w : List Nat) : Prop :=
  (∀ b, b ∈ w → b ∈ r) ∧ (∀ b, b ∉ w → H'[b]? = H[b]?) ∧ ∀ H2 : Heap, (∀ b, b ∈ r → H2[b]? = H[b]?) →
    f H2 = some (r, w) ∧ ∃ H2', g H2 = some (.ok v, H2') ∧ (∀ b, b ∈ w → H2'[b]? = H'[b]?) ∧ ∀ b, b ∉ w → H2'[b]? = H2[b]?
theorem Local.read {f : Heap → Option (List Nat × List Nat)} {g : Heap → Option (Ex × Heap)} {H H' : Heap} {v : AVal} {r : List Nat} (hH : H' = H)
    (h : ∀ H2 : Heap, (∀ b, b ∈ r → H2[b]? = H[b]?) → f H2 = some (r, []) ∧ g H2 = some (.ok v, H2)) : Local f g H H' v r [] := by
  subst hH
  refine ⟨by simp, fun _ _ => rfl, ?_⟩
  intro H2 h2
  obtain ⟨h3, h4⟩ := h H2 h2
  exact ⟨h3, H2, h4, by simp, fun _ _ => rfl⟩
theorem Local.write {f : Heap → Option (List Nat × List Nat)} {g : Heap → Option (Ex × Heap)} {H H' : Heap} {v : AVal} {r : List Nat} {b : Nat} {B : ABlock} (hb : b ∈ r) (hl : b < H.length) (hH : H' = H.set b B)
    (h : ∀ H2 : Heap, (∀ b, b ∈ r → H2[b]? = H[b]?) → f H2 = some (r, [b]) ∧ g H2 = some (.ok v, H2.set b B)) : Local f g H H' v r [b] := by
  subst hH
  refine ⟨by simpa using hb, ?_, ?_⟩
  · intro k hk
    rw [List.getElem?_set_ne (by simp at hk; exact fun h => hk h.symm)]
  · intro H2 h2
    obtain ⟨h3, h4⟩ := h H2 h2
    refine ⟨h3, _, h4, ?_, ?_⟩
    · intro k hk
      simp at hk; subst hk
      have : k < H2.length := by
        have := h2 k hb
        rw [List.getElem?_eq_getElem hl] at this
        exact (List.getElem?_eq_some_iff.1 this).1
      rw [List.getElem?_set_self this, List.getElem?_set_self hl]
    · intro k hk
      rw [List.getElem?_set_ne (by simp at hk; exact fun h => hk h.symm)]
theorem okv_some {H H' : Heap} {r : Option AVal} {v : AVal} (h : okv H r = some (.ok v, H')) : r = some v ∧ H' = H := by
  cases r with
  | none => simp [okv] at h
  | some u => simp [okv] at h; exact ⟨by rw [h.1], h.2.symm⟩
theorem callA_loc {C : Ctx} {f : FuncId} {vs : List AVal} {H H' : Heap} {v : AVal} {r w : List Nat} (hf : footArgs H vs = some (r, w)) (hv : callA C false f vs H = some (.ok v, H')) :
    w = [] ∧ H' = H ∧ ∀ H2 : Heap, (∀ b, b ∈ r → H2[b]? = H[b]?) → footArgs H2 vs = some (r, []) ∧ callA C false f vs H2 = some (.ok v, H2) := by
  unfold footArgs at hf
  split at hf <;> first | (cases hf; done) | skip
  rename_i as has
  simp only [Option.some.injEq, Prod.mk.injEq] at hf
  obtain ⟨rfl, rfl⟩ := hf
  unfold callA at hv
  simp only [Bool.false_eq_true, if_false, has] at hv
  split at hv <;> first | (cases hv; done) | skip
  rename_i x hx
  simp only [Option.some.injEq, Prod.mk.injEq] at hv
  obtain ⟨rfl, rfl⟩ := hv
  refine ⟨rfl, rfl, ?_⟩
  intro H2 h2
  have := shutL_loc (H2 := H2) (H := H) vs h2
  refine ⟨by simp only [footArgs, this, has], ?_⟩
  simp only [callA, Bool.false_eq_true, if_false, this, has, hx]
theorem evH_loc {C : Ctx} {e : Env} {id : Nat} {H H' : Heap} {op : AOp} {v : AVal} {r w : List Nat} (hf : footH e H op = some (r, w)) (hv : evH C e id H op = some (.ok v, H')) :
    Local (fun H => footH e H op) (fun H => evH C e id H op) H H' v r w := by
  cases op <;> simp only [footH, reduceCtorEq] at hf
  case ia es x i =>
    simp only [evH] at hv
    split at hf
    · rename_i o len hx
      simp only [Option.some.injEq, Prod.mk.injEq] at hf
      obtain ⟨rfl, rfl⟩ := hf
      rw [hx] at hv
      cases hi : i.ev e with
      | none => rw [hi] at hv; cases hv
      | some iv =>
        rw [hi] at hv
        cases iv <;> simp only [reduceCtorEq] at hv
        rename_i k n
        split at hv <;> first | (cases hv; done) | skip
        rename_i es0 xs op hb
        split at hv <;> first | (cases hv; done) | skip
        rename_i hc
        split at hv
        · cases hy : xs[n.toNat]? with
          | none => rw [hy] at hv; cases hv
          | some y =>
            rw [hy] at hv
            simp only [Option.bind_some, Option.some.injEq, Prod.mk.injEq] at hv
            refine Local.read hv.2.symm ?_
            intro H2 h2
            refine ⟨by simp only [footH, hx], ?_⟩
            rw [hy] at hc
            simp only [evH, hx, hi, h2 o (by simp), hb, hy, Option.bind_some, hv.1]
            rw [if_pos hc]
        · rename_i f
          split at hv <;> first | (cases hv; done) | skip
          rename_i hl
          simp only [Option.some.injEq, Prod.mk.injEq] at hv
          refine Local.read hv.2.symm ?_
          intro H2 h2
          refine ⟨by simp only [footH, hx], ?_⟩
          simp only [evH, hx, hi, h2 o (by simp), hb, hv.1]
          rw [if_pos hc, if_pos hl]
    · rename_i hno
      simp only [Option.some.injEq, Prod.mk.injEq] at hf
      obtain ⟨rfl, rfl⟩ := hf
      have foot : ∀ H2 : Heap, footH e H2 (.ia es x i) = some ([], []) := by
        intro H2
        simp only [footH]
      split at hv <;> first | (cases hv; done) | skip
      · rename_i o len k n hx hi; exact absurd hx (hno o len)
      · rename_i xs ee k n hx hi
        split at hv <;> first | (cases hv; done) | skip
        rename_i h0
        split at hv <;> first | (cases hv; done) | skip
        rename_i y hy
        split at hv <;> first | (cases hv; done) | skip
        rename_i hw
        simp only [Option.some.injEq, Prod.mk.injEq] at hv
        refine Local.read hv.2.symm fun H2 h2 => ⟨foot H2, ?_⟩
        simp only [evH, hx, hi, hy, hv.1]
        rw [if_pos h0, if_pos hw]
      · rename_i b off len cap wd k n hx hi
        split at hv <;> first | (cases hv; done) | skip
        rename_i hc
        simp only [Option.some.injEq, Prod.mk.injEq] at hv
        refine Local.read hv.2.symm fun H2 h2 => ⟨foot H2, ?_⟩
        simp only [evH, hx, hi, hv.1]
        rw [if_pos hc]
  case bsl es z len parts =>
    simp only [Option.some.injEq, Prod.mk.injEq] at hf
    obtain ⟨rfl, rfl⟩ := hf
    simp only [evH] at hv
    split at hv <;> first | (cases hv; done) | skip
    rename_i hc
    split at hv <;> first | (cases hv; done) | skip
    rename_i xs hxs
    simp only [Option.some.injEq, Prod.mk.injEq] at hv
    refine Local.read hv.2.symm fun H2 h2 => ⟨rfl, ?_⟩
    simp only [evH, bslGo_loc h2, hxs, hv.1]
    rw [if_pos hc]
  case lds x =>
    simp only [evH] at hv
    cases hx : x.ev e with
    | none => rw [hx] at hv; cases hv
    | some a =>
      rw [hx] at hv hf
      obtain ⟨hl, rfl⟩ := okv_some hv
      cases a <;> simp only [loadS, reduceCtorEq, Option.some.injEq, Prod.mk.injEq] at hl hf
      · rename_i o l b
        obtain ⟨rfl, rfl⟩ := hf
        refine Local.read rfl fun H2 h2 => ⟨by simp only [footH, hx], ?_⟩
        simp only [evH, hx, loadS, h2 _ (List.mem_singleton.2 rfl), hl, okv]
      · obtain ⟨rfl, rfl⟩ := hf
        refine Local.read rfl fun H2 h2 => ⟨by simp only [footH, hx], ?_⟩
        simp only [evH, hx, loadS, h2 _ (List.mem_singleton.2 rfl), hl, okv]
      · obtain ⟨rfl, rfl⟩ := hf
        refine Local.read rfl fun H2 h2 => ⟨by simp only [footH, hx], ?_⟩
        rename_i cs
        cases cs with
        | nil => simp [loadS] at hl
        | cons c cs => simp only [loadS, Option.some.injEq] at hl; subst hl; simp only [evH, hx, loadS, okv]
  case lda n x =>
    simp only [evH] at hv
    cases hx : x.ev e with
    | none => rw [hx] at hv; cases hv
    | some a =>
      rw [hx] at hv hf
      obtain ⟨hl, rfl⟩ := okv_some hv
      cases a <;> simp only [loadA, reduceCtorEq, Option.some.injEq, Prod.mk.injEq] at hl hf
      · rename_i o l b
        obtain ⟨rfl, rfl⟩ := hf
        refine Local.read rfl fun H2 h2 => ⟨by simp only [footH, hx], ?_⟩
        simp only [evH, hx, loadA, h2 _ (List.mem_singleton.2 rfl), hl, okv]
      · obtain ⟨rfl, rfl⟩ := hf
        refine Local.read rfl fun H2 h2 => ⟨by simp only [footH, hx], ?_⟩
        simp only [evH, hx, loadA, h2 _ (List.mem_singleton.2 rfl), hl, okv]
      · obtain ⟨rfl, rfl⟩ := hf
        refine Local.read rfl fun H2 h2 => ⟨by simp only [footH, hx], ?_⟩
        simp only [evH, hx, loadA, hl, okv]
  case sts x y =>
    simp only [evH] at hv
    split at hf <;> first | (cases hf; done) | skip
    rename_i b o hx
    simp only [Option.some.injEq, Prod.mk.injEq] at hf
    obtain ⟨rfl, rfl⟩ := hf
    rw [hx] at hv
    cases hy : y.ev e with
    | none => rw [hy] at hv; cases hv
    | some u =>
      rw [hy] at hv
      simp only [storeA] at hv
      split at hv <;> first | (cases hv; done) | skip
      rename_i H1 hst
      simp only [Option.some.injEq, Prod.mk.injEq] at hv
      split at hst <;> first | (cases hst; done) | skip
      rename_i hs
      split at hst <;> first | (cases hst; done) | skip
      rename_i vs hb
      split at hst <;> first | (cases hst; done) | skip
      rename_i hle
      cases hst
      refine Local.write (List.mem_singleton.2 rfl) (List.getElem?_eq_some_iff.1 hb).1 hv.2.symm fun H2 h2 => ⟨by simp only [footH, hx], ?_⟩
      simp only [evH, hx, hy, storeA, h2 b (List.mem_singleton.2 rfl), hb, hv.1]
      rw [if_pos hs]
      simp only [if_pos hle, hv.1]
  case sta n x y =>
    simp only [evH] at hv
    split at hf <;> first | (cases hf; done) | skip
    · rename_i b o hx
      simp only [Option.some.injEq, Prod.mk.injEq] at hf
      obtain ⟨rfl, rfl⟩ := hf
      rw [hx] at hv
      cases hy : y.ev e with
      | none => rw [hy] at hv; cases hv
      | some u =>
        rw [hy] at hv
        simp only [storeA] at hv
        split at hv <;> first | (cases hv; done) | skip
        rename_i H1 hst
        simp only [Option.some.injEq, Prod.mk.injEq] at hv
        split at hst <;> first | (cases hst; done) | skip
        rename_i hs
        split at hst <;> first | (cases hst; done) | skip
        rename_i vs hb
        split at hst <;> first | (cases hst; done) | skip
        rename_i hle
        cases hst
        refine Local.write (List.mem_singleton.2 rfl) (List.getElem?_eq_some_iff.1 hb).1 hv.2.symm fun H2 h2 => ⟨by simp only [footH, hx], ?_⟩
        simp only [evH, hx, hy, storeA, h2 b (List.mem_singleton.2 rfl), hb, hv.1]
        rw [if_pos hs]
        simp only [if_pos hle, hv.1]
    · rename_i o i wd hx
      split at hf <;> first | (cases hf; done) | skip
      rename_i u hy
      simp only [Option.some.injEq, Prod.mk.injEq] at hf
      obtain ⟨rfl, rfl⟩ := hf
      rw [hx, hy] at hv
      simp only [storeA] at hv
      split at hv <;> first | (cases hv; done) | skip
      rename_i H1 hst
      simp only [Option.some.injEq, Prod.mk.injEq] at hv
      split at hst <;> first | (cases hst; done) | skip
      rename_i hs
      split at hst <;> first | (cases hst; done) | skip
      rename_i es xs f hb
      split at hst <;> first | (cases hst; done) | skip
      rename_i u' hsh
      split at hst <;> first | (cases hst; done) | skip
      rename_i hle
      cases hst
      refine Local.write (List.mem_cons_self) (List.getElem?_eq_some_iff.1 hb).1 hv.2.symm fun H2 h2 => ⟨by simp only [footH, hx, hy], ?_⟩
      have hsh2 : shutV H2 u = some u' := by
        rw [shut_loc u fun b hb => h2 b (List.mem_cons_of_mem _ hb)]; exact hsh
      simp only [evH, hx, hy, storeA, h2 o (List.mem_cons_self), hb, hsh2, hv.1]
      rw [if_pos hs]
      simp only [if_pos hle, hv.1]
  case slc es x lo hi mx =>
    simp only [evH] at hv
    split at hf <;> first | (cases hf; done) | skip
    · rename_i b off len cap wd hx
      simp only [Option.some.injEq, Prod.mk.injEq] at hf
      obtain ⟨rfl, rfl⟩ := hf
      rw [hx] at hv
      cases h1 : optEv e lo <;> rw [h1] at hv <;> first | (cases hv; done) | skip
      cases h2 : optEv e hi <;> rw [h2] at hv <;> first | (cases hv; done) | skip
      cases h3 : optEv e mx <;> rw [h3] at hv <;> first | (cases hv; done) | skip
      rename_i lov hiv mxv
      replace hv : (match bounds len cap lov hiv mxv with
        | some (l, h, m) => if wide wd = es ∧ l < m ∧ len ≤ cap then some (Ex.ok (AVal.sl b (off + l * es) (h - l) (m - l) wd), H) else none
        | none => none) = some (Ex.ok v, H') := hv
      split at hv <;> first | (cases hv; done) | skip
      rename_i l h m hb
      split at hv <;> first | (cases hv; done) | skip
      rename_i hc
      simp only [Option.some.injEq, Prod.mk.injEq] at hv
      refine Local.read hv.2.symm fun H2 _ => ⟨by simp only [footH, hx], ?_⟩
      simp only [evH, hx, h1, h2, h3, hb, hv.1]
      rw [if_pos hc]
    · rename_i xs ee hx
      simp only [Option.some.injEq, Prod.mk.injEq] at hf
      obtain ⟨rfl, rfl⟩ := hf
      rw [hx] at hv
      cases h1 : optEv e lo <;> rw [h1] at hv <;> first | (cases hv; done) | skip
      cases h2 : optEv e hi <;> rw [h2] at hv <;> first | (cases hv; done) | skip
      cases h3 : optEv e mx <;> rw [h3] at hv <;> first | (cases hv; done) | skip
      rename_i lov hiv mxv
      have fall : ∀ H2 : Heap, evH C e id H2 (.slc es x lo hi mx) = match cutLst es xs ee lov hiv mxv with
          | some v => some (Ex.ok v, H2)
          | none => none := by
        intro H2
        simp only [evH, hx, h1, h2, h3]
        rfl
      have hv2 : evH C e id H (.slc es x lo hi mx) = some (Ex.ok v, H') := by
        simp only [evH, hx, h1, h2, h3]
        exact hv
      rw [fall] at hv2
      split at hv2 <;> first | (cases hv2; done) | skip
      rename_i u hu
      simp only [Option.some.injEq, Prod.mk.injEq] at hv2
      refine Local.read hv2.2.symm fun H2 _ => ⟨by simp only [footH, hx], ?_⟩
      show evH C e id H2 (.slc es x lo hi mx) = _
      rw [fall, hu]
      simp only [hv2.1]
  case slca len es wd x lo hi mx =>
    simp only [evH] at hv
    simp only [Option.some.injEq, Prod.mk.injEq] at hf
    obtain ⟨rfl, rfl⟩ := hf
    split at hv <;> first | (cases hv; done) | skip
    rename_i b off lov hiv mxv hx h1 h2 h3
    split at hv <;> first | (cases hv; done) | skip
    rename_i l h m hb
    split at hv <;> first | (cases hv; done) | skip
    rename_i hc
    simp only [Option.some.injEq, Prod.mk.injEq] at hv
    refine Local.read hv.2.symm fun H2 _ => ⟨rfl, ?_⟩
    simp only [evH, hx, h1, h2, h3, hb, hv.1]
    rw [if_pos hc]
  case len k x =>
    simp only [evH] at hv
    cases hx : x.ev e with
    | none => rw [hx] at hv; cases hv
    | some a =>
      rw [hx] at hv hf
      obtain ⟨hl, rfl⟩ := okv_some hv
      have key : ∀ H2 : Heap, (∀ b, b ∈ r → H2[b]? = H'[b]?) → lenOf H2 k a = lenOf H' k a := by
        intro H2 h2
        cases k <;> cases a <;> simp only [lenOf]
        simp only [Option.some.injEq, Prod.mk.injEq] at hf
        obtain ⟨rfl, rfl⟩ := hf
        rw [h2 _ (List.mem_singleton.2 rfl)]
      have hw : w = [] := by
        cases a <;> simp only [Option.some.injEq, Prod.mk.injEq] at hf <;> exact hf.2.symm
      subst hw
      refine Local.read rfl fun H2 h2 => ⟨by simp only [footH, hx]; exact hf, ?_⟩
      simp only [evH, hx, key H2 h2, hl, okv]
  case cap x =>
    simp only [evH] at hv
    simp only [Option.some.injEq, Prod.mk.injEq] at hf
    obtain ⟨rfl, rfl⟩ := hf
    split at hv <;> first | (cases hv; done) | skip
    · rename_i b off len c wd hx
      simp only [Option.some.injEq, Prod.mk.injEq] at hv
      refine Local.read hv.2.symm fun H2 _ => ⟨rfl, ?_⟩
      simp only [evH, hx, hv.1]
    · rename_i xs hx
      simp only [Option.some.injEq, Prod.mk.injEq] at hv
      refine Local.read hv.2.symm fun H2 _ => ⟨rfl, ?_⟩
      simp only [evH, hx, hv.1]
  case s2b x =>
    simp only [evH] at hv
    simp only [Option.some.injEq, Prod.mk.injEq] at hf
    obtain ⟨rfl, rfl⟩ := hf
    split at hv <;> first | (cases hv; done) | skip
    rename_i s hx
    simp only [Option.some.injEq, Prod.mk.injEq] at hv
    refine Local.read hv.2.symm fun H2 _ => ⟨rfl, ?_⟩
    simp only [evH, hx, hv.1]
  case b2s x =>
    simp only [evH] at hv
    simp only [Option.some.injEq, Prod.mk.injEq] at hf
    obtain ⟨rfl, rfl⟩ := hf
    split at hv <;> first | (cases hv; done) | skip
    rename_i xs fl hx
    split at hv <;> first | (cases hv; done) | skip
    rename_i s hs
    simp only [Option.some.injEq, Prod.mk.injEq] at hv
    refine Local.read hv.2.symm fun H2 _ => ⟨rfl, ?_⟩
    simp only [evH, hx, hs, hv.1]
  case look ks ok z m k =>
    simp only [evH] at hv
    split at hf <;> first | (cases hf; done) | skip
    rename_i b hm
    simp only [Option.some.injEq, Prod.mk.injEq] at hf
    obtain ⟨rfl, rfl⟩ := hf
    rw [hm] at hv
    cases hk : k.ev e with
    | none => rw [hk] at hv; cases hv
    | some kv =>
      rw [hk] at hv
      simp only at hv
      split at hv <;> first | (cases hv; done) | skip
      rename_i es hb
      split at hv <;> first | (cases hv; done) | skip
      rename_i hko
      split at hv <;> first | (cases hv; done) | skip
      · rename_i u hfk
        simp only [Option.some.injEq, Prod.mk.injEq] at hv
        refine Local.read hv.2.symm fun H2 h2 => ⟨by simp only [footH, hm], ?_⟩
        simp only [evH, hm, hk, h2 b (List.mem_singleton.2 rfl), hb, hfk, hv.1]
        rw [if_pos hko]
      · rename_i hfk
        simp only [Option.some.injEq, Prod.mk.injEq] at hv
        refine Local.read hv.2.symm fun H2 h2 => ⟨by simp only [footH, hm], ?_⟩
        simp only [evH, hm, hk, h2 b (List.mem_singleton.2 rfl), hb, hfk, hv.1]
        rw [if_pos hko]
  case call raw f args =>
    simp only [evH] at hv
    split at hf <;> first | (cases hf; done) | skip
    rename_i vs hvs
    rw [hvs] at hv
    obtain ⟨rfl, hH, h⟩ := callA_loc hf hv
    refine Local.read hH fun H2 h2 => ⟨by simp only [footH, hvs]; exact (h H2 h2).1, ?_⟩
    simp only [evH, hvs]
    exact (h H2 h2).2
  case callv raw x args =>
    simp only [evH] at hv
    split at hf <;> first | (cases hf; done) | skip
    rename_i g caps vs hx hvs
    rw [hx, hvs] at hv
    obtain ⟨rfl, hH, h⟩ := callA_loc hf hv
    refine Local.read hH fun H2 h2 => ⟨by simp only [footH, hx, hvs]; exact (h H2 h2).1, ?_⟩
    simp only [evH, hx, hvs]
    exact (h H2 h2).2
end Go.Ev
namespace Go.Ev
set_option linter.unusedVariables false
set_option linter.unusedSimpArgs false
open Go
def FootOk (g : Heap → Option (Foot × AVal × Heap)) (H H' : Heap) (v : AVal) : Foot → Prop
  | .io r w => (∀ b, b ∈ w → b ∈ r) ∧ (∀ b, b ∉ w → H'[b]? = H[b]?) ∧ ∀ H2 : Heap, (∀ b, b ∈ r → H2[b]? = H[b]?) →
      ∃ H2', g H2 = some (.io r w, v, H2') ∧ (∀ b, b ∈ w → H2'[b]? = H'[b]?) ∧ ∀ b, b ∉ w → H2'[b]? = H2[b]?
  | .opq H0 H1 => H0 = H ∧ H1 = H'
theorem y4a {C : Ctx} {base j : Nat} {o : AOper} {e : Env} {H H' : Heap} {f : Foot} {v : AVal} (h : stepV C base o j e H = some (f, v, H')) : FootOk (fun H => stepV C base o j e H) H H' v f := by
  unfold stepV at h
  split at h <;> first | (cases h; done) | skip
  · rename_i hw
    split at h <;> first | (cases h; done) | skip
    rename_i hroom
    split at h <;> first | (cases h; done) | skip
    rename_i v' H1 hev
    simp only [Option.some.injEq, Prod.mk.injEq] at h
    obtain ⟨rfl, rfl, rfl⟩ := h
    unfold footA
    unfold evalOp at hev
    split
    · rename_i hk
      rw [hk] at hev
      simp only at hev
      obtain ⟨hp, rfl⟩ := okv_some hev
      refine ⟨by simp, fun _ _ => rfl, ?_⟩
      intro H2 _
      refine ⟨H2, ?_, by simp, fun _ _ => rfl⟩
      simp [stepV, hw, hk, evalOp, hp, okv, footA]
    · rename_i hk
      rw [hk] at hev hroom
      simp only at hev
      split at hev <;> first | (cases hev; done) | skip
      rename_i u B hn
      split at hev <;> first | (cases hev; done) | skip
      rename_i H1' hat
      simp only [Option.some.injEq, Prod.mk.injEq, Ex.ok.injEq] at hev
      obtain ⟨rfl, rfl⟩ := hev
      have hlt : base + j < H.length := by
        rcases Nat.lt_or_ge (base + j) H.length with h | h
        · exact h
        · exact absurd (by simp [h]) hroom
      unfold newAt at hat
      rw [if_neg (by omega)] at hat
      split at hat <;> first | (cases hat; done) | skip
      rename_i hhole
      cases hat
      refine ⟨by simp, ?_, ?_⟩
      · intro b hb
        rw [List.getElem?_set_ne (by simp at hb; exact fun h => hb h.symm)]
      · intro H2 h2
        have hb2 : H2[base + j]? = some .hole := by rw [h2 _ (List.mem_singleton.2 rfl)]; exact hhole
        have hlt2 : base + j < H2.length := (List.getElem?_eq_some_iff.1 hb2).1
        refine ⟨H2.set (base + j) B, ?_, ?_, ?_⟩
        · have hroom2 : Nat.ble H2.length (base + j) = false := by
            cases hb : Nat.ble H2.length (base + j) with
            | false => rfl
            | true => have := Nat.le_of_ble_eq_true hb; omega
          have hat2 : newAt H2 (base + j) B = some (H2.set (base + j) B) := by
            unfold newAt
            rw [if_neg (by omega), hb2]
          simp [stepV, hw, hk, evalOp, hn, hat2, footA, hroom2]
        · intro b hb
          simp at hb; subst hb
          rw [List.getElem?_set_self hlt2, List.getElem?_set_self hlt]
        · intro b hb
          rw [List.getElem?_set_ne (by simp at hb; exact fun h => hb h.symm)]
    · rename_i hk
      rw [hk] at hev
      simp only at hev
      split
      · rename_i r w hf
        obtain ⟨h1, h2, h3⟩ := evH_loc hf hev
        refine ⟨h1, h2, ?_⟩
        intro H2 ha
        obtain ⟨k1, H2', k2, k3, k4⟩ := h3 H2 ha
        refine ⟨H2', ?_, k3, k4⟩
        simp only at k1 k2
        simp [stepV, hw, hk, evalOp, k2, footA, k1]
      · exact ⟨rfl, rfl⟩
  · rename_i hw
    simp only [Option.some.injEq, Prod.mk.injEq] at h
    obtain ⟨rfl, rfl, rfl⟩ := h
    refine ⟨by simp, fun _ _ => rfl, ?_⟩
    intro H2 _
    refine ⟨H2, ?_, by simp, fun _ _ => rfl⟩
    simp only [stepV, hw]
theorem beq_eq {a b : Nat} (h : Nat.beq a b = true) : a = b := Nat.eq_of_beq_eq_true h
theorem sameV_eq : ∀ v v', sameV v v' = true → v = v' := by
  intro v
  induction v using AVal.rec (motive_2 := fun vs => ∀ vs', sameL vs vs' = true → vs = vs') with
  | nil => rename_i vs' h; cases vs' with
    | nil => rfl
    | cons => simp [sameL] at h
  | cons v vs ih1 ih2 => rename_i vs' h; cases vs' with
    | nil => simp [sameL] at h
    | cons v' vs' => simp only [sameL, Bool.and_eq_true] at h; rw [ih1 _ h.1, ih2 _ h.2]
  | int k n => intro v' h; cases v' <;> simp only [sameV, Bool.false_eq_true, Bool.and_eq_true, decide_eq_true_eq] at h; rw [h.1, h.2]
  | bool b => intro v' h; cases v' <;> simp only [sameV, Bool.false_eq_true, beq_iff_eq] at h; rw [h]
  | str b => intro v' h; cases v' <;> simp only [sameV, Bool.false_eq_true, decide_eq_true_eq] at h; rw [h]
  | nilp => intro v' h; cases v' <;> simp only [sameV, Bool.false_eq_true] at h; rfl
  | nili => intro v' h; cases v' <;> simp only [sameV, Bool.false_eq_true] at h; rfl
  | nilf => intro v' h; cases v' <;> simp only [sameV, Bool.false_eq_true] at h; rfl
  | nilm => intro v' h; cases v' <;> simp only [sameV, Bool.false_eq_true] at h; rfl
  | iface t v ih => intro v' h; cases v' <;> simp only [sameV, Bool.false_eq_true, Bool.and_eq_true] at h; rw [beq_eq h.1, ih _ h.2]
  | agg cs ih => intro v' h; cases v' <;> simp only [sameV, Bool.false_eq_true] at h; rw [ih _ h]
  | tup cs ih => intro v' h; cases v' <;> simp only [sameV, Bool.false_eq_true] at h; rw [ih _ h]
  | lst cs e ih => intro v' h; cases v' <;> simp only [sameV, Bool.false_eq_true, Bool.and_eq_true, beq_iff_eq] at h; rw [ih _ h.1, h.2]
  | gl o l => intro v' h; cases v' <;> simp only [sameV, Bool.false_eq_true, Bool.and_eq_true] at h; rw [beq_eq h.1, beq_eq h.2]
  | lptr o i w => intro v' h; cases v' <;> simp only [sameV, Bool.false_eq_true, Bool.and_eq_true] at h; rw [beq_eq h.1.1, beq_eq h.1.2, beq_eq h.2]
  | gtl o i w k => intro v' h; cases v' <;> simp only [sameV, Bool.false_eq_true, Bool.and_eq_true] at h; rw [beq_eq h.1.1.1, beq_eq h.1.1.2, beq_eq h.1.2, beq_eq h.2]
  | sl b o l c w => intro v' h; cases v' <;> simp only [sameV, Bool.false_eq_true, Bool.and_eq_true, decide_eq_true_eq] at h; rw [beq_eq h.1.1.1.1, beq_eq h.1.1.1.2, beq_eq h.1.1.2, beq_eq h.1.2, h.2]
  | ptr b o => intro v' h; cases v' <;> simp only [sameV, Bool.false_eq_true, Bool.and_eq_true] at h; rw [beq_eq h.1, beq_eq h.2]
  | ro cs ih => intro v' h; cases v' <;> simp only [sameV, Bool.false_eq_true] at h; rw [ih _ h]
  | fn f cs ih => intro v' h; cases v' <;> simp only [sameV, Bool.false_eq_true, Bool.and_eq_true] at h; rw [beq_eq h.1, ih _ h.2]
  | map b => intro v' h; cases v' <;> simp only [sameV, Bool.false_eq_true] at h; rw [beq_eq h]
  | emp b => intro v' h; cases v' <;> simp only [sameV, Bool.false_eq_true, beq_iff_eq] at h; rw [h]
theorem sameL_eq : ∀ vs vs', sameL vs vs' = true → vs = vs'
  | [], [], _ => rfl
  | [], _ :: _, h => by simp [sameL] at h
  | _ :: _, [], h => by simp [sameL] at h
  | v :: vs, v' :: vs', h => by simp only [sameL, Bool.and_eq_true] at h; rw [sameV_eq _ _ h.1, sameL_eq _ _ h.2]
theorem sameP_eq : ∀ vs vs', sameP vs vs' = true → vs = vs'
  | [], [], _ => rfl
  | [], _ :: _, h => by simp [sameP] at h
  | _ :: _, [], h => by simp [sameP] at h
  | (k, v) :: vs, (k', v') :: vs', h => by simp only [sameP, Bool.and_eq_true] at h; rw [sameV_eq _ _ h.1.1, sameV_eq _ _ h.1.2, sameP_eq _ _ h.2]
theorem sameB_eq {a b : Option ABlock} (h : sameB a b = true) : a = b := by
  cases a with
  | none => cases b with
    | none => rfl
    | some b => simp [sameB] at h
  | some a => cases b with
    | none => cases a <;> simp [sameB] at h
    | some b =>
      cases a <;> cases b <;> simp only [sameB, Bool.false_eq_true, Bool.and_eq_true, decide_eq_true_eq] at h <;> first | rfl | skip
      · rw [sameL_eq _ _ h]
      · rw [beq_eq h.1.1, sameL_eq _ _ h.1.2, h.2]
      · rw [sameP_eq _ _ h]
theorem sameE_eq : ∀ {e e' : Env}, sameE e e' = true → e = e'
  | [], [], _ => rfl
  | [], _ :: _, h => by simp [sameE] at h
  | _ :: _, [], h => by simp [sameE] at h
  | (k, v) :: r, (k', v') :: r', h => by simp only [sameE, Bool.and_eq_true] at h; rw [beq_eq h.1.1, sameV_eq _ _ h.1.2, sameE_eq h.2]
theorem sameH_eq : ∀ {e e' : Heap}, sameH e e' = true → e = e'
  | [], [], _ => rfl
  | [], _ :: _, h => by simp [sameH] at h
  | _ :: _, [], h => by simp [sameH] at h
  | k :: r, k' :: r', h => by
    simp only [sameH, Bool.and_eq_true] at h
    have := sameB_eq h.1
    cases this
    rw [sameH_eq h.2]
theorem meet_inv {keep : List Nat} {r1 r2 : Option (AEx × Env × Heap)} {r : AEx × Env × Heap} (h : meet keep r1 r2 = some r) :
    ∃ x e1 e2 H, r1 = some (x, e1, H) ∧ r2 = some (x, e2, H) ∧ (x = .ret ∨ x = .norm) ∧ r = (x, restr e1 keep, H) ∧ r = (x, restr e2 keep, H) := by
  unfold meet at h
  split at h <;> first | (cases h; done) | skip
  all_goals
    split at h <;> first | (cases h; done) | skip
    rename_i hc
    simp only [Bool.and_eq_true] at hc
    have h1 := sameE_eq hc.1
    have h2 := sameH_eq hc.2
    subst h2
    cases h
    exact ⟨_, _, _, _, rfl, rfl, by simp, rfl, by rw [h1]⟩
theorem sameOn_eq {H H' : Heap} : ∀ {r : List Nat}, sameOn H H' r = true → ∀ b, b ∈ r → H'[b]? = H[b]?
  | [], _, b, hb => by simp at hb
  | x :: xs, h, b, hb => by
    simp only [sameOn, Bool.and_eq_true] at h
    rcases List.mem_cons.1 hb with rfl | hb
    · exact (sameB_eq h.1).symm
    · exact sameOn_eq h.2 b hb
theorem y35 (e : Env) (d : Option Nat) (v : AVal) : Agree (notDst d) (e.put d v) e := by
  intro t ht
  rw [Env.get_put]
  cases d with
  | none => simp
  | some d =>
    simp only [notDst, Bool.not_eq_true'] at ht
    rw [if_neg]
    intro h
    cases h
    simp at ht
theorem Agree.symm {S : Nat → Bool} {e e' : Env} (h : Agree S e e') : Agree S e' e := fun t ht => (h t ht).symm
theorem swap {C : Ctx} {base j j' : Nat} {x y : AOper} {e : Env} {H Hx Hy : Heap} {fx fy : Foot} {vx vy : AVal} (hr : regOk x y = true) (hd : disj fx fy = true)
    (hx : stepV C base x j e H = some (fx, vx, Hx)) (hy : stepV C base y j' (e.put x.dst vx) Hx = some (fy, vy, Hy)) :
    ∃ H1, stepV C base y j' e H = some (fy, vy, H1) ∧ stepV C base x j (e.put y.dst vy) H1 = some (fx, vx, Hy) := by
  simp only [regOk, Bool.and_eq_true] at hr
  obtain ⟨⟨hr1, hr2⟩, hr3⟩ := hr
  rw [stepV_on (y35 e x.dst vx) hr1] at hy
  have hx' : ∀ H1, stepV C base x j (e.put y.dst vy) H1 = stepV C base x j e H1 := fun H1 => stepV_on (y35 e y.dst vy) hr2
  simp only [hx']
  have kx := y4a hx
  have ky := y4a hy
  cases fx with
  | io r w =>
    obtain ⟨x1, x2, x3⟩ := kx
    cases fy with
    | io r' w' =>
      obtain ⟨y1, y2, y3⟩ := ky
      simp only [disj, Bool.and_eq_true, y4g] at hd
      obtain ⟨d1, d2⟩ := hd
      obtain ⟨H1, k1, k2, k3⟩ := y3 H (fun b hb => (x2 b (fun hw => d1 b hw hb)).symm)
      obtain ⟨H2, m1, m2, m3⟩ := x3 H1 (fun b hb => k3 b (fun hw => d2 b hw hb))
      refine ⟨H1, k1, ?_⟩
      simp only at m1
      rw [m1]
      congr 3
      apply List.ext_getElem?
      intro b
      by_cases hw : b ∈ w
      · rw [m2 b hw, y2 b (fun hw' => d2 b hw' (x1 b hw))]
      · rw [m3 b hw]
        by_cases hw' : b ∈ w'
        · rw [k2 b hw']
        · rw [k3 b hw', y2 b hw', x2 b hw]
    | opq H0 H3 =>
      obtain ⟨rfl, rfl⟩ := ky
      cases w with
      | cons => simp [disj] at hd
      | nil =>
        simp only [disj] at hd
        have e1 : H0 = H := List.ext_getElem? fun b => x2 b (by simp)
        subst e1
        refine ⟨H3, hy, ?_⟩
        obtain ⟨H2, m1, m2, m3⟩ := x3 H3 (sameOn_eq hd)
        simp only at m1
        rw [m1]
        congr 3
        exact List.ext_getElem? fun b => m3 b (by simp)
  | opq H0 H3 =>
    obtain ⟨rfl, rfl⟩ := kx
    cases fy with
    | opq => simp [disj] at hd
    | io r' w' =>
      cases w' with
      | cons => simp [disj] at hd
      | nil =>
        obtain ⟨y1, y2, y3⟩ := ky
        simp only [disj] at hd
        have e1 : Hy = H3 := List.ext_getElem? fun b => y2 b (by simp)
        subst e1
        obtain ⟨H1, k1, k2, k3⟩ := y3 H0 (fun b hb => (sameOn_eq hd b hb).symm)
        have e2 : H1 = H0 := List.ext_getElem? fun b => k3 b (by simp)
        subst e2
        exact ⟨H1, k1, hx⟩
theorem put_swap {e : Env} {x y : AOper} {vx vy : AVal} (hr : regOk x y = true) : EqE ((e.put x.dst vx).put y.dst vy) ((e.put y.dst vy).put x.dst vx) := by
  simp only [regOk, Bool.and_eq_true] at hr
  obtain ⟨_, hr3⟩ := hr
  intro t
  simp only [Env.get_put]
  cases hx : x.dst with
  | none => simp
  | some d =>
    cases hy : y.dst with
    | none => simp
    | some d' =>
      rw [hx, hy] at hr3
      simp only [notDst, Bool.not_eq_true'] at hr3
      simp only [Option.some.injEq]
      by_cases h1 : d = t
      · by_cases h2 : d' = t
        · subst h1; subst h2; simp at hr3
        · simp [h1, h2]
      · simp [h1]
theorem front {C : Ctx} {base : Nat} {y : AOper × Nat × List Nat} {post : List (AOper × Nat × List Nat)} {fy : Foot} {fpost : List Foot} :
    ∀ {pre : List (AOper × Nat × List Nat)} {fpre : List Foot} {e e2 : Env} {H H2 : Heap}, pre.length = fpre.length → (∀ (k : Nat) (x : AOper × Nat × List Nat) (f : Foot), pre[k]? = some x → fpre[k]? = some f → regOk x.1 y.1 = true ∧ disj f fy = true) →
      runD C base (pre ++ y :: post) e H = some (fpre ++ fy :: fpost, e2, H2) →
      ∃ v H1 e3, stepV C base y.1 y.2.1 e H = some (fy, v, H1) ∧ runD C base (pre ++ post) (e.put y.1.dst v) H1 = some (fpre ++ fpost, e3, H2) ∧ EqE e2 e3
  | [], fpre, e, e2, H, H2, hl, hp, h => by
    cases fpre with
    | cons => simp at hl
    | nil =>
      simp only [List.nil_append, runD] at h ⊢
      split at h <;> first | (cases h; done) | skip
      rename_i f v H' hs
      split at h <;> first | (cases h; done) | skip
      rename_i fs r' hr
      simp only [Option.some.injEq, Prod.mk.injEq, List.cons.injEq] at h
      obtain ⟨⟨rfl, rfl⟩, rfl⟩ := h
      exact ⟨v, H', e2, hs, hr, fun _ => rfl⟩
  | x :: pre, fpre, e, e2, H, H2, hl, hp, h => by
    cases fpre with
    | nil => simp at hl
    | cons fx fpre =>
      simp only [List.cons_append, runD] at h ⊢
      split at h <;> first | (cases h; done) | skip
      rename_i f v H' hs
      split at h <;> first | (cases h; done) | skip
      rename_i fs r' hr
      simp only [Option.some.injEq, Prod.mk.injEq, List.cons.injEq] at h
      obtain ⟨⟨rfl, rfl⟩, rfl⟩ := h
      obtain ⟨vy, H1, e3, k1, k2, k3⟩ := front (by simpa using hl) (fun k x' f' h1 h2 => hp (k + 1) x' f' (by simpa using h1) (by simpa using h2)) hr
      obtain ⟨hreg, hdis⟩ := hp 0 x f rfl rfl
      obtain ⟨H4, m1, m2⟩ := swap hreg hdis hs k1
      obtain ⟨e4, n1, n2⟩ := runD_eqE (put_swap hreg) k2
      refine ⟨vy, H4, e4, m1, ?_, fun t => (k3 t).trans (n2 t)⟩
      rw [m2]
      simp only [n1]
end Go.Ev
namespace Go.Ev
set_option linter.unusedVariables false
set_option linter.unusedSimpArgs false
open Go
theorem Rel.holes {Γ : Gh} {H : Heap} {w : World} (hR : Rel Γ H w) (m : Nat) : Rel Γ (H ++ List.replicate m .hole) w := by
  refine ⟨hR.mem, ?_, ?_, hR.owned⟩
  · intro b B hb
    by_cases hl : b < H.length
    · rw [List.getElem?_append_left hl] at hb; exact hR.blk b B hb
    · rw [List.getElem?_append_right (by omega), List.getElem?_replicate] at hb
      split at hb
      · cases hb; exact hR.dom b (by omega)
      · cases hb
  · intro b hb
    exact hR.dom b (by simp at hb; omega)
abbrev Item := AOper × Nat × List Nat
def itemAt (l : List Item) (i : Nat) : Item := (l[i]?).getD default
def unlisted (n : Nat) (listed : Array Bool) : List Nat := (List.range n).filter fun i => !listed.getD i true
structure DrawOk (P : Program) (n : Nat) (ops : Array Oper) (l : List Item) (F : Nat → Foot) : Prop where
  len : l.length = ops.size
  oper : ∀ (i : Nat) (o : Oper), ops[i]? = some o → chkOper P n ops (itemAt l i).1 o = true
  back : ∀ (i : Nat) (o : Oper), ops[i]? = some o → ∀ e ∈ o.after, Region.binds .any e = true → e.on < i
  deps : ∀ (i : Nat) (o : Oper), ops[i]? = some o → ∀ k, k ∈ (itemAt l i).2.2 → ∃ e ∈ o.after, Region.binds .any e = true ∧ (e.on = k ∨ k ∈ (itemAt l e.on).2.2)
  pair : ∀ i k, i < l.length → k < i → k ∈ (itemAt l i).2.2 ∨ (regOk (itemAt l k).1 (itemAt l i).1 = true ∧ disj (F k) (F i) = true)
section
variable {P : Program} {n : Nat} {ops : Array Oper} {l : List Item} {F : Nat → Foot}
def y2r (ops : Array Oper) (listed : Array Bool) : Prop := ∀ (i : Nat) (o : Oper), listed[i]? = some true → ops[i]? = some o → ∀ e ∈ o.after, Region.binds .any e = true → listed[e.on]? = some true
theorem y5o {listed : Array Bool} {i : Nat} (h : listed.getD i false = true) : listed[i]? = some true := by
  rw [Array.getD_eq_getD_getElem?] at h
  cases hx : listed[i]? with
  | none => rw [hx] at h; cases h
  | some b => rw [hx] at h; simp at h; rw [h]
theorem getD_true {listed : Array Bool} {i : Nat} (h : listed.getD i true = false) : listed[i]? = some false := by
  rw [Array.getD_eq_getD_getElem?] at h
  cases hx : listed[i]? with
  | none => rw [hx] at h; cases h
  | some b => rw [hx] at h; simp at h; rw [h]
theorem y5c (hD : DrawOk P n ops l F) {listed : Array Bool} (hd : y2r ops listed) : ∀ (i : Nat) (o : Oper), ops[i]? = some o → (∀ e ∈ o.after, Region.binds .any e = true → listed[e.on]? = some true) →
    ∀ k, k ∈ (itemAt l i).2.2 → listed[k]? = some true := by
  intro i
  induction i using Nat.strongRecOn with
  | _ i ih =>
    intro o ho hall k hk
    obtain ⟨e, he, hb, h | h⟩ := hD.deps i o ho k hk
    · rw [← h]; exact hall e he hb
    · have hlt := hD.back i o ho e he hb
      have hi : i < ops.size := (Array.getElem?_eq_some_iff.1 ho).1
      have ho' : ops[e.on]? = some ops[e.on] := Array.getElem?_eq_getElem (by omega)
      exact ih e.on hlt _ ho' (hd e.on _ (hall e he hb) ho') k h
theorem y38 {m i : Nat} {listed : Array Bool} : i ∈ unlisted m listed ↔ i < m ∧ listed[i]? = some false := by
  unfold unlisted
  rw [List.mem_filter, List.mem_range]
  constructor
  · rintro ⟨h1, h2⟩
    exact ⟨h1, getD_true (by simpa using h2)⟩
  · rintro ⟨h1, h2⟩
    refine ⟨h1, ?_⟩
    rw [Array.getD_eq_getD_getElem?, h2]; rfl
theorem y4r {m i : Nat} {listed : Array Bool} (hi : i < m) (h : listed[i]? = some false) : ∃ pre post, unlisted m listed = pre ++ i :: post ∧ unlisted m (listed.setIfInBounds i true) = pre ++ post ∧ ∀ j, j ∈ pre → j < i ∧ listed[j]? = some false := by
  have hr : List.range m = List.range' 0 i ++ i :: List.range' (i + 1) (m - i - 1) := by
    rw [List.range_eq_range', ← List.range'_succ]
    have := List.range'_append_1 (s := 0) (m := i) (n := m - i - 1 + 1)
    rw [Nat.zero_add] at this
    rw [this]
    congr 1; omega
  have hset : ∀ j, j ≠ i → (listed.setIfInBounds i true).getD j true = listed.getD j true := by
    intro j hj
    simp only [Array.getD_eq_getD_getElem?, Array.getElem?_setIfInBounds]
    rw [if_neg (fun h => hj h.symm)]
  have hlt : i < listed.size := (Array.getElem?_eq_some_iff.1 h).1
  refine ⟨(List.range' 0 i).filter fun j => !listed.getD j true, (List.range' (i + 1) (m - i - 1)).filter fun j => !listed.getD j true, ?_, ?_, ?_⟩
  · unfold unlisted
    rw [hr, List.filter_append, List.filter_cons_of_pos]
    rw [Array.getD_eq_getD_getElem?, h]; rfl
  · unfold unlisted
    rw [hr, List.filter_append, List.filter_cons_of_neg]
    · congr 1
      · apply List.filter_congr
        intro j hj
        rw [List.mem_range'_1] at hj
        rw [hset j (by omega)]
      · apply List.filter_congr
        intro j hj
        rw [List.mem_range'_1] at hj
        rw [hset j (by omega)]
    · simp [Array.getD_eq_getD_getElem?, Array.getElem?_setIfInBounds, hlt]
  · intro j hj
    rw [List.mem_filter, List.mem_range'_1] at hj
    exact ⟨by omega, getD_true (by simpa using hj.2)⟩
theorem any_wp {C : Ctx} (hC : CallsOk P C.call) {base : Nat} (hD : DrawOk P n ops l F) {Γ0 : Gh} {w0 : World} {eF : Env} {HF : Heap} : ∀ (fuel : Nat) (listed : Array Bool) (Γ : Gh) (e : Env) (H : Heap) (a : Act) (w : World) (e2 : Env),
    listed.size = ops.size → y2r ops listed → (unlisted ops.size listed).length ≤ fuel → St Γ n e H a w → Stp Γ0 w0 Γ w →
    runD C base ((unlisted ops.size listed).map (itemAt l)) e H = some ((unlisted ops.size listed).map F, e2, HF) → EqE e2 eF →
    wpAny P .any ops (QOk Γ0 w0 n (.norm, eF, HF)) fuel listed a w := by
  have finish : ∀ (listed : Array Bool) (Γ : Gh) (e : Env) (H : Heap) (a : Act) (w : World) (e2 : Env), St Γ n e H a w → Stp Γ0 w0 Γ w → unlisted ops.size listed = [] →
      runD C base ((unlisted ops.size listed).map (itemAt l)) e H = some ((unlisted ops.size listed).map F, e2, HF) → EqE e2 eF → QOk Γ0 w0 n (.norm, eF, HF) .normal a w := by
    intro listed Γ e H a w e2 hS hst hnil hrun heq
    rw [hnil] at hrun
    simp only [List.map_nil, runD, Option.some.injEq, Prod.mk.injEq, true_and] at hrun
    obtain ⟨rfl, rfl⟩ := hrun
    exact ⟨Γ, hst, ⟨fun t v hv => hS.env t v (by rw [heq t]; exact hv), hS.rel, hS.size, hS.defers⟩, trivial⟩
  intro fuel
  induction fuel with
  | zero =>
    intro listed Γ e H a w e2 hsz hdown hcount hS hst hrun heq
    have hnil : unlisted ops.size listed = [] := List.length_eq_zero_iff.1 (by omega)
    refine ⟨?_, finish listed Γ e H a w e2 hS hst hnil hrun heq⟩
    apply List.eq_nil_iff_forall_not_mem.2
    intro j hj
    rw [mem_ready] at hj
    have h1 := getD_true hj.1
    have : j ∈ unlisted ops.size listed := y38.2 ⟨by rw [← hsz]; exact (Array.getElem?_eq_some_iff.1 h1).1, h1⟩
    rw [hnil] at this; cases this
  | succ fuel ih =>
    intro listed Γ e H a w e2 hsz hdown hcount hS hst hrun heq
    refine ⟨?_, ?_⟩
    · intro hready
      refine finish listed Γ e H a w e2 hS hst ?_ hrun heq
      have all : ∀ i, i < ops.size → listed[i]? = some true := by
        intro i
        induction i using Nat.strongRecOn with
        | _ i ihi =>
          intro hi
          have hil : i < listed.size := by rw [hsz]; exact hi
          cases hb : listed[i] with
          | true => rw [Array.getElem?_eq_getElem hil, hb]
          | false =>
            have : i ∈ Region.ready .any ops listed := by
              rw [mem_ready]
              refine ⟨by simp [Array.getD_eq_getD_getElem?, Array.getElem?_eq_getElem hil, hb], ops[i], Array.getElem?_eq_getElem hi, ?_⟩
              intro ed hed hbd
              have hlt := hD.back i ops[i] (Array.getElem?_eq_getElem hi) ed hed hbd
              have := ihi ed.on hlt (by omega)
              rw [Array.getD_eq_getD_getElem?, this]; rfl
            rw [hready] at this; cases this
      apply List.eq_nil_iff_forall_not_mem.2
      intro j hj
      obtain ⟨h1, h2⟩ := y38.1 hj
      rw [all j h1] at h2; cases h2
    · intro i hi
      rw [mem_ready] at hi
      obtain ⟨hun, o, ho, hedges⟩ := hi
      have hunl := getD_true hun
      have hil : i < ops.size := (Array.getElem?_eq_some_iff.1 ho).1
      obtain ⟨pre, post, hs1, hs2, hpre⟩ := y4r hil hunl
      have hedges' : ∀ ed ∈ o.after, Region.binds .any ed = true → listed[ed.on]? = some true := fun ed hed hb => y5o (hedges ed hed hb)
      have hdl := y5c hD hdown i o ho hedges'
      rw [hs1] at hrun
      simp only [List.map_append, List.map_cons] at hrun
      obtain ⟨v, H1, e3, k1, k2, k3⟩ := front (by simp) (by
        intro k x f hx hf
        rw [List.getElem?_map, Option.map_eq_some_iff] at hx hf
        obtain ⟨j, hj, rfl⟩ := hx
        obtain ⟨j', hj', rfl⟩ := hf
        rw [hj] at hj'; cases hj'
        obtain ⟨hji, hjl⟩ := hpre j (List.mem_of_getElem? hj)
        rcases hD.pair i j (by rw [hD.len]; exact hil) hji with h | h
        · have := hdl j h
          rw [hjl] at this; cases this
        · exact h) hrun
      rw [← List.map_append, ← List.map_append, ← hs2] at k2
      have hdown' : y2r ops (listed.setIfInBounds i true) := by
        intro j oj hj hoj ed hed hb
        have keep : ∀ t : Nat, listed[t]? = some true → (listed.setIfInBounds i true)[t]? = some true := by
          intro t ht
          rw [Array.getElem?_setIfInBounds]
          split
          · rename_i h; subst h; rw [hunl] at ht; cases ht
          · exact ht
        by_cases hji : j = i
        · subst hji
          rw [ho] at hoj; cases hoj
          exact keep _ (hedges' ed hed hb)
        · rw [Array.getElem?_setIfInBounds, if_neg (fun h => hji h.symm)] at hj
          exact keep _ (hdown j oj hj hoj ed hed hb)
      have hcount' : (unlisted ops.size (listed.setIfInBounds i true)).length ≤ fuel := by
        have := congrArg List.length hs1
        have h2 := congrArg List.length hs2
        simp at this h2
        omega
      have hchk := hD.oper i o ho
      simp only [chkOper, Bool.and_eq_true] at hchk
      obtain ⟨⟨hd, hg⟩, hop⟩ := hchk
      obtain ⟨hd1, hd2⟩ := chkDst_eq hd
      unfold wpOp
      rw [ho]
      simp only
      unfold stepV at k1
      split at k1 <;> first | (cases k1; done) | skip
      · rename_i hw
        rw [y1b hS hg hw]
        simp only [if_true]
        left
        split at k1 <;> first | (cases k1; done) | skip
        split at k1 <;> first | (cases k1; done) | skip
        rename_i v' H' hev
        simp only [Option.some.injEq, Prod.mk.injEq] at k1
        obtain ⟨_, rfl, rfl⟩ := k1
        refine op_wp hC hS.env hS.rel hop hev ?_ ?_
        · intro v'' c w' Γ' hx hrep hR hst'
          cases hx
          rw [hd1]
          exact ih _ Γ' _ _ _ _ e3 (by simpa using hsz) hdown' hcount' ((hS.mono hst' hR).put hd2 hrep) (hst.trans hst') k2 (fun t => (k3 t).symm.trans (heq t))
        · intro v'' c w' Γ' hx; cases hx
      · rename_i hw
        rw [y1b hS hg hw]
        simp only [Bool.false_eq_true, if_false]
        simp only [Option.some.injEq, Prod.mk.injEq] at k1
        obtain ⟨_, rfl, rfl⟩ := k1
        rw [hd1]
        exact ih _ Γ _ _ _ _ e3 (by simpa using hsz) hdown' hcount' (hS.put hd2 (rep_undef Γ)) hst k2 (fun t => (k3 t).symm.trans (heq t))
theorem runD_len {C : Ctx} {base : Nat} : ∀ {l : List Item} {e e2 : Env} {H H2 : Heap} {fs : List Foot}, runD C base l e H = some (fs, e2, H2) → fs.length = l.length
  | [], e, e2, H, H2, fs, h => by simp [runD] at h; rw [h.1]; rfl
  | p :: l, e, e2, H, H2, fs, h => by
    simp only [runD] at h
    split at h <;> first | (cases h; done) | skip
    split at h <;> first | (cases h; done) | skip
    rename_i fs' r' hr
    simp only [Option.some.injEq, Prod.mk.injEq] at h
    obtain ⟨rfl, rfl⟩ := h
    simp [runD_len hr]
theorem y2x {deps : List Nat} {f : Foot} : ∀ {gs : List Foot} {o k : Nat} {g : Foot}, okEarlier deps f o gs = true → gs[k]? = some g → disj g f = true ∨ (o + k) ∈ deps
  | [], o, k, g, _, h => by simp at h
  | g0 :: gs, o, 0, g, hk, h => by
    simp only [okEarlier, Bool.and_eq_true, Bool.or_eq_true, Bool.not_eq_true'] at hk
    simp at h; subst h
    rcases hk.1 with h | h
    · exact .inl h
    · right
      by_cases hm : o ∈ deps
      · simpa using hm
      · rw [notIn_iff.2 hm] at h; cases h
  | g0 :: gs, o, k + 1, g, hk, h => by
    simp only [okEarlier, Bool.and_eq_true] at hk
    simp at h
    have := y2x (o := o + 1) (k := k) hk.2 h
    rwa [show o + 1 + k = o + (k + 1) by omega] at this
theorem okFs_get {all : List Foot} : ∀ {ps : List Item} {fs : List Foot} {i k : Nat} {p : Item} {f : Foot}, okFs all i ps fs = true → ps[k]? = some p → fs[k]? = some f → okEarlier p.2.2 f 0 (all.take (i + k)) = true
  | [], fs, i, k, p, f, _, h, _ => by simp at h
  | p0 :: ps, [], i, k, p, f, _, _, h => by simp at h
  | p0 :: ps, f0 :: fs, i, 0, p, f, hk, h1, h2 => by
    simp only [okFs, Bool.and_eq_true] at hk
    simp at h1 h2; subst h1; subst h2
    exact hk.1
  | p0 :: ps, f0 :: fs, i, k + 1, p, f, hk, h1, h2 => by
    simp only [okFs, Bool.and_eq_true] at hk
    have := okFs_get (i := i + 1) (k := k) hk.2 (by simpa using h1) (by simpa using h2)
    rwa [show i + 1 + k = i + (k + 1) by omega] at this
theorem y4f : ∀ {l : List AOper} {os : List Oper} {i : Nat} {o : Oper}, chkOps P n ops l os = true → os[i]? = some o → ∃ p, l[i]? = some p ∧ chkOper P n ops p o = true
  | [], [], i, o, _, h => by simp at h
  | [], _ :: _, i, o, hk, _ => by simp [chkOps] at hk
  | _ :: _, [], i, o, _, h => by simp at h
  | p :: l, o' :: os, 0, o, hk, h => by
    simp only [chkOps, Bool.and_eq_true] at hk
    simp at h; subst h
    exact ⟨p, rfl, hk.1⟩
  | p :: l, o' :: os, i + 1, o, hk, h => by
    simp only [chkOps, Bool.and_eq_true] at hk
    simp at h
    obtain ⟨q, h1, h2⟩ := y4f hk.2 h
    exact ⟨q, by simpa using h1, h2⟩
theorem y46 : ∀ {l : List AOper} {os : List Oper}, chkOps P n ops l os = true → l.length = os.length
  | [], [], _ => rfl
  | [], _ :: _, hk => by simp [chkOps] at hk
  | _ :: _, [], hk => by simp [chkOps] at hk
  | p :: l, o' :: os, hk => by
    simp only [chkOps, Bool.and_eq_true] at hk
    simp [y46 hk.2]
theorem y3m {y : AOper} {deps : List Nat} : ∀ {xs : List Item} {o k : Nat} {x : Item}, pairsOk y deps o xs = true → xs[k]? = some x → (o + k) ∈ deps ∨ regOk x.1 y = true
  | [], o, k, x, _, h => by simp at h
  | x0 :: xs, o, 0, x, hk, h => by
    simp only [pairsOk, Bool.and_eq_true, Bool.or_eq_true, Bool.not_eq_true'] at hk
    simp at h; subst h
    rcases hk.1 with h | h
    · left
      by_cases hm : o ∈ deps
      · simpa using hm
      · rw [notIn_iff.2 hm] at h; cases h
    · exact .inr h
  | x0 :: xs, o, k + 1, x, hk, h => by
    simp only [pairsOk, Bool.and_eq_true] at hk
    simp at h
    have := y3m (o := o + 1) (k := k) hk.2 h
    rwa [show o + 1 + k = o + (k + 1) by omega] at this
theorem y3n {x : Oper} {ds : List (List Nat)} : ∀ {ks : List Nat} {k : Nat}, allDeps x ds ks = true → k ∈ ks → depOk x ds k = true
  | [], k, _, h => by simp at h
  | k0 :: ks, k, hk, h => by
    simp only [allDeps, Bool.and_eq_true] at hk
    rcases List.mem_cons.1 h with rfl | h
    · exact hk.1
    · exact y3n hk.2 h
theorem y36 : ∀ {ps : List Item} {os : List Oper} {pre : List Item} {k : Nat} {p : Item} {o : Oper}, chkDrawL pre.length pre (pre.map (·.2.2)) ps os = true → ps[k]? = some p → os[k]? = some o →
    (∀ e ∈ o.after, Region.binds .any e = true → e.on < pre.length + k) ∧ allDeps o ((pre ++ ps.take k).map (·.2.2)) p.2.2 = true ∧ pairsOk p.1 p.2.2 0 (pre ++ ps.take k) = true
  | [], os, pre, k, p, o, _, h, _ => by simp at h
  | p0 :: ps, [], pre, k, p, o, _, _, h => by simp at h
  | p0 :: ps, o0 :: os, pre, 0, p, o, hk, h1, h2 => by
    simp only [chkDrawL, Bool.and_eq_true] at hk
    simp at h1 h2; subst h1; subst h2
    refine ⟨?_, by simpa using hk.1.1.2, by simpa using hk.1.2⟩
    intro e he hb
    have := List.all_eq_true.1 hk.1.1.1 e (by simpa using he)
    rw [hb] at this
    simpa [Nat.blt_eq] using this
  | p0 :: ps, o0 :: os, pre, k + 1, p, o, hk, h1, h2 => by
    simp only [chkDrawL, Bool.and_eq_true] at hk
    have h3 := hk.2
    have := y36 (ps := ps) (os := os) (pre := pre ++ [p0]) (k := k) (p := p) (o := o) (by simpa using h3) (by simpa using h1) (by simpa using h2)
    simp only [List.length_append, List.length_singleton, List.append_assoc, List.cons_append, List.nil_append] at this
    refine ⟨?_, by simpa using this.2.1, by simpa using this.2.2⟩
    intro e he hb
    have := this.1 e he hb
    omega
theorem y1u {i : Nat} {p : Item} (h : l[i]? = some p) : itemAt l i = p := by simp [itemAt, h]
theorem drawOk_of (hk : chkDraw P n l ops = true) {fs : List Foot} (hl : fs.length = l.length) (hf : okFs fs 0 l fs = true) : DrawOk P n ops l (fun i => (fs[i]?).getD default) := by
  simp only [chkDraw, Bool.and_eq_true] at hk
  obtain ⟨hk1, hk2⟩ := hk
  have hlen : l.length = ops.size := by simpa using y46 hk1
  have get : ∀ (i : Nat) (o : Oper), ops[i]? = some o → ∃ p, l[i]? = some p ∧ itemAt l i = p := by
    intro i o ho
    have hi : i < l.length := by rw [hlen]; exact (Array.getElem?_eq_some_iff.1 ho).1
    exact ⟨l[i], List.getElem?_eq_getElem hi, y1u (List.getElem?_eq_getElem hi)⟩
  have gd : ∀ (i : Nat) (o : Oper) (p : Item), ops[i]? = some o → l[i]? = some p → (∀ e ∈ o.after, Region.binds .any e = true → e.on < i) ∧ allDeps o ((l.take i).map (·.2.2)) p.2.2 = true ∧ pairsOk p.1 p.2.2 0 (l.take i) = true := by
    intro i o p ho hp
    have := y36 (pre := []) (k := i) (p := p) (o := o) hk2 hp (by simpa using ho)
    simpa using this
  refine ⟨hlen, ?_, ?_, ?_, ?_⟩
  · intro i o ho
    obtain ⟨p, h1, h2⟩ := get i o ho
    obtain ⟨q, h3, h4⟩ := y4f hk1 (i := i) (o := o) (by simpa using ho)
    rw [List.getElem?_map, h1] at h3
    simp at h3
    rw [h2, h3]; exact h4
  · intro i o ho
    obtain ⟨p, h1, h2⟩ := get i o ho
    exact (gd i o p ho h1).1
  · intro i o ho k hkk
    obtain ⟨p, h1, h2⟩ := get i o ho
    obtain ⟨g1, g2, _⟩ := gd i o p ho h1
    rw [h2] at hkk
    have := y3n g2 hkk
    simp only [depOk, edgeOn, Bool.or_eq_true, List.any_eq_true, Bool.and_eq_true] at this
    rcases this with ⟨ed, hed, hb, hq⟩ | ⟨ed, hed, hb, hq⟩
    · exact ⟨ed, by simpa using hed, hb, .inl (beq_eq hq)⟩
    · refine ⟨ed, by simpa using hed, hb, .inr ?_⟩
      have hlt := g1 ed (by simpa using hed) hb
      split at hq
      · rename_i d hd
        rw [List.getElem?_map, List.getElem?_take, if_pos hlt, Option.map_eq_some_iff] at hd
        obtain ⟨q, hq1, rfl⟩ := hd
        rw [y1u hq1]
        by_cases hm : k ∈ q.2.2
        · exact hm
        · rw [notIn_iff.2 hm] at hq; simp at hq
      · cases hq
  · intro i k hi hki
    have ho : ops[i]? = some ops[i] := Array.getElem?_eq_getElem (by omega)
    have hp : l[i]? = some l[i] := List.getElem?_eq_getElem hi
    have hq : l[k]? = some l[k] := List.getElem?_eq_getElem (by omega)
    have hfi : fs[i]? = some fs[i] := List.getElem?_eq_getElem (by omega)
    have hfk : fs[k]? = some fs[k] := List.getElem?_eq_getElem (by omega)
    rw [y1u hp, y1u hq]
    obtain ⟨_, _, g3⟩ := gd i _ _ ho hp
    have r1 := y3m (o := 0) (k := k) (x := l[k]) g3 (by rw [List.getElem?_take, if_pos hki]; exact hq)
    have r2 := y2x (o := 0) (k := k) (g := fs[k]) (okFs_get (i := 0) hf hp hfi) (by rw [List.getElem?_take, if_pos (by omega)]; exact hfk)
    simp only [Nat.zero_add] at r1 r2
    simp only [hfi, hfk, Option.getD_some]
    rcases r1 with h | h
    · exact .inl h
    · rcases r2 with h' | h'
      · exact .inr ⟨h, h'⟩
      · exact .inl h'
theorem draw_wp {C : Ctx} (hC : CallsOk P C.call) (hm : P.follows .mixedOrders = true) {id m : Nat} {Γ : Gh} {e : Env} {H : Heap} {a : Act} {w : World} {r : AEx × Env × Heap} (hk : chkDraw P n l ops = true) (hS : St Γ n e H a w)
    (hv : evalDraw C H.length l e (H ++ List.replicate m .hole) = some r) : (Code.region id ops true).wp P (QOk Γ w n r) a w := by
  unfold evalDraw at hv
  split at hv <;> first | (cases hv; done) | skip
  rename_i fs e' H' hrun
  split at hv <;> first | (cases hv; done) | skip
  rename_i hok
  cases hv
  have hfl := runD_len hrun
  have hD := drawOk_of hk hfl hok
  have hall : unlisted ops.size (Array.replicate ops.size false) = List.range ops.size := by
    unfold unlisted
    rw [List.filter_eq_self]
    intro i hi
    rw [List.mem_range] at hi
    simp [Array.getD_eq_getD_getElem?, Array.getElem?_replicate, hi]
  have hitems : (List.range ops.size).map (itemAt l) = l := by
    rw [← hD.len]
    apply List.ext_getElem?
    intro i
    rw [List.getElem?_map]
    by_cases hi : i < l.length
    · simp [hi, itemAt]
    · simp [hi]
  have hfoots : (List.range ops.size).map (fun i => (fs[i]?).getD default) = fs := by
    rw [← hD.len, ← hfl]
    apply List.ext_getElem?
    intro i
    rw [List.getElem?_map]
    by_cases hi : i < fs.length
    · simp [hi]
    · simp [hi]
  refine wp_region_any hm ?_
  refine any_wp hC (base := H.length) hD ops.size _ Γ e (H ++ List.replicate m .hole) a _ e' (by simp) ?_ ?_ ?_ ?_ ?_ (fun _ => rfl)
  · intro i o hi
    simp [Array.getElem?_replicate] at hi
  · rw [hall]; simp
  · exact ⟨hS.env, (hS.rel.holes m).drew _, hS.size, hS.defers⟩
  · exact Stp.drew Γ w _
  · rw [hall, hitems, hfoots]; exact hrun
end
end Go.Ev
namespace Go.Ev
set_option linter.unusedVariables false
set_option linter.unusedSimpArgs false
open Go
def chkCode (P : Program) (n : Nat) : ACode → Code → Bool
  | .skip, c => match c with
    | .skip => true
    | .label _ => true
    | _ => false
  | .reg l, c => match c with
    | .region _ ops draw => !draw && chkOps P n ops l ops.toList
    | _ => false
  | .draw _ l, c => match c with
    | .region _ ops draw => draw && chkDraw P n l ops
    | _ => false
  | .seq a b, c => match a with
    | .own _ _ => chkCode P n b c
    | .shutl _ _ => chkCode P n b c
    | .prune _ => chkCode P n b c
    | _ => match b with
      | .own _ _ => chkCode P n a c
      | _ => match c with
        | .seq c d => chkCode P n a c && chkCode P n b d
        | _ => false
  | .cond x a b, c => match c with
    | .cond y c d => chkO x y && chkCode P n a c && chkCode P n b d
    | _ => false
  | .block i a, c => match c with
    | .block j c => decide (i = j) && chkCode P n a c
    | _ => false
  | .loop _ a, c => match c with
    | .loop c => chkCode P n a c
    | _ => false
  | .exit i, c => match c with
    | .exit j => decide (i = j)
    | _ => false
  | .ret, c => match c with
    | .ret => true
    | _ => false
  | .own _ _, _ => false
  | .shutl _ _, _ => false
  | .prune _, _ => false
  | .scope a, c => match c with
    | .scope c => chkCode P n a c
    | _ => false
  | .ext _ _, _ => false
  | .stmt _ _ a, c => chkCode P n a c
  | .fork _ _ a, c => chkCode P n a c
def chkRes (P : Program) : List ARes → List ResultVar → Bool
  | [], [] => true
  | r :: rs, v :: vs => (match r with
    | .t n => match v with
      | .tmp m => decide (n = m)
      | _ => false
    | .cs n => match v with
      | .cell m t => decide (n = m) && decide (aggB P t = some false)
      | _ => false
    | .ca n k => match v with
      | .cell m t => decide (n = m) && decide (aggB P t = some true) && sizeB P t k
      | _ => false) && chkRes P rs vs
  | _, _ => false
def chkFun (P : Program) (f : Nat) (af : AFunc) : Bool :=
  match P.funcs[f]? with
  | some fn => match fn.body with
    | some c => !(fn.name == "runtime.NumGoroutine") && chkCode P fn.ntmps af.body c && chkRes P af.results fn.results.toList
    | none => false
  | none => false
section
variable {P : Program} {n : Nat}
theorem QOk.trans {Γ0 Γ : Gh} {w0 w : World} {r : AEx × Env × Heap} {ex : Exit} {a : Act} {w' : World} (h : Stp Γ0 w0 Γ w) (hq : QOk Γ w n r ex a w') : QOk Γ0 w0 n r ex a w' := by
  obtain ⟨Γ', h1, h2, h3⟩ := hq
  exact ⟨Γ', h.trans h1, h2, h3⟩
theorem code_wp {C : Ctx} (hC : CallsOk P C.call) (hm : P.follows .mixedOrders = true) : ∀ (c : ACode) (c' : Code) (Γ : Gh) (e : Env) (H : Heap) (a : Act) (w : World) (r : AEx × Env × Heap), chkCode P n c c' = true → St Γ n e H a w →
    evalCode C c e H = some r → c'.wp P (QOk Γ w n r) a w := by
  intro c
  induction c with
  | skip =>
    intro c' Γ e H a w r hk hS hv
    simp only [evalCode, Option.some.injEq] at hv
    subst hv
    cases c' <;> simp only [chkCode, Bool.false_eq_true] at hk
    · exact wp_skip ⟨Γ, Stp.refl Γ w, hS, trivial⟩
    · exact wp_label ⟨Γ, Stp.refl Γ w, hS, trivial⟩
  | reg l =>
    intro c' Γ e H a w r hk hS hv
    simp only [evalCode] at hv
    cases c' <;> simp only [chkCode, Bool.false_eq_true, Bool.and_eq_true, Bool.not_eq_true'] at hk
    rename_i id ops draw
    obtain ⟨rfl, hk⟩ := hk
    exact reg_wp hC hk hS hv
  | draw m l =>
    intro c' Γ e H a w r hk hS hv
    simp only [evalCode] at hv
    cases c' <;> simp only [chkCode, Bool.false_eq_true, Bool.and_eq_true] at hk
    rename_i id ops draw
    obtain ⟨rfl, hk⟩ := hk
    exact draw_wp hC hm hk hS hv
  | seq x y ihx ihy =>
    intro c' Γ e H a w r hk hS hv
    have go : ∀ c1 c2, c' = .seq c1 c2 → chkCode P n x c1 = true → chkCode P n y c2 = true → c'.wp P (QOk Γ w n r) a w := by
      rintro c1 c2 rfl h1 h2
      simp only [evalCode] at hv
      refine wp_seq ?_
      cases hx : evalCode C x e H with
      | none => rw [hx] at hv; cases hv
      | some r1 =>
        rw [hx] at hv
        refine wp_mono (ihx c1 Γ e H a w r1 h1 hS hx) ?_
        rintro ex a1 w1 ⟨Γ1, hst, hS1, hex⟩
        obtain ⟨x1, e1, H1⟩ := r1
        cases x1 with
        | norm =>
          cases ex <;> simp only [ExitOk] at hex
          simp only at hv
          simp only [Exit.then]
          exact wp_mono (ihy c2 Γ1 e1 H1 a1 w1 r h2 hS1 hv) fun ex a2 w2 hq => QOk.trans hst hq
        | exit i =>
          simp only [Option.some.injEq] at hv; subst hv
          cases ex <;> simp only [ExitOk] at hex
          exact ⟨Γ1, hst, hS1, hex⟩
        | ret =>
          simp only [Option.some.injEq] at hv; subst hv
          cases ex <;> simp only [ExitOk] at hex
          exact ⟨Γ1, hst, hS1, trivial⟩
        | pan v =>
          simp only [Option.some.injEq] at hv; subst hv
          cases ex <;> simp only [ExitOk] at hex
          exact ⟨Γ1, hst, hS1, hex⟩
    have go2 : ∀ t off, y = .own t off → chkCode P n x c' = true → c'.wp P (QOk Γ w n r) a w := by
      rintro t off rfl h1
      simp only [evalCode] at hv
      cases hx : evalCode C x e H with
      | none => rw [hx] at hv; cases hv
      | some r1 =>
        rw [hx] at hv
        refine wp_mono (ihx c' Γ e H a w r1 h1 hS hx) ?_
        rintro ex a1 w1 ⟨Γ1, hst, hS1, hex⟩
        obtain ⟨x1, e1, H1⟩ := r1
        cases x1 with
        | norm =>
          cases ex <;> simp only [ExitOk] at hex
          simp only [Option.some.injEq] at hv; subst hv
          obtain ⟨Γ2, hS2, hst2⟩ := own_sound (t := t) (off := off) hS1
          exact ⟨Γ2, hst.trans hst2, hS2, trivial⟩
        | exit i =>
          simp only [Option.some.injEq] at hv; subst hv
          cases ex <;> simp only [ExitOk] at hex
          exact ⟨Γ1, hst, hS1, hex⟩
        | ret =>
          simp only [Option.some.injEq] at hv; subst hv
          cases ex <;> simp only [ExitOk] at hex
          exact ⟨Γ1, hst, hS1, trivial⟩
        | pan v =>
          simp only [Option.some.injEq] at hv; subst hv
          cases ex <;> simp only [ExitOk] at hex
          exact ⟨Γ1, hst, hS1, hex⟩
    cases x with
    | own t off =>
      simp only [chkCode] at hk
      simp only [evalCode] at hv
      obtain ⟨Γ1, hS1, hst⟩ := own_sound (t := t) (off := off) hS
      exact wp_mono (ihy c' Γ1 _ _ a w r hk hS1 hv) fun ex a2 w2 hq => QOk.trans hst hq
    | prune keep =>
      simp only [chkCode] at hk
      simp only [evalCode] at hv
      exact ihy c' Γ _ _ a w r hk (hS.restr keep) hv
    | shutl t off =>
      simp only [chkCode] at hk
      simp only [evalCode] at hv
      obtain ⟨Γ1, hS1, hst⟩ := y5p (t := t) (off := off) hS
      exact wp_mono (ihy c' Γ1 _ _ a w r hk hS1 hv) fun ex a2 w2 hq => QOk.trans hst hq
    | _ =>
      cases y with
      | own t off => exact go2 t off rfl (by simpa only [chkCode] using hk)
      | _ =>
        cases c' <;> simp only [chkCode, Bool.false_eq_true, Bool.and_eq_true] at hk
        first | exact go _ _ rfl hk.1 hk.2 | exact hk.2.elim | exact hk.1.elim
  | cond x y z ihy ihz =>
    intro c' Γ e H a w r hk hS hv
    cases c' <;> simp only [chkCode, Bool.false_eq_true, Bool.and_eq_true] at hk
    rename_i y' c1 c2
    obtain ⟨⟨hx, h1⟩, h2⟩ := hk
    simp only [evalCode] at hv
    split at hv <;> first | (cases hv; done) | skip
    rename_i t ht
    have hc := (ev_rep hS.env hx ht).bool_inv
    refine wp_cond hc ?_
    cases t with
    | true => exact ihy c1 Γ e H a w r h1 hS (by simpa using hv)
    | false => exact ihz c2 Γ e H a w r h2 hS (by simpa using hv)
  | block id x ih =>
    intro c' Γ e H a w r hk hS hv
    cases c' <;> simp only [chkCode, Bool.false_eq_true, Bool.and_eq_true, decide_eq_true_eq] at hk
    obtain ⟨rfl, hk⟩ := hk
    simp only [evalCode] at hv
    refine wp_block ?_
    cases hx : evalCode C x e H with
    | none => rw [hx] at hv; cases hv
    | some r1 =>
      rw [hx] at hv
      refine wp_mono (ih _ Γ e H a w r1 hk hS hx) ?_
      rintro ex a1 w1 ⟨Γ1, hst, hS1, hex⟩
      obtain ⟨x1, e1, H1⟩ := r1
      cases x1 with
      | norm =>
        simp only [Option.some.injEq] at hv; subst hv
        cases ex <;> simp only [ExitOk] at hex
        exact ⟨Γ1, hst, hS1, trivial⟩
      | exit i =>
        simp only at hv
        cases ex <;> simp only [ExitOk] at hex
        subst hex
        simp only [Exit.inBlock]
        split at hv
        · rename_i h; cases hv
          rw [if_pos h]
          exact ⟨Γ1, hst, hS1, trivial⟩
        · rename_i h; cases hv
          rw [if_neg h]
          exact ⟨Γ1, hst, hS1, rfl⟩
      | ret =>
        simp only [Option.some.injEq] at hv; subst hv
        cases ex <;> simp only [ExitOk] at hex
        exact ⟨Γ1, hst, hS1, trivial⟩
      | pan v =>
        simp only [Option.some.injEq] at hv; subst hv
        cases ex <;> simp only [ExitOk] at hex
        exact ⟨Γ1, hst, hS1, hex⟩
  | loop keep x ih =>
    intro c' Γ e H a w r hk hS hv
    cases c' <;> simp only [chkCode, Bool.false_eq_true] at hk
    rename_i c1
    simp only [evalCode] at hv
    let f : Env → Heap → Option (AEx × Env × Heap) := fun e' H' => evalCode C x (restr e' keep) (trunc H.length (restr e' keep) H')
    let I : Nat → Act → World → Prop := fun k a' w' => ∃ Γ' e' H', St Γ' n e' H' a' w' ∧ Stp Γ w Γ' w' ∧ iter k f e' H' = some r
    refine wp_loop_n I ?_ ?_ C.fuel ⟨Γ, e, H, hS, Stp.refl Γ w, hv⟩
    · rintro a' w' ⟨Γ', e', H', _, _, h⟩
      simp [iter] at h
    · rintro k a' w' ⟨Γ', e', H', hS', hst', h⟩
      simp only [iter] at h
      obtain ⟨Γ2, hS2, hst2⟩ := y3s hS.rel rfl (hS'.restr keep) hst'
      cases hx : f e' H' with
      | none => rw [hx] at h; cases h
      | some r1 =>
        rw [hx] at h
        refine wp_mono (ih c1 Γ2 _ _ a' w' r1 hk hS2 hx) ?_
        rintro ex a1 w1 ⟨Γ1, hst, hS1, hex⟩
        obtain ⟨x1, e1, H1⟩ := r1
        cases x1 with
        | norm =>
          cases ex <;> simp only [ExitOk] at hex
          exact ⟨Γ1, e1, H1, hS1, hst2.trans hst, h⟩
        | exit i =>
          simp only [Option.some.injEq] at h; subst h
          cases ex <;> simp only [ExitOk] at hex
          exact ⟨Γ1, hst2.trans hst, hS1, hex⟩
        | ret =>
          simp only [Option.some.injEq] at h; subst h
          cases ex <;> simp only [ExitOk] at hex
          exact ⟨Γ1, hst2.trans hst, hS1, trivial⟩
        | pan v =>
          simp only [Option.some.injEq] at h; subst h
          cases ex <;> simp only [ExitOk] at hex
          exact ⟨Γ1, hst2.trans hst, hS1, hex⟩
  | exit id =>
    intro c' Γ e H a w r hk hS hv
    cases c' <;> simp only [chkCode, Bool.false_eq_true, decide_eq_true_eq] at hk
    simp only [evalCode, Option.some.injEq] at hv
    subst hv; subst hk
    exact wp_exit ⟨Γ, Stp.refl Γ w, hS, rfl⟩
  | ret =>
    intro c' Γ e H a w r hk hS hv
    cases c' <;> simp only [chkCode, Bool.false_eq_true] at hk
    simp only [evalCode, Option.some.injEq] at hv
    subst hv
    exact wp_ret ⟨Γ, Stp.refl Γ w, hS, trivial⟩
  | own t off =>
    intro c' Γ e H a w r hk hS hv
    simp [chkCode] at hk
  | shutl t off =>
    intro c' Γ e H a w r hk hS hv
    simp [chkCode] at hk
  | prune keep =>
    intro c' Γ e H a w r hk hS hv
    simp [chkCode] at hk
  | fork t keep x ih =>
    intro c' Γ e H a w r hk hS hv
    simp only [chkCode] at hk
    simp only [evalCode] at hv
    split at hv
    · rename_i f ht
      obtain ⟨y, e1, e2, H1, k1, k2, hy, q1, q2⟩ := meet_inv hv
      have hrep := hS.env _ _ ht
      have fin : ∀ (b : Bool), Rep Γ (.emp b) (a.tmps.getD t undef) → c'.wp P (QOk Γ w n r) a w := by
        intro b hb
        have hS' : St Γ n ((t, .emp b) :: e) H a w := by
          refine ⟨?_, hS.rel, hS.size, hS.defers⟩
          intro u x hx
          simp only [Env.get] at hx
          split at hx
          · rename_i hu; cases hx; rw [← hu]; exact hb
          · exact hS.env u x hx
        have go : ∀ e3, evalCode C x ((t, .emp b) :: e) H = some (y, e3, H1) → r = (y, restr e3 keep, H1) → c'.wp P (QOk Γ w n r) a w := by
          rintro e3 h1 rfl
          refine wp_mono (ih c' Γ _ H a w _ hk hS' h1) ?_
          rintro ex a1 w1 ⟨Γ1, hst, hS1, hex⟩
          exact ⟨Γ1, hst, hS1.restr keep, hex⟩
        cases b with
        | true => exact go e1 k1 q1
        | false => exact go e2 k2 q2
      generalize a.tmps.getD t undef = c at hrep fin
      cases hrep with
      | lstN => exact fin true .empN
      | lstE h => exact fin false .empE
      | lst => exact fin false .empE
    · exact ih c' Γ e H a w r hk hS hv
  | scope x ih =>
    intro c' Γ e H a w r hk hS hv
    cases c' <;> simp only [chkCode, Bool.false_eq_true] at hk
    rename_i c1
    simp only [evalCode] at hv
    refine wp_scope_straight (wp_mono (ih c1 Γ e H a w r hk hS hv) ?_)
    intro ex a1 w1 hq
    cases ex with
    | goto l =>
      obtain ⟨Γ1, _, _, hex⟩ := hq
      obtain ⟨x1, e1, H1⟩ := r
      cases x1 <;> simp only [ExitOk] at hex
    | _ => exact hq
  | ext n g =>
    intro c' Γ e H a w r hk hS hv
    simp only [chkCode, Bool.false_eq_true] at hk
  | stmt keep frz x ih =>
    intro c' Γ e H a w r hk hS hv
    simp only [chkCode] at hk
    simp only [evalCode] at hv
    cases hx : evalCode C x e H with
    | none => rw [hx] at hv; cases hv
    | some r1 =>
      rw [hx] at hv
      refine wp_mono (ih c' Γ e H a w r1 hk hS hx) ?_
      rintro ex a1 w1 ⟨Γ1, hst, hS1, hex⟩
      obtain ⟨x1, e1, H1⟩ := r1
      cases x1 with
      | norm =>
        simp only [Option.some.injEq] at hv; subst hv
        cases ex <;> simp only [ExitOk] at hex
        obtain ⟨Γ2, hS3, hst3⟩ := y3s hS.rel rfl ((y37 frz hS1).restr keep) hst
        exact ⟨Γ2, hst3, hS3, trivial⟩
      | exit i =>
        simp only [Option.some.injEq] at hv; subst hv
        cases ex <;> simp only [ExitOk] at hex
        exact ⟨Γ1, hst, hS1, hex⟩
      | ret =>
        simp only [Option.some.injEq] at hv; subst hv
        cases ex <;> simp only [ExitOk] at hex
        exact ⟨Γ1, hst, hS1, trivial⟩
      | pan v =>
        simp only [Option.some.injEq] at hv; subst hv
        cases ex <;> simp only [ExitOk] at hex
        exact ⟨Γ1, hst, hS1, hex⟩
theorem loadS_ptr {Γ : Gh} {H : Heap} {p v : AVal} {c : Value} (hv : loadS H p = some v) (hr : Rep Γ p c) : ∃ ad, c = .pointer (some ad) := by
  cases hr <;> simp [loadS] at hv
  all_goals exact ⟨_, rfl⟩
theorem loadA_ptr {Γ : Gh} {H : Heap} {k : Nat} {p v : AVal} {c : Value} (hv : loadA H k p = some v) (hr : Rep Γ p c) : ∃ ad, c = .pointer (some ad) := by
  cases hr <;> simp [loadA] at hv
  all_goals exact ⟨_, rfl⟩
def resRun (tmps : Array Value) (r : ResultVar) : Sem Value :=
  match r with
  | .tmp t => pure (tmps.getD t undef)
  | .cell a t => do loadVar t (← asAddr (tmps.getD a undef))
theorem res_one {Γ : Gh} {e : Env} {H : Heap} {a : Act} {w : World} (hS : St Γ n e H a w) {rs : List ARes} {vs : List ResultVar} (hk : chkRes P rs vs = true) {us : List AVal} (hv : resAll e H rs = some us) :
    ∃ cs, (vs.mapM (resRun a.tmps)).run P w = .ok cs w ∧ Reps Γ us cs := by
  induction rs generalizing vs us with
  | nil =>
    cases vs with
    | cons => simp [chkRes] at hk
    | nil =>
      simp [resAll] at hv; subst hv
      exact ⟨[], by simp, Reps.nil Γ⟩
  | cons r rs ih =>
    cases vs with
    | nil => simp [chkRes] at hk
    | cons x vs =>
      simp only [chkRes, Bool.and_eq_true] at hk
      obtain ⟨hk1, hk2⟩ := hk
      simp only [resAll] at hv
      split at hv <;> first | (cases hv; done) | skip
      rename_i u hu
      split at hv <;> first | (cases hv; done) | skip
      rename_i us' hus
      cases hv
      obtain ⟨cs, h1, h2⟩ := ih hk2 hus
      have one : ∃ c, (resRun a.tmps x).run P w = .ok c w ∧ Rep Γ u c := by
        cases r with
        | t k =>
          cases x <;> simp only [Bool.false_eq_true, decide_eq_true_eq] at hk1
          subst hk1
          simp only [resOf] at hu
          exact ⟨_, rfl, hS.env _ _ hu⟩
        | cs k =>
          cases x <;> simp only [Bool.false_eq_true, Bool.and_eq_true, decide_eq_true_eq] at hk1
          obtain ⟨rfl, ht⟩ := hk1
          simp only [resOf] at hu
          split at hu <;> first | (cases hu; done) | skip
          rename_i p hp
          have hrep := hS.env _ _ hp
          obtain ⟨ad, had⟩ := loadS_ptr hu hrep
          obtain ⟨d, hd, hrd⟩ := y3u hS.rel ht hu hrep
          refine ⟨d, ?_, hrd⟩
          rw [had] at hd
          simp only [Instr.loadAt, Instr.sureAddr, Sem.run_bind, Sem.run_pure, Result.andThen_ok] at hd
          simp only [resRun, had, asAddr, Sem.run_bind, Sem.run_pure, Result.andThen_ok]
          exact hd
        | ca k m =>
          cases x <;> simp only [Bool.false_eq_true, Bool.and_eq_true, decide_eq_true_eq] at hk1
          obtain ⟨⟨rfl, ht⟩, hsz⟩ := hk1
          simp only [resOf] at hu
          split at hu <;> first | (cases hu; done) | skip
          rename_i p hp
          have hrep := hS.env _ _ hp
          obtain ⟨ad, had⟩ := loadA_ptr hu hrep
          obtain ⟨d, hd, hrd⟩ := y3p hS.rel ht hsz hu hrep
          refine ⟨d, ?_, hrd⟩
          rw [had] at hd
          simp only [Instr.loadAt, Instr.sureAddr, Sem.run_bind, Sem.run_pure, Result.andThen_ok] at hd
          simp only [resRun, had, asAddr, Sem.run_bind, Sem.run_pure, Result.andThen_ok]
          exact hd
      obtain ⟨c, h3, h4⟩ := one
      exact ⟨c :: cs, by simp [List.mapM_cons, h3, h1], Reps.cons h4 h2⟩
theorem y5h {Γ : Gh} {e : Env} {H : Heap} {a : Act} {w : World} (hS : St Γ n e H a w) {fn : Func} {rs : List ARes} (hk : chkRes P rs fn.results.toList = true) {us : List AVal} (hv : resAll e H rs = some us) :
    ∃ c, (results fn a.tmps).run P w = .ok c w ∧ Rep Γ (oneOr us) c := by
  obtain ⟨cs, h1, h2⟩ := res_one hS hk hv
  have hrun : (results fn a.tmps).run P w = .ok (if h : cs.toArray.size = 1 then cs.toArray[0] else .tuple cs.toArray) w := by
    have : results fn a.tmps = (do
      let vs ← fn.results.mapM (resRun a.tmps)
      pure (if h : vs.size = 1 then vs[0] else .tuple vs)) := rfl
    rw [this]
    simp only [Array.mapM_eq_mapM_toList, Sem.run_bind, Sem.run_map, h1, Result.andThen_ok, Sem.run_pure]
  refine ⟨_, hrun, ?_⟩
  have hl := h2.1
  match us, cs, hl, h2 with
  | [], [], _, _ => exact .tup (cs := []) (ds := []) rfl (by simp)
  | [u], [c], _, h2 => exact h2.2 0 u c rfl rfl
  | u :: u' :: us, c :: c' :: cs, _, h2 =>
    simp only [oneOr, List.size_toArray, List.length_cons]
    rw [dif_neg (by omega)]
    exact .tup h2.1 h2.2
theorem y3v : ∀ {as : List AVal} {i t : Nat} {v : AVal}, (initEnv i as).get t = some v → i ≤ t ∧ as[t - i]? = some v
  | [], i, t, v, h => by simp [initEnv, Env.get] at h
  | x :: xs, i, t, v, h => by
    simp only [initEnv, Env.get] at h
    split at h
    · rename_i hi; subst hi; cases h; exact ⟨Nat.le_refl _, by simp⟩
    · obtain ⟨h1, h2⟩ := y3v h
      refine ⟨by omega, ?_⟩
      rw [show t - i = (t - (i + 1)) + 1 by omega]
      simpa using h2
theorem init_St {Γ : Gh} {H : Heap} {w : World} {as : List AVal} {cs : Array Value} (hR : Rel Γ H w) (hr : Reps Γ as cs.toList) (n : Nat) : St Γ n (initEnv 0 as) H { tmps := cs ++ Array.replicate (n - cs.size) undef, defers := [] } w := by
  refine ⟨?_, hR, ?_, rfl⟩
  · intro t v hv
    obtain ⟨_, h⟩ := y3v hv
    simp only [Nat.sub_zero] at h
    obtain ⟨d, hd, hrep⟩ := hr.get h
    have hlt : t < cs.size := by
      have := (List.getElem?_eq_some_iff.1 hd).1
      simpa using this
    have : (cs ++ Array.replicate (n - cs.size) undef)[t]? = some d := by
      rw [Array.getElem?_append_left hlt]
      simpa using hd
    simpa [Array.getD_eq_getD_getElem?, this] using hrep
  · simp; omega
theorem fun_calls {C : Ctx} (hC : CallsOk P C.call) (hm : P.follows .mixedOrders = true) {f : FuncId} {af : AFunc} (hk : chkFun P f af = true) {as : List AVal} {H H' : Heap} {x : Ex} (hv : finish af (evalCode C af.body (initEnv 0 as) H) = some (x, H')) :
    (∃ fn, P.funcs[f]? = some fn ∧ fn.body.isSome = true ∧ (fn.name == "runtime.NumGoroutine") = false) ∧
    ∀ (Γ : Gh) (w : World) (cs : Array Value), Rel Γ H w → Reps Γ as cs.toList → Calls P f cs w fun e w' => ∃ Γ', Rel Γ' H' w' ∧ Stp Γ w Γ' w' ∧ ExOk Γ' x e := by
  unfold chkFun at hk
  split at hk <;> first | (cases hk; done) | skip
  rename_i fn hf
  split at hk <;> first | (cases hk; done) | skip
  rename_i c hb
  simp only [Bool.and_eq_true, Bool.not_eq_true'] at hk
  obtain ⟨⟨hname, hcode⟩, hres⟩ := hk
  refine ⟨⟨fn, hf, by rw [hb]; rfl, hname⟩, ?_⟩
  intro Γ w cs hR hr
  refine calls_of_wp hf hb ?_
  cases hx : evalCode C af.body (initEnv 0 as) H with
  | none => rw [hx] at hv; simp [finish] at hv
  | some r =>
    rw [hx] at hv
    refine wp_mono (code_wp hC hm af.body c Γ _ H _ w r hcode (init_St hR hr fn.ntmps) hx) ?_
    rintro ex a1 w1 ⟨Γ1, hst, hS1, hex⟩
    obtain ⟨x1, e1, H1⟩ := r
    have done : ∀ vs, resAll e1 H1 af.results = some vs → x = .ok (oneOr vs) → H1 = H' → a1.defers = [] ∧ ∃ v, (results fn a1.tmps).run P w1 = .ok v w1 ∧ ∃ Γ', Rel Γ' H' w1 ∧ Stp Γ w Γ' w1 ∧ ExOk Γ' x (.returned v) := by
      rintro vs h1 rfl rfl
      obtain ⟨v, h2, h3⟩ := y5h hS1 hres h1
      exact ⟨hS1.defers, v, h2, Γ1, hS1.rel, hst, h3⟩
    cases x1 with
    | norm =>
      cases ex <;> simp only [ExitOk] at hex
      simp only [finish] at hv
      split at hv <;> first | (cases hv; done) | skip
      rename_i vs hvs
      simp only [Option.some.injEq, Prod.mk.injEq] at hv
      exact done vs hvs hv.1.symm hv.2
    | ret =>
      cases ex <;> simp only [ExitOk] at hex
      simp only [finish] at hv
      split at hv <;> first | (cases hv; done) | skip
      rename_i vs hvs
      simp only [Option.some.injEq, Prod.mk.injEq] at hv
      exact done vs hvs hv.1.symm hv.2
    | exit i => simp [finish] at hv
    | pan v =>
      cases ex <;> simp only [ExitOk] at hex
      simp only [finish, Option.some.injEq, Prod.mk.injEq] at hv
      obtain ⟨rfl, rfl⟩ := hv
      exact ⟨hS1.defers, Γ1, hS1.rel, hst, hex⟩
def tabOf (l : List (Option AFunc)) (f : Nat) : Option AFunc := (l[f]?).join
def ExtOk (P : Program) (f : FuncId) (af : AFunc) : Prop :=
  (∃ fn, P.funcs[f]? = some fn ∧ fn.body.isSome = true ∧ (fn.name == "runtime.NumGoroutine") = false) ∧
  ∀ (C : Ctx) (as : List AVal) (H H' : Heap) (x : Ex), finish af (evalCode C af.body (initEnv 0 as) H) = some (x, H') →
    ∀ (Γ : Gh) (w : World) (cs : Array Value), Rel Γ H w → Reps Γ as cs.toList → Calls P f cs w fun e w' => ∃ Γ', Rel Γ' H' w' ∧ Stp Γ w Γ' w' ∧ ExOk Γ' x e
def chkTabE (P : Program) (xs : List Nat) : Nat → List (Option AFunc) → Bool
  | _, [] => true
  | i, none :: l => chkTabE P xs (i + 1) l
  | i, some af :: l => (xs.any (Nat.beq i) || chkFun P i af) && chkTabE P xs (i + 1) l
theorem y2c {xs : List Nat} : ∀ {l : List (Option AFunc)} {i k : Nat} {af : AFunc}, chkTabE P xs i l = true → l[k]? = some (some af) → (i + k) ∈ xs ∨ chkFun P (i + k) af = true
  | [], i, k, af, _, h => by simp at h
  | none :: l, i, 0, af, hk, h => by simp at h
  | some x :: l, i, 0, af, hk, h => by
    simp only [chkTabE, Bool.and_eq_true, Bool.or_eq_true] at hk
    simp at h; subst h
    rcases hk.1 with h1 | h1
    · obtain ⟨y, hy, hb⟩ := List.any_eq_true.1 h1
      have := Nat.eq_of_beq_eq_true hb
      subst this
      exact .inl hy
    · exact .inr h1
  | none :: l, i, k + 1, af, hk, h => by
    simp only [chkTabE] at hk
    have := y2c (i := i + 1) (k := k) hk (by simpa using h)
    rwa [show i + 1 + k = i + (k + 1) by omega] at this
  | some x :: l, i, k + 1, af, hk, h => by
    simp only [chkTabE, Bool.and_eq_true] at hk
    have := y2c (i := i + 1) (k := k) hk.2 (by simpa using h)
    rwa [show i + 1 + k = i + (k + 1) by omega] at this
theorem calls_okE {l : List (Option AFunc)} {xs : List Nat} (hm : P.follows .mixedOrders = true) (hk : chkTabE P xs 0 l = true) (hx : ∀ f, f ∈ xs → ∀ af, l[f]? = some (some af) → ExtOk P f af) : ∀ k, CallsOk P (callF (tabOf l) k) := by
  intro k
  induction k with
  | zero => intro f as H H' x h; simp [callF] at h
  | succ k ih =>
    intro f as H H' x h
    simp only [callF] at h
    split at h <;> first | (cases h; done) | skip
    rename_i af haf
    have hl : l[f]? = some (some af) := by
      unfold tabOf at haf
      cases hx : l[f]? with
      | none => rw [hx] at haf; cases haf
      | some o => rw [hx] at haf; simp at haf; rw [haf]
    have := y2c (i := 0) hk hl
    rw [Nat.zero_add] at this
    rcases this with h1 | h1
    · obtain ⟨e1, e2⟩ := hx f h1 af hl
      exact ⟨e1, e2 _ _ _ _ _ h⟩
    · exact fun_calls (C := ⟨callF (tabOf l) k, k⟩) ih hm h1 h
end
end Go.Ev
namespace Go.Ev
set_option linter.unusedVariables false
set_option linter.unusedSimpArgs false
open Go Go.RowKit
def Gh.all (W : World) : Gh := ⟨fun g o => W.cell? ⟨g, o, none⟩, fun _ => none, fun _ _ => none, fun _ => none⟩
theorem Rel.all (W : World) : Rel (Gh.all W) [] W := ⟨fun _ _ _ h => h, by simp, fun _ _ => ⟨rfl, fun _ => rfl⟩, by simp [Gh.all]⟩
theorem y5y {H : Heap} {v : AVal} {b : Bool} (h : shutR H v = some (.bool b)) : v = .bool b := by
  cases v <;> simp only [shutR, Option.some.injEq, reduceCtorEq] at h <;> first | exact h | (split at h <;> simp at h; done) | skip
  all_goals (try unfold growAt at h)
  all_goals (split at h <;> first | (cases h; done) | (split at h <;> simp at h))
theorem y5v {P : Program} {l : List (Option AFunc)} (hC : ∀ k, CallsOk P (callF (tabOf l) k)) {f k : Nat} {as : List AVal} {b : Bool} (h : pcall (tabOf l) k f as = some (.ok (.bool b))) {W : World} {args : Array Value}
    (hr : Reps (Gh.all W) as args.toList) : Calls P f args W fun e W' => e = .returned (.bool b) ∧ Below W.heap.size W W' := by
  unfold pcall pureRes at h
  split at h <;> first | (cases h; done) | skip
  · rename_i v H hc
    split at h <;> first | (cases h; done) | skip
    rename_i v' hs
    simp only [Option.some.injEq, Ex.ok.injEq] at h
    subst h
    have hv := y5y hs
    subst hv
    refine ((hC k f as [] H _ hc).2 (Gh.all W) W args (Rel.all W) hr).mono ?_
    rintro e W' ⟨Γ', hR, hst, hex⟩
    cases e <;> simp only [ExOk] at hex
    refine ⟨by rw [hex.bool_inv], hst.os, hst.tape, hst.output, hst.size, ?_⟩
    intro g hg
    exact hst.heap g hg rfl
  · split at h <;> simp at h
theorem y2t {H : Type} {enc : TypeId × Value → H} {P : Program} {W W' : World} {sp : Nat → Bool} (hl : laidOutB P = true) : ∀ {ts : List TypeId} {vs : List Value} {ds : List (DataW H)} {ps : List MemPlace},
    ts.all (fun t => P.readableRec t && decide (t < P.types.size)) = true → DataW.TrodAll enc P W 0 (fun _ => true) true ts vs ds ps → (∀ p ∈ ps, W.sameAt W' p) → (∀ p ∈ ps, sp p.block = true) → DataW.TrodAll enc P W' 0 sp true ts vs ds ps
  | [], [], [], ps, _, h, _, _ => h
  | t :: ts, v :: vs, d :: ds, ps, hr, h, h1, h2 => by
    simp only [List.all_cons, Bool.and_eq_true, decide_eq_true_eq] at hr
    obtain ⟨p, q, hp, hq, rfl⟩ := h
    exact ⟨p, q, WideElems.Trod_stays hl hr.1.1 hr.1.2 hp (fun x hx => h1 x (List.mem_append_left _ hx)) (fun x hx => h2 x (List.mem_append_left _ hx)),
      y2t hl hr.2 hq (fun x hx => h1 x (List.mem_append_right _ hx)) (fun x hx => h2 x (List.mem_append_right _ hx)), rfl⟩
  | [], [], _ :: _, _, _, h, _, _ => h.elim
  | [], _ :: _, _, _, _, h, _, _ => h.elim
  | _ :: _, [], _, _, _, h, _, _ => h.elim
  | _ :: _, _ :: _, [], _, _, h, _, _ => h.elim
theorem law_post {H : Type} {enc : TypeId × Value → H} {P : Program} {fn : Func} {s : ChangeSpec} {apart fresh handsOn again : Bool} {W W' : World} {args : Array Value} {ds gs : List (DataW H)} {before : List MemPlace} {bt : TypeId}
    (hl : laidOutB P = true) (hread : fn.params.toList.all (fun t => P.readableRec t && decide (t < P.types.size)) = true) (hres : fn.resultTypes = #[bt]) (hbt : P.underlying bt = some .bool) (hvars : s.vars = [])
    (hspec : (s.fn H ds).results = [.lit (.bool true)] ∧ (s.fn H ds).args = ds ∧ (s.fn H ds).vars = []) (hW : DataW.Whole enc P fn.params.toList s.vars apart W args.toList ds gs before) (hb : Below W.heap.size W W') :
    s.post enc P fn apart fresh handsOn again W args (.bool true) W' := by
  have hW0 := hW
  obtain ⟨p, q, hA, hV, rfl, hfz, hnd⟩ := hW
  rw [hvars] at hV
  obtain ⟨rfl, rfl⟩ := ChangeShapes.trodVars_none hV
  have hlt : ∀ x ∈ p, x.block < W.heap.size := fun x hx => hW0.lt x (by simp [hx])
  have hold : ∀ x ∈ p, (fun b => decide (b < W.heap.size)) x.block = true := fun x hx => by simpa using hlt x hx
  have hargs : ∀ sp : Nat → Bool, (∀ x ∈ p, sp x.block = true) → DataW.TrodAll enc P W' 0 sp true fn.params.toList args.toList ds p := fun sp hsp =>
    y2t hl hread hA (fun x hx => hb.same (hlt x hx)) hsp
  have hlist : ∀ n, n = 1 → (Value.bool true).resultList n = [.bool true] := by rintro n rfl; rfl
  have hsz : fn.resultTypes.size = 1 := by rw [hres]; rfl
  have hresT : ∀ (b : Nat) (sp : Nat → Bool) (hd : Bool), DataW.TrodAll enc P W' b sp hd fn.resultTypes.toList ((Value.bool true).resultList fn.resultTypes.size) [.lit (.bool true)] [] := by
    intro b sp hd
    rw [hlist _ hsz, hres]
    exact ChangeShapes.trodAll_mk1 (shut_bool hbt true)
  obtain ⟨s1, s2, s3⟩ := hspec
  refine ⟨ds, [], p ++ [], [], p, [], hW0, ?_, ?_, ?_, World.keptBut_mono (fun x hx => ?_) (hb.frame (fun _ => False)), fun _ => ?_⟩
  · rw [List.append_nil, s1]; exact hresT _ _ _
  · rw [List.append_nil, s2]; exact hargs _ hold
  · rw [List.append_nil, s3, hvars]; exact rfl
  · exact hx.elim
  · refine ⟨?_, [.lit (.bool true)] ++ ds, [], ([] ++ p) ++ [], ⟨[] ++ p, [], ?_, ?_, rfl, ?_, ?_⟩, ?_⟩
    · exact ok_one hres rfl (okWide_bool_mk hbt true)
    · exact ChangeShapes.trodAll_append (hargs _ (fun _ _ => rfl)) (hresT _ _ _)
    · rw [hvars]; exact rfl
    · intro b off hp
      have hp' : MemPlace.cell b off ∈ p := by simpa using hp
      rw [hb.frozen (p := ⟨b, off, none⟩) (hlt _ hp')]
      exact hfz b off (by simpa using hp')
    · intro ha
      have := hnd ha
      simpa using this
    · intro x hx _
      simpa using hx
end Go.Ev
namespace Go.Ev
set_option linter.unusedVariables false
set_option linter.unusedSimpArgs false
open Go
theorem y2j (c : UInt8) : ∀ l : List UInt8, -1 ≤ y0k l c
  | [] => by simp [y0k]
  | x :: l => by
    have := y2j c l
    rw [y0k]
    split
    · omega
    · split
      · simp only [Int.ofNat_eq_natCast]; omega
      · rename_i n e; rw [e] at this; exact this
theorem y1x (c : UInt8) : ∀ l : List UInt8, y0k l c = Lib.indexByte l c
  | [] => rfl
  | x :: l => by
    have h := y2j c l
    rw [y0k, Lib.indexByte, ← y1x c l]
    by_cases hx : (x == c) = true
    · rw [if_pos hx, if_pos hx]
    · rw [if_neg hx, if_neg hx]
      generalize y0k l c = v at h
      cases v with
      | ofNat n =>
        have e : ((Int.ofNat n) == -1) = false := by simp
        rw [e]; rfl
      | negSucc n =>
        have e : n = 0 := by omega
        subst e; rfl
theorem y55 {as bs : List AVal} (h : extArgs (initEnv 0 as) 2 = some bs) : ∃ a b, as = [a, b] ∧ bs = [a, b] := by
  rcases as with _ | ⟨a, _ | ⟨b, _ | ⟨c, l⟩⟩⟩
  · simp [extArgs, extArgsN, initEnv, Env.get] at h
  · simp [extArgs, extArgsN, initEnv, Env.get] at h
  · refine ⟨a, b, rfl, ?_⟩
    simp [extArgs, extArgsN, initEnv, Env.get] at h
    exact h.symm
  · simp [extArgs, extArgsN, initEnv, Env.get] at h
theorem Reps.two {Γ : Gh} {a b : AVal} {cs : Array Value} (h : Reps Γ [a, b] cs.toList) : ∃ c d, cs = #[c, d] ∧ Rep Γ a c ∧ Rep Γ b d := by
  obtain ⟨l⟩ := cs
  obtain ⟨h1, h2⟩ := h
  match l, h1, h2 with
  | [c, d], _, h2 => exact ⟨c, d, rfl, h2 0 a c rfl rfl, h2 1 b d rfl rfl⟩
theorem ext_two {P : Program} {f : FuncId} {fn : Func} {g : List AVal → Option AVal} (hfn : P.funcs[f]? = some fn) (hb : fn.body.isSome = true) (hn : (fn.name == "runtime.NumGoroutine") = false)
    (hc : ∀ (a b v : AVal), g [a, b] = some v → ∀ (Γ : Gh) (w : World) (c d : Value), Rep Γ a c → Rep Γ b d → Calls P f #[c, d] w fun e w' => (∃ r, e = .returned r ∧ Rep Γ v r) ∧ w' = w) : ExtOk P f ⟨.ext 2 g, [.t 2]⟩ := by
  refine ⟨⟨fn, hfn, hb, hn⟩, ?_⟩
  intro C as H H' x h Γ w cs hR hr
  simp only [evalCode] at h
  cases ha : extArgs (initEnv 0 as) 2 with
  | none => rw [ha] at h; simp [finish] at h
  | some bs =>
    rw [ha] at h
    simp only at h
    obtain ⟨a, b, rfl, rfl⟩ := y55 ha
    cases hg : g [a, b] with
    | none => rw [hg] at h; simp [finish] at h
    | some v =>
      rw [hg] at h
      simp [finish, resAll, resOf, Env.get, oneOr] at h
      obtain ⟨rfl, rfl⟩ := h
      obtain ⟨c, d, rfl, r1, r2⟩ := Reps.two hr
      refine (hc a b v hg Γ w c d r1 r2).mono ?_
      rintro e w' ⟨⟨r, rfl, hv⟩, rfl⟩
      exact ⟨Γ, hR, Stp.refl _ _, hv⟩
theorem y4w {P : Program} {f : FuncId} {fn : Func} (hfn : P.funcs[f]? = some fn) (hb : fn.body.isSome = true) (hn : (fn.name == "runtime.NumGoroutine") = false)
    (hc : ∀ (s : ByteArray) (c : Int) (w : World), Calls P f #[.string s, .int .u8 c] w fun e w' => e = .returned (.int .i64 (Lib.indexByte s.data.toList c.toNat.toUInt8)) ∧ w' = w) : ExtOk P f ⟨.ext 2 y23, [.t 2]⟩ := by
  refine ext_two hfn hb hn ?_
  intro a b v hg Γ w c d r1 r2
  unfold y23 at hg
  split at hg <;> first | (cases hg; done) | skip
  rename_i s n e
  simp only [List.cons.injEq, and_true] at e
  obtain ⟨rfl, rfl⟩ := e
  cases hg
  cases r1; cases r2
  refine (hc _ _ w).mono ?_
  rintro e w' ⟨rfl, rfl⟩
  refine ⟨⟨_, rfl, ?_⟩, rfl⟩
  rw [y1x]
  exact Rep.int _ _
theorem ext_index {P : Program} {f : FuncId} {fn : Func} (hfn : P.funcs[f]? = some fn) (hb : fn.body.isSome = true) (hn : (fn.name == "runtime.NumGoroutine") = false)
    (hc : ∀ (s : ByteArray) (c : UInt8) (w : World), Calls P f #[.string s, .string ⟨#[c]⟩] w fun e w' => e = .returned (.int .i64 (Lib.indexByte s.data.toList c)) ∧ w' = w) : ExtOk P f ⟨.ext 2 indexX, [.t 2]⟩ := by
  refine ext_two hfn hb hn ?_
  intro a b v hg Γ w c d r1 r2
  unfold indexX at hg
  split at hg <;> first | (cases hg; done) | skip
  rename_i s n e
  simp only [List.cons.injEq, and_true] at e
  obtain ⟨rfl, rfl⟩ := e
  cases hg
  cases r1; cases r2
  refine (hc _ n w).mono ?_
  rintro e w' ⟨rfl, rfl⟩
  refine ⟨⟨_, rfl, ?_⟩, rfl⟩
  rw [y1x]
  exact Rep.int _ _
end Go.Ev
namespace Go.Ev.Seat
open Go Go.Ev
set_option maxRecDepth 20000
theorem t6 : tabOf tabL 6 = some a6 := rfl
theorem t12 : tabOf tabL 12 = some a12 := rfl
theorem t13 : tabOf tabL 13 = some a13 := rfl
theorem t14 : tabOf tabL 14 = some a14 := rfl
theorem t16 : tabOf tabL 16 = some a16 := rfl
theorem t17 : tabOf tabL 17 = some a17 := rfl
theorem t18 : tabOf tabL 18 = some a18 := rfl
theorem t19 : tabOf tabL 19 = some a19 := rfl
theorem t20 : tabOf tabL 20 = some a20 := rfl
theorem t32 : tabOf tabL 32 = some a32 := rfl
theorem t33 : tabOf tabL 33 = some a33 := rfl
theorem t34 : tabOf tabL 34 = some a34 := rfl
theorem t35 : tabOf tabL 35 = some a35 := rfl
theorem t36 : tabOf tabL 36 = some a36 := rfl
theorem t37 : tabOf tabL 37 = some a37 := rfl
theorem t38 : tabOf tabL 38 = some a38 := rfl
theorem t39 : tabOf tabL 39 = some a39 := rfl
theorem t40 : tabOf tabL 40 = some a40 := rfl
theorem t41 : tabOf tabL 41 = some a41 := rfl
theorem t53 : tabOf tabL 53 = some a53 := rfl
theorem t54 : tabOf tabL 54 = some a54 := rfl
theorem t55 : tabOf tabL 55 = some a55 := rfl
theorem t56 : tabOf tabL 56 = some a56 := rfl
theorem t64 : tabOf tabL 64 = some a64 := rfl
theorem t65 : tabOf tabL 65 = some a65 := rfl
theorem t66 : tabOf tabL 66 = some a66 := rfl
theorem t128 : tabOf tabL 128 = some a128 := rfl
theorem t134 : tabOf tabL 134 = some a134 := rfl
end Go.Ev.Seat
namespace Go.Ev
set_option linter.unusedVariables false
set_option linter.unusedSimpArgs false
open Go
theorem kw_i64 (n : Int) : IntKind.i64.wrap n = (n + 9223372036854775808) % 18446744073709551616 - 9223372036854775808 := by
  simp [IntKind.wrap, IntKind.bits, IntKind.signed]; omega
theorem kw_i64_id {n : Int} (h0 : -9223372036854775808 ≤ n) (h1 : n < 9223372036854775808) : IntKind.i64.wrap n = n := by rw [kw_i64]; omega
section
variable (k : IntKind) (a b : Int)
theorem bi_rem : binInt .rem k a b = if b = 0 then none else some (.int k (a.tmod b)) := rfl
end
theorem callA_of {tab : Nat → Option AFunc} {n m : Nat} {f : FuncId} {vs as : List AVal} {x : Ex} {H : Heap} (hs : shutL H vs = some as) (h : pcall tab n f as = some x) : callA ⟨callF tab n, m⟩ false f vs H = some (x, H) := by
  simp only [callA, Bool.false_eq_true, if_false, hs]
  unfold pcall at h
  rw [h]
theorem callA_hc {tab : Nat → Option AFunc} {n m : Nat} {f : FuncId} {vs : List AVal} {v : AVal} {H H1 H2 : Heap} (hs : shutL H vs = none) (h : callF tab n f vs H = some (.ok v, H1)) (hl : H.length ≤ H1.length) (hv : lowV H.length v = true) (hH : H1.take H.length = H2) (hlow : lowH H.length H2 = true) :
    callA ⟨callF tab n, m⟩ false f vs H = some (.ok v, H2) := by
  simp only [callA, Bool.false_eq_true, if_false, hs, h, cutRes, cutH]
  split
  · rename_i hle
    rw [← hH, List.take_of_length_le (by omega)]
  · rw [hH, hv, hlow]; rfl
theorem callA_nr {tab : Nat → Option AFunc} {n m : Nat} {f : FuncId} {vs : List AVal} {v : AVal} {H H1 H2 : Heap} (hs : shutL H vs = none) (h : callF tab n f vs H = some (.ok v, H1)) (hc : cutH H.length v H1 = H2) :
    callA ⟨callF tab n, m⟩ false f vs H = some (.ok v, H2) := by
  simp only [callA, Bool.false_eq_true, if_false, hs, h, cutRes, hc]
theorem y4l {tab : Nat → Option AFunc} {n f : Nat} {af : AFunc} {as : List AVal} (h : tab f = some af) : pcall tab (n + 1) f as = pureRes (finish af (evalCode ⟨callF tab n, n⟩ af.body (initEnv 0 as) [])) := by
  simp only [pcall, callF, h]
end Go.Ev
namespace Go.Ev
set_option linter.unusedVariables false
set_option linter.unusedSimpArgs false
open Go
abbrev Post := AEx → Env → Heap → Prop
def WL (C : Ctx) : List ACode → Env → Heap → Post → Prop
  | [], e, H, Q => Q .norm e H
  | c :: cs, e, H, Q => ∃ x e' H', evalCode C c e H = some (x, e', H') ∧ match x with
    | .norm => WL C cs e' H' Q
    | x => Q x e' H'
def WO (C : Ctx) (l : List AOper) (cs : List ACode) (e : Env) (H : Heap) (Q : Post) : Prop :=
  ∃ x e' H', evalOps C l e H = some (x, e', H') ∧ match x with
    | .norm => WL C cs e' H' Q
    | x => Q x e' H'
section
variable {C : Ctx} {cs : List ACode} {e e' : Env} {H H' : Heap} {Q : Post}
theorem WL_nil (h : Q .norm e H) : WL C [] e H Q := h
theorem WL_skip (h : WL C cs e H Q) : WL C (.skip :: cs) e H Q := ⟨.norm, e, H, rfl, h⟩
theorem WL_ret (h : Q .ret e H) : WL C (.ret :: cs) e H Q := ⟨.ret, e, H, rfl, h⟩
theorem WL_exit {id : Nat} (h : Q (.exit id) e H) : WL C (.exit id :: cs) e H Q := ⟨.exit id, e, H, rfl, h⟩
theorem WLp {keep : List Nat} (h1 : restr e keep = e') (h : WL C cs e' H Q) : WL C (.prune keep :: cs) e H Q := ⟨.norm, _, H, rfl, by rw [h1]; exact h⟩
theorem rzz : restr e [] = [] := rfl
theorem rcc {k : Nat} {ks : List Nat} {v : AVal} {r : Env} (h : e.get k = some v) (h2 : restr e ks = r) : restr e (k :: ks) = (k, v) :: r := by simp only [restr, h, h2]
theorem rnn {k : Nat} {ks : List Nat} {r : Env} (h : e.get k = none) (h2 : restr e ks = r) : restr e (k :: ks) = r := by simp only [restr, h, h2]
theorem WL_own {t : Nat} {off : Option Nat} (h1 : ownA t off e H = (e', H')) (h : WL C cs e' H' Q) : WL C (.own t off :: cs) e H Q :=
  ⟨.norm, _, _, rfl, by rw [h1]; exact h⟩
theorem WL_seq {a b : ACode} (h : WL C (a :: b :: cs) e H Q) : WL C (.seq a b :: cs) e H Q := by
  obtain ⟨x, e1, H1, h1, h2⟩ := h
  cases x with
  | norm =>
    obtain ⟨y, e2, H2, h3, h4⟩ := h2
    exact ⟨y, e2, H2, by simp only [evalCode, h1, h3], h4⟩
  | exit i => exact ⟨.exit i, e1, H1, by simp only [evalCode, h1], h2⟩
  | ret => exact ⟨.ret, e1, H1, by simp only [evalCode, h1], h2⟩
  | pan v => exact ⟨.pan v, e1, H1, by simp only [evalCode, h1], h2⟩
theorem WL_reg {l : List AOper} (h : WO C l cs e H Q) : WL C (.reg l :: cs) e H Q := h
theorem WL_cond {x : AOpd} {a b : ACode} {t : Bool} (hx : x.ev e = some (.bool t)) (h1 : t = true → WL C (a :: cs) e H Q) (h2 : t = false → WL C (b :: cs) e H Q) : WL C (.cond x a b :: cs) e H Q := by
  cases t with
  | true =>
    obtain ⟨y, e2, H2, h3, h4⟩ := h1 rfl
    exact ⟨y, e2, H2, by simp only [evalCode, hx, if_true, h3], h4⟩
  | false =>
    obtain ⟨y, e2, H2, h3, h4⟩ := h2 rfl
    exact ⟨y, e2, H2, by simp only [evalCode, hx, Bool.false_eq_true, if_false, h3], h4⟩
def Blk (id : Nat) (K : Env → Heap → Prop) (Q : Post) : Post
  | .norm, e, H => K e H
  | .exit j, e, H => if j = id then K e H else Q (.exit j) e H
  | x, e, H => Q x e H
theorem Blk_norm {id : Nat} {K : Env → Heap → Prop} (h : K e H) : Blk id K Q .norm e H := h
theorem Blk_exit {id : Nat} {K : Env → Heap → Prop} (h : K e H) : Blk id K Q (.exit id) e H := by simp only [Blk, if_true]; exact h
theorem Blk_ret {id : Nat} {K : Env → Heap → Prop} (h : Q .ret e H) : Blk id K Q .ret e H := h
theorem WL_block {id : Nat} {a : ACode} (h : WL C [a] e H (Blk id (fun e' H' => WL C cs e' H' Q) Q)) : WL C (.block id a :: cs) e H Q := by
  obtain ⟨x, e1, H1, h1, h2⟩ := h
  cases x with
  | norm => exact ⟨.norm, e1, H1, by simp only [evalCode, h1], h2⟩
  | exit j =>
    simp only [Blk] at h2
    split at h2
    · rename_i hj; exact ⟨.norm, e1, H1, by simp only [evalCode, h1, hj, if_true], h2⟩
    · rename_i hj; exact ⟨.exit j, e1, H1, by simp only [evalCode, h1, hj, if_false], h2⟩
  | ret => exact ⟨.ret, e1, H1, by simp only [evalCode, h1], h2⟩
  | pan v => exact ⟨.pan v, e1, H1, by simp only [evalCode, h1], h2⟩
def Rnd (I : Nat → Env → Heap → Prop) (k : Nat) (Q : Post) : Post
  | .norm, e, H => ∃ k', k' < k ∧ I k' e H
  | x, e, H => Q x e H
theorem WL_loop {keep : List Nat} {a : ACode} (I : Nat → Env → Heap → Prop) (k : Nat) (hk : k < C.fuel) (h0 : I k e H)
    (round : ∀ k' e' H', k' ≤ k → I k' e' H' → WL C [a] (restr e' keep) (trunc H.length (restr e' keep) H') (Rnd I k' Q)) : WL C (.loop keep a :: cs) e H Q := by
  have key : ∀ (n k' : Nat) (e' : Env) (H' : Heap), k' < n → k' ≤ k → I k' e' H' → ∃ x e2 H2, iter n (fun e' H' => evalCode C a (restr e' keep) (trunc H.length (restr e' keep) H')) e' H' = some (x, e2, H2) ∧ x ≠ .norm ∧ Q x e2 H2 := by
    intro n
    induction n with
    | zero => intro k' e' H' h; omega
    | succ n ih =>
      intro k' e' H' hlt hle hI
      obtain ⟨x, e1, H1, h1, h2⟩ := round k' e' H' hle hI
      cases x with
      | norm =>
        obtain ⟨k2, hk2, hI2⟩ := h2
        obtain ⟨x, e2, H2, h3, h4, h5⟩ := ih k2 e1 H1 (by omega) (by omega) hI2
        exact ⟨x, e2, H2, by simp only [iter, h1, h3], h4, h5⟩
      | exit i => exact ⟨.exit i, e1, H1, by simp only [iter, h1], by simp, h2⟩
      | ret => exact ⟨.ret, e1, H1, by simp only [iter, h1], by simp, h2⟩
      | pan v => exact ⟨.pan v, e1, H1, by simp only [iter, h1], by simp, h2⟩
  obtain ⟨x, e2, H2, h1, h2, h3⟩ := key C.fuel k e H hk (Nat.le_refl _) h0
  refine ⟨x, e2, H2, h1, ?_⟩
  cases x with
  | norm => exact absurd rfl h2
  | _ => exact h3
theorem WO_nil (h : WL C cs e H Q) : WO C [] cs e H Q := ⟨.norm, e, H, rfl, h⟩
theorem WO_step {o : AOper} {l : List AOper} {v : AVal} (hg : wantedA e o.guard = some true) (hv : evalOp C e H.length H o.op = some (.ok v, H')) (h : WO C l cs (e.put o.dst v) H' Q) : WO C (o :: l) cs e H Q := by
  obtain ⟨x, e1, H1, h1, h2⟩ := h
  exact ⟨x, e1, H1, by simp only [evalOps, hg, hv, h1], h2⟩
theorem WO_p {o : AOper} {l : List AOper} {v : AVal} (hk : o.op.kind = .pure) (hg : wantedA e o.guard = some true) (hv : evP e o.op = some v) (h : WO C l cs (e.put o.dst v) H Q) : WO C (o :: l) cs e H Q :=
  WO_step hg (by simp only [evalOp, hk, hv, okv]) h
theorem WO_n {o : AOper} {l : List AOper} {v : AVal} {B : ABlock} (hk : o.op.kind = .new) (hg : wantedA e o.guard = some true) (hv : evN e H.length o.op = some (v, B)) (h : WO C l cs (e.put o.dst v) (H ++ [B]) Q) : WO C (o :: l) cs e H Q :=
  WO_step hg (by simp only [evalOp, hk, hv, newAt, if_true]) h
def AOp.isCall : AOp → Bool
  | .call _ _ _ => true
  | .callv _ _ _ => true
  | .panic _ => true
  | _ => false
theorem WO_h {o : AOper} {l : List AOper} {v : AVal} (hc : o.op.isCall = false) (hk : o.op.kind = .heap) (hg : wantedA e o.guard = some true) (hv : evH C e H.length H o.op = some (.ok v, H')) (h : WO C l cs (e.put o.dst v) H' Q) : WO C (o :: l) cs e H Q :=
  WO_step hg (by simp only [evalOp, hk, hv]) h
theorem WO_call {d : Option Nat} {g : Option (Nat × Bool)} {raw : Bool} {f : FuncId} {args : List AOpd} {l : List AOper} {vs : List AVal} {v : AVal} (hg : wantedA e g = some true) (hvs : evs e args = some vs) (hv : callA C raw f vs H = some (.ok v, H'))
    (h : WO C l cs (e.put d v) H' Q) : WO C (⟨d, .call raw f args, g⟩ :: l) cs e H Q :=
  WO_step hg (by simp only [evalOp, AOp.kind, evH, hvs, hv]) h
theorem WO_callv {d : Option Nat} {g : Option (Nat × Bool)} {raw : Bool} {x : AOpd} {args : List AOpd} {f : FuncId} {caps : List AVal} {l : List AOper} {vs : List AVal} {v : AVal} (hg : wantedA e g = some true) (hx : x.ev e = some (.fn f caps)) (hvs : evs e args = some vs)
    (hv : callA C raw f (vs ++ caps) H = some (.ok v, H')) (h : WO C l cs (e.put d v) H' Q) : WO C (⟨d, .callv raw x args, g⟩ :: l) cs e H Q :=
  WO_step hg (by simp only [evalOp, AOp.kind, evH, hx, hvs, hv]) h
section
variable {d : Nat} {op : AOp} {g : Option (Nat × Bool)} {l : List AOper} {v : AVal}
theorem O_p (hk : op.kind = .pure) (hg : wantedA e g = some true) (hv : evP e op = some v) (h : WO C l cs ((d, v) :: e) H Q) : WO C (⟨some d, op, g⟩ :: l) cs e H Q := WO_p hk hg hv h
theorem O_n {B : ABlock} (hk : op.kind = .new) (hg : wantedA e g = some true) (hv : evN e H.length op = some (v, B)) (h : WO C l cs ((d, v) :: e) (H ++ [B]) Q) : WO C (⟨some d, op, g⟩ :: l) cs e H Q := WO_n hk hg hv h
theorem O_h (hc : op.isCall = false) (hk : op.kind = .heap) (hg : wantedA e g = some true) (hv : evH C e H.length H op = some (.ok v, H')) (h : WO C l cs ((d, v) :: e) H' Q) : WO C (⟨some d, op, g⟩ :: l) cs e H Q := WO_h hc hk hg hv h
theorem O_hn (hc : op.isCall = false) (hk : op.kind = .heap) (hg : wantedA e g = some true) (hv : evH C e H.length H op = some (.ok v, H')) (h : WO C l cs e H' Q) : WO C (⟨none, op, g⟩ :: l) cs e H Q := WO_h hc hk hg hv h
theorem O_c {raw : Bool} (f : FuncId) {args : List AOpd} {vs : List AVal} (hg : wantedA e g = some true) (hvs : evs e args = some vs) (hv : callA C raw f vs H = some (.ok v, H')) (h : WO C l cs ((d, v) :: e) H' Q) : WO C (⟨some d, .call raw f args, g⟩ :: l) cs e H Q :=
  WO_call hg hvs hv h
end
end
section
variable {C : Ctx} {cs : List ACode} {e e' : Env} {H H' : Heap} {Q : Post}
theorem WL_iff : WL C cs e H Q ↔ match cs with
    | [] => Q .norm e H
    | c :: cs => ∃ x e' H', evalCode C c e H = some (x, e', H') ∧ match x with
      | .norm => WL C cs e' H' Q
      | x => Q x e' H' := by
  cases cs <;> exact Iff.rfl
theorem WO_iff {l : List AOper} : WO C l cs e H Q ↔ ∃ x e' H', evalOps C l e H = some (x, e', H') ∧ match x with
    | .norm => WL C cs e' H' Q
    | x => Q x e' H' := Iff.rfl
end
def FinQ (rs : List ARes) (r : Ex) : Post
  | .norm, e, H => ∃ vs, resAll e H rs = some vs ∧ ∃ v, shutR H (oneOr vs) = some v ∧ r = .ok v
  | .ret, e, H => ∃ vs, resAll e H rs = some vs ∧ ∃ v, shutR H (oneOr vs) = some v ∧ r = .ok v
  | .pan v, e, H => ∃ v', shutR H v = some v' ∧ r = .pan v'
  | .exit _, _, _ => False
theorem pcall_fin {tab : Nat → Option AFunc} {n f : Nat} {body : ACode} {rs : List ARes} {as : List AVal} {r : Ex} (h : tab f = some ⟨body, rs⟩)
    (hw : WL ⟨callF tab n, n⟩ [body] (initEnv 0 as) [] (FinQ rs r)) : pcall tab (n + 1) f as = some r := by
  rw [y4l h]
  obtain ⟨x, e1, H1, h1, h2⟩ := hw
  rw [h1]
  cases x with
  | norm =>
    obtain ⟨vs, h3, v, h4, rfl⟩ := h2
    simp only [finish, h3, pureRes, h4]
  | ret =>
    obtain ⟨vs, h3, v, h4, rfl⟩ := h2
    simp only [finish, h3, pureRes, h4]
  | pan v =>
    obtain ⟨v', h3, rfl⟩ := h2
    simp only [finish, pureRes, h3]
  | exit i => exact h2.elim
def FinH (rs : List ARes) (R : Ex → Heap → Prop) : Post
  | .norm, e, H => ∃ vs, resAll e H rs = some vs ∧ R (.ok (oneOr vs)) H
  | .ret, e, H => ∃ vs, resAll e H rs = some vs ∧ R (.ok (oneOr vs)) H
  | .pan v, e, H => R (.pan v) H
  | .exit _, _, _ => False
theorem callF_fin {tab : Nat → Option AFunc} {n f : Nat} {body : ACode} {rs : List ARes} {as : List AVal} {H : Heap} {x : Ex} {H' : Heap} (h : tab f = some ⟨body, rs⟩)
    (hw : WL ⟨callF tab n, n⟩ [body] (initEnv 0 as) H (FinH rs fun y H2 => y = x ∧ H2 = H')) : callF tab (n + 1) f as H = some (x, H') := by
  obtain ⟨y, e1, H1, h1, h2⟩ := hw
  simp only [callF, h, h1]
  cases y with
  | norm =>
    obtain ⟨vs, h3, rfl, rfl⟩ := h2
    simp only [finish, h3]
  | ret =>
    obtain ⟨vs, h3, rfl, rfl⟩ := h2
    simp only [finish, h3]
  | pan v =>
    obtain ⟨h4, h5⟩ := h2
    simp only [finish, h4, h5]
  | exit i => exact h2.elim
attribute [irreducible] WL WO
end Go.Ev
