/-
  Regions that are run in the text's order; loops; the abstract heap cut back; a slice taken as one that is appended to.
-/
import Derived.Test.YtbjoldcjbpngaaaEvN
set_option linter.unusedVariables false
set_option linter.unusedSimpArgs false
namespace Go.Ev
open Go

/-- The state of a call stands for this environment and this heap. -/
structure St (Γ : Gh) (n : Nat) (e : Env) (H : Heap) (a : Act) (w : World) : Prop where
  env : EnvRel Γ e a.tmps
  rel : Rel Γ H w
  size : n ≤ a.tmps.size
  defers : a.defers = []

def chkDst (n : Nat) (d d' : Option Nat) : Bool :=
  decide (d = d') && match d with
    | some t => decide (t < n)
    | none => true

def chkG (ops : Array Oper) (g : Option (Nat × Bool)) (g' : Option (Nat × Bool)) : Bool :=
  match g, g' with
  | none, none => true
  | some (t, want), some (j, want') => decide (((ops[j]?).bind (·.dst)) = some t) && decide (want = want')
  | _, _ => false

def chkOper (P : Program) (n : Nat) (ops : Array Oper) (ao : AOper) (o : Oper) : Bool :=
  chkDst n ao.dst o.dst && chkG ops ao.guard o.guard && chkOp P ao.op o.op

def chkOps (P : Program) (n : Nat) (ops : Array Oper) : List AOper → List Oper → Bool
  | [], [] => true
  | ao :: l, o :: os => chkOper P n ops ao o && chkOps P n ops l os
  | _, _ => false

/-- How a piece of code ends. -/
def ExitOk (Γ : Gh) : AEx → Exit → Prop
  | .norm, .normal => True
  | .exit i, .exit j => i = j
  | .ret, .ret => True
  | .pan v, .panic ch => ∃ c, ch = [{ v := c, recovered := false }] ∧ Rep Γ v c
  | _, _ => False

def QOk (Γ : Gh) (w : World) (n : Nat) (r : AEx × Env × Heap) : Exit → Act → World → Prop :=
  fun ex a' w' => ∃ Γ', Stp Γ w Γ' w' ∧ St Γ' n r.2.1 r.2.2 a' w' ∧ ExitOk Γ' r.1 ex

section
variable {P : Program} {Γ : Gh} {e : Env} {a : Act}

theorem Env.get_put (e : Env) (d : Option Nat) (v : AVal) (t : Nat) : (e.put d v).get t = if d = some t then some v else e.get t := by
  cases d with
  | none => simp [Env.put]
  | some d =>
    simp only [Env.put, Env.get, Option.some.injEq]

theorem chkDst_eq {n : Nat} {d d' : Option Nat} (h : chkDst n d d' = true) : d' = d ∧ ∀ t, d = some t → t < n := by
  simp only [chkDst, Bool.and_eq_true, decide_eq_true_eq] at h
  refine ⟨h.1.symm, ?_⟩
  intro t ht
  have := h.2
  rw [ht] at this
  simpa using this

theorem St.put {n : Nat} {H : Heap} {w : World} (hS : St Γ n e H a w) {d : Option Nat} (hd : ∀ t, d = some t → t < n) {v : AVal} {c : Value} (hr : Rep Γ v c) : St Γ n (e.put d v) H (a.put d c) w := by
  refine ⟨?_, hS.rel, ?_, ?_⟩
  · intro t u hu
    rw [Env.get_put] at hu
    cases d with
    | none => simp at hu; exact hS.env t u hu
    | some t0 =>
      have hlt := hd t0 rfl
      simp only [Option.some.injEq] at hu
      simp only [Act.put]
      split at hu
      · rename_i e; subst e; cases hu
        have : t0 < a.tmps.size := Nat.lt_of_lt_of_le hlt hS.size
        simpa [Array.getD_eq_getD_getElem?, Array.getElem?_setIfInBounds, this] using hr
      · rename_i ne
        have := hS.env t u hu
        simpa [Array.getD_eq_getD_getElem?, Array.getElem?_setIfInBounds, ne] using this
  · cases d <;> simp [Act.put, hS.size]
  · cases d <;> simp [Act.put, hS.defers]

theorem wantedA_sound {n : Nat} {H : Heap} {w : World} {ops : Array Oper} {ao : AOper} {o : Oper} (hS : St Γ n e H a w) (hg : chkG ops ao.guard o.guard = true) {b : Bool} (hw : wantedA e ao.guard = some b) :
    Region.wanted o (yielded ops a.tmps) = b := by
  obtain ⟨dst, op, ty, pos, after, guard⟩ := o
  obtain ⟨ad, aop, ag⟩ := ao
  simp only at hg hw
  cases ag with
  | none =>
    cases guard <;> simp [chkG] at hg
    simp [wantedA] at hw
    subst hw
    rfl
  | some g =>
    obtain ⟨t, want⟩ := g
    cases guard with
    | none => simp [chkG] at hg
    | some g' =>
      obtain ⟨j, want'⟩ := g'
      simp only [chkG, Bool.and_eq_true, decide_eq_true_eq] at hg
      obtain ⟨hj, rfl⟩ := hg
      simp only [wantedA] at hw
      simp only [Region.wanted, yielded, hj, Option.bind_some]
      split at hw <;> first | (cases hw; done) | skip
      · rename_i x hx
        cases hw
        have := (hS.env t _ hx).bool_inv
        have h2 : a.tmps[t]? = some (.bool x) := by
          rw [Array.getD_eq_getD_getElem?] at this
          cases h3 : a.tmps[t]? with
          | none => rw [h3] at this; cases this
          | some v => rw [h3] at this; simpa using this
        simp only [h2]
        cases x <;> cases want <;> rfl
      · rename_i hx
        cases hw
        obtain ⟨ds, hds, hl⟩ := (hS.env t _ hx).tup_inv
        rw [Array.getD_eq_getD_getElem?] at hds
        cases h3 : a.tmps[t]? with
        | none => rfl
        | some v =>
          rw [h3] at hds
          simp at hds
          subst hds
          rfl

theorem St.mono {n : Nat} {H H' : Heap} {Γ' : Gh} {w w' : World} (hS : St Γ n e H a w) (hst : Stp Γ w Γ' w') (hR : Rel Γ' H' w') : St Γ' n e H' a w' :=
  ⟨hS.env.mono hst.le, hR, hS.size, hS.defers⟩

theorem ops_wp {C : Ctx} (hC : CallsOk P C.call) {n : Nat} {ops : Array Oper} : ∀ (l : List AOper) (os : List Oper) (i : Nat), ops.toList.drop i = os → chkOps P n ops l os = true →
    ∀ (Γ0 : Gh) (w0 : World) (Γ : Gh) (e : Env) (H : Heap) (a : Act) (w : World) (r : AEx × Env × Heap), St Γ n e H a w → Stp Γ0 w0 Γ w → evalOps C l e H = some r → wpOps P ops (QOk Γ0 w0 n r) (List.range' i os.length) a w := by
  intro l
  induction l with
  | nil =>
    intro os i hos hk Γ0 w0 Γ e H a w r hS hst hv
    cases os with
    | cons => simp [chkOps] at hk
    | nil =>
      simp [evalOps] at hv
      subst hv
      simp only [List.length_nil, List.range'_zero, wpOps]
      exact ⟨Γ, hst, hS, trivial⟩
  | cons ao l ih =>
    intro os i hos hk Γ0 w0 Γ e H a w r hS hst hv
    cases os with
    | nil => simp [chkOps] at hk
    | cons o os =>
      simp only [chkOps, Bool.and_eq_true] at hk
      obtain ⟨hko, hkr⟩ := hk
      simp only [chkOper, Bool.and_eq_true] at hko
      obtain ⟨⟨hd, hg⟩, hop⟩ := hko
      obtain ⟨hd1, hd2⟩ := chkDst_eq hd
      have hoi : ops[i]? = some o := by
        have : (ops.toList.drop i)[0]? = some o := by rw [hos]; rfl
        simpa using this
      have hos' : ops.toList.drop (i + 1) = os := by
        rw [← List.drop_drop, hos]; rfl
      simp only [List.length_cons, List.range'_succ, wpOps, hoi]
      simp only [evalOps] at hv
      split at hv <;> first | (cases hv; done) | skip
      · rename_i hw
        rw [wantedA_sound hS hg hw]
        simp only [if_true]
        left
        split at hv <;> first | (cases hv; done) | skip
        · rename_i v H' hev
          refine op_wp hC hS.env hS.rel hop hev ?_ ?_
          · intro v' c w' Γ' hx hrep hR hst'
            cases hx
            rw [hd1]
            exact ih os (i + 1) hos' hkr Γ0 w0 Γ' _ _ _ _ r ((hS.mono hst' hR).put hd2 hrep) (hst.trans hst') hv
          · intro v' c w' Γ' hx; cases hx
        · rename_i v H' hev
          cases hv
          refine op_wp hC hS.env hS.rel hop hev ?_ ?_
          · intro v' c w' Γ' hx; cases hx
          · intro v' c w' Γ' hx hrep hR hst'
            cases hx
            exact ⟨Γ', hst.trans hst', hS.mono hst' hR, c, rfl, hrep⟩
      · rename_i hw
        rw [wantedA_sound hS hg hw]
        simp only [Bool.false_eq_true, if_false]
        rw [hd1]
        exact ih os (i + 1) hos' hkr Γ0 w0 Γ _ _ _ _ r (hS.put hd2 (rep_undef Γ)) hst hv

theorem reg_wp {C : Ctx} (hC : CallsOk P C.call) {n id : Nat} {ops : Array Oper} {l : List AOper} {H : Heap} {w : World} {r : AEx × Env × Heap} (hk : chkOps P n ops l ops.toList = true) (hS : St Γ n e H a w) (hv : evalOps C l e H = some r) :
    (Code.region id ops false).wp P (QOk Γ w n r) a w := by
  refine wp_region ?_
  have := ops_wp hC l ops.toList 0 (by simp) hk Γ w Γ e H a w r hS (Stp.refl Γ w) hv
  rw [List.range_eq_range']
  simpa using this

/-- The abstract heap is cut back when nothing leads behind the cut. -/
theorem trunc_sound {n m : Nat} {Γ0 : Gh} {H0 H : Heap} {w0 w : World} (hR0 : Rel Γ0 H0 w0) (hm : H0.length = m) (hS : St Γ n e H a w) (hst : Stp Γ0 w0 Γ w) :
    ∃ Γ', St Γ' n e (trunc m e H) a w ∧ Stp Γ0 w0 Γ' w := by
  unfold trunc
  split
  · exact ⟨Γ, hS, hst⟩
  · rename_i hlen
    split
    · rename_i hlow
      simp only [Bool.and_eq_true] at hlow
      obtain ⟨hE, hH⟩ := hlow
      obtain ⟨r1, r2⟩ := hR0.cutv hm hS.rel hst hH
      exact ⟨Γ.cut m, ⟨fun t v hv => (hS.env t v hv).cut (lowE_get hE hv), r1, hS.size, hS.defers⟩, r2⟩
    · exact ⟨Γ, hS, hst⟩

theorem restr_get : ∀ (ks : List Nat) (t : Nat) (v : AVal), (restr e ks).get t = some v → e.get t = some v
  | [], t, v, h => by simp [restr, Env.get] at h
  | k :: ks, t, v, h => by
    simp only [restr] at h
    split at h
    · rename_i u hu
      simp only [Env.get] at h
      split at h
      · rename_i hk; cases h; rw [← hk]; exact hu
      · exact restr_get ks t v h
    · exact restr_get ks t v h

theorem St.restr {n : Nat} {H : Heap} {w : World} (hS : St Γ n e H a w) (keep : List Nat) : St Γ n (Ev.restr e keep) H a w :=
  ⟨fun t v hv => hS.env t v (restr_get keep t v hv), hS.rel, hS.size, hS.defers⟩

/-- The ghost with a list that is appended to. -/
def Gh.laid (Γ : Gh) (b l : Nat) (c : Value) : Gh := { Γ with T := fun o k => if o = b ∧ k = l then some c else Γ.T o k }

theorem Rel.list {H : Heap} {w : World} {xs : List AVal} {c : Value} (hR : Rel Γ H w) (hr : Rep Γ (.lst xs true) c) :
    Rel (Γ.laid H.length xs.length c) (H ++ [.grow 0 xs none]) w ∧ Stp Γ w (Γ.laid H.length xs.length c) w ∧ Rep (Γ.laid H.length xs.length c) (.gl H.length xs.length) c := by
  have hT := fun l => (hR.dom H.length (Nat.le_refl _)).2 l
  have hle : Γ.le (Γ.laid H.length xs.length c) := by
    refine ⟨fun _ _ _ h => h, fun _ _ h => h, ?_⟩
    intro o l d h
    simp only [Gh.laid]
    rw [if_neg ?_]; exact h
    rintro ⟨rfl, rfl⟩
    rw [hT] at h; cases h
  have hnew : (Γ.laid H.length xs.length c).T H.length xs.length = some c := by simp [Gh.laid]
  refine ⟨⟨hR.mem, ?_, ?_, hR.owned⟩, ⟨hle, fun _ _ h => h, fun _ _ _ _ => rfl, Nat.le_refl _, fun _ _ _ => rfl, rfl, rfl, rfl⟩, ?_⟩
  · intro b B hb
    by_cases hbl : b < H.length
    · rw [List.getElem?_append_left hbl] at hb
      refine (hR.blk b B hb).step hle ?_ ⟨rfl, ?_⟩
      · intro g hg; exact ⟨hg, rfl, fun _ => rfl⟩
      · intro l; simp only [Gh.laid]; rw [if_neg (by rintro ⟨h, _⟩; omega)]
    · rw [List.getElem?_append_right (by omega)] at hb
      have hb0 : b = H.length := by
        have := (List.getElem?_eq_some_iff.1 hb).1
        simp at this; omega
      subst hb0
      simp at hb
      subst hb
      refine ⟨c, hnew, ?_, ?_, .inl ⟨rfl, hr.mono hle⟩⟩
      · intro l hl
        simp only [Gh.laid]
        rw [if_neg (by rintro ⟨_, h⟩; omega)]; exact hT l
      · rcases hr.lst_inv with ⟨rfl, _⟩ | ⟨g, off, cap, es, f, h1, h2, h3, h4, h5, _⟩
        · simp
        · exact h5
  · intro b hb
    simp at hb
    obtain ⟨h1, h2⟩ := hR.dom b (by omega)
    refine ⟨h1, fun l => ?_⟩
    simp only [Gh.laid]; rw [if_neg (by rintro ⟨h, _⟩; omega)]; exact h2 l
  · rcases hr.lst_inv with ⟨rfl, base, cap, rfl, hE⟩ | ⟨g, off, cap, es, f, rfl, h2, h3, h4, h5, _⟩
    · exact .gl hnew (by simp)
    · exact .gl hnew (fun _ => rfl)

theorem own_sound {n t : Nat} {off : Option Nat} {H : Heap} {w : World} (hS : St Γ n e H a w) : ∃ Γ', St Γ' n (ownA t off e H).1 (ownA t off e H).2 a w ∧ Stp Γ w Γ' w := by
  unfold ownA
  split
  · rename_i xs ht
    obtain ⟨r1, r2, r3⟩ := hS.rel.list (hS.env t _ ht)
    refine ⟨_, ⟨?_, r1, hS.size, hS.defers⟩, r2⟩
    intro u v hv
    simp only [Env.get] at hv
    split at hv
    · rename_i hu; cases hv; rw [← hu]; exact r3
    · exact (hS.env u v hv).mono r2.le
  · rename_i k b o ht
    split
    · rename_i vs hb
      split
      · rename_i xs hx
        obtain ⟨g, cs, ty, h1, h2, h3, h4, h5, h6⟩ := hS.rel.cells hb
        obtain ⟨c, hc, hrep⟩ := h5.get hx
        obtain ⟨r1, r2, r3⟩ := hS.rel.list hrep
        have hbl : b < H.length := (List.getElem?_eq_some_iff.1 hb).1
        refine ⟨_, ⟨hS.env.mono r2.le, ⟨r1.mem, ?_, ?_, r1.owned⟩, hS.size, hS.defers⟩, r2⟩
        · intro b' B hb'
          by_cases hbb : b' = b
          · subst hbb
            rw [List.getElem?_append_left (by simpa using hbl), List.getElem?_set_self hbl] at hb'
            cases hb'
            have hB := r1.blk b' (.cells vs) (by rw [List.getElem?_append_left hbl]; exact hb)
            obtain ⟨g', cs', ty', k1, k2, k3, k4, k5, k6⟩ := hB
            have e1 : g' = g := by
              have := r2.le.mu b' g h1
              rw [k1] at this; cases this; rfl
            subst e1
            rw [h3] at k3; cases k3
            refine ⟨g', cs, ty, k1, k2, h3, k4, ?_, k6⟩
            have := k5.set r3 (o + k)
            have hset : cs.toList.set (o + k) c = cs.toList := by
              apply List.ext_getElem?
              intro j
              rw [List.getElem?_set]
              split
              · rename_i hj; subst hj
                rw [hc]
                rw [if_pos (List.getElem?_eq_some_iff.1 hc).1]
              · rfl
            rw [hset] at this
            exact this
          · have : (H.set b (.cells (vs.set (o + k) (.gl H.length xs.length))) ++ [ABlock.grow 0 xs none])[b']? = (H ++ [ABlock.grow 0 xs none])[b']? := by
              by_cases hl : b' < H.length
              · rw [List.getElem?_append_left (by simpa using hl), List.getElem?_append_left hl, List.getElem?_set_ne (fun h => hbb h.symm)]
              · rw [List.getElem?_append_right (by simpa using Nat.le_of_not_lt hl), List.getElem?_append_right (by omega)]
                simp
            rw [this] at hb'
            exact r1.blk b' B hb'
        · intro b' hb'
          exact r1.dom b' (by simpa using hb')
      · exact ⟨Γ, hS, Stp.refl Γ w⟩
    · exact ⟨Γ, hS, Stp.refl Γ w⟩
  · exact ⟨Γ, hS, Stp.refl Γ w⟩

/-- A list that is open becomes memory for good. -/
theorem Rel.shutl {H : Heap} {w : World} {o es f : Nat} {xs : List AVal} (hR : Rel Γ H w) (hb : H[o]? = some (.grow es xs (some f))) : ∃ Γ', Rel Γ' (H.set o (.grow es xs none)) w ∧ Stp Γ w Γ' w := by
  obtain ⟨c', k1, k0, k2, k3⟩ := hR.blk _ _ hb
  rcases k3 with ⟨hbad, _⟩ | ⟨g, cap, cs, ty, rfl, e2, e3, e4, e5, e6, e7, e8, e9, e10, e11, e12⟩
  · cases hbad
  · simp only [Option.getD_some] at e10 e11 e12
    have hle : Γ.le (Γ.shutM g (xs.length * es) cs) := by
      refine ⟨?_, fun _ _ h => h, fun _ _ _ h => h⟩
      intro k j c hm
      simp only [Gh.shutM]
      split
      · rename_i ek; subst ek
        by_cases hj : j < f * es
        · have hfi' : f * es ≤ xs.length * es := Nat.mul_le_mul_right _ e10
          rw [if_pos (by omega), ← e11 j hj]
          exact hm
        · rw [e12 j (by omega)] at hm; cases hm
      · exact hm
    obtain ⟨r1, r2⟩ := hR.write (Γ' := Γ.shutM g (xs.length * es) cs) (B := .grow es xs none) (o := .cells cs ty) (w' := w) hb e2 hle (fun _ => rfl) (fun _ _ => ⟨rfl, fun _ => rfl⟩)
      (fun k j hk => by simp [Gh.shutM, hk]) e3 (fun k hk => rfl) rfl rfl rfl rfl
      (fun j c hm => by
        simp only [Gh.shutM, if_true] at hm
        rw [cell_at e3]
        split at hm
        · exact hm
        · cases hm)
      ⟨_, k1, k0, k2, .inr ⟨g, cap, cs, ty, rfl, e2, e3, e4, e5, e6, e7, e8.mono hle, e9, by simp, fun j hj => by simp at hj; simp [Gh.shutM, hj], fun j hj => by simp at hj; simp [Gh.shutM]; omega⟩⟩
    exact ⟨_, r1, r2⟩

theorem seal_sound {n t : Nat} {off : Option Nat} {H : Heap} {w : World} (hS : St Γ n e H a w) : ∃ Γ', St Γ' n e (sealA t off e H) a w ∧ Stp Γ w Γ' w := by
  unfold sealA
  split
  · split
    · rename_i hb
      split
      · obtain ⟨Γ', r1, r2⟩ := hS.rel.shutl hb
        exact ⟨Γ', ⟨hS.env.mono r2.le, r1, hS.size, hS.defers⟩, r2⟩
      · exact ⟨Γ, hS, Stp.refl Γ w⟩
    · exact ⟨Γ, hS, Stp.refl Γ w⟩
  · exact ⟨Γ, hS, Stp.refl Γ w⟩

/-- A loop of so many rounds at the most. -/
theorem wp_loop_n {c : Code} {Q : Exit → Act → World → Prop} (I : Nat → Act → World → Prop) (no : ∀ a w, ¬ I 0 a w)
    (round : ∀ n a w, I (n + 1) a w → c.wp P (Exit.then (I n) Q) a w) (n : Nat) {w : World} (h : I n a w) : (Code.loop c).wp P Q a w := by
  intro b k cs
  have key : ∀ n a w, I n a w → ∃ e a' w', Q e a' w' ∧ Arrives P (lone (b.at a (.code c :: .inLoop c :: k)) cs w) b k cs e a' w' := by
    intro n
    induction n with
    | zero => intro a w hI; exact absurd hI (no a w)
    | succ n ih =>
      intro a w hI
      obtain ⟨e, a₁, w₁, hq, harr⟩ := round n a w hI b (.inLoop c :: k) cs
      cases e with
      | normal =>
        obtain ⟨e₂, a₂, w₂, hq₂, harr₂⟩ := ih a₁ w₁ hq
        exact ⟨e₂, a₂, w₂, hq₂, .of_steps (Steps.trans harr (.one step_inLoop)) harr₂⟩
      | exit id => exact ⟨_, a₁, w₁, hq, .pass (x := .inLoop c) rfl (fun _ _ => .inl (by simp)) harr⟩
      | goto l => exact ⟨_, a₁, w₁, hq, .pass (x := .inLoop c) rfl (fun _ _ => .inl (by simp)) harr⟩
      | ret => exact ⟨_, a₁, w₁, hq, .pass (x := .inLoop c) rfl (fun _ _ => .inl (by simp)) harr⟩
      | panic ch => exact ⟨_, a₁, w₁, hq, .pass (x := .inLoop c) rfl (fun _ _ => .inl (by simp)) harr⟩
      | outgrown => exact ⟨_, a₁, w₁, hq, .pass (x := .inLoop c) rfl (fun _ _ => .inl (by simp)) harr⟩
  obtain ⟨e, a', w', hq, harr⟩ := key n a w h
  exact ⟨e, a', w', hq, .of_steps (.one step_loop) harr⟩
end

end Go.Ev
