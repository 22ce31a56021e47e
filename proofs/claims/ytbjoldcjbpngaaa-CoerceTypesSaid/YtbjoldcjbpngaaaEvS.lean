/-
  A region whose order is drawn does in every order what the evaluator says.
-/
import Derived.Test.YtbjoldcjbpngaaaEvR
set_option linter.unusedVariables false
set_option linter.unusedSimpArgs false
namespace Go.Ev
open Go

theorem Rel.holes {Γ : Gh} {H : Heap} {w : World} (hR : Rel Γ H w) (m : Nat) : Rel Γ (H ++ List.replicate m .hole) w := by
  refine ⟨hR.mem, ?_, ?_, hR.owned⟩
  · intro b B hb
    by_cases hl : b < H.length
    · rw [List.getElem?_append_left hl] at hb; exact hR.blk b B hb
    · rw [List.getElem?_append_right (by omega), List.getElem?_replicate] at hb
      split at hb
      · cases hb; exact hR.dom b (by omega)
      · cases hb
  · intro b hb
    exact hR.dom b (by simp at hb; omega)

abbrev Item := AOper × Nat × List Nat

def itemAt (l : List Item) (i : Nat) : Item := (l[i]?).getD default

def unlisted (n : Nat) (listed : Array Bool) : List Nat := (List.range n).filter fun i => !listed.getD i true

/-- What is known of a region of which the order is drawn. -/
structure DrawOk (P : Program) (n : Nat) (ops : Array Oper) (l : List Item) (F : Nat → Foot) : Prop where
  len : l.length = ops.size
  oper : ∀ (i : Nat) (o : Oper), ops[i]? = some o → chkOper P n ops (itemAt l i).1 o = true
  back : ∀ (i : Nat) (o : Oper), ops[i]? = some o → ∀ e ∈ o.after, Region.binds .any e = true → e.on < i
  deps : ∀ (i : Nat) (o : Oper), ops[i]? = some o → ∀ k, k ∈ (itemAt l i).2.2 → ∃ e ∈ o.after, Region.binds .any e = true ∧ (e.on = k ∨ k ∈ (itemAt l e.on).2.2)
  pair : ∀ i k, i < l.length → k < i → k ∈ (itemAt l i).2.2 ∨ (regOk (itemAt l k).1 (itemAt l i).1 = true ∧ disj (F k) (F i) = true)

section
variable {P : Program} {n : Nat} {ops : Array Oper} {l : List Item} {F : Nat → Foot}

def DownClosed (ops : Array Oper) (listed : Array Bool) : Prop := ∀ (i : Nat) (o : Oper), listed[i]? = some true → ops[i]? = some o → ∀ e ∈ o.after, Region.binds .any e = true → listed[e.on]? = some true

theorem getD_false {listed : Array Bool} {i : Nat} (h : listed.getD i false = true) : listed[i]? = some true := by
  rw [Array.getD_eq_getD_getElem?] at h
  cases hx : listed[i]? with
  | none => rw [hx] at h; cases h
  | some b => rw [hx] at h; simp at h; rw [h]

theorem getD_true {listed : Array Bool} {i : Nat} (h : listed.getD i true = false) : listed[i]? = some false := by
  rw [Array.getD_eq_getD_getElem?] at h
  cases hx : listed[i]? with
  | none => rw [hx] at h; cases h
  | some b => rw [hx] at h; simp at h; rw [h]

theorem deps_listed (hD : DrawOk P n ops l F) {listed : Array Bool} (hd : DownClosed ops listed) : ∀ (i : Nat) (o : Oper), ops[i]? = some o → (∀ e ∈ o.after, Region.binds .any e = true → listed[e.on]? = some true) →
    ∀ k, k ∈ (itemAt l i).2.2 → listed[k]? = some true := by
  intro i
  induction i using Nat.strongRecOn with
  | _ i ih =>
    intro o ho hall k hk
    obtain ⟨e, he, hb, h | h⟩ := hD.deps i o ho k hk
    · rw [← h]; exact hall e he hb
    · have hlt := hD.back i o ho e he hb
      have hi : i < ops.size := (Array.getElem?_eq_some_iff.1 ho).1
      have ho' : ops[e.on]? = some ops[e.on] := Array.getElem?_eq_getElem (by omega)
      exact ih e.on hlt _ ho' (hd e.on _ (hall e he hb) ho') k h

theorem mem_unlisted {m i : Nat} {listed : Array Bool} : i ∈ unlisted m listed ↔ i < m ∧ listed[i]? = some false := by
  unfold unlisted
  rw [List.mem_filter, List.mem_range]
  constructor
  · rintro ⟨h1, h2⟩
    exact ⟨h1, getD_true (by simpa using h2)⟩
  · rintro ⟨h1, h2⟩
    refine ⟨h1, ?_⟩
    rw [Array.getD_eq_getD_getElem?, h2]; rfl

theorem unlisted_split {m i : Nat} {listed : Array Bool} (hi : i < m) (h : listed[i]? = some false) : ∃ pre post, unlisted m listed = pre ++ i :: post ∧ unlisted m (listed.setIfInBounds i true) = pre ++ post ∧ ∀ j, j ∈ pre → j < i ∧ listed[j]? = some false := by
  have hr : List.range m = List.range' 0 i ++ i :: List.range' (i + 1) (m - i - 1) := by
    rw [List.range_eq_range', ← List.range'_succ]
    have := List.range'_append_1 (s := 0) (m := i) (n := m - i - 1 + 1)
    rw [Nat.zero_add] at this
    rw [this]
    congr 1; omega
  have hset : ∀ j, j ≠ i → (listed.setIfInBounds i true).getD j true = listed.getD j true := by
    intro j hj
    simp only [Array.getD_eq_getD_getElem?, Array.getElem?_setIfInBounds]
    rw [if_neg (fun h => hj h.symm)]
  have hlt : i < listed.size := (Array.getElem?_eq_some_iff.1 h).1
  refine ⟨(List.range' 0 i).filter fun j => !listed.getD j true, (List.range' (i + 1) (m - i - 1)).filter fun j => !listed.getD j true, ?_, ?_, ?_⟩
  · unfold unlisted
    rw [hr, List.filter_append, List.filter_cons_of_pos]
    rw [Array.getD_eq_getD_getElem?, h]; rfl
  · unfold unlisted
    rw [hr, List.filter_append, List.filter_cons_of_neg]
    · congr 1
      · apply List.filter_congr
        intro j hj
        rw [List.mem_range'_1] at hj
        rw [hset j (by omega)]
      · apply List.filter_congr
        intro j hj
        rw [List.mem_range'_1] at hj
        rw [hset j (by omega)]
    · simp [Array.getD_eq_getD_getElem?, Array.getElem?_setIfInBounds, hlt]
  · intro j hj
    rw [List.mem_filter, List.mem_range'_1] at hj
    exact ⟨by omega, getD_true (by simpa using hj.2)⟩

theorem any_wp {C : Ctx} (hC : CallsOk P C.call) {base : Nat} (hD : DrawOk P n ops l F) {Γ0 : Gh} {w0 : World} {eF : Env} {HF : Heap} : ∀ (fuel : Nat) (listed : Array Bool) (Γ : Gh) (e : Env) (H : Heap) (a : Act) (w : World) (e2 : Env),
    listed.size = ops.size → DownClosed ops listed → (unlisted ops.size listed).length ≤ fuel → St Γ n e H a w → Stp Γ0 w0 Γ w →
    runD C base ((unlisted ops.size listed).map (itemAt l)) e H = some ((unlisted ops.size listed).map F, e2, HF) → EqE e2 eF →
    wpAny P .any ops (QOk Γ0 w0 n (.norm, eF, HF)) fuel listed a w := by
  have finish : ∀ (listed : Array Bool) (Γ : Gh) (e : Env) (H : Heap) (a : Act) (w : World) (e2 : Env), St Γ n e H a w → Stp Γ0 w0 Γ w → unlisted ops.size listed = [] →
      runD C base ((unlisted ops.size listed).map (itemAt l)) e H = some ((unlisted ops.size listed).map F, e2, HF) → EqE e2 eF → QOk Γ0 w0 n (.norm, eF, HF) .normal a w := by
    intro listed Γ e H a w e2 hS hst hnil hrun heq
    rw [hnil] at hrun
    simp only [List.map_nil, runD, Option.some.injEq, Prod.mk.injEq, true_and] at hrun
    obtain ⟨rfl, rfl⟩ := hrun
    exact ⟨Γ, hst, ⟨fun t v hv => hS.env t v (by rw [heq t]; exact hv), hS.rel, hS.size, hS.defers⟩, trivial⟩
  intro fuel
  induction fuel with
  | zero =>
    intro listed Γ e H a w e2 hsz hdown hcount hS hst hrun heq
    have hnil : unlisted ops.size listed = [] := List.length_eq_zero_iff.1 (by omega)
    refine ⟨?_, finish listed Γ e H a w e2 hS hst hnil hrun heq⟩
    apply List.eq_nil_iff_forall_not_mem.2
    intro j hj
    rw [mem_ready] at hj
    have h1 := getD_true hj.1
    have : j ∈ unlisted ops.size listed := mem_unlisted.2 ⟨by rw [← hsz]; exact (Array.getElem?_eq_some_iff.1 h1).1, h1⟩
    rw [hnil] at this; cases this
  | succ fuel ih =>
    intro listed Γ e H a w e2 hsz hdown hcount hS hst hrun heq
    refine ⟨?_, ?_⟩
    · intro hready
      refine finish listed Γ e H a w e2 hS hst ?_ hrun heq
      have all : ∀ i, i < ops.size → listed[i]? = some true := by
        intro i
        induction i using Nat.strongRecOn with
        | _ i ihi =>
          intro hi
          have hil : i < listed.size := by rw [hsz]; exact hi
          cases hb : listed[i] with
          | true => rw [Array.getElem?_eq_getElem hil, hb]
          | false =>
            have : i ∈ Region.ready .any ops listed := by
              rw [mem_ready]
              refine ⟨by simp [Array.getD_eq_getD_getElem?, Array.getElem?_eq_getElem hil, hb], ops[i], Array.getElem?_eq_getElem hi, ?_⟩
              intro ed hed hbd
              have hlt := hD.back i ops[i] (Array.getElem?_eq_getElem hi) ed hed hbd
              have := ihi ed.on hlt (by omega)
              rw [Array.getD_eq_getD_getElem?, this]; rfl
            rw [hready] at this; cases this
      apply List.eq_nil_iff_forall_not_mem.2
      intro j hj
      obtain ⟨h1, h2⟩ := mem_unlisted.1 hj
      rw [all j h1] at h2; cases h2
    · intro i hi
      rw [mem_ready] at hi
      obtain ⟨hun, o, ho, hedges⟩ := hi
      have hunl := getD_true hun
      have hil : i < ops.size := (Array.getElem?_eq_some_iff.1 ho).1
      obtain ⟨pre, post, hs1, hs2, hpre⟩ := unlisted_split hil hunl
      have hedges' : ∀ ed ∈ o.after, Region.binds .any ed = true → listed[ed.on]? = some true := fun ed hed hb => getD_false (hedges ed hed hb)
      have hdl := deps_listed hD hdown i o ho hedges'
      rw [hs1] at hrun
      simp only [List.map_append, List.map_cons] at hrun
      obtain ⟨v, H1, e3, k1, k2, k3⟩ := front (by simp) (by
        intro k x f hx hf
        rw [List.getElem?_map, Option.map_eq_some_iff] at hx hf
        obtain ⟨j, hj, rfl⟩ := hx
        obtain ⟨j', hj', rfl⟩ := hf
        rw [hj] at hj'; cases hj'
        obtain ⟨hji, hjl⟩ := hpre j (List.mem_of_getElem? hj)
        rcases hD.pair i j (by rw [hD.len]; exact hil) hji with h | h
        · have := hdl j h
          rw [hjl] at this; cases this
        · exact h) hrun
      rw [← List.map_append, ← List.map_append, ← hs2] at k2
      have hdown' : DownClosed ops (listed.setIfInBounds i true) := by
        intro j oj hj hoj ed hed hb
        have keep : ∀ t : Nat, listed[t]? = some true → (listed.setIfInBounds i true)[t]? = some true := by
          intro t ht
          rw [Array.getElem?_setIfInBounds]
          split
          · rename_i h; subst h; rw [hunl] at ht; cases ht
          · exact ht
        by_cases hji : j = i
        · subst hji
          rw [ho] at hoj; cases hoj
          exact keep _ (hedges' ed hed hb)
        · rw [Array.getElem?_setIfInBounds, if_neg (fun h => hji h.symm)] at hj
          exact keep _ (hdown j oj hj hoj ed hed hb)
      have hcount' : (unlisted ops.size (listed.setIfInBounds i true)).length ≤ fuel := by
        have := congrArg List.length hs1
        have h2 := congrArg List.length hs2
        simp at this h2
        omega
      have hchk := hD.oper i o ho
      simp only [chkOper, Bool.and_eq_true] at hchk
      obtain ⟨⟨hd, hg⟩, hop⟩ := hchk
      obtain ⟨hd1, hd2⟩ := chkDst_eq hd
      unfold wpOp
      rw [ho]
      simp only
      unfold stepV at k1
      split at k1 <;> first | (cases k1; done) | skip
      · rename_i hw
        rw [wantedA_sound hS hg hw]
        simp only [if_true]
        left
        split at k1 <;> first | (cases k1; done) | skip
        split at k1 <;> first | (cases k1; done) | skip
        rename_i v' H' hev
        simp only [Option.some.injEq, Prod.mk.injEq] at k1
        obtain ⟨_, rfl, rfl⟩ := k1
        refine op_wp hC hS.env hS.rel hop hev ?_ ?_
        · intro v'' c w' Γ' hx hrep hR hst'
          cases hx
          rw [hd1]
          exact ih _ Γ' _ _ _ _ e3 (by simpa using hsz) hdown' hcount' ((hS.mono hst' hR).put hd2 hrep) (hst.trans hst') k2 (fun t => (k3 t).symm.trans (heq t))
        · intro v'' c w' Γ' hx; cases hx
      · rename_i hw
        rw [wantedA_sound hS hg hw]
        simp only [Bool.false_eq_true, if_false]
        simp only [Option.some.injEq, Prod.mk.injEq] at k1
        obtain ⟨_, rfl, rfl⟩ := k1
        rw [hd1]
        exact ih _ Γ _ _ _ _ e3 (by simpa using hsz) hdown' hcount' (hS.put hd2 (rep_undef Γ)) hst k2 (fun t => (k3 t).symm.trans (heq t))

theorem runD_len {C : Ctx} {base : Nat} : ∀ {l : List Item} {e e2 : Env} {H H2 : Heap} {fs : List Foot}, runD C base l e H = some (fs, e2, H2) → fs.length = l.length
  | [], e, e2, H, H2, fs, h => by simp [runD] at h; rw [h.1]; rfl
  | p :: l, e, e2, H, H2, fs, h => by
    simp only [runD] at h
    split at h <;> first | (cases h; done) | skip
    split at h <;> first | (cases h; done) | skip
    rename_i fs' r' hr
    simp only [Option.some.injEq, Prod.mk.injEq] at h
    obtain ⟨rfl, rfl⟩ := h
    simp [runD_len hr]

theorem okEarlier_get {deps : List Nat} {f : Foot} : ∀ {gs : List Foot} {o k : Nat} {g : Foot}, okEarlier deps f o gs = true → gs[k]? = some g → disj g f = true ∨ (o + k) ∈ deps
  | [], o, k, g, _, h => by simp at h
  | g0 :: gs, o, 0, g, hk, h => by
    simp only [okEarlier, Bool.and_eq_true, Bool.or_eq_true, Bool.not_eq_true'] at hk
    simp at h; subst h
    rcases hk.1 with h | h
    · exact .inl h
    · right
      by_cases hm : o ∈ deps
      · simpa using hm
      · rw [notIn_iff.2 hm] at h; cases h
  | g0 :: gs, o, k + 1, g, hk, h => by
    simp only [okEarlier, Bool.and_eq_true] at hk
    simp at h
    have := okEarlier_get (o := o + 1) (k := k) hk.2 h
    rwa [show o + 1 + k = o + (k + 1) by omega] at this

theorem okFs_get {all : List Foot} : ∀ {ps : List Item} {fs : List Foot} {i k : Nat} {p : Item} {f : Foot}, okFs all i ps fs = true → ps[k]? = some p → fs[k]? = some f → okEarlier p.2.2 f 0 (all.take (i + k)) = true
  | [], fs, i, k, p, f, _, h, _ => by simp at h
  | p0 :: ps, [], i, k, p, f, _, _, h => by simp at h
  | p0 :: ps, f0 :: fs, i, 0, p, f, hk, h1, h2 => by
    simp only [okFs, Bool.and_eq_true] at hk
    simp at h1 h2; subst h1; subst h2
    exact hk.1
  | p0 :: ps, f0 :: fs, i, k + 1, p, f, hk, h1, h2 => by
    simp only [okFs, Bool.and_eq_true] at hk
    have := okFs_get (i := i + 1) (k := k) hk.2 (by simpa using h1) (by simpa using h2)
    rwa [show i + 1 + k = i + (k + 1) by omega] at this

theorem chkOps_get : ∀ {l : List AOper} {os : List Oper} {i : Nat} {o : Oper}, chkOps P n ops l os = true → os[i]? = some o → ∃ p, l[i]? = some p ∧ chkOper P n ops p o = true
  | [], [], i, o, _, h => by simp at h
  | [], _ :: _, i, o, hk, _ => by simp [chkOps] at hk
  | _ :: _, [], i, o, _, h => by simp at h
  | p :: l, o' :: os, 0, o, hk, h => by
    simp only [chkOps, Bool.and_eq_true] at hk
    simp at h; subst h
    exact ⟨p, rfl, hk.1⟩
  | p :: l, o' :: os, i + 1, o, hk, h => by
    simp only [chkOps, Bool.and_eq_true] at hk
    simp at h
    obtain ⟨q, h1, h2⟩ := chkOps_get hk.2 h
    exact ⟨q, by simpa using h1, h2⟩

theorem chkOps_len : ∀ {l : List AOper} {os : List Oper}, chkOps P n ops l os = true → l.length = os.length
  | [], [], _ => rfl
  | [], _ :: _, hk => by simp [chkOps] at hk
  | _ :: _, [], hk => by simp [chkOps] at hk
  | p :: l, o' :: os, hk => by
    simp only [chkOps, Bool.and_eq_true] at hk
    simp [chkOps_len hk.2]

theorem pairsOk_get {y : AOper} {deps : List Nat} : ∀ {xs : List Item} {o k : Nat} {x : Item}, pairsOk y deps o xs = true → xs[k]? = some x → (o + k) ∈ deps ∨ regOk x.1 y = true
  | [], o, k, x, _, h => by simp at h
  | x0 :: xs, o, 0, x, hk, h => by
    simp only [pairsOk, Bool.and_eq_true, Bool.or_eq_true, Bool.not_eq_true'] at hk
    simp at h; subst h
    rcases hk.1 with h | h
    · left
      by_cases hm : o ∈ deps
      · simpa using hm
      · rw [notIn_iff.2 hm] at h; cases h
    · exact .inr h
  | x0 :: xs, o, k + 1, x, hk, h => by
    simp only [pairsOk, Bool.and_eq_true] at hk
    simp at h
    have := pairsOk_get (o := o + 1) (k := k) hk.2 h
    rwa [show o + 1 + k = o + (k + 1) by omega] at this

theorem allDeps_mem {x : Oper} {ds : List (List Nat)} : ∀ {ks : List Nat} {k : Nat}, allDeps x ds ks = true → k ∈ ks → depOk x ds k = true
  | [], k, _, h => by simp at h
  | k0 :: ks, k, hk, h => by
    simp only [allDeps, Bool.and_eq_true] at hk
    rcases List.mem_cons.1 h with rfl | h
    · exact hk.1
    · exact allDeps_mem hk.2 h

theorem chkDrawL_get : ∀ {ps : List Item} {os : List Oper} {pre : List Item} {k : Nat} {p : Item} {o : Oper}, chkDrawL pre.length pre (pre.map (·.2.2)) ps os = true → ps[k]? = some p → os[k]? = some o →
    (∀ e ∈ o.after, Region.binds .any e = true → e.on < pre.length + k) ∧ allDeps o ((pre ++ ps.take k).map (·.2.2)) p.2.2 = true ∧ pairsOk p.1 p.2.2 0 (pre ++ ps.take k) = true
  | [], os, pre, k, p, o, _, h, _ => by simp at h
  | p0 :: ps, [], pre, k, p, o, _, _, h => by simp at h
  | p0 :: ps, o0 :: os, pre, 0, p, o, hk, h1, h2 => by
    simp only [chkDrawL, Bool.and_eq_true] at hk
    simp at h1 h2; subst h1; subst h2
    refine ⟨?_, by simpa using hk.1.1.2, by simpa using hk.1.2⟩
    intro e he hb
    have := List.all_eq_true.1 hk.1.1.1 e (by simpa using he)
    rw [hb] at this
    simpa [Nat.blt_eq] using this
  | p0 :: ps, o0 :: os, pre, k + 1, p, o, hk, h1, h2 => by
    simp only [chkDrawL, Bool.and_eq_true] at hk
    have h3 := hk.2
    have := chkDrawL_get (ps := ps) (os := os) (pre := pre ++ [p0]) (k := k) (p := p) (o := o) (by simpa using h3) (by simpa using h1) (by simpa using h2)
    simp only [List.length_append, List.length_singleton, List.append_assoc, List.cons_append, List.nil_append] at this
    refine ⟨?_, by simpa using this.2.1, by simpa using this.2.2⟩
    intro e he hb
    have := this.1 e he hb
    omega

theorem itemAt_some {i : Nat} {p : Item} (h : l[i]? = some p) : itemAt l i = p := by simp [itemAt, h]

theorem drawOk_of (hk : chkDraw P n l ops = true) {fs : List Foot} (hl : fs.length = l.length) (hf : okFs fs 0 l fs = true) : DrawOk P n ops l (fun i => (fs[i]?).getD default) := by
  simp only [chkDraw, Bool.and_eq_true] at hk
  obtain ⟨hk1, hk2⟩ := hk
  have hlen : l.length = ops.size := by simpa using chkOps_len hk1
  have get : ∀ (i : Nat) (o : Oper), ops[i]? = some o → ∃ p, l[i]? = some p ∧ itemAt l i = p := by
    intro i o ho
    have hi : i < l.length := by rw [hlen]; exact (Array.getElem?_eq_some_iff.1 ho).1
    exact ⟨l[i], List.getElem?_eq_getElem hi, itemAt_some (List.getElem?_eq_getElem hi)⟩
  have gd : ∀ (i : Nat) (o : Oper) (p : Item), ops[i]? = some o → l[i]? = some p → (∀ e ∈ o.after, Region.binds .any e = true → e.on < i) ∧ allDeps o ((l.take i).map (·.2.2)) p.2.2 = true ∧ pairsOk p.1 p.2.2 0 (l.take i) = true := by
    intro i o p ho hp
    have := chkDrawL_get (pre := []) (k := i) (p := p) (o := o) hk2 hp (by simpa using ho)
    simpa using this
  refine ⟨hlen, ?_, ?_, ?_, ?_⟩
  · intro i o ho
    obtain ⟨p, h1, h2⟩ := get i o ho
    obtain ⟨q, h3, h4⟩ := chkOps_get hk1 (i := i) (o := o) (by simpa using ho)
    rw [List.getElem?_map, h1] at h3
    simp at h3
    rw [h2, h3]; exact h4
  · intro i o ho
    obtain ⟨p, h1, h2⟩ := get i o ho
    exact (gd i o p ho h1).1
  · intro i o ho k hkk
    obtain ⟨p, h1, h2⟩ := get i o ho
    obtain ⟨g1, g2, _⟩ := gd i o p ho h1
    rw [h2] at hkk
    have := allDeps_mem g2 hkk
    simp only [depOk, edgeOn, Bool.or_eq_true, List.any_eq_true, Bool.and_eq_true] at this
    rcases this with ⟨ed, hed, hb, hq⟩ | ⟨ed, hed, hb, hq⟩
    · exact ⟨ed, by simpa using hed, hb, .inl (beq_eq hq)⟩
    · refine ⟨ed, by simpa using hed, hb, .inr ?_⟩
      have hlt := g1 ed (by simpa using hed) hb
      split at hq
      · rename_i d hd
        rw [List.getElem?_map, List.getElem?_take, if_pos hlt, Option.map_eq_some_iff] at hd
        obtain ⟨q, hq1, rfl⟩ := hd
        rw [itemAt_some hq1]
        by_cases hm : k ∈ q.2.2
        · exact hm
        · rw [notIn_iff.2 hm] at hq; simp at hq
      · cases hq
  · intro i k hi hki
    have ho : ops[i]? = some ops[i] := Array.getElem?_eq_getElem (by omega)
    have hp : l[i]? = some l[i] := List.getElem?_eq_getElem hi
    have hq : l[k]? = some l[k] := List.getElem?_eq_getElem (by omega)
    have hfi : fs[i]? = some fs[i] := List.getElem?_eq_getElem (by omega)
    have hfk : fs[k]? = some fs[k] := List.getElem?_eq_getElem (by omega)
    rw [itemAt_some hp, itemAt_some hq]
    obtain ⟨_, _, g3⟩ := gd i _ _ ho hp
    have r1 := pairsOk_get (o := 0) (k := k) (x := l[k]) g3 (by rw [List.getElem?_take, if_pos hki]; exact hq)
    have r2 := okEarlier_get (o := 0) (k := k) (g := fs[k]) (okFs_get (i := 0) hf hp hfi) (by rw [List.getElem?_take, if_pos (by omega)]; exact hfk)
    simp only [Nat.zero_add] at r1 r2
    simp only [hfi, hfk, Option.getD_some]
    rcases r1 with h | h
    · exact .inl h
    · rcases r2 with h' | h'
      · exact .inr ⟨h, h'⟩
      · exact .inl h'

theorem draw_wp {C : Ctx} (hC : CallsOk P C.call) (hm : P.follows .mixedOrders = true) {id m : Nat} {Γ : Gh} {e : Env} {H : Heap} {a : Act} {w : World} {r : AEx × Env × Heap} (hk : chkDraw P n l ops = true) (hS : St Γ n e H a w)
    (hv : evalDraw C H.length l e (H ++ List.replicate m .hole) = some r) : (Code.region id ops true).wp P (QOk Γ w n r) a w := by
  unfold evalDraw at hv
  split at hv <;> first | (cases hv; done) | skip
  rename_i fs e' H' hrun
  split at hv <;> first | (cases hv; done) | skip
  rename_i hok
  cases hv
  have hfl := runD_len hrun
  have hD := drawOk_of hk hfl hok
  have hall : unlisted ops.size (Array.replicate ops.size false) = List.range ops.size := by
    unfold unlisted
    rw [List.filter_eq_self]
    intro i hi
    rw [List.mem_range] at hi
    simp [Array.getD_eq_getD_getElem?, Array.getElem?_replicate, hi]
  have hitems : (List.range ops.size).map (itemAt l) = l := by
    rw [← hD.len]
    apply List.ext_getElem?
    intro i
    rw [List.getElem?_map]
    by_cases hi : i < l.length
    · simp [hi, itemAt]
    · simp [hi]
  have hfoots : (List.range ops.size).map (fun i => (fs[i]?).getD default) = fs := by
    rw [← hD.len, ← hfl]
    apply List.ext_getElem?
    intro i
    rw [List.getElem?_map]
    by_cases hi : i < fs.length
    · simp [hi]
    · simp [hi]
  refine wp_region_any hm ?_
  refine any_wp hC (base := H.length) hD ops.size _ Γ e (H ++ List.replicate m .hole) a _ e' (by simp) ?_ ?_ ?_ ?_ ?_ (fun _ => rfl)
  · intro i o hi
    simp [Array.getElem?_replicate] at hi
  · rw [hall]; simp
  · exact ⟨hS.env, (hS.rel.holes m).drew _, hS.size, hS.defers⟩
  · exact Stp.drew Γ w _
  · rw [hall, hitems, hfoots]; exact hrun
end

end Go.Ev
