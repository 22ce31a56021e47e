/-
  Operations of a region whose order is drawn: one that nothing holds back may come first.
-/
import Derived.Test.YtbjoldcjbpngaaaEvQ
set_option linter.unusedVariables false
set_option linter.unusedSimpArgs false
namespace Go.Ev
open Go

/-- What a footprint says of an operation that was done. -/
def FootOk (g : Heap → Option (Foot × AVal × Heap)) (H H' : Heap) (v : AVal) : Foot → Prop
  | .io r w => (∀ b, b ∈ w → b ∈ r) ∧ (∀ b, b ∉ w → H'[b]? = H[b]?) ∧ ∀ H2 : Heap, (∀ b, b ∈ r → H2[b]? = H[b]?) →
      ∃ H2', g H2 = some (.io r w, v, H2') ∧ (∀ b, b ∈ w → H2'[b]? = H'[b]?) ∧ ∀ b, b ∉ w → H2'[b]? = H2[b]?
  | .opq H0 H1 => H0 = H ∧ H1 = H'

theorem stepV_foot {C : Ctx} {base j : Nat} {o : AOper} {e : Env} {H H' : Heap} {f : Foot} {v : AVal} (h : stepV C base o j e H = some (f, v, H')) : FootOk (fun H => stepV C base o j e H) H H' v f := by
  unfold stepV at h
  split at h <;> first | (cases h; done) | skip
  · rename_i hw
    split at h <;> first | (cases h; done) | skip
    rename_i hroom
    split at h <;> first | (cases h; done) | skip
    rename_i v' H1 hev
    simp only [Option.some.injEq, Prod.mk.injEq] at h
    obtain ⟨rfl, rfl, rfl⟩ := h
    unfold footA
    unfold evalOp at hev
    split
    · rename_i hk
      rw [hk] at hev
      simp only at hev
      obtain ⟨hp, rfl⟩ := okv_some hev
      refine ⟨by simp, fun _ _ => rfl, ?_⟩
      intro H2 _
      refine ⟨H2, ?_, by simp, fun _ _ => rfl⟩
      simp [stepV, hw, hk, evalOp, hp, okv, footA]
    · rename_i hk
      rw [hk] at hev hroom
      simp only at hev
      split at hev <;> first | (cases hev; done) | skip
      rename_i u B hn
      split at hev <;> first | (cases hev; done) | skip
      rename_i H1' hat
      simp only [Option.some.injEq, Prod.mk.injEq, Ex.ok.injEq] at hev
      obtain ⟨rfl, rfl⟩ := hev
      have hlt : base + j < H.length := by
        rcases Nat.lt_or_ge (base + j) H.length with h | h
        · exact h
        · exact absurd (by simp [h]) hroom
      unfold newAt at hat
      rw [if_neg (by omega)] at hat
      split at hat <;> first | (cases hat; done) | skip
      rename_i hhole
      cases hat
      refine ⟨by simp, ?_, ?_⟩
      · intro b hb
        rw [List.getElem?_set_ne (by simp at hb; exact fun h => hb h.symm)]
      · intro H2 h2
        have hb2 : H2[base + j]? = some .hole := by rw [h2 _ (List.mem_singleton.2 rfl)]; exact hhole
        have hlt2 : base + j < H2.length := (List.getElem?_eq_some_iff.1 hb2).1
        refine ⟨H2.set (base + j) B, ?_, ?_, ?_⟩
        · have hroom2 : Nat.ble H2.length (base + j) = false := by
            cases hb : Nat.ble H2.length (base + j) with
            | false => rfl
            | true => have := Nat.le_of_ble_eq_true hb; omega
          have hat2 : newAt H2 (base + j) B = some (H2.set (base + j) B) := by
            unfold newAt
            rw [if_neg (by omega), hb2]
          simp [stepV, hw, hk, evalOp, hn, hat2, footA, hroom2]
        · intro b hb
          simp at hb; subst hb
          rw [List.getElem?_set_self hlt2, List.getElem?_set_self hlt]
        · intro b hb
          rw [List.getElem?_set_ne (by simp at hb; exact fun h => hb h.symm)]
    · rename_i hk
      rw [hk] at hev
      simp only at hev
      split
      · rename_i r w hf
        obtain ⟨h1, h2, h3⟩ := evH_loc hf hev
        refine ⟨h1, h2, ?_⟩
        intro H2 ha
        obtain ⟨k1, H2', k2, k3, k4⟩ := h3 H2 ha
        refine ⟨H2', ?_, k3, k4⟩
        simp only at k1 k2
        simp [stepV, hw, hk, evalOp, k2, footA, k1]
      · exact ⟨rfl, rfl⟩
  · rename_i hw
    simp only [Option.some.injEq, Prod.mk.injEq] at h
    obtain ⟨rfl, rfl, rfl⟩ := h
    refine ⟨by simp, fun _ _ => rfl, ?_⟩
    intro H2 _
    refine ⟨H2, ?_, by simp, fun _ _ => rfl⟩
    simp only [stepV, hw]

theorem beq_eq {a b : Nat} (h : Nat.beq a b = true) : a = b := Nat.eq_of_beq_eq_true h

theorem sameV_eq : ∀ v v', sameV v v' = true → v = v' := by
  intro v
  induction v using AVal.rec (motive_2 := fun vs => ∀ vs', sameL vs vs' = true → vs = vs') with
  | nil => rename_i vs' h; cases vs' with
    | nil => rfl
    | cons => simp [sameL] at h
  | cons v vs ih1 ih2 => rename_i vs' h; cases vs' with
    | nil => simp [sameL] at h
    | cons v' vs' => simp only [sameL, Bool.and_eq_true] at h; rw [ih1 _ h.1, ih2 _ h.2]
  | int k n => intro v' h; cases v' <;> simp only [sameV, Bool.false_eq_true, Bool.and_eq_true, decide_eq_true_eq] at h; rw [h.1, h.2]
  | bool b => intro v' h; cases v' <;> simp only [sameV, Bool.false_eq_true, beq_iff_eq] at h; rw [h]
  | str b => intro v' h; cases v' <;> simp only [sameV, Bool.false_eq_true, decide_eq_true_eq] at h; rw [h]
  | nilp => intro v' h; cases v' <;> simp only [sameV, Bool.false_eq_true] at h; rfl
  | nili => intro v' h; cases v' <;> simp only [sameV, Bool.false_eq_true] at h; rfl
  | nilf => intro v' h; cases v' <;> simp only [sameV, Bool.false_eq_true] at h; rfl
  | nilm => intro v' h; cases v' <;> simp only [sameV, Bool.false_eq_true] at h; rfl
  | iface t v ih => intro v' h; cases v' <;> simp only [sameV, Bool.false_eq_true, Bool.and_eq_true] at h; rw [beq_eq h.1, ih _ h.2]
  | agg cs ih => intro v' h; cases v' <;> simp only [sameV, Bool.false_eq_true] at h; rw [ih _ h]
  | tup cs ih => intro v' h; cases v' <;> simp only [sameV, Bool.false_eq_true] at h; rw [ih _ h]
  | lst cs e ih => intro v' h; cases v' <;> simp only [sameV, Bool.false_eq_true, Bool.and_eq_true, beq_iff_eq] at h; rw [ih _ h.1, h.2]
  | gl o l => intro v' h; cases v' <;> simp only [sameV, Bool.false_eq_true, Bool.and_eq_true] at h; rw [beq_eq h.1, beq_eq h.2]
  | lptr o i w => intro v' h; cases v' <;> simp only [sameV, Bool.false_eq_true, Bool.and_eq_true] at h; rw [beq_eq h.1.1, beq_eq h.1.2, beq_eq h.2]
  | sl b o l c w => intro v' h; cases v' <;> simp only [sameV, Bool.false_eq_true, Bool.and_eq_true, decide_eq_true_eq] at h; rw [beq_eq h.1.1.1.1, beq_eq h.1.1.1.2, beq_eq h.1.1.2, beq_eq h.1.2, h.2]
  | ptr b o => intro v' h; cases v' <;> simp only [sameV, Bool.false_eq_true, Bool.and_eq_true] at h; rw [beq_eq h.1, beq_eq h.2]
  | ro cs ih => intro v' h; cases v' <;> simp only [sameV, Bool.false_eq_true] at h; rw [ih _ h]
  | fn f cs ih => intro v' h; cases v' <;> simp only [sameV, Bool.false_eq_true, Bool.and_eq_true] at h; rw [beq_eq h.1, ih _ h.2]
  | map b => intro v' h; cases v' <;> simp only [sameV, Bool.false_eq_true] at h; rw [beq_eq h]

theorem sameL_eq : ∀ vs vs', sameL vs vs' = true → vs = vs'
  | [], [], _ => rfl
  | [], _ :: _, h => by simp [sameL] at h
  | _ :: _, [], h => by simp [sameL] at h
  | v :: vs, v' :: vs', h => by simp only [sameL, Bool.and_eq_true] at h; rw [sameV_eq _ _ h.1, sameL_eq _ _ h.2]

theorem sameP_eq : ∀ vs vs', sameP vs vs' = true → vs = vs'
  | [], [], _ => rfl
  | [], _ :: _, h => by simp [sameP] at h
  | _ :: _, [], h => by simp [sameP] at h
  | (k, v) :: vs, (k', v') :: vs', h => by simp only [sameP, Bool.and_eq_true] at h; rw [sameV_eq _ _ h.1.1, sameV_eq _ _ h.1.2, sameP_eq _ _ h.2]

theorem sameB_eq {a b : Option ABlock} (h : sameB a b = true) : a = b := by
  cases a with
  | none => cases b with
    | none => rfl
    | some b => simp [sameB] at h
  | some a => cases b with
    | none => cases a <;> simp [sameB] at h
    | some b =>
      cases a <;> cases b <;> simp only [sameB, Bool.false_eq_true, Bool.and_eq_true, decide_eq_true_eq] at h <;> first | rfl | skip
      · rw [sameL_eq _ _ h]
      · rw [beq_eq h.1.1, sameL_eq _ _ h.1.2, h.2]
      · rw [sameP_eq _ _ h]

theorem sameOn_eq {H H' : Heap} : ∀ {r : List Nat}, sameOn H H' r = true → ∀ b, b ∈ r → H'[b]? = H[b]?
  | [], _, b, hb => by simp at hb
  | x :: xs, h, b, hb => by
    simp only [sameOn, Bool.and_eq_true] at h
    rcases List.mem_cons.1 hb with rfl | hb
    · exact (sameB_eq h.1).symm
    · exact sameOn_eq h.2 b hb

theorem notDst_agree (e : Env) (d : Option Nat) (v : AVal) : Agree (notDst d) (e.put d v) e := by
  intro t ht
  rw [Env.get_put]
  cases d with
  | none => simp
  | some d =>
    simp only [notDst, Bool.not_eq_true'] at ht
    rw [if_neg]
    intro h
    cases h
    simp at ht

theorem Agree.symm {S : Nat → Bool} {e e' : Env} (h : Agree S e e') : Agree S e' e := fun t ht => (h t ht).symm

/-- Two operations in turn, and in the other turn. -/
theorem swap {C : Ctx} {base j j' : Nat} {x y : AOper} {e : Env} {H Hx Hy : Heap} {fx fy : Foot} {vx vy : AVal} (hr : regOk x y = true) (hd : disj fx fy = true)
    (hx : stepV C base x j e H = some (fx, vx, Hx)) (hy : stepV C base y j' (e.put x.dst vx) Hx = some (fy, vy, Hy)) :
    ∃ H1, stepV C base y j' e H = some (fy, vy, H1) ∧ stepV C base x j (e.put y.dst vy) H1 = some (fx, vx, Hy) := by
  simp only [regOk, Bool.and_eq_true] at hr
  obtain ⟨⟨hr1, hr2⟩, hr3⟩ := hr
  rw [stepV_on (notDst_agree e x.dst vx) hr1] at hy
  have hx' : ∀ H1, stepV C base x j (e.put y.dst vy) H1 = stepV C base x j e H1 := fun H1 => stepV_on (notDst_agree e y.dst vy) hr2
  simp only [hx']
  have kx := stepV_foot hx
  have ky := stepV_foot hy
  cases fx with
  | io r w =>
    obtain ⟨x1, x2, x3⟩ := kx
    cases fy with
    | io r' w' =>
      obtain ⟨y1, y2, y3⟩ := ky
      simp only [disj, Bool.and_eq_true, noneIn_iff] at hd
      obtain ⟨d1, d2⟩ := hd
      obtain ⟨H1, k1, k2, k3⟩ := y3 H (fun b hb => (x2 b (fun hw => d1 b hw hb)).symm)
      obtain ⟨H2, m1, m2, m3⟩ := x3 H1 (fun b hb => k3 b (fun hw => d2 b hw hb))
      refine ⟨H1, k1, ?_⟩
      simp only at m1
      rw [m1]
      congr 3
      apply List.ext_getElem?
      intro b
      by_cases hw : b ∈ w
      · rw [m2 b hw, y2 b (fun hw' => d2 b hw' (x1 b hw))]
      · rw [m3 b hw]
        by_cases hw' : b ∈ w'
        · rw [k2 b hw']
        · rw [k3 b hw', y2 b hw', x2 b hw]
    | opq H0 H3 =>
      obtain ⟨rfl, rfl⟩ := ky
      cases w with
      | cons => simp [disj] at hd
      | nil =>
        simp only [disj] at hd
        have e1 : H0 = H := List.ext_getElem? fun b => x2 b (by simp)
        subst e1
        refine ⟨H3, hy, ?_⟩
        obtain ⟨H2, m1, m2, m3⟩ := x3 H3 (sameOn_eq hd)
        simp only at m1
        rw [m1]
        congr 3
        exact List.ext_getElem? fun b => m3 b (by simp)
  | opq H0 H3 =>
    obtain ⟨rfl, rfl⟩ := kx
    cases fy with
    | opq => simp [disj] at hd
    | io r' w' =>
      cases w' with
      | cons => simp [disj] at hd
      | nil =>
        obtain ⟨y1, y2, y3⟩ := ky
        simp only [disj] at hd
        have e1 : Hy = H3 := List.ext_getElem? fun b => y2 b (by simp)
        subst e1
        obtain ⟨H1, k1, k2, k3⟩ := y3 H0 (fun b hb => (sameOn_eq hd b hb).symm)
        have e2 : H1 = H0 := List.ext_getElem? fun b => k3 b (by simp)
        subst e2
        exact ⟨H1, k1, hx⟩

theorem put_swap {e : Env} {x y : AOper} {vx vy : AVal} (hr : regOk x y = true) : EqE ((e.put x.dst vx).put y.dst vy) ((e.put y.dst vy).put x.dst vx) := by
  simp only [regOk, Bool.and_eq_true] at hr
  obtain ⟨_, hr3⟩ := hr
  intro t
  simp only [Env.get_put]
  cases hx : x.dst with
  | none => simp
  | some d =>
    cases hy : y.dst with
    | none => simp
    | some d' =>
      rw [hx, hy] at hr3
      simp only [notDst, Bool.not_eq_true'] at hr3
      simp only [Option.some.injEq]
      by_cases h1 : d = t
      · by_cases h2 : d' = t
        · subst h1; subst h2; simp at hr3
        · simp [h1, h2]
      · simp [h1]

/-- An operation that meets none of those before it may come first. -/
theorem front {C : Ctx} {base : Nat} {y : AOper × Nat × List Nat} {post : List (AOper × Nat × List Nat)} {fy : Foot} {fpost : List Foot} :
    ∀ {pre : List (AOper × Nat × List Nat)} {fpre : List Foot} {e e2 : Env} {H H2 : Heap}, pre.length = fpre.length → (∀ (k : Nat) (x : AOper × Nat × List Nat) (f : Foot), pre[k]? = some x → fpre[k]? = some f → regOk x.1 y.1 = true ∧ disj f fy = true) →
      runD C base (pre ++ y :: post) e H = some (fpre ++ fy :: fpost, e2, H2) →
      ∃ v H1 e3, stepV C base y.1 y.2.1 e H = some (fy, v, H1) ∧ runD C base (pre ++ post) (e.put y.1.dst v) H1 = some (fpre ++ fpost, e3, H2) ∧ EqE e2 e3
  | [], fpre, e, e2, H, H2, hl, hp, h => by
    cases fpre with
    | cons => simp at hl
    | nil =>
      simp only [List.nil_append, runD] at h ⊢
      split at h <;> first | (cases h; done) | skip
      rename_i f v H' hs
      split at h <;> first | (cases h; done) | skip
      rename_i fs r' hr
      simp only [Option.some.injEq, Prod.mk.injEq, List.cons.injEq] at h
      obtain ⟨⟨rfl, rfl⟩, rfl⟩ := h
      exact ⟨v, H', e2, hs, hr, fun _ => rfl⟩
  | x :: pre, fpre, e, e2, H, H2, hl, hp, h => by
    cases fpre with
    | nil => simp at hl
    | cons fx fpre =>
      simp only [List.cons_append, runD] at h ⊢
      split at h <;> first | (cases h; done) | skip
      rename_i f v H' hs
      split at h <;> first | (cases h; done) | skip
      rename_i fs r' hr
      simp only [Option.some.injEq, Prod.mk.injEq, List.cons.injEq] at h
      obtain ⟨⟨rfl, rfl⟩, rfl⟩ := h
      obtain ⟨vy, H1, e3, k1, k2, k3⟩ := front (by simpa using hl) (fun k x' f' h1 h2 => hp (k + 1) x' f' (by simpa using h1) (by simpa using h2)) hr
      obtain ⟨hreg, hdis⟩ := hp 0 x f rfl rfl
      obtain ⟨H4, m1, m2⟩ := swap hreg hdis hs k1
      obtain ⟨e4, n1, n2⟩ := runD_eqE (put_swap hreg) k2
      refine ⟨vy, H4, e4, m1, ?_, fun t => (k3 t).trans (n2 t)⟩
      rw [m2]
      simp only [n1]
end Go.Ev
