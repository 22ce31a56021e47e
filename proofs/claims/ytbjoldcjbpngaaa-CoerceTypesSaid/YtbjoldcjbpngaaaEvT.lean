/-
  Code and functions: they do in the model what the evaluator says; every call of a table's functions.
-/
import Derived.Test.YtbjoldcjbpngaaaEvS
set_option linter.unusedVariables false
set_option linter.unusedSimpArgs false
namespace Go.Ev
open Go

/-- The evaluator's code is the model's. -/
def chkCode (P : Program) (n : Nat) : ACode → Code → Bool
  | .skip, c => match c with
    | .skip => true
    | .label _ => true
    | _ => false
  | .reg l, c => match c with
    | .region _ ops draw => !draw && chkOps P n ops l ops.toList
    | _ => false
  | .draw _ l, c => match c with
    | .region _ ops draw => draw && chkDraw P n l ops
    | _ => false
  | .seq a b, c => match a with
    | .own _ _ => chkCode P n b c
    | .shutl _ _ => chkCode P n b c
    | .prune _ => chkCode P n b c
    | _ => match c with
      | .seq c d => chkCode P n a c && chkCode P n b d
      | _ => false
  | .cond x a b, c => match c with
    | .cond y c d => chkO x y && chkCode P n a c && chkCode P n b d
    | _ => false
  | .block i a, c => match c with
    | .block j c => decide (i = j) && chkCode P n a c
    | _ => false
  | .loop _ a, c => match c with
    | .loop c => chkCode P n a c
    | _ => false
  | .exit i, c => match c with
    | .exit j => decide (i = j)
    | _ => false
  | .ret, c => match c with
    | .ret => true
    | _ => false
  | .own _ _, _ => false
  | .shutl _ _, _ => false
  | .prune _, _ => false

def chkRes (P : Program) : List ARes → List ResultVar → Bool
  | [], [] => true
  | r :: rs, v :: vs => (match r with
    | .t n => match v with
      | .tmp m => decide (n = m)
      | _ => false
    | .cs n => match v with
      | .cell m t => decide (n = m) && decide (aggB P t = some false)
      | _ => false
    | .ca n k => match v with
      | .cell m t => decide (n = m) && decide (aggB P t = some true) && sizeB P t k
      | _ => false) && chkRes P rs vs
  | _, _ => false

def chkFun (P : Program) (f : Nat) (af : AFunc) : Bool :=
  match P.funcs[f]? with
  | some fn => match fn.body with
    | some c => !(fn.name == "runtime.NumGoroutine") && chkCode P fn.ntmps af.body c && chkRes P af.results fn.results.toList
    | none => false
  | none => false

def chkTab (P : Program) : Nat → List (Option AFunc) → Bool
  | _, [] => true
  | i, none :: l => chkTab P (i + 1) l
  | i, some af :: l => chkFun P i af && chkTab P (i + 1) l

section
variable {P : Program} {n : Nat}

theorem QOk.trans {Γ0 Γ : Gh} {w0 w : World} {r : AEx × Env × Heap} {ex : Exit} {a : Act} {w' : World} (h : Stp Γ0 w0 Γ w) (hq : QOk Γ w n r ex a w') : QOk Γ0 w0 n r ex a w' := by
  obtain ⟨Γ', h1, h2, h3⟩ := hq
  exact ⟨Γ', h.trans h1, h2, h3⟩

theorem code_wp {C : Ctx} (hC : CallsOk P C.call) (hm : P.follows .mixedOrders = true) : ∀ (c : ACode) (c' : Code) (Γ : Gh) (e : Env) (H : Heap) (a : Act) (w : World) (r : AEx × Env × Heap), chkCode P n c c' = true → St Γ n e H a w →
    evalCode C c e H = some r → c'.wp P (QOk Γ w n r) a w := by
  intro c
  induction c with
  | skip =>
    intro c' Γ e H a w r hk hS hv
    simp only [evalCode, Option.some.injEq] at hv
    subst hv
    cases c' <;> simp only [chkCode, Bool.false_eq_true] at hk
    · exact wp_skip ⟨Γ, Stp.refl Γ w, hS, trivial⟩
    · exact wp_label ⟨Γ, Stp.refl Γ w, hS, trivial⟩
  | reg l =>
    intro c' Γ e H a w r hk hS hv
    simp only [evalCode] at hv
    cases c' <;> simp only [chkCode, Bool.false_eq_true, Bool.and_eq_true, Bool.not_eq_true'] at hk
    rename_i id ops draw
    obtain ⟨rfl, hk⟩ := hk
    exact reg_wp hC hk hS hv
  | draw m l =>
    intro c' Γ e H a w r hk hS hv
    simp only [evalCode] at hv
    cases c' <;> simp only [chkCode, Bool.false_eq_true, Bool.and_eq_true] at hk
    rename_i id ops draw
    obtain ⟨rfl, hk⟩ := hk
    exact draw_wp hC hm hk hS hv
  | seq x y ihx ihy =>
    intro c' Γ e H a w r hk hS hv
    have go : ∀ c1 c2, c' = .seq c1 c2 → chkCode P n x c1 = true → chkCode P n y c2 = true → c'.wp P (QOk Γ w n r) a w := by
      rintro c1 c2 rfl h1 h2
      simp only [evalCode] at hv
      refine wp_seq ?_
      cases hx : evalCode C x e H with
      | none => rw [hx] at hv; cases hv
      | some r1 =>
        rw [hx] at hv
        refine wp_mono (ihx c1 Γ e H a w r1 h1 hS hx) ?_
        rintro ex a1 w1 ⟨Γ1, hst, hS1, hex⟩
        obtain ⟨x1, e1, H1⟩ := r1
        cases x1 with
        | norm =>
          cases ex <;> simp only [ExitOk] at hex
          simp only at hv
          simp only [Exit.then]
          exact wp_mono (ihy c2 Γ1 e1 H1 a1 w1 r h2 hS1 hv) fun ex a2 w2 hq => QOk.trans hst hq
        | exit i =>
          simp only [Option.some.injEq] at hv; subst hv
          cases ex <;> simp only [ExitOk] at hex
          exact ⟨Γ1, hst, hS1, hex⟩
        | ret =>
          simp only [Option.some.injEq] at hv; subst hv
          cases ex <;> simp only [ExitOk] at hex
          exact ⟨Γ1, hst, hS1, trivial⟩
        | pan v =>
          simp only [Option.some.injEq] at hv; subst hv
          cases ex <;> simp only [ExitOk] at hex
          exact ⟨Γ1, hst, hS1, hex⟩
    cases x with
    | own t off =>
      simp only [chkCode] at hk
      simp only [evalCode] at hv
      obtain ⟨Γ1, hS1, hst⟩ := own_sound (t := t) (off := off) hS
      exact wp_mono (ihy c' Γ1 _ _ a w r hk hS1 hv) fun ex a2 w2 hq => QOk.trans hst hq
    | prune keep =>
      simp only [chkCode] at hk
      simp only [evalCode] at hv
      exact ihy c' Γ _ _ a w r hk (hS.restr keep) hv
    | shutl t off =>
      simp only [chkCode] at hk
      simp only [evalCode] at hv
      obtain ⟨Γ1, hS1, hst⟩ := seal_sound (t := t) (off := off) hS
      exact wp_mono (ihy c' Γ1 _ _ a w r hk hS1 hv) fun ex a2 w2 hq => QOk.trans hst hq
    | _ =>
      cases c' <;> simp only [chkCode, Bool.false_eq_true, Bool.and_eq_true] at hk
      exact go _ _ rfl hk.1 hk.2
  | cond x y z ihy ihz =>
    intro c' Γ e H a w r hk hS hv
    cases c' <;> simp only [chkCode, Bool.false_eq_true, Bool.and_eq_true] at hk
    rename_i y' c1 c2
    obtain ⟨⟨hx, h1⟩, h2⟩ := hk
    simp only [evalCode] at hv
    split at hv <;> first | (cases hv; done) | skip
    rename_i t ht
    have hc := (ev_rep hS.env hx ht).bool_inv
    refine wp_cond hc ?_
    cases t with
    | true => exact ihy c1 Γ e H a w r h1 hS (by simpa using hv)
    | false => exact ihz c2 Γ e H a w r h2 hS (by simpa using hv)
  | block id x ih =>
    intro c' Γ e H a w r hk hS hv
    cases c' <;> simp only [chkCode, Bool.false_eq_true, Bool.and_eq_true, decide_eq_true_eq] at hk
    obtain ⟨rfl, hk⟩ := hk
    simp only [evalCode] at hv
    refine wp_block ?_
    cases hx : evalCode C x e H with
    | none => rw [hx] at hv; cases hv
    | some r1 =>
      rw [hx] at hv
      refine wp_mono (ih _ Γ e H a w r1 hk hS hx) ?_
      rintro ex a1 w1 ⟨Γ1, hst, hS1, hex⟩
      obtain ⟨x1, e1, H1⟩ := r1
      cases x1 with
      | norm =>
        simp only [Option.some.injEq] at hv; subst hv
        cases ex <;> simp only [ExitOk] at hex
        exact ⟨Γ1, hst, hS1, trivial⟩
      | exit i =>
        simp only at hv
        cases ex <;> simp only [ExitOk] at hex
        subst hex
        simp only [Exit.inBlock]
        split at hv
        · rename_i h; cases hv
          rw [if_pos h]
          exact ⟨Γ1, hst, hS1, trivial⟩
        · rename_i h; cases hv
          rw [if_neg h]
          exact ⟨Γ1, hst, hS1, rfl⟩
      | ret =>
        simp only [Option.some.injEq] at hv; subst hv
        cases ex <;> simp only [ExitOk] at hex
        exact ⟨Γ1, hst, hS1, trivial⟩
      | pan v =>
        simp only [Option.some.injEq] at hv; subst hv
        cases ex <;> simp only [ExitOk] at hex
        exact ⟨Γ1, hst, hS1, hex⟩
  | loop keep x ih =>
    intro c' Γ e H a w r hk hS hv
    cases c' <;> simp only [chkCode, Bool.false_eq_true] at hk
    rename_i c1
    simp only [evalCode] at hv
    let f : Env → Heap → Option (AEx × Env × Heap) := fun e' H' => evalCode C x (restr e' keep) (trunc H.length (restr e' keep) H')
    let I : Nat → Act → World → Prop := fun k a' w' => ∃ Γ' e' H', St Γ' n e' H' a' w' ∧ Stp Γ w Γ' w' ∧ iter k f e' H' = some r
    refine wp_loop_n I ?_ ?_ C.fuel ⟨Γ, e, H, hS, Stp.refl Γ w, hv⟩
    · rintro a' w' ⟨Γ', e', H', _, _, h⟩
      simp [iter] at h
    · rintro k a' w' ⟨Γ', e', H', hS', hst', h⟩
      simp only [iter] at h
      obtain ⟨Γ2, hS2, hst2⟩ := trunc_sound hS.rel rfl (hS'.restr keep) hst'
      cases hx : f e' H' with
      | none => rw [hx] at h; cases h
      | some r1 =>
        rw [hx] at h
        refine wp_mono (ih c1 Γ2 _ _ a' w' r1 hk hS2 hx) ?_
        rintro ex a1 w1 ⟨Γ1, hst, hS1, hex⟩
        obtain ⟨x1, e1, H1⟩ := r1
        cases x1 with
        | norm =>
          cases ex <;> simp only [ExitOk] at hex
          exact ⟨Γ1, e1, H1, hS1, hst2.trans hst, h⟩
        | exit i =>
          simp only [Option.some.injEq] at h; subst h
          cases ex <;> simp only [ExitOk] at hex
          exact ⟨Γ1, hst2.trans hst, hS1, hex⟩
        | ret =>
          simp only [Option.some.injEq] at h; subst h
          cases ex <;> simp only [ExitOk] at hex
          exact ⟨Γ1, hst2.trans hst, hS1, trivial⟩
        | pan v =>
          simp only [Option.some.injEq] at h; subst h
          cases ex <;> simp only [ExitOk] at hex
          exact ⟨Γ1, hst2.trans hst, hS1, hex⟩
  | exit id =>
    intro c' Γ e H a w r hk hS hv
    cases c' <;> simp only [chkCode, Bool.false_eq_true, decide_eq_true_eq] at hk
    simp only [evalCode, Option.some.injEq] at hv
    subst hv; subst hk
    exact wp_exit ⟨Γ, Stp.refl Γ w, hS, rfl⟩
  | ret =>
    intro c' Γ e H a w r hk hS hv
    cases c' <;> simp only [chkCode, Bool.false_eq_true] at hk
    simp only [evalCode, Option.some.injEq] at hv
    subst hv
    exact wp_ret ⟨Γ, Stp.refl Γ w, hS, trivial⟩
  | own t off =>
    intro c' Γ e H a w r hk hS hv
    simp [chkCode] at hk
  | shutl t off =>
    intro c' Γ e H a w r hk hS hv
    simp [chkCode] at hk
  | prune keep =>
    intro c' Γ e H a w r hk hS hv
    simp [chkCode] at hk

theorem loadS_ptr {Γ : Gh} {H : Heap} {p v : AVal} {c : Value} (hv : loadS H p = some v) (hr : Rep Γ p c) : ∃ ad, c = .pointer (some ad) := by
  cases hr <;> simp [loadS] at hv
  all_goals exact ⟨_, rfl⟩

theorem loadA_ptr {Γ : Gh} {H : Heap} {k : Nat} {p v : AVal} {c : Value} (hv : loadA H k p = some v) (hr : Rep Γ p c) : ∃ ad, c = .pointer (some ad) := by
  cases hr <;> simp [loadA] at hv
  all_goals exact ⟨_, rfl⟩

def resRun (tmps : Array Value) (r : ResultVar) : Sem Value :=
  match r with
  | .tmp t => pure (tmps.getD t undef)
  | .cell a t => do loadVar t (← asAddr (tmps.getD a undef))

theorem res_one {Γ : Gh} {e : Env} {H : Heap} {a : Act} {w : World} (hS : St Γ n e H a w) {rs : List ARes} {vs : List ResultVar} (hk : chkRes P rs vs = true) {us : List AVal} (hv : resAll e H rs = some us) :
    ∃ cs, (vs.mapM (resRun a.tmps)).run P w = .ok cs w ∧ Reps Γ us cs := by
  induction rs generalizing vs us with
  | nil =>
    cases vs with
    | cons => simp [chkRes] at hk
    | nil =>
      simp [resAll] at hv; subst hv
      exact ⟨[], by simp, Reps.nil Γ⟩
  | cons r rs ih =>
    cases vs with
    | nil => simp [chkRes] at hk
    | cons x vs =>
      simp only [chkRes, Bool.and_eq_true] at hk
      obtain ⟨hk1, hk2⟩ := hk
      simp only [resAll] at hv
      split at hv <;> first | (cases hv; done) | skip
      rename_i u hu
      split at hv <;> first | (cases hv; done) | skip
      rename_i us' hus
      cases hv
      obtain ⟨cs, h1, h2⟩ := ih hk2 hus
      have one : ∃ c, (resRun a.tmps x).run P w = .ok c w ∧ Rep Γ u c := by
        cases r with
        | t k =>
          cases x <;> simp only [Bool.false_eq_true, decide_eq_true_eq] at hk1
          subst hk1
          simp only [resOf] at hu
          exact ⟨_, rfl, hS.env _ _ hu⟩
        | cs k =>
          cases x <;> simp only [Bool.false_eq_true, Bool.and_eq_true, decide_eq_true_eq] at hk1
          obtain ⟨rfl, ht⟩ := hk1
          simp only [resOf] at hu
          split at hu <;> first | (cases hu; done) | skip
          rename_i p hp
          have hrep := hS.env _ _ hp
          obtain ⟨ad, had⟩ := loadS_ptr hu hrep
          obtain ⟨d, hd, hrd⟩ := loadS_sound hS.rel ht hu hrep
          refine ⟨d, ?_, hrd⟩
          rw [had] at hd
          simp only [Instr.loadAt, Instr.sureAddr, Sem.run_bind, Sem.run_pure, Result.andThen_ok] at hd
          simp only [resRun, had, asAddr, Sem.run_bind, Sem.run_pure, Result.andThen_ok]
          exact hd
        | ca k m =>
          cases x <;> simp only [Bool.false_eq_true, Bool.and_eq_true, decide_eq_true_eq] at hk1
          obtain ⟨⟨rfl, ht⟩, hsz⟩ := hk1
          simp only [resOf] at hu
          split at hu <;> first | (cases hu; done) | skip
          rename_i p hp
          have hrep := hS.env _ _ hp
          obtain ⟨ad, had⟩ := loadA_ptr hu hrep
          obtain ⟨d, hd, hrd⟩ := loadA_sound hS.rel ht hsz hu hrep
          refine ⟨d, ?_, hrd⟩
          rw [had] at hd
          simp only [Instr.loadAt, Instr.sureAddr, Sem.run_bind, Sem.run_pure, Result.andThen_ok] at hd
          simp only [resRun, had, asAddr, Sem.run_bind, Sem.run_pure, Result.andThen_ok]
          exact hd
      obtain ⟨c, h3, h4⟩ := one
      exact ⟨c :: cs, by simp [List.mapM_cons, h3, h1], Reps.cons h4 h2⟩

theorem results_run {Γ : Gh} {e : Env} {H : Heap} {a : Act} {w : World} (hS : St Γ n e H a w) {fn : Func} {rs : List ARes} (hk : chkRes P rs fn.results.toList = true) {us : List AVal} (hv : resAll e H rs = some us) :
    ∃ c, (results fn a.tmps).run P w = .ok c w ∧ Rep Γ (oneOr us) c := by
  obtain ⟨cs, h1, h2⟩ := res_one hS hk hv
  have hrun : (results fn a.tmps).run P w = .ok (if h : cs.toArray.size = 1 then cs.toArray[0] else .tuple cs.toArray) w := by
    have : results fn a.tmps = (do
      let vs ← fn.results.mapM (resRun a.tmps)
      pure (if h : vs.size = 1 then vs[0] else .tuple vs)) := rfl
    rw [this]
    simp only [Array.mapM_eq_mapM_toList, Sem.run_bind, Sem.run_map, h1, Result.andThen_ok, Sem.run_pure]
  refine ⟨_, hrun, ?_⟩
  have hl := h2.1
  match us, cs, hl, h2 with
  | [], [], _, _ => exact .tup (cs := []) (ds := []) rfl (by simp)
  | [u], [c], _, h2 => exact h2.2 0 u c rfl rfl
  | u :: u' :: us, c :: c' :: cs, _, h2 =>
    simp only [oneOr, List.size_toArray, List.length_cons]
    rw [dif_neg (by omega)]
    exact .tup h2.1 h2.2

theorem initEnv_get : ∀ {as : List AVal} {i t : Nat} {v : AVal}, (initEnv i as).get t = some v → i ≤ t ∧ as[t - i]? = some v
  | [], i, t, v, h => by simp [initEnv, Env.get] at h
  | x :: xs, i, t, v, h => by
    simp only [initEnv, Env.get] at h
    split at h
    · rename_i hi; subst hi; cases h; exact ⟨Nat.le_refl _, by simp⟩
    · obtain ⟨h1, h2⟩ := initEnv_get h
      refine ⟨by omega, ?_⟩
      rw [show t - i = (t - (i + 1)) + 1 by omega]
      simpa using h2

theorem init_St {Γ : Gh} {H : Heap} {w : World} {as : List AVal} {cs : Array Value} (hR : Rel Γ H w) (hr : Reps Γ as cs.toList) (n : Nat) : St Γ n (initEnv 0 as) H { tmps := cs ++ Array.replicate (n - cs.size) undef, defers := [] } w := by
  refine ⟨?_, hR, ?_, rfl⟩
  · intro t v hv
    obtain ⟨_, h⟩ := initEnv_get hv
    simp only [Nat.sub_zero] at h
    obtain ⟨d, hd, hrep⟩ := hr.get h
    have hlt : t < cs.size := by
      have := (List.getElem?_eq_some_iff.1 hd).1
      simpa using this
    have : (cs ++ Array.replicate (n - cs.size) undef)[t]? = some d := by
      rw [Array.getElem?_append_left hlt]
      simpa using hd
    simpa [Array.getD_eq_getD_getElem?, this] using hrep
  · simp; omega

theorem fun_calls {C : Ctx} (hC : CallsOk P C.call) (hm : P.follows .mixedOrders = true) {f : FuncId} {af : AFunc} (hk : chkFun P f af = true) {as : List AVal} {H H' : Heap} {x : Ex} (hv : finish af (evalCode C af.body (initEnv 0 as) H) = some (x, H')) :
    (∃ fn, P.funcs[f]? = some fn ∧ fn.body.isSome = true ∧ (fn.name == "runtime.NumGoroutine") = false) ∧
    ∀ (Γ : Gh) (w : World) (cs : Array Value), Rel Γ H w → Reps Γ as cs.toList → Calls P f cs w fun e w' => ∃ Γ', Rel Γ' H' w' ∧ Stp Γ w Γ' w' ∧ ExOk Γ' x e := by
  unfold chkFun at hk
  split at hk <;> first | (cases hk; done) | skip
  rename_i fn hf
  split at hk <;> first | (cases hk; done) | skip
  rename_i c hb
  simp only [Bool.and_eq_true, Bool.not_eq_true'] at hk
  obtain ⟨⟨hname, hcode⟩, hres⟩ := hk
  refine ⟨⟨fn, hf, by rw [hb]; rfl, hname⟩, ?_⟩
  intro Γ w cs hR hr
  refine calls_of_wp hf hb ?_
  cases hx : evalCode C af.body (initEnv 0 as) H with
  | none => rw [hx] at hv; simp [finish] at hv
  | some r =>
    rw [hx] at hv
    refine wp_mono (code_wp hC hm af.body c Γ _ H _ w r hcode (init_St hR hr fn.ntmps) hx) ?_
    rintro ex a1 w1 ⟨Γ1, hst, hS1, hex⟩
    obtain ⟨x1, e1, H1⟩ := r
    have done : ∀ vs, resAll e1 H1 af.results = some vs → x = .ok (oneOr vs) → H1 = H' → a1.defers = [] ∧ ∃ v, (results fn a1.tmps).run P w1 = .ok v w1 ∧ ∃ Γ', Rel Γ' H' w1 ∧ Stp Γ w Γ' w1 ∧ ExOk Γ' x (.returned v) := by
      rintro vs h1 rfl rfl
      obtain ⟨v, h2, h3⟩ := results_run hS1 hres h1
      exact ⟨hS1.defers, v, h2, Γ1, hS1.rel, hst, h3⟩
    cases x1 with
    | norm =>
      cases ex <;> simp only [ExitOk] at hex
      simp only [finish] at hv
      split at hv <;> first | (cases hv; done) | skip
      rename_i vs hvs
      simp only [Option.some.injEq, Prod.mk.injEq] at hv
      exact done vs hvs hv.1.symm hv.2
    | ret =>
      cases ex <;> simp only [ExitOk] at hex
      simp only [finish] at hv
      split at hv <;> first | (cases hv; done) | skip
      rename_i vs hvs
      simp only [Option.some.injEq, Prod.mk.injEq] at hv
      exact done vs hvs hv.1.symm hv.2
    | exit i => simp [finish] at hv
    | pan v =>
      cases ex <;> simp only [ExitOk] at hex
      simp only [finish, Option.some.injEq, Prod.mk.injEq] at hv
      obtain ⟨rfl, rfl⟩ := hv
      exact ⟨hS1.defers, Γ1, hS1.rel, hst, hex⟩

theorem chkTab_get : ∀ {l : List (Option AFunc)} {i k : Nat} {af : AFunc}, chkTab P i l = true → l[k]? = some (some af) → chkFun P (i + k) af = true
  | [], i, k, af, _, h => by simp at h
  | none :: l, i, 0, af, hk, h => by simp at h
  | some x :: l, i, 0, af, hk, h => by
    simp only [chkTab, Bool.and_eq_true] at hk
    simp at h; subst h
    exact hk.1
  | none :: l, i, k + 1, af, hk, h => by
    simp only [chkTab] at hk
    have := chkTab_get (i := i + 1) (k := k) hk (by simpa using h)
    rwa [show i + 1 + k = i + (k + 1) by omega] at this
  | some x :: l, i, k + 1, af, hk, h => by
    simp only [chkTab, Bool.and_eq_true] at hk
    have := chkTab_get (i := i + 1) (k := k) hk.2 (by simpa using h)
    rwa [show i + 1 + k = i + (k + 1) by omega] at this

def tabOf (l : List (Option AFunc)) (f : Nat) : Option AFunc := (l[f]?).join

/-- The evaluator's table is the program's: every call does what the evaluator says. -/
theorem calls_ok {l : List (Option AFunc)} (hm : P.follows .mixedOrders = true) (hk : chkTab P 0 l = true) : ∀ k, CallsOk P (callF (tabOf l) k) := by
  intro k
  induction k with
  | zero => intro f as H H' x h; simp [callF] at h
  | succ k ih =>
    intro f as H H' x h
    simp only [callF] at h
    split at h <;> first | (cases h; done) | skip
    rename_i af haf
    have hl : l[f]? = some (some af) := by
      unfold tabOf at haf
      cases hx : l[f]? with
      | none => rw [hx] at haf; cases haf
      | some o => rw [hx] at haf; simp at haf; rw [haf]
    have := chkTab_get (i := 0) hk hl
    rw [Nat.zero_add] at this
    exact fun_calls (C := ⟨callF (tabOf l) k, k⟩) ih hm this h
end

end Go.Ev
