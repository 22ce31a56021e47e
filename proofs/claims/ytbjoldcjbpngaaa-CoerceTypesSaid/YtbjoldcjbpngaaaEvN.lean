/-
  Calls: in a heap of their own, and in the caller's; one operation, whatever it is.
-/
import Derived.Test.YtbjoldcjbpngaaaEvM
set_option linter.unusedVariables false
set_option linter.unusedSimpArgs false
namespace Go.Ev
open Go

def chkC (p : AOp) (op : Op) : Bool :=
  match p with
  | .call _ f args => match op with
    | .call c => (match c.callee with
      | .value (.func g) => decide (f = g)
      | _ => false) && chkOs args c.args.toList
    | _ => false
  | .callv _ x args => match op with
    | .call c => (match c.callee with
      | .value y => chkO x y
      | _ => false) && chkOs args c.args.toList
    | _ => false
  | .panic x => match op with
    | .panic y => chkO x y
    | .call c => (match c.callee with
      | .builtin b => decide (b = .panic)
      | _ => false) && args1 c.args.toList (chkO x)
    | _ => false
  | _ => false

/-- The evaluator's operation is the model's. -/
def chkOp (P : Program) (p : AOp) (op : Op) : Bool :=
  match p.kind with
  | .pure => chkP P p op
  | .new => chkN P p op
  | .heap => chkH P p op || chkC p op

/-- How a call ends, in memory. -/
def ExOk (Γ : Gh) : Ex → Ending → Prop
  | .ok v, .returned c => Rep Γ v c
  | .pan v, .panicked ch => ∃ c, ch = [{ v := c, recovered := false }] ∧ Rep Γ v c
  | _, _ => False

def CallsOk (P : Program) (call : FuncId → List AVal → Heap → Option (Ex × Heap)) : Prop :=
  ∀ (f : FuncId) (as : List AVal) (H H' : Heap) (x : Ex), call f as H = some (x, H') → (∃ fn, P.funcs[f]? = some fn ∧ fn.body.isSome = true ∧ (fn.name == "runtime.NumGoroutine") = false) ∧
    ∀ (Γ : Gh) (w : World) (cs : Array Value), Rel Γ H w → Reps Γ as cs.toList → Calls P f cs w fun e w' => ∃ Γ', Rel Γ' H' w' ∧ Stp Γ w Γ' w' ∧ ExOk Γ' x e

section
variable {P : Program} {Γ : Gh} {e : Env} {a : Act}

/-- What is left of a call whose heap is dropped. -/
def Gh.after (Γ : Gh) (n : Nat) (w' : World) : Gh := { Γ with M := fun g o => if g < n then Γ.M g o else w'.cell? ⟨g, o, none⟩ }

theorem shutR_both {Γ1 Γ2 : Gh} {H : Heap} {w : World} (hR : Rel Γ1 H w) (hM : ∀ g o c, Γ1.M g o = some c → Γ2.M g o = some c) (hB : ∀ g b o c, Γ1.own g = some b → w.cell? ⟨g, o, none⟩ = some c → Γ2.M g o = some c) (P : Program) :
    ∀ v, (∀ v' c, shutR H v = some v' → Rep Γ1 v c → Rep Γ2 v' c ∧ rfree v') := by
  have mv : ∀ {v : AVal} {c : Value}, Rep Γ1 v c → rfree v → Rep Γ2 v c := fun h hf => h.move (n := 0) hM (fun _ _ h => absurd h (by omega)) (fun _ _ _ h => absurd h (by omega)) hf
  intro v
  induction v using AVal.rec (motive_2 := fun vs => ∀ vs' cs, shutRL H vs = some vs' → Reps Γ1 vs cs → Reps Γ2 vs' cs ∧ lowL 0 vs' = true) with
  | nil =>
    rename_i cs hv hr
    simp [shutRL] at hv; subst hv
    exact ⟨⟨hr.1, by simp⟩, rfl⟩
  | cons v vs ih1 ih2 =>
    rename_i vs' cs hv hr
    simp only [shutRL] at hv
    split at hv
    · rename_i a ha
      split at hv
      · rename_i b hb
        cases hv
        cases cs with
        | nil => have := hr.1; simp at this
        | cons d ds =>
          have h0 : Rep Γ1 v d := hr.2 0 v d rfl rfl
          have hs : Reps Γ1 vs ds := ⟨by simpa using hr.1, fun i x y hx hy => hr.2 (i + 1) x y (by simpa using hx) (by simpa using hy)⟩
          have r1 := ih1 a d ha h0
          have r2 := ih2 b ds hb hs
          exact ⟨Reps.cons r1.1 r2.1, by simp only [lowL, Bool.and_eq_true]; exact ⟨r1.2, r2.2⟩⟩
      · cases hv
    · cases hv
  | int k n => intro v' c hv hr; simp [shutR] at hv; subst hv; exact ⟨mv hr rfl, rfl⟩
  | bool b => intro v' c hv hr; simp [shutR] at hv; subst hv; exact ⟨mv hr rfl, rfl⟩
  | str b => intro v' c hv hr; simp [shutR] at hv; subst hv; exact ⟨mv hr rfl, rfl⟩
  | nilp => intro v' c hv hr; simp [shutR] at hv; subst hv; exact ⟨mv hr rfl, rfl⟩
  | nili => intro v' c hv hr; simp [shutR] at hv; subst hv; exact ⟨mv hr rfl, rfl⟩
  | nilf => intro v' c hv hr; simp [shutR] at hv; subst hv; exact ⟨mv hr rfl, rfl⟩
  | nilm => intro v' c hv hr; simp [shutR] at hv; subst hv; exact ⟨mv hr rfl, rfl⟩
  | ro b => intro v' c hv hr; simp [shutR] at hv; subst hv; exact ⟨mv hr rfl, rfl⟩
  | lst xs e => intro v' c hv hr; simp [shutR] at hv; subst hv; exact ⟨mv hr.lst_false rfl, rfl⟩
  | gl o len =>
    intro v' c hv hr
    simp only [shutR] at hv
    obtain ⟨_, xs, rfl, _, _, h⟩ := growAt_sound hR hr hv
    exact ⟨mv h rfl, rfl⟩
  | agg cs ih =>
    intro v' c hv hr
    simp only [shutR] at hv
    split at hv
    · rename_i cs' hc
      cases hv
      obtain ⟨ds, rfl, hrs, h1⟩ := hr.agg_inv
      obtain ⟨r1, r2⟩ := ih _ _ hc hrs
      exact ⟨.agg r1.1 r1.2 h1, by simpa [rfree, lowV] using r2⟩
    · cases hv
  | tup cs ih =>
    intro v' c hv hr
    simp only [shutR] at hv
    split at hv
    · rename_i cs' hc
      cases hv
      obtain ⟨ds, rfl, hrs⟩ := hr.tup_inv
      obtain ⟨r1, r2⟩ := ih _ _ hc hrs
      exact ⟨.tup r1.1 r1.2, by simpa [rfree, lowV] using r2⟩
    · cases hv
  | iface t v ih =>
    intro v' c hv hr
    simp only [shutR] at hv
    split at hv
    · rename_i u hu
      cases hv
      cases hr with | iface _ h =>
      obtain ⟨r1, r2⟩ := ih _ _ hu h
      exact ⟨.iface t r1, by simpa [rfree, lowV] using r2⟩
    · cases hv
  | fn f cs ih =>
    intro v' c hv hr
    simp only [shutR] at hv
    split at hv
    · rename_i cs' hc
      cases hv
      obtain ⟨ds, rfl, hrs⟩ := hr.fn_inv
      obtain ⟨r1, r2⟩ := ih _ _ hc hrs
      exact ⟨.fn f r1.1 r1.2, by simpa [rfree, lowV] using r2⟩
    · cases hv
  | sl b off len cap wd =>
    intro v' c hv hr
    simp only [shutR] at hv
    split at hv <;> first | (cases hv; done) | skip
    rename_i xs hel
    split at hv <;> first | (cases hv; done) | skip
    rename_i hall
    cases hv
    have hw := width_all hall.2
    have hel0 := hel
    unfold sliceElems at hel
    split at hel <;> first | (cases hel; done) | skip
    rename_i vs hb
    split at hel <;> first | (cases hel; done) | skip
    rename_i hle
    obtain ⟨g, cs, ty, h1, h2, h3, h4, h5, h6⟩ := hR.cells hb
    obtain ⟨g', rfl, hmu⟩ := hr.sl_inv
    rw [h1] at hmu; cases hmu
    have hone : ∀ d, d ∈ cs.toList.drop off → d.oneCell' = true := fun d hd => h6 d (List.mem_of_mem_drop hd)
    have hgr := group_reps (w := wd) (n := len) (h5.drop off) hone
    obtain ⟨r1, r2⟩ := shutL_sound hR hel hgr
    have hrr := flatL_reps r1
    rw [groupV_flat hone] at hrr
    have hlen : xs.length = len := by
      rw [← r1.1, hgr.1, group_length (by simp; omega)]
    have hfl := flatL_length hw
    have get : ∀ (j : Nat) (y : AVal), (flatL xs)[j]? = some y → ∃ d, cs[off + j]? = some d ∧ Rep Γ1 y d := by
      intro j y hj
      obtain ⟨d, hd, hrep⟩ := hrr.get hj
      rw [List.getElem?_take] at hd
      split at hd
      · rw [List.getElem?_drop] at hd
        exact ⟨d, by simpa using hd, hrep⟩
      · cases hd
    refine ⟨?_, rfl⟩
    have hcl := hall.1
    rw [← hlen] at hcl ⊢
    refine .lst (fun j => cs.getD (off + j) undef) hcl (by simp) hw r2 ?_ ?_ ?_
    · intro j y hj
      obtain ⟨d, hd, _⟩ := get j y hj
      have := hB g b (off + j) d h2 (by rw [cell_at h3]; exact hd)
      rw [this]; simp [Array.getD_eq_getD_getElem?, hd]
    · intro j y hj
      obtain ⟨d, hd, _⟩ := get j y hj
      have := h6 d (List.mem_of_getElem? (by simpa using hd))
      simpa [Array.getD_eq_getD_getElem?, hd] using this
    · intro j y hj
      obtain ⟨d, hd, hrep⟩ := get j y hj
      have hf : rfree y := flatL_rfree r2 y (List.mem_of_getElem? hj)
      have := mv hrep hf
      simpa [Array.getD_eq_getD_getElem?, hd] using this
  | _ => intro v' c hv hr; simp [shutR] at hv

theorem Rel.bare {H : Heap} {w : World} (hR : Rel Γ H w) : Rel ⟨Γ.M, fun _ => none, fun _ _ => none, fun _ => none⟩ [] w :=
  ⟨hR.mem, by simp, fun _ _ => ⟨rfl, fun _ => rfl⟩, by simp⟩

/-- A call in a heap of its own: the caller's heap is as it was. -/
theorem pure_call {call : FuncId → List AVal → Heap → Option (Ex × Heap)} (hC : CallsOk P call) {f : FuncId} {as : List AVal} {x : Ex} {H : Heap} {w : World} {cs : Array Value} (hR : Rel Γ H w)
    (hx : pureRes (call f as []) = some x) (hr : Reps Γ as cs.toList) (hf : ∀ v, v ∈ as → rfree v) :
    Calls P f cs w fun e w' => ∃ Γ', Rel Γ' H w' ∧ Stp Γ w Γ' w' ∧ ExOk Γ' x e := by
  have mv : Reps ⟨Γ.M, fun _ => none, fun _ _ => none, fun _ => none⟩ as cs.toList :=
    ⟨hr.1, fun i c d hc hd => Rep.move (Γ := Γ) (Γ' := ⟨Γ.M, fun _ => none, fun _ _ => none, fun _ => none⟩) (n := 0) (fun _ _ _ h => h) (fun _ _ h => absurd h (by omega)) (fun _ _ _ h => absurd h (by omega)) (hr.2 i c d hc hd) (hf c (List.mem_of_getElem? hc))⟩
  have main : ∀ (x0 : Ex) (H0 : Heap), call f as [] = some (x0, H0) → (∀ v0, (x0 = .ok v0 ∨ x0 = .pan v0) → ∃ v', shutR H0 v0 = some v' ∧ ((x0 = .ok v0 ∧ x = .ok v') ∨ (x0 = .pan v0 ∧ x = .pan v'))) →
      Calls P f cs w fun e w' => ∃ Γ', Rel Γ' H w' ∧ Stp Γ w Γ' w' ∧ ExOk Γ' x e := by
    intro x0 H0 hc hsh
    refine ((hC f as [] H0 x0 hc).2 _ w cs hR.bare mv).mono ?_
    rintro e w' ⟨Γ1, r1, r2, r3⟩
    have hsz := r2.size
    have hno : ∀ g, g < w.heap.size → Γ1.own g = none := fun g hg => r2.own g hg rfl
    have hM1 : ∀ g o, g < w.heap.size → Γ1.M g o = Γ.M g o := fun g o hg => r2.newM g o hg rfl
    have hheap : ∀ g : Nat, g < w.heap.size → w'.heap[g]? = w.heap[g]? := fun g hg => r2.heap g hg rfl
    have hlt : ∀ g o c, Γ.M g o = some c → g < w.heap.size := fun g o c h => hR.memLt h
    have hle : Γ.le (Γ.after w.heap.size w') := by
      refine ⟨?_, fun _ _ h => h, fun _ _ _ h => h⟩
      intro g o c h
      simp only [Gh.after]
      rw [if_pos (hlt g o c h)]; exact h
    have hM : ∀ g o c, Γ1.M g o = some c → (Γ.after w.heap.size w').M g o = some c := by
      intro g o c h
      simp only [Gh.after]
      split
      · rename_i hg; rw [← hM1 g o hg]; exact h
      · exact r1.mem g o c h
    have hB : ∀ g b o c, Γ1.own g = some b → w'.cell? ⟨g, o, none⟩ = some c → (Γ.after w.heap.size w').M g o = some c := by
      intro g b o c h hc
      simp only [Gh.after]
      split
      · rename_i hg; rw [hno g hg] at h; cases h
      · exact hc
    have hRel : Rel (Γ.after w.heap.size w') H w' := by
      refine ⟨?_, ?_, hR.dom, fun g b h => Nat.lt_of_lt_of_le (hR.owned g b h) hsz⟩
      · intro g o c h
        simp only [Gh.after] at h
        split at h
        · rename_i hg
          have := hR.mem g o c h
          simpa [World.cell?, hheap g hg] using this
        · exact h
      · intro b B hb
        refine (hR.blk b B hb).step hle ?_ ⟨rfl, fun _ => rfl⟩
        intro g hg
        have hgl := hR.owned g b hg
        refine ⟨hg, hheap g hgl, ?_⟩
        intro o
        simp only [Gh.after]
        rw [if_pos hgl]
    have hStp : Stp Γ w (Γ.after w.heap.size w') w' := by
      refine ⟨hle, fun _ _ h => h, ?_, hsz, fun g hg _ => hheap g hg, r2.os, r2.tape, r2.output⟩
      intro g o hg _
      simp only [Gh.after]
      rw [if_pos hg]
    refine ⟨_, hRel, hStp, ?_⟩
    cases x0 with
    | ok v0 =>
      obtain ⟨v', hs, h | h⟩ := hsh v0 (.inl rfl)
      · rw [h.2]
        cases e <;> simp only [ExOk] at r3 ⊢
        exact (shutR_both r1 hM hB P v0 v' _ hs r3).1
      · cases h.1
    | pan v0 =>
      obtain ⟨v', hs, h | h⟩ := hsh v0 (.inr rfl)
      · cases h.1
      · rw [h.2]
        cases e <;> simp only [ExOk] at r3 ⊢
        obtain ⟨c, hc, hrep⟩ := r3
        exact ⟨c, hc, (shutR_both r1 hM hB P v0 v' _ hs hrep).1⟩
  unfold pureRes at hx
  split at hx
  · rename_i v H0 hc
    split at hx <;> first | (cases hx; done) | skip
    rename_i v' hs
    cases hx
    refine main _ H0 hc ?_
    rintro v0 (h | h)
    · cases h; exact ⟨v', hs, .inl ⟨rfl, rfl⟩⟩
    · cases h
  · rename_i v H0 hc
    split at hx <;> first | (cases hx; done) | skip
    rename_i v' hs
    cases hx
    refine main _ H0 hc ?_
    rintro v0 (h | h)
    · cases h
    · cases h; exact ⟨v', hs, .inr ⟨rfl, rfl⟩⟩
  · cases hx

theorem pureRes_some {r : Option (Ex × Heap)} {x : Ex} (h : pureRes r = some x) : ∃ q, r = some q := by
  unfold pureRes at h
  split at h
  · exact ⟨_, rfl⟩
  · exact ⟨_, rfl⟩
  · cases h

theorem cut_sound {C : Ctx} (hC : CallsOk P C.call) {f : FuncId} {as : List AVal} {x : Ex} {H H' : Heap} {w : World} {cs : Array Value} (hR : Rel Γ H w) (hx : cutRes H.length (C.call f as H) = some (x, H')) (hr : Reps Γ as cs.toList) :
    (∃ fn, P.funcs[f]? = some fn ∧ fn.body.isSome = true ∧ (fn.name == "runtime.NumGoroutine") = false) ∧ Calls P f cs w fun e w' => ∃ Γ', Rel Γ' H' w' ∧ Stp Γ w Γ' w' ∧ ExOk Γ' x e := by
  have key : ∀ (v : AVal) (H1 : Heap) (Γ1 : Gh) (w1 : World), Rel Γ1 H1 w1 → Stp Γ w Γ1 w1 → ∃ Γ', Rel Γ' (cutH H.length v H1) w1 ∧ Stp Γ w Γ' w1 ∧ ∀ c, Rep Γ1 v c → Rep Γ' v c := by
    intro v H1 Γ1 w1 h1 h2
    unfold cutH
    split
    · exact ⟨Γ1, h1, h2, fun _ h => h⟩
    · split
      · rename_i hl
        simp only [Bool.and_eq_true] at hl
        obtain ⟨r1, r2⟩ := hR.cutv rfl h1 h2 hl.2
        exact ⟨_, r1, r2, fun c hc => hc.cut hl.1⟩
      · exact ⟨Γ1, h1, h2, fun _ h => h⟩
  cases hcl : C.call f as H with
  | none => rw [hcl] at hx; cases hx
  | some q =>
    obtain ⟨x1, H1⟩ := q
    rw [hcl] at hx
    obtain ⟨q1, q2⟩ := hC f as H H1 x1 hcl
    refine ⟨q1, (q2 Γ w cs hR hr).mono ?_⟩
    rintro e w' ⟨Γ1, h1, h2, h3⟩
    cases x1 with
    | ok v =>
      simp only [cutRes, Option.some.injEq, Prod.mk.injEq] at hx
      obtain ⟨rfl, rfl⟩ := hx
      obtain ⟨Γ', r1, r2, r3⟩ := key v H1 Γ1 w' h1 h2
      refine ⟨Γ', r1, r2, ?_⟩
      cases e <;> simp only [ExOk] at h3 ⊢
      exact r3 _ h3
    | pan v =>
      simp only [cutRes, Option.some.injEq, Prod.mk.injEq] at hx
      obtain ⟨rfl, rfl⟩ := hx
      obtain ⟨Γ', r1, r2, r3⟩ := key v H1 Γ1 w' h1 h2
      refine ⟨Γ', r1, r2, ?_⟩
      cases e <;> simp only [ExOk] at h3 ⊢
      obtain ⟨c, hc1, hc2⟩ := h3
      exact ⟨c, hc1, r3 _ hc2⟩

theorem callA_sound {C : Ctx} (hC : CallsOk P C.call) {raw : Bool} {f : FuncId} {as : List AVal} {x : Ex} {H H' : Heap} {w : World} {cs : Array Value} (hR : Rel Γ H w) (hx : callA C raw f as H = some (x, H')) (hr : Reps Γ as cs.toList) :
    (∃ fn, P.funcs[f]? = some fn ∧ fn.body.isSome = true ∧ (fn.name == "runtime.NumGoroutine") = false) ∧ Calls P f cs w fun e w' => ∃ Γ', Rel Γ' H' w' ∧ Stp Γ w Γ' w' ∧ ExOk Γ' x e := by
  unfold callA at hx
  split at hx
  · exact cut_sound hC hR hx hr
  · split at hx
    · rename_i as' hs
      split at hx <;> first | (cases hx; done) | skip
      rename_i x' hp
      simp only [Option.some.injEq, Prod.mk.injEq] at hx
      obtain ⟨rfl, rfl⟩ := hx
      obtain ⟨r1, r2⟩ := shutL_sound hR hs hr
      obtain ⟨q, hq⟩ := pureRes_some hp
      exact ⟨(hC f as' [] q.2 q.1 hq).1, pure_call hC hR hp r1 r2⟩
    · exact cut_sound hC hR hx hr

theorem evH_ok {C : Ctx} {p : AOp} {op : Op} {id : Nat} {H H' : Heap} {v : AVal} (hk : chkH P p op = true) : evH C e id H p ≠ some (.pan v, H') := by
  cases p <;> simp only [chkH, Bool.false_eq_true] at hk <;> intro h <;> simp only [evH, okv] at h <;> (repeat' (split at h)) <;>
    first | (cases h; done) | (simp [Option.bind_eq_some_iff] at h; done) | skip

theorem evH_sound {C : Ctx} {o : Oper} {p : AOp} {id : Nat} {v : AVal} {H H' : Heap} {w : World} (he : EnvRel Γ e a.tmps) (hR : Rel Γ H w) (hk : chkH P p o.op = true) (hv : evH C e id H p = some (.ok v, H')) : Done P o a w Γ v H' := by
  cases p
  case ia => exact ia_sound he hR hk hv
  case bsl => exact bsl_sound he hR hk hv
  case lds => exact lds_sound he hR hk hv
  case lda => exact lda_sound he hR hk hv
  case sts => exact sts_sound he hR hk hv
  case sta => exact sta_sound he hR hk hv
  case stk => exact stk_sound he hR hk hv
  case slc => exact slc_sound he hR hk hv
  case slca => exact slca_sound he hR hk hv
  case len => exact len_sound he hR hk hv
  case cap => exact cap_sound he hR hk hv
  case app => exact app_sound he hR hk hv
  case appz => exact appz_sound he hR hk hv
  case copy => exact copy_sound he hR hk hv
  case clear => exact clear_sound he hR hk hv
  case look => exact look_sound he hR hk hv
  case upd => exact upd_sound he hR hk hv
  all_goals simp [chkH] at hk

/-- One operation. -/
theorem op_wp {C : Ctx} (hC : CallsOk P C.call) {o : Oper} {p : AOp} {x : Ex} {id : Nat} {H H' : Heap} {w : World} {K : Act → World → Prop} {Q : Exit → Act → World → Prop} (he : EnvRel Γ e a.tmps) (hR : Rel Γ H w) (hk : chkOp P p o.op = true)
    (hv : evalOp C e id H p = some (x, H')) (hok : ∀ v c w' Γ', x = .ok v → Rep Γ' v c → Rel Γ' H' w' → Stp Γ w Γ' w' → K (a.put o.dst c) w')
    (hpan : ∀ v c w' Γ', x = .pan v → Rep Γ' v c → Rel Γ' H' w' → Stp Γ w Γ' w' → Q (.panic [{ v := c, recovered := false }]) a w') : o.wp P a w K Q := by
  have done : ∀ v, x = .ok v → Done P o a w Γ v H' → o.wp P a w K Q := by
    rintro v hx ⟨nx, c, w', Γ', r1, r2, r3, r4, r5⟩
    unfold Oper.wp
    rw [r1]
    rcases r2 with rfl | ⟨rfl, rfl⟩
    · exact hok v c w' Γ' hx r3 r4 r5
    · exact hok v undef w' Γ' hx r3 r4 r5
  have called : ∀ (f : FuncId) (as : List AVal) (cs : Array Value) (raw : Bool), (execOp a.eval o).run P w = (callFunc f cs).run P w → callA C raw f as H = some (x, H') → Reps Γ as cs.toList → o.wp P a w K Q := by
    intro f as cs raw hrun hc hr
    obtain ⟨⟨fn, h1, h2, h3⟩, hcl⟩ := callA_sound hC hR hc hr
    unfold Oper.wp
    rw [hrun]
    have hn : fn.body.isNone = false := by
      cases hb : fn.body with
      | none => rw [hb] at h2; cases h2
      | some c => rfl
    have : (callFunc f cs).run P w = .ok (.enter f cs) w := by
      simp only [callFunc, Sem.run_bind, run_program, Result.andThen_ok, h1, h3, hn, Bool.false_eq_true, if_false, Sem.run_pure]
    rw [this, Oper.upon_enter]
    refine hcl.mono ?_
    rintro en w' ⟨Γ', r1, r2, r3⟩
    cases x with
    | ok v =>
      cases en <;> simp only [ExOk] at r3
      exact hok v _ w' Γ' rfl r3 r1 r2
    | pan v =>
      cases en <;> simp only [ExOk] at r3
      obtain ⟨c, rfl, hrep⟩ := r3
      exact hpan v c w' Γ' rfl hrep r1 r2
  unfold chkOp at hk
  unfold evalOp at hv
  split at hk
  · rename_i hkd
    rw [hkd] at hv
    simp only [okv] at hv
    split at hv <;> first | (cases hv; done) | skip
    rename_i v hv'
    cases hv
    obtain ⟨c, r1, r2⟩ := evP_sound (P := P) (w := w) he hkd hk hv'
    exact done v rfl (Done.same hR r1 r2)
  · rename_i hkd
    rw [hkd] at hv
    simp only at hv
    split at hv <;> first | (cases hv; done) | skip
    rename_i v B hv'
    split at hv <;> first | (cases hv; done) | skip
    rename_i H1 hn
    cases hv
    exact done v rfl (evN_sound he hR hk hv' hn)
  · rename_i hkd
    rw [hkd] at hv
    simp only at hv
    have hor := Bool.or_eq_true_iff.1 hk
    clear hk
    rcases hor with hk | hk
    · cases x with
      | ok v => exact done v rfl (evH_sound he hR hk hv)
      | pan v => exact absurd hv (evH_ok hk)
    · obtain ⟨dst, op, ty, pos, after, guard⟩ := o
      simp only at hk
      cases p <;> simp only [chkC, Bool.false_eq_true] at hk
      case call raw f args =>
        cases op <;> simp only [Bool.false_eq_true, Bool.and_eq_true] at hk
        rename_i c
        obtain ⟨hcal, hargs⟩ := hk
        simp only [evH] at hv
        split at hv <;> first | (cases hv; done) | skip
        rename_i vs hvs
        have hr := evs_reps he hargs hvs
        have hce : c.callee = .value (.func f) := by
          split at hcal
          · rename_i g hg; rw [hg]; have := of_decide_eq_true hcal; rw [this]
          · cases hcal
        refine called f vs (c.args.map a.eval) raw ?_ hv (by simpa using hr)
        simp [execOp, resolve, hce, Act.eval, Deferred.ofValue, invoke]
      case callv raw y args =>
        cases op <;> simp only [Bool.false_eq_true, Bool.and_eq_true] at hk
        rename_i c
        obtain ⟨hcal, hargs⟩ := hk
        simp only [evH] at hv
        split at hv <;> first | (cases hv; done) | skip
        rename_i f caps vs hy hvs
        have hr := evs_reps he hargs hvs
        split at hcal <;> first | (cases hcal; done) | skip
        rename_i y' hce
        obtain ⟨ds, hds, hcaps⟩ := (ev_rep he hcal hy).fn_inv
        refine called f (vs ++ caps) (c.args.map a.eval ++ ds.toArray) raw ?_ hv (by simpa using hr.append hcaps)
        simp [execOp, resolve, hce, hds, Deferred.ofValue, invoke]
      case panic y =>
        have hpn : ∃ y', chkO y y' = true ∧ (execOp a.eval { dst := dst, op := op, type := ty, pos := pos, after := after, guard := guard }).run P w = (do pure (Next.value (← Instr.panic (a.eval y'))) : Sem Next).run P w := by
          cases op <;> simp only [Bool.false_eq_true, Bool.and_eq_true] at hk
          case panic y' => exact ⟨y', hk, rfl⟩
          case call c =>
            obtain ⟨hcal, hargs⟩ := hk
            split at hcal <;> first | (cases hcal; done) | skip
            rename_i b hb
            have hb' := of_decide_eq_true hcal
            subst hb'
            obtain ⟨y', hy', hq⟩ := args1_eq hargs
            refine ⟨y', hq, ?_⟩
            have : c.args = #[y'] := by rw [ofToList c.args, hy']
            simp [execOp, resolve, hb, invoke, builtin, this]
        obtain ⟨y', hq, hrun⟩ := hpn
        simp only [evH] at hv
        split at hv <;> first | (cases hv; done) | skip
        rename_i t v hy
        simp only [Option.some.injEq, Prod.mk.injEq] at hv
        obtain ⟨rfl, rfl⟩ := hv
        have hrep := ev_rep he hq hy
        have hc : ∃ c, a.eval y' = .iface t c := by
          generalize a.eval y' = z at hrep
          cases hrep; exact ⟨_, rfl⟩
        obtain ⟨c, hc⟩ := hc
        unfold Oper.wp
        rw [hrun]
        have hrun2 : (do pure (Next.value (← Instr.panic (a.eval y'))) : Sem Next).run P w = .halt (.panic (a.eval y')) w := by
          rw [hc]
          simp [Instr.panic, goPanic]
        rw [hrun2, Oper.upon_panic]
        exact hpan _ _ w Γ rfl hrep hR (Stp.refl Γ w)
end

end Go.Ev
