/-
  More rules for walking: loops whose state is a tuple, chains of conditions without a fork, elements of lists, regions whose order is drawn.
-/
import Derived.Test.YtbjoldcjbpngaaaEvW
import Derived.Test.YtbjoldcjbpngaaaEvB
set_option linter.unusedVariables false
set_option linter.unusedSimpArgs false
namespace Go.Ev
open Go

section
variable {C : Ctx} {cs : List ACode} {e e' : Env} {H H' : Heap} {Q : Post}

theorem WL_one {c : ACode} : WL C [c] e H Q ↔ ∃ x e' H', evalCode C c e H = some (x, e', H') ∧ Q x e' H' := by
  rw [WL_iff]
  constructor
  · rintro ⟨x, e1, H1, h1, h2⟩
    refine ⟨x, e1, H1, h1, ?_⟩
    cases x with
    | norm => rw [WL_iff] at h2; exact h2
    | _ => exact h2
  · rintro ⟨x, e1, H1, h1, h2⟩
    refine ⟨x, e1, H1, h1, ?_⟩
    cases x with
    | norm => show WL C [] e1 H1 Q; rw [WL_iff]; exact h2
    | _ => exact h2

theorem WL_mono {Q' : Post} (hq : ∀ x e H, Q x e H → Q' x e H) : ∀ {cs : List ACode} {e : Env} {H : Heap}, WL C cs e H Q → WL C cs e H Q'
  | [], e, H, h => by rw [WL_iff] at h ⊢; exact hq _ _ _ h
  | c :: cs, e, H, h => by
    rw [WL_iff] at h ⊢
    obtain ⟨x, e1, H1, h1, h2⟩ := h
    refine ⟨x, e1, H1, h1, ?_⟩
    cases x with
    | norm => exact WL_mono hq h2
    | exit i => exact hq _ _ _ h2
    | ret => exact hq _ _ _ h2
    | pan v => exact hq _ _ _ h2

/-- A piece of code alone, first; then the others, from wherever it ends. -/
theorem WL_cut {c : ACode} (M : Env → Heap → Prop) (h1 : WL C [c] e H (fun x e H => match x with
    | .norm => M e H
    | x => Q x e H)) (h2 : ∀ e H, M e H → WL C cs e H Q) : WL C (c :: cs) e H Q := by
  rw [WL_one] at h1
  rw [WL_iff]
  obtain ⟨x, e1, H1, h3, h4⟩ := h1
  refine ⟨x, e1, H1, h3, ?_⟩
  cases x with
  | norm => exact h2 _ _ h4
  | _ => exact h4

/-- How a round ends, the loop's state a value 's'. -/
def RndS {α : Type} (keep : List Nat) (n : Nat) (env : α → Env) (heap : α → Heap) (P : α → Prop) (m : α → Nat) (k : Nat) (Q : Post) : Post
  | .norm, e, H => ∃ s, restr e keep = env s ∧ trunc n (env s) H = heap s ∧ P s ∧ m s < k
  | x, e, H => Q x e H

theorem WL_for {α : Type} {keep : List Nat} {a : ACode} (env : α → Env) (heap : α → Heap) (P : α → Prop) (m : α → Nat) (s0 : α)
    (he : restr e keep = env s0) (hh : trunc H.length (env s0) H = heap s0) (hP : P s0) (hk : m s0 < C.fuel)
    (round : ∀ s, P s → WL C [a] (env s) (heap s) (RndS keep H.length env heap P m (m s) Q)) : WL C (.loop keep a :: cs) e H Q := by
  refine WL_loop (fun k e' H' => ∃ s, restr e' keep = env s ∧ trunc H.length (env s) H' = heap s ∧ P s ∧ m s = k) (m s0) hk ⟨s0, he, hh, hP, rfl⟩ ?_
  rintro k' e' H' _ ⟨s, h1, h2, h3, rfl⟩
  rw [h1, h2]
  refine WL_mono ?_ (round s h3)
  intro x e2 H2 hq
  cases x with
  | norm =>
    obtain ⟨s', k1, k2, k3, k4⟩ := hq
    exact ⟨m s', k4, s', k1, k2, k3, rfl⟩
  | _ => exact hq

theorem RndS_norm {α : Type} {keep : List Nat} {n : Nat} {env : α → Env} {heap : α → Heap} {P : α → Prop} {m : α → Nat} {k : Nat} (s : α) (h1 : restr e keep = env s) (h2 : trunc n (env s) H = heap s) (h3 : P s) (h4 : m s < k) : RndS keep n env heap P m k Q .norm e H :=
  ⟨s, h1, h2, h3, h4⟩
theorem RndS_exit {α : Type} {keep : List Nat} {n : Nat} {env : α → Env} {heap : α → Heap} {P : α → Prop} {m : α → Nat} {k i : Nat} (h : Q (.exit i) e H) : RndS keep n env heap P m k Q (.exit i) e H := h
theorem RndS_ret {α : Type} {keep : List Nat} {n : Nat} {env : α → Env} {heap : α → Heap} {P : α → Prop} {m : α → Nat} {k : Nat} (h : Q .ret e H) : RndS keep n env heap P m k Q .ret e H := h

theorem trunc_id {n : Nat} {e : Env} {H : Heap} (h : H.length ≤ n) : trunc n e H = H := by simp [trunc, h]

/-- How a round ends: places and blocks that the loop turns, and those that it leaves. -/
def RndV {α : Type} (keep : List Nat) (n : Nat) (cst : Env) (var : α → Env) (hc : Heap) (hv : α → Heap) (P : α → Prop) (m : α → Nat) (k : Nat) (Q : Post) : Post
  | .norm, e, H => ∃ s, restr e keep = var s ++ cst ∧ trunc n (var s ++ cst) H = hc ++ hv s ∧ P s ∧ m s < k
  | x, e, H => Q x e H

theorem WL_forv {α : Type} {keep : List Nat} {a : ACode} {cst : Env} {hc : Heap} (var : α → Env) (hv : α → Heap) (P : α → Prop) (m : α → Nat) (s0 : α)
    (he : restr e keep = var s0 ++ cst) (hh : H = hc ++ hv s0) (hP : P s0) (hk : m s0 < C.fuel)
    (round : ∀ s, P s → WL C [a] (var s ++ cst) (hc ++ hv s) (RndV keep H.length cst var hc hv P m (m s) Q)) : WL C (.loop keep a :: cs) e H Q :=
  WL_for (fun s => var s ++ cst) (fun s => hc ++ hv s) P m s0 he ((trunc_id (Nat.le_refl _)).trans hh) hP hk round

theorem RndV_norm {α : Type} {keep : List Nat} {n : Nat} {cst : Env} {var : α → Env} {hc : Heap} {hv : α → Heap} {P : α → Prop} {m : α → Nat} {k : Nat} (s : α) (h3 : P s) (h4 : m s < k) (h1 : restr e keep = var s ++ cst) (h2 : trunc n (var s ++ cst) H = hc ++ hv s) : RndV keep n cst var hc hv P m k Q .norm e H :=
  ⟨s, h1, h2, h3, h4⟩
theorem RndV_exit {α : Type} {keep : List Nat} {n : Nat} {cst : Env} {var : α → Env} {hc : Heap} {hv : α → Heap} {P : α → Prop} {m : α → Nat} {k i : Nat} (h : Q (.exit i) e H) : RndV keep n cst var hc hv P m k Q (.exit i) e H := h
theorem RndV_ret {α : Type} {keep : List Nat} {n : Nat} {cst : Env} {var : α → Env} {hc : Heap} {hv : α → Heap} {P : α → Prop} {m : α → Nat} {k : Nat} (h : Q .ret e H) : RndV keep n cst var hc hv P m k Q .ret e H := h

/-- .. when the heap stays. -/
def RndC {α : Type} (keep : List Nat) (n : Nat) (cst : Env) (var : α → Env) (hc : Heap) (P : α → Prop) (m : α → Nat) (k : Nat) (Q : Post) : Post
  | .norm, e, H => ∃ s, restr e keep = var s ++ cst ∧ trunc n (var s ++ cst) H = hc ∧ P s ∧ m s < k
  | x, e, H => Q x e H

theorem WL_forc {α : Type} {keep : List Nat} {a : ACode} {cst : Env} (var : α → Env) (P : α → Prop) (m : α → Nat) (s0 : α)
    (he : restr e keep = var s0 ++ cst) (hP : P s0) (hk : m s0 < C.fuel)
    (round : ∀ s, P s → WL C [a] (var s ++ cst) H (RndC keep H.length cst var H P m (m s) Q)) : WL C (.loop keep a :: cs) e H Q :=
  WL_for (fun s => var s ++ cst) (fun s => H) P m s0 he (trunc_id (Nat.le_refl _)) hP hk round

theorem RndC_norm {α : Type} {keep : List Nat} {n : Nat} {cst : Env} {var : α → Env} {hc : Heap} {P : α → Prop} {m : α → Nat} {k : Nat} (s : α) (h3 : P s) (h4 : m s < k) (h1 : restr e keep = var s ++ cst) (h2 : trunc n (var s ++ cst) H = hc) : RndC keep n cst var hc P m k Q .norm e H :=
  ⟨s, h1, h2, h3, h4⟩
theorem RndC_exit {α : Type} {keep : List Nat} {n : Nat} {cst : Env} {var : α → Env} {hc : Heap} {P : α → Prop} {m : α → Nat} {k i : Nat} (h : Q (.exit i) e H) : RndC keep n cst var hc P m k Q (.exit i) e H := h
theorem RndC_ret {α : Type} {keep : List Nat} {n : Nat} {cst : Env} {var : α → Env} {hc : Heap} {P : α → Prop} {m : α → Nat} {k : Nat} (h : Q .ret e H) : RndC keep n cst var hc P m k Q .ret e H := h

theorem WL_shutl {t : Nat} {off : Option Nat} (h1 : sealA t off e H = H') (h : WL C cs e H' Q) : WL C (.shutl t off :: cs) e H Q := by
  rw [WL_iff]; exact ⟨.norm, _, _, rfl, by rw [h1]; exact h⟩

/-! ### Chains of conditions -/

/-- The places of some operations, with whatever stands there. -/
def junk : List Nat → List AVal → Env → Env
  | k :: ks, v :: vs, e => junk ks vs ((k, v) :: e)
  | _, _, e => e

/-- Operations that all stand under one condition, without it ('seen': the places that they set, on which others of them may hang). -/
def bare (k : Nat) (w : Bool) : List Nat → List AOper → Option (List AOper × List Nat)
  | _, [] => some ([], [])
  | seen, ⟨some d, op, some (k', w')⟩ :: r =>
    if Nat.beq d k then none
    else if Nat.beq k' k && (w' == w) then match bare k w (d :: seen) r with
      | some (l, ks) => some (⟨some d, op, none⟩ :: l, d :: ks)
      | none => none
    else if !notIn k' seen && !Nat.beq k' k then match bare k w (d :: seen) r with
      | some (l, ks) => some (⟨some d, op, some (k', w')⟩ :: l, d :: ks)
      | none => none
    else none
  | _, _ => none

theorem get_put_ne {e : Env} {d k : Nat} {v : AVal} (h : d ≠ k) : Env.get ((d, v) :: e) k = e.get k := by simp [Env.get, h]

theorem notIn_false {b : Nat} : ∀ {l : List Nat}, notIn b l = false → b ∈ l
  | [], h => by simp [notIn] at h
  | x :: xs, h => by
    simp only [notIn, Bool.and_eq_false_iff, Bool.not_eq_false'] at h
    rcases h with h | h
    · rw [Nat.eq_of_beq_eq_true h]; exact List.mem_cons_self
    · exact List.mem_cons_of_mem _ (notIn_false h)

theorem bare_off {k : Nat} {w b : Bool} (hb : b ≠ w) : ∀ {blk l : List AOper} {ks seen : List Nat} {e : Env} {r : List AOper} {H : Heap}, bare k w seen blk = some (l, ks) → e.get k = some (.bool b) → (∀ d, d ∈ seen → e.get d = some undefA) →
    ∃ vs, vs.length = ks.length ∧ evalOps C (blk ++ r) e H = evalOps C r (junk ks vs e) H ∧ (junk ks vs e).get k = some (.bool b)
  | [], l, ks, seen, e, r, H, h, hk, hs => by
    simp only [bare, Option.some.injEq, Prod.mk.injEq] at h
    obtain ⟨rfl, rfl⟩ := h
    exact ⟨[], rfl, rfl, hk⟩
  | o :: blk, l, ks, seen, e, r, H, h, hk, hs => by
    obtain ⟨d, op, g⟩ := o
    cases d with
    | none => simp [bare] at h
    | some d =>
      cases g with
      | none => simp [bare] at h
      | some g =>
        obtain ⟨k', w'⟩ := g
        simp only [bare] at h
        split at h <;> first | (cases h; done) | skip
        rename_i hd
        have hdk : d ≠ k := by intro hh; subst hh; simp at hd
        have hseen : ∀ c, c ∈ d :: seen → Env.get ((d, undefA) :: e) c = some undefA := by
          intro c hc
          by_cases hcd : d = c
          · subst hcd; simp [Env.get]
          · rw [get_put_ne hcd]
            rcases List.mem_cons.1 hc with h1 | h1
            · exact absurd h1.symm hcd
            · exact hs c h1
        split at h
        · rename_i hc
          simp only [Bool.and_eq_true, beq_iff_eq] at hc
          split at h <;> first | (cases h; done) | skip
          rename_i l' ks' hr
          simp only [Option.some.injEq, Prod.mk.injEq] at h
          obtain ⟨rfl, rfl⟩ := h
          have e1 := Nat.eq_of_beq_eq_true hc.1
          have e2 := hc.2
          subst e1 e2
          obtain ⟨vs, h1, h2, h3⟩ := bare_off hb (e := (d, undefA) :: e) (r := r) (H := H) hr (by rw [get_put_ne hdk]; exact hk) hseen
          refine ⟨undefA :: vs, by simp [h1], ?_, h3⟩
          have hbw : (b == w') = false := by simpa using hb
          simp only [List.cons_append, evalOps, wantedA, hk, hbw, Env.put]
          exact h2
        · split at h <;> first | (cases h; done) | skip
          rename_i hc
          simp only [Bool.and_eq_true, Bool.not_eq_true'] at hc
          split at h <;> first | (cases h; done) | skip
          rename_i l' ks' hr
          simp only [Option.some.injEq, Prod.mk.injEq] at h
          obtain ⟨rfl, rfl⟩ := h
          obtain ⟨vs, h1, h2, h3⟩ := bare_off hb (e := (d, undefA) :: e) (r := r) (H := H) hr (by rw [get_put_ne hdk]; exact hk) hseen
          refine ⟨undefA :: vs, by simp [h1], ?_, h3⟩
          have := hs k' (notIn_false hc.1)
          simp only [undefA] at this
          simp only [List.cons_append, evalOps, wantedA, this, Env.put]
          exact h2

theorem bare_on {k : Nat} {w : Bool} : ∀ {blk l : List AOper} {ks seen : List Nat} {e e1 : Env} {r : List AOper} {H H1 : Heap}, bare k w seen blk = some (l, ks) → e.get k = some (.bool w) → evalOps C l e H = some (.norm, e1, H1) →
    ∃ vs, vs.length = ks.length ∧ evalOps C (blk ++ r) e H = evalOps C r (junk ks vs e) H1 ∧ (junk ks vs e).get k = some (.bool w) ∧ e1 = junk ks vs e
  | [], l, ks, seen, e, e1, r, H, H1, h, hk, hl => by
    simp only [bare, Option.some.injEq, Prod.mk.injEq] at h
    obtain ⟨rfl, rfl⟩ := h
    simp only [evalOps, Option.some.injEq, Prod.mk.injEq, true_and] at hl
    obtain ⟨rfl, rfl⟩ := hl
    exact ⟨[], rfl, rfl, hk, rfl⟩
  | o :: blk, l, ks, seen, e, e1, r, H, H1, h, hk, hl => by
    obtain ⟨d, op, g⟩ := o
    cases d with
    | none => simp [bare] at h
    | some d =>
      cases g with
      | none => simp [bare] at h
      | some g =>
        obtain ⟨k', w'⟩ := g
        simp only [bare] at h
        split at h <;> first | (cases h; done) | skip
        rename_i hd
        have hdk : d ≠ k := by intro hh; subst hh; simp at hd
        split at h
        · rename_i hc
          simp only [Bool.and_eq_true, beq_iff_eq] at hc
          split at h <;> first | (cases h; done) | skip
          rename_i l' ks' hr
          simp only [Option.some.injEq, Prod.mk.injEq] at h
          obtain ⟨rfl, rfl⟩ := h
          have e1 := Nat.eq_of_beq_eq_true hc.1
          have e2 := hc.2
          subst e1 e2
          simp only [evalOps, wantedA] at hl
          split at hl
          · rename_i v H2 hv
            obtain ⟨vs, h1, h2, h3, h4⟩ := bare_on (e := (d, v) :: e) (r := r) hr (by rw [get_put_ne hdk]; exact hk) hl
            refine ⟨v :: vs, by simp [h1], ?_, h3, h4⟩
            simp only [List.cons_append, evalOps, wantedA, hk, beq_self_eq_true, hv, Env.put]
            exact h2
          · simp at hl
          · cases hl
        · split at h <;> first | (cases h; done) | skip
          rename_i hc
          split at h <;> first | (cases h; done) | skip
          rename_i l' ks' hr
          simp only [Option.some.injEq, Prod.mk.injEq] at h
          obtain ⟨rfl, rfl⟩ := h
          simp only [evalOps] at hl
          split at hl
          · rename_i hw
            split at hl
            · rename_i v H2 hv
              obtain ⟨vs, h1, h2, h3, h4⟩ := bare_on (e := (d, v) :: e) (r := r) hr (by rw [get_put_ne hdk]; exact hk) hl
              refine ⟨v :: vs, by simp [h1], ?_, h3, h4⟩
              simp only [List.cons_append, evalOps, hw, hv, Env.put]
              exact h2
            · simp at hl
            · cases hl
          · rename_i hw
            obtain ⟨vs, h1, h2, h3, h4⟩ := bare_on (e := (d, undefA) :: e) (r := r) hr (by rw [get_put_ne hdk]; exact hk) hl
            refine ⟨undefA :: vs, by simp [h1], ?_, h3, h4⟩
            simp only [List.cons_append, evalOps, hw, Env.put]
            exact h2
          · cases hl

/-- 'and': what comes behind it, whatever the places in between hold. -/
theorem O_and (blk : List AOper) {k s d : Nat} {b f : Bool} {l r : List AOper} {ks : List Nat} (hb : bare k true [] blk = some (l, ks)) (hk : e.get k = some (.bool b))
    (hT : b = true → WO C l [] e H (fun x e1 H1 => x = .norm ∧ H1 = H ∧ e1.get s = some (.bool f)))
    (h : ∀ vs, vs.length = ks.length → WO C r cs ((d, .bool (b && f)) :: junk ks vs e) H Q) : WO C (blk ++ ⟨some d, .pick (.t k) (.t s) (.c (.bool false)), none⟩ :: r) cs e H Q := by
  rw [WO_iff] at hT ⊢
  simp only [WO_iff] at h
  cases b with
  | false =>
    obtain ⟨vs, h1, h2, h3⟩ := bare_off (C := C) (w := true) (b := false) (by simp) (r := ⟨some d, .pick (.t k) (.t s) (.c (.bool false)), none⟩ :: r) (H := H) hb hk (by simp)
    obtain ⟨x, e', H', h4, h5⟩ := h vs h1
    refine ⟨x, e', H', ?_, h5⟩
    rw [h2]
    simp only [evalOps, wantedA, evalOp, AOp.kind, evP, AOpd.ev, h3, okv, Env.put]
    exact h4
  | true =>
    obtain ⟨x, e1, H1, h4, h5⟩ := hT rfl
    have h5' : x = .norm ∧ H1 = H ∧ e1.get s = some (.bool f) := by
      cases x with
      | norm => rw [WL_iff] at h5; exact h5
      | _ => exact h5
    obtain ⟨rfl, rfl, h6⟩ := h5'
    obtain ⟨vs, h1, h2, h3, h7⟩ := bare_on (C := C) (w := true) (r := ⟨some d, .pick (.t k) (.t s) (.c (.bool false)), none⟩ :: r) hb hk h4
    obtain ⟨x, e', H', h8, h9⟩ := h vs h1
    refine ⟨x, e', H', ?_, h9⟩
    rw [h2]
    subst h7
    simp only [evalOps, wantedA, evalOp, AOp.kind, evP, AOpd.ev, h3, h6, okv, Env.put]
    exact h8

/-- 'or'. -/
theorem O_or (blk : List AOper) {k s d : Nat} {b f : Bool} {l r : List AOper} {ks : List Nat} (hb : bare k false [] blk = some (l, ks)) (hk : e.get k = some (.bool b))
    (hT : b = false → WO C l [] e H (fun x e1 H1 => x = .norm ∧ H1 = H ∧ e1.get s = some (.bool f)))
    (h : ∀ vs, vs.length = ks.length → WO C r cs ((d, .bool (b || f)) :: junk ks vs e) H Q) : WO C (blk ++ ⟨some d, .pick (.t k) (.c (.bool true)) (.t s), none⟩ :: r) cs e H Q := by
  rw [WO_iff] at hT ⊢
  simp only [WO_iff] at h
  cases b with
  | true =>
    obtain ⟨vs, h1, h2, h3⟩ := bare_off (C := C) (w := false) (b := true) (by simp) (r := ⟨some d, .pick (.t k) (.c (.bool true)) (.t s), none⟩ :: r) (H := H) hb hk (by simp)
    obtain ⟨x, e', H', h4, h5⟩ := h vs h1
    refine ⟨x, e', H', ?_, h5⟩
    rw [h2]
    simp only [evalOps, wantedA, evalOp, AOp.kind, evP, AOpd.ev, h3, okv, Env.put]
    exact h4
  | false =>
    obtain ⟨x, e1, H1, h4, h5⟩ := hT rfl
    have h5' : x = .norm ∧ H1 = H ∧ e1.get s = some (.bool f) := by
      cases x with
      | norm => rw [WL_iff] at h5; exact h5
      | _ => exact h5
    obtain ⟨rfl, rfl, h6⟩ := h5'
    obtain ⟨vs, h1, h2, h3, h7⟩ := bare_on (C := C) (w := false) (r := ⟨some d, .pick (.t k) (.c (.bool true)) (.t s), none⟩ :: r) hb hk h4
    obtain ⟨x, e', H', h8, h9⟩ := h vs h1
    refine ⟨x, e', H', ?_, h9⟩
    rw [h2]
    subst h7
    simp only [evalOps, wantedA, evalOp, AOp.kind, evP, AOpd.ev, h3, h6, okv, Env.put]
    exact h8

/-! ### Regions whose order is drawn -/

/-- In turn, and then 'K', of what each looked at. -/
def WD (C : Ctx) (base : Nat) (l : List (AOper × Nat × List Nat)) (acc : List Foot) (e : Env) (H : Heap) (K : List Foot → Env → Heap → Prop) : Prop :=
  ∃ fs e' H', runD C base l e H = some (fs, e', H') ∧ K (acc ++ fs) e' H'

theorem WL_draw {m : Nat} {l : List (AOper × Nat × List Nat)} (h : WD C H.length l [] e (H ++ List.replicate m .hole) (fun fs e' H' => okFs fs 0 l fs = true ∧ WL C cs e' H' Q)) : WL C (.draw m l :: cs) e H Q := by
  obtain ⟨fs, e1, H1, h1, h2, h3⟩ := h
  rw [WL_iff]
  refine ⟨.norm, e1, H1, ?_, h3⟩
  rw [List.nil_append] at h2
  simp only [evalCode, evalDraw, h1, h2, if_true]

theorem WL_draw0 {l : List (AOper × Nat × List Nat)} (h : WD C H.length l [] e H (fun fs e' H' => okFs fs 0 l fs = true ∧ WL C cs e' H' Q)) : WL C (.draw 0 l :: cs) e H Q := by
  refine WL_draw ?_
  rw [show H ++ List.replicate 0 ABlock.hole = H by simp]
  exact h

section
variable {base : Nat} {l : List (AOper × Nat × List Nat)} {acc : List Foot} {K : List Foot → Env → Heap → Prop}
theorem WD_nil (h : K acc e H) : WD C base [] acc e H K := ⟨[], e, H, rfl, by rw [List.append_nil]; exact h⟩

theorem WD_step {o : AOper} {j : Nat} {ds : List Nat} {f : Foot} {v : AVal} (hv : stepV C base o j e H = some (f, v, H')) (h : WD C base l (acc ++ [f]) (e.put o.dst v) H' K) : WD C base ((o, j, ds) :: l) acc e H K := by
  obtain ⟨fs, e1, H1, h1, h2⟩ := h
  refine ⟨f :: fs, e1, H1, by simp only [runD, hv, h1], ?_⟩
  rw [List.append_assoc] at h2
  exact h2

theorem D_p {d : Nat} {op : AOp} {g : Option (Nat × Bool)} {j : Nat} {ds : List Nat} {v : AVal} (hk : op.kind = .pure) (hg : wantedA e g = some true) (hv : evP e op = some v) (h : WD C base l (acc ++ [.io [] []]) ((d, v) :: e) H K) : WD C base ((⟨some d, op, g⟩, j, ds) :: l) acc e H K := by
  refine WD_step (f := .io [] []) (v := v) (H' := H) ?_ h
  simp [stepV, hg, hk, evalOp, hv, okv, footA]

theorem D_v {d : Nat} {op : AOp} {g : Option (Nat × Bool)} {j : Nat} {ds : List Nat} {v : AVal} (v' : AVal) (hk : op.kind = .pure) (hg : wantedA e g = some true) (hv : evP e op = some v) (hvv : v = v') (h : WD C base l (acc ++ [.io [] []]) ((d, v') :: e) H K) : WD C base ((⟨some d, op, g⟩, j, ds) :: l) acc e H K :=
  D_p hk hg (hvv ▸ hv) h

theorem D_s {d : Nat} {op : AOp} {g : Option (Nat × Bool)} {j : Nat} {ds : List Nat} (hg : wantedA e g = some false) (h : WD C base l (acc ++ [.io [] []]) ((d, undefA) :: e) H K) : WD C base ((⟨some d, op, g⟩, j, ds) :: l) acc e H K := by
  refine WD_step (f := .io [] []) (v := undefA) (H' := H) ?_ h
  simp [stepV, hg]

theorem D_h {d : Option Nat} {op : AOp} {g : Option (Nat × Bool)} {j : Nat} {ds : List Nat} {v : AVal} {r w : List Nat} (hc : op.isCall = false) (hk : op.kind = .heap) (hg : wantedA e g = some true) (hf : footH e H op = some (r, w)) (hv : evH C e (base + j) H op = some (.ok v, H'))
    (h : WD C base l (acc ++ [.io r w]) (e.put d v) H' K) : WD C base ((⟨d, op, g⟩, j, ds) :: l) acc e H K := by
  refine WD_step (f := .io r w) (v := v) (H' := H') ?_ h
  simp [stepV, hg, hk, evalOp, hv, footA, hf]

theorem D_o {d : Option Nat} {op : AOp} {g : Option (Nat × Bool)} {j : Nat} {ds : List Nat} {v : AVal} (hc : op.isCall = false) (hk : op.kind = .heap) (hg : wantedA e g = some true) (hf : footH e H op = none) (hv : evH C e (base + j) H op = some (.ok v, H'))
    (h : WD C base l (acc ++ [.opq H H']) (e.put d v) H' K) : WD C base ((⟨d, op, g⟩, j, ds) :: l) acc e H K := by
  refine WD_step (f := .opq H H') (v := v) (H' := H') ?_ h
  simp [stepV, hg, hk, evalOp, hv, footA, hf]

theorem D_n {d : Nat} {op : AOp} {g : Option (Nat × Bool)} {j : Nat} {ds : List Nat} {v : AVal} {B : ABlock} (hk : op.kind = .new) (hg : wantedA e g = some true) (hj : Nat.ble H.length (base + j) = false) (hv : evN e (base + j) op = some (v, B)) (hn : newAt H (base + j) B = some H')
    (h : WD C base l (acc ++ [.io [base + j] [base + j]]) ((d, v) :: e) H' K) : WD C base ((⟨some d, op, g⟩, j, ds) :: l) acc e H K := by
  refine WD_step (f := .io [base + j] [base + j]) (v := v) (H' := H') ?_ h
  simp [stepV, hg, hk, evalOp, hv, hn, footA, hj]

theorem D_c {d : Nat} {g : Option (Nat × Bool)} {j : Nat} {ds : List Nat} (f : FuncId) {args : List AOpd} {vs as : List AVal} {v : AVal} (hg : wantedA e g = some true) (hvs : evs e args = some vs) (hs : shutL H vs = some as) (hv : callA C false f vs H = some (.ok v, H))
    (h : WD C base l (acc ++ [.io (glsL vs) []]) ((d, v) :: e) H K) : WD C base ((⟨some d, .call false f args, g⟩, j, ds) :: l) acc e H K := by
  refine WD_step (f := .io (glsL vs) []) (v := v) (H' := H) ?_ h
  simp [stepV, hg, AOp.kind, evalOp, evH, hvs, hv, footA, footH, footArgs, hs]

/-- A call that turns the heap. -/
theorem D_cr {d : Nat} {g : Option (Nat × Bool)} {j : Nat} {ds : List Nat} {raw : Bool} (f : FuncId) {args : List AOpd} {vs : List AVal} {v : AVal} (hg : wantedA e g = some true) (hvs : evs e args = some vs) (hs : raw = true ∨ shutL H vs = none) (hv : callA C raw f vs H = some (.ok v, H'))
    (h : WD C base l (acc ++ [.opq H H']) ((d, v) :: e) H' K) : WD C base ((⟨some d, .call raw f args, g⟩, j, ds) :: l) acc e H K := by
  refine WD_step (f := .opq H H') (v := v) (H' := H') ?_ h
  have : footH e H (.call raw f args) = none := by
    rcases hs with rfl | hs
    · simp [footH]
    · cases raw <;> simp [footH, hvs, footArgs, hs]
  simp [stepV, hg, AOp.kind, evalOp, evH, hvs, hv, footA, this]

theorem D_ia {d es j : Nat} {ds : List Nat} {x i : AOpd} {xs : List AVal} {b : Bool} {k : IntKind} {n : Int} {y : AVal} {cells : List AVal} (hx : x.ev e = some (.lst xs b)) (hi : i.ev e = some (.int k n)) (h0 : 0 ≤ n) (hy : xs[n.toNat]? = some y) (hf : y.flat = cells) (hw : cells.length = es)
    (h : WD C base l (acc ++ [.io [] []]) ((d, .ro cells) :: e) H K) : WD C base ((⟨some d, .ia es x i, none⟩, j, ds) :: l) acc e H K := by
  refine D_h (d := some d) rfl rfl rfl (r := []) (w := []) (v := .ro cells) ?_ ?_ h
  · simp [footH, hx]
  · simp [evH, hx, hi, h0, hy, AVal.width, hf, hw]
end

/-! ### .. when the text alone says that no two of them meet -/

inductive F2 {α β : Type} (R : α → β → Prop) : List α → List β → Prop
  | nil : F2 R [] []
  | cons {a : α} {b : β} {as : List α} {bs : List β} : R a b → F2 R as bs → F2 R (a :: as) (b :: bs)

theorem F2.len {α β : Type} {R : α → β → Prop} {as : List α} {bs : List β} (h : F2 R as bs) : as.length = bs.length := by
  induction h with
  | nil => rfl
  | cons _ _ ih => simp [ih]

theorem F2.snoc {α β : Type} {R : α → β → Prop} {as : List α} {bs : List β} {a : α} {b : β} (h : F2 R as bs) (hr : R a b) : F2 R (as ++ [a]) (bs ++ [b]) := by
  induction h with
  | nil => exact .cons hr .nil
  | cons h _ ih => exact .cons h ih

/-- It makes no block. -/
def noId (op : AOp) : Bool := match op with
  | .app _ _ _ _ _ => false
  | .appz _ _ _ _ _ => false
  | op => !decide (op.kind = .new)

theorem noId_ev {e : Env} {H : Heap} {op : AOp} (h : noId op = true) (id id' : Nat) : evalOp C e id H op = evalOp C e id' H op := by
  cases op <;> first | rfl | (simp [noId, AOp.kind] at h; done)

def rdr (op : AOp) : Bool := match op with
  | .lds _ | .lda _ _ | .ia _ _ _ | .len _ _ | .cap _ => true
  | op => decide (op.kind = .pure)

def statEarlier (deps : List Nat) (isr : Bool) : Nat → List (AOper × Nat × List Nat) → Bool
  | _, [] => true
  | o, p :: ps => ((rdr p.1.op && isr) || !notIn o deps) && statEarlier deps isr (o + 1) ps

def statOk : List (AOper × Nat × List Nat) → List (AOper × Nat × List Nat) → Bool
  | _, [] => true
  | pre, p :: ps => noId p.1.op && Nat.beq p.2.1 0 && statEarlier p.2.2 (rdr p.1.op) 0 pre && statOk (pre ++ [p]) ps

def readF (p : AOper × Nat × List Nat) (f : Foot) : Prop := rdr p.1.op = true → ∃ r, f = .io r []

theorem footH_rdr {e : Env} {H : Heap} {op : AOp} (hr : rdr op = true) (hk : op.kind = .heap) : ∃ r, footH e H op = some (r, []) := by
  cases op <;> simp only [rdr, AOp.kind, reduceCtorEq, decide_false, Bool.false_eq_true] at hr hk
  all_goals simp only [footH]
  all_goals (try split) <;> exact ⟨_, rfl⟩

theorem stepV_seq {base : Nat} {p : AOper × Nat × List Nat} {v : AVal} (hb : base = H.length ∨ True) (hn : p.1.op.kind ≠ .new) (hw : wantedA e p.1.guard = some true) (hv : ∀ id, evalOp C e id H p.1.op = some (.ok v, H')) :
    ∃ f, stepV C base p.1 p.2.1 e H = some (f, v, H') ∧ readF p f := by
  refine ⟨footA e (base + p.2.1) H H' p.1.op, ?_, ?_⟩
  · simp [stepV, hw, hn, hv]
  · intro hr
    unfold footA
    cases hk : p.1.op.kind with
    | pure => exact ⟨[], rfl⟩
    | new => exact absurd hk hn
    | heap =>
      obtain ⟨r, h⟩ := footH_rdr (e := e) (H := H) hr hk
      simp only [h]
      exact ⟨r, rfl⟩

theorem statEarlier_ok {deps : List Nat} {p : AOper × Nat × List Nat} {f : Foot} (hf : readF p f) : ∀ {pre : List (AOper × Nat × List Nat)} {gs : List Foot} {o : Nat}, F2 readF pre gs → statEarlier deps (rdr p.1.op) o pre = true → okEarlier deps f o gs = true
  | [], _, o, .nil, h => rfl
  | q :: pre, g :: gs, o, .cons hq hr, h => by
    simp only [statEarlier, Bool.and_eq_true, Bool.or_eq_true] at h
    simp only [okEarlier, Bool.and_eq_true, Bool.or_eq_true]
    refine ⟨?_, statEarlier_ok hf hr h.2⟩
    rcases h.1 with h1 | h1
    · obtain ⟨r, rfl⟩ := hq h1.1
      obtain ⟨r', rfl⟩ := hf h1.2
      exact .inl rfl
    · exact .inr h1

theorem runD_seq {base : Nat} : ∀ {l pre : List (AOper × Nat × List Nat)} {gs : List Foot} {e e' : Env} {H H' : Heap}, statOk pre l = true → F2 readF pre gs → evalOps C (l.map (·.1)) e H = some (.norm, e', H') →
    ∃ fs, runD C base l e H = some (fs, e', H') ∧ ∀ all, all = gs ++ fs → okFs all pre.length l fs = true
  | [], pre, gs, e, e', H, H', _, _, h => by
    simp only [List.map_nil, evalOps, Option.some.injEq, Prod.mk.injEq, true_and] at h
    obtain ⟨rfl, rfl⟩ := h
    exact ⟨[], rfl, fun _ _ => rfl⟩
  | p :: l, pre, gs, e, e', H, H', hs, hg, h => by
    simp only [statOk, Bool.and_eq_true] at hs
    obtain ⟨⟨⟨s0, s2⟩, s3⟩, s4⟩ := hs
    have s1 : p.1.op.kind ≠ .new := by
      intro hk
      cases hop : p.1.op <;> rw [hop] at s0 hk <;> simp [noId, AOp.kind] at s0 hk
    have hlen : pre.length = gs.length := hg.len
    have fin : ∀ (f : Foot) (v : AVal) (H1 : Heap), stepV C base p.1 p.2.1 e H = some (f, v, H1) → readF p f → evalOps C (l.map (·.1)) (e.put p.1.dst v) H1 = some (.norm, e', H') →
        ∃ fs, runD C base (p :: l) e H = some (fs, e', H') ∧ ∀ all, all = gs ++ fs → okFs all pre.length (p :: l) fs = true := by
      intro f v H1 h1 h2 h3
      have hg2 : F2 readF (pre ++ [p]) (gs ++ [f]) := hg.snoc h2
      obtain ⟨fs, k1, k2⟩ := runD_seq (base := base) s4 hg2 h3
      refine ⟨f :: fs, by simp only [runD, h1, k1], ?_⟩
      rintro all rfl
      simp only [okFs, Bool.and_eq_true]
      refine ⟨?_, ?_⟩
      · rw [hlen, List.take_left]
        exact statEarlier_ok h2 hg s3
      · have := k2 (gs ++ f :: fs) (by simp)
        simpa using this
    simp only [List.map_cons, evalOps] at h
    split at h
    · rename_i hw
      split at h
      · rename_i v H1 hv
        have hv' : ∀ id, evalOp C e id H p.1.op = some (.ok v, H1) := by
          intro id
          rw [noId_ev s0 id H.length]; exact hv
        obtain ⟨f, h1, h2⟩ := stepV_seq (base := base) (p := p) (.inr trivial) s1 hw hv'
        exact fin f v H1 h1 h2 h
      · simp at h
      · cases h
    · rename_i hw
      refine fin (.io [] []) undefA H ?_ (fun _ => ⟨[], rfl⟩) h
      simp [stepV, hw]
    · cases h

theorem WL_drawS {l : List (AOper × Nat × List Nat)} {ops : List AOper} (hs : statOk [] l = true) (ho : l.map (·.1) = ops) (h : WO C ops [] e H (fun x e' H' => x = .norm ∧ WL C cs e' H' Q)) : WL C (.draw 0 l :: cs) e H Q := by
  subst ho
  rw [WO_iff] at h
  obtain ⟨x, e1, H1, h1, h2⟩ := h
  have h2' : x = .norm ∧ WL C cs e1 H1 Q := by
    cases x with
    | norm => rw [WL_iff] at h2; exact h2
    | _ => exact h2
  obtain ⟨rfl, h3⟩ := h2'
  obtain ⟨fs, k1, k2⟩ := runD_seq (base := H.length) (gs := []) hs .nil h1
  rw [WL_iff]
  refine ⟨.norm, e1, H1, ?_, h3⟩
  simp only [evalCode, evalDraw, List.replicate_zero, List.append_nil, k1, k2 fs rfl, List.length_nil, if_true]
  exact if_pos (k2 fs rfl)

/-! ### .. and calls that do not turn the heap ('imp': the places of those that do) -/

def rdrI (imp : List Nat) (o : AOper) : Bool := rdr o.op || (o.op.isCall && match o.dst with
  | some d => notIn d imp
  | none => false)

def statEarlierI (imp : List Nat) (deps : List Nat) (isr : Bool) : Nat → List (AOper × Nat × List Nat) → Bool
  | _, [] => true
  | o, p :: ps => (!notIn o deps || (rdrI imp p.1 && isr)) && statEarlierI imp deps isr (o + 1) ps

def statOkI (imp : List Nat) : List (AOper × Nat × List Nat) → List (AOper × Nat × List Nat) → Bool
  | _, [] => true
  | pre, p :: ps => noId p.1.op && statEarlierI imp p.2.2 (rdrI imp p.1) 0 pre && statOkI imp (pre ++ [p]) ps

def readI (imp : List Nat) (p : AOper × Nat × List Nat) (f : Foot) : Prop := rdrI imp p.1 = true → ∃ r, f = .io r []

def WS (imp : List Nat) (C : Ctx) (l : List (AOper × Nat × List Nat)) (e : Env) (H : Heap) (K : Env → Heap → Prop) : Prop :=
  ∃ e' H', K e' H' ∧ ∀ base, ∃ fs, runD C base l e H = some (fs, e', H') ∧ F2 (readI imp) l fs

theorem statEarlierI_ok {imp deps : List Nat} {p : AOper × Nat × List Nat} {f : Foot} (hf : readI imp p f) : ∀ {pre : List (AOper × Nat × List Nat)} {gs : List Foot} {o : Nat}, F2 (readI imp) pre gs → statEarlierI imp deps (rdrI imp p.1) o pre = true → okEarlier deps f o gs = true
  | [], _, o, .nil, h => rfl
  | q :: pre, g :: gs, o, .cons hq hr, h => by
    simp only [statEarlierI, Bool.and_eq_true, Bool.or_eq_true] at h
    simp only [okEarlier, Bool.and_eq_true, Bool.or_eq_true]
    refine ⟨?_, statEarlierI_ok hf hr h.2⟩
    rcases h.1 with h1 | h1
    · exact .inr h1
    · obtain ⟨r, rfl⟩ := hq h1.1
      obtain ⟨r', rfl⟩ := hf h1.2
      exact .inl rfl

theorem okFs_I {imp : List Nat} : ∀ {l pre : List (AOper × Nat × List Nat)} {gs fs : List Foot}, statOkI imp pre l = true → F2 (readI imp) pre gs → F2 (readI imp) l fs → okFs (gs ++ fs) pre.length l fs = true
  | [], pre, gs, _, _, _, .nil => rfl
  | p :: l, pre, gs, f :: fs, hs, hg, .cons hf hr => by
    simp only [statOkI, Bool.and_eq_true] at hs
    simp only [okFs, Bool.and_eq_true]
    refine ⟨?_, ?_⟩
    · rw [hg.len, List.take_left]
      exact statEarlierI_ok hf hg hs.1.2
    · have := okFs_I (gs := gs ++ [f]) hs.2 (hg.snoc hf) hr
      simpa using this

theorem WL_drawT (imp : List Nat) {l : List (AOper × Nat × List Nat)} (hs : statOkI imp [] l = true) (h : WS imp C l e H (fun e' H' => WL C cs e' H' Q)) : WL C (.draw 0 l :: cs) e H Q := by
  obtain ⟨e1, H1, h1, h2⟩ := h
  obtain ⟨fs, h3, h4⟩ := h2 H.length
  have h5 := okFs_I hs .nil h4
  rw [List.nil_append] at h5
  rw [WL_iff]
  refine ⟨.norm, e1, H1, ?_, h1⟩
  simp only [evalCode, evalDraw, List.replicate_zero, List.append_nil, h3]
  exact if_pos h5

section
variable {imp : List Nat} {l : List (AOper × Nat × List Nat)} {K : Env → Heap → Prop}
theorem WS_nil (h : K e H) : WS imp C [] e H K := ⟨e, H, h, fun _ => ⟨[], rfl, .nil⟩⟩

theorem WS_step {o : AOper} {j : Nat} {ds : List Nat} {v : AVal} (hv : ∀ base, ∃ f, stepV C base o j e H = some (f, v, H') ∧ readI imp (o, j, ds) f) (h : WS imp C l (e.put o.dst v) H' K) : WS imp C ((o, j, ds) :: l) e H K := by
  obtain ⟨e1, H1, h1, h2⟩ := h
  refine ⟨e1, H1, h1, fun base => ?_⟩
  obtain ⟨f, h3, h4⟩ := hv base
  obtain ⟨fs, h5, h6⟩ := h2 base
  exact ⟨f :: fs, by simp only [runD, h3, h5], .cons h4 h6⟩

theorem S_p {d : Nat} {op : AOp} {g : Option (Nat × Bool)} {j : Nat} {ds : List Nat} {v : AVal} (hk : op.kind = .pure) (hg : wantedA e g = some true) (hv : evP e op = some v) (h : WS imp C l ((d, v) :: e) H K) : WS imp C ((⟨some d, op, g⟩, j, ds) :: l) e H K :=
  WS_step (fun base => ⟨.io [] [], by simp [stepV, hg, hk, evalOp, hv, okv, footA], fun _ => ⟨[], rfl⟩⟩) h

theorem S_v {d : Nat} {op : AOp} {g : Option (Nat × Bool)} {j : Nat} {ds : List Nat} {v : AVal} (v' : AVal) (hk : op.kind = .pure) (hg : wantedA e g = some true) (hv : evP e op = some v) (hvv : v = v') (h : WS imp C l ((d, v') :: e) H K) : WS imp C ((⟨some d, op, g⟩, j, ds) :: l) e H K :=
  S_p hk hg (hvv ▸ hv) h

theorem S_s {d : Nat} {op : AOp} {g : Option (Nat × Bool)} {j : Nat} {ds : List Nat} (hg : wantedA e g = some false) (h : WS imp C l ((d, undefA) :: e) H K) : WS imp C ((⟨some d, op, g⟩, j, ds) :: l) e H K :=
  WS_step (fun base => ⟨.io [] [], by simp [stepV, hg], fun _ => ⟨[], rfl⟩⟩) h

theorem S_h {d : Option Nat} {op : AOp} {g : Option (Nat × Bool)} {j : Nat} {ds : List Nat} {v : AVal} (hn : noId op = true) (hc : op.isCall = false) (hk : op.kind = .heap) (hg : wantedA e g = some true) (hv : evH C e H.length H op = some (.ok v, H'))
    (h : WS imp C l (e.put d v) H' K) : WS imp C ((⟨d, op, g⟩, j, ds) :: l) e H K := by
  refine WS_step (v := v) (H' := H') (fun base => ?_) h
  have h1 : evalOp C e (base + j) H op = some (.ok v, H') := by
    rw [noId_ev hn _ H.length]; simp only [evalOp, hk, hv]
  refine ⟨footA e (base + j) H H' op, by simp [stepV, hg, hk, h1], ?_⟩
  intro hr
  simp only [rdrI, hc, Bool.false_and, Bool.or_false] at hr
  obtain ⟨r, hf⟩ := footH_rdr (e := e) (H := H) hr hk
  simp only [footA, hk, hf]
  exact ⟨r, rfl⟩

theorem S_ia {d es j : Nat} {ds : List Nat} {x i : AOpd} {xs : List AVal} {b : Bool} {k : IntKind} {n : Int} {y : AVal} {cells : List AVal} (hx : x.ev e = some (.lst xs b)) (hi : i.ev e = some (.int k n)) (h0 : 0 ≤ n) (hy : xs[n.toNat]? = some y) (hf : y.flat = cells) (hw : cells.length = es)
    (h : WS imp C l ((d, .ro cells) :: e) H K) : WS imp C ((⟨some d, .ia es x i, none⟩, j, ds) :: l) e H K := by
  refine S_h (d := some d) rfl rfl rfl rfl (v := .ro cells) ?_ h
  simp [evH, hx, hi, h0, hy, AVal.width, hf, hw]

theorem S_c {d : Nat} {g : Option (Nat × Bool)} {j : Nat} {ds : List Nat} (f : FuncId) {args : List AOpd} {vs as : List AVal} {v : AVal} (hg : wantedA e g = some true) (hvs : evs e args = some vs) (hs : shutL H vs = some as) (hv : callA C false f vs H = some (.ok v, H))
    (h : WS imp C l ((d, v) :: e) H K) : WS imp C ((⟨some d, .call false f args, g⟩, j, ds) :: l) e H K :=
  WS_step (v := v) (H' := H) (fun base => ⟨.io (glsL vs) [], by simp [stepV, hg, AOp.kind, evalOp, evH, hvs, hv, footA, footH, footArgs, hs], fun _ => ⟨_, rfl⟩⟩) h

theorem S_cv {d : Nat} {g : Option (Nat × Bool)} {j : Nat} {ds : List Nat} {f : FuncId} {x : AOpd} {args : List AOpd} {caps vs as : List AVal} {v : AVal} (hg : wantedA e g = some true) (hx : x.ev e = some (.fn f caps)) (hvs : evs e args = some vs) (hs : shutL H (vs ++ caps) = some as) (hv : callA C false f (vs ++ caps) H = some (.ok v, H))
    (h : WS imp C l ((d, v) :: e) H K) : WS imp C ((⟨some d, .callv false x args, g⟩, j, ds) :: l) e H K :=
  WS_step (v := v) (H' := H) (fun base => ⟨.io (glsL (vs ++ caps)) [], by simp [stepV, hg, AOp.kind, evalOp, evH, hx, hvs, hv, footA, footH, footArgs, hs], fun _ => ⟨_, rfl⟩⟩) h

/-- A call that turns the heap. -/
theorem S_ci {d : Nat} {g : Option (Nat × Bool)} {j : Nat} {ds : List Nat} {raw : Bool} (f : FuncId) {args : List AOpd} {vs : List AVal} {v : AVal} (hi : notIn d imp = false) (hg : wantedA e g = some true) (hvs : evs e args = some vs) (hv : callA C raw f vs H = some (.ok v, H'))
    (h : WS imp C l ((d, v) :: e) H' K) : WS imp C ((⟨some d, .call raw f args, g⟩, j, ds) :: l) e H K := by
  refine WS_step (v := v) (H' := H') (fun base => ⟨_, by simp [stepV, hg, AOp.kind, evalOp, evH, hvs, hv]; rfl, ?_⟩) h
  intro hr
  simp [rdrI, rdr, AOp.kind, AOp.isCall, hi] at hr

theorem S_cvi {d : Nat} {g : Option (Nat × Bool)} {j : Nat} {ds : List Nat} {raw : Bool} {f : FuncId} {x : AOpd} {args : List AOpd} {caps vs : List AVal} {v : AVal} (hi : notIn d imp = false) (hg : wantedA e g = some true) (hx : x.ev e = some (.fn f caps)) (hvs : evs e args = some vs) (hv : callA C raw f (vs ++ caps) H = some (.ok v, H'))
    (h : WS imp C l ((d, v) :: e) H' K) : WS imp C ((⟨some d, .callv raw x args, g⟩, j, ds) :: l) e H K := by
  refine WS_step (v := v) (H' := H') (fun base => ⟨_, by simp [stepV, hg, AOp.kind, evalOp, evH, hx, hvs, hv]; rfl, ?_⟩) h
  intro hr
  simp [rdrI, rdr, AOp.kind, AOp.isCall, hi] at hr
end

/-! ### Lists -/

theorem O_ia {d es : Nat} {x i : AOpd} {l : List AOper} {xs : List AVal} {b : Bool} {k : IntKind} {n : Int} {y : AVal} {cells : List AVal} (hx : x.ev e = some (.lst xs b)) (hi : i.ev e = some (.int k n)) (h0 : 0 ≤ n) (hy : xs[n.toNat]? = some y) (hf : y.flat = cells) (hw : cells.length = es)
    (h : WO C l cs ((d, .ro cells) :: e) H Q) : WO C (⟨some d, .ia es x i, none⟩ :: l) cs e H Q := by
  refine O_h rfl rfl rfl ?_ h
  simp only [evH, hx, hi, h0, if_true, hy, AVal.width, hf, hw]

theorem O_iag {d es o len es0 : Nat} {x i : AOpd} {l : List AOper} {xs : List AVal} {k : IntKind} {n : Int} {y : AVal} {cells : List AVal} (hx : x.ev e = some (.gl o len)) (hi : i.ev e = some (.int k n)) (hb : H[o]? = some (.grow es0 xs none)) (hl : len = xs.length) (h0 : 0 ≤ n)
    (hy : xs[n.toNat]? = some y) (hf : y.flat = cells) (hw : cells.length = es) (h : WO C l cs ((d, .ro cells) :: e) H Q) : WO C (⟨some d, .ia es x i, none⟩ :: l) cs e H Q := by
  refine O_h rfl rfl rfl ?_ h
  have hlt : n < len := by
    have := (List.getElem?_eq_some_iff.1 hy).1
    omega
  simp only [evH, hx, hi, hb, hy, AVal.width, hf, hw, Option.any_some, Option.bind_some]
  rw [if_pos ⟨h0, hlt, hl, by simp⟩]

/-- A value, put another way. -/
theorem O_v {d : Nat} {op : AOp} {g : Option (Nat × Bool)} {l : List AOper} {v : AVal} (v' : AVal) (hk : op.kind = .pure) (hg : wantedA e g = some true) (hv : evP e op = some v) (hvv : v = v') (h : WO C l cs ((d, v') :: e) H Q) : WO C (⟨some d, op, g⟩ :: l) cs e H Q := O_p hk hg (hvv ▸ hv) h

theorem O_quo {d : Nat} {x y : AOpd} {l : List AOper} {k : IntKind} {a b v : Int} (hx : x.ev e = some (.int k a)) (hy : y.ev e = some (.int k b)) (hb : b ≠ 0) (hv : k.wrap (a.tdiv b) = v) (h : WO C l cs ((d, .int k v) :: e) H Q) : WO C (⟨some d, .bin .quo x y, none⟩ :: l) cs e H Q := by
  refine O_p rfl rfl ?_ h
  simp only [evP, hx, hy, binA, if_true, bi_quo, hb, if_false, hv]

theorem O_rem {d : Nat} {x y : AOpd} {l : List AOper} {k : IntKind} {a b v : Int} (hx : x.ev e = some (.int k a)) (hy : y.ev e = some (.int k b)) (hb : b ≠ 0) (hv : a.tmod b = v) (h : WO C l cs ((d, .int k v) :: e) H Q) : WO C (⟨some d, .bin .rem x y, none⟩ :: l) cs e H Q := by
  refine O_p rfl rfl ?_ h
  simp only [evP, hx, hy, binA, if_true, bi_rem, hb, if_false, hv]

theorem appz_ev {es bytes k : Nat} {z : AVal} {s n : AOpd} (hs : s.ev e = some (.lst [] true)) (hn : n.ev e = some (.int .i64 (k : Nat))) (h0 : 0 < k) (hk : k < 9223372036854775808) (hz : z.width = es) (hb : k * bytes ≤ 140737488355328) :
    evH C e H.length H (.appz es bytes z s n) = some (.ok (.gl H.length k), H ++ [.grow es (List.replicate k z) (some 0)]) := by
  have h1 : ((k : Nat) : Int) ≠ 0 := by omega
  simp only [evH, hs, hn]
  rw [if_pos ⟨by omega, hz, by simp⟩, if_neg h1, if_pos (by refine ⟨trivial, ?_, by omega⟩; simpa using hb)]
  simp [newAt]

theorem cut_ev {es k id : Nat} {x hi : AOpd} {H0 : Heap} {xs : List AVal} (hx : x.ev e = some (.gl H0.length k)) (hh : hi.ev e = some (.int .i64 0)) (hk : k = xs.length) :
    evH C e id (H0 ++ [.grow es xs (some 0)]) (.slc es x none (some hi) none) = some (.ok (.gl (H0.length + 1) 0), H0 ++ [.dead, .grow es [] none]) := by
  have h1 : (H0 ++ [ABlock.grow es xs (some 0)])[H0.length]? = some (.grow es xs (some 0)) := by simp
  simp only [evH, hx, optEv, hh, cutOpen, h1]
  rw [if_pos (by refine ⟨hk, by simp, by simp, trivial⟩)]
  simp

theorem O_cv {d : Nat} {raw : Bool} {x : AOpd} {args : List AOpd} {f : FuncId} {caps : List AVal} {l : List AOper} {vs : List AVal} {v : AVal} (hx : x.ev e = some (.fn f caps)) (hvs : evs e args = some vs)
    (hv : callA C raw f (vs ++ caps) H = some (.ok v, H')) (h : WO C l cs ((d, v) :: e) H' Q) : WO C (⟨some d, .callv raw x args, none⟩ :: l) cs e H Q := WO_callv rfl hx hvs hv h

theorem O_cn {raw : Bool} {f : FuncId} {args : List AOpd} {l : List AOper} {vs : List AVal} {v : AVal} (hvs : evs e args = some vs)
    (hv : callA C raw f vs H = some (.ok v, H')) (h : WO C l cs e H' Q) : WO C (⟨none, .call raw f args, none⟩ :: l) cs e H Q := WO_call (d := none) rfl hvs hv h

/-- What is appended to an empty slice, in a new block. -/
theorem O_appN {d es bytes : Nat} {s x : AOpd} {l : List AOper} {ys : List AVal} {b : Bool} (hs : s.ev e = some (.lst [] true)) (hx : x.ev e = some (.lst ys b)) (hy : ys.all (fun y => decide (y.width = es)) = true) (hne : ys.isEmpty = false) {n : Nat} (hl : ys.length = n)
    (hm : ys.length * bytes ≤ 140737488355328) (h : WO C l cs ((d, .gl H.length n) :: e) (H ++ [.grow es ys none]) Q) : WO C (⟨some d, .app es bytes false s x, none⟩ :: l) cs e H Q := by
  subst hl
  refine O_h rfl rfl rfl ?_ h
  simp only [evH, hs, hx, appendA, elemsOf, hy, if_true, hne, Bool.false_eq_true, if_false]
  rw [if_pos ⟨trivial, rfl, by simpa using hm⟩]
  simp [newAt]

/-- What is appended, if anything. -/
theorem O_appL {d es bytes o len : Nat} {s x : AOpd} {l : List AOper} {xs ys : List AVal} {b : Bool} (hs : s.ev e = some (.gl o len)) (hx : x.ev e = some (.lst ys b)) (hb : H[o]? = some (.grow es xs none)) (hl : len = xs.length)
    (hw : xs.all (fun y => decide (y.width = es)) = true) (hy : ys.all (fun y => decide (y.width = es)) = true) (hm : (xs.length + ys.length) * bytes ≤ 140737488355328) {H2 : Heap} (hH : H.set o (.grow es (xs ++ ys) none) = H2)
    (h : WO C l cs ((d, .gl o (xs.length + ys.length)) :: e) H2 Q) : WO C (⟨some d, .app es bytes false s x, none⟩ :: l) cs e H Q := by
  subst hH
  refine O_h rfl rfl rfl ?_ h
  simp only [evH, hs, hx, appendA, elemsOf, hy, if_true, hb]
  rw [if_pos ⟨hl, .inl trivial, hw⟩]
  cases ys with
  | nil =>
    have : H.set o (.grow es xs none) = H := by
      apply List.ext_getElem?
      intro j
      rw [List.getElem?_set]
      split
      · rename_i hj; subst hj; rw [hb]; rw [if_pos (List.getElem?_eq_some_iff.1 hb).1]
      · rfl
    simp [hl, this]
  | cons y ys =>
    simp only [List.isEmpty_cons, Bool.false_eq_true, if_false]
    rw [if_pos hm]

/-- An appended element. -/
theorem O_app {d es bytes o len es0 : Nat} {s x : AOpd} {l : List AOper} {xs ys : List AVal} {b : Bool} (hs : s.ev e = some (.gl o len)) (hx : x.ev e = some (.lst ys b)) (hb : H[o]? = some (.grow es0 xs none)) (hl : len = xs.length) (he : es0 = es ∨ es0 = 0)
    (hw : xs.all (fun y => decide (y.width = es)) = true) (hy : ys.all (fun y => decide (y.width = es)) = true) (hne : ys.isEmpty = false) (hm : (xs.length + ys.length) * bytes ≤ 140737488355328)
    (h : WO C l cs ((d, .gl o (xs.length + ys.length)) :: e) (H.set o (.grow es (xs ++ ys) none)) Q) : WO C (⟨some d, .app es bytes false s x, none⟩ :: l) cs e H Q := by
  refine O_h rfl rfl rfl ?_ h
  simp only [evH, hs, hx, appendA, elemsOf, hy, if_true, hb, hne, Bool.false_eq_true, if_false]
  rw [if_pos ⟨hl, he, hw⟩, if_pos hm]
end

theorem sameV_self : ∀ v, sameV v v = true := by
  intro v
  induction v using AVal.rec (motive_2 := fun vs => sameL vs vs = true) with
  | nil => rfl
  | cons v vs ih1 ih2 => simp [sameL, ih1, ih2]
  | _ => simp_all [sameV]

theorem sameL_self : ∀ vs, sameL vs vs = true
  | [] => rfl
  | v :: vs => by simp [sameL, sameV_self v, sameL_self vs]

theorem sameP_self : ∀ es, sameP es es = true
  | [] => rfl
  | (k, v) :: es => by simp [sameP, sameV_self, sameP_self es]

theorem sameB_self (b : Option ABlock) : sameB b b = true := by
  cases b with
  | none => rfl
  | some b => cases b <;> simp [sameB, sameL_self, sameP_self]

theorem lowB_mono {n m : Nat} (h : n ≤ m) {B : ABlock} (hb : lowB n B = true) : lowB m B = true := by
  cases B with
  | hole => rfl
  | dead => rfl
  | cells vs => exact (low_mono_both n m h).2 vs hb
  | grow es xs op => rfl
  | mp es =>
    simp only [lowB] at hb ⊢
    induction es with
    | nil => rfl
    | cons p r ih =>
      obtain ⟨k, v⟩ := p
      simp only [lowP, Bool.and_eq_true] at hb ⊢
      exact ⟨⟨low_mono h hb.1.1, low_mono h hb.1.2⟩, ih hb.2⟩

theorem lowH_cons {n : Nat} {b : ABlock} {r : Heap} (h : lowB n b = true) (h2 : lowH n r = true) : lowH n (b :: r) = true := by simp only [lowH, h, h2, Bool.and_self]

attribute [irreducible] WD WS

end Go.Ev
