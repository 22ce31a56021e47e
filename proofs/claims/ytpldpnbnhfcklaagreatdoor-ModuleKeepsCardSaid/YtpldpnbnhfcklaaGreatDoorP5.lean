/-
  Part 5 of a proof: ModuleKeeps: for every input the law returns true, and what it was given reads behind the call as before. No conditions beyond the row's own.
-/
import Derived.Test.YtpldpnbnhfcklaaGreatDoorP4
import Derived.KernelRfl
namespace Go.Ev
set_option linter.unusedVariables false
set_option linter.unusedSimpArgs false
open Go
section
variable {C : Ctx} {cs : List ACode} {e e' : Env} {H H' : Heap} {Q : Post}
theorem WL_one {c : ACode} : WL C [c] e H Q ↔ ∃ x e' H', evalCode C c e H = some (x, e', H') ∧ Q x e' H' := by
  rw [WL_iff]
  constructor
  · rintro ⟨x, e1, H1, h1, h2⟩
    refine ⟨x, e1, H1, h1, ?_⟩
    cases x with
    | norm => rw [WL_iff] at h2; exact h2
    | _ => exact h2
  · rintro ⟨x, e1, H1, h1, h2⟩
    refine ⟨x, e1, H1, h1, ?_⟩
    cases x with
    | norm => show WL C [] e1 H1 Q; rw [WL_iff]; exact h2
    | _ => exact h2
theorem WL_mono {Q' : Post} (hq : ∀ x e H, Q x e H → Q' x e H) : ∀ {cs : List ACode} {e : Env} {H : Heap}, WL C cs e H Q → WL C cs e H Q'
  | [], e, H, h => by rw [WL_iff] at h ⊢; exact hq _ _ _ h
  | c :: cs, e, H, h => by
    rw [WL_iff] at h ⊢
    obtain ⟨x, e1, H1, h1, h2⟩ := h
    refine ⟨x, e1, H1, h1, ?_⟩
    cases x with
    | norm => exact WL_mono hq h2
    | exit i => exact hq _ _ _ h2
    | ret => exact hq _ _ _ h2
    | pan v => exact hq _ _ _ h2
theorem WL_cut {c : ACode} (M : Env → Heap → Prop) (h1 : WL C [c] e H (fun x e H => match x with
    | .norm => M e H
    | x => Q x e H)) (h2 : ∀ e H, M e H → WL C cs e H Q) : WL C (c :: cs) e H Q := by
  rw [WL_one] at h1
  rw [WL_iff]
  obtain ⟨x, e1, H1, h3, h4⟩ := h1
  refine ⟨x, e1, H1, h3, ?_⟩
  cases x with
  | norm => exact h2 _ _ h4
  | _ => exact h4
def RndS {α : Type} (keep : List Nat) (n : Nat) (env : α → Env) (heap : α → Heap) (P : α → Prop) (m : α → Nat) (k : Nat) (Q : Post) : Post
  | .norm, e, H => ∃ s, restr e keep = env s ∧ trunc n (env s) H = heap s ∧ P s ∧ m s < k
  | x, e, H => Q x e H
theorem WL_for {α : Type} {keep : List Nat} {a : ACode} (env : α → Env) (heap : α → Heap) (P : α → Prop) (m : α → Nat) (s0 : α)
    (he : restr e keep = env s0) (hh : trunc H.length (env s0) H = heap s0) (hP : P s0) (hk : m s0 < C.fuel)
    (round : ∀ s, P s → WL C [a] (env s) (heap s) (RndS keep H.length env heap P m (m s) Q)) : WL C (.loop keep a :: cs) e H Q := by
  refine WL_loop (fun k e' H' => ∃ s, restr e' keep = env s ∧ trunc H.length (env s) H' = heap s ∧ P s ∧ m s = k) (m s0) hk ⟨s0, he, hh, hP, rfl⟩ ?_
  rintro k' e' H' _ ⟨s, h1, h2, h3, rfl⟩
  rw [h1, h2]
  refine WL_mono ?_ (round s h3)
  intro x e2 H2 hq
  cases x with
  | norm =>
    obtain ⟨s', k1, k2, k3, k4⟩ := hq
    exact ⟨m s', k4, s', k1, k2, k3, rfl⟩
  | _ => exact hq
theorem trunc_id {n : Nat} {e : Env} {H : Heap} (h : H.length ≤ n) : trunc n e H = H := by simp [trunc, h]
def RndV {α : Type} (keep : List Nat) (n : Nat) (cst : Env) (var : α → Env) (hc : Heap) (hv : α → Heap) (P : α → Prop) (m : α → Nat) (k : Nat) (Q : Post) : Post
  | .norm, e, H => ∃ s, restr e keep = var s ++ cst ∧ trunc n (var s ++ cst) H = hc ++ hv s ∧ P s ∧ m s < k
  | x, e, H => Q x e H
theorem WL_forv {α : Type} {keep : List Nat} {a : ACode} {cst : Env} {hc : Heap} (var : α → Env) (hv : α → Heap) (P : α → Prop) (m : α → Nat) (s0 : α)
    (he : restr e keep = var s0 ++ cst) (hh : H = hc ++ hv s0) (hP : P s0) (hk : m s0 < C.fuel)
    (round : ∀ s, P s → WL C [a] (var s ++ cst) (hc ++ hv s) (RndV keep H.length cst var hc hv P m (m s) Q)) : WL C (.loop keep a :: cs) e H Q :=
  WL_for (fun s => var s ++ cst) (fun s => hc ++ hv s) P m s0 he ((trunc_id (Nat.le_refl _)).trans hh) hP hk round
theorem RndV_norm {α : Type} {keep : List Nat} {n : Nat} {cst : Env} {var : α → Env} {hc : Heap} {hv : α → Heap} {P : α → Prop} {m : α → Nat} {k : Nat} (s : α) (h3 : P s) (h4 : m s < k) (h1 : restr e keep = var s ++ cst) (h2 : trunc n (var s ++ cst) H = hc ++ hv s) : RndV keep n cst var hc hv P m k Q .norm e H :=
  ⟨s, h1, h2, h3, h4⟩
theorem RndV_exit {α : Type} {keep : List Nat} {n : Nat} {cst : Env} {var : α → Env} {hc : Heap} {hv : α → Heap} {P : α → Prop} {m : α → Nat} {k i : Nat} (h : Q (.exit i) e H) : RndV keep n cst var hc hv P m k Q (.exit i) e H := h
def RndC {α : Type} (keep : List Nat) (n : Nat) (cst : Env) (var : α → Env) (hc : Heap) (P : α → Prop) (m : α → Nat) (k : Nat) (Q : Post) : Post
  | .norm, e, H => ∃ s, restr e keep = var s ++ cst ∧ trunc n (var s ++ cst) H = hc ∧ P s ∧ m s < k
  | x, e, H => Q x e H
theorem WL_forc {α : Type} {keep : List Nat} {a : ACode} {cst : Env} (var : α → Env) (P : α → Prop) (m : α → Nat) (s0 : α)
    (he : restr e keep = var s0 ++ cst) (hP : P s0) (hk : m s0 < C.fuel)
    (round : ∀ s, P s → WL C [a] (var s ++ cst) H (RndC keep H.length cst var H P m (m s) Q)) : WL C (.loop keep a :: cs) e H Q :=
  WL_for (fun s => var s ++ cst) (fun s => H) P m s0 he (trunc_id (Nat.le_refl _)) hP hk round
theorem RndC_norm {α : Type} {keep : List Nat} {n : Nat} {cst : Env} {var : α → Env} {hc : Heap} {P : α → Prop} {m : α → Nat} {k : Nat} (s : α) (h3 : P s) (h4 : m s < k) (h1 : restr e keep = var s ++ cst) (h2 : trunc n (var s ++ cst) H = hc) : RndC keep n cst var hc P m k Q .norm e H :=
  ⟨s, h1, h2, h3, h4⟩
theorem RndC_exit {α : Type} {keep : List Nat} {n : Nat} {cst : Env} {var : α → Env} {hc : Heap} {P : α → Prop} {m : α → Nat} {k i : Nat} (h : Q (.exit i) e H) : RndC keep n cst var hc P m k Q (.exit i) e H := h
theorem RndC_ret {α : Type} {keep : List Nat} {n : Nat} {cst : Env} {var : α → Env} {hc : Heap} {P : α → Prop} {m : α → Nat} {k : Nat} (h : Q .ret e H) : RndC keep n cst var hc P m k Q .ret e H := h
def junk : List Nat → List AVal → Env → Env
  | k :: ks, v :: vs, e => junk ks vs ((k, v) :: e)
  | _, _, e => e
def bare (k : Nat) (w : Bool) : List Nat → List AOper → Option (List AOper × List Nat)
  | _, [] => some ([], [])
  | seen, ⟨some d, op, some (k', w')⟩ :: r =>
    if Nat.beq d k then none
    else if Nat.beq k' k && (w' == w) then match bare k w (d :: seen) r with
      | some (l, ks) => some (⟨some d, op, none⟩ :: l, d :: ks)
      | none => none
    else if !notIn k' seen && !Nat.beq k' k then match bare k w (d :: seen) r with
      | some (l, ks) => some (⟨some d, op, some (k', w')⟩ :: l, d :: ks)
      | none => none
    else none
  | _, _ => none
theorem y0i {e : Env} {d k : Nat} {v : AVal} (h : d ≠ k) : Env.get ((d, v) :: e) k = e.get k := by simp [Env.get, h]
theorem y2e {b : Nat} : ∀ {l : List Nat}, notIn b l = false → b ∈ l
  | [], h => by simp [notIn] at h
  | x :: xs, h => by
    simp only [notIn, Bool.and_eq_false_iff, Bool.not_eq_false'] at h
    rcases h with h | h
    · rw [Nat.eq_of_beq_eq_true h]; exact List.mem_cons_self
    · exact List.mem_cons_of_mem _ (y2e h)
theorem bare_off {k : Nat} {w b : Bool} (hb : b ≠ w) : ∀ {blk l : List AOper} {ks seen : List Nat} {e : Env} {r : List AOper} {H : Heap}, bare k w seen blk = some (l, ks) → e.get k = some (.bool b) → (∀ d, d ∈ seen → e.get d = some undefA) →
    ∃ vs, vs.length = ks.length ∧ evalOps C (blk ++ r) e H = evalOps C r (junk ks vs e) H ∧ (junk ks vs e).get k = some (.bool b)
  | [], l, ks, seen, e, r, H, h, hk, hs => by
    simp only [bare, Option.some.injEq, Prod.mk.injEq] at h
    obtain ⟨rfl, rfl⟩ := h
    exact ⟨[], rfl, rfl, hk⟩
  | o :: blk, l, ks, seen, e, r, H, h, hk, hs => by
    obtain ⟨d, op, g⟩ := o
    cases d with
    | none => simp [bare] at h
    | some d =>
      cases g with
      | none => simp [bare] at h
      | some g =>
        obtain ⟨k', w'⟩ := g
        simp only [bare] at h
        split at h <;> first | (cases h; done) | skip
        rename_i hd
        have hdk : d ≠ k := by intro hh; subst hh; simp at hd
        have hseen : ∀ c, c ∈ d :: seen → Env.get ((d, undefA) :: e) c = some undefA := by
          intro c hc
          by_cases hcd : d = c
          · subst hcd; simp [Env.get]
          · rw [y0i hcd]
            rcases List.mem_cons.1 hc with h1 | h1
            · exact absurd h1.symm hcd
            · exact hs c h1
        split at h
        · rename_i hc
          simp only [Bool.and_eq_true, beq_iff_eq] at hc
          split at h <;> first | (cases h; done) | skip
          rename_i l' ks' hr
          simp only [Option.some.injEq, Prod.mk.injEq] at h
          obtain ⟨rfl, rfl⟩ := h
          have e1 := Nat.eq_of_beq_eq_true hc.1
          have e2 := hc.2
          subst e1 e2
          obtain ⟨vs, h1, h2, h3⟩ := bare_off hb (e := (d, undefA) :: e) (r := r) (H := H) hr (by rw [y0i hdk]; exact hk) hseen
          refine ⟨undefA :: vs, by simp [h1], ?_, h3⟩
          have hbw : (b == w') = false := by simpa using hb
          simp only [List.cons_append, evalOps, wantedA, hk, hbw, Env.put]
          exact h2
        · split at h <;> first | (cases h; done) | skip
          rename_i hc
          simp only [Bool.and_eq_true, Bool.not_eq_true'] at hc
          split at h <;> first | (cases h; done) | skip
          rename_i l' ks' hr
          simp only [Option.some.injEq, Prod.mk.injEq] at h
          obtain ⟨rfl, rfl⟩ := h
          obtain ⟨vs, h1, h2, h3⟩ := bare_off hb (e := (d, undefA) :: e) (r := r) (H := H) hr (by rw [y0i hdk]; exact hk) hseen
          refine ⟨undefA :: vs, by simp [h1], ?_, h3⟩
          have := hs k' (y2e hc.1)
          simp only [undefA] at this
          simp only [List.cons_append, evalOps, wantedA, this, Env.put]
          exact h2
theorem bare_on {k : Nat} {w : Bool} : ∀ {blk l : List AOper} {ks seen : List Nat} {e e1 : Env} {r : List AOper} {H H1 : Heap}, bare k w seen blk = some (l, ks) → e.get k = some (.bool w) → evalOps C l e H = some (.norm, e1, H1) →
    ∃ vs, vs.length = ks.length ∧ evalOps C (blk ++ r) e H = evalOps C r (junk ks vs e) H1 ∧ (junk ks vs e).get k = some (.bool w) ∧ e1 = junk ks vs e
  | [], l, ks, seen, e, e1, r, H, H1, h, hk, hl => by
    simp only [bare, Option.some.injEq, Prod.mk.injEq] at h
    obtain ⟨rfl, rfl⟩ := h
    simp only [evalOps, Option.some.injEq, Prod.mk.injEq, true_and] at hl
    obtain ⟨rfl, rfl⟩ := hl
    exact ⟨[], rfl, rfl, hk, rfl⟩
  | o :: blk, l, ks, seen, e, e1, r, H, H1, h, hk, hl => by
    obtain ⟨d, op, g⟩ := o
    cases d with
    | none => simp [bare] at h
    | some d =>
      cases g with
      | none => simp [bare] at h
      | some g =>
        obtain ⟨k', w'⟩ := g
        simp only [bare] at h
        split at h <;> first | (cases h; done) | skip
        rename_i hd
        have hdk : d ≠ k := by intro hh; subst hh; simp at hd
        split at h
        · rename_i hc
          simp only [Bool.and_eq_true, beq_iff_eq] at hc
          split at h <;> first | (cases h; done) | skip
          rename_i l' ks' hr
          simp only [Option.some.injEq, Prod.mk.injEq] at h
          obtain ⟨rfl, rfl⟩ := h
          have e1 := Nat.eq_of_beq_eq_true hc.1
          have e2 := hc.2
          subst e1 e2
          simp only [evalOps, wantedA] at hl
          split at hl
          · rename_i v H2 hv
            obtain ⟨vs, h1, h2, h3, h4⟩ := bare_on (e := (d, v) :: e) (r := r) hr (by rw [y0i hdk]; exact hk) hl
            refine ⟨v :: vs, by simp [h1], ?_, h3, h4⟩
            simp only [List.cons_append, evalOps, wantedA, hk, beq_self_eq_true, hv, Env.put]
            exact h2
          · simp at hl
          · cases hl
        · split at h <;> first | (cases h; done) | skip
          rename_i hc
          split at h <;> first | (cases h; done) | skip
          rename_i l' ks' hr
          simp only [Option.some.injEq, Prod.mk.injEq] at h
          obtain ⟨rfl, rfl⟩ := h
          simp only [evalOps] at hl
          split at hl
          · rename_i hw
            split at hl
            · rename_i v H2 hv
              obtain ⟨vs, h1, h2, h3, h4⟩ := bare_on (e := (d, v) :: e) (r := r) hr (by rw [y0i hdk]; exact hk) hl
              refine ⟨v :: vs, by simp [h1], ?_, h3, h4⟩
              simp only [List.cons_append, evalOps, hw, hv, Env.put]
              exact h2
            · simp at hl
            · cases hl
          · rename_i hw
            obtain ⟨vs, h1, h2, h3, h4⟩ := bare_on (e := (d, undefA) :: e) (r := r) hr (by rw [y0i hdk]; exact hk) hl
            refine ⟨undefA :: vs, by simp [h1], ?_, h3, h4⟩
            simp only [List.cons_append, evalOps, hw, Env.put]
            exact h2
          · cases hl
theorem O_and (blk : List AOper) {k s d : Nat} {b f : Bool} {l r : List AOper} {ks : List Nat} (hb : bare k true [] blk = some (l, ks)) (hk : e.get k = some (.bool b))
    (hT : b = true → WO C l [] e H (fun x e1 H1 => x = .norm ∧ H1 = H ∧ e1.get s = some (.bool f)))
    (h : ∀ vs, vs.length = ks.length → WO C r cs ((d, .bool (b && f)) :: junk ks vs e) H Q) : WO C (blk ++ ⟨some d, .pick (.t k) (.t s) (.c (.bool false)), none⟩ :: r) cs e H Q := by
  rw [WO_iff] at hT ⊢
  simp only [WO_iff] at h
  cases b with
  | false =>
    obtain ⟨vs, h1, h2, h3⟩ := bare_off (C := C) (w := true) (b := false) (by simp) (r := ⟨some d, .pick (.t k) (.t s) (.c (.bool false)), none⟩ :: r) (H := H) hb hk (by simp)
    obtain ⟨x, e', H', h4, h5⟩ := h vs h1
    refine ⟨x, e', H', ?_, h5⟩
    rw [h2]
    simp only [evalOps, wantedA, evalOp, AOp.kind, evP, AOpd.ev, h3, okv, Env.put]
    exact h4
  | true =>
    obtain ⟨x, e1, H1, h4, h5⟩ := hT rfl
    have h5' : x = .norm ∧ H1 = H ∧ e1.get s = some (.bool f) := by
      cases x with
      | norm => rw [WL_iff] at h5; exact h5
      | _ => exact h5
    obtain ⟨rfl, rfl, h6⟩ := h5'
    obtain ⟨vs, h1, h2, h3, h7⟩ := bare_on (C := C) (w := true) (r := ⟨some d, .pick (.t k) (.t s) (.c (.bool false)), none⟩ :: r) hb hk h4
    obtain ⟨x, e', H', h8, h9⟩ := h vs h1
    refine ⟨x, e', H', ?_, h9⟩
    rw [h2]
    subst h7
    simp only [evalOps, wantedA, evalOp, AOp.kind, evP, AOpd.ev, h3, h6, okv, Env.put]
    exact h8
theorem O_or (blk : List AOper) {k s d : Nat} {b f : Bool} {l r : List AOper} {ks : List Nat} (hb : bare k false [] blk = some (l, ks)) (hk : e.get k = some (.bool b))
    (hT : b = false → WO C l [] e H (fun x e1 H1 => x = .norm ∧ H1 = H ∧ e1.get s = some (.bool f)))
    (h : ∀ vs, vs.length = ks.length → WO C r cs ((d, .bool (b || f)) :: junk ks vs e) H Q) : WO C (blk ++ ⟨some d, .pick (.t k) (.c (.bool true)) (.t s), none⟩ :: r) cs e H Q := by
  rw [WO_iff] at hT ⊢
  simp only [WO_iff] at h
  cases b with
  | true =>
    obtain ⟨vs, h1, h2, h3⟩ := bare_off (C := C) (w := false) (b := true) (by simp) (r := ⟨some d, .pick (.t k) (.c (.bool true)) (.t s), none⟩ :: r) (H := H) hb hk (by simp)
    obtain ⟨x, e', H', h4, h5⟩ := h vs h1
    refine ⟨x, e', H', ?_, h5⟩
    rw [h2]
    simp only [evalOps, wantedA, evalOp, AOp.kind, evP, AOpd.ev, h3, okv, Env.put]
    exact h4
  | false =>
    obtain ⟨x, e1, H1, h4, h5⟩ := hT rfl
    have h5' : x = .norm ∧ H1 = H ∧ e1.get s = some (.bool f) := by
      cases x with
      | norm => rw [WL_iff] at h5; exact h5
      | _ => exact h5
    obtain ⟨rfl, rfl, h6⟩ := h5'
    obtain ⟨vs, h1, h2, h3, h7⟩ := bare_on (C := C) (w := false) (r := ⟨some d, .pick (.t k) (.c (.bool true)) (.t s), none⟩ :: r) hb hk h4
    obtain ⟨x, e', H', h8, h9⟩ := h vs h1
    refine ⟨x, e', H', ?_, h9⟩
    rw [h2]
    subst h7
    simp only [evalOps, wantedA, evalOp, AOp.kind, evP, AOpd.ev, h3, h6, okv, Env.put]
    exact h8
def WD (C : Ctx) (base : Nat) (l : List (AOper × Nat × List Nat)) (acc : List Foot) (e : Env) (H : Heap) (K : List Foot → Env → Heap → Prop) : Prop :=
  ∃ fs e' H', runD C base l e H = some (fs, e', H') ∧ K (acc ++ fs) e' H'
theorem WL_draw {m : Nat} {l : List (AOper × Nat × List Nat)} (h : WD C H.length l [] e (H ++ List.replicate m .hole) (fun fs e' H' => okFs fs 0 l fs = true ∧ WL C cs e' H' Q)) : WL C (.draw m l :: cs) e H Q := by
  obtain ⟨fs, e1, H1, h1, h2, h3⟩ := h
  rw [WL_iff]
  refine ⟨.norm, e1, H1, ?_, h3⟩
  rw [List.nil_append] at h2
  simp only [evalCode, evalDraw, h1, h2, if_true]
theorem WL_draw0 {l : List (AOper × Nat × List Nat)} (h : WD C H.length l [] e H (fun fs e' H' => okFs fs 0 l fs = true ∧ WL C cs e' H' Q)) : WL C (.draw 0 l :: cs) e H Q := by
  refine WL_draw ?_
  rw [show H ++ List.replicate 0 ABlock.hole = H by simp]
  exact h
section
variable {base : Nat} {l : List (AOper × Nat × List Nat)} {acc : List Foot} {K : List Foot → Env → Heap → Prop}
theorem WD_nil (h : K acc e H) : WD C base [] acc e H K := ⟨[], e, H, rfl, by rw [List.append_nil]; exact h⟩
theorem WD_step {o : AOper} {j : Nat} {ds : List Nat} {f : Foot} {v : AVal} (hv : stepV C base o j e H = some (f, v, H')) (h : WD C base l (acc ++ [f]) (e.put o.dst v) H' K) : WD C base ((o, j, ds) :: l) acc e H K := by
  obtain ⟨fs, e1, H1, h1, h2⟩ := h
  refine ⟨f :: fs, e1, H1, by simp only [runD, hv, h1], ?_⟩
  rw [List.append_assoc] at h2
  exact h2
theorem D_p {d : Nat} {op : AOp} {g : Option (Nat × Bool)} {j : Nat} {ds : List Nat} {v : AVal} (hk : op.kind = .pure) (hg : wantedA e g = some true) (hv : evP e op = some v) (h : WD C base l (acc ++ [.io [] []]) ((d, v) :: e) H K) : WD C base ((⟨some d, op, g⟩, j, ds) :: l) acc e H K := by
  refine WD_step (f := .io [] []) (v := v) (H' := H) ?_ h
  simp [stepV, hg, hk, evalOp, hv, okv, footA]
theorem D_h {d : Option Nat} {op : AOp} {g : Option (Nat × Bool)} {j : Nat} {ds : List Nat} {v : AVal} {r w : List Nat} (hc : op.isCall = false) (hk : op.kind = .heap) (hg : wantedA e g = some true) (hf : footH e H op = some (r, w)) (hv : evH C e (base + j) H op = some (.ok v, H'))
    (h : WD C base l (acc ++ [.io r w]) (e.put d v) H' K) : WD C base ((⟨d, op, g⟩, j, ds) :: l) acc e H K := by
  refine WD_step (f := .io r w) (v := v) (H' := H') ?_ h
  simp [stepV, hg, hk, evalOp, hv, footA, hf]
end
inductive F2 {α β : Type} (R : α → β → Prop) : List α → List β → Prop
  | nil : F2 R [] []
  | cons {a : α} {b : β} {as : List α} {bs : List β} : R a b → F2 R as bs → F2 R (a :: as) (b :: bs)
theorem F2.len {α β : Type} {R : α → β → Prop} {as : List α} {bs : List β} (h : F2 R as bs) : as.length = bs.length := by
  induction h with
  | nil => rfl
  | cons _ _ ih => simp [ih]
theorem F2.snoc {α β : Type} {R : α → β → Prop} {as : List α} {bs : List β} {a : α} {b : β} (h : F2 R as bs) (hr : R a b) : F2 R (as ++ [a]) (bs ++ [b]) := by
  induction h with
  | nil => exact .cons hr .nil
  | cons h _ ih => exact .cons h ih
def noId (op : AOp) : Bool := match op with
  | .app _ _ _ _ _ => false
  | .appz _ _ _ _ _ => false
  | op => !decide (op.kind = .new)
theorem noId_ev {e : Env} {H : Heap} {op : AOp} (h : noId op = true) (id id' : Nat) : evalOp C e id H op = evalOp C e id' H op := by
  cases op <;> first | rfl | (simp [noId, AOp.kind] at h; done)
def rdr (op : AOp) : Bool := match op with
  | .lds _ | .lda _ _ | .ia _ _ _ | .len _ _ | .cap _ => true
  | op => decide (op.kind = .pure)
def y1r (deps : List Nat) (isr : Bool) : Nat → List (AOper × Nat × List Nat) → Bool
  | _, [] => true
  | o, p :: ps => ((rdr p.1.op && isr) || !notIn o deps) && y1r deps isr (o + 1) ps
def statOk : List (AOper × Nat × List Nat) → List (AOper × Nat × List Nat) → Bool
  | _, [] => true
  | pre, p :: ps => noId p.1.op && Nat.beq p.2.1 0 && y1r p.2.2 (rdr p.1.op) 0 pre && statOk (pre ++ [p]) ps
def readF (p : AOper × Nat × List Nat) (f : Foot) : Prop := rdr p.1.op = true → ∃ r, f = .io r []
theorem footH_rdr {e : Env} {H : Heap} {op : AOp} (hr : rdr op = true) (hk : op.kind = .heap) : ∃ r, footH e H op = some (r, []) := by
  cases op <;> simp only [rdr, AOp.kind, reduceCtorEq, decide_false, Bool.false_eq_true] at hr hk
  all_goals simp only [footH]
  all_goals (try split) <;> exact ⟨_, rfl⟩
theorem stepV_seq {base : Nat} {p : AOper × Nat × List Nat} {v : AVal} (hb : base = H.length ∨ True) (hn : p.1.op.kind ≠ .new) (hw : wantedA e p.1.guard = some true) (hv : ∀ id, evalOp C e id H p.1.op = some (.ok v, H')) :
    ∃ f, stepV C base p.1 p.2.1 e H = some (f, v, H') ∧ readF p f := by
  refine ⟨footA e (base + p.2.1) H H' p.1.op, ?_, ?_⟩
  · simp [stepV, hw, hn, hv]
  · intro hr
    unfold footA
    cases hk : p.1.op.kind with
    | pure => exact ⟨[], rfl⟩
    | new => exact absurd hk hn
    | heap =>
      obtain ⟨r, h⟩ := footH_rdr (e := e) (H := H) hr hk
      simp only [h]
      exact ⟨r, rfl⟩
theorem y2l {deps : List Nat} {p : AOper × Nat × List Nat} {f : Foot} (hf : readF p f) : ∀ {pre : List (AOper × Nat × List Nat)} {gs : List Foot} {o : Nat}, F2 readF pre gs → y1r deps (rdr p.1.op) o pre = true → okEarlier deps f o gs = true
  | [], _, o, .nil, h => rfl
  | q :: pre, g :: gs, o, .cons hq hr, h => by
    simp only [y1r, Bool.and_eq_true, Bool.or_eq_true] at h
    simp only [okEarlier, Bool.and_eq_true, Bool.or_eq_true]
    refine ⟨?_, y2l hf hr h.2⟩
    rcases h.1 with h1 | h1
    · obtain ⟨r, rfl⟩ := hq h1.1
      obtain ⟨r', rfl⟩ := hf h1.2
      exact .inl rfl
    · exact .inr h1
theorem runD_seq {base : Nat} : ∀ {l pre : List (AOper × Nat × List Nat)} {gs : List Foot} {e e' : Env} {H H' : Heap}, statOk pre l = true → F2 readF pre gs → evalOps C (l.map (·.1)) e H = some (.norm, e', H') →
    ∃ fs, runD C base l e H = some (fs, e', H') ∧ ∀ all, all = gs ++ fs → okFs all pre.length l fs = true
  | [], pre, gs, e, e', H, H', _, _, h => by
    simp only [List.map_nil, evalOps, Option.some.injEq, Prod.mk.injEq, true_and] at h
    obtain ⟨rfl, rfl⟩ := h
    exact ⟨[], rfl, fun _ _ => rfl⟩
  | p :: l, pre, gs, e, e', H, H', hs, hg, h => by
    simp only [statOk, Bool.and_eq_true] at hs
    obtain ⟨⟨⟨s0, s2⟩, s3⟩, s4⟩ := hs
    have s1 : p.1.op.kind ≠ .new := by
      intro hk
      cases hop : p.1.op <;> rw [hop] at s0 hk <;> simp [noId, AOp.kind] at s0 hk
    have hlen : pre.length = gs.length := hg.len
    have fin : ∀ (f : Foot) (v : AVal) (H1 : Heap), stepV C base p.1 p.2.1 e H = some (f, v, H1) → readF p f → evalOps C (l.map (·.1)) (e.put p.1.dst v) H1 = some (.norm, e', H') →
        ∃ fs, runD C base (p :: l) e H = some (fs, e', H') ∧ ∀ all, all = gs ++ fs → okFs all pre.length (p :: l) fs = true := by
      intro f v H1 h1 h2 h3
      have hg2 : F2 readF (pre ++ [p]) (gs ++ [f]) := hg.snoc h2
      obtain ⟨fs, k1, k2⟩ := runD_seq (base := base) s4 hg2 h3
      refine ⟨f :: fs, by simp only [runD, h1, k1], ?_⟩
      rintro all rfl
      simp only [okFs, Bool.and_eq_true]
      refine ⟨?_, ?_⟩
      · rw [hlen, List.take_left]
        exact y2l h2 hg s3
      · have := k2 (gs ++ f :: fs) (by simp)
        simpa using this
    simp only [List.map_cons, evalOps] at h
    split at h
    · rename_i hw
      split at h
      · rename_i v H1 hv
        have hv' : ∀ id, evalOp C e id H p.1.op = some (.ok v, H1) := by
          intro id
          rw [noId_ev s0 id H.length]; exact hv
        obtain ⟨f, h1, h2⟩ := stepV_seq (base := base) (p := p) (.inr trivial) s1 hw hv'
        exact fin f v H1 h1 h2 h
      · simp at h
      · cases h
    · rename_i hw
      refine fin (.io [] []) undefA H ?_ (fun _ => ⟨[], rfl⟩) h
      simp [stepV, hw]
    · cases h
theorem WL_drawS {l : List (AOper × Nat × List Nat)} {ops : List AOper} (hs : statOk [] l = true) (ho : l.map (·.1) = ops) (h : WO C ops [] e H (fun x e' H' => x = .norm ∧ WL C cs e' H' Q)) : WL C (.draw 0 l :: cs) e H Q := by
  subst ho
  rw [WO_iff] at h
  obtain ⟨x, e1, H1, h1, h2⟩ := h
  have h2' : x = .norm ∧ WL C cs e1 H1 Q := by
    cases x with
    | norm => rw [WL_iff] at h2; exact h2
    | _ => exact h2
  obtain ⟨rfl, h3⟩ := h2'
  obtain ⟨fs, k1, k2⟩ := runD_seq (base := H.length) (gs := []) hs .nil h1
  rw [WL_iff]
  refine ⟨.norm, e1, H1, ?_, h3⟩
  simp only [evalCode, evalDraw, List.replicate_zero, List.append_nil, k1, k2 fs rfl, List.length_nil, if_true]
  exact if_pos (k2 fs rfl)
def rdrI (imp : List Nat) (o : AOper) : Bool := rdr o.op || (o.op.isCall && match o.dst with
  | some d => notIn d imp
  | none => false)
def y1i (imp : List Nat) (deps : List Nat) (isr : Bool) : Nat → List (AOper × Nat × List Nat) → Bool
  | _, [] => true
  | o, p :: ps => (!notIn o deps || (rdrI imp p.1 && isr)) && y1i imp deps isr (o + 1) ps
def statOkI (imp : List Nat) : List (AOper × Nat × List Nat) → List (AOper × Nat × List Nat) → Bool
  | _, [] => true
  | pre, p :: ps => noId p.1.op && y1i imp p.2.2 (rdrI imp p.1) 0 pre && statOkI imp (pre ++ [p]) ps
def readI (imp : List Nat) (p : AOper × Nat × List Nat) (f : Foot) : Prop := rdrI imp p.1 = true → ∃ r, f = .io r []
def WS (imp : List Nat) (C : Ctx) (l : List (AOper × Nat × List Nat)) (e : Env) (H : Heap) (K : Env → Heap → Prop) : Prop :=
  ∃ e' H', K e' H' ∧ ∀ base, ∃ fs, runD C base l e H = some (fs, e', H') ∧ F2 (readI imp) l fs
theorem y2a {imp deps : List Nat} {p : AOper × Nat × List Nat} {f : Foot} (hf : readI imp p f) : ∀ {pre : List (AOper × Nat × List Nat)} {gs : List Foot} {o : Nat}, F2 (readI imp) pre gs → y1i imp deps (rdrI imp p.1) o pre = true → okEarlier deps f o gs = true
  | [], _, o, .nil, h => rfl
  | q :: pre, g :: gs, o, .cons hq hr, h => by
    simp only [y1i, Bool.and_eq_true, Bool.or_eq_true] at h
    simp only [okEarlier, Bool.and_eq_true, Bool.or_eq_true]
    refine ⟨?_, y2a hf hr h.2⟩
    rcases h.1 with h1 | h1
    · exact .inr h1
    · obtain ⟨r, rfl⟩ := hq h1.1
      obtain ⟨r', rfl⟩ := hf h1.2
      exact .inl rfl
theorem okFs_I {imp : List Nat} : ∀ {l pre : List (AOper × Nat × List Nat)} {gs fs : List Foot}, statOkI imp pre l = true → F2 (readI imp) pre gs → F2 (readI imp) l fs → okFs (gs ++ fs) pre.length l fs = true
  | [], pre, gs, _, _, _, .nil => rfl
  | p :: l, pre, gs, f :: fs, hs, hg, .cons hf hr => by
    simp only [statOkI, Bool.and_eq_true] at hs
    simp only [okFs, Bool.and_eq_true]
    refine ⟨?_, ?_⟩
    · rw [hg.len, List.take_left]
      exact y2a hf hg hs.1.2
    · have := okFs_I (gs := gs ++ [f]) hs.2 (hg.snoc hf) hr
      simpa using this
theorem WL_drawT (imp : List Nat) {l : List (AOper × Nat × List Nat)} (hs : statOkI imp [] l = true) (h : WS imp C l e H (fun e' H' => WL C cs e' H' Q)) : WL C (.draw 0 l :: cs) e H Q := by
  obtain ⟨e1, H1, h1, h2⟩ := h
  obtain ⟨fs, h3, h4⟩ := h2 H.length
  have h5 := okFs_I hs .nil h4
  rw [List.nil_append] at h5
  rw [WL_iff]
  refine ⟨.norm, e1, H1, ?_, h1⟩
  simp only [evalCode, evalDraw, List.replicate_zero, List.append_nil, h3]
  exact if_pos h5
section
variable {imp : List Nat} {l : List (AOper × Nat × List Nat)} {K : Env → Heap → Prop}
theorem WS_nil (h : K e H) : WS imp C [] e H K := ⟨e, H, h, fun _ => ⟨[], rfl, .nil⟩⟩
theorem WS_step {o : AOper} {j : Nat} {ds : List Nat} {v : AVal} (hv : ∀ base, ∃ f, stepV C base o j e H = some (f, v, H') ∧ readI imp (o, j, ds) f) (h : WS imp C l (e.put o.dst v) H' K) : WS imp C ((o, j, ds) :: l) e H K := by
  obtain ⟨e1, H1, h1, h2⟩ := h
  refine ⟨e1, H1, h1, fun base => ?_⟩
  obtain ⟨f, h3, h4⟩ := hv base
  obtain ⟨fs, h5, h6⟩ := h2 base
  exact ⟨f :: fs, by simp only [runD, h3, h5], .cons h4 h6⟩
theorem S_p {d : Nat} {op : AOp} {g : Option (Nat × Bool)} {j : Nat} {ds : List Nat} {v : AVal} (hk : op.kind = .pure) (hg : wantedA e g = some true) (hv : evP e op = some v) (h : WS imp C l ((d, v) :: e) H K) : WS imp C ((⟨some d, op, g⟩, j, ds) :: l) e H K :=
  WS_step (fun base => ⟨.io [] [], by simp [stepV, hg, hk, evalOp, hv, okv, footA], fun _ => ⟨[], rfl⟩⟩) h
theorem S_h {d : Option Nat} {op : AOp} {g : Option (Nat × Bool)} {j : Nat} {ds : List Nat} {v : AVal} (hn : noId op = true) (hc : op.isCall = false) (hk : op.kind = .heap) (hg : wantedA e g = some true) (hv : evH C e H.length H op = some (.ok v, H'))
    (h : WS imp C l (e.put d v) H' K) : WS imp C ((⟨d, op, g⟩, j, ds) :: l) e H K := by
  refine WS_step (v := v) (H' := H') (fun base => ?_) h
  have h1 : evalOp C e (base + j) H op = some (.ok v, H') := by
    rw [noId_ev hn _ H.length]; simp only [evalOp, hk, hv]
  refine ⟨footA e (base + j) H H' op, by simp [stepV, hg, hk, h1], ?_⟩
  intro hr
  simp only [rdrI, hc, Bool.false_and, Bool.or_false] at hr
  obtain ⟨r, hf⟩ := footH_rdr (e := e) (H := H) hr hk
  simp only [footA, hk, hf]
  exact ⟨r, rfl⟩
theorem S_ia {d es j : Nat} {ds : List Nat} {x i : AOpd} {xs : List AVal} {b : Bool} {k : IntKind} {n : Int} {y : AVal} {cells : List AVal} (hx : x.ev e = some (.lst xs b)) (hi : i.ev e = some (.int k n)) (h0 : 0 ≤ n) (hy : xs[n.toNat]? = some y) (hf : y.flat = cells) (hw : cells.length = es)
    (h : WS imp C l ((d, .ro cells) :: e) H K) : WS imp C ((⟨some d, .ia es x i, none⟩, j, ds) :: l) e H K := by
  refine S_h (d := some d) rfl rfl rfl rfl (v := .ro cells) ?_ h
  simp [evH, hx, hi, h0, hy, AVal.width, hf, hw]
theorem S_c {d : Nat} {g : Option (Nat × Bool)} {j : Nat} {ds : List Nat} (f : FuncId) {args : List AOpd} {vs as : List AVal} {v : AVal} (hg : wantedA e g = some true) (hvs : evs e args = some vs) (hs : shutL H vs = some as) (hv : callA C false f vs H = some (.ok v, H))
    (h : WS imp C l ((d, v) :: e) H K) : WS imp C ((⟨some d, .call false f args, g⟩, j, ds) :: l) e H K :=
  WS_step (v := v) (H' := H) (fun base => ⟨.io (glsL vs) [], by simp [stepV, hg, AOp.kind, evalOp, evH, hvs, hv, footA, footH, footArgs, hs], fun _ => ⟨_, rfl⟩⟩) h
theorem S_ci {d : Nat} {g : Option (Nat × Bool)} {j : Nat} {ds : List Nat} {raw : Bool} (f : FuncId) {args : List AOpd} {vs : List AVal} {v : AVal} (hi : notIn d imp = false) (hg : wantedA e g = some true) (hvs : evs e args = some vs) (hv : callA C raw f vs H = some (.ok v, H'))
    (h : WS imp C l ((d, v) :: e) H' K) : WS imp C ((⟨some d, .call raw f args, g⟩, j, ds) :: l) e H K := by
  refine WS_step (v := v) (H' := H') (fun base => ⟨_, by simp [stepV, hg, AOp.kind, evalOp, evH, hvs, hv]; rfl, ?_⟩) h
  intro hr
  simp [rdrI, rdr, AOp.kind, AOp.isCall, hi] at hr
end
theorem O_ia {d es : Nat} {x i : AOpd} {l : List AOper} {xs : List AVal} {b : Bool} {k : IntKind} {n : Int} {y : AVal} {cells : List AVal} (hx : x.ev e = some (.lst xs b)) (hi : i.ev e = some (.int k n)) (h0 : 0 ≤ n) (hy : xs[n.toNat]? = some y) (hf : y.flat = cells) (hw : cells.length = es)
    (h : WO C l cs ((d, .ro cells) :: e) H Q) : WO C (⟨some d, .ia es x i, none⟩ :: l) cs e H Q := by
  refine O_h rfl rfl rfl ?_ h
  simp only [evH, hx, hi, h0, if_true, hy, AVal.width, hf, hw]
theorem O_v {d : Nat} {op : AOp} {g : Option (Nat × Bool)} {l : List AOper} {v : AVal} (v' : AVal) (hk : op.kind = .pure) (hg : wantedA e g = some true) (hv : evP e op = some v) (hvv : v = v') (h : WO C l cs ((d, v') :: e) H Q) : WO C (⟨some d, op, g⟩ :: l) cs e H Q := O_p hk hg (hvv ▸ hv) h
theorem O_cv {d : Nat} {raw : Bool} {x : AOpd} {args : List AOpd} {f : FuncId} {caps : List AVal} {l : List AOper} {vs : List AVal} {v : AVal} (hx : x.ev e = some (.fn f caps)) (hvs : evs e args = some vs)
    (hv : callA C raw f (vs ++ caps) H = some (.ok v, H')) (h : WO C l cs ((d, v) :: e) H' Q) : WO C (⟨some d, .callv raw x args, none⟩ :: l) cs e H Q := WO_callv rfl hx hvs hv h
theorem O_app {d es bytes o len es0 : Nat} {s x : AOpd} {l : List AOper} {xs ys : List AVal} {b : Bool} (hs : s.ev e = some (.gl o len)) (hx : x.ev e = some (.lst ys b)) (hb : H[o]? = some (.grow es0 xs none)) (hl : len = xs.length) (he : es0 = es ∨ es0 = 0)
    (hw : xs.all (fun y => decide (y.width = es)) = true) (hy : ys.all (fun y => decide (y.width = es)) = true) (hne : ys.isEmpty = false) (hm : (xs.length + ys.length) * bytes ≤ 140737488355328)
    (h : WO C l cs ((d, .gl o (xs.length + ys.length)) :: e) (H.set o (.grow es (xs ++ ys) none)) Q) : WO C (⟨some d, .app es bytes false s x, none⟩ :: l) cs e H Q := by
  refine O_h rfl rfl rfl ?_ h
  simp only [evH, hs, hx, appendA, elemsOf, hy, if_true, hb, hne, Bool.false_eq_true, if_false]
  rw [if_pos ⟨hl, he, hw⟩, if_pos hm]
end
theorem y4d : ∀ v, sameV v v = true := by
  intro v
  induction v using AVal.rec (motive_2 := fun vs => sameL vs vs = true) with
  | nil => rfl
  | cons v vs ih1 ih2 => simp [sameL, ih1, ih2]
  | _ => simp_all [sameV]
theorem y4m : ∀ vs, sameL vs vs = true
  | [] => rfl
  | v :: vs => by simp [sameL, y4d v, y4m vs]
theorem y4n : ∀ es, sameP es es = true
  | [] => rfl
  | (k, v) :: es => by simp [sameP, y4d, y4n es]
theorem y0j (b : Option ABlock) : sameB b b = true := by
  cases b with
  | none => rfl
  | some b => cases b <;> simp [sameB, y4m, y4n]
theorem lowB_mono {n m : Nat} (h : n ≤ m) {B : ABlock} (hb : lowB n B = true) : lowB m B = true := by
  cases B with
  | hole => rfl
  | dead => rfl
  | cells vs => exact (y30 n m h).2 vs hb
  | grow es xs op => rfl
  | mp es =>
    simp only [lowB] at hb ⊢
    induction es with
    | nil => rfl
    | cons p r ih =>
      obtain ⟨k, v⟩ := p
      simp only [lowP, Bool.and_eq_true] at hb ⊢
      exact ⟨⟨low_mono h hb.1.1, low_mono h hb.1.2⟩, ih hb.2⟩
theorem lowH_cons {n : Nat} {b : ABlock} {r : Heap} (h : lowB n b = true) (h2 : lowH n r = true) : lowH n (b :: r) = true := by simp only [lowH, h, h2, Bool.and_self]
attribute [irreducible] WD WS
end Go.Ev
namespace Go.Ev
set_option linter.unusedVariables false
open Go
theorem len_succ {α : Type} {n : Nat} {vs : List α} (h : vs.length = n + 1) : ∃ x xs, vs = x :: xs ∧ xs.length = n := by
  cases vs with
  | nil => simp at h
  | cons x xs => exact ⟨x, xs, rfl, by simpa using h⟩
theorem len1 {α : Type} {vs : List α} (h : vs.length = 1) : ∃ a1, vs = [a1] := by
  obtain ⟨x, xs, rfl, h2⟩ := len_succ h
  cases xs with
  | nil => exact ⟨x, rfl⟩
  | cons _ _ => simp at h
theorem len2 {α : Type} {vs : List α} (h : vs.length = 2) : ∃ a1 a2, vs = [a1, a2] := by
  obtain ⟨x, xs, rfl, h2⟩ := len_succ h
  obtain ⟨a1, rfl⟩ := len1 h2
  exact ⟨x, a1, rfl⟩
theorem len3 {α : Type} {vs : List α} (h : vs.length = 3) : ∃ a1 a2 a3, vs = [a1, a2, a3] := by
  obtain ⟨x, xs, rfl, h2⟩ := len_succ h
  obtain ⟨a1, a2, rfl⟩ := len2 h2
  exact ⟨x, a1, a2, rfl⟩
theorem len4 {α : Type} {vs : List α} (h : vs.length = 4) : ∃ a1 a2 a3 a4, vs = [a1, a2, a3, a4] := by
  obtain ⟨x, xs, rfl, h2⟩ := len_succ h
  obtain ⟨a1, a2, a3, rfl⟩ := len3 h2
  exact ⟨x, a1, a2, a3, rfl⟩
theorem len5 {α : Type} {vs : List α} (h : vs.length = 5) : ∃ a1 a2 a3 a4 a5, vs = [a1, a2, a3, a4, a5] := by
  obtain ⟨x, xs, rfl, h2⟩ := len_succ h
  obtain ⟨a1, a2, a3, a4, rfl⟩ := len4 h2
  exact ⟨x, a1, a2, a3, a4, rfl⟩
theorem len6 {α : Type} {vs : List α} (h : vs.length = 6) : ∃ a1 a2 a3 a4 a5 a6, vs = [a1, a2, a3, a4, a5, a6] := by
  obtain ⟨x, xs, rfl, h2⟩ := len_succ h
  obtain ⟨a1, a2, a3, a4, a5, rfl⟩ := len5 h2
  exact ⟨x, a1, a2, a3, a4, a5, rfl⟩
theorem len7 {α : Type} {vs : List α} (h : vs.length = 7) : ∃ a1 a2 a3 a4 a5 a6 a7, vs = [a1, a2, a3, a4, a5, a6, a7] := by
  obtain ⟨x, xs, rfl, h2⟩ := len_succ h
  obtain ⟨a1, a2, a3, a4, a5, a6, rfl⟩ := len6 h2
  exact ⟨x, a1, a2, a3, a4, a5, a6, rfl⟩
theorem len8 {α : Type} {vs : List α} (h : vs.length = 8) : ∃ a1 a2 a3 a4 a5 a6 a7 a8, vs = [a1, a2, a3, a4, a5, a6, a7, a8] := by
  obtain ⟨x, xs, rfl, h2⟩ := len_succ h
  obtain ⟨a1, a2, a3, a4, a5, a6, a7, rfl⟩ := len7 h2
  exact ⟨x, a1, a2, a3, a4, a5, a6, a7, rfl⟩
theorem len9 {α : Type} {vs : List α} (h : vs.length = 9) : ∃ a1 a2 a3 a4 a5 a6 a7 a8 a9, vs = [a1, a2, a3, a4, a5, a6, a7, a8, a9] := by
  obtain ⟨x, xs, rfl, h2⟩ := len_succ h
  obtain ⟨a1, a2, a3, a4, a5, a6, a7, a8, rfl⟩ := len8 h2
  exact ⟨x, a1, a2, a3, a4, a5, a6, a7, a8, rfl⟩
theorem len10 {α : Type} {vs : List α} (h : vs.length = 10) : ∃ a1 a2 a3 a4 a5 a6 a7 a8 a9 a10, vs = [a1, a2, a3, a4, a5, a6, a7, a8, a9, a10] := by
  obtain ⟨x, xs, rfl, h2⟩ := len_succ h
  obtain ⟨a1, a2, a3, a4, a5, a6, a7, a8, a9, rfl⟩ := len9 h2
  exact ⟨x, a1, a2, a3, a4, a5, a6, a7, a8, a9, rfl⟩
theorem len11 {α : Type} {vs : List α} (h : vs.length = 11) : ∃ a1 a2 a3 a4 a5 a6 a7 a8 a9 a10 a11, vs = [a1, a2, a3, a4, a5, a6, a7, a8, a9, a10, a11] := by
  obtain ⟨x, xs, rfl, h2⟩ := len_succ h
  obtain ⟨a1, a2, a3, a4, a5, a6, a7, a8, a9, a10, rfl⟩ := len10 h2
  exact ⟨x, a1, a2, a3, a4, a5, a6, a7, a8, a9, a10, rfl⟩
theorem len12 {α : Type} {vs : List α} (h : vs.length = 12) : ∃ a1 a2 a3 a4 a5 a6 a7 a8 a9 a10 a11 a12, vs = [a1, a2, a3, a4, a5, a6, a7, a8, a9, a10, a11, a12] := by
  obtain ⟨x, xs, rfl, h2⟩ := len_succ h
  obtain ⟨a1, a2, a3, a4, a5, a6, a7, a8, a9, a10, a11, rfl⟩ := len11 h2
  exact ⟨x, a1, a2, a3, a4, a5, a6, a7, a8, a9, a10, a11, rfl⟩
theorem len13 {α : Type} {vs : List α} (h : vs.length = 13) : ∃ a1 a2 a3 a4 a5 a6 a7 a8 a9 a10 a11 a12 a13, vs = [a1, a2, a3, a4, a5, a6, a7, a8, a9, a10, a11, a12, a13] := by
  obtain ⟨x, xs, rfl, h2⟩ := len_succ h
  obtain ⟨a1, a2, a3, a4, a5, a6, a7, a8, a9, a10, a11, a12, rfl⟩ := len12 h2
  exact ⟨x, a1, a2, a3, a4, a5, a6, a7, a8, a9, a10, a11, a12, rfl⟩
theorem len14 {α : Type} {vs : List α} (h : vs.length = 14) : ∃ a1 a2 a3 a4 a5 a6 a7 a8 a9 a10 a11 a12 a13 a14, vs = [a1, a2, a3, a4, a5, a6, a7, a8, a9, a10, a11, a12, a13, a14] := by
  obtain ⟨x, xs, rfl, h2⟩ := len_succ h
  obtain ⟨a1, a2, a3, a4, a5, a6, a7, a8, a9, a10, a11, a12, a13, rfl⟩ := len13 h2
  exact ⟨x, a1, a2, a3, a4, a5, a6, a7, a8, a9, a10, a11, a12, a13, rfl⟩
theorem len15 {α : Type} {vs : List α} (h : vs.length = 15) : ∃ a1 a2 a3 a4 a5 a6 a7 a8 a9 a10 a11 a12 a13 a14 a15, vs = [a1, a2, a3, a4, a5, a6, a7, a8, a9, a10, a11, a12, a13, a14, a15] := by
  obtain ⟨x, xs, rfl, h2⟩ := len_succ h
  obtain ⟨a1, a2, a3, a4, a5, a6, a7, a8, a9, a10, a11, a12, a13, a14, rfl⟩ := len14 h2
  exact ⟨x, a1, a2, a3, a4, a5, a6, a7, a8, a9, a10, a11, a12, a13, a14, rfl⟩
end Go.Ev
namespace Go.Ev
set_option linter.unusedVariables false
open Go
inductive Ty where
  | mk (all : Bool) (flat pair : Int) (pairs : List Ty) (fn : Int) (funs : List Ty)
namespace Ty
def all : Ty → Bool | mk a _ _ _ _ _ => a
def flat : Ty → Int | mk _ a _ _ _ _ => a
def pair : Ty → Int | mk _ _ a _ _ _ => a
def pairs : Ty → List Ty | mk _ _ _ a _ _ => a
def fn : Ty → Int | mk _ _ _ _ a _ => a
def funs : Ty → List Ty | mk _ _ _ _ _ a => a
end Ty
mutual
def encT : Ty → AVal
  | .mk a f p ps g gs => .agg [.bool a, .int .i64 f, .int .i64 p, .lst (encTs ps) false, .int .i64 g, .lst (encTs gs) false]
def encTs : List Ty → List AVal
  | [] => []
  | x :: xs => encT x :: encTs xs
end
def cT (x : Ty) : List AVal := [.bool x.all, .int .i64 x.flat, .int .i64 x.pair, .lst (x.pairs.map encT) false, .int .i64 x.fn, .lst (x.funs.map encT) false]
abbrev vT (x : Ty) : AVal := .agg (cT x)
theorem encTs_map : ∀ l : List Ty, encTs l = l.map encT
  | [] => rfl
  | x :: xs => by simp only [encTs, List.map_cons, encTs_map xs]
theorem encT_eq (x : Ty) : encT x = vT x := by
  cases x with | mk a f p ps g gs => simp only [encT, encTs_map, vT, cT, Ty.all, Ty.flat, Ty.pair, Ty.pairs, Ty.fn, Ty.funs]
theorem encT_flat (x : Ty) : (encT x).flat = cT x := by rw [encT_eq]; rfl
theorem encT_get {l : List Ty} {i : Int} {x : Ty} (h : l[i.toNat]? = some x) : (l.map encT)[i.toNat]? = some (encT x) := by rw [List.getElem?_map, h]; rfl
inductive WfT : Ty → Prop
  | mk {x : Ty} : (-9223372036854775808 ≤ x.flat ∧ x.flat < 9223372036854775808) → (-9223372036854775808 ≤ x.pair ∧ x.pair < 9223372036854775808) → (-9223372036854775808 ≤ x.fn ∧ x.fn < 9223372036854775808) → x.pairs.length < 9223372036854775808 → x.funs.length < 9223372036854775808 →
      (∀ y, y ∈ x.pairs → WfT y) → (∀ y, y ∈ x.funs → WfT y) → WfT x
mutual
def szT : Ty → Nat
  | .mk _ _ _ ps _ gs => 1 + szTs ps + szTs gs
def szTs : List Ty → Nat
  | [] => 0
  | x :: xs => szT x + szTs xs
end
theorem szT_eq (x : Ty) : szT x = 1 + szTs x.pairs + szTs x.funs := by cases x; rfl
theorem szT_pos (x : Ty) : 0 < szT x := by rw [szT_eq]; omega
theorem szTs_mem {x : Ty} : ∀ {l : List Ty}, x ∈ l → szT x ≤ szTs l
  | y :: ys, h => by
    simp only [szTs]
    rcases List.mem_cons.1 h with rfl | h
    · omega
    · have := szTs_mem h; omega
theorem szTs_len : ∀ l : List Ty, l.length ≤ szTs l
  | [] => by simp
  | y :: ys => by simp only [szTs, List.length_cons]; have := szTs_len ys; have := szT_pos y; omega
theorem szT_pairs {x y : Ty} (h : y ∈ x.pairs) : szT y < szT x := by rw [szT_eq x]; have := szTs_mem h; omega
theorem szT_funs {x y : Ty} (h : y ∈ x.funs) : szT y < szT x := by rw [szT_eq x]; have := szTs_mem h; omega
theorem len_pairs (x : Ty) : x.pairs.length < szT x := by rw [szT_eq x]; have := szTs_len x.pairs; omega
theorem len_funs (x : Ty) : x.funs.length < szT x := by rw [szT_eq x]; have := szTs_len x.funs; omega
theorem wrap_succ {i : Nat} (h : i < 9223372036854775807) : IntKind.i64.wrap ((i : Int) + 1) = ((i + 1 : Nat) : Int) := by
  rw [kw_i64_id (by omega) (by omega)]; rfl
theorem wrap_add {i j : Nat} (h : i + j < 9223372036854775808) : IntKind.i64.wrap ((i : Int) + (j : Int)) = ((i + j : Nat) : Int) := by
  rw [kw_i64_id (by omega) (by omega)]; rfl
theorem drop_of {α : Type} {l : List α} {i : Nat} {x : α} (h : l[i]? = some x) : l.drop i = x :: l.drop (i + 1) := by
  obtain ⟨hi, rfl⟩ := List.getElem?_eq_some_iff.1 h
  exact List.drop_eq_getElem_cons hi
mutual
def rsz : Ty → Nat → Nat
  | .mk _ _ _ ps _ gs, left => match left with
    | 0 => 1000
    | l + 1 => min 1000 (1 + rszs ps l + rszs gs l)
def rszs : List Ty → Nat → Nat
  | [], _ => 0
  | x :: xs, l => rsz x l + rszs xs l
end
theorem rsz_zero (x : Ty) : rsz x 0 = 1000 := by cases x; rfl
theorem rsz_succ (x : Ty) (l : Nat) : rsz x (l + 1) = min 1000 (1 + rszs x.pairs l + rszs x.funs l) := by cases x; rfl
theorem rsz_le (x : Ty) (l : Nat) : rsz x l ≤ 1000 := by cases l <;> simp only [rsz_zero, rsz_succ] <;> omega
mutual
theorem rsz_sz : ∀ (x : Ty) (l : Nat), rsz x l < 1000 → szT x = rsz x l
  | .mk a f p ps g gs, 0, h => by simp [rsz] at h
  | .mk a f p ps g gs, l + 1, h => by
    simp only [rsz] at h ⊢
    rw [szT, rszs_sz ps l (by omega), rszs_sz gs l (by omega)]; omega
theorem rszs_sz : ∀ (xs : List Ty) (l : Nat), rszs xs l < 1000 → szTs xs = rszs xs l
  | [], _, _ => rfl
  | x :: xs, l, h => by
    simp only [rszs] at h ⊢
    rw [szTs, rsz_sz x l (by omega), rszs_sz xs l (by omega)]
end
def pcnt (p : Int) : Int := if p = 1 then 2 else if p = 2 then 1 else 0
def okT (x : Ty) : Bool :=
  decide (0 ≤ x.flat) && decide (x.flat ≤ 63) && decide (0 ≤ x.pair) && decide (x.pair ≤ 2) && decide (0 ≤ x.fn) && decide (x.fn ≤ 2) && (!x.all || (decide (x.flat = 0) && decide (x.pair = 0) && decide (x.fn = 0))) &&
    decide ((x.pairs.length : Int) = pcnt x.pair) && (if x.fn = 1 then decide (1 ≤ x.funs.length) && decide (x.funs.length ≤ 9) else decide (x.funs.length = 0))
mutual
def rightT : Ty → Nat → Bool
  | .mk a f p ps g gs, d => match d with
    | 0 => false
    | d + 1 => okT (.mk a f p ps g gs) && rightTs ps d && rightTs gs d
def rightTs : List Ty → Nat → Bool
  | [], _ => true
  | x :: xs, d => rightT x d && rightTs xs d
end
theorem y16 (x : Ty) : rightT x 0 = false := by cases x; rfl
theorem y0a (x : Ty) (d : Nat) : rightT x (d + 1) = (okT x && rightTs x.pairs d && rightTs x.funs d) := by cases x; rfl
theorem y17 {d : Nat} : ∀ {l : List Ty} {x : Ty}, rightTs l d = true → x ∈ l → rightT x d = true
  | y :: ys, x, h, hm => by
    simp only [rightTs, Bool.and_eq_true] at h
    rcases List.mem_cons.1 hm with rfl | hm
    · exact h.1
    · exact y17 h.2 hm
def fidx {α : Type} (p : α → Bool) : List α → Nat → Int
  | [], _ => -1
  | x :: xs, i => if p x then (i : Int) else fidx p xs (i + 1)
theorem fidx_any {α : Type} (p : α → Bool) : ∀ (l : List α) (i : Nat), decide (0 ≤ fidx p l i) = l.any p
  | [], _ => rfl
  | x :: xs, i => by
    unfold fidx
    split
    · rename_i h; simp [h]
    · rename_i h; rw [fidx_any p xs (i + 1)]; simp [h]
theorem i64_bits (v : BitVec 64) : IntKind.i64.wrap ((v.toNat : Nat) : Int) = 0 ↔ v = 0#64 := by
  rw [kw_i64]
  have := v.isLt
  constructor
  · intro h
    apply BitVec.eq_of_toNat_eq
    simp; omega
  · intro h; subst h; decide
theorem pCT (x : Ty) (a b c d e f : AVal) : putCells 0 (cT x) [a, b, c, d, e, f] = cT x := rfl
theorem tCT (x : Ty) : List.take 6 (cT x) = cT x := rfl
end Go.Ev
namespace Go.Ev.Seat.TyS
set_option linter.unusedVariables false
set_option linter.unusedSimpArgs false
open Go Go.Ev
set_option maxRecDepth 20000
attribute [local irreducible] pcall callF
theorem size_zero (n : Nat) (t : Ty) : pcall (tabOf tabL) (n + 1) 32 [vT t, .int .i64 (0 : Nat)] = some (.ok (.int .i64 (rsz t 0 : Nat))) := by
  refine pcall_fin t32 ?_
  refine WL_seq ?_
  refine WL_reg ?_
  refine O_n rfl rfl rfl ?_
  refine O_p rfl rfl rfl ?_
  refine WO_nil ?_
  refine WL_seq ?_
  apply WLp
  · (repeat (first | exact rzz | apply rcc rfl | apply rnn rfl))
  refine WL_seq ?_
  refine WL_seq ?_
  refine WL_reg ?_
  refine O_p rfl rfl rfl ?_
  refine O_p rfl rfl rfl ?_
  refine WO_nil ?_
  refine WL_seq ?_
  apply WLp
  · (repeat (first | exact rzz | apply rcc rfl | apply rnn rfl))
  refine WL_cond rfl (fun h9 => ?_) (fun h9 => ?_)
  · skip
    refine WL_seq ?_
    refine WL_reg ?_
    refine O_p rfl rfl rfl ?_
    refine WO_nil ?_
    refine WL_ret ?_
    exact ⟨_, rfl, _, rfl, by rw [rsz_zero]; rfl⟩
  · skip
    simp at h9
theorem size_c : ∀ (n : Nat) (t : Ty) (l : Nat), szT t < n → WfT t → l < 1000 → pcall (tabOf tabL) n 32 [vT t, .int .i64 (l : Nat)] = some (.ok (.int .i64 (rsz t l : Nat)))
  | 0, t, l, h, _, _ => by omega
  | n + 1, t, 0, h, _, _ => size_zero n t
  | n + 1, t, l + 1, h, hw, hl => by
    have ih := size_c n
    have hp := len_pairs t
    have hf := len_funs t
    have hl1 : IntKind.i64.wrap (((l + 1 : Nat) : Int) - 1) = (l : Int) := by rw [kw_i64_id (by omega) (by omega)]; omega
    cases hw with | mk w1 w2 w3 w4 w5 w6 w7 =>
    refine pcall_fin t32 ?_
    refine WL_seq ?_
    refine WL_reg ?_
    refine O_n rfl rfl rfl ?_
    refine O_p rfl rfl rfl ?_
    refine WO_nil ?_
    refine WL_seq ?_
    apply WLp
    · (repeat (first | exact rzz | apply rcc rfl | apply rnn rfl))
    refine WL_seq ?_
    refine WL_seq ?_
    refine WL_reg ?_
    refine O_p rfl rfl rfl ?_
    refine O_p rfl rfl rfl ?_
    refine WO_nil ?_
    refine WL_seq ?_
    apply WLp
    · (repeat (first | exact rzz | apply rcc rfl | apply rnn rfl))
    refine WL_cond rfl (fun h9 => ?_) (fun h9 => ?_)
    · skip
      simp at h9; omega
    · skip
      refine WL_skip ?_
      refine WL_seq ?_
      apply WLp
      · (repeat (first | exact rzz | apply rcc rfl | apply rnn rfl))
      refine WL_seq ?_
      refine WL_reg ?_
      refine O_p rfl rfl rfl ?_
      refine WO_nil ?_
      refine WL_seq ?_
      apply WLp
      · (repeat (first | exact rzz | apply rcc rfl | apply rnn rfl))
      refine WL_seq ?_
      refine WL_seq ?_
      refine WL_reg ?_
      refine O_p rfl rfl rfl ?_
      refine WO_nil ?_
      refine WL_seq ?_
      apply WLp
      · (repeat (first | exact rzz | apply rcc rfl | apply rnn rfl))
      refine WL_block ?_
      apply WL_forc (α := Nat × Nat) (fun s => [(5, .int .i64 (s.1 : Nat)), (6, .int .i64 (s.2 : Nat))]) (fun s => s.2 ≤ t.pairs.length ∧ s.1 ≤ 2000 ∧ min 1000 (1 + rszs t.pairs l) = min 1000 (s.1 + rszs (t.pairs.drop s.2) l)) (fun s => t.pairs.length - s.2) ((1, 0)) (he := ?he) (hP := ?hP) (hk := ?hk) (round := ?round)
      case he =>
        (repeat (first | exact rzz | apply rcc rfl | apply rnn rfl))
      case hP =>
        exact ⟨by omega, by omega, rfl⟩
      case hk =>
        show t.pairs.length - 0 < n; omega
      case round =>
        rintro ⟨c, i⟩ ⟨hi, hc, hs⟩
        simp only at hi hc hs
        dsimp only [List.cons_append, List.nil_append] at *
        refine WL_seq ?_
        refine WL_seq ?_
        refine WL_reg ?_
        refine O_p rfl rfl rfl ?_
        refine O_p rfl rfl rfl ?_
        refine O_h rfl rfl rfl rfl ?_
        refine O_h rfl rfl rfl rfl ?_
        refine O_p rfl rfl rfl ?_
        refine O_p rfl rfl rfl ?_
        apply O_and [_, _] rfl rfl (hT := ?hT18) (h := ?hR18)
        case hT18 =>
          intro hb15
          refine O_p rfl rfl rfl ?_
          refine O_p rfl rfl rfl ?_
          exact WO_nil (WL_nil ⟨rfl, rfl, rfl⟩)
        case hR18 =>
          intro vs hvs
          obtain ⟨u16, u17, rfl⟩ := len2 hvs
          clear hvs; dsimp only [junk]
          refine WO_nil ?_
          refine WL_seq ?_
          apply WLp
          · (repeat (first | exact rzz | apply rcc rfl | apply rnn rfl))
          try clear u16 u17
          refine WL_cond rfl (fun h18 => ?_) (fun h18 => ?_)
          · skip
            simp at h18
            obtain ⟨x, hx⟩ : ∃ x, (t.pairs)[i]? = some x := ⟨_, List.getElem?_eq_getElem (by omega)⟩
            have hmx := List.mem_of_getElem? hx
            have hsx := szT_pairs hmx
            have hle := rsz_le x l
            have hg := drop_of hx
            refine WL_skip ?_
            refine WL_seq ?_
            apply WLp
            · (repeat (first | exact rzz | apply rcc rfl | apply rnn rfl))
            refine WL_seq ?_
            refine WL_block ?_
            refine WL_reg ?_
            refine O_p rfl rfl rfl ?_
            refine O_p rfl rfl rfl ?_
            refine O_h rfl rfl rfl rfl ?_
            refine O_p rfl rfl rfl ?_
            refine O_ia rfl rfl (Int.natCast_nonneg _) (encT_get (i := (i : Nat)) hx) (encT_flat _) rfl ?_
            refine O_h rfl rfl rfl rfl ?_
            refine O_p rfl rfl rfl ?_
            refine O_p rfl rfl rfl ?_
            refine O_c 32 rfl rfl (callA_of rfl (by rw [hl1]; exact ih x l (by omega) (w6 x hmx) (by omega))) ?_
            refine O_p rfl rfl rfl ?_
            refine O_p rfl rfl rfl ?_
            refine WO_nil ?_
            refine WL_nil ?_
            refine Blk_norm (?_ : WL _ _ _ _ _)
            refine WL_seq ?_
            apply WLp
            · (repeat (first | exact rzz | apply rcc rfl | apply rnn rfl))
            refine WL_reg ?_
            refine O_p rfl rfl rfl ?_
            refine O_p rfl rfl rfl ?_
            refine O_p rfl rfl rfl ?_
            refine WO_nil ?_
            refine WL_nil ?_
            refine RndC_norm ((c + rsz x l, i + 1)) (by refine ⟨?_, ?_, ?_⟩ <;> simp only <;> first | omega | (rw [hs, hg, rszs]; omega)) (by show _ < _; omega) ?_ rfl
            · rw [wrap_add (by omega), wrap_succ (by omega)]; (repeat (first | exact rzz | apply rcc rfl | apply rnn rfl))
          · skip
            have hq : min 1000 (1 + rszs t.pairs l) = min 1000 c := by
              rw [hs]; simp at h18
              by_cases hc : i < t.pairs.length
              · have := h18 hc; omega
              · rw [List.drop_eq_nil_of_le (by omega)]; simp [rszs]
            refine WL_exit ?_
            refine RndC_exit ?_
            refine Blk_exit (?_ : WL _ _ _ _ _)
            refine WL_seq ?_
            apply WLp
            · (repeat (first | exact rzz | apply rcc rfl | apply rnn rfl))
            refine WL_seq ?_
            refine WL_seq ?_
            refine WL_reg ?_
            refine O_p rfl rfl rfl ?_
            refine WO_nil ?_
            refine WL_seq ?_
            apply WLp
            · (repeat (first | exact rzz | apply rcc rfl | apply rnn rfl))
            refine WL_block ?_
            apply WL_forc (α := Nat × Nat) (fun s => [(5, .int .i64 (s.1 : Nat)), (7, .int .i64 (s.2 : Nat))]) (fun s => s.2 ≤ t.funs.length ∧ s.1 ≤ 2000 ∧ min 1000 (1 + rszs t.pairs l + rszs t.funs l) = min 1000 (s.1 + rszs (t.funs.drop s.2) l)) (fun s => t.funs.length - s.2) ((c, 0)) (he := ?he) (hP := ?hP) (hk := ?hk) (round := ?round)
            case he =>
              (repeat (first | exact rzz | apply rcc rfl | apply rnn rfl))
            case hP =>
              refine ⟨by simp, by simp only; omega, ?_⟩; simp only [List.drop_zero]; omega
            case hk =>
              show t.funs.length - 0 < n; omega
            case round =>
              rintro ⟨c, i⟩ ⟨hi, hc, hs2⟩
              simp only at hi hc hs2
              dsimp only [List.cons_append, List.nil_append] at *
              refine WL_seq ?_
              refine WL_seq ?_
              refine WL_reg ?_
              refine O_p rfl rfl rfl ?_
              refine O_p rfl rfl rfl ?_
              refine O_h rfl rfl rfl rfl ?_
              refine O_h rfl rfl rfl rfl ?_
              refine O_p rfl rfl rfl ?_
              refine O_p rfl rfl rfl ?_
              apply O_and [_, _] rfl rfl (hT := ?hT39) (h := ?hR39)
              case hT39 =>
                intro hb36
                refine O_p rfl rfl rfl ?_
                refine O_p rfl rfl rfl ?_
                exact WO_nil (WL_nil ⟨rfl, rfl, rfl⟩)
              case hR39 =>
                intro vs hvs
                obtain ⟨u37, u38, rfl⟩ := len2 hvs
                clear hvs; dsimp only [junk]
                refine WO_nil ?_
                refine WL_seq ?_
                apply WLp
                · (repeat (first | exact rzz | apply rcc rfl | apply rnn rfl))
                try clear u37 u38
                refine WL_cond rfl (fun h39 => ?_) (fun h39 => ?_)
                · skip
                  simp at h39
                  obtain ⟨x, hx⟩ : ∃ x, (t.funs)[i]? = some x := ⟨_, List.getElem?_eq_getElem (by omega)⟩
                  have hmx := List.mem_of_getElem? hx
                  have hsx := szT_funs hmx
                  have hle := rsz_le x l
                  have hg := drop_of hx
                  refine WL_skip ?_
                  refine WL_seq ?_
                  apply WLp
                  · (repeat (first | exact rzz | apply rcc rfl | apply rnn rfl))
                  refine WL_seq ?_
                  refine WL_block ?_
                  refine WL_reg ?_
                  refine O_p rfl rfl rfl ?_
                  refine O_p rfl rfl rfl ?_
                  refine O_h rfl rfl rfl rfl ?_
                  refine O_p rfl rfl rfl ?_
                  refine O_ia rfl rfl (Int.natCast_nonneg _) (encT_get (i := (i : Nat)) hx) (encT_flat _) rfl ?_
                  refine O_h rfl rfl rfl rfl ?_
                  refine O_p rfl rfl rfl ?_
                  refine O_p rfl rfl rfl ?_
                  refine O_c 32 rfl rfl (callA_of rfl (by rw [hl1]; exact ih x l (by omega) (w7 x hmx) (by omega))) ?_
                  refine O_p rfl rfl rfl ?_
                  refine O_p rfl rfl rfl ?_
                  refine WO_nil ?_
                  refine WL_nil ?_
                  refine Blk_norm (?_ : WL _ _ _ _ _)
                  refine WL_seq ?_
                  apply WLp
                  · (repeat (first | exact rzz | apply rcc rfl | apply rnn rfl))
                  refine WL_reg ?_
                  refine O_p rfl rfl rfl ?_
                  refine O_p rfl rfl rfl ?_
                  refine O_p rfl rfl rfl ?_
                  refine WO_nil ?_
                  refine WL_nil ?_
                  refine RndC_norm ((c + rsz x l, i + 1)) (by refine ⟨?_, ?_, ?_⟩ <;> simp only <;> first | omega | (rw [hs2, hg, rszs]; omega)) (by show _ < _; omega) ?_ rfl
                  · rw [wrap_add (by omega), wrap_succ (by omega)]; (repeat (first | exact rzz | apply rcc rfl | apply rnn rfl))
                · skip
                  have hr : AVal.int IntKind.i64 (rsz t (l + 1) : Nat) = AVal.int IntKind.i64 (if false = true then if (1000 : Int) > (c : Int) then 1000 else (c : Int) else if (1000 : Int) < (c : Int) then 1000 else (c : Int)) := by
                    have hq2 : rsz t (l + 1) = min 1000 c := by
                      rw [rsz_succ, hs2]; simp at h39
                      by_cases hc : i < t.funs.length
                      · have := h39 hc; omega
                      · rw [List.drop_eq_nil_of_le (by omega)]; simp [rszs]
                    rw [hq2]; congr 1; simp; split <;> omega
                  refine WL_exit ?_
                  refine RndC_exit ?_
                  refine Blk_exit (?_ : WL _ _ _ _ _)
                  refine WL_seq ?_
                  apply WLp
                  · (repeat (first | exact rzz | apply rcc rfl | apply rnn rfl))
                  refine WL_seq ?_
                  refine WL_reg ?_
                  refine O_p rfl rfl rfl ?_
                  refine O_p rfl rfl rfl ?_
                  refine O_p rfl rfl rfl ?_
                  refine WO_nil ?_
                  refine WL_ret ?_
                  refine ⟨_, rfl, _, rfl, ?_⟩
                  rw [hr]
theorem light_c (n : Nat) (t : Ty) (h : szT t < n) (hw : WfT t) : pcall (tabOf tabL) (n + 1) 12 [vT t] = some (.ok (.bool (decide (rsz t 60 < 120)))) := by
  refine pcall_fin t12 ?_
  refine WL_seq ?_
  refine WL_reg ?_
  refine O_n rfl rfl rfl ?_
  refine O_p rfl rfl rfl ?_
  refine WO_nil ?_
  refine WL_seq ?_
  apply WLp
  · (repeat (first | exact rzz | apply rcc rfl | apply rnn rfl))
  refine WL_seq ?_
  refine WL_reg ?_
  refine O_h rfl rfl rfl rfl ?_
  refine O_c 32 rfl rfl (callA_of rfl (size_c n t 60 h hw (by omega))) ?_
  refine O_p rfl rfl rfl ?_
  refine O_p rfl rfl rfl ?_
  refine WO_nil ?_
  refine WL_ret ?_
  exact ⟨_, rfl, _, rfl, by congr 2; apply decide_eq_decide.2; omega⟩
theorem pcnt_get {p : Int} (h0 : 0 ≤ p) (h2 : p ≤ 2) : [AVal.int .i64 0, AVal.int .i64 2, AVal.int .i64 1][p.toNat]? = some (.int .i64 (pcnt p)) := by
  obtain rfl | rfl | rfl : p = 0 ∨ p = 1 ∨ p = 2 := by omega
  all_goals rfl
theorem deep_c : ∀ (n : Nat) (t : Ty) (d : Nat), szT t < n → WfT t → d < 1000 → pcall (tabOf tabL) n 33 [vT t, .int .i64 (d : Nat)] = some (.ok (.bool (rightT t d)))
  | 0, t, d, h, _, _ => by omega
  | n + 1, t, d, h, hw, hd => by
    have ih := deep_c n
    have hp := len_pairs t
    have hf := len_funs t
    cases hw with | mk w1 w2 w3 w4 w5 w6 w7 =>
    refine pcall_fin t33 ?_
    refine WL_seq ?_
    refine WL_reg ?_
    refine O_n rfl rfl rfl ?_
    refine O_p rfl rfl rfl ?_
    refine WO_nil ?_
    refine WL_seq ?_
    apply WLp
    · (repeat (first | exact rzz | apply rcc rfl | apply rnn rfl))
    refine WL_seq ?_
    refine WL_seq ?_
    refine WL_reg ?_
    refine O_p rfl rfl rfl ?_
    refine O_p rfl rfl rfl ?_
    refine O_p rfl rfl rfl ?_
    apply O_or [_, _, _] rfl rfl (hT := ?hT14) (h := ?hR14)
    case hT14 =>
      intro hb10
      refine O_p rfl rfl rfl ?_
      refine O_h rfl rfl rfl rfl ?_
      refine O_p rfl rfl rfl ?_
      exact WO_nil (WL_nil ⟨rfl, rfl, rfl⟩)
    case hR14 =>
      intro vs hvs
      obtain ⟨u11, u12, u13, rfl⟩ := len3 hvs
      clear hvs; dsimp only [junk]
      refine O_p rfl rfl rfl ?_
      apply O_or [_, _, _] rfl rfl (hT := ?hT19) (h := ?hR19)
      case hT19 =>
        intro hb15
        refine O_p rfl rfl rfl ?_
        refine O_h rfl rfl rfl rfl ?_
        refine O_p rfl rfl rfl ?_
        exact WO_nil (WL_nil ⟨rfl, rfl, rfl⟩)
      case hR19 =>
        intro vs hvs
        obtain ⟨u16, u17, u18, rfl⟩ := len3 hvs
        clear hvs; dsimp only [junk]
        refine O_p rfl rfl rfl ?_
        apply O_or [_, _, _] rfl rfl (hT := ?hT24) (h := ?hR24)
        case hT24 =>
          intro hb20
          refine O_p rfl rfl rfl ?_
          refine O_h rfl rfl rfl rfl ?_
          refine O_p rfl rfl rfl ?_
          exact WO_nil (WL_nil ⟨rfl, rfl, rfl⟩)
        case hR24 =>
          intro vs hvs
          obtain ⟨u21, u22, u23, rfl⟩ := len3 hvs
          clear hvs; dsimp only [junk]
          refine O_p rfl rfl rfl ?_
          apply O_or [_, _, _] rfl rfl (hT := ?hT29) (h := ?hR29)
          case hT29 =>
            intro hb25
            refine O_p rfl rfl rfl ?_
            refine O_h rfl rfl rfl rfl ?_
            refine O_p rfl rfl rfl ?_
            exact WO_nil (WL_nil ⟨rfl, rfl, rfl⟩)
          case hR29 =>
            intro vs hvs
            obtain ⟨u26, u27, u28, rfl⟩ := len3 hvs
            clear hvs; dsimp only [junk]
            refine O_p rfl rfl rfl ?_
            apply O_or [_, _, _] rfl rfl (hT := ?hT34) (h := ?hR34)
            case hT34 =>
              intro hb30
              refine O_p rfl rfl rfl ?_
              refine O_h rfl rfl rfl rfl ?_
              refine O_p rfl rfl rfl ?_
              exact WO_nil (WL_nil ⟨rfl, rfl, rfl⟩)
            case hR34 =>
              intro vs hvs
              obtain ⟨u31, u32, u33, rfl⟩ := len3 hvs
              clear hvs; dsimp only [junk]
              refine O_p rfl rfl rfl ?_
              apply O_or [_, _, _] rfl rfl (hT := ?hT39) (h := ?hR39)
              case hT39 =>
                intro hb35
                refine O_p rfl rfl rfl ?_
                refine O_h rfl rfl rfl rfl ?_
                refine O_p rfl rfl rfl ?_
                exact WO_nil (WL_nil ⟨rfl, rfl, rfl⟩)
              case hR39 =>
                intro vs hvs
                obtain ⟨u36, u37, u38, rfl⟩ := len3 hvs
                clear hvs; dsimp only [junk]
                refine WO_nil ?_
                refine WL_seq ?_
                apply WLp
                · (repeat (first | exact rzz | apply rcc rfl | apply rnn rfl))
                try clear u11 u12 u13 u16 u17 u18 u21 u22 u23 u26 u27 u28 u31 u32 u33 u36 u37 u38
                refine WL_cond rfl (fun h39 => ?_) (fun h39 => ?_)
                · skip
                  have hr : rightT t d = false := by
                    cases d with
                    | zero => exact y16 t
                    | succ d =>
                      rw [y0a]
                      have : okT t = false := by
                        unfold okT; simp at h39 ⊢; omega
                      simp [this]
                  refine WL_seq ?_
                  refine WL_reg ?_
                  refine O_p rfl rfl rfl ?_
                  refine WO_nil ?_
                  refine WL_ret ?_
                  exact ⟨_, rfl, _, rfl, by rw [hr]⟩
                · skip
                  simp at h39
                  obtain ⟨d, rfl⟩ : ∃ e, d = e + 1 := ⟨d - 1, by omega⟩
                  have hl1 : IntKind.i64.wrap (((d + 1 : Nat) : Int) - 1) = (d : Int) := by rw [kw_i64_id (by omega) (by omega)]; omega
                  refine WL_skip ?_
                  refine WL_seq ?_
                  apply WLp
                  · (repeat (first | exact rzz | apply rcc rfl | apply rnn rfl))
                  refine WL_seq ?_
                  refine WL_seq ?_
                  refine WL_reg ?_
                  refine O_p rfl rfl rfl ?_
                  refine O_h rfl rfl rfl rfl ?_
                  refine O_p rfl rfl rfl ?_
                  apply O_and [_, _, _, _, _, _, _, _, _, _, _, _, _] rfl rfl (hT := ?hT56) (h := ?hR56)
                  case hT56 =>
                    intro hb42
                    refine O_p rfl rfl rfl ?_
                    refine O_h rfl rfl rfl rfl ?_
                    refine O_p rfl rfl rfl ?_
                    refine O_p rfl rfl rfl ?_
                    apply O_or [_, _, _] rfl rfl (hT := ?hT50) (h := ?hR50)
                    case hT50 =>
                      intro hb46
                      refine O_p rfl rfl rfl ?_
                      refine O_h rfl rfl rfl rfl ?_
                      refine O_p rfl rfl rfl ?_
                      exact WO_nil (WL_nil ⟨rfl, rfl, rfl⟩)
                    case hR50 =>
                      intro vs hvs
                      obtain ⟨u47, u48, u49, rfl⟩ := len3 hvs
                      clear hvs; dsimp only [junk]
                      refine O_p rfl rfl rfl ?_
                      apply O_or [_, _, _] rfl rfl (hT := ?hT55) (h := ?hR55)
                      case hT55 =>
                        intro hb51
                        refine O_p rfl rfl rfl ?_
                        refine O_h rfl rfl rfl rfl ?_
                        refine O_p rfl rfl rfl ?_
                        exact WO_nil (WL_nil ⟨rfl, rfl, rfl⟩)
                      case hR55 =>
                        intro vs hvs
                        obtain ⟨u52, u53, u54, rfl⟩ := len3 hvs
                        clear hvs; dsimp only [junk]
                        exact WO_nil (WL_nil ⟨rfl, rfl, rfl⟩)
                  case hR56 =>
                    intro vs hvs
                    obtain ⟨u43, u44, u45, u46, u47, u48, u49, u50, u51, u52, u53, u54, u55, rfl⟩ := len13 hvs
                    clear hvs; dsimp only [junk]
                    refine WO_nil ?_
                    refine WL_seq ?_
                    apply WLp
                    · (repeat (first | exact rzz | apply rcc rfl | apply rnn rfl))
                    try clear u47 u48 u49 u52 u53 u54 u43 u44 u45 u46 u47 u48 u49 u50 u51 u52 u53 u54 u55
                    refine WL_cond rfl (fun h56 => ?_) (fun h56 => ?_)
                    · skip
                      have hr : rightT t (d + 1) = false := by
                        rw [y0a]
                        have : okT t = false := by
                          unfold okT; simp at h56 ⊢; intros; simp_all
                        simp [this]
                      refine WL_seq ?_
                      refine WL_reg ?_
                      refine O_p rfl rfl rfl ?_
                      refine WO_nil ?_
                      refine WL_ret ?_
                      exact ⟨_, rfl, _, rfl, by rw [hr]⟩
                    · skip
                      refine WL_skip ?_
                      refine WL_seq ?_
                      apply WLp
                      · (repeat (first | exact rzz | apply rcc rfl | apply rnn rfl))
                      refine WL_seq ?_
                      refine WL_reg ?_
                      refine O_h rfl rfl rfl rfl ?_
                      refine O_p rfl rfl rfl ?_
                      refine WO_nil ?_
                      refine WL_seq ?_
                      apply WLp
                      · (repeat (first | exact rzz | apply rcc rfl | apply rnn rfl))
                      refine WL_seq ?_
                      refine WL_seq ?_
                      refine WL_drawS (ops := [_, _, _, _, _, _, _, _, _, _, _, _, _, _, _, _, _, _, _, _, _, _, _, _, _, _, _, _, _, _, _, _, _, _, _, _, _]) rfl rfl ?_
                      refine O_p rfl rfl rfl ?_
                      refine O_h rfl rfl rfl rfl ?_
                      refine O_h rfl rfl rfl rfl ?_
                      refine O_p rfl rfl rfl ?_
                      refine O_p rfl rfl rfl ?_
                      refine O_h rfl rfl rfl rfl ?_
                      refine O_ia rfl rfl (by omega) (pcnt_get (by omega) (by omega)) rfl rfl ?_
                      refine O_h rfl rfl rfl rfl ?_
                      refine O_p rfl rfl rfl ?_
                      refine O_p rfl rfl rfl ?_
                      apply O_or [_, _, _, _, _, _, _, _, _] rfl rfl (hT := ?hT77) (h := ?hR77)
                      case hT77 =>
                        intro hb67
                        refine O_p rfl rfl rfl ?_
                        refine O_h rfl rfl rfl rfl ?_
                        refine O_p rfl rfl rfl ?_
                        refine O_p rfl rfl rfl ?_
                        apply O_and [_, _, _, _] rfl rfl (hT := ?hT76) (h := ?hR76)
                        case hT76 =>
                          intro hb71
                          refine O_p rfl rfl rfl ?_
                          refine O_h rfl rfl rfl rfl ?_
                          refine O_h rfl rfl rfl rfl ?_
                          refine O_p rfl rfl rfl ?_
                          exact WO_nil (WL_nil ⟨rfl, rfl, rfl⟩)
                        case hR76 =>
                          intro vs hvs
                          obtain ⟨u72, u73, u74, u75, rfl⟩ := len4 hvs
                          clear hvs; dsimp only [junk]
                          exact WO_nil (WL_nil ⟨rfl, rfl, rfl⟩)
                      case hR77 =>
                        intro vs hvs
                        obtain ⟨u68, u69, u70, u71, u72, u73, u74, u75, u76, rfl⟩ := len9 hvs
                        clear hvs; dsimp only [junk]
                        refine O_p rfl rfl rfl ?_
                        apply O_or [_, _, _, _, _, _, _, _, _, _, _, _, _, _, _] rfl rfl (hT := ?hT94) (h := ?hR94)
                        case hT94 =>
                          intro hb78
                          refine O_p rfl rfl rfl ?_
                          refine O_h rfl rfl rfl rfl ?_
                          refine O_p rfl rfl rfl ?_
                          refine O_p rfl rfl rfl ?_
                          apply O_and [_, _, _, _, _, _, _, _, _, _] rfl rfl (hT := ?hT93) (h := ?hR93)
                          case hT93 =>
                            intro hb82
                            refine O_p rfl rfl rfl ?_
                            refine O_h rfl rfl rfl rfl ?_
                            refine O_h rfl rfl rfl rfl ?_
                            refine O_p rfl rfl rfl ?_
                            refine O_p rfl rfl rfl ?_
                            apply O_or [_, _, _, _] rfl rfl (hT := ?hT92) (h := ?hR92)
                            case hT92 =>
                              intro hb87
                              refine O_p rfl rfl rfl ?_
                              refine O_h rfl rfl rfl rfl ?_
                              refine O_h rfl rfl rfl rfl ?_
                              refine O_p rfl rfl rfl ?_
                              exact WO_nil (WL_nil ⟨rfl, rfl, rfl⟩)
                            case hR92 =>
                              intro vs hvs
                              obtain ⟨u88, u89, u90, u91, rfl⟩ := len4 hvs
                              clear hvs; dsimp only [junk]
                              exact WO_nil (WL_nil ⟨rfl, rfl, rfl⟩)
                          case hR93 =>
                            intro vs hvs
                            obtain ⟨u83, u84, u85, u86, u87, u88, u89, u90, u91, u92, rfl⟩ := len10 hvs
                            clear hvs; dsimp only [junk]
                            exact WO_nil (WL_nil ⟨rfl, rfl, rfl⟩)
                        case hR94 =>
                          intro vs hvs
                          obtain ⟨u79, u80, u81, u82, u83, u84, u85, u86, u87, u88, u89, u90, u91, u92, u93, rfl⟩ := len15 hvs
                          clear hvs; dsimp only [junk]
                          refine WO_nil (WL_nil ⟨rfl, ?_⟩)
                          refine WL_seq ?_
                          apply WLp
                          · (repeat (first | exact rzz | apply rcc rfl | apply rnn rfl))
                          try clear u72 u73 u74 u75 u68 u69 u70 u71 u72 u73 u74 u75 u76 u88 u89 u90 u91 u83 u84 u85 u86 u87 u88 u89 u90 u91 u92 u79 u80 u81 u82 u83 u84 u85 u86 u87 u88 u89 u90 u91 u92 u93
                          refine WL_cond rfl (fun h94 => ?_) (fun h94 => ?_)
                          · skip
                            have hr : rightT t (d + 1) = false := by
                              rw [y0a]
                              have : okT t = false := by
                                cases q : okT t with
                                | false => rfl
                                | true =>
                                  unfold okT at q; simp at q h94
                                  obtain ⟨⟨q1, q2⟩, q3⟩ := q
                                  by_cases hf1 : t.fn = 1 <;> simp [hf1, q2] at q3 h94 <;> first | omega | simp_all
                              simp [this]
                            refine WL_seq ?_
                            refine WL_reg ?_
                            refine O_p rfl rfl rfl ?_
                            refine WO_nil ?_
                            refine WL_ret ?_
                            exact ⟨_, rfl, _, rfl, by rw [hr]⟩
                          · skip
                            have hok : okT t = true := by
                              unfold okT; simp at h94 h56 ⊢
                              obtain ⟨⟨q1, q2⟩, q3⟩ := h94
                              refine ⟨⟨⟨⟨⟨⟨⟨⟨by omega, by omega⟩, by omega⟩, by omega⟩, by omega⟩, by omega⟩, ?_⟩, q1⟩, ?_⟩
                              · cases ha : t.all <;> simp [ha] at h56 ⊢; exact h56
                              · by_cases hf1 : t.fn = 1 <;> simp [hf1] at q2 q3 ⊢ <;> first | omega | exact q2
                            refine WL_skip ?_
                            refine WL_seq ?_
                            apply WLp
                            · (repeat (first | exact rzz | apply rcc rfl | apply rnn rfl))
                            refine WL_seq ?_
                            refine WL_seq ?_
                            refine WL_reg ?_
                            refine O_p rfl rfl rfl ?_
                            refine WO_nil ?_
                            refine WL_seq ?_
                            apply WLp
                            · (repeat (first | exact rzz | apply rcc rfl | apply rnn rfl))
                            refine WL_block ?_
                            apply WL_forc (α := Nat) (fun i => [(6, .int .i64 (i : Nat))]) (fun i => i ≤ t.pairs.length ∧ rightTs t.pairs d = rightTs (t.pairs.drop i) d) (fun i => t.pairs.length - i) (0) (he := ?he) (hP := ?hP) (hk := ?hk) (round := ?round)
                            case he =>
                              (repeat (first | exact rzz | apply rcc rfl | apply rnn rfl))
                            case hP =>
                              exact ⟨by omega, rfl⟩
                            case hk =>
                              show t.pairs.length - 0 < n; omega
                            case round =>
                              rintro i ⟨hi, hs⟩
                              dsimp only [List.cons_append, List.nil_append] at *
                              refine WL_seq ?_
                              refine WL_seq ?_
                              refine WL_reg ?_
                              refine O_p rfl rfl rfl ?_
                              refine O_p rfl rfl rfl ?_
                              refine O_h rfl rfl rfl rfl ?_
                              refine O_h rfl rfl rfl rfl ?_
                              refine O_p rfl rfl rfl ?_
                              refine WO_nil ?_
                              refine WL_seq ?_
                              apply WLp
                              · (repeat (first | exact rzz | apply rcc rfl | apply rnn rfl))
                              refine WL_cond rfl (fun h99 => ?_) (fun h99 => ?_)
                              · skip
                                simp at h99
                                obtain ⟨x, hx⟩ : ∃ x, (t.pairs)[i]? = some x := ⟨_, List.getElem?_eq_getElem (by omega)⟩
                                have hmx := List.mem_of_getElem? hx
                                have hsx := szT_pairs hmx
                                have hg := drop_of hx
                                refine WL_skip ?_
                                refine WL_seq ?_
                                apply WLp
                                · (repeat (first | exact rzz | apply rcc rfl | apply rnn rfl))
                                refine WL_seq ?_
                                refine WL_block ?_
                                refine WL_seq ?_
                                refine WL_reg ?_
                                refine O_p rfl rfl rfl ?_
                                refine O_h rfl rfl rfl rfl ?_
                                refine O_p rfl rfl rfl ?_
                                refine O_ia rfl rfl (Int.natCast_nonneg _) (encT_get (i := (i : Nat)) hx) (encT_flat _) rfl ?_
                                refine O_h rfl rfl rfl rfl ?_
                                refine O_p rfl rfl rfl ?_
                                refine O_p rfl rfl rfl ?_
                                refine O_c 33 rfl rfl (callA_of rfl (by rw [hl1]; exact ih x d (by omega) (w6 x hmx) (by omega))) ?_
                                refine O_p rfl rfl rfl ?_
                                refine WO_nil ?_
                                refine WL_seq ?_
                                apply WLp
                                · (repeat (first | exact rzz | apply rcc rfl | apply rnn rfl))
                                refine WL_cond rfl (fun h110 => ?_) (fun h110 => ?_)
                                · skip
                                  have hr : rightT t (d + 1) = false := by
                                    simp at h110
                                    rw [y0a, hs, hg]; simp [rightTs, h110]
                                  refine WL_seq ?_
                                  refine WL_reg ?_
                                  refine O_p rfl rfl rfl ?_
                                  refine WO_nil ?_
                                  refine WL_ret ?_
                                  refine Blk_ret ?_
                                  refine RndC_ret ?_
                                  refine Blk_ret ?_
                                  exact ⟨_, rfl, _, rfl, by rw [hr]⟩
                                · skip
                                  refine WL_skip ?_
                                  refine WL_nil ?_
                                  refine Blk_norm (?_ : WL _ _ _ _ _)
                                  refine WL_seq ?_
                                  apply WLp
                                  · (repeat (first | exact rzz | apply rcc rfl | apply rnn rfl))
                                  refine WL_reg ?_
                                  refine O_p rfl rfl rfl ?_
                                  refine O_p rfl rfl rfl ?_
                                  refine O_p rfl rfl rfl ?_
                                  refine WO_nil ?_
                                  refine WL_nil ?_
                                  simp at h110
                                  refine RndC_norm (i + 1) (by refine ⟨by omega, ?_⟩; rw [hs, hg, rightTs, h110]; rfl) (by show _ < _; omega) ?_ rfl
                                  · rw [wrap_succ (by omega)]; (repeat (first | exact rzz | apply rcc rfl | apply rnn rfl))
                              · skip
                                have hq : rightTs t.pairs d = true := by
                                  simp at h99
                                  rw [hs, List.drop_eq_nil_of_le (by omega)]; rfl
                                refine WL_exit ?_
                                refine RndC_exit ?_
                                refine Blk_exit (?_ : WL _ _ _ _ _)
                                refine WL_seq ?_
                                apply WLp
                                · (repeat (first | exact rzz | apply rcc rfl | apply rnn rfl))
                                refine WL_seq ?_
                                refine WL_seq ?_
                                refine WL_reg ?_
                                refine O_p rfl rfl rfl ?_
                                refine WO_nil ?_
                                refine WL_seq ?_
                                apply WLp
                                · (repeat (first | exact rzz | apply rcc rfl | apply rnn rfl))
                                refine WL_block ?_
                                apply WL_forc (α := Nat) (fun i => [(7, .int .i64 (i : Nat))]) (fun i => i ≤ t.funs.length ∧ rightTs t.funs d = rightTs (t.funs.drop i) d) (fun i => t.funs.length - i) (0) (he := ?he) (hP := ?hP) (hk := ?hk) (round := ?round)
                                case he =>
                                  (repeat (first | exact rzz | apply rcc rfl | apply rnn rfl))
                                case hP =>
                                  exact ⟨by omega, rfl⟩
                                case hk =>
                                  show t.funs.length - 0 < n; omega
                                case round =>
                                  rintro i ⟨hi, hs⟩
                                  dsimp only [List.cons_append, List.nil_append] at *
                                  refine WL_seq ?_
                                  refine WL_seq ?_
                                  refine WL_reg ?_
                                  refine O_p rfl rfl rfl ?_
                                  refine O_p rfl rfl rfl ?_
                                  refine O_h rfl rfl rfl rfl ?_
                                  refine O_h rfl rfl rfl rfl ?_
                                  refine O_p rfl rfl rfl ?_
                                  refine WO_nil ?_
                                  refine WL_seq ?_
                                  apply WLp
                                  · (repeat (first | exact rzz | apply rcc rfl | apply rnn rfl))
                                  refine WL_cond rfl (fun h115 => ?_) (fun h115 => ?_)
                                  · skip
                                    simp at h115
                                    obtain ⟨x, hx⟩ : ∃ x, (t.funs)[i]? = some x := ⟨_, List.getElem?_eq_getElem (by omega)⟩
                                    have hmx := List.mem_of_getElem? hx
                                    have hsx := szT_funs hmx
                                    have hg := drop_of hx
                                    refine WL_skip ?_
                                    refine WL_seq ?_
                                    apply WLp
                                    · (repeat (first | exact rzz | apply rcc rfl | apply rnn rfl))
                                    refine WL_seq ?_
                                    refine WL_block ?_
                                    refine WL_seq ?_
                                    refine WL_reg ?_
                                    refine O_p rfl rfl rfl ?_
                                    refine O_h rfl rfl rfl rfl ?_
                                    refine O_p rfl rfl rfl ?_
                                    refine O_ia rfl rfl (Int.natCast_nonneg _) (encT_get (i := (i : Nat)) hx) (encT_flat _) rfl ?_
                                    refine O_h rfl rfl rfl rfl ?_
                                    refine O_p rfl rfl rfl ?_
                                    refine O_p rfl rfl rfl ?_
                                    refine O_c 33 rfl rfl (callA_of rfl (by rw [hl1]; exact ih x d (by omega) (w7 x hmx) (by omega))) ?_
                                    refine O_p rfl rfl rfl ?_
                                    refine WO_nil ?_
                                    refine WL_seq ?_
                                    apply WLp
                                    · (repeat (first | exact rzz | apply rcc rfl | apply rnn rfl))
                                    refine WL_cond rfl (fun h126 => ?_) (fun h126 => ?_)
                                    · skip
                                      have hr : rightT t (d + 1) = false := by
                                        simp at h126
                                        rw [y0a, hs, hg]; simp [rightTs, h126]
                                      refine WL_seq ?_
                                      refine WL_reg ?_
                                      refine O_p rfl rfl rfl ?_
                                      refine WO_nil ?_
                                      refine WL_ret ?_
                                      refine Blk_ret ?_
                                      refine RndC_ret ?_
                                      refine Blk_ret ?_
                                      exact ⟨_, rfl, _, rfl, by rw [hr]⟩
                                    · skip
                                      refine WL_skip ?_
                                      refine WL_nil ?_
                                      refine Blk_norm (?_ : WL _ _ _ _ _)
                                      refine WL_seq ?_
                                      apply WLp
                                      · (repeat (first | exact rzz | apply rcc rfl | apply rnn rfl))
                                      refine WL_reg ?_
                                      refine O_p rfl rfl rfl ?_
                                      refine O_p rfl rfl rfl ?_
                                      refine O_p rfl rfl rfl ?_
                                      refine WO_nil ?_
                                      refine WL_nil ?_
                                      simp at h126
                                      refine RndC_norm (i + 1) (by refine ⟨by omega, ?_⟩; rw [hs, hg, rightTs, h126]; rfl) (by show _ < _; omega) ?_ rfl
                                      · rw [wrap_succ (by omega)]; (repeat (first | exact rzz | apply rcc rfl | apply rnn rfl))
                                  · skip
                                    have hr : rightT t (d + 1) = true := by
                                      simp at h115
                                      rw [y0a, hok, hq, hs, List.drop_eq_nil_of_le (by omega)]; rfl
                                    refine WL_exit ?_
                                    refine RndC_exit ?_
                                    refine Blk_exit (?_ : WL _ _ _ _ _)
                                    refine WL_seq ?_
                                    apply WLp
                                    · (repeat (first | exact rzz | apply rcc rfl | apply rnn rfl))
                                    refine WL_seq ?_
                                    refine WL_reg ?_
                                    refine O_p rfl rfl rfl ?_
                                    refine WO_nil ?_
                                    refine WL_ret ?_
                                    exact ⟨_, rfl, _, rfl, by rw [hr]⟩
theorem index_c (n : Nat) (l : List Ty) (b : Bool) (f : FuncId) (caps : List AVal) (p : Ty → Bool) (H : Heap) (hl : l.length < n) (hm : l.length < 9223372036854775808)
    (hf : ∀ x, x ∈ l → callA ⟨callF (tabOf tabL) n, n⟩ false f (vT x :: caps) H = some (.ok (.bool (p x)), H)) :
    callF (tabOf tabL) (n + 1) 134 [.lst (l.map encT) b, .fn f caps] H = some (.ok (.int .i64 (fidx p l 0)), H) := by
  refine callF_fin t134 ?_
  refine WL_seq ?_
  refine WL_reg ?_
  refine O_p rfl rfl rfl ?_
  refine WO_nil ?_
  refine WL_seq ?_
  apply WLp
  · (repeat (first | exact rzz | apply rcc rfl | apply rnn rfl))
  refine WL_seq ?_
  refine WL_seq ?_
  refine WL_reg ?_
  refine O_p rfl rfl rfl ?_
  refine O_h rfl rfl rfl rfl ?_
  refine O_p rfl rfl rfl ?_
  refine WO_nil ?_
  refine WL_seq ?_
  apply WLp
  · (repeat (first | exact rzz | apply rcc rfl | apply rnn rfl))
  refine WL_block ?_
  apply WL_forc (α := Nat) (fun i => [(8, .int .i64 (i : Nat))]) (fun i => i ≤ l.length ∧ fidx p l 0 = fidx p (l.drop i) i) (fun i => l.length - i) (0) (he := ?he) (hP := ?hP) (hk := ?hk) (round := ?round)
  case he =>
    (repeat (first | exact rzz | apply rcc rfl | apply rnn rfl))
  case hP =>
    exact ⟨by omega, rfl⟩
  case hk =>
    show l.length - 0 < n; omega
  case round =>
    rintro i ⟨hi, hs⟩
    dsimp only [List.cons_append, List.nil_append] at *
    refine WL_seq ?_
    refine WL_reg ?_
    refine O_p rfl rfl rfl ?_
    refine WO_nil ?_
    refine WL_seq ?_
    apply WLp
    · (repeat (first | exact rzz | apply rcc rfl | apply rnn rfl))
    refine WL_seq ?_
    refine WL_cond rfl (fun h9 => ?_) (fun h9 => ?_)
    · skip
      simp at h9
      obtain ⟨x, hx⟩ : ∃ x, (l)[i]? = some x := ⟨_, List.getElem?_eq_getElem (by omega)⟩
      have hmx := List.mem_of_getElem? hx
      have hg := drop_of hx
      refine WL_skip ?_
      refine WL_seq ?_
      apply WLp
      · (repeat (first | exact rzz | apply rcc rfl | apply rnn rfl))
      refine WL_seq ?_
      refine WL_block ?_
      refine WL_seq ?_
      refine WL_reg ?_
      refine O_p rfl rfl rfl ?_
      refine O_p rfl rfl rfl ?_
      refine WO_nil ?_
      refine WL_seq ?_
      apply WLp
      · (repeat (first | exact rzz | apply rcc rfl | apply rnn rfl))
      refine WL_seq ?_
      refine WL_reg ?_
      refine O_p rfl rfl rfl ?_
      refine O_p rfl rfl rfl ?_
      refine O_p rfl rfl rfl ?_
      refine O_ia rfl rfl (Int.natCast_nonneg _) (encT_get (i := (i : Nat)) hx) (encT_flat _) rfl ?_
      refine O_h rfl rfl rfl rfl ?_
      refine O_cv rfl rfl (hf x hmx) ?_
      refine WO_nil ?_
      refine WL_seq ?_
      apply WLp
      · (repeat (first | exact rzz | apply rcc rfl | apply rnn rfl))
      refine WL_cond rfl (fun h16 => ?_) (fun h16 => ?_)
      · skip
        have hr : fidx p l 0 = i := by
          rw [hs, hg]; simp [fidx, h16]
        refine WL_seq ?_
        refine WL_reg ?_
        refine O_p rfl rfl rfl ?_
        refine O_p rfl rfl rfl ?_
        refine WO_nil ?_
        refine WL_ret ?_
        refine Blk_ret ?_
        refine RndC_ret ?_
        refine Blk_ret ?_
        exact ⟨_, rfl, by rw [hr]; rfl, rfl⟩
      · skip
        refine WL_skip ?_
        refine WL_nil ?_
        refine Blk_norm (?_ : WL _ _ _ _ _)
        refine WL_seq ?_
        apply WLp
        · (repeat (first | exact rzz | apply rcc rfl | apply rnn rfl))
        refine WL_reg ?_
        refine O_p rfl rfl rfl ?_
        refine O_p rfl rfl rfl ?_
        refine WO_nil ?_
        refine WL_nil ?_
        refine RndC_norm (i + 1) (by refine ⟨by omega, ?_⟩; rw [hs, hg]; simp [fidx, h16]) (by show _ < _; omega) ?_ ?_
        · rw [wrap_succ (by omega)]; (repeat (first | exact rzz | apply rcc rfl | apply rnn rfl))
        · exact trunc_id (Nat.le_refl _)
    · skip
      have hr : fidx p l 0 = -1 := by
        simp at h9
        rw [hs, List.drop_eq_nil_of_le (by omega)]; rfl
      refine WL_exit ?_
      refine RndC_exit ?_
      refine Blk_exit (?_ : WL _ _ _ _ _)
      refine WL_seq ?_
      apply WLp
      · (repeat (first | exact rzz | apply rcc rfl | apply rnn rfl))
      refine WL_seq ?_
      refine WL_reg ?_
      refine O_p rfl rfl rfl ?_
      refine WO_nil ?_
      refine WL_ret ?_
      exact ⟨_, rfl, by rw [hr]; rfl, rfl⟩
theorem right_ref (n : Nat) (t : Ty) (h : szT t < n) (hw : WfT t) : pcall (tabOf tabL) (n + 1) 13 [vT t] = some (.ok (.bool (decide (rsz t 60 ≤ 300) && rightT t 20))) := by
  refine pcall_fin t13 ?_
  refine WL_seq ?_
  refine WL_reg ?_
  refine O_n rfl rfl rfl ?_
  refine O_p rfl rfl rfl ?_
  refine WO_nil ?_
  refine WL_seq ?_
  apply WLp
  · (repeat (first | exact rzz | apply rcc rfl | apply rnn rfl))
  refine WL_seq ?_
  refine WL_reg ?_
  refine O_h rfl rfl rfl rfl ?_
  refine O_c 32 rfl rfl (callA_of rfl (size_c n t 60 h hw (by omega))) ?_
  refine O_p rfl rfl rfl ?_
  refine O_p rfl rfl rfl ?_
  apply O_and [_, _] rfl rfl (hT := ?hT9) (h := ?hR9)
  case hT9 =>
    intro hb6
    refine O_h rfl rfl rfl rfl ?_
    refine O_c 33 rfl rfl (callA_of rfl (deep_c n t 20 h hw (by omega))) ?_
    exact WO_nil (WL_nil ⟨rfl, rfl, rfl⟩)
  case hR9 =>
    intro vs hvs
    obtain ⟨u7, u8, rfl⟩ := len2 hvs
    clear hvs; dsimp only [junk]
    refine O_p rfl rfl rfl ?_
    refine WO_nil ?_
    refine WL_ret ?_
    exact ⟨_, rfl, _, rfl, by congr 3; apply decide_eq_decide.2; omega⟩
end Go.Ev.Seat.TyS
namespace Go.Ev
set_option linter.unusedVariables false
open Go
def y0d (deps : List Nat) (f : Foot) : Nat → List Foot → Bool
  | _, [] => true
  | o, g :: gs => (!notIn o deps || disj g f) && y0d deps f (o + 1) gs
def okFs2 (all : List Foot) : Nat → List (AOper × Nat × List Nat) → List Foot → Bool
  | _, [], [] => true
  | i, p :: ps, f :: fs => y0d p.2.2 f 0 (all.take i) && okFs2 all (i + 1) ps fs
  | _, _, _ => false
theorem y2z (deps : List Nat) (f : Foot) : ∀ (o : Nat) (gs : List Foot), y0d deps f o gs = okEarlier deps f o gs
  | _, [] => rfl
  | o, g :: gs => by simp only [y0d, okEarlier, y2z deps f (o + 1) gs, Bool.or_comm]
theorem okFs2_eq (all : List Foot) : ∀ (i : Nat) (l : List (AOper × Nat × List Nat)) (fs : List Foot), okFs2 all i l fs = okFs all i l fs
  | _, [], [] => rfl
  | i, p :: ps, f :: fs => by simp only [okFs2, okFs, okFs2_eq all (i + 1) ps fs, y2z]
  | _, [], _ :: _ => rfl
  | _, _ :: _, [] => rfl
section
variable {C : Ctx} {cs : List ACode} {e : Env} {H : Heap} {Q : Post} {base : Nat} {l : List (AOper × Nat × List Nat)} {acc : List Foot} {K : List Foot → Env → Heap → Prop}
end
theorem O_push {C : Ctx} {cs : List ACode} {e : Env} {H : Heap} {Q : Post} {d es bytes o len es1 : Nat} {l : List AOper} {s x : AOpd} {xs : List AVal} {y : AVal} {b : Bool} (hs : s.ev e = some (.gl o len)) (hx : x.ev e = some (.lst [y] b)) (hb : H[o]? = some (.grow es1 xs none)) (hl : xs.length = len) (he : es1 = es ∨ es1 = 0)
    (hw : xs.all (fun y => decide (y.width = es)) = true) (hy : y.width = es) (hm : (len + 1) * bytes ≤ 140737488355328) {zs : List AVal} (hz : xs ++ [y] = zs) {H2 : Heap} (hH : H.set o (.grow es zs none) = H2)
    (h : WO C l cs ((d, .gl o (len + 1)) :: e) H2 Q) : WO C (⟨some d, .app es bytes false s x, none⟩ :: l) cs e H Q := by
  subst hl; subst hz; subst hH
  exact O_app hs hx hb rfl he hw (by simp [hy]) rfl (by simpa using hm) h
section
variable {C : Ctx} {cs : List ACode} {e : Env} {H : Heap} {Q : Post} {l : List AOper}
theorem O_iaa {d len es b o n : Nat} {x i : AOpd} {k : IntKind} (hx : x.ev e = some (.ptr b o)) (hi : i.ev e = some (.int k n)) (hn : n < len) (h : WO C l cs ((d, .ptr b (o + n * es)) :: e) H Q) : WO C (⟨some d, .iaa len es x i, none⟩ :: l) cs e H Q := by
  refine O_p rfl rfl (v := .ptr b (o + n * es)) ?_ h
  simp only [evP, hx, hi]
  rw [if_pos ⟨by omega, by omega⟩, Int.toNat_natCast]
theorem y3e {α : Type} (a : α) : ∀ (o : Nat) (vs : List α), o < vs.length → putCells o [a] vs = vs.set o a
  | 0, v :: vs, _ => rfl
  | o + 1, v :: vs, h => by
    have := y3e a o vs (by simpa using h)
    simp only [putCells, List.take_succ_cons, List.cons_append, List.length_singleton, List.set_cons_succ, List.cons.injEq, true_and] at this ⊢
    rw [Nat.add_right_comm, List.drop_succ_cons]; exact this
theorem O_st {b o : Nat} {x w : AOpd} {vs : List AVal} {v : AVal} (hx : x.ev e = some (.ptr b o)) (hv : w.ev e = some v) (hs : v.solid = true) (hw : v.flat = [v]) (hb : H[b]? = some (.cells vs)) (ho : o < vs.length) {ws : List AVal} (hws : vs.set o v = ws) {H2 : Heap} (hH : H.set b (.cells ws) = H2) (h : WO C l cs e H2 Q) : WO C (⟨none, .sts x w, none⟩ :: l) cs e H Q := by
  subst hws; subst hH
  refine O_hn rfl rfl rfl (v := undefA) ?_ h
  simp only [evH, hx, hv, storeA, hs, AVal.width, hw, List.length_singleton, hb]
  rw [if_pos ⟨trivial, trivial⟩, if_pos (by omega), y3e v o vs ho]
end
section
variable {imp : List Nat} {C : Ctx} {e : Env} {H : Heap} {l : List (AOper × Nat × List Nat)} {K : Env → Heap → Prop}
end
section
variable {C : Ctx} {cs : List ACode} {e : Env} {H : Heap} {base : Nat} {l : List (AOper × Nat × List Nat)} {acc : List Foot} {K : List Foot → Env → Heap → Prop}
end
end Go.Ev
namespace Go.Ev
set_option linter.unusedVariables false
set_option linter.unusedSimpArgs false
open Go
def Lim (p : Nat → Prop) : Prop := ∃ N, ∀ n, N ≤ n → p n
theorem Lim.of {p : Nat → Prop} (h : ∀ n, p n) : Lim p := ⟨0, fun n _ => h n⟩
theorem Lim.map {p q : Nat → Prop} (h1 : Lim p) (h : ∀ n, p n → q n) : Lim q := h1.elim fun N hN => ⟨N, fun n hn => h n (hN n hn)⟩
theorem Lim.map2 {p q r : Nat → Prop} (h1 : Lim p) (h2 : Lim q) (h : ∀ n, p n → q n → r n) : Lim r := by
  obtain ⟨N, hN⟩ := h1
  obtain ⟨M, hM⟩ := h2
  exact ⟨N + M, fun n hn => h n (hN n (by omega)) (hM n (by omega))⟩
theorem Lim.succ {p : Nat → Prop} (h : Lim fun n => p (n + 1)) : Lim p := by
  obtain ⟨N, hN⟩ := h
  refine ⟨N + 1, fun n hn => ?_⟩
  obtain ⟨m, rfl⟩ : ∃ m, n = m + 1 := ⟨n - 1, by omega⟩
  exact hN m (by omega)
theorem Lim.get {p : Nat → Prop} (h : Lim p) : ∃ n, p n := h.elim fun N hN => ⟨N, hN N (Nat.le_refl _)⟩
abbrev Cn (T : Nat → Option AFunc) (n : Nat) : Ctx := ⟨callF T n, n⟩
section
variable (T : Nat → Option AFunc)
def PRes (f : FuncId) (as : List AVal) (v : AVal) : Prop := Lim fun n => pcall T n f as = some (.ok v)
def CA (raw : Bool) (f : FuncId) (vs : List AVal) (H : Heap) (v : AVal) (H' : Heap) : Prop := Lim fun n => callA (Cn T n) raw f vs H = some (.ok v, H')
def GL : List ACode → Env → Heap → Post → Prop
  | [], e, H, Q => Q .norm e H
  | c :: cs, e, H, Q => ∃ x e' H', (Lim fun n => evalCode (Cn T n) c e H = some (x, e', H')) ∧ match x with
    | .norm => GL cs e' H' Q
    | x => Q x e' H'
def GO (l : List AOper) (cs : List ACode) (e : Env) (H : Heap) (Q : Post) : Prop :=
  ∃ x e' H', (Lim fun n => evalOps (Cn T n) l e H = some (x, e', H')) ∧ match x with
    | .norm => GL T cs e' H' Q
    | x => Q x e' H'
def GLoop (base : Nat) (keep : List Nat) (a : ACode) (e : Env) (H : Heap) (Q : Post) : Prop :=
  ∃ x e' H', (∃ N, ∀ n m, N ≤ n → N ≤ m → iter m (fun e' H' => evalCode (Cn T n) a (restr e' keep) (trunc base (restr e' keep) H')) e H = some (x, e', H')) ∧ x ≠ .norm ∧ Q x e' H'
end
section
variable {T : Nat → Option AFunc} {cs : List ACode} {e e' : Env} {H H' : Heap} {Q : Post}
theorem PRes.of_lt {f : FuncId} {as : List AVal} {v : AVal} (N : Nat) (h : ∀ n, N < n → pcall T n f as = some (.ok v)) : PRes T f as v := ⟨N + 1, fun n hn => h n (by omega)⟩
theorem PRes.of_le {f : FuncId} {as : List AVal} {v : AVal} (N : Nat) (h : ∀ n, pcall T (n + N) f as = some (.ok v)) : PRes T f as v := ⟨N, fun n hn => by
  have := h (n - N); rwa [show n - N + N = n by omega] at this⟩
theorem CA_of {f : FuncId} {vs as : List AVal} {v : AVal} {H : Heap} (hs : shutL H vs = some as) (h : PRes T f as v) : CA T false f vs H v H := h.map fun n hn => callA_of hs hn
theorem L_nil (h : Q .norm e H) : GL T [] e H Q := h
theorem L_skip (h : GL T cs e H Q) : GL T (.skip :: cs) e H Q := ⟨.norm, e, H, .of fun _ => rfl, h⟩
theorem L_ret (h : Q .ret e H) : GL T (.ret :: cs) e H Q := ⟨.ret, e, H, .of fun _ => rfl, h⟩
theorem L_exit {id : Nat} (h : Q (.exit id) e H) : GL T (.exit id :: cs) e H Q := ⟨.exit id, e, H, .of fun _ => rfl, h⟩
theorem L_own {t : Nat} {off : Option Nat} (h1 : ownA t off e H = (e', H')) (h : GL T cs e' H' Q) : GL T (.own t off :: cs) e H Q := ⟨.norm, _, _, .of fun _ => rfl, by rw [h1]; exact h⟩
theorem L_seq {a b : ACode} (h : GL T (a :: b :: cs) e H Q) : GL T (.seq a b :: cs) e H Q := by
  obtain ⟨x, e1, H1, h1, h2⟩ := h
  cases x with
  | norm =>
    obtain ⟨y, e2, H2, h3, h4⟩ := h2
    exact ⟨y, e2, H2, h1.map2 h3 fun n k1 k2 => by simp only [evalCode, k1, k2], h4⟩
  | exit i => exact ⟨.exit i, e1, H1, h1.map fun n k => by simp only [evalCode, k], h2⟩
  | ret => exact ⟨.ret, e1, H1, h1.map fun n k => by simp only [evalCode, k], h2⟩
  | pan v => exact ⟨.pan v, e1, H1, h1.map fun n k => by simp only [evalCode, k], h2⟩
theorem L_reg {l : List AOper} (h : GO T l cs e H Q) : GL T (.reg l :: cs) e H Q := h
theorem L_T {x : AOpd} {a b : ACode} {t : Bool} (hx : x.ev e = some (.bool t)) (ht : t = true) (h : GL T (a :: cs) e H Q) : GL T (.cond x a b :: cs) e H Q := by
  subst ht
  obtain ⟨y, e2, H2, h3, h4⟩ := h
  exact ⟨y, e2, H2, h3.map fun n k => by simp only [evalCode, hx, if_true, k], h4⟩
theorem L_F {x : AOpd} {a b : ACode} {t : Bool} (hx : x.ev e = some (.bool t)) (ht : t = false) (h : GL T (b :: cs) e H Q) : GL T (.cond x a b :: cs) e H Q := by
  subst ht
  obtain ⟨y, e2, H2, h3, h4⟩ := h
  exact ⟨y, e2, H2, h3.map fun n k => by simp only [evalCode, hx, Bool.false_eq_true, if_false, k], h4⟩
theorem L_block {id : Nat} {a : ACode} (h : GL T [a] e H (Blk id (fun e' H' => GL T cs e' H' Q) Q)) : GL T (.block id a :: cs) e H Q := by
  obtain ⟨x, e1, H1, h1, h2⟩ := h
  cases x with
  | norm => exact ⟨.norm, e1, H1, h1.map fun n k => by simp only [evalCode, k], h2⟩
  | exit j =>
    simp only [Blk] at h2
    split at h2
    · rename_i hj; exact ⟨.norm, e1, H1, h1.map fun n k => by simp only [evalCode, k, hj, if_true], h2⟩
    · rename_i hj; exact ⟨.exit j, e1, H1, h1.map fun n k => by simp only [evalCode, k, hj, if_false], h2⟩
  | ret => exact ⟨.ret, e1, H1, h1.map fun n k => by simp only [evalCode, k], h2⟩
  | pan v => exact ⟨.pan v, e1, H1, h1.map fun n k => by simp only [evalCode, k], h2⟩
def Rd (K : Env → Heap → Prop) (Q : Post) : Post
  | .norm, e, H => K e H
  | x, e, H => Q x e H
theorem Rd_norm {K : Env → Heap → Prop} (h : K e H) : Rd K Q .norm e H := h
theorem Rd_exit {K : Env → Heap → Prop} {j : Nat} (h : Q (.exit j) e H) : Rd K Q (.exit j) e H := h
theorem Rd_ret {K : Env → Heap → Prop} (h : Q .ret e H) : Rd K Q .ret e H := h
theorem L_round {base : Nat} {keep : List Nat} {a : ACode} {e1 : Env} {H1 : Heap} (he : restr e keep = e1) (hH : trunc base e1 H = H1) (h : GL T [a] e1 H1 (Rd (fun e' H' => GLoop T base keep a e' H' Q) Q)) : GLoop T base keep a e H Q := by
  subst he hH
  obtain ⟨x, e1, H1, ⟨N, hN⟩, h2⟩ := h
  cases x with
  | norm =>
    obtain ⟨y, e2, H2, ⟨M, hM⟩, h3, h4⟩ := h2
    refine ⟨y, e2, H2, ⟨N + M + 1, fun n m hn hm => ?_⟩, h3, h4⟩
    obtain ⟨m, rfl⟩ : ∃ k, m = k + 1 := ⟨m - 1, by omega⟩
    simp only [iter, hN n (by omega), hM n m (by omega) (by omega)]
  | exit i =>
    refine ⟨.exit i, e1, H1, ⟨N + 1, fun n m hn hm => ?_⟩, by simp, h2⟩
    obtain ⟨m, rfl⟩ : ∃ k, m = k + 1 := ⟨m - 1, by omega⟩
    simp only [iter, hN n (by omega)]
  | ret =>
    refine ⟨.ret, e1, H1, ⟨N + 1, fun n m hn hm => ?_⟩, by simp, h2⟩
    obtain ⟨m, rfl⟩ : ∃ k, m = k + 1 := ⟨m - 1, by omega⟩
    simp only [iter, hN n (by omega)]
  | pan v =>
    refine ⟨.pan v, e1, H1, ⟨N + 1, fun n m hn hm => ?_⟩, by simp, h2⟩
    obtain ⟨m, rfl⟩ : ∃ k, m = k + 1 := ⟨m - 1, by omega⟩
    simp only [iter, hN n (by omega)]
theorem L_loop {keep : List Nat} {a : ACode} (h : GLoop T H.length keep a e H Q) : GL T (.loop keep a :: cs) e H Q := by
  obtain ⟨x, e1, H1, ⟨N, hN⟩, h2, h3⟩ := h
  refine ⟨x, e1, H1, ⟨N, fun n hn => hN n n hn hn⟩, ?_⟩
  cases x with
  | norm => exact absurd rfl h2
  | _ => exact h3
theorem G_nil (h : GL T cs e H Q) : GO T [] cs e H Q := ⟨.norm, e, H, .of fun _ => rfl, h⟩
theorem G_step {o : AOper} {l : List AOper} {v : AVal} (hg : wantedA e o.guard = some true) (hv : Lim fun n => evalOp (Cn T n) e H.length H o.op = some (.ok v, H')) (h : GO T l cs (e.put o.dst v) H' Q) : GO T (o :: l) cs e H Q := by
  obtain ⟨x, e1, H1, h1, h2⟩ := h
  exact ⟨x, e1, H1, hv.map2 h1 fun n k1 k2 => by simp only [evalOps, hg, k1, k2], h2⟩
section
variable {d : Nat} {op : AOp} {g : Option (Nat × Bool)} {l : List AOper} {v : AVal}
theorem G_p (hk : op.kind = .pure) (hg : wantedA e g = some true) (hv : evP e op = some v) (h : GO T l cs ((d, v) :: e) H Q) : GO T (⟨some d, op, g⟩ :: l) cs e H Q :=
  G_step (v := v) (H' := H) hg (.of fun n => by simp only [evalOp, hk, hv, okv]) h
theorem G_v {v : AVal} (v' : AVal) (hk : op.kind = .pure) (hg : wantedA e g = some true) (hv : evP e op = some v) (hvv : v = v') (h : GO T l cs ((d, v') :: e) H Q) : GO T (⟨some d, op, g⟩ :: l) cs e H Q := G_p hk hg (hvv ▸ hv) h
theorem G_n {B : ABlock} (hk : op.kind = .new) (hg : wantedA e g = some true) (hv : evN e H.length op = some (v, B)) (h : GO T l cs ((d, v) :: e) (H ++ [B]) Q) : GO T (⟨some d, op, g⟩ :: l) cs e H Q :=
  G_step (v := v) (H' := H ++ [B]) hg (.of fun n => by simp only [evalOp, hk, hv, newAt, if_true]) h
theorem G_h (hc : op.isCall = false) (hk : op.kind = .heap) (hg : wantedA e g = some true) (hv : ∀ C, evH C e H.length H op = some (.ok v, H')) (h : GO T l cs ((d, v) :: e) H' Q) : GO T (⟨some d, op, g⟩ :: l) cs e H Q :=
  G_step (v := v) (H' := H') hg (.of fun n => by simp only [evalOp, hk, hv]) h
theorem G_hn (hc : op.isCall = false) (hk : op.kind = .heap) (hg : wantedA e g = some true) (hv : ∀ C, evH C e H.length H op = some (.ok v, H')) (h : GO T l cs e H' Q) : GO T (⟨none, op, g⟩ :: l) cs e H Q :=
  G_step (v := v) (H' := H') hg (.of fun n => by simp only [evalOp, hk, hv]) h
theorem G_c {raw : Bool} (f : FuncId) {args : List AOpd} {vs : List AVal} (hg : wantedA e g = some true) (hvs : evs e args = some vs) (hv : CA T raw f vs H v H') (h : GO T l cs ((d, v) :: e) H' Q) : GO T (⟨some d, .call raw f args, g⟩ :: l) cs e H Q :=
  G_step (v := v) (H' := H') hg (hv.map fun n hn => by simp only [evalOp, AOp.kind, evH, hvs, hn]) h
end
theorem bare_offU {C : Ctx} {k : Nat} {w b : Bool} (hb : b ≠ w) : ∀ {blk l : List AOper} {ks seen : List Nat} {e : Env} {r : List AOper} {H : Heap}, bare k w seen blk = some (l, ks) → e.get k = some (.bool b) → (∀ d, d ∈ seen → e.get d = some undefA) →
    evalOps C (blk ++ r) e H = evalOps C r (junk ks (List.replicate ks.length undefA) e) H ∧ (junk ks (List.replicate ks.length undefA) e).get k = some (.bool b)
  | [], l, ks, seen, e, r, H, h, hk, hs => by
    simp only [bare, Option.some.injEq, Prod.mk.injEq] at h
    obtain ⟨rfl, rfl⟩ := h
    exact ⟨rfl, hk⟩
  | o :: blk, l, ks, seen, e, r, H, h, hk, hs => by
    obtain ⟨d, op, g⟩ := o
    cases d with
    | none => simp [bare] at h
    | some d =>
      cases g with
      | none => simp [bare] at h
      | some g =>
        obtain ⟨k', w'⟩ := g
        simp only [bare] at h
        split at h <;> first | (cases h; done) | skip
        rename_i hd
        have hdk : d ≠ k := by intro hh; subst hh; simp at hd
        have hseen : ∀ c, c ∈ d :: seen → Env.get ((d, undefA) :: e) c = some undefA := by
          intro c hc
          by_cases hcd : d = c
          · subst hcd; simp [Env.get]
          · rw [y0i hcd]
            rcases List.mem_cons.1 hc with h1 | h1
            · exact absurd h1.symm hcd
            · exact hs c h1
        split at h
        · rename_i hc
          simp only [Bool.and_eq_true, beq_iff_eq] at hc
          split at h <;> first | (cases h; done) | skip
          rename_i l' ks' hr
          simp only [Option.some.injEq, Prod.mk.injEq] at h
          obtain ⟨rfl, rfl⟩ := h
          have e1 := Nat.eq_of_beq_eq_true hc.1
          have e2 := hc.2
          subst e1 e2
          obtain ⟨h2, h3⟩ := bare_offU hb (e := (d, undefA) :: e) (r := r) (H := H) hr (by rw [y0i hdk]; exact hk) hseen
          refine ⟨?_, h3⟩
          have hbw : (b == w') = false := by simpa using hb
          simp only [List.cons_append, evalOps, wantedA, hk, hbw, Env.put]
          exact h2
        · split at h <;> first | (cases h; done) | skip
          rename_i hc
          simp only [Bool.and_eq_true, Bool.not_eq_true'] at hc
          split at h <;> first | (cases h; done) | skip
          rename_i l' ks' hr
          simp only [Option.some.injEq, Prod.mk.injEq] at h
          obtain ⟨rfl, rfl⟩ := h
          obtain ⟨h2, h3⟩ := bare_offU hb (e := (d, undefA) :: e) (r := r) (H := H) hr (by rw [y0i hdk]; exact hk) hseen
          refine ⟨?_, h3⟩
          have := hs k' (y2e hc.1)
          simp only [undefA] at this
          simp only [List.cons_append, evalOps, wantedA, this, Env.put]
          exact h2
theorem bare_onU {k : Nat} {w : Bool} {blk l : List AOper} {ks : List Nat} {e e1 : Env} {H : Heap} (hb : bare k w [] blk = some (l, ks)) (hk : e.get k = some (.bool w)) (h4 : Lim fun n => evalOps (Cn T n) l e H = some (.norm, e1, H)) :
    ∃ vs, vs.length = ks.length ∧ e1 = junk ks vs e ∧ (junk ks vs e).get k = some (.bool w) ∧ ∀ r, Lim fun n => evalOps (Cn T n) (blk ++ r) e H = evalOps (Cn T n) r (junk ks vs e) H := by
  obtain ⟨n0, hn0⟩ := h4.get
  obtain ⟨vs, h1, _, h3, h7⟩ := bare_on (C := Cn T n0) (w := w) (r := []) hb hk hn0
  refine ⟨vs, h1, h7, h3, fun r => h4.map fun n hn => ?_⟩
  obtain ⟨us, _, k2, _, k7⟩ := bare_on (C := Cn T n) (w := w) (r := r) hb hk hn
  rw [k2, ← k7, h7]
theorem G_pick (w : Bool) (blk : List AOper) {k d : Nat} {b : Bool} {v vo : AVal} {x y : AOpd} {l r : List AOper} {ks : List Nat} (hb : bare k w [] blk = some (l, ks)) (hk : e.get k = some (.bool b))
    (hT : b = w → GO T l [] e H (fun z e1 H1 => z = .norm ∧ H1 = H ∧ (if w then x.ev e1 else y.ev e1) = some v)) (hF : b ≠ w → v = vo) (ho : (if w then y else x) = .c vo)
    (h : ∀ vs, vs.length = ks.length → GO T r cs ((d, v) :: junk ks vs e) H Q) : GO T (blk ++ ⟨some d, .pick (.t k) x y, none⟩ :: r) cs e H Q := by
  by_cases hbw : b = w
  · subst hbw
    obtain ⟨z, e1, H1, h4, h5⟩ := hT rfl
    have h5' : z = .norm ∧ H1 = H ∧ (if b then x.ev e1 else y.ev e1) = some v := by
      cases z with
      | norm => exact h5
      | _ => exact h5
    obtain ⟨rfl, rfl, h6⟩ := h5'
    obtain ⟨vs, h1, rfl, h3, h7⟩ := bare_onU hb hk h4
    obtain ⟨z, e', H', h8, h9⟩ := h vs h1
    refine ⟨z, e', H', (h7 (⟨some d, .pick (.t k) x y, none⟩ :: r)).map2 h8 fun n k1 k2 => ?_, h9⟩
    rw [k1]
    cases b with
    | true =>
      simp only [if_true] at h6
      have h3' : (AOpd.t k).ev (junk ks vs e) = some (.bool true) := h3
      simp only [evalOps, wantedA, evalOp, AOp.kind, evP, h3', h6, okv, Env.put]
      exact k2
    | false =>
      simp only [Bool.false_eq_true, if_false] at h6
      have h3' : (AOpd.t k).ev (junk ks vs e) = some (.bool false) := h3
      simp only [evalOps, wantedA, evalOp, AOp.kind, evP, h3', h6, okv, Env.put]
      exact k2
  · obtain rfl := hF hbw
    obtain ⟨z, e', H', h4, h5⟩ := h (List.replicate ks.length undefA) (by simp)
    refine ⟨z, e', H', h4.map fun n k1 => ?_, h5⟩
    obtain ⟨h2, h3⟩ := bare_offU (C := Cn T n) hbw (r := ⟨some d, .pick (.t k) x y, none⟩ :: r) (H := H) hb hk (by simp)
    rw [h2]
    cases w with
    | true =>
      have hbf : b = false := by cases b <;> simp_all
      subst hbf
      simp only [if_true] at ho
      subst ho
      simp only [evalOps, wantedA, evalOp, AOp.kind, evP, AOpd.ev, h3, okv, Env.put]
      exact k1
    | false =>
      have hbt : b = true := by cases b <;> simp_all
      subst hbt
      simp only [Bool.false_eq_true, if_false] at ho
      subst ho
      simp only [evalOps, wantedA, evalOp, AOp.kind, evP, AOpd.ev, h3, okv, Env.put]
      exact k1
theorem G_and (blk : List AOper) {k s d : Nat} {b f : Bool} {l r : List AOper} {ks : List Nat} (hb : bare k true [] blk = some (l, ks)) (hk : e.get k = some (.bool b))
    (hT : b = true → GO T l [] e H (fun x e1 H1 => x = .norm ∧ H1 = H ∧ e1.get s = some (.bool f)))
    (h : ∀ vs, vs.length = ks.length → GO T r cs ((d, .bool (b && f)) :: junk ks vs e) H Q) : GO T (blk ++ ⟨some d, .pick (.t k) (.t s) (.c (.bool false)), none⟩ :: r) cs e H Q :=
  G_pick true blk hb hk (fun h1 => by subst h1; exact hT rfl) (fun h1 => by cases b <;> simp_all) rfl h
theorem G_or (blk : List AOper) {k s d : Nat} {b f : Bool} {l r : List AOper} {ks : List Nat} (hb : bare k false [] blk = some (l, ks)) (hk : e.get k = some (.bool b))
    (hT : b = false → GO T l [] e H (fun x e1 H1 => x = .norm ∧ H1 = H ∧ e1.get s = some (.bool f)))
    (h : ∀ vs, vs.length = ks.length → GO T r cs ((d, .bool (b || f)) :: junk ks vs e) H Q) : GO T (blk ++ ⟨some d, .pick (.t k) (.c (.bool true)) (.t s), none⟩ :: r) cs e H Q :=
  G_pick false blk hb hk (fun h1 => by subst h1; exact hT rfl) (fun h1 => by cases b <;> simp_all) rfl h
theorem L_drawS {l : List (AOper × Nat × List Nat)} {ops : List AOper} (hs : statOk [] l = true) (ho : l.map (·.1) = ops) (h : GO T ops [] e H (fun x e' H' => x = .norm ∧ GL T cs e' H' Q)) : GL T (.draw 0 l :: cs) e H Q := by
  subst ho
  obtain ⟨x, e1, H1, h1, h2⟩ := h
  have h2' : x = .norm ∧ GL T cs e1 H1 Q := by
    cases x with
    | norm => exact h2
    | _ => exact h2
  obtain ⟨rfl, h3⟩ := h2'
  refine ⟨.norm, e1, H1, h1.map fun n hn => ?_, h3⟩
  obtain ⟨fs, k1, k2⟩ := runD_seq (base := H.length) (gs := []) hs .nil hn
  simp only [evalCode, evalDraw, List.replicate_zero, List.append_nil, k1]
  exact if_pos (k2 fs rfl)
section
variable {imp : List Nat} {l : List (AOper × Nat × List Nat)} {K : Env → Heap → Prop} {d j : Nat} {ds : List Nat} {op : AOp} {g : Option (Nat × Bool)} {v : AVal}
end
def GD (T : Nat → Option AFunc) (base : Nat) (l : List (AOper × Nat × List Nat)) (acc : List Foot) (e : Env) (H : Heap) (K : List Foot → Env → Heap → Prop) : Prop :=
  ∃ fs e' H', (Lim fun n => runD (Cn T n) base l e H = some (fs, e', H')) ∧ K (acc ++ fs) e' H'
theorem L_draw {m : Nat} {l : List (AOper × Nat × List Nat)} (h : GD T H.length l [] e (H ++ List.replicate m .hole) (fun fs e' H' => okFs fs 0 l fs = true ∧ GL T cs e' H' Q)) : GL T (.draw m l :: cs) e H Q := by
  obtain ⟨fs, e1, H1, h1, h2, h3⟩ := h
  refine ⟨.norm, e1, H1, h1.map fun n hn => ?_, h3⟩
  rw [List.nil_append] at h2
  simp only [evalCode, evalDraw, hn, h2, if_true]
theorem L_draw0 {l : List (AOper × Nat × List Nat)} (h : GD T H.length l [] e H (fun fs e' H' => okFs fs 0 l fs = true ∧ GL T cs e' H' Q)) : GL T (.draw 0 l :: cs) e H Q := by
  refine L_draw ?_
  rw [show H ++ List.replicate 0 ABlock.hole = H by simp]
  exact h
section
variable {base : Nat} {l : List (AOper × Nat × List Nat)} {acc : List Foot} {K : List Foot → Env → Heap → Prop} {d j : Nat} {ds : List Nat} {op : AOp} {g : Option (Nat × Bool)} {v : AVal}
theorem GD_nil (h : K acc e H) : GD T base [] acc e H K := ⟨[], e, H, .of fun _ => rfl, by rw [List.append_nil]; exact h⟩
theorem GD_nil2 {all : List (AOper × Nat × List Nat)} (h1 : okFs2 acc 0 all acc = true) (h2 : GL T cs e H Q) : GD T base [] acc e H (fun fs e' H' => okFs fs 0 all fs = true ∧ GL T cs e' H' Q) :=
  GD_nil ⟨by rw [← okFs2_eq]; exact h1, h2⟩
theorem GD_step {o : AOper} {f : Foot} (hv : Lim fun n => stepV (Cn T n) base o j e H = some (f, v, H')) (h : GD T base l (acc ++ [f]) (e.put o.dst v) H' K) : GD T base ((o, j, ds) :: l) acc e H K := by
  obtain ⟨fs, e1, H1, h1, h2⟩ := h
  refine ⟨f :: fs, e1, H1, hv.map2 h1 fun n k1 k2 => by simp only [runD, k1, k2], ?_⟩
  rw [List.append_assoc] at h2
  exact h2
theorem GD_p (hk : op.kind = .pure) (hg : wantedA e g = some true) (hv : evP e op = some v) (h : GD T base l (acc ++ [.io [] []]) ((d, v) :: e) H K) : GD T base ((⟨some d, op, g⟩, j, ds) :: l) acc e H K :=
  GD_step (f := .io [] []) (v := v) (H' := H) (.of fun n => by simp [stepV, hg, hk, evalOp, hv, okv, footA]) h
theorem GD_v (v' : AVal) (hk : op.kind = .pure) (hg : wantedA e g = some true) (hv : evP e op = some v) (hvv : v = v') (h : GD T base l (acc ++ [.io [] []]) ((d, v') :: e) H K) : GD T base ((⟨some d, op, g⟩, j, ds) :: l) acc e H K :=
  GD_p hk hg (hvv ▸ hv) h
theorem GD_s (hg : wantedA e g = some false) (h : GD T base l (acc ++ [.io [] []]) ((d, undefA) :: e) H K) : GD T base ((⟨some d, op, g⟩, j, ds) :: l) acc e H K :=
  GD_step (f := .io [] []) (v := undefA) (H' := H) (.of fun n => by simp [stepV, hg]) h
theorem GD_h {d : Option Nat} {r w : List Nat} (hc : op.isCall = false) (hk : op.kind = .heap) (hg : wantedA e g = some true) (hf : footH e H op = some (r, w)) (hv : ∀ C, evH C e (base + j) H op = some (.ok v, H'))
    (h : GD T base l (acc ++ [.io r w]) (e.put d v) H' K) : GD T base ((⟨d, op, g⟩, j, ds) :: l) acc e H K :=
  GD_step (f := .io r w) (v := v) (H' := H') (.of fun n => by simp [stepV, hg, hk, evalOp, hv, footA, hf]) h
theorem GD_c (f : FuncId) {args : List AOpd} {vs as : List AVal} (hg : wantedA e g = some true) (hvs : evs e args = some vs) (hs : shutL H vs = some as) (hv : CA T false f vs H v H)
    (h : GD T base l (acc ++ [.io (glsL vs) []]) ((d, v) :: e) H K) : GD T base ((⟨some d, .call false f args, g⟩, j, ds) :: l) acc e H K :=
  GD_step (f := .io (glsL vs) []) (v := v) (H' := H) (hv.map fun n hn => by simp [stepV, hg, AOp.kind, evalOp, evH, hvs, hn, footA, footH, footArgs, hs]) h
end
theorem pres_fin {f : Nat} {body : ACode} {rs : List ARes} {as : List AVal} {v : AVal} (h : T f = some ⟨body, rs⟩)
    (hw : GL T [body] (initEnv 0 as) [] (FinQ rs (.ok v))) : PRes T f as v := by
  obtain ⟨x, e1, H1, h1, h2⟩ := hw
  refine Lim.succ (h1.map fun n hn => ?_)
  rw [y4l h, show (⟨callF T n, n⟩ : Ctx) = Cn T n from rfl, hn]
  cases x with
  | norm =>
    obtain ⟨vs, h3, v, h4, h5⟩ := h2
    cases h5
    simp only [finish, h3, pureRes, h4]
  | ret =>
    obtain ⟨vs, h3, v, h4, h5⟩ := h2
    cases h5
    simp only [finish, h3, pureRes, h4]
  | pan v =>
    obtain ⟨v', h3, h5⟩ := h2
    cases h5
  | exit i => exact h2.elim
theorem GL_nilI : GL T [] e H Q ↔ Q .norm e H := Iff.rfl
theorem GL_consI {c : ACode} : GL T (c :: cs) e H Q ↔ ∃ x e' H', (Lim fun n => evalCode (Cn T n) c e H = some (x, e', H')) ∧ match x with
    | .norm => GL T cs e' H' Q
    | x => Q x e' H' := Iff.rfl
theorem GL_mono {Q' : Post} (hq : ∀ x e H, Q x e H → Q' x e H) : ∀ {cs : List ACode} {e : Env} {H : Heap}, GL T cs e H Q → GL T cs e H Q'
  | [], e, H, h => hq _ _ _ h
  | c :: cs, e, H, h => by
    obtain ⟨x, e1, H1, h1, h2⟩ := h
    refine ⟨x, e1, H1, h1, ?_⟩
    cases x with
    | norm => exact GL_mono hq h2
    | exit i => exact hq _ _ _ h2
    | ret => exact hq _ _ _ h2
    | pan v => exact hq _ _ _ h2
theorem Rd_mono {K K' : Env → Heap → Prop} (hk : ∀ e H, K e H → K' e H) : ∀ x e H, Rd K Q x e H → Rd K' Q x e H
  | .norm, e, H, h => hk _ _ h
  | .exit i, e, H, h => h
  | .ret, e, H, h => h
  | .pan v, e, H, h => h
end
attribute [irreducible] GL GO GLoop GD
end Go.Ev
namespace Go.Ev
set_option linter.unusedVariables false
set_option linter.unusedSimpArgs false
open Go
theorem bind_s {α β : Type} {o : Option α} {f : α → Option β} {r : β} (h : o.bind f = some r) : ∃ x, o = some x ∧ f x = some r := by
  cases o with
  | none => cases h
  | some x => exact ⟨x, rfl, h⟩
theorem cond_s {α : Type} {c : Bool} {a b : Option α} {r : α} (h : cond c a b = some r) : (c = true ∧ a = some r) ∨ (c = false ∧ b = some r) := by
  cases c with
  | true => exact .inl ⟨rfl, h⟩
  | false => exact .inr ⟨rfl, h⟩
theorem some_s {α : Type} {a b : α} (h : some a = some b) : a = b := Option.some.inj h
theorem guard_s {α : Type} {c : Bool} {a : Option α} {r : α} (h : cond c a none = some r) : c = true ∧ a = some r := by
  cases c with
  | true => exact ⟨rfl, h⟩
  | false => cases h
theorem condF {α : Type} {c : Bool} {a b : Option α} {r : α} (hc : c = false) (h : cond c a b = some r) : b = some r := by subst hc; exact h
theorem pickF {c f v : Bool} {a : Option Bool} (h : cond c (some f) a = some v) (hc : c ≠ false) : AVal.bool v = .bool f := by
  cases c with
  | false => exact absurd rfl hc
  | true => cases h; rfl
def okLen {α : Type} (l : List α) : Bool := decide (l.length < 100000000000)
theorem okLen_s {α : Type} {l : List α} (h : okLen l = true) : l.length < 100000000000 := of_decide_eq_true h
theorem okLen_of {α : Type} {l : List α} (h : l.length < 100000000000) : okLen l = true := decide_eq_true h
def idx {α : Type} (l : List α) (i : Int) : Option α := if 0 ≤ i then l[i.toNat]? else none
theorem idx_s {α : Type} {l : List α} {i : Int} {x : α} (h : idx l i = some x) : 0 ≤ i ∧ l[i.toNat]? = some x := by
  unfold idx at h
  split at h
  · rename_i h0; exact ⟨h0, h⟩
  · cases h
theorem idx_nat {α : Type} (l : List α) (i : Nat) : idx l (i : Int) = l[i]? := by unfold idx; rw [if_pos (Int.natCast_nonneg _), Int.toNat_natCast]
def catL {α : Type} (l m : List α) : Option (List α) := if l.length + m.length < 100000000000 then some (l ++ m) else none
theorem catL_s {α : Type} {l m r : List α} (h : catL l m = some r) : r = l ++ m ∧ l.length + m.length < 100000000000 := by
  unfold catL at h
  split at h
  · rename_i h0; cases h; exact ⟨rfl, h0⟩
  · cases h
theorem catL_of {α : Type} {l m : List α} (h : l.length + m.length < 100000000000) : catL l m = some (l ++ m) := if_pos h
def subL {α : Type} (l : List α) (lo hi : Int) : Option (List α) := if 0 ≤ lo ∧ lo ≤ hi ∧ hi ≤ l.length then some ((l.take hi.toNat).drop lo.toNat) else none
def remI (k : IntKind) (a b : Int) : Option Int := if b = 0 then none else some (a.tmod b)
def esz (w n : Nat) : Nat := if n = 0 then 0 else w
theorem esz_or (w n : Nat) : esz w n = w ∨ esz w n = 0 := by unfold esz; split <;> simp
def growM {α : Type} (w : Nat) (f : α → AVal) (l : List α) : ABlock := .grow (esz w l.length) (l.map f) none
theorem growM_w {α : Type} {w : Nat} {f : α → AVal} (hf : ∀ x, (f x).width = w) (l : List α) : (l.map f).all (fun y => decide (y.width = w)) = true := by
  rw [List.all_eq_true]
  intro y hy
  obtain ⟨x, _, rfl⟩ := List.mem_map.1 hy
  simp [hf]
theorem map_get {α : Type} {f : α → AVal} {l : List α} {n : Nat} {x : α} (h : l[n]? = some x) : (l.map f)[n]? = some (f x) := by rw [List.getElem?_map, h]; rfl
theorem shutV_gl {α : Type} {H : Heap} {o w : Nat} {f : α → AVal} {l : List α} (h : H[o]? = some (growM w f l)) : shutV H (.gl o l.length) = some (.lst (l.map f) false) := by
  simp [shutV, growAt, h, growM]
theorem wrap_next {i n : Nat} (h : n < 100000000000) (hi : i < n) : IntKind.i64.wrap ((i : Int) + 1) = ((i + 1 : Nat) : Int) := by
  rw [kw_i64_id (by omega) (by omega)]; rfl
section
variable {T : Nat → Option AFunc} {cs : List ACode} {e e' : Env} {H H' : Heap} {Q : Post}
def Sm (keep : List Nat) (frz : List (Nat × Option Nat)) (n : Nat) (K : Env → Heap → Prop) (Q : Post) : Post
  | .norm, e, H => K (stmtE keep frz e H) (stmtH n keep frz e H)
  | x, e, H => Q x e H
theorem Sm_norm {keep : List Nat} {frz : List (Nat × Option Nat)} {n : Nat} {K : Env → Heap → Prop} {e1 e2 : Env} {H1 H2 : Heap} (h0 : frzAll frz e H = (e1, H1)) (h1 : restr e1 keep = e2) (h2 : trunc n e2 H1 = H2) (h : K e2 H2) : Sm keep frz n K Q .norm e H := by
  subst h1 h2
  show K (stmtE keep frz e H) (stmtH n keep frz e H)
  unfold stmtH stmtE
  rw [h0]; exact h
theorem Sm_exit {keep : List Nat} {frz : List (Nat × Option Nat)} {n : Nat} {K : Env → Heap → Prop} {j : Nat} (h : Q (.exit j) e H) : Sm keep frz n K Q (.exit j) e H := h
theorem Sm_ret {keep : List Nat} {frz : List (Nat × Option Nat)} {n : Nat} {K : Env → Heap → Prop} (h : Q .ret e H) : Sm keep frz n K Q .ret e H := h
theorem L_stmt {keep : List Nat} {frz : List (Nat × Option Nat)} {a : ACode} (h : GL T [a] e H (Sm keep frz H.length (fun e' H' => GL T cs e' H' Q) Q)) : GL T (.stmt keep frz a :: cs) e H Q := by
  rw [GL_consI] at h ⊢
  obtain ⟨x, e1, H1, h1, h2⟩ := h
  cases x with
  | norm =>
    rw [GL_nilI] at h2
    exact ⟨.norm, _, _, h1.map fun n k => by simp only [evalCode, k], h2⟩
  | exit i => exact ⟨.exit i, e1, H1, h1.map fun n k => by simp only [evalCode, k], h2⟩
  | ret => exact ⟨.ret, e1, H1, h1.map fun n k => by simp only [evalCode, k], h2⟩
  | pan v => exact ⟨.pan v, e1, H1, h1.map fun n k => by simp only [evalCode, k], h2⟩
theorem L_stmtJ {S : Type} {keep : List Nat} {frz : List (Nat × Option Nat)} {a : ACode} (envs : S → Env) (heaps : S → Heap) (P : S → Prop) (h1 : GL T [a] e H (Sm keep frz H.length (fun e' H' => ∃ s, e' = envs s ∧ H' = heaps s ∧ P s) Q)) (h2 : ∀ s, P s → GL T cs (envs s) (heaps s) Q) :
    GL T (.stmt keep frz a :: cs) e H Q := by
  refine L_stmt (GL_mono ?_ h1)
  intro x e1 H1 h
  cases x with
  | norm => obtain ⟨s, k1, k2, k3⟩ := h; show GL T cs _ _ Q; rw [k1, k2]; exact h2 s k3
  | exit i => exact h
  | ret => exact h
  | pan v => exact h
theorem frz_c {t : Nat} {off : Option Nat} {r : List (Nat × Option Nat)} {e1 : Env} {H1 : Heap} {R : Env × Heap} (h1 : frzA t off e H = (e1, H1)) (h2 : frzAll r e1 H1 = R) : frzAll ((t, off) :: r) e H = R := by
  simp only [frzAll, h1]; exact h2
theorem frz_gl {α : Type} {t o w : Nat} {f : α → AVal} {l : List α} (h1 : e.get t = some (.gl o l.length)) (h2 : H[o]? = some (growM w f l)) : frzA t none e H = ((t, .lst (l.map f) false) :: e, H) := by
  simp only [frzA, h1, frzV, shutV_gl h2]
theorem L_range {X S : Type} {keep : List Nat} {a : ACode} (L : List X) (envs : Nat → S → Env) (heaps : Nat → S → Heap) (P : List X → Nat → S → Prop) (s0 : S)
    (he : restr e keep = envs 0 s0) (hH : trunc H.length (envs 0 s0) H = heaps 0 s0) (h0 : P L 0 s0)
    (hnil : ∀ s, P [] L.length s → GL T [a] (envs L.length s) (heaps L.length s) (Rd (fun _ _ => False) Q))
    (hcons : ∀ x rest i s, L[i]? = some x → i < L.length → P (x :: rest) i s → GL T [a] (envs i s) (heaps i s) (Rd (fun e' H' => ∃ s', restr e' keep = envs (i + 1) s' ∧ trunc H.length (envs (i + 1) s') H' = heaps (i + 1) s' ∧ P rest (i + 1) s') Q)) :
    GL T (.loop keep a :: cs) e H Q := by
  refine L_loop ?_
  have key : ∀ (rest : List X) (i : Nat) (s : S) (e2 : Env) (H2 : Heap), L.drop i = rest → i ≤ L.length → P rest i s → restr e2 keep = envs i s → trunc H.length (envs i s) H2 = heaps i s → GLoop T H.length keep a e2 H2 Q := by
    intro rest
    induction rest with
    | nil =>
      intro i s e2 H2 hd hi hP he hH
      have hi2 : i = L.length := by
        have := congrArg List.length hd
        simp at this; omega
      subst hi2
      refine L_round he hH ?_
      exact GL_mono (Rd_mono fun _ _ h => h.elim) (hnil s hP)
    | cons x rest ih =>
      intro i s e2 H2 hd hi hP he hH
      have hx : L[i]? = some x := by
        have := congrArg (fun l => l[0]?) hd
        simpa using this
      have hlt := (List.getElem?_eq_some_iff.1 hx).1
      refine L_round he hH ?_
      refine GL_mono (Rd_mono ?_) (hcons x rest i s hx hlt hP)
      rintro e3 H3 ⟨s', k1, k2, k3⟩
      refine ih (i + 1) s' e3 H3 ?_ (by omega) k3 k1 k2
      have := congrArg List.tail hd
      simpa using this
  exact key L 0 s0 e H rfl (Nat.zero_le _) h0 he hH
theorem evP_rem {x y : AOpd} {k : IntKind} {a b v : Int} (hx : x.ev e = some (.int k a)) (hy : y.ev e = some (.int k b)) (hv : remI k a b = some v) : evP e (.bin .rem x y) = some (.int k v) := by
  unfold remI at hv
  split at hv
  · cases hv
  · rename_i hb; cases hv
    simp only [evP, hx, hy, binA, if_true, bi_rem, hb, if_false]
theorem bounds_of {len : Nat} {lo hi : Option AVal} {a b : Int} (hlo : lo = none ∧ a = 0 ∨ ∃ k, lo = some (.int k a)) (hhi : hi = none ∧ b = len ∨ ∃ k, hi = some (.int k b)) (h0 : 0 ≤ a) (h1 : a ≤ b) (h2 : b ≤ len) : bounds len len lo hi none = some (a.toNat, b.toNat, len) := by
  have e1 : ∀ k, bnd len (.int k b) = some b.toNat := by intro k; simp only [bnd]; rw [if_pos ⟨by omega, h2⟩]
  have e2 : ∀ k, bnd b.toNat (.int k a) = some a.toNat := by intro k; simp only [bnd]; rw [if_pos ⟨h0, by omega⟩]
  rcases hlo with ⟨rfl, rfl⟩ | ⟨k, rfl⟩ <;> rcases hhi with ⟨rfl, rfl⟩ | ⟨k', rfl⟩ <;> simp_all [bounds]
theorem ia_ev {id es : Nat} {x i : AOpd} {xs : List AVal} {b : Bool} {k : IntKind} {n : Int} {y : AVal} {cells : List AVal} (hx : x.ev e = some (.lst xs b)) (hi : i.ev e = some (.int k n)) (h0 : 0 ≤ n) (hy : xs[n.toNat]? = some y) (hf : y.flat = cells) (hw : cells.length = es) (C : Ctx) :
    evH C e id H (.ia es x i) = some (.ok (.ro cells), H) := by
  simp only [evH, hx, hi, h0, if_true, hy, AVal.width, hf, hw]
theorem lenL_ev {id : Nat} {x : AOpd} {xs : List AVal} {b : Bool} {n : Nat} (hx : x.ev e = some (.lst xs b)) (hn : xs.length = n) (C : Ctx) : evH C e id H (.len .slice x) = some (.ok (.int .i64 (n : Nat)), H) := by
  subst hn
  simp only [evH, hx, lenOf]; rfl
theorem sub_ev {α : Type} {es id : Nat} {x : AOpd} {lo hi : Option AOpd} {lv hv : Option AVal} {f : α → AVal} {m v : List α} {a b : Int} {fl : Bool} (hf : ∀ x, (f x).width = es) (hx : x.ev e = some (.lst (m.map f) fl)) (h1 : optEv e lo = some lv) (h2 : optEv e hi = some hv) (hlo : lv = none ∧ a = 0 ∨ ∃ k, lv = some (.int k a)) (hhi : hv = none ∧ b = m.length ∨ ∃ k, hv = some (.int k b))
    (hr : subL m a b = some v) (C : Ctx) : evH C e id H (.slc es x lo hi none) = some (.ok (.lst (v.map f) (fl && decide (b.toNat = m.length))), H) := by
  unfold subL at hr
  split at hr
  · rename_i hb; cases hr
    have hbd := bounds_of (len := (m.map f).length) (lo := lv) (hi := hv) (a := a) (b := b) hlo (by rw [List.length_map]; exact hhi) hb.1 hb.2.1 (by rw [List.length_map]; exact hb.2.2)
    have hw := growM_w hf m
    have hcl : cutLst es (m.map f) fl lv hv none = some (.lst (((m.take b.toNat).drop a.toNat).map f) (fl && decide (b.toNat = m.length))) := by
      rw [List.length_map] at hbd
      simp only [cutLst, List.length_map, hbd, hw, if_true, List.map_take, List.map_drop]
    have hco : cutOpen H es (.lst (m.map f) fl) lv hv none = none := rfl
    have h3 : optEv e (none : Option AOpd) = some none := rfl
    unfold evH
    simp only [hx, h1, h2, h3, hco, asLst, hcl]
  · cases hr
theorem appG_ev {α : Type} {id es bytes o : Nat} {s x : AOpd} {sx : AVal} {f : α → AVal} {m ys r : List α} (hf : ∀ x, (f x).width = es) (hby : bytes ≤ 1400) (hs : s.ev e = some (.gl o m.length)) (hx : x.ev e = some sx) (he : elemsOf H sx = some (ys.map f)) (hb : H[o]? = some (growM es f m)) (hr : catL m ys = some r) (C : Ctx) :
    evH C e id H (.app es bytes false s x) = some (.ok (.gl o r.length), H.set o (growM es f r)) := by
  obtain ⟨rfl, hl⟩ := catL_s hr
  have hw := growM_w hf m
  have hy := growM_w hf ys
  simp only [growM] at hb
  have hm : (m.length + ys.length) * bytes ≤ 140737488355328 := by
    have := Nat.mul_le_mul (Nat.le_of_lt hl) hby
    omega
  simp only [evH, hs, hx, appendA, he, hy, if_true, hb, List.length_map]
  rw [if_pos ⟨trivial, esz_or _ _, hw⟩]
  cases ys with
  | nil =>
    have e1 : H.set o (growM es f (m ++ [])) = H := by
      apply List.ext_getElem?
      intro j
      rw [List.getElem?_set]
      split
      · rename_i hj; subst hj; rw [hb, List.append_nil]; rw [if_pos (List.getElem?_eq_some_iff.1 hb).1]; rfl
      · rfl
    rw [e1]
    simp
  | cons y ys =>
    simp only [List.map_cons, List.isEmpty_cons, Bool.false_eq_true, if_false]
    rw [if_pos (by simpa using hm)]
    simp [growM, esz]
theorem elems_gl {α : Type} {o w : Nat} {f : α → AVal} {m : List α} (hb : H[o]? = some (growM w f m)) : elemsOf H (.gl o m.length) = some (m.map f) := by
  simp only [growM] at hb
  simp [elemsOf, growAt, hb]
theorem appL_ev {α : Type} {id es bytes : Nat} {s x : AOpd} {sx : AVal} {f : α → AVal} {m ys : List α} (hf : ∀ x, (f x).width = es) (hby : bytes ≤ 1400) (hs : s.ev e = some (.lst (m.map f) true)) (hx : x.ev e = some sx) (he : elemsOf H sx = some (ys.map f)) (hne : ys.isEmpty = false) (hl : okLen (m ++ ys) = true) {H2 : Heap} (hn : newAt H id (growM es f (m ++ ys)) = some H2) (C : Ctx) :
    evH C e id H (.app es bytes false s x) = some (.ok (.gl id (m ++ ys).length), H2) := by
  have hy := growM_w hf ys
  have hw := growM_w hf m
  have hl := okLen_s hl
  have hm : (m ++ ys).length * bytes ≤ 140737488355328 := by
    have := Nat.mul_le_mul (Nat.le_of_lt hl) hby
    omega
  rw [List.length_append] at hm
  have hne2 : (ys.map f).isEmpty = false := by cases ys <;> simp_all
  have hg2 : growM es f (m ++ ys) = .grow es (m.map f ++ ys.map f) none := by
    cases ys with
    | nil => simp at hne
    | cons y ys => simp [growM, esz]
  rw [hg2] at hn
  simp only [evH, hs, hx, appendA, he, hy, if_true, hne2, Bool.false_eq_true, if_false]
  rw [if_pos ⟨trivial, hw, by simpa using hm⟩]
  simp [hn]
theorem appM_ev {α : Type} {id es bytes : Nat} {s x : AOpd} {sx : AVal} {f : α → AVal} {m ys r : List α} (hf : ∀ x, (f x).width = es) (hby : bytes ≤ 1400) (hs : s.ev e = some (.lst (m.map f) true)) (hx : x.ev e = some sx) (he : elemsOf H sx = some (ys.map f)) (hne : ys.isEmpty = false) (hr : catL m ys = some r) {H2 : Heap} (hn : newAt H id (growM es f r) = some H2) (C : Ctx) :
    evH C e id H (.app es bytes false s x) = some (.ok (.gl id r.length), H2) := by
  obtain ⟨rfl, hl⟩ := catL_s hr
  have hl2 : okLen (m ++ ys) = true := okLen_of (by rw [List.length_append]; exact hl)
  exact appL_ev hf hby hs hx he hne hl2 hn C
theorem appO_ev {α : Type} {id es bytes : Nat} {s x : AOpd} {sx : AVal} {f : α → AVal} {m ys r : List α} (hf : ∀ x, (f x).width = es) (hs : s.ev e = some (.lst (m.map f) true)) (hx : x.ev e = some sx) (he : elemsOf H sx = some (ys.map f)) (hne : ys.isEmpty = true) (hr : catL m ys = some r) (C : Ctx) :
    evH C e id H (.app es bytes false s x) = some (.ok (.lst (r.map f) true), H) := by
  obtain ⟨rfl, hl⟩ := catL_s hr
  cases ys with
  | cons y ys => simp at hne
  | nil => simp [evH, hs, hx, appendA, he]
theorem newAt_end (H : Heap) (B : ABlock) : newAt H H.length B = some (H ++ [B]) := by simp [newAt]
theorem emp_or {α : Type} (l : List α) : l.isEmpty = true ∨ l.isEmpty = false := by cases l <;> simp
theorem evP_pickT {c x y : AOpd} {b : Bool} {v : AVal} (hc : c.ev e = some (.bool b)) (hb : b = true) (hv : x.ev e = some v) : evP e (.pick c x y) = some v := by subst hb; simp only [evP, hc, hv]
theorem evP_pickF {c x y : AOpd} {b : Bool} {v : AVal} (hc : c.ev e = some (.bool b)) (hb : b = false) (hv : y.ev e = some v) : evP e (.pick c x y) = some v := by subst hb; simp only [evP, hc, hv]
theorem wt {k : Nat} {b w : Bool} (h : e.get k = some (.bool b)) (hb : b = w) : wantedA e (some (k, w)) = some true := by subst hb; simp [wantedA, h]
theorem wf {k : Nat} {b w : Bool} (h : e.get k = some (.bool b)) (hb : b = !w) : wantedA e (some (k, w)) = some false := by subst hb; simp [wantedA, h]
end
section
variable {T : Nat → Option AFunc} {cs : List ACode} {e e' : Env} {H H' : Heap} {Q : Post}
end
end Go.Ev
namespace Go.Ev
set_option linter.unusedVariables false
set_option linter.unusedSimpArgs false
open Go
section
variable {e : Env} {H : Heap}
theorem y0m (H : Heap) : ∀ r : List Nat, sameOn H H r = true
  | [] => rfl
  | b :: r => by simp [sameOn, y0j, y0m H r]
theorem own_r0 {α : Type} {t s b m es : Nat} {f : α → AVal} {l l0 : List α} (hf : ∀ x, (f x).width = es) (h1 : e.get t = some (.lst (l.map f) true)) (h2 : e.get s = some (.gl b m)) (h3 : H[b]? = some (growM es f l0)) (h4 : l0.length < l.length) :
    ownA t (some s) e H = ((t, .gl b l.length) :: e, H.set b (growM es f l)) := by
  simp only [growM] at h3
  simp only [ownA, h1, h2, h3, List.length_map, h4, if_true]
  cases l with
  | nil => simp at h4
  | cons x l => simp [widthL, hf, growM, esz]
theorem y3z {α : Type} {x : α} {l m : List α} (h : catL [x] l = some m) : l.length < m.length := by
  obtain ⟨rfl, _⟩ := catL_s h
  simp
theorem own_one {α : Type} {x : α} {l : List α} (h : l.isEmpty = true) : l.length < [x].length := by
  cases l with
  | nil => simp
  | cons y l => simp at h
theorem own_r {α : Type} {t s b b' m n es : Nat} {f : α → AVal} {l l0 : List α} (h1 : e.get t = some (.gl b' n)) (h2 : e.get s = some (.gl b m)) (h3 : H[b]? = some (growM es f l0)) (h5 : H[b']? = some (growM es f l)) (h6 : b ≠ b') (h7 : n = l.length) (h4 : l0.length < l.length) :
    ownA t (some s) e H = ((t, .gl b n) :: e, (H.set b (growM es f l)).set b' .dead) := by
  simp only [growM] at h3 h5
  simp only [ownA, h1, h2, h3, h5, List.length_map, h4, h6, h7, growM, ne_eq, not_false_eq_true, and_self, if_true]
theorem appG2_ev {α : Type} {id es bytes o : Nat} {s x : AOpd} {sx : AVal} {f : α → AVal} {m ys r : List α} (hf : ∀ x, (f x).width = es) (hby : bytes ≤ 1400) (hs : s.ev e = some (.gl o m.length)) (hx : x.ev e = some sx) (he : elemsOf H sx = some (ys.map f)) (hb : H[o]? = some (growM es f m)) (hr : catL m ys = some r) {H2 : Heap} (h2 : H.set o (growM es f r) = H2) (C : Ctx) :
    evH C e id H (.app es bytes false s x) = some (.ok (.gl o r.length), H2) := by
  subst h2; exact appG_ev hf hby hs hx he hb hr C
end
section
variable {T : Nat → Option AFunc} {cs : List ACode} {e e' : Env} {H H' : Heap} {Q : Post}
end
end Go.Ev
namespace Go.Ev.Seat
set_option linter.unusedVariables false
set_option linter.unusedSimpArgs false
open Go Go.Ev
set_option maxRecDepth 20000
attribute [local irreducible] pcall callF
theorem awake_c (n : Nat) : pcall (tabOf tabL) (n + 300) 7 [] = some (.ok (.bool true)) := by kernel_rfl
noncomputable section
open Classical
def oAwake : Option Bool := some true
theorem oAwake_ok {r : Bool} (h : oAwake = some r) : PRes (tabOf tabL) 7 [] (.bool r) := by
  cases h; exact .of_le 300 awake_c
def oLightT (t : Ty) : Option Bool := if WfT t then some (decide (rsz t 60 < 120)) else none
theorem y4j {t : Ty} {r : Bool} (h : oLightT t = some r) : PRes (tabOf tabL) 12 [vT t] (.bool r) := by
  unfold oLightT at h
  split at h <;> cases h
  rename_i hw
  exact .of_lt (szT t + 1) fun n hn => by obtain ⟨m, rfl⟩ : ∃ m, n = m + 1 := ⟨n - 1, by omega⟩; exact TyS.light_c m t (by omega) hw
def oRightT (t : Ty) : Option Bool := if WfT t then some (decide (rsz t 60 ≤ 300) && rightT t 20) else none
theorem y44 {t : Ty} {r : Bool} (h : oRightT t = some r) : PRes (tabOf tabL) 13 [vT t] (.bool r) := by
  unfold oRightT at h
  split at h <;> cases h
  rename_i hw
  exact .of_lt (szT t + 1) fun n hn => by obtain ⟨m, rfl⟩ : ∃ m, n = m + 1 := ⟨n - 1, by omega⟩; exact TyS.right_ref m t (by omega) hw
end
end Go.Ev.Seat
namespace Go.Ev.Seat
set_option linter.unusedVariables false
set_option linter.unusedSimpArgs false
open Go Go.Ev
set_option maxRecDepth 20000
attribute [local irreducible] pcall callF
noncomputable def y0u : Option Bool :=
  some true
noncomputable def y0e (rec : Ty → Bool → Option Bool) (y59 : Ty) (K3 : Option Bool) (b64 : Bool) : Option Bool :=
  ((rec y59 b64).bind fun r65 => (cond (!r65) (some false) (K3)))
noncomputable def y03 (rec : Ty → Bool → Option Bool) (t1 : Ty) (out2 : Bool) : List Ty → Nat → Option Bool
  | [], _ => y0u
  | y59 :: rest61, i60 => (cond (decide (((i60 : Nat) : Int) = (IntKind.wrap .i64 (((List.length t1.funs : Nat) : Int) - 1)))) (y0e rec y59 (y03 rec t1 out2 rest61 (i60 + 1)) out2) (y0e rec y59 (y03 rec t1 out2 rest61 (i60 + 1)) (!out2)))
noncomputable def y0b (rec : Ty → Bool → Option Bool) (t1 : Ty) (out2 : Bool) : Option Bool :=
  (cond (okLen t1.funs) (y03 rec t1 out2 t1.funs 0) none)
noncomputable def y06 (rec : Ty → Bool → Option Bool) (t1 : Ty) (out2 : Bool) : List Ty → Nat → Option Bool
  | [], _ => y0b rec t1 out2
  | y78 :: rest80, i79 => ((rec y78 out2).bind fun r82 => (cond (!r82) (some false) ((y06 rec t1 out2 rest80 (i79 + 1)))))
noncomputable def y0z (rec : Ty → Bool → Option Bool) (t1 : Ty) (out2 : Bool) : Option Bool :=
  (cond (out2 && (t1.all || (decide (t1.fn = 2)))) (some false) (cond (okLen t1.pairs) (y06 rec t1 out2 t1.pairs 0) none))
abbrev kg01 (y59 : Ty) : ABlock := .cells [.bool y59.all, .int .i64 y59.flat, .int .i64 y59.pair, .lst (List.map encT y59.pairs) false, .int .i64 y59.fn, .lst (List.map encT y59.funs) false]
abbrev kg02 (t1 : Ty) : ABlock := .cells [.bool t1.all, .int .i64 t1.flat, .int .i64 t1.pair, .lst (List.map encT t1.pairs) false, .int .i64 t1.fn, .lst (List.map encT t1.funs) false]
theorem y31 {rec : Ty → Bool → Option Bool} {t1 : Ty} {out2 : Bool} {r : Bool} (hrec : ∀ (a0 : Ty) (a1 : Bool) (r : Bool), rec a0 a1 = some r → PRes (tabOf tabL) 14 [.agg (cT a0), .bool a1] (.bool r)) (hr : y0z rec t1 out2 = some r) : PRes (tabOf tabL) 14 [.agg (cT t1), .bool out2] (.bool r) := by
  refine pres_fin t14 ?_
  unfold y0z at hr
  refine L_seq ?_
  refine L_stmt ?_
  refine L_reg ?_
  refine G_n (B := (kg02 t1)) rfl rfl rfl ?_
  refine G_p rfl rfl rfl ?_
  refine G_nil ?_
  refine L_nil ?_
  refine Sm_norm (e2 := [(1, .bool out2), (2, .ptr 0 0)]) (H1 := [(kg02 t1)]) (H2 := [(kg02 t1)]) rfl (by repeat (first | exact rzz | apply rcc rfl | apply rnn rfl)) rfl (?_ : GL _ _ _ _ _)
  refine L_seq ?_
  refine L_stmt ?_
  refine L_seq ?_
  refine L_stmt ?_
  refine L_reg ?_
  refine G_p rfl rfl rfl ?_
  refine G_p rfl rfl rfl ?_
  refine G_and (f := (t1.all || (decide (t1.fn = 2)))) [_, _, _, _, _, _, _] rfl rfl ?_ ?_
  · intro hb11
    refine G_p rfl rfl rfl ?_
    refine G_h rfl rfl rfl (fun _ => rfl) ?_
    refine G_p rfl rfl rfl ?_
    refine G_or (f := (decide (t1.fn = 2))) [_, _, _] rfl rfl ?_ ?_
    · intro hb14
      refine G_p rfl rfl rfl ?_
      refine G_h rfl rfl rfl (fun _ => rfl) ?_
      refine G_p rfl rfl rfl ?_
      exact G_nil (L_nil ⟨rfl, rfl, rfl⟩)
    · intro vs hvs
      obtain ⟨u15, u16, u17, rfl⟩ := len3 hvs
      dsimp only [junk]
      exact G_nil (L_nil ⟨rfl, rfl, rfl⟩)
  · intro vs hvs
    obtain ⟨u12, u13, u14, u15, u16, u17, u18, rfl⟩ := len7 hvs
    dsimp only [junk]
    refine G_nil ?_
    refine L_nil ?_
    refine Sm_norm (e2 := [(1, .bool out2), (2, .ptr 0 0), (19, .bool (out2 && (t1.all || (decide (t1.fn = 2)))))]) (H1 := [(kg02 t1)]) (H2 := [(kg02 t1)]) rfl (by repeat (first | exact rzz | apply rcc rfl | apply rnn rfl)) rfl (?_ : GL _ _ _ _ _)
    rcases cond_s hr with ⟨hc19, hr⟩ | ⟨hc19, hr⟩
    · refine L_T rfl hc19 ?_
      refine L_seq ?_
      refine L_reg ?_
      refine G_p rfl rfl rfl ?_
      refine G_nil ?_
      refine L_ret ?_
      refine Sm_ret ?_
      have hr := some_s hr
      subst hr
      exact ⟨_, rfl, _, rfl, rfl⟩
    · refine L_F rfl hc19 ?_
      refine L_skip ?_
      refine L_nil ?_
      refine Sm_norm (e2 := [(1, .bool out2), (2, .ptr 0 0)]) (H1 := [(kg02 t1)]) (H2 := [(kg02 t1)]) rfl (by repeat (first | exact rzz | apply rcc rfl | apply rnn rfl)) rfl (?_ : GL _ _ _ _ _)
      refine L_seq ?_
      refine L_stmtJ (S := Unit) (fun s => [(1, .bool out2), (2, .ptr 0 0)]) (fun s => [(kg02 t1)]) (fun s => y0b rec t1 out2 = some r) ?_ ?_
      · skip
        refine L_seq ?_
        refine L_stmt ?_
        refine L_reg ?_
        refine G_p rfl rfl rfl ?_
        refine G_h (v := .lst (List.map encT t1.pairs) false) rfl rfl rfl (fun _ => rfl) ?_
        refine G_h rfl rfl rfl (lenL_ev rfl (List.length_map _)) ?_
        refine G_p rfl rfl rfl ?_
        refine G_nil ?_
        refine L_nil ?_
        refine Sm_norm (e2 := [(1, .bool out2), (2, .ptr 0 0), (21, .lst (List.map encT t1.pairs) false), (22, .int .i64 ((List.length t1.pairs : Nat) : Int)), (23, .int .i64 0)]) (H1 := [(kg02 t1)]) (H2 := [(kg02 t1)]) rfl (by repeat (first | exact rzz | apply rcc rfl | apply rnn rfl)) rfl (?_ : GL _ _ _ _ _)
        refine L_block ?_
        obtain ⟨hLq77, hr⟩ := guard_s hr
        replace hLq77 := okLen_s hLq77
        refine L_range (X := Ty) (S := Unit) t1.pairs (fun i79 s => [(23, .int .i64 ((i79 : Nat) : Int)), (1, .bool out2), (2, .ptr 0 0), (21, .lst (List.map encT t1.pairs) false), (22, .int .i64 ((List.length t1.pairs : Nat) : Int))]) (fun i79 s => [(kg02 t1)]) (fun rest i79 s => y06 rec t1 out2 rest i79 = some r) (()) ?_ rfl hr ?_ ?_
        · show restr _ _ = [(23, .int .i64 ((0 : Nat) : Int)), (1, .bool out2), (2, .ptr 0 0), (21, .lst (List.map encT t1.pairs) false), (22, .int .i64 ((List.length t1.pairs : Nat) : Int))]
          (repeat (first | exact rzz | apply rcc rfl | apply rnn rfl))
        · rintro ⟨⟩ hr
          show GL _ _ [(23, .int .i64 (((List.length t1.pairs) : Nat) : Int)), (1, .bool out2), (2, .ptr 0 0), (21, .lst (List.map encT t1.pairs) false), (22, .int .i64 ((List.length t1.pairs : Nat) : Int))] [(kg02 t1)] _
          replace hr : y06 rec t1 out2 [] (List.length t1.pairs) = some r := hr
          rw [y06] at hr
          refine L_seq ?_
          refine L_stmt ?_
          refine L_reg ?_
          refine G_v (.bool false) rfl rfl rfl (congrArg AVal.bool (decide_eq_false (by omega))) ?_
          refine G_nil ?_
          refine L_nil ?_
          refine Sm_norm (e2 := [(1, .bool out2), (2, .ptr 0 0), (21, .lst (List.map encT t1.pairs) false), (22, .int .i64 ((List.length t1.pairs : Nat) : Int)), (23, .int .i64 ((List.length t1.pairs : Nat) : Int)), (24, .bool false)]) (H1 := [(kg02 t1)]) (H2 := [(kg02 t1)]) rfl (by repeat (first | exact rzz | apply rcc rfl | apply rnn rfl)) rfl (?_ : GL _ _ _ _ _)
          refine L_seq ?_
          refine L_stmt ?_
          refine L_F rfl rfl ?_
          refine L_exit ?_
          refine Sm_exit ?_
          refine Rd_exit ?_
          refine Blk_exit (?_ : GL _ _ _ _ _)
          refine L_nil ?_
          exact Sm_norm (e2 := [(1, .bool out2), (2, .ptr 0 0)]) (H1 := [(kg02 t1)]) (H2 := [(kg02 t1)]) rfl (by repeat (first | exact rzz | apply rcc rfl | apply rnn rfl)) rfl ⟨(), rfl, rfl, hr⟩
        · rintro y78 rest80 i79 ⟨⟩ hy78 hlti79 hr
          show GL _ _ [(23, .int .i64 ((i79 : Nat) : Int)), (1, .bool out2), (2, .ptr 0 0), (21, .lst (List.map encT t1.pairs) false), (22, .int .i64 ((List.length t1.pairs : Nat) : Int))] [(kg02 t1)] _
          replace hr : y06 rec t1 out2 (y78 :: rest80) i79 = some r := hr
          rw [y06] at hr
          refine L_seq ?_
          refine L_stmt ?_
          refine L_reg ?_
          refine G_v (.bool true) rfl rfl rfl (congrArg AVal.bool (decide_eq_true (by omega))) ?_
          refine G_nil ?_
          refine L_nil ?_
          refine Sm_norm (e2 := [(1, .bool out2), (2, .ptr 0 0), (21, .lst (List.map encT t1.pairs) false), (22, .int .i64 ((List.length t1.pairs : Nat) : Int)), (23, .int .i64 ((i79 : Nat) : Int)), (24, .bool true)]) (H1 := [(kg02 t1)]) (H2 := [(kg02 t1)]) rfl (by repeat (first | exact rzz | apply rcc rfl | apply rnn rfl)) rfl (?_ : GL _ _ _ _ _)
          refine L_seq ?_
          refine L_stmt ?_
          refine L_T rfl rfl ?_
          refine L_skip ?_
          refine L_nil ?_
          refine Sm_norm (e2 := [(1, .bool out2), (2, .ptr 0 0), (21, .lst (List.map encT t1.pairs) false), (22, .int .i64 ((List.length t1.pairs : Nat) : Int)), (23, .int .i64 ((i79 : Nat) : Int))]) (H1 := [(kg02 t1)]) (H2 := [(kg02 t1)]) rfl (by repeat (first | exact rzz | apply rcc rfl | apply rnn rfl)) rfl (?_ : GL _ _ _ _ _)
          refine L_seq ?_
          refine L_stmt ?_
          refine L_block ?_
          refine L_seq ?_
          refine L_stmt ?_
          refine L_reg ?_
          refine G_h (v := .ro [.bool y78.all, .int .i64 y78.flat, .int .i64 y78.pair, .lst (List.map encT y78.pairs) false, .int .i64 y78.fn, .lst (List.map encT y78.funs) false]) rfl rfl rfl (ia_ev (cells := [.bool y78.all, .int .i64 y78.flat, .int .i64 y78.pair, .lst (List.map encT y78.pairs) false, .int .i64 y78.fn, .lst (List.map encT y78.funs) false]) rfl rfl (Int.natCast_nonneg _) (map_get (x := y78) (by rw [Int.toNat_natCast]; exact hy78)) (encT_flat _) rfl) ?_
          refine G_h (v := .agg (cT y78)) rfl rfl rfl (fun _ => rfl) ?_
          refine G_n (B := .cells [.bool false, .int .i64 0, .int .i64 0, .lst [] true, .int .i64 0, .lst [] true]) rfl rfl rfl ?_
          refine G_hn (H' := [(kg02 t1), .cells [.bool y78.all, .int .i64 y78.flat, .int .i64 y78.pair, .lst (List.map encT y78.pairs) false, .int .i64 y78.fn, .lst (List.map encT y78.funs) false]]) rfl rfl rfl (fun _ => rfl) ?_
          refine G_nil ?_
          refine L_nil ?_
          refine Sm_norm (e2 := [(1, .bool out2), (2, .ptr 0 0), (6, .ptr 1 0), (21, .lst (List.map encT t1.pairs) false), (22, .int .i64 ((List.length t1.pairs : Nat) : Int)), (23, .int .i64 ((i79 : Nat) : Int))]) (H1 := [(kg02 t1), .cells [.bool y78.all, .int .i64 y78.flat, .int .i64 y78.pair, .lst (List.map encT y78.pairs) false, .int .i64 y78.fn, .lst (List.map encT y78.funs) false]]) (H2 := [(kg02 t1), .cells [.bool y78.all, .int .i64 y78.flat, .int .i64 y78.pair, .lst (List.map encT y78.pairs) false, .int .i64 y78.fn, .lst (List.map encT y78.funs) false]]) rfl (by repeat (first | exact rzz | apply rcc rfl | apply rnn rfl)) rfl (?_ : GL _ _ _ _ _)
          refine L_seq ?_
          refine L_stmt ?_
          refine L_reg ?_
          refine G_h (v := .agg (cT y78)) rfl rfl rfl (fun _ => rfl) ?_
          refine G_p rfl rfl rfl ?_
          obtain ⟨r82, hr82, hr⟩ := bind_s hr
          refine G_c 14 rfl rfl (CA_of (as := [.agg (cT y78), .bool out2]) rfl (hrec _ _ _ hr82)) ?_
          refine G_p rfl rfl rfl ?_
          refine G_nil ?_
          refine L_nil ?_
          refine Sm_norm (e2 := [(1, .bool out2), (2, .ptr 0 0), (21, .lst (List.map encT t1.pairs) false), (22, .int .i64 ((List.length t1.pairs : Nat) : Int)), (23, .int .i64 ((i79 : Nat) : Int)), (30, .bool (!r82))]) (H1 := [(kg02 t1), .cells [.bool y78.all, .int .i64 y78.flat, .int .i64 y78.pair, .lst (List.map encT y78.pairs) false, .int .i64 y78.fn, .lst (List.map encT y78.funs) false]]) (H2 := [(kg02 t1), .cells [.bool y78.all, .int .i64 y78.flat, .int .i64 y78.pair, .lst (List.map encT y78.pairs) false, .int .i64 y78.fn, .lst (List.map encT y78.funs) false]]) rfl (by repeat (first | exact rzz | apply rcc rfl | apply rnn rfl)) rfl (?_ : GL _ _ _ _ _)
          rcases cond_s hr with ⟨hc30, hr⟩ | ⟨hc30, hr⟩
          · refine L_T rfl hc30 ?_
            refine L_seq ?_
            refine L_reg ?_
            refine G_p rfl rfl rfl ?_
            refine G_nil ?_
            refine L_ret ?_
            refine Blk_ret ?_
            refine Sm_ret ?_
            refine Rd_ret ?_
            refine Blk_ret ?_
            refine Sm_ret ?_
            have hr := some_s hr
            subst hr
            exact ⟨_, rfl, _, rfl, rfl⟩
          · refine L_F rfl hc30 ?_
            refine L_skip ?_
            refine L_nil ?_
            refine Blk_norm (?_ : GL _ _ _ _ _)
            refine L_nil ?_
            refine Sm_norm (e2 := [(1, .bool out2), (2, .ptr 0 0), (21, .lst (List.map encT t1.pairs) false), (22, .int .i64 ((List.length t1.pairs : Nat) : Int)), (23, .int .i64 ((i79 : Nat) : Int))]) (H1 := [(kg02 t1), .cells [.bool y78.all, .int .i64 y78.flat, .int .i64 y78.pair, .lst (List.map encT y78.pairs) false, .int .i64 y78.fn, .lst (List.map encT y78.funs) false]]) (H2 := [(kg02 t1)]) rfl (by repeat (first | exact rzz | apply rcc rfl | apply rnn rfl)) rfl (?_ : GL _ _ _ _ _)
            refine L_reg ?_
            refine G_v (.int .i64 ((i79 + 1 : Nat) : Int)) rfl rfl rfl (congrArg _ (wrap_next hLq77 hlti79)) ?_
            refine G_p rfl rfl rfl ?_
            refine G_nil ?_
            refine L_nil ?_
            refine Rd_norm ⟨(), ?_, rfl, hr⟩
            show restr _ _ = [(23, .int .i64 (((i79 + 1) : Nat) : Int)), (1, .bool out2), (2, .ptr 0 0), (21, .lst (List.map encT t1.pairs) false), (22, .int .i64 ((List.length t1.pairs : Nat) : Int))]
            (repeat (first | exact rzz | apply rcc rfl | apply rnn rfl))
      · rintro ⟨⟩ hr
        show GL _ _ [(1, .bool out2), (2, .ptr 0 0)] [(kg02 t1)] _
        replace hr : y0b rec t1 out2 = some r := hr
        unfold y0b at hr
        refine L_seq ?_
        refine L_stmtJ (S := Unit) (fun s => []) (fun s => [(kg02 t1)]) (fun s => y0u = some r) ?_ ?_
        · skip
          refine L_seq ?_
          refine L_stmt ?_
          refine L_reg ?_
          refine G_p rfl rfl rfl ?_
          refine G_h (v := .lst (List.map encT t1.funs) false) rfl rfl rfl (fun _ => rfl) ?_
          refine G_h rfl rfl rfl (lenL_ev rfl (List.length_map _)) ?_
          refine G_p rfl rfl rfl ?_
          refine G_nil ?_
          refine L_nil ?_
          refine Sm_norm (e2 := [(1, .bool out2), (2, .ptr 0 0), (33, .lst (List.map encT t1.funs) false), (34, .int .i64 ((List.length t1.funs : Nat) : Int)), (35, .int .i64 0)]) (H1 := [(kg02 t1)]) (H2 := [(kg02 t1)]) rfl (by repeat (first | exact rzz | apply rcc rfl | apply rnn rfl)) rfl (?_ : GL _ _ _ _ _)
          refine L_block ?_
          obtain ⟨hLq58, hr⟩ := guard_s hr
          replace hLq58 := okLen_s hLq58
          refine L_range (X := Ty) (S := Unit) t1.funs (fun i60 s => [(35, .int .i64 ((i60 : Nat) : Int)), (1, .bool out2), (2, .ptr 0 0), (33, .lst (List.map encT t1.funs) false), (34, .int .i64 ((List.length t1.funs : Nat) : Int))]) (fun i60 s => [(kg02 t1)]) (fun rest i60 s => y03 rec t1 out2 rest i60 = some r) (()) ?_ rfl hr ?_ ?_
          · show restr _ _ = [(35, .int .i64 ((0 : Nat) : Int)), (1, .bool out2), (2, .ptr 0 0), (33, .lst (List.map encT t1.funs) false), (34, .int .i64 ((List.length t1.funs : Nat) : Int))]
            (repeat (first | exact rzz | apply rcc rfl | apply rnn rfl))
          · rintro ⟨⟩ hr
            show GL _ _ [(35, .int .i64 (((List.length t1.funs) : Nat) : Int)), (1, .bool out2), (2, .ptr 0 0), (33, .lst (List.map encT t1.funs) false), (34, .int .i64 ((List.length t1.funs : Nat) : Int))] [(kg02 t1)] _
            replace hr : y03 rec t1 out2 [] (List.length t1.funs) = some r := hr
            rw [y03] at hr
            refine L_seq ?_
            refine L_stmt ?_
            refine L_reg ?_
            refine G_v (.bool false) rfl rfl rfl (congrArg AVal.bool (decide_eq_false (by omega))) ?_
            refine G_nil ?_
            refine L_nil ?_
            refine Sm_norm (e2 := [(1, .bool out2), (2, .ptr 0 0), (33, .lst (List.map encT t1.funs) false), (34, .int .i64 ((List.length t1.funs : Nat) : Int)), (35, .int .i64 ((List.length t1.funs : Nat) : Int)), (36, .bool false)]) (H1 := [(kg02 t1)]) (H2 := [(kg02 t1)]) rfl (by repeat (first | exact rzz | apply rcc rfl | apply rnn rfl)) rfl (?_ : GL _ _ _ _ _)
            refine L_seq ?_
            refine L_stmt ?_
            refine L_F rfl rfl ?_
            refine L_exit ?_
            refine Sm_exit ?_
            refine Rd_exit ?_
            refine Blk_exit (?_ : GL _ _ _ _ _)
            refine L_nil ?_
            exact Sm_norm (e2 := []) (H1 := [(kg02 t1)]) (H2 := [(kg02 t1)]) rfl (by repeat (first | exact rzz | apply rcc rfl | apply rnn rfl)) rfl ⟨(), rfl, rfl, hr⟩
          · rintro y59 rest61 i60 ⟨⟩ hy59 hlti60 hr
            show GL _ _ [(35, .int .i64 ((i60 : Nat) : Int)), (1, .bool out2), (2, .ptr 0 0), (33, .lst (List.map encT t1.funs) false), (34, .int .i64 ((List.length t1.funs : Nat) : Int))] [(kg02 t1)] _
            replace hr : y03 rec t1 out2 (y59 :: rest61) i60 = some r := hr
            rw [y03] at hr
            refine L_seq ?_
            refine L_stmt ?_
            refine L_reg ?_
            refine G_v (.bool true) rfl rfl rfl (congrArg AVal.bool (decide_eq_true (by omega))) ?_
            refine G_nil ?_
            refine L_nil ?_
            refine Sm_norm (e2 := [(1, .bool out2), (2, .ptr 0 0), (33, .lst (List.map encT t1.funs) false), (34, .int .i64 ((List.length t1.funs : Nat) : Int)), (35, .int .i64 ((i60 : Nat) : Int)), (36, .bool true)]) (H1 := [(kg02 t1)]) (H2 := [(kg02 t1)]) rfl (by repeat (first | exact rzz | apply rcc rfl | apply rnn rfl)) rfl (?_ : GL _ _ _ _ _)
            refine L_seq ?_
            refine L_stmt ?_
            refine L_T rfl rfl ?_
            refine L_skip ?_
            refine L_nil ?_
            refine Sm_norm (e2 := [(1, .bool out2), (2, .ptr 0 0), (33, .lst (List.map encT t1.funs) false), (34, .int .i64 ((List.length t1.funs : Nat) : Int)), (35, .int .i64 ((i60 : Nat) : Int))]) (H1 := [(kg02 t1)]) (H2 := [(kg02 t1)]) rfl (by repeat (first | exact rzz | apply rcc rfl | apply rnn rfl)) rfl (?_ : GL _ _ _ _ _)
            refine L_seq ?_
            refine L_stmt ?_
            refine L_block ?_
            refine L_seq ?_
            refine L_stmt ?_
            refine L_reg ?_
            refine G_p rfl rfl rfl ?_
            refine G_h (v := .ro [.bool y59.all, .int .i64 y59.flat, .int .i64 y59.pair, .lst (List.map encT y59.pairs) false, .int .i64 y59.fn, .lst (List.map encT y59.funs) false]) rfl rfl rfl (ia_ev (cells := [.bool y59.all, .int .i64 y59.flat, .int .i64 y59.pair, .lst (List.map encT y59.pairs) false, .int .i64 y59.fn, .lst (List.map encT y59.funs) false]) rfl rfl (Int.natCast_nonneg _) (map_get (x := y59) (by rw [Int.toNat_natCast]; exact hy59)) (encT_flat _) rfl) ?_
            refine G_h (v := .agg (cT y59)) rfl rfl rfl (fun _ => rfl) ?_
            refine G_n (B := .cells [.bool false, .int .i64 0, .int .i64 0, .lst [] true, .int .i64 0, .lst [] true]) rfl rfl rfl ?_
            refine G_p rfl rfl rfl ?_
            refine G_hn (H' := [(kg02 t1), (kg01 y59)]) rfl rfl rfl (fun _ => rfl) ?_
            refine G_nil ?_
            refine L_nil ?_
            refine Sm_norm (e2 := [(1, .bool out2), (2, .ptr 0 0), (7, .int .i64 ((i60 : Nat) : Int)), (8, .ptr 1 0), (33, .lst (List.map encT t1.funs) false), (34, .int .i64 ((List.length t1.funs : Nat) : Int)), (35, .int .i64 ((i60 : Nat) : Int))]) (H1 := [(kg02 t1), (kg01 y59)]) (H2 := [(kg02 t1), (kg01 y59)]) rfl (by repeat (first | exact rzz | apply rcc rfl | apply rnn rfl)) rfl (?_ : GL _ _ _ _ _)
            refine L_seq ?_
            refine L_stmt ?_
            refine L_reg ?_
            refine G_p rfl rfl rfl ?_
            refine G_p rfl rfl rfl ?_
            refine G_p rfl rfl rfl ?_
            refine G_nil ?_
            refine L_nil ?_
            refine Sm_norm (e2 := [(1, .bool out2), (2, .ptr 0 0), (7, .int .i64 ((i60 : Nat) : Int)), (8, .ptr 1 0), (9, .bool (!out2)), (33, .lst (List.map encT t1.funs) false), (34, .int .i64 ((List.length t1.funs : Nat) : Int)), (35, .int .i64 ((i60 : Nat) : Int))]) (H1 := [(kg02 t1), (kg01 y59)]) (H2 := [(kg02 t1), (kg01 y59)]) rfl (by repeat (first | exact rzz | apply rcc rfl | apply rnn rfl)) rfl (?_ : GL _ _ _ _ _)
            refine L_seq ?_
            refine L_stmtJ (S := Bool) (fun s => [(1, .bool out2), (2, .ptr 0 0), (8, .ptr 1 0), (9, .bool s), (33, .lst (List.map encT t1.funs) false), (34, .int .i64 ((List.length t1.funs : Nat) : Int)), (35, .int .i64 ((i60 : Nat) : Int))]) (fun s => [(kg02 t1), (kg01 y59)]) (fun s => y0e rec y59 (y03 rec t1 out2 rest61 (i60 + 1)) s = some r) ?_ ?_
            · skip
              refine L_seq ?_
              refine L_stmt ?_
              refine L_reg ?_
              refine G_p rfl rfl rfl ?_
              refine G_p rfl rfl rfl ?_
              refine G_h (v := .lst (List.map encT t1.funs) false) rfl rfl rfl (fun _ => rfl) ?_
              refine G_h rfl rfl rfl (lenL_ev rfl (List.length_map _)) ?_
              refine G_p rfl rfl rfl ?_
              refine G_p rfl rfl rfl ?_
              refine G_nil ?_
              refine L_nil ?_
              refine Sm_norm (e2 := [(1, .bool out2), (2, .ptr 0 0), (8, .ptr 1 0), (9, .bool (!out2)), (33, .lst (List.map encT t1.funs) false), (34, .int .i64 ((List.length t1.funs : Nat) : Int)), (35, .int .i64 ((i60 : Nat) : Int)), (47, .bool (decide (((i60 : Nat) : Int) = (IntKind.wrap .i64 (((List.length t1.funs : Nat) : Int) - 1)))))]) (H1 := [(kg02 t1), (kg01 y59)]) (H2 := [(kg02 t1), (kg01 y59)]) rfl (by repeat (first | exact rzz | apply rcc rfl | apply rnn rfl)) rfl (?_ : GL _ _ _ _ _)
              rcases cond_s hr with ⟨hc47, hr⟩ | ⟨hc47, hr⟩
              · refine L_T rfl hc47 ?_
                refine L_reg ?_
                refine G_p rfl rfl rfl ?_
                refine G_p rfl rfl rfl ?_
                refine G_nil ?_
                refine L_nil ?_
                exact Sm_norm (e2 := [(1, .bool out2), (2, .ptr 0 0), (8, .ptr 1 0), (9, .bool out2), (33, .lst (List.map encT t1.funs) false), (34, .int .i64 ((List.length t1.funs : Nat) : Int)), (35, .int .i64 ((i60 : Nat) : Int))]) (H1 := [(kg02 t1), (kg01 y59)]) (H2 := [(kg02 t1), (kg01 y59)]) rfl (by repeat (first | exact rzz | apply rcc rfl | apply rnn rfl)) rfl ⟨out2, rfl, rfl, hr⟩
              · refine L_F rfl hc47 ?_
                refine L_skip ?_
                refine L_nil ?_
                exact Sm_norm (e2 := [(1, .bool out2), (2, .ptr 0 0), (8, .ptr 1 0), (9, .bool (!out2)), (33, .lst (List.map encT t1.funs) false), (34, .int .i64 ((List.length t1.funs : Nat) : Int)), (35, .int .i64 ((i60 : Nat) : Int))]) (H1 := [(kg02 t1), (kg01 y59)]) (H2 := [(kg02 t1), (kg01 y59)]) rfl (by repeat (first | exact rzz | apply rcc rfl | apply rnn rfl)) rfl ⟨(!out2), rfl, rfl, hr⟩
            · rintro b64 hr
              show GL _ _ [(1, .bool out2), (2, .ptr 0 0), (8, .ptr 1 0), (9, .bool b64), (33, .lst (List.map encT t1.funs) false), (34, .int .i64 ((List.length t1.funs : Nat) : Int)), (35, .int .i64 ((i60 : Nat) : Int))] [(kg02 t1), (kg01 y59)] _
              replace hr : y0e rec y59 (y03 rec t1 out2 rest61 (i60 + 1)) b64 = some r := hr
              unfold y0e at hr
              refine L_seq ?_
              refine L_stmt ?_
              refine L_reg ?_
              refine G_h (v := .agg (cT y59)) rfl rfl rfl (fun _ => rfl) ?_
              refine G_p rfl rfl rfl ?_
              obtain ⟨r65, hr65, hr⟩ := bind_s hr
              refine G_c 14 rfl rfl (CA_of (as := [.agg (cT y59), .bool b64]) rfl (hrec _ _ _ hr65)) ?_
              refine G_p rfl rfl rfl ?_
              refine G_nil ?_
              refine L_nil ?_
              refine Sm_norm (e2 := [(1, .bool out2), (2, .ptr 0 0), (33, .lst (List.map encT t1.funs) false), (34, .int .i64 ((List.length t1.funs : Nat) : Int)), (35, .int .i64 ((i60 : Nat) : Int)), (52, .bool (!r65))]) (H1 := [(kg02 t1), (kg01 y59)]) (H2 := [(kg02 t1), (kg01 y59)]) rfl (by repeat (first | exact rzz | apply rcc rfl | apply rnn rfl)) rfl (?_ : GL _ _ _ _ _)
              rcases cond_s hr with ⟨hc52, hr⟩ | ⟨hc52, hr⟩
              · refine L_T rfl hc52 ?_
                refine L_seq ?_
                refine L_reg ?_
                refine G_p rfl rfl rfl ?_
                refine G_nil ?_
                refine L_ret ?_
                refine Blk_ret ?_
                refine Sm_ret ?_
                refine Rd_ret ?_
                refine Blk_ret ?_
                refine Sm_ret ?_
                have hr := some_s hr
                subst hr
                exact ⟨_, rfl, _, rfl, rfl⟩
              · refine L_F rfl hc52 ?_
                refine L_skip ?_
                refine L_nil ?_
                refine Blk_norm (?_ : GL _ _ _ _ _)
                refine L_nil ?_
                refine Sm_norm (e2 := [(1, .bool out2), (2, .ptr 0 0), (33, .lst (List.map encT t1.funs) false), (34, .int .i64 ((List.length t1.funs : Nat) : Int)), (35, .int .i64 ((i60 : Nat) : Int))]) (H1 := [(kg02 t1), (kg01 y59)]) (H2 := [(kg02 t1)]) rfl (by repeat (first | exact rzz | apply rcc rfl | apply rnn rfl)) rfl (?_ : GL _ _ _ _ _)
                refine L_reg ?_
                refine G_v (.int .i64 ((i60 + 1 : Nat) : Int)) rfl rfl rfl (congrArg _ (wrap_next hLq58 hlti60)) ?_
                refine G_p rfl rfl rfl ?_
                refine G_nil ?_
                refine L_nil ?_
                refine Rd_norm ⟨(), ?_, rfl, hr⟩
                show restr _ _ = [(35, .int .i64 (((i60 + 1) : Nat) : Int)), (1, .bool out2), (2, .ptr 0 0), (33, .lst (List.map encT t1.funs) false), (34, .int .i64 ((List.length t1.funs : Nat) : Int))]
                (repeat (first | exact rzz | apply rcc rfl | apply rnn rfl))
        · rintro ⟨⟩ hr
          show GL _ _ [] [(kg02 t1)] _
          replace hr : y0u = some r := hr
          unfold y0u at hr
          refine L_seq ?_
          refine L_reg ?_
          refine G_p rfl rfl rfl ?_
          refine G_nil ?_
          refine L_ret ?_
          have hr := some_s hr
          subst hr
          exact ⟨_, rfl, _, rfl, rfl⟩
noncomputable def y0g : Nat → Ty → Bool → Option Bool
  | 0, _, _ => none
  | n + 1, t1, out2 => y0z (y0g n) t1 out2
theorem y27 : ∀ (n : Nat) {t1 : Ty} {out2 : Bool} {r : Bool} (hr : y0g n t1 out2 = some r), PRes (tabOf tabL) 14 [.agg (cT t1), .bool out2] (.bool r)
  | 0, _, _, _, hr => by cases hr
  | n + 1, _, _, _, hr => y31 (fun _ _ _ h => y27 n h) hr
end Go.Ev.Seat
namespace Go.Ev
set_option linter.unusedVariables false
set_option linter.unusedSimpArgs false
open Go
def zeroT : Ty := ⟨false, 0, 0, [], 0, []⟩
def allT : Ty := ⟨true, 0, 0, [], 0, []⟩
def listT (x : Ty) : Ty := ⟨false, 16, 2, [x], 0, []⟩
theorem okT_facts {t : Ty} (h : okT t = true) : (0 ≤ t.flat ∧ t.flat ≤ 63) ∧ (0 ≤ t.pair ∧ t.pair ≤ 2) ∧ (0 ≤ t.fn ∧ t.fn ≤ 2) ∧ (t.all = true → t = allT) ∧ (t.pair = 0 → t.pairs = []) ∧ (t.pair = 1 → ∃ x y, t.pairs = [x, y]) ∧ (t.pair = 2 → ∃ x, t.pairs = [x]) ∧
    (t.fn = 1 → 1 ≤ t.funs.length ∧ t.funs.length ≤ 9) ∧ (t.fn ≠ 1 → t.funs = []) := by
  unfold okT at h
  simp only [Bool.and_eq_true, decide_eq_true_eq] at h
  obtain ⟨⟨⟨⟨⟨⟨⟨⟨h1, h2⟩, h3⟩, h4⟩, h5⟩, h6⟩, h7⟩, h8⟩, h9⟩ := h
  have p0 : t.pair = 0 → t.pairs = [] := by
    intro h; rw [h] at h8; exact List.length_eq_zero_iff.1 (by simpa [pcnt] using h8)
  have f1 : t.fn ≠ 1 → t.funs = [] := by
    intro h; rw [if_neg h] at h9; exact List.length_eq_zero_iff.1 (by simpa using h9)
  refine ⟨⟨h1, h2⟩, ⟨h3, h4⟩, ⟨h5, h6⟩, ?_, p0, ?_, ?_, ?_, f1⟩
  · intro ha
    simp only [ha, Bool.not_true, Bool.false_or, Bool.and_eq_true, decide_eq_true_eq] at h7
    have q1 := p0 h7.1.2
    have q2 := f1 (by rw [h7.2]; decide)
    cases t with | mk a f p ps g gs =>
    simp only [Ty.all, Ty.flat, Ty.pair, Ty.fn, Ty.pairs, Ty.funs] at *
    rw [ha, h7.1.1, h7.1.2, h7.2, q1, q2]; rfl
  · intro h; rw [h] at h8
    have h8' : t.pairs.length = 2 := by simp [pcnt] at h8; omega
    exact len2 h8'
  · intro h; rw [h] at h8
    have h8' : t.pairs.length = 1 := by simp [pcnt] at h8; omega
    exact len1 h8'
  · intro h; rw [if_pos h] at h9; simpa using h9
def Rt (t : Ty) : Prop := ∃ d, rightT t d = true
theorem Rt.ok {t : Ty} (h : Rt t) : okT t = true := by
  obtain ⟨d, h⟩ := h
  cases d with
  | zero => rw [y16] at h; cases h
  | succ d => rw [y0a] at h; simp only [Bool.and_eq_true] at h; exact h.1.1
theorem Rt.pairs {t x : Ty} (h : Rt t) (hx : x ∈ t.pairs) : Rt x := by
  obtain ⟨d, h⟩ := h
  cases d with
  | zero => rw [y16] at h; cases h
  | succ d => rw [y0a] at h; simp only [Bool.and_eq_true] at h; exact ⟨d, y17 h.1.2 hx⟩
theorem Rt.funs {t x : Ty} (h : Rt t) (hx : x ∈ t.funs) : Rt x := by
  obtain ⟨d, h⟩ := h
  cases d with
  | zero => rw [y16] at h; cases h
  | succ d => rw [y0a] at h; simp only [Bool.and_eq_true] at h; exact ⟨d, y17 h.2 hx⟩
theorem Rt.list {x : Ty} (h : Rt x) : Rt (listT x) := by
  obtain ⟨d, h⟩ := h
  refine ⟨d + 1, ?_⟩
  rw [y0a]
  simp [listT, okT, Ty.all, Ty.flat, Ty.pair, Ty.pairs, Ty.fn, Ty.funs, pcnt, rightTs, h]
theorem Rt.all : Rt allT := ⟨1, by rfl⟩
theorem Rt.zero : Rt zeroT := ⟨1, by rfl⟩
theorem WfT.flat {t : Ty} (h : WfT t) : -9223372036854775808 ≤ t.flat ∧ t.flat < 9223372036854775808 := by cases h; assumption
theorem WfT.pairs {t x : Ty} (h : WfT t) (hx : x ∈ t.pairs) : WfT x := by cases h with | mk w1 w2 w3 w4 w5 w6 w7 => exact w6 x hx
theorem WfT.funs {t x : Ty} (h : WfT t) (hx : x ∈ t.funs) : WfT x := by cases h with | mk w1 w2 w3 w4 w5 w6 w7 => exact w7 x hx
theorem WfT.list {x : Ty} (h : WfT x) : WfT (listT x) := by
  refine .mk (by simp [listT, Ty.flat]) (by simp [listT, Ty.pair]) (by simp [listT, Ty.fn]) (by simp [listT, Ty.pairs]) (by simp [listT, Ty.funs]) ?_ (by simp [listT, Ty.funs])
  intro y hy
  simp [listT, Ty.pairs] at hy
  subst hy; exact h
theorem WfT.zero : WfT zeroT := .mk (by simp [zeroT, Ty.flat]) (by simp [zeroT, Ty.pair]) (by simp [zeroT, Ty.fn]) (by simp [zeroT, Ty.pairs]) (by simp [zeroT, Ty.funs]) (by simp [zeroT, Ty.pairs]) (by simp [zeroT, Ty.funs])
theorem WfT.allT : WfT allT := .mk (by simp [Ev.allT, Ty.flat]) (by simp [Ev.allT, Ty.pair]) (by simp [Ev.allT, Ty.fn]) (by simp [Ev.allT, Ty.pairs]) (by simp [Ev.allT, Ty.funs]) (by simp [Ev.allT, Ty.pairs]) (by simp [Ev.allT, Ty.funs])
def carT (t : Ty) : Ty := if t.all then t else if t.pair = 0 then zeroT else t.pairs.headD zeroT
def cdrT (t : Ty) : Ty := if t.all then t else if t.pair = 0 then zeroT else if t.pair = 2 then listT (t.pairs.headD zeroT) else (t.pairs[1]?).getD zeroT
def hasT (t : Ty) : Bool := t.all || !decide (t.pair = 0)
theorem headD_mem {l : List Ty} (h : l ≠ []) : l.headD zeroT ∈ l := by cases l with | nil => exact absurd rfl h | cons x xs => simp
theorem car_facts {t : Ty} (h : Rt t) (ha : t.all = false) (hp : t.pair ≠ 0) : carT t ∈ t.pairs ∧ Rt (carT t) ∧ szT (carT t) < szT t := by
  obtain ⟨_, _, _, _, _, h1, h2, _⟩ := okT_facts h.ok
  have hne : t.pairs ≠ [] := by
    have := (okT_facts h.ok).2.1
    rcases (show t.pair = 1 ∨ t.pair = 2 by omega) with q | q
    · obtain ⟨x, y, e⟩ := h1 q; simp [e]
    · obtain ⟨x, e⟩ := h2 q; simp [e]
  have e : carT t = t.pairs.headD zeroT := by simp [carT, ha, hp]
  have hm := headD_mem hne
  rw [e]
  exact ⟨hm, h.pairs hm, szT_pairs hm⟩
theorem szT_list (x : Ty) : szT (listT x) = 1 + szT x := by simp [listT, szT, szTs]
theorem cdr_facts {t : Ty} (h : Rt t) (ha : t.all = false) (hp : t.pair ≠ 0) : (t.pair = 1 → cdrT t ∈ t.pairs ∧ szT (cdrT t) < szT t) ∧ (t.pair = 2 → cdrT t = listT (carT t) ∧ szT (cdrT t) ≤ szT t) ∧ Rt (cdrT t) := by
  obtain ⟨_, _, _, _, _, h1, h2, _⟩ := okT_facts h.ok
  have hb := (okT_facts h.ok).2.1
  rcases (show t.pair = 1 ∨ t.pair = 2 by omega) with q | q
  · obtain ⟨x, y, e⟩ := h1 q
    have e2 : cdrT t = y := by simp [cdrT, ha, hp, q, e]
    have hy : y ∈ t.pairs := by simp [e]
    rw [e2]
    exact ⟨fun _ => ⟨hy, szT_pairs hy⟩, fun h => by omega, h.pairs hy⟩
  · obtain ⟨x, e⟩ := h2 q
    have hx : x ∈ t.pairs := by simp [e]
    have e1 : carT t = x := by simp [carT, ha, hp, e]
    have e2 : cdrT t = listT x := by simp [cdrT, ha, hp, q, e]
    rw [e2, e1, szT_list]
    exact ⟨fun h => by omega, fun _ => ⟨rfl, by have := szT_pairs hx; omega⟩, (h.pairs hx).list⟩
theorem car_wf {t : Ty} (h : WfT t) : WfT (carT t) := by
  unfold carT
  split
  · exact h
  · split
    · exact .zero
    · by_cases hn : t.pairs = []
      · rw [hn]; exact .zero
      · exact h.pairs (headD_mem hn)
theorem cdr_wf {t : Ty} (h : WfT t) : WfT (cdrT t) := by
  unfold cdrT
  split
  · exact h
  · split
    · exact .zero
    · split
      · refine WfT.list ?_
        by_cases hn : t.pairs = []
        · rw [hn]; exact .zero
        · exact h.pairs (headD_mem hn)
      · cases hy : t.pairs[1]? with
        | none => exact .zero
        | some y => exact h.pairs (List.mem_of_getElem? hy)
def subF (a b : Int) : Bool := a.toNat &&& b.toNat == a.toNat
def subT : Nat → Ty → Ty → Bool
  | 0, _, _ => false
  | k + 1, a, b =>
    if b.all then true
    else if a.all || !subF a.flat b.flat || (!decide (a.pair = 0) && decide (b.pair = 0)) || (!decide (a.fn = 0) && decide (b.fn = 0)) then false
    else
      let is := if a.pair = 0 then true else subT k (carT a) (carT b) && (if a.pair = 2 ∧ b.pair = 2 then true else subT k (cdrT a) (cdrT b))
      if a.fn = 0 ∨ b.fn = 2 then is
      else if a.fn = 2 ∨ b.funs.length ≠ a.funs.length then false
      else is && (List.range (a.funs.length - 1)).all (fun i => subT k (b.funs.getD i zeroT) (a.funs.getD i zeroT)) && subT k (a.funs.getD (a.funs.length - 1) zeroT) (b.funs.getD (a.funs.length - 1) zeroT)
theorem flats_key : ∀ a b : Fin 64, (BitVec.ofNat 64 a.val &&& ~~~ BitVec.ofNat 64 b.val = 0#64) ↔ (a.val &&& b.val == a.val) = true := by decide +kernel
theorem y3o {a : Int} (h0 : 0 ≤ a) (h1 : a ≤ 63) : BitVec.ofInt 64 a = BitVec.ofNat 64 a.toNat := by
  apply BitVec.eq_of_toNat_eq
  rw [BitVec.toNat_ofInt, BitVec.toNat_ofNat]; omega
theorem andn_sub {a b : Int} (ha : 0 ≤ a ∧ a ≤ 63) (hb : 0 ≤ b ∧ b ≤ 63) : IntKind.i64.wrap (((BitVec.ofInt IntKind.i64.bits a &&& ~~~ BitVec.ofInt IntKind.i64.bits b).toNat : Nat) : Int) = 0 ↔ subF a b = true := by
  show IntKind.i64.wrap (((BitVec.ofInt 64 a &&& ~~~ BitVec.ofInt 64 b).toNat : Nat) : Int) = 0 ↔ _
  rw [i64_bits, y3o ha.1 ha.2, y3o hb.1 hb.2]
  exact flats_key ⟨a.toNat, by omega⟩ ⟨b.toNat, by omega⟩
theorem getD_of {l : List Ty} {i : Nat} {x : Ty} (h : l[i]? = some x) : l.getD i zeroT = x := by simp [List.getD, h]
theorem y2k (p : Nat → Bool) (i : Nat) : (List.range (i + 1)).all p = ((List.range i).all p && p i) := by simp [List.range_succ]
theorem andn_dec {a b : Int} (ha : 0 ≤ a ∧ a ≤ 63) (hb : 0 ≤ b ∧ b ≤ 63) : decide (IntKind.i64.wrap (((BitVec.ofInt IntKind.i64.bits a &&& ~~~ BitVec.ofInt IntKind.i64.bits b).toNat : Nat) : Int) = 0) = subF a b := by
  rw [Bool.eq_iff_iff, decide_eq_true_eq, andn_sub ha hb]
theorem subT_succ (k : Nat) (a b : Ty) (hb : b.all = false) (hc : (a.all || !subF a.flat b.flat || (!decide (a.pair = 0) && decide (b.pair = 0)) || (!decide (a.fn = 0) && decide (b.fn = 0))) = false) :
    subT (k + 1) a b = (if a.fn = 0 ∨ b.fn = 2 then (if a.pair = 0 then true else (subT k (carT a) (carT b) && (if a.pair = 2 ∧ b.pair = 2 then true else subT k (cdrT a) (cdrT b)))) else if a.fn = 2 ∨ b.funs.length ≠ a.funs.length then false
      else ((if a.pair = 0 then true else (subT k (carT a) (carT b) && (if a.pair = 2 ∧ b.pair = 2 then true else subT k (cdrT a) (cdrT b)))) && (List.range (a.funs.length - 1)).all (fun i => subT k (b.funs.getD i zeroT) (a.funs.getD i zeroT)) && subT k (a.funs.getD (a.funs.length - 1) zeroT) (b.funs.getD (a.funs.length - 1) zeroT))) := by
  rw [subT, hb, hc]; simp only [Bool.false_eq_true, if_false]
theorem subT_conj (k : Nat) (a b : Ty) (hb : b.all = false) (ha : a.all = false) : subT (k + 1) a b =
    (subF a.flat b.flat && (decide (a.pair = 0) || (!decide (b.pair = 0) && subT k (carT a) (carT b) && (decide (a.pair = 2 ∧ b.pair = 2) || subT k (cdrT a) (cdrT b)))) &&
      (decide (a.fn = 0) || (!decide (b.fn = 0) && (decide (b.fn = 2) || (!decide (a.fn = 2) && decide (b.funs.length = a.funs.length) && (List.range (a.funs.length - 1)).all (fun i => subT k (b.funs.getD i zeroT) (a.funs.getD i zeroT)) &&
        subT k (a.funs.getD (a.funs.length - 1) zeroT) (b.funs.getD (a.funs.length - 1) zeroT)))))) := by
  rw [subT]
  simp only [hb, ha, Bool.false_eq_true, if_false, Bool.false_or]
  generalize (List.range (a.funs.length - 1)).all (fun i => subT k (b.funs.getD i zeroT) (a.funs.getD i zeroT)) = X
  generalize subT k (a.funs.getD (a.funs.length - 1) zeroT) (b.funs.getD (a.funs.length - 1) zeroT) = Y
  generalize subT k (carT a) (carT b) = r1
  generalize subT k (cdrT a) (cdrT b) = r2
  cases subF a.flat b.flat
  · simp
  · by_cases h1 : a.pair = 0 <;> by_cases h2 : b.pair = 0 <;> by_cases h3 : a.fn = 0 <;> by_cases h4 : b.fn = 0 <;> by_cases h5 : b.fn = 2 <;> by_cases h6 : a.fn = 2 <;> by_cases h7 : b.funs.length = a.funs.length <;> by_cases h8 : a.pair = 2 ∧ b.pair = 2 <;>
      simp [h1, h2, h3, h4, h5, h6, h7, h8] <;> first | omega | (cases r1 <;> cases r2 <;> cases X <;> cases Y <;> simp_all)
end Go.Ev
namespace Go.Ev
set_option linter.unusedVariables false
set_option linter.unusedSimpArgs false
open Go
theorem getD_mem {l : List Ty} {i : Nat} (h : i < l.length) : l.getD i zeroT ∈ l := by
  simp [List.getD, List.getElem?_eq_getElem h]
theorem all_congr {n : Nat} {p q : Nat → Bool} (h : ∀ i, i < n → p i = q i) : (List.range n).all p = (List.range n).all q := by
  rw [Bool.eq_iff_iff, List.all_eq_true, List.all_eq_true]
  constructor
  · intro h1 i hi; rw [← h i (List.mem_range.1 hi)]; exact h1 i hi
  · intro h1 i hi; rw [h i (List.mem_range.1 hi)]; exact h1 i hi
theorem fn_facts {t : Ty} (h : Rt t) : t.fn = 0 ∨ t.fn = 2 ∨ (t.fn = 1 ∧ 1 ≤ t.funs.length) := by
  have f := okT_facts h.ok
  by_cases q : t.fn = 1
  · exact .inr (.inr ⟨q, (f.2.2.2.2.2.2.2.1 q).1⟩)
  · omega
theorem subT_step : ∀ (k : Nat) (a b : Ty), Rt a → Rt b → szT a + szT b ≤ k → subT (k + 1) a b = subT k a b
  | 0, a, b, _, _, h => by have := szT_pos a; omega
  | k + 1, a, b, ha, hb, h => by
    have ih := subT_step k
    cases hB : b.all with
    | true => simp [subT, hB]
    | false =>
      cases hA : a.all with
      | true => simp [subT, hA, hB]
      | false =>
        rw [subT_conj (k + 1) a b hB hA, subT_conj k a b hB hA]
        congr 1
        · congr 1
          by_cases hp : a.pair = 0
          · simp [hp]
          · by_cases hq : b.pair = 0
            · simp [hp, hq]
            · have c1 := car_facts ha hA hp
              have c2 := car_facts hb hB hq
              have d1 := cdr_facts ha hA hp
              have d2 := cdr_facts hb hB hq
              rw [ih _ _ c1.2.1 c2.2.1 (by omega)]
              by_cases hl : a.pair = 2 ∧ b.pair = 2
              · simp [hl]
              · have fa := (okT_facts ha.ok).2.1
                have fb := (okT_facts hb.ok).2.1
                rw [ih _ _ d1.2.2 d2.2.2 (by
                  rcases (show a.pair = 1 ∨ a.pair = 2 by omega) with q | q <;> rcases (show b.pair = 1 ∨ b.pair = 2 by omega) with r | r
                  · have := (d1.1 q).2; have := (d2.1 r).2; omega
                  · have := (d1.1 q).2; have := (d2.2.1 r).2; omega
                  · have := (d1.2.1 q).2; have := (d2.1 r).2; omega
                  · exact absurd ⟨q, r⟩ hl)]
        · by_cases hf0 : a.fn = 0
          · simp [hf0]
          congr 1
          congr 1
          congr 1
          by_cases hl : b.funs.length = a.funs.length
          · rcases fn_facts ha with q | q | ⟨_, q⟩
            · exact absurd q hf0
            · simp [q]
            · have key : ∀ i, i < a.funs.length → (a.funs.getD i zeroT ∈ a.funs ∧ szT (a.funs.getD i zeroT) < szT a) ∧ (b.funs.getD i zeroT ∈ b.funs ∧ szT (b.funs.getD i zeroT) < szT b) := by
                intro i hi
                have m1 := getD_mem hi
                have m2 := getD_mem (l := b.funs) (i := i) (by omega)
                exact ⟨⟨m1, szT_funs m1⟩, ⟨m2, szT_funs m2⟩⟩
              rw [all_congr (q := fun i => subT k (b.funs.getD i zeroT) (a.funs.getD i zeroT)) (fun i hi => by
                have := key i (by omega)
                exact ih _ _ (hb.funs this.2.1) (ha.funs this.1.1) (by omega))]
              have := key (a.funs.length - 1) (by omega)
              rw [ih _ _ (ha.funs this.1.1) (hb.funs this.2.1) (by omega)]
          · simp [hl]
def S (a b : Ty) : Bool := subT (szT a + szT b) a b
theorem subT_S : ∀ (k : Nat) (a b : Ty), Rt a → Rt b → szT a + szT b ≤ k → subT k a b = S a b
  | 0, a, b, _, _, h => by have := szT_pos a; omega
  | k + 1, a, b, ha, hb, h => by
    rcases Nat.lt_or_ge k (szT a + szT b) with q | q
    · have : k + 1 = szT a + szT b := by omega
      rw [this]; rfl
    · rw [subT_step k a b ha hb q]; exact subT_S k a b ha hb q
theorem S_all {a b : Ty} (h : b.all = true) : S a b = true := by
  unfold S
  have := szT_pos a
  obtain ⟨k, hk⟩ : ∃ k, szT a + szT b = k + 1 := ⟨szT a + szT b - 1, by omega⟩
  rw [hk]; simp [subT, h]
theorem S_nall {a b : Ty} (h : b.all = false) (ha : a.all = true) : S a b = false := by
  unfold S
  have := szT_pos a
  obtain ⟨k, hk⟩ : ∃ k, szT a + szT b = k + 1 := ⟨szT a + szT b - 1, by omega⟩
  rw [hk]; simp [subT, h, ha]
structure SubP (a b : Ty) : Prop where
  flat : subF a.flat b.flat = true
  pair : a.pair ≠ 0 → b.pair ≠ 0 ∧ S (carT a) (carT b) = true ∧ (¬(a.pair = 2 ∧ b.pair = 2) → S (cdrT a) (cdrT b) = true)
  fn : a.fn ≠ 0 → b.fn ≠ 0 ∧ (b.fn ≠ 2 → a.fn ≠ 2 ∧ b.funs.length = a.funs.length ∧ (∀ i, i < a.funs.length - 1 → S (b.funs.getD i zeroT) (a.funs.getD i zeroT) = true) ∧
    S (a.funs.getD (a.funs.length - 1) zeroT) (b.funs.getD (a.funs.length - 1) zeroT) = true)
theorem S_iff {a b : Ty} (ha : Rt a) (hb : Rt b) (hA : a.all = false) (hB : b.all = false) : S a b = true ↔ SubP a b := by
  have pa := szT_pos a
  obtain ⟨k, hk⟩ : ∃ k, szT a + szT b = k + 1 := ⟨szT a + szT b - 1, by omega⟩
  have e1 : a.pair ≠ 0 → b.pair ≠ 0 → subT k (carT a) (carT b) = S (carT a) (carT b) := by
    intro hp hq
    have c1 := car_facts ha hA hp
    have c2 := car_facts hb hB hq
    exact subT_S _ _ _ c1.2.1 c2.2.1 (by omega)
  have e2 : a.pair ≠ 0 → b.pair ≠ 0 → ¬(a.pair = 2 ∧ b.pair = 2) → subT k (cdrT a) (cdrT b) = S (cdrT a) (cdrT b) := by
    intro hp hq hl
    have d1 := cdr_facts ha hA hp
    have d2 := cdr_facts hb hB hq
    have fa := (okT_facts ha.ok).2.1
    have fb := (okT_facts hb.ok).2.1
    refine subT_S _ _ _ d1.2.2 d2.2.2 ?_
    rcases (show a.pair = 1 ∨ a.pair = 2 by omega) with q | q <;> rcases (show b.pair = 1 ∨ b.pair = 2 by omega) with r | r
    · have := (d1.1 q).2; have := (d2.1 r).2; omega
    · have := (d1.1 q).2; have := (d2.2.1 r).2; omega
    · have := (d1.2.1 q).2; have := (d2.1 r).2; omega
    · exact absurd ⟨q, r⟩ hl
  have key : b.funs.length = a.funs.length → ∀ i, i < a.funs.length → (a.funs.getD i zeroT ∈ a.funs ∧ szT (a.funs.getD i zeroT) < szT a) ∧ (b.funs.getD i zeroT ∈ b.funs ∧ szT (b.funs.getD i zeroT) < szT b) := by
    intro hl i hi
    have m1 := getD_mem hi
    have m2 := getD_mem (l := b.funs) (i := i) (by omega)
    exact ⟨⟨m1, szT_funs m1⟩, ⟨m2, szT_funs m2⟩⟩
  have e3 : b.funs.length = a.funs.length → ∀ i, i < a.funs.length → subT k (b.funs.getD i zeroT) (a.funs.getD i zeroT) = S (b.funs.getD i zeroT) (a.funs.getD i zeroT) := by
    intro hl i hi
    have := key hl i hi
    exact subT_S _ _ _ (hb.funs this.2.1) (ha.funs this.1.1) (by omega)
  have e4 : b.funs.length = a.funs.length → a.fn = 1 → subT k (a.funs.getD (a.funs.length - 1) zeroT) (b.funs.getD (a.funs.length - 1) zeroT) = S (a.funs.getD (a.funs.length - 1) zeroT) (b.funs.getD (a.funs.length - 1) zeroT) := by
    intro hl hf
    have := ((okT_facts ha.ok).2.2.2.2.2.2.2.1 hf).1
    have := key hl (a.funs.length - 1) (by omega)
    exact subT_S _ _ _ (ha.funs this.1.1) (hb.funs this.2.1) (by omega)
  have fa := (okT_facts ha.ok).2.2.1
  rw [S, hk, subT_conj k a b hB hA]
  simp only [Bool.and_eq_true, Bool.or_eq_true, decide_eq_true_eq, Bool.not_eq_true', decide_eq_false_iff_not, List.all_eq_true, List.mem_range]
  constructor
  · rintro ⟨⟨h1, h2⟩, h3⟩
    refine ⟨h1, fun hp => ?_, fun hf => ?_⟩
    · rcases h2 with h2 | ⟨⟨h2, h4⟩, h5⟩
      · exact absurd h2 hp
      · refine ⟨h2, by rw [← e1 hp h2]; exact h4, fun hl => ?_⟩
        rcases h5 with h5 | h5
        · exact absurd h5 hl
        · rw [← e2 hp h2 hl]; exact h5
    · rcases h3 with h3 | ⟨h3, h4⟩
      · exact absurd h3 hf
      · refine ⟨h3, fun h2 => ?_⟩
        rcases h4 with h4 | ⟨⟨⟨h4, h5⟩, h6⟩, h7⟩
        · exact absurd h4 h2
        · exact ⟨h4, h5, fun i hi => by rw [← e3 h5 i (by omega)]; exact h6 i hi, by rw [← e4 h5 (by omega)]; exact h7⟩
  · rintro ⟨h1, h2, h3⟩
    refine ⟨⟨h1, ?_⟩, ?_⟩
    · by_cases hp : a.pair = 0
      · exact .inl hp
      · obtain ⟨q1, q2, q3⟩ := h2 hp
        refine .inr ⟨⟨q1, by rw [e1 hp q1]; exact q2⟩, ?_⟩
        by_cases hl : a.pair = 2 ∧ b.pair = 2
        · exact .inl hl
        · exact .inr (by rw [e2 hp q1 hl]; exact q3 hl)
    · by_cases hf : a.fn = 0
      · exact .inl hf
      · obtain ⟨q1, q2⟩ := h3 hf
        refine .inr ⟨q1, ?_⟩
        by_cases h2 : b.fn = 2
        · exact .inl h2
        · obtain ⟨r1, r2, r3, r4⟩ := q2 h2
          exact .inr ⟨⟨⟨r1, r2⟩, fun i hi => by rw [e3 r2 i (by omega)]; exact r3 i hi⟩, by rw [e4 r2 (by omega)]; exact r4⟩
theorem subF_refl (a : Int) : subF a a = true := by simp [subF]
theorem car_list (x : Ty) : carT (listT x) = x := by simp [carT, listT, Ty.all, Ty.pair, Ty.pairs]
theorem S_list {x y : Ty} (hx : Rt x) (hy : Rt y) (h : S x y = true) : S (listT x) (listT y) = true := by
  refine (S_iff hx.list hy.list rfl rfl).2 ⟨subF_refl _, fun _ => ⟨by simp [listT, Ty.pair], by rw [car_list, car_list]; exact h, fun hl => absurd ⟨rfl, rfl⟩ hl⟩, fun hf => absurd rfl hf⟩
theorem S_zero {b : Ty} (hb : Rt b) : S zeroT b = true := by
  cases hB : b.all with
  | true => exact S_all hB
  | false => exact (S_iff .zero hb rfl hB).2 ⟨by simp [subF, zeroT, Ty.flat], fun h => absurd rfl h, fun h => absurd rfl h⟩
end Go.Ev
namespace Go.Ev
set_option linter.unusedVariables false
set_option linter.unusedSimpArgs false
open Go
theorem cd_small {a b : Ty} (ha : Rt a) (hb : Rt b) (hA : a.all = false) (hB : b.all = false) (hp : a.pair ≠ 0) (hq : b.pair ≠ 0) : Rt (carT a) ∧ Rt (carT b) ∧ szT (carT a) + szT (carT b) < szT a + szT b ∧ Rt (cdrT a) ∧ Rt (cdrT b) ∧ (¬(a.pair = 2 ∧ b.pair = 2) → szT (cdrT a) + szT (cdrT b) < szT a + szT b) := by
  have c1 := car_facts ha hA hp
  have c2 := car_facts hb hB hq
  have d1 := cdr_facts ha hA hp
  have d2 := cdr_facts hb hB hq
  have fa := (okT_facts ha.ok).2.1
  have fb := (okT_facts hb.ok).2.1
  refine ⟨c1.2.1, c2.2.1, by omega, d1.2.2, d2.2.2, fun hl => ?_⟩
  rcases (show a.pair = 1 ∨ a.pair = 2 by omega) with q | q <;> rcases (show b.pair = 1 ∨ b.pair = 2 by omega) with r | r
  · have := (d1.1 q).2; have := (d2.1 r).2; omega
  · have := (d1.1 q).2; have := (d2.2.1 r).2; omega
  · have := (d1.2.1 q).2; have := (d2.1 r).2; omega
  · exact absurd ⟨q, r⟩ hl
section
variable {f p g : Int} {ps gs : List Ty}
end
end Go.Ev
namespace Go.Ev
set_option linter.unusedVariables false
set_option linter.unusedSimpArgs false
open Go
mutual
def safeT : Ty → Bool → Bool
  | .mk al _ _ ps fn gs, out => !(out && (al || decide (fn = 2))) && (safeTs ps out && safeFs gs out)
def safeTs : List Ty → Bool → Bool
  | [], _ => true
  | x :: xs, out => safeT x out && safeTs xs out
def safeFs : List Ty → Bool → Bool
  | [], _ => true
  | x :: xs, out => safeT x (cond xs.isEmpty out (!out)) && safeFs xs out
end
theorem safeT_eq (t : Ty) (out : Bool) : safeT t out = (!(out && (t.all || decide (t.fn = 2))) && (safeTs t.pairs out && safeFs t.funs out)) := by cases t; rfl
theorem y41 {out : Bool} : ∀ {l : List Ty} {x : Ty}, safeTs l out = true → x ∈ l → safeT x out = true
  | y :: ys, x, h, hm => by
    simp only [safeTs, Bool.and_eq_true] at h
    rcases List.mem_cons.1 hm with rfl | hm
    · exact h.1
    · exact y41 h.2 hm
theorem y4p {out : Bool} : ∀ {l : List Ty} {k : Nat} {x : Ty}, safeFs l out = true → l[k]? = some x → safeT x (if k + 1 = l.length then out else !out) = true
  | [], k, x, _, h => by simp at h
  | y :: ys, 0, x, h, hk => by
    simp only [safeFs, Bool.and_eq_true] at h
    simp at hk; subst hk
    cases ys with
    | nil => simpa using h.1
    | cons z zs => simpa using h.1
  | y :: ys, k + 1, x, h, hk => by
    simp only [safeFs, Bool.and_eq_true] at h
    have := y4p h.2 (by simpa using hk)
    simpa using this
theorem safe_list (x : Ty) (out : Bool) : safeT (listT x) out = safeT x out := by simp [listT, safeT, safeTs, safeFs]
theorem safe_out {t : Ty} (h : safeT t true = true) : t.all = false ∧ t.fn ≠ 2 := by
  rw [safeT_eq] at h
  cases ha : t.all
  · refine ⟨rfl, fun h2 => ?_⟩
    rw [ha, h2] at h; simp at h
  · rw [ha] at h; simp at h
theorem safe_funs {t x : Ty} {out : Bool} {k : Nat} (h : safeT t out = true) (hk : t.funs[k]? = some x) : safeT x (if k + 1 = t.funs.length then out else !out) = true := by
  rw [safeT_eq] at h
  simp only [Bool.and_eq_true] at h
  exact y4p h.2.2 hk
theorem y0f {t : Ty} (h : Rt t) (ha : t.all = false) (hp : t.pair ≠ 0) : (t.pair = 1 ∧ ∃ x y, t.pairs = [x, y] ∧ carT t = x ∧ cdrT t = y) ∨ (t.pair = 2 ∧ ∃ x, t.pairs = [x] ∧ carT t = x ∧ cdrT t = listT x) := by
  have hf := okT_facts h.ok
  rcases (show t.pair = 1 ∨ t.pair = 2 by omega) with h1 | h1
  · obtain ⟨x, y, e⟩ := hf.2.2.2.2.2.1 h1
    exact .inl ⟨h1, x, y, e, by simp [carT, ha, h1, e], by simp [cdrT, ha, h1, e]⟩
  · obtain ⟨x, e⟩ := hf.2.2.2.2.2.2.1 h1
    exact .inr ⟨h1, x, e, by simp [carT, ha, h1, e], by simp [cdrT, ha, h1, e]⟩
theorem safe_pair {t : Ty} {out : Bool} (hr : Rt t) (h : safeT t out = true) (ha : t.all = false) (hp : t.pair ≠ 0) : safeT (carT t) out = true ∧ safeT (cdrT t) out = true := by
  rw [safeT_eq] at h
  simp only [Bool.and_eq_true] at h
  have hm := @y41 out t.pairs
  rcases y0f hr ha hp with ⟨_, x, y, e, e1, e2⟩ | ⟨_, x, e, e1, e2⟩
  · rw [e1, e2]; exact ⟨hm h.2.1 (by simp [e]), hm h.2.1 (by simp [e])⟩
  · rw [e1, e2, safe_list]; exact ⟨hm h.2.1 (by simp [e]), hm h.2.1 (by simp [e])⟩
end Go.Ev
namespace Go.Ev.Seat
set_option linter.unusedVariables false
set_option linter.unusedSimpArgs false
open Go Go.Ev
theorem cond_and {a : Bool} {b : Bool} : cond (!a) (some false) (some b) = some (a && b) := by cases a <;> rfl
theorem safe_l5 (rec : Ty → Bool → Option Bool) (t : Ty) (out : Bool) (b : Bool) (h4 : y0b rec t out = some b) : ∀ (l : List Ty) (i : Nat), (∀ x, x ∈ l → rec x out = some (safeT x out)) →
    y06 rec t out l i = some (safeTs l out && b)
  | [], i, h => by rw [y06, h4, safeTs, Bool.true_and]
  | x :: xs, i, h => by
    rw [y06, h x (by simp), Option.bind_some, safe_l5 rec t out b h4 xs (i + 1) (fun y hy => h y (List.mem_cons_of_mem _ hy)), cond_and, safeTs, Bool.and_assoc]
theorem len_w {n : Nat} (h : n ≤ 1000000) (hp : 0 < n) : IntKind.wrap .i64 ((n : Int) - 1) = (n : Int) - 1 := by
  obtain ⟨m, rfl⟩ : ∃ m, n = m + 1 := ⟨n - 1, by omega⟩
  have e : (((m + 1 : Nat) : Int) - 1) = ((m : Nat) : Int) := by omega
  rw [e]; simp [IntKind.wrap, IntKind.signed, IntKind.bits]; omega
theorem safe_l2 (rec : Ty → Bool → Option Bool) (t : Ty) (out : Bool) (hl : t.funs.length ≤ 1000000) : ∀ (l : List Ty) (i : Nat), i + l.length = t.funs.length → (∀ x o, x ∈ l → rec x o = some (safeT x o)) →
    y03 rec t out l i = some (safeFs l out)
  | [], i, _, h => by rw [y03, safeFs]; rfl
  | x :: xs, i, hi, h => by
    simp only [List.length_cons] at hi
    have ih := safe_l2 rec t out hl xs (i + 1) (by omega) (fun y o hy => h y o (List.mem_cons_of_mem _ hy))
    rw [y03, ih, len_w hl (by omega), safeFs]
    unfold y0e
    cases xs with
    | nil =>
      simp only [List.length_nil] at hi
      rw [decide_eq_true (by omega), cond_true, h x out (by simp), Option.bind_some, cond_and]
      rfl
    | cons y ys =>
      simp only [List.length_cons] at hi
      rw [decide_eq_false (by omega), cond_false, h x (!out) (by simp), Option.bind_some, cond_and]
      rfl
theorem safe_c : ∀ (n : Nat) (t : Ty) (out : Bool), szT t < n → szT t ≤ 1000000 → y0g n t out = some (safeT t out)
  | 0, t, out, h, _ => by omega
  | n + 1, t, out, h, hs => by
    rw [szT_eq] at h hs
    have hp := szTs_len t.pairs
    have hf := szTs_len t.funs
    have e2 := safe_l2 (y0g n) t out (by omega) t.funs 0 (by simp) (fun x o hx => safe_c n x o (by have := szTs_mem hx; omega) (by have := szTs_mem hx; omega))
    have e4 : y0b (y0g n) t out = some (safeFs t.funs out) := by
      rw [y0b, okLen_of (by omega), cond_true, e2]
    have e5 := safe_l5 (y0g n) t out _ e4 t.pairs 0 (fun x hx => safe_c n x out (by have := szTs_mem hx; omega) (by have := szTs_mem hx; omega))
    rw [y0g, y0z, okLen_of (by omega), cond_true, e5, safeT_eq]
    cases (out && (t.all || decide (t.fn = 2))) <;> rfl
end Go.Ev.Seat
