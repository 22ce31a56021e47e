/-
  Walking through the evaluator's code: one rule for each piece of code and each kind of operation.
-/
import Derived.Test.YtbjoldcjbpngaaaEvV
set_option linter.unusedVariables false
set_option linter.unusedSimpArgs false
namespace Go.Ev
open Go

abbrev Post := AEx → Env → Heap → Prop

/-- The codes, one behind the other, end so. -/
def WL (C : Ctx) : List ACode → Env → Heap → Post → Prop
  | [], e, H, Q => Q .norm e H
  | c :: cs, e, H, Q => ∃ x e' H', evalCode C c e H = some (x, e', H') ∧ match x with
    | .norm => WL C cs e' H' Q
    | x => Q x e' H'

/-- Operations in turn, then the codes. -/
def WO (C : Ctx) (l : List AOper) (cs : List ACode) (e : Env) (H : Heap) (Q : Post) : Prop :=
  ∃ x e' H', evalOps C l e H = some (x, e', H') ∧ match x with
    | .norm => WL C cs e' H' Q
    | x => Q x e' H'

section
variable {C : Ctx} {cs : List ACode} {e e' : Env} {H H' : Heap} {Q : Post}

theorem WL_nil (h : Q .norm e H) : WL C [] e H Q := h
theorem WL_skip (h : WL C cs e H Q) : WL C (.skip :: cs) e H Q := ⟨.norm, e, H, rfl, h⟩
theorem WL_ret (h : Q .ret e H) : WL C (.ret :: cs) e H Q := ⟨.ret, e, H, rfl, h⟩
theorem WL_exit {id : Nat} (h : Q (.exit id) e H) : WL C (.exit id :: cs) e H Q := ⟨.exit id, e, H, rfl, h⟩
theorem WL_prune {keep : List Nat} (h1 : restr e keep = e') (h : WL C cs e' H Q) : WL C (.prune keep :: cs) e H Q := ⟨.norm, _, H, rfl, by rw [h1]; exact h⟩
theorem restr_nil : restr e [] = [] := rfl
theorem restr_cons {k : Nat} {ks : List Nat} {v : AVal} {r : Env} (h : e.get k = some v) (h2 : restr e ks = r) : restr e (k :: ks) = (k, v) :: r := by simp only [restr, h, h2]
theorem restr_none {k : Nat} {ks : List Nat} {r : Env} (h : e.get k = none) (h2 : restr e ks = r) : restr e (k :: ks) = r := by simp only [restr, h, h2]

theorem WL_own {t : Nat} {off : Option Nat} (h1 : ownA t off e H = (e', H')) (h : WL C cs e' H' Q) : WL C (.own t off :: cs) e H Q :=
  ⟨.norm, _, _, rfl, by rw [h1]; exact h⟩

theorem WL_seq {a b : ACode} (h : WL C (a :: b :: cs) e H Q) : WL C (.seq a b :: cs) e H Q := by
  obtain ⟨x, e1, H1, h1, h2⟩ := h
  cases x with
  | norm =>
    obtain ⟨y, e2, H2, h3, h4⟩ := h2
    exact ⟨y, e2, H2, by simp only [evalCode, h1, h3], h4⟩
  | exit i => exact ⟨.exit i, e1, H1, by simp only [evalCode, h1], h2⟩
  | ret => exact ⟨.ret, e1, H1, by simp only [evalCode, h1], h2⟩
  | pan v => exact ⟨.pan v, e1, H1, by simp only [evalCode, h1], h2⟩

theorem WL_reg {l : List AOper} (h : WO C l cs e H Q) : WL C (.reg l :: cs) e H Q := h

theorem WL_cond {x : AOpd} {a b : ACode} {t : Bool} (hx : x.ev e = some (.bool t)) (h1 : t = true → WL C (a :: cs) e H Q) (h2 : t = false → WL C (b :: cs) e H Q) : WL C (.cond x a b :: cs) e H Q := by
  cases t with
  | true =>
    obtain ⟨y, e2, H2, h3, h4⟩ := h1 rfl
    exact ⟨y, e2, H2, by simp only [evalCode, hx, if_true, h3], h4⟩
  | false =>
    obtain ⟨y, e2, H2, h3, h4⟩ := h2 rfl
    exact ⟨y, e2, H2, by simp only [evalCode, hx, Bool.false_eq_true, if_false, h3], h4⟩

theorem WL_true {x : AOpd} {a b : ACode} (hx : x.ev e = some (.bool true)) (h : WL C (a :: cs) e H Q) : WL C (.cond x a b :: cs) e H Q := WL_cond hx (fun _ => h) (fun h => by cases h)
theorem WL_false {x : AOpd} {a b : ACode} (hx : x.ev e = some (.bool false)) (h : WL C (b :: cs) e H Q) : WL C (.cond x a b :: cs) e H Q := WL_cond hx (fun h => by cases h) (fun _ => h)

/-- How a block's inside ends. -/
def Blk (id : Nat) (K : Env → Heap → Prop) (Q : Post) : Post
  | .norm, e, H => K e H
  | .exit j, e, H => if j = id then K e H else Q (.exit j) e H
  | x, e, H => Q x e H

theorem Blk_norm {id : Nat} {K : Env → Heap → Prop} (h : K e H) : Blk id K Q .norm e H := h
theorem Blk_exit {id : Nat} {K : Env → Heap → Prop} (h : K e H) : Blk id K Q (.exit id) e H := by simp only [Blk, if_true]; exact h
theorem Blk_other {id j : Nat} {K : Env → Heap → Prop} (hj : j ≠ id) (h : Q (.exit j) e H) : Blk id K Q (.exit j) e H := by simp only [Blk, hj, if_false]; exact h
theorem Blk_ret {id : Nat} {K : Env → Heap → Prop} (h : Q .ret e H) : Blk id K Q .ret e H := h

theorem WL_block {id : Nat} {a : ACode} (h : WL C [a] e H (Blk id (fun e' H' => WL C cs e' H' Q) Q)) : WL C (.block id a :: cs) e H Q := by
  obtain ⟨x, e1, H1, h1, h2⟩ := h
  cases x with
  | norm => exact ⟨.norm, e1, H1, by simp only [evalCode, h1], h2⟩
  | exit j =>
    simp only [Blk] at h2
    split at h2
    · rename_i hj; exact ⟨.norm, e1, H1, by simp only [evalCode, h1, hj, if_true], h2⟩
    · rename_i hj; exact ⟨.exit j, e1, H1, by simp only [evalCode, h1, hj, if_false], h2⟩
  | ret => exact ⟨.ret, e1, H1, by simp only [evalCode, h1], h2⟩
  | pan v => exact ⟨.pan v, e1, H1, by simp only [evalCode, h1], h2⟩

/-- How a round of a loop ends: on to the next, with less to go; or out. -/
def Rnd (I : Nat → Env → Heap → Prop) (k : Nat) (Q : Post) : Post
  | .norm, e, H => ∃ k', k' < k ∧ I k' e H
  | x, e, H => Q x e H

theorem Rnd_norm {I : Nat → Env → Heap → Prop} {k : Nat} (k' : Nat) (hk : k' < k) (h : I k' e H) : Rnd I k Q .norm e H := ⟨k', hk, h⟩
theorem Rnd_exit {I : Nat → Env → Heap → Prop} {k j : Nat} (h : Q (.exit j) e H) : Rnd I k Q (.exit j) e H := h
theorem Rnd_ret {I : Nat → Env → Heap → Prop} {k : Nat} (h : Q .ret e H) : Rnd I k Q .ret e H := h

/-- A loop: 'I k': so the state is at its head, with fewer than 'k' + 1 rounds to go. -/
theorem WL_loop {keep : List Nat} {a : ACode} (I : Nat → Env → Heap → Prop) (k : Nat) (hk : k < C.fuel) (h0 : I k e H)
    (round : ∀ k' e' H', k' ≤ k → I k' e' H' → WL C [a] (restr e' keep) (trunc H.length (restr e' keep) H') (Rnd I k' Q)) : WL C (.loop keep a :: cs) e H Q := by
  have key : ∀ (n k' : Nat) (e' : Env) (H' : Heap), k' < n → k' ≤ k → I k' e' H' → ∃ x e2 H2, iter n (fun e' H' => evalCode C a (restr e' keep) (trunc H.length (restr e' keep) H')) e' H' = some (x, e2, H2) ∧ x ≠ .norm ∧ Q x e2 H2 := by
    intro n
    induction n with
    | zero => intro k' e' H' h; omega
    | succ n ih =>
      intro k' e' H' hlt hle hI
      obtain ⟨x, e1, H1, h1, h2⟩ := round k' e' H' hle hI
      cases x with
      | norm =>
        obtain ⟨k2, hk2, hI2⟩ := h2
        obtain ⟨x, e2, H2, h3, h4, h5⟩ := ih k2 e1 H1 (by omega) (by omega) hI2
        exact ⟨x, e2, H2, by simp only [iter, h1, h3], h4, h5⟩
      | exit i => exact ⟨.exit i, e1, H1, by simp only [iter, h1], by simp, h2⟩
      | ret => exact ⟨.ret, e1, H1, by simp only [iter, h1], by simp, h2⟩
      | pan v => exact ⟨.pan v, e1, H1, by simp only [iter, h1], by simp, h2⟩
  obtain ⟨x, e2, H2, h1, h2, h3⟩ := key C.fuel k e H hk (Nat.le_refl _) h0
  refine ⟨x, e2, H2, h1, ?_⟩
  cases x with
  | norm => exact absurd rfl h2
  | _ => exact h3

/-! ### Operations -/

theorem WO_nil (h : WL C cs e H Q) : WO C [] cs e H Q := ⟨.norm, e, H, rfl, h⟩

theorem WO_step {o : AOper} {l : List AOper} {v : AVal} (hg : wantedA e o.guard = some true) (hv : evalOp C e H.length H o.op = some (.ok v, H')) (h : WO C l cs (e.put o.dst v) H' Q) : WO C (o :: l) cs e H Q := by
  obtain ⟨x, e1, H1, h1, h2⟩ := h
  exact ⟨x, e1, H1, by simp only [evalOps, hg, hv, h1], h2⟩

theorem WO_p {o : AOper} {l : List AOper} {v : AVal} (hk : o.op.kind = .pure) (hg : wantedA e o.guard = some true) (hv : evP e o.op = some v) (h : WO C l cs (e.put o.dst v) H Q) : WO C (o :: l) cs e H Q :=
  WO_step hg (by simp only [evalOp, hk, hv, okv]) h

theorem WO_n {o : AOper} {l : List AOper} {v : AVal} {B : ABlock} (hk : o.op.kind = .new) (hg : wantedA e o.guard = some true) (hv : evN e H.length o.op = some (v, B)) (h : WO C l cs (e.put o.dst v) (H ++ [B]) Q) : WO C (o :: l) cs e H Q :=
  WO_step hg (by simp only [evalOp, hk, hv, newAt, if_true]) h

def AOp.isCall : AOp → Bool
  | .call _ _ _ => true
  | .callv _ _ _ => true
  | .panic _ => true
  | _ => false

theorem WO_h {o : AOper} {l : List AOper} {v : AVal} (hc : o.op.isCall = false) (hk : o.op.kind = .heap) (hg : wantedA e o.guard = some true) (hv : evH C e H.length H o.op = some (.ok v, H')) (h : WO C l cs (e.put o.dst v) H' Q) : WO C (o :: l) cs e H Q :=
  WO_step hg (by simp only [evalOp, hk, hv]) h

theorem WO_skip {o : AOper} {l : List AOper} (hg : wantedA e o.guard = some false) (h : WO C l cs (e.put o.dst undefA) H Q) : WO C (o :: l) cs e H Q := by
  obtain ⟨x, e1, H1, h1, h2⟩ := h
  exact ⟨x, e1, H1, by simp only [evalOps, hg, h1], h2⟩

/-- A call, by its contract. -/
theorem WO_call {d : Option Nat} {g : Option (Nat × Bool)} {raw : Bool} {f : FuncId} {args : List AOpd} {l : List AOper} {vs : List AVal} {v : AVal} (hg : wantedA e g = some true) (hvs : evs e args = some vs) (hv : callA C raw f vs H = some (.ok v, H'))
    (h : WO C l cs (e.put d v) H' Q) : WO C (⟨d, .call raw f args, g⟩ :: l) cs e H Q :=
  WO_step hg (by simp only [evalOp, AOp.kind, evH, hvs, hv]) h

theorem WO_callv {d : Option Nat} {g : Option (Nat × Bool)} {raw : Bool} {x : AOpd} {args : List AOpd} {f : FuncId} {caps : List AVal} {l : List AOper} {vs : List AVal} {v : AVal} (hg : wantedA e g = some true) (hx : x.ev e = some (.fn f caps)) (hvs : evs e args = some vs)
    (hv : callA C raw f (vs ++ caps) H = some (.ok v, H')) (h : WO C l cs (e.put d v) H' Q) : WO C (⟨d, .callv raw x args, g⟩ :: l) cs e H Q :=
  WO_step hg (by simp only [evalOp, AOp.kind, evH, hx, hvs, hv]) h

section
variable {d : Nat} {op : AOp} {g : Option (Nat × Bool)} {l : List AOper} {v : AVal}
theorem O_p (hk : op.kind = .pure) (hg : wantedA e g = some true) (hv : evP e op = some v) (h : WO C l cs ((d, v) :: e) H Q) : WO C (⟨some d, op, g⟩ :: l) cs e H Q := WO_p hk hg hv h
theorem O_n {B : ABlock} (hk : op.kind = .new) (hg : wantedA e g = some true) (hv : evN e H.length op = some (v, B)) (h : WO C l cs ((d, v) :: e) (H ++ [B]) Q) : WO C (⟨some d, op, g⟩ :: l) cs e H Q := WO_n hk hg hv h
theorem O_h (hc : op.isCall = false) (hk : op.kind = .heap) (hg : wantedA e g = some true) (hv : evH C e H.length H op = some (.ok v, H')) (h : WO C l cs ((d, v) :: e) H' Q) : WO C (⟨some d, op, g⟩ :: l) cs e H Q := WO_h hc hk hg hv h
theorem O_hn (hc : op.isCall = false) (hk : op.kind = .heap) (hg : wantedA e g = some true) (hv : evH C e H.length H op = some (.ok v, H')) (h : WO C l cs e H' Q) : WO C (⟨none, op, g⟩ :: l) cs e H Q := WO_h hc hk hg hv h
theorem O_s (hg : wantedA e g = some false) (h : WO C l cs ((d, undefA) :: e) H Q) : WO C (⟨some d, op, g⟩ :: l) cs e H Q := WO_skip hg h
theorem O_sn (hg : wantedA e g = some false) (h : WO C l cs e H Q) : WO C (⟨none, op, g⟩ :: l) cs e H Q := WO_skip hg h
theorem O_b (b : Bool) {t : Bool} (hk : op.kind = .pure) (hg : wantedA e g = some true) (hv : evP e op = some (.bool t)) (ht : t = b) (h : WO C l cs ((d, .bool b) :: e) H Q) : WO C (⟨some d, op, g⟩ :: l) cs e H Q :=
  WO_p hk hg hv (ht ▸ h)
theorem O_c {raw : Bool} (f : FuncId) {args : List AOpd} {vs : List AVal} (hg : wantedA e g = some true) (hvs : evs e args = some vs) (hv : callA C raw f vs H = some (.ok v, H')) (h : WO C l cs ((d, v) :: e) H' Q) : WO C (⟨some d, .call raw f args, g⟩ :: l) cs e H Q :=
  WO_call hg hvs hv h
end

/-- A truth that is known. -/
theorem WO_b (b : Bool) {o : AOper} {l : List AOper} {t : Bool} (hk : o.op.kind = .pure) (hg : wantedA e o.guard = some true) (hv : evP e o.op = some (.bool t)) (ht : t = b) (h : WO C l cs (e.put o.dst (.bool b)) H Q) : WO C (o :: l) cs e H Q :=
  WO_p hk hg hv (ht ▸ h)

/-- A value, put another way. -/
theorem WO_eq {l : List AOper} {e2 : Env} (h1 : e = e2) (h : WO C l cs e2 H Q) : WO C l cs e H Q := h1 ▸ h
theorem WL_eq {e2 : Env} (h1 : e = e2) (h : WL C cs e2 H Q) : WL C cs e H Q := h1 ▸ h
end

/-- A function's contract, from the walk through its code. -/
theorem pcall_WL {tab : Nat → Option AFunc} {n f : Nat} {af : AFunc} {as : List AVal} {r : Ex} (h : tab f = some af)
    (hw : WL ⟨callF tab n, n⟩ [af.body] (initEnv 0 as) [] (fun x e H => pureRes (finish af (some (x, e, H))) = some r)) : pcall tab (n + 1) f as = some r := by
  rw [pcall_step h]
  obtain ⟨x, e1, H1, h1, h2⟩ := hw
  rw [h1]
  cases x with
  | norm => exact h2
  | _ => exact h2

theorem callF_WL {tab : Nat → Option AFunc} {n f : Nat} {af : AFunc} {as : List AVal} {H : Heap} {r : Ex × Heap} (h : tab f = some af)
    (hw : WL ⟨callF tab n, n⟩ [af.body] (initEnv 0 as) H (fun x e H => finish af (some (x, e, H)) = some r)) : callF tab (n + 1) f as H = some r := by
  obtain ⟨x, e1, H1, h1, h2⟩ := hw
  simp only [callF, h, h1]
  cases x with
  | norm => exact h2
  | _ => exact h2

section
variable {C : Ctx} {cs : List ACode} {e e' : Env} {H H' : Heap} {Q : Post}
theorem WL_iff : WL C cs e H Q ↔ match cs with
    | [] => Q .norm e H
    | c :: cs => ∃ x e' H', evalCode C c e H = some (x, e', H') ∧ match x with
      | .norm => WL C cs e' H' Q
      | x => Q x e' H' := by
  cases cs <;> exact Iff.rfl


theorem WO_iff {l : List AOper} : WO C l cs e H Q ↔ ∃ x e' H', evalOps C l e H = some (x, e', H') ∧ match x with
    | .norm => WL C cs e' H' Q
    | x => Q x e' H' := Iff.rfl
end

/-- How a function ends, of what it answers. -/
def FinQ (rs : List ARes) (r : Ex) : Post
  | .norm, e, H => ∃ vs, resAll e H rs = some vs ∧ ∃ v, shutR H (oneOr vs) = some v ∧ r = .ok v
  | .ret, e, H => ∃ vs, resAll e H rs = some vs ∧ ∃ v, shutR H (oneOr vs) = some v ∧ r = .ok v
  | .pan v, e, H => ∃ v', shutR H v = some v' ∧ r = .pan v'
  | .exit _, _, _ => False

theorem pcall_fin {tab : Nat → Option AFunc} {n f : Nat} {body : ACode} {rs : List ARes} {as : List AVal} {r : Ex} (h : tab f = some ⟨body, rs⟩)
    (hw : WL ⟨callF tab n, n⟩ [body] (initEnv 0 as) [] (FinQ rs r)) : pcall tab (n + 1) f as = some r := by
  rw [pcall_step h]
  obtain ⟨x, e1, H1, h1, h2⟩ := hw
  rw [h1]
  cases x with
  | norm =>
    obtain ⟨vs, h3, v, h4, rfl⟩ := h2
    simp only [finish, h3, pureRes, h4]
  | ret =>
    obtain ⟨vs, h3, v, h4, rfl⟩ := h2
    simp only [finish, h3, pureRes, h4]
  | pan v =>
    obtain ⟨v', h3, rfl⟩ := h2
    simp only [finish, pureRes, h3]
  | exit i => exact h2.elim

/-- How a call ends that may turn the heap. -/
def FinH (rs : List ARes) (R : Ex → Heap → Prop) : Post
  | .norm, e, H => ∃ vs, resAll e H rs = some vs ∧ R (.ok (oneOr vs)) H
  | .ret, e, H => ∃ vs, resAll e H rs = some vs ∧ R (.ok (oneOr vs)) H
  | .pan v, e, H => R (.pan v) H
  | .exit _, _, _ => False

theorem callF_fin {tab : Nat → Option AFunc} {n f : Nat} {body : ACode} {rs : List ARes} {as : List AVal} {H : Heap} {x : Ex} {H' : Heap} (h : tab f = some ⟨body, rs⟩)
    (hw : WL ⟨callF tab n, n⟩ [body] (initEnv 0 as) H (FinH rs fun y H2 => y = x ∧ H2 = H')) : callF tab (n + 1) f as H = some (x, H') := by
  obtain ⟨y, e1, H1, h1, h2⟩ := hw
  simp only [callF, h, h1]
  cases y with
  | norm =>
    obtain ⟨vs, h3, rfl, rfl⟩ := h2
    simp only [finish, h3]
  | ret =>
    obtain ⟨vs, h3, rfl, rfl⟩ := h2
    simp only [finish, h3]
  | pan v =>
    obtain ⟨h4, h5⟩ := h2
    simp only [finish, h4, h5]
  | exit i => exact h2.elim

attribute [irreducible] WL WO

end Go.Ev
