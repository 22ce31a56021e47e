/-
  Regions whose order is drawn: operations that do not meet may change places.
-/
import Derived.Test.YtbjoldcjbpngaaaEvO
import Derived.Orders
set_option linter.unusedVariables false
set_option linter.unusedSimpArgs false
namespace Go.Ev
open Go

def AOpd.on (S : Nat → Bool) : AOpd → Bool
  | .t n => S n
  | .c _ => true

def optOn (S : Nat → Bool) : Option AOpd → Bool
  | none => true
  | some x => x.on S

def allOn (S : Nat → Bool) : List AOpd → Bool
  | [] => true
  | x :: xs => x.on S && allOn S xs

def partsOn (S : Nat → Bool) : List (Nat × Nat × AOpd) → Bool
  | [] => true
  | (_, _, x) :: xs => x.on S && partsOn S xs

def partsOn' (S : Nat → Bool) : List (Nat × AOpd) → Bool
  | [] => true
  | (_, x) :: xs => x.on S && partsOn' S xs

/-- An operation reads such places alone. -/
def AOp.on (S : Nat → Bool) : AOp → Bool
  | .mv x => x.on S
  | .pick c a b => c.on S && a.on S && b.on S
  | .bin _ x y => x.on S && y.on S
  | .eqv _ _ x y => x.on S && y.on S
  | .isnil _ _ x => x.on S
  | .un _ x => x.on S
  | .cvi _ x => x.on S
  | .cvs x => x.on S
  | .mki _ x => x.on S
  | .mkf _ caps => allOn S caps
  | .fld _ _ x => x.on S
  | .ixs x i => x.on S && i.on S
  | .ixa _ _ _ x i => x.on S && i.on S
  | .fa _ x => x.on S
  | .nc x => x.on S
  | .iaa _ _ x i => x.on S && i.on S
  | .ext _ x => x.on S
  | .build _ parts => partsOn S parts
  | .mm _ x y => x.on S && y.on S
  | .slcs x lo hi => x.on S && optOn S lo && optOn S hi
  | .alloc _ => true
  | .box x => x.on S
  | .mks _ _ _ _ l c => l.on S && c.on S
  | .mkm => true
  | .ia _ x i => x.on S && i.on S
  | .bsl _ _ _ parts => partsOn' S parts
  | .lds x => x.on S
  | .lda _ x => x.on S
  | .sts x v => x.on S && v.on S
  | .sta _ x v => x.on S && v.on S
  | .stk _ x v => x.on S && v.on S
  | .slc _ x lo hi mx => x.on S && optOn S lo && optOn S hi && optOn S mx
  | .slca _ _ _ x lo hi mx => x.on S && optOn S lo && optOn S hi && optOn S mx
  | .len _ x => x.on S
  | .cap x => x.on S
  | .app _ _ _ s x => s.on S && x.on S
  | .appz _ _ _ s n => s.on S && n.on S
  | .copy _ d s => d.on S && s.on S
  | .clear _ _ x => x.on S
  | .call _ _ args => allOn S args
  | .callv _ x args => x.on S && allOn S args
  | .look _ _ _ m k => m.on S && k.on S
  | .upd _ m k v => m.on S && k.on S && v.on S
  | .panic x => x.on S

def guardOn (S : Nat → Bool) : Option (Nat × Bool) → Bool
  | none => true
  | some (t, _) => S t

def AOper.on (S : Nat → Bool) (o : AOper) : Bool := o.op.on S && guardOn S o.guard

def notDst (d : Option Nat) (t : Nat) : Bool := match d with
  | some d => !Nat.beq d t
  | none => true

/-- Two operations of which neither reads, or turns, a place that the other turns. -/
def regOk (x y : AOper) : Bool :=
  y.on (notDst x.dst) && x.on (notDst y.dst) && match x.dst with
    | some d => notDst y.dst d
    | none => true

def edgeOn (x : Oper) (o : Nat) : Bool := x.after.toList.any fun e => Region.binds .any e && Nat.beq e.on o

/-- The operations that are said to come first do: by an edge, or by way of one that must come first. -/
def depOk (x : Oper) (ds : List (List Nat)) (o : Nat) : Bool :=
  edgeOn x o || x.after.toList.any fun e => Region.binds .any e && match ds[e.on]? with
    | some d => !notIn o d
    | none => false

def allDeps (x : Oper) (ds : List (List Nat)) : List Nat → Bool
  | [] => true
  | o :: os => depOk x ds o && allDeps x ds os

def pairsOk (y : AOper) (deps : List Nat) : Nat → List (AOper × Nat × List Nat) → Bool
  | _, [] => true
  | o, x :: xs => (!notIn o deps || regOk x.1 y) && pairsOk y deps (o + 1) xs

/-- 'pre': those before, in turn; 'ds': what they wait for. -/
def chkDrawL (i : Nat) (pre : List (AOper × Nat × List Nat)) (ds : List (List Nat)) : List (AOper × Nat × List Nat) → List Oper → Bool
  | [], [] => true
  | p :: ps, o :: os => (o.after.toList.all fun e => !Region.binds .any e || Nat.blt e.on i) && allDeps o ds p.2.2 && pairsOk p.1 p.2.2 0 pre && chkDrawL (i + 1) (pre ++ [p]) (ds ++ [p.2.2]) ps os
  | _, _ => false

def chkDraw (P : Program) (n : Nat) (l : List (AOper × Nat × List Nat)) (ops : Array Oper) : Bool :=
  chkOps P n ops (l.map (·.1)) ops.toList && chkDrawL 0 [] [] l ops.toList

/-! ### What an operation does hangs on the places alone that it reads -/

def Agree (S : Nat → Bool) (e e' : Env) : Prop := ∀ t, S t = true → e.get t = e'.get t

section
variable {S : Nat → Bool} {e e' : Env}

theorem ev_on (hA : Agree S e e') {x : AOpd} (h : x.on S = true) : x.ev e = x.ev e' := by
  cases x with
  | t n => exact hA n h
  | c v => rfl

theorem optEv_on (hA : Agree S e e') {x : Option AOpd} (h : optOn S x = true) : optEv e x = optEv e' x := by
  cases x with
  | none => rfl
  | some x => simp only [optEv, ev_on hA (x := x) h]

theorem evs_on (hA : Agree S e e') : ∀ {xs : List AOpd}, allOn S xs = true → evs e xs = evs e' xs
  | [], _ => rfl
  | x :: xs, h => by
    simp only [allOn, Bool.and_eq_true] at h
    simp only [evs, ev_on hA h.1, evs_on hA h.2]

theorem buildA_on (hA : Agree S e e') : ∀ {ps : List (Nat × Nat × AOpd)} {cs : List AVal}, partsOn S ps = true → buildA e ps cs = buildA e' ps cs
  | [], _, _ => rfl
  | (off, sz, x) :: ps, cs, h => by
    simp only [partsOn, Bool.and_eq_true] at h
    simp only [buildA, ev_on hA h.1]
    split
    · split
      · exact buildA_on hA h.2
      · rfl
    · rfl

theorem bslGo_on (hA : Agree S e e') {H : Heap} {es : Nat} : ∀ {ps : List (Nat × AOpd)} {xs : List AVal}, partsOn' S ps = true → bslGo e H es ps xs = bslGo e' H es ps xs
  | [], _, _ => rfl
  | (i, x) :: ps, xs, h => by
    simp only [partsOn', Bool.and_eq_true] at h
    simp only [bslGo, ev_on hA h.1]
    split
    · split
      · split
        · exact bslGo_on hA h.2
        · rfl
      · rfl
    · rfl

theorem partsGls_on (hA : Agree S e e') : ∀ {ps : List (Nat × AOpd)}, partsOn' S ps = true → partsGls e ps = partsGls e' ps
  | [], _ => rfl
  | (i, x) :: ps, h => by
    simp only [partsOn', Bool.and_eq_true] at h
    simp only [partsGls, ev_on hA h.1, partsGls_on hA h.2]

theorem evP_on (hA : Agree S e e') {op : AOp} (h : op.on S = true) : evP e op = evP e' op := by
  cases op <;> simp only [AOp.on, Bool.and_eq_true] at h <;> simp only [evP] <;>
    first
      | rfl
      | (simp only [ev_on hA h]; done)
      | (simp only [ev_on hA h.1, ev_on hA h.2]; done)
      | (simp only [ev_on hA h.1.1, ev_on hA h.1.2, ev_on hA h.2]; done)
      | (simp only [evs_on hA h]; done)
      | (simp only [buildA_on hA h]; done)
      | (simp only [ev_on hA h.1.1, optEv_on hA h.1.2, optEv_on hA h.2]; done)

theorem evN_on (hA : Agree S e e') {id : Nat} {op : AOp} (h : op.on S = true) : evN e id op = evN e' id op := by
  cases op <;> simp only [AOp.on, Bool.and_eq_true] at h <;> simp only [evN] <;>
    first
      | rfl
      | (simp only [ev_on hA h]; done)
      | (simp only [ev_on hA h.1, ev_on hA h.2]; done)

theorem evH_on (hA : Agree S e e') {C : Ctx} {id : Nat} {H : Heap} {op : AOp} (h : op.on S = true) : evH C e id H op = evH C e' id H op := by
  cases op <;> simp only [AOp.on, Bool.and_eq_true] at h <;> simp only [evH] <;>
    first
      | rfl
      | (simp only [ev_on hA h]; done)
      | (simp only [ev_on hA h.1, ev_on hA h.2]; done)
      | (simp only [ev_on hA h.1.1, ev_on hA h.1.2, ev_on hA h.2]; done)
      | (simp only [evs_on hA h]; done)
      | (simp only [bslGo_on hA h]; done)
      | (simp only [ev_on hA h.1, evs_on hA h.2]; done)
      | (simp only [ev_on hA h.1.1.1, optEv_on hA h.1.1.2, optEv_on hA h.1.2, optEv_on hA h.2]; done)

theorem footH_on (hA : Agree S e e') {H : Heap} {op : AOp} (h : op.on S = true) : footH e H op = footH e' H op := by
  cases op <;> simp only [AOp.on, Bool.and_eq_true] at h <;> simp only [footH] <;>
    first
      | rfl
      | (simp only [ev_on hA h]; done)
      | (simp only [ev_on hA h.1, ev_on hA h.2]; done)
      | (simp only [ev_on hA h.1]; done)
      | (simp only [ev_on hA h.1.1, ev_on hA h.1.2, ev_on hA h.2]; done)
      | (simp only [evs_on hA h]; done)
      | (simp only [partsGls_on hA h]; done)
      | (simp only [ev_on hA h.1, evs_on hA h.2]; done)
      | (simp only [ev_on hA h.1.1.1]; done)

theorem stepV_on (hA : Agree S e e') {C : Ctx} {base j : Nat} {H : Heap} {o : AOper} (h : o.on S = true) : stepV C base o j e H = stepV C base o j e' H := by
  simp only [AOper.on, Bool.and_eq_true] at h
  have hw : wantedA e o.guard = wantedA e' o.guard := by
    cases hg : o.guard with
    | none => rfl
    | some g =>
      obtain ⟨t, want⟩ := g
      have h2 := h.2
      rw [hg] at h2
      simp only [wantedA, hA t h2]
  have hop : ∀ id, evalOp C e id H o.op = evalOp C e' id H o.op := by
    intro id
    simp only [evalOp, evP_on hA h.1, evN_on hA h.1, evH_on hA h.1]
  have hf : ∀ id H', footA e id H H' o.op = footA e' id H H' o.op := by
    intro id H'
    simp only [footA, footH_on hA h.1]
  simp only [stepV, hw, hop, hf]
end

theorem opd_true (x : AOpd) : x.on (fun _ => true) = true := by cases x <;> rfl
theorem opt_true (x : Option AOpd) : optOn (fun _ => true) x = true := by
  cases x with
  | none => rfl
  | some x => exact opd_true x
theorem all_true : ∀ xs : List AOpd, allOn (fun _ => true) xs = true
  | [] => rfl
  | x :: xs => by simp only [allOn, opd_true, all_true xs, Bool.and_true]
theorem parts_true : ∀ xs : List (Nat × Nat × AOpd), partsOn (fun _ => true) xs = true
  | [] => rfl
  | (_, _, x) :: xs => by simp only [partsOn, opd_true, parts_true xs, Bool.and_true]
theorem parts'_true : ∀ xs : List (Nat × AOpd), partsOn' (fun _ => true) xs = true
  | [] => rfl
  | (_, x) :: xs => by simp only [partsOn', opd_true, parts'_true xs, Bool.and_true]
theorem oper_true (o : AOper) : o.on (fun _ => true) = true := by
  obtain ⟨d, op, g⟩ := o
  simp only [AOper.on, Bool.and_eq_true]
  refine ⟨?_, ?_⟩
  · cases op <;> simp only [AOp.on, opd_true, opt_true, all_true, parts_true, parts'_true, Bool.and_true]
  · cases g <;> rfl

/-- Environments that hold the same. -/
def EqE (e e' : Env) : Prop := ∀ t, e.get t = e'.get t

theorem EqE.agree {e e' : Env} (h : EqE e e') : Agree (fun _ => true) e e' := fun t _ => h t
theorem EqE.put {e e' : Env} (h : EqE e e') (d : Option Nat) (v : AVal) : EqE (e.put d v) (e'.put d v) := by
  intro t; rw [Env.get_put, Env.get_put, h t]

theorem runD_eqE {C : Ctx} {base : Nat} : ∀ {l : List (AOper × Nat × List Nat)} {e e' e1 : Env} {H H1 : Heap} {fs : List Foot}, EqE e e' → runD C base l e H = some (fs, e1, H1) →
    ∃ e1', runD C base l e' H = some (fs, e1', H1) ∧ EqE e1 e1'
  | [], e, e', e1, H, H1, fs, he, h => by
    simp only [runD, Option.some.injEq, Prod.mk.injEq] at h
    obtain ⟨rfl, rfl, rfl⟩ := h
    exact ⟨e', rfl, he⟩
  | p :: l, e, e', e1, H, H1, fs, he, h => by
    simp only [runD] at h ⊢
    rw [← stepV_on he.agree (oper_true p.1)]
    split at h
    · rename_i f v H' hs
      split at h
      · rename_i fs' r' hr
        simp only [Option.some.injEq, Prod.mk.injEq] at h
        obtain ⟨rfl, rfl⟩ := h
        obtain ⟨e1', h1, h2⟩ := runD_eqE (he.put p.1.dst v) hr
        refine ⟨e1', ?_, h2⟩
        simp only [h1]
      · cases h
    · cases h
end Go.Ev
