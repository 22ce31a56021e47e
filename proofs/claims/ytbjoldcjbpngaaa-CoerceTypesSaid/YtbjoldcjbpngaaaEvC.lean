/-
  When the evaluator's operation is one of the model's ('chkOp'); and that operations that touch no memory do there what they do here.
-/
import Derived.Test.YtbjoldcjbpngaaaEvB
import Derived.Laws.Entries
import Derived.ChangeKeysEq
import Derived.Laws.Strings
set_option linter.unusedVariables false
set_option linter.unusedSimpArgs false
namespace Go.Ev
open Go

mutual
def chkV : AVal → Value → Bool
  | .int k n, .int k' n' => decide (k = k') && decide (n = n')
  | .bool b, .bool b' => b == b'
  | .str s, .string b => decide (s = b.data.toList)
  | .nilp, .pointer none => true
  | .nili, .nilIface => true
  | .nilf, .nilFunc => true
  | .nilm, .map none => true
  | .lst [] _, .slice none 0 0 => true
  | .agg cs, .agg ds => chkVL cs ds.toList && ds.toList.all (·.oneCell')
  | .tup cs, .tuple ds => chkVL cs ds.toList
  | .iface t v, .iface t' c => decide (t = t') && chkV v c
  | .fn f [], .func (.func g) fi ca => decide (f = g) && fi.toList.isEmpty && ca.toList.isEmpty
  | _, _ => false
def chkVL : List AVal → List Value → Bool
  | [], [] => true
  | v :: vs, c :: cs => chkV v c && chkVL vs cs
  | _, _ => false
end

theorem ofToList {α : Type} (a : Array α) : a = a.toList.toArray := by simp

theorem chkV_both (Γ : Gh) : (∀ v c, chkV v c = true → Rep Γ v c) ∧ (∀ vs cs, chkVL vs cs = true → Reps Γ vs cs) := by
  have key : ∀ v, (∀ c, chkV v c = true → Rep Γ v c) := by
    intro v
    induction v using AVal.rec (motive_2 := fun vs => ∀ cs, chkVL vs cs = true → Reps Γ vs cs) with
    | nil =>
      rename_i cs hc
      cases cs with
      | nil => exact Reps.nil Γ
      | cons c cs => simp [chkVL] at hc
    | cons v vs ih1 ih2 =>
      rename_i cs hc
      cases cs with
      | nil => simp [chkVL] at hc
      | cons c cs =>
        simp only [chkVL, Bool.and_eq_true] at hc
        exact Reps.cons (ih1 c hc.1) (ih2 cs hc.2)
    | int k n => intro c hc; cases c <;> simp [chkV] at hc; obtain ⟨rfl, rfl⟩ := hc; exact .int k n
    | bool b => intro c hc; cases c <;> simp [chkV] at hc; subst hc; exact .bool b
    | str s =>
      intro c hc; cases c <;> simp [chkV] at hc
      rename_i b; obtain ⟨d⟩ := b; subst hc
      have := Rep.str (Γ := Γ) d.toList
      simpa using this
    | nilp =>
      intro c hc; cases c <;> (try (simp [chkV] at hc; done))
      rename_i a; cases a with
      | none => exact .nilp
      | some a => simp [chkV] at hc
    | nili => intro c hc; cases c <;> simp [chkV] at hc; exact .nili
    | nilf => intro c hc; cases c <;> simp [chkV] at hc; exact .nilf
    | nilm =>
      intro c hc; cases c <;> (try (simp [chkV] at hc; done))
      rename_i a; cases a with
      | none => exact .nilm
      | some a => simp [chkV] at hc
    | lst xs e =>
      intro c hc
      cases xs with
      | cons => cases c <;> simp [chkV] at hc
      | nil =>
        cases c <;> (try (simp [chkV] at hc; done))
        rename_i a l cp
        cases a with
        | some a => simp [chkV] at hc
        | none =>
          cases l with
          | succ l => simp [chkV] at hc
          | zero => cases cp with
            | succ cp => simp [chkV] at hc
            | zero => exact .lstN e
    | agg cs ih =>
      intro c hc; cases c <;> simp only [chkV, Bool.false_eq_true, Bool.and_eq_true] at hc
      rename_i ds
      have h := ih _ hc.1
      rw [ofToList ds]
      exact .agg h.1 h.2 (List.all_eq_true.1 hc.2)
    | tup cs ih =>
      intro c hc; cases c <;> simp only [chkV, Bool.false_eq_true] at hc
      rename_i ds
      have h := ih _ hc
      rw [ofToList ds]
      exact .tup h.1 h.2
    | iface t v ih =>
      intro c hc; cases c <;> simp [chkV] at hc
      obtain ⟨rfl, hc⟩ := hc
      exact .iface t (ih _ hc)
    | fn f cs ih =>
      intro c hc
      cases cs with
      | cons => cases c <;> simp [chkV] at hc
      | nil =>
        cases c <;> (try (simp [chkV] at hc; done))
        rename_i fn fi ca
        cases fn <;> (try (simp [chkV] at hc; done))
        simp [chkV] at hc
        obtain ⟨⟨rfl, h1⟩, h2⟩ := hc
        subst h1; subst h2
        exact .fn f (cs := []) (ds := []) rfl (by simp)
    | _ => intro c hc; cases c <;> simp [chkV] at hc
  refine ⟨key, ?_⟩
  intro vs
  induction vs with
  | nil => intro cs hc; cases cs with
    | nil => exact Reps.nil Γ
    | cons c cs => simp [chkVL] at hc
  | cons v vs ih => intro cs hc; cases cs with
    | nil => simp [chkVL] at hc
    | cons c cs =>
      simp only [chkVL, Bool.and_eq_true] at hc
      exact Reps.cons (key v c hc.1) (ih cs hc.2)

theorem chkV_rep (Γ : Gh) {v : AVal} {c : Value} (h : chkV v c = true) : Rep Γ v c := (chkV_both Γ).1 v c h
theorem chkVL_reps (Γ : Gh) {vs : List AVal} {cs : List Value} (h : chkVL vs cs = true) : Reps Γ vs cs := (chkV_both Γ).2 vs cs h

def chkO (x : AOpd) (y : Operand) : Bool :=
  match x with
  | .t n => match y with
    | .tmp m => decide (n = m)
    | _ => false
  | .c v => match y with
    | .const c => chkV v c
    | .func f => chkV v (.func (.func f) #[] #[])
    | _ => false

def chkOs : List AOpd → List Operand → Bool
  | [], [] => true
  | x :: xs, y :: ys => chkO x y && chkOs xs ys
  | _, _ => false

def chkOpt : Option AOpd → Option Operand → Bool
  | none, none => true
  | some x, some y => chkO x y
  | _, _ => false

def aggB (P : Program) (t : TypeId) : Option Bool :=
  match P.underlying t with
  | some (.struct _) | some (.array _ _) => some true
  | some _ => some false
  | none => none

def sizeB (P : Program) (t n : Nat) : Bool :=
  match P.info? t with
  | some i => decide (i.size = n)
  | none => false

def bytesB (P : Program) (t n : Nat) : Bool :=
  match P.info? t with
  | some i => decide (i.bytes = n)
  | none => false

def szB (P : Program) (t : TypeId) (sz : Option Nat) : Bool :=
  match sz with
  | none => decide (aggB P t = some false)
  | some n => decide (aggB P t = some true) && sizeB P t n

def zeroB (P : Program) (t : TypeId) (zs : List AVal) : Bool :=
  match P.info? t with
  | some i => match i.zero with
    | some z => chkVL zs z.cells.toList && z.cells.toList.all (·.oneCell')
    | none => false
  | none => false

def zvalB (P : Program) (t : TypeId) (v : AVal) : Bool :=
  match P.info? t with
  | some i => match i.zero with
    | some z => chkV v z && z.cells.toList.all (·.oneCell')
    | none => false
  | none => false

def isStrB (P : Program) (t : TypeId) : Bool :=
  match P.underlying t with
  | some .string => true
  | _ => false

def elemB (P : Program) (t : TypeId) (q : TypeId → Bool) : Bool :=
  match P.underlying t with
  | some (.slice e) => q e
  | _ => false

def arrB (P : Program) (t : TypeId) (len : Nat) (q : TypeId → Bool) : Bool :=
  match P.underlying t with
  | some (.array n e) => decide (n = len) && q e
  | _ => false

def fieldB (P : Program) (t i : Nat) (q : Field → Bool) : Bool :=
  match P.underlying t with
  | some (.struct fs) => match fs[i]? with
    | some f => q f
    | none => false
  | _ => false

/-- Fields that '==' compares by what they hold: whole numbers, truths, texts. -/
def plainD : TypeDesc → Bool
  | .int _ | .bool | .string => true
  | _ => false

def plainB (P : Program) (t : TypeId) : Bool := ((P.underlying t).map plainD).getD false


def constNil (P : Program) (k : NilK) (t : TypeId) (c : Operand) : Bool :=
  match c with
  | .const c => match P.underlying t with
    | some (.pointer _) => match k, c with
      | .ptr, .pointer none => true
      | _, _ => false
    | some (.slice _) => match k, c with
      | .slice, .slice none 0 0 => true
      | _, _ => false
    | some (.map _ _) => match k, c with
      | .map, .map none => true
      | _, _ => false
    | some (.func _ _ _) => match k, c with
      | .fn, .nilFunc => true
      | _, _ => false
    | some (.interface _) => match k, c with
      | .iface, .nilIface => true
      | _, _ => false
    | _ => false
  | _ => false

def negB (neg : Bool) (op : BinOp) : Bool := if neg then decide (op = .neq) else decide (op = .eql)

def chkLenC (P : Program) (x : AOpd) (t : TypeId) : Bool :=
  match x with
  | .c (.int .i64 n) => match P.underlying t with
    | some (.array m _) => decide (n = m)
    | some (.pointer e) => match P.underlying e with
      | some (.array m _) => decide (n = m)
      | _ => false
    | _ => false
  | _ => false

def chkMv (P : Program) (x : AOpd) (op : Op) : Bool :=
  match op with
  | .move y => chkO x y
  | .assign y => chkO x y
  | .call c => match c.callee with
    | .builtin .len => match c.argTypes[0]?, c.args[0]? with
      | some t, some _ => chkLenC P x t
      | _, _ => false
    | .builtin .cap => match c.argTypes[0]?, c.args[0]? with
      | some t, some _ => chkLenC P x t
      | _, _ => false
    | _ => false
  | _ => false

/-- The places of 'build'. -/
def chkParts (place : Nat → Option (Nat × Nat)) : List (Nat × Nat × AOpd) → List (Nat × Operand) → Bool
  | [], [] => true
  | (off, sz, x) :: r, (i, y) :: s => decide (place i = some (off, sz)) && chkO x y && chkParts place r s
  | _, _ => false

def placesOf (P : Program) (t : TypeId) : Option (Nat → Option (Nat × Nat)) :=
  match P.underlying t with
  | some (.struct fs) => match fs.toList.mapM (fun f => (P.info? f.type).map fun i => (f.offset, i.size)) with
    | some l => some fun i => l[i]?
    | none => none
  | some (.array _ e) => match P.info? e with
    | some i => some fun k => some (k * i.size, i.size)
    | none => none
  | _ => none

/-- Types of one cell that are compared: numbers, bools, texts. -/
def scalB (P : Program) (q : SK) (e : TypeId) : Bool :=
  match q, P.underlying e with
  | .i, some (.int _) => true
  | .b, some .bool => true
  | .s, some .string => true
  | _, _ => false

def fieldsB (P : Program) : Nat → List SK → List Field → Bool
  | _, [], [] => true
  | i, q :: qs, f :: fs => decide (f.offset = i) && decide (f.name ≠ "_") && scalB P q f.type && szB P f.type none && fieldsB P (i + 1) qs fs
  | _, _, _ => false

def eqB (P : Program) (t : TypeId) (ks : List SK) : Bool :=
  !P.eqGuardType P.depth t && match P.underlying t with
    | some (.array n e) => decide (ks.length = n) && ks.all (fun q => scalB P q e) && szB P e none && sizeB P e 1
    | some (.struct fs) => fieldsB P 0 ks fs.toList && !P.stoodInHeld t
    | _ => false

def chkP (P : Program) (p : AOp) (op : Op) : Bool :=
  match p with
  | .mv x => chkMv P x op
  | .pick c a b => match op with
    | .pick c' a' b' => chkO c c' && chkO a a' && chkO b b'
    | _ => false
  | .bin b x y => match op with
    | .binOp b' _ x' y' _ => decide (b = b') && chkO x x' && chkO y y'
    | _ => false
  | .eqv neg d x y => match op with
    | .binOp b t x' y' _ => negB neg b && chkO x x' && chkO y y' && (match d with | .bool => decide ((P.underlying t).map plainD = some true) && (match P.underlying t with | some .bool => true | _ => false) | .ints ks => eqB P t ks)
    | _ => false
  | .isnil k neg x => match op with
    | .binOp b t x' y' _ => negB neg b && ((chkO x x' && constNil P k t y') || (chkO x y' && constNil P k t x'))
    | _ => false
  | .un o x => match op with
    | .unOp o' _ x' => decide (o = o') && chkO x x'
    | _ => false
  | .cvi k x => match op with
    | .convert s d y => chkO x y && (P.underlying s).isSome && (match P.underlying d with | some (.int k') => decide (k = k') | _ => false)
    | _ => false
  | .cvs x => match op with
    | .convert s d y => chkO x y && isStrB P s && isStrB P d
    | _ => false
  | .mki t x => match op with
    | .makeInterface t' y => decide (t = t') && chkO x y && (match P.underlying t with | some (.interface _) => false | some _ => true | none => false)
    | _ => false
  | .mkf f caps => match op with
    | .makeFunc (.func f') first caps' => decide (f = f') && first.toList.isEmpty && chkOs caps caps'.toList
    | _ => false
  | .fld off sz x => match op with
    | .field t y i => chkO x y && fieldB P t i fun f => decide (f.offset = off) && szB P f.type sz
    | _ => false
  | .ixs x i => match op with
    | .index t y j => chkO x y && chkO i j && isStrB P t
    | _ => false
  | .ixa len es sz x i => match op with
    | .index t y j => chkO x y && chkO i j && arrB P t len fun e => sizeB P e es && szB P e sz
    | _ => false
  | .fa off x => match op with
    | .fieldAddr t y i => chkO x y && fieldB P t i fun f => decide (f.offset = off) && (match P.info? f.type with | some i => decide (0 < i.size) | none => false)
    | _ => false
  | .nc x => match op with
    | .nilCheck y => chkO x y
    | _ => false
  | .iaa len es x i => match op with
    | .indexAddr t y j => chkO x y && chkO i j && arrB P t len fun e => sizeB P e es
    | _ => false
  | .ext i x => match op with
    | .extract y j => chkO x y && decide (i = j)
    | _ => false
  | .build zs parts => match op with
    | .build t ps => zeroB P t zs && (match placesOf P t with | some pl => chkParts pl parts ps.toList | none => false)
    | _ => false
  | .mm isMax x y => match op with
    | .call c => (match c.callee with | .builtin b => decide (b = if isMax then .max else .min) | _ => false) && (match c.args.toList with | [x', y'] => chkO x x' && chkO y y' | _ => false)
    | _ => false
  | .slcs x lo hi => match op with
    | .slice t y lo' hi' mx => chkO x y && chkOpt lo lo' && chkOpt hi hi' && mx.isNone && isStrB P t
    | _ => false
  | _ => false

def EnvRel (Γ : Gh) (e : Env) (tm : Array Value) : Prop := ∀ t v, e.get t = some v → Rep Γ v (tm.getD t undef)

theorem EnvRel.mono {Γ Γ' : Gh} (hl : Γ.le Γ') {e : Env} {tm : Array Value} (h : EnvRel Γ e tm) : EnvRel Γ' e tm := fun t v hv => (h t v hv).mono hl

section
variable {P : Program} {Γ : Gh} {e : Env} {a : Act}

theorem ev_rep (he : EnvRel Γ e a.tmps) {x : AOpd} {y : Operand} {v : AVal} (hk : chkO x y = true) (hv : x.ev e = some v) : Rep Γ v (a.eval y) := by
  cases x with
  | t n =>
    cases y <;> simp [chkO] at hk
    subst hk
    exact he _ _ hv
  | c u =>
    simp [AOpd.ev] at hv
    subst hv
    cases y <;> simp only [chkO, Bool.false_eq_true] at hk
    · exact chkV_rep Γ hk
    · exact chkV_rep Γ hk

theorem evs_reps (he : EnvRel Γ e a.tmps) : ∀ {xs : List AOpd} {ys : List Operand} {vs : List AVal}, chkOs xs ys = true → evs e xs = some vs → Reps Γ vs (ys.map a.eval)
  | [], [], vs, _, hv => by simp [evs] at hv; subst hv; exact Reps.nil Γ
  | x :: xs, y :: ys, vs, hk, hv => by
    simp only [chkOs, Bool.and_eq_true] at hk
    simp only [evs] at hv
    split at hv
    · rename_i v hx
      split at hv
      · rename_i us hu
        cases hv
        exact Reps.cons (ev_rep he hk.1 hx) (evs_reps he hk.2 hu)
      · cases hv
    · cases hv
  | [], _ :: _, _, hk, _ => by simp [chkOs] at hk
  | _ :: _, [], _, hk, _ => by simp [chkOs] at hk

theorem run_isAggB {t : TypeId} {b : Bool} (h : aggB P t = some b) (w : World) : (isAgg t).run P w = .ok b w := by
  unfold aggB at h
  unfold isAgg
  split at h
  · rename_i fs hu; cases h; simp [run_underlying hu]
  · rename_i n e hu; cases h; simp [run_underlying hu]
  · rename_i d h1 h2 hu
    cases h
    simp only [Sem.run_bind, run_underlying hu, Result.andThen_ok]
    rfl
  · cases h

theorem run_sizeB {t n : Nat} (h : sizeB P t n = true) (w : World) : (sizeOf t).run P w = .ok n w := by
  unfold sizeB at h
  split at h
  · rename_i i hi
    have : i.size = n := by simpa using h
    simp [sizeOf, run_typeInfo _ hi, this]
  · cases h

theorem run_zeroB {t : TypeId} {zs : List AVal} (h : zeroB P t zs = true) (w : World) : ∃ z, (zeroValue t).run P w = .ok z w ∧ Reps Γ zs z.cells.toList ∧ ∀ c, c ∈ z.cells.toList → c.oneCell' = true := by
  unfold zeroB at h
  split at h
  · rename_i i hi
    split at h
    · rename_i z hz
      simp only [Bool.and_eq_true] at h
      exact ⟨z, by simp [zeroValue, run_typeInfo _ hi, hz], chkVL_reps Γ h.1, List.all_eq_true.1 h.2⟩
    · cases h
  · cases h

theorem run_zvalB {t : TypeId} {v : AVal} (h : zvalB P t v = true) (w : World) : ∃ z, (zeroValue t).run P w = .ok z w ∧ Rep Γ v z ∧ ∀ c, c ∈ z.cells.toList → c.oneCell' = true := by
  unfold zvalB at h
  split at h
  · rename_i i hi
    split at h
    · rename_i z hz
      simp only [Bool.and_eq_true] at h
      exact ⟨z, by simp [zeroValue, run_typeInfo _ hi, hz], chkV_rep Γ h.1, List.all_eq_true.1 h.2⟩
    · cases h
  · cases h

theorem exec_v {o : Oper} {w : World} {s : Sem Value} {c : Value} (h : execOp a.eval o = (do pure (Next.value (← s)))) (hs : s.run P w = .ok c w) :
    (execOp a.eval o).run P w = .ok (.value c) w := by
  rw [h]; simp [hs]

theorem stringSize {s : List UInt8} : (ByteArray.mk s.toArray).size = s.length := by simp [ByteArray.size]
theorem stringToList {s : List UInt8} : (ByteArray.mk s.toArray).toList = s := by
  rw [ByteArray.toList_eq]

theorem bin_sound {op : BinOp} {t : TypeId} {x y v : AVal} {c d : Value} {w : World} {X Y : Operand} (hx : Rep Γ x c) (hy : Rep Γ y d) (hv : binA op x y = some v) :
    ∃ r, (do eqGuard op t X Y c d; Go.binOp op t c d : Sem Value).run P w = .ok r w ∧ Rep Γ v r := by
  unfold binA at hv
  split at hv
  · rename_i k a k' b
    cases hx; cases hy
    split at hv
    · unfold shiftA at hv
      split at hv
      · cases hv
      · rename_i hb
        cases hv
        refine ⟨_, ?_, .int _ _⟩
        simp [eqGuard, Go.binOp, Op.shift, hb]
    · unfold shiftA at hv
      split at hv
      · cases hv
      · rename_i hb
        cases hv
        refine ⟨_, ?_, .int _ _⟩
        simp [eqGuard, Go.binOp, Op.shift, hb]
    · rename_i h1 h2
      split at hv
      · rename_i hk
        subst hk
        cases op <;> first | exact absurd rfl h1 | exact absurd rfl h2 | skip
        all_goals simp [binInt, bitsA] at hv
        all_goals first
          | (obtain ⟨hb, rfl⟩ := hv; refine ⟨_, ?_, .int _ _⟩; simp [eqGuard, Go.binOp, Op.intDiv, hb]; done)
          | (subst hv; refine ⟨_, ?_, by constructor⟩; simp [eqGuard, Go.binOp, Op.intArith, Op.intBits, Op.intCmp, bne]; done)
          | (subst hv; refine ⟨_, ?_, .bool _⟩; simp [eqGuard, Go.binOp, Op.intCmp]; rfl)
      · cases hv
  · rename_i a b
    cases hx; cases hy
    by_cases hadd : op = .add
    · subst hadd
      simp [binStr] at hv
      obtain ⟨hb, rfl⟩ := hv
      refine ⟨.string ⟨(a ++ b).toArray⟩, ?_, .str _⟩
      have hm : IntKind.i64.max = 9223372036854775807 := by decide
      have hab : (⟨a.toArray⟩ : ByteArray) ++ (⟨b.toArray⟩ : ByteArray) = ⟨(a ++ b).toArray⟩ := by apply ByteArray.ext; simp
      simp [eqGuard, Go.binOp, Op.stringOp, stringSize, hm, hab]
      omega
    · cases op <;> first | exact absurd rfl hadd | skip
      all_goals simp [binStr] at hv
      all_goals (subst hv; refine ⟨_, ?_, .bool _⟩; simp [eqGuard, Go.binOp, Op.stringOp, stringToList]; done)
  · cases hv

inductive NilEq : TypeDesc → Value → Value → Bool → Prop
  | b (a b : Bool) : NilEq .bool (.bool a) (.bool b) (a == b)
  | p1 (e : TypeId) : NilEq (.pointer e) (.pointer none) (.pointer none) true
  | p2 (e : TypeId) (a : Addr) : NilEq (.pointer e) (.pointer (some a)) (.pointer none) false
  | p3 (e : TypeId) (a : Addr) : NilEq (.pointer e) (.pointer none) (.pointer (some a)) false
  | i1 (ms : Array (String × TypeId)) : NilEq (.interface ms) .nilIface .nilIface true
  | i2 (ms : Array (String × TypeId)) (u : TypeId) (v : Value) : NilEq (.interface ms) (.iface u v) .nilIface false
  | i3 (ms : Array (String × TypeId)) (u : TypeId) (v : Value) : NilEq (.interface ms) .nilIface (.iface u v) false
  | s2 (e : TypeId) (a : Addr) (l c : Nat) : NilEq (.slice e) (.slice (some a) l c) (.slice none 0 0) false
  | s3 (e : TypeId) (a : Addr) (l c : Nat) : NilEq (.slice e) (.slice none 0 0) (.slice (some a) l c) false
  | m1 (k e : TypeId) : NilEq (.map k e) (.map none) (.map none) true
  | m2 (k e : TypeId) (g : Nat) : NilEq (.map k e) (.map (some g)) (.map none) false
  | m3 (k e : TypeId) (g : Nat) : NilEq (.map k e) (.map none) (.map (some g)) false
  | f1 (a b : Array TypeId) (v : Bool) : NilEq (.func a b v) .nilFunc .nilFunc true
  | f2 (a b : Array TypeId) (v : Bool) (f : Fn) (x y : Array Value) : NilEq (.func a b v) (.func f x y) .nilFunc false
  | f3 (a b : Array TypeId) (v : Bool) (f : Fn) (x y : Array Value) : NilEq (.func a b v) .nilFunc (.func f x y) false

theorem run_equal_of {t : TypeId} {c d : Value} {w : World} {D : TypeDesc} {r : Bool} (hu : P.underlying t = some D) (h : NilEq D c d r) : (Op.equal t c d).run P w = .ok r w := by
  show (Op.equalIn (9999 + 1) t c d).run P w = _
  rw [Op.equalIn]
  rw [Sem.run_bind, run_underlying hu, Result.andThen_ok]
  cases h <;> rfl

theorem cmp_run {op : BinOp} {t : TypeId} {c d : Value} {w : World} {X Y : Operand} {r neg : Bool}
    (hb : Go.binOp .eql t c d = (do pure (.bool (← Op.equal t c d)))) (hb' : Go.binOp .neq t c d = (do pure (.bool (!(← Op.equal t c d)))))
    (hop : negB neg op = true) (he : (Op.equal t c d).run P w = .ok r w) (hg : (eqGuard op t X Y c d).run P w = .ok () w) :
    (do eqGuard op t X Y c d; Go.binOp op t c d : Sem Value).run P w = .ok (.bool (if neg then !r else r)) w := by
  rw [Sem.run_bind, hg, Result.andThen_ok]
  unfold negB at hop
  cases neg
  · simp at hop; subst hop; rw [hb]; simp [he]
  · simp at hop; subst hop; rw [hb']; simp [he]

def isConstO : Operand → Bool
  | .const _ => true
  | _ => false

theorem eqGuard_nilIface {op : BinOp} {t : TypeId} {w : World} {X Y : Operand} (h : isConstO X = true ∨ isConstO Y = true) :
    (eqGuard op t X Y .nilIface .nilIface).run P w = .ok () w := by
  have hx : (isConstO X || isConstO Y) = true := by rcases h with h | h <;> simp [h]
  cases op <;> first
    | rfl
    | (cases X <;> cases Y <;> first | rfl | (simp [isConstO] at hx))

theorem eqGuard_plain {op : BinOp} {t : TypeId} {c d : Value} {w : World} {X Y : Operand} (h : match c, d with | .nilIface, .nilIface => isConstO X = true ∨ isConstO Y = true | .agg _, .agg _ => False | _, _ => True) :
    (eqGuard op t X Y c d).run P w = .ok () w := by
  cases c <;> cases d
  all_goals first
    | exact eqGuard_nilIface h
    | exact absurd h id
    | (cases op <;> rfl)

theorem isnil_sound {k : NilK} {op : BinOp} {t : TypeId} {x : AVal} {c : Value} {w : World} {X Y : Operand} {r neg : Bool} (hx : Rep Γ x c) (hv : isNil k x = some r) (hn : negB neg op = true) :
    (constNil P k t Y = true → (do eqGuard op t X Y c (a.eval Y); Go.binOp op t c (a.eval Y) : Sem Value).run P w = .ok (.bool (if neg then !r else r)) w) ∧
    (constNil P k t X = true → (do eqGuard op t X Y (a.eval X) c; Go.binOp op t (a.eval X) c : Sem Value).run P w = .ok (.bool (if neg then !r else r)) w) := by
  constructor
  all_goals
    intro hc
    unfold constNil at hc
    split at hc
    case h_2 => cases hc
    rename_i c0
    simp only [Act.eval]
    split at hc
    all_goals first | (cases hc; done) | rename_i hu
    all_goals
      split at hc
      all_goals first | (cases hc; done) | skip
    all_goals
      cases hx <;> simp only [isNil, reduceCtorEq, Option.some.injEq] at hv
    all_goals first
      | (subst hv; refine cmp_run rfl rfl hn (run_equal_of hu (by constructor)) (eqGuard_plain (by simp [isConstO])); done)
      | (split at hv <;> first | (cases hv; done) | skip
         rename_i hlt
         cases hv
         rename_i hT ha
         obtain ⟨ad, rfl⟩ := Option.isSome_iff_exists.1 (ha hlt)
         exact cmp_run rfl rfl hn (run_equal_of hu (by constructor)) (eqGuard_plain (by simp [isConstO])))
      | (rename_i xs _ _ _ _ _ _ _ _ _ _ _ _ _
         cases xs with
         | nil => cases hv
         | cons y ys =>
           simp only [isNil, Option.some.injEq] at hv
           subst hv
           exact cmp_run rfl rfl hn (run_equal_of hu (by constructor)) (eqGuard_plain (by simp [isConstO])))
      | skip

theorem part_sound {off : Nat} {sz : Option Nat} {t : TypeId} {cs : List AVal} {ds : List Value} {v : AVal} {w : World} (hr : Reps Γ cs ds) (h1 : ∀ d, d ∈ ds → d.oneCell' = true) (hs : szB P t sz = true) (hv : part off sz cs = some v) :
    ∃ c, (Go.part t ds.toArray off).run P w = .ok c w ∧ Rep Γ v c := by
  unfold part at hv
  unfold szB at hs
  cases sz with
  | none =>
    simp at hs hv
    obtain ⟨d, hd, hrep⟩ := hr.get hv
    refine ⟨d, ?_, hrep⟩
    simp [Go.part, run_isAggB hs, hd]
  | some n =>
    simp at hs hv
    obtain ⟨hle, rfl⟩ := hv
    refine ⟨.agg ((ds.drop off).take n).toArray, ?_, ?_⟩
    · simp [Go.part, run_isAggB hs.1, run_sizeB hs.2]
    · exact .agg (((hr.drop off).take n).1) (((hr.drop off).take n).2) (fun d hd => h1 d (List.mem_of_mem_drop (List.mem_of_mem_take hd)))

theorem opt_reps (he : EnvRel Γ e a.tmps) {x : Option AOpd} {y : Option Operand} {v : Option AVal} (hk : chkOpt x y = true) (hv : optEv e x = some v) :
    (v = none ∧ y = none) ∨ ∃ u z, v = some u ∧ y = some z ∧ Rep Γ u (a.eval z) := by
  cases x with
  | none =>
    cases y <;> simp [chkOpt] at hk
    simp [optEv] at hv
    exact .inl ⟨hv.symm, rfl⟩
  | some x =>
    cases y <;> simp only [chkOpt, Bool.false_eq_true] at hk
    simp only [optEv] at hv
    split at hv
    · rename_i u hu
      cases hv
      exact .inr ⟨_, _, rfl, rfl, ev_rep he hk hu⟩
    · cases hv

end

end Go.Ev
