/-
  Operations that make a block, and those that look into memory or turn it, but for calls: they do in the model what the evaluator says.
-/
import Derived.Test.YtbjoldcjbpngaaaEvG
set_option linter.unusedVariables false
set_option linter.unusedSimpArgs false
namespace Go.Ev
open Go

def zlenB (P : Program) (t es : Nat) : Bool :=
  match P.info? t with
  | some i => match i.zero with
    | some z => decide (z.cells.size = es) && z.cells.toList.all (·.oneCell')
    | none => false
  | none => false

def keyB (P : Program) (ks : Bool) (t : TypeId) (q : TypeId → Bool) : Bool :=
  match P.underlying t with
  | some (.map k e) => (match P.underlying k with | some (.int _) => !ks | some .string => ks | _ => false) && q e
  | _ => false

def chkBs : List (Nat × AOpd) → List (Nat × Operand) → Bool
  | [], [] => true
  | (i, x) :: r, (j, y) :: s => decide (i = j) && chkO x y && chkBs r s
  | _, _ => false

def args1 (l : List Operand) (q : Operand → Bool) : Bool :=
  match l with
  | [x] => q x
  | _ => false

def args2 (l : List Operand) (q : Operand → Operand → Bool) : Bool :=
  match l with
  | [x, y] => q x y
  | _ => false

def isIntB (P : Program) (t : TypeId) : Option Bool :=
  match P.underlying t with
  | some (.int _) => some true
  | some (.slice _) => some false
  | some .string => some false
  | _ => none

def lenTy (P : Program) (k : LenK) (t : TypeId) : Bool :=
  match P.underlying t with
  | some (.slice _) => decide (k = .slice)
  | some .string => decide (k = .str)
  | some (.map _ _) => decide (k = .map)
  | _ => false

def builtinB (c : Call) (b : Builtin) : Bool :=
  match c.callee with
  | .builtin b' => decide (b' = b)
  | _ => false

def chkN (P : Program) (p : AOp) (op : Op) : Bool :=
  match p with
  | .alloc zs => match op with
    | .alloc t => zeroB P t zs
    | _ => false
  | .box x => match op with
    | .box _ y => chkO x y
    | _ => false
  | .mks es bytes wd zs l c => match op with
    | .makeSlice t l' c' => chkO l l' && chkO c c' && decide (0 < es) && elemB P t fun e => sizeB P e es && bytesB P e bytes && zeroB P e zs
    | _ => false
  | .mkm => match op with
    | .makeMap t r => r.isNone
    | _ => false
  | _ => false

def chkH (P : Program) (p : AOp) (op : Op) : Bool :=
  match p with
  | .ia es x i => match op with
    | .indexAddr t y j => chkO x y && chkO i j && elemB P t fun e => sizeB P e es
    | _ => false
  | .bsl es z len parts => match op with
    | .buildSlice t len' ps => decide (len = len') && decide (0 < es) && chkBs parts ps.toList && elemB P t fun e => sizeB P e es && zvalB P e z && lowV 0 z && z.solid
    | _ => false
  | .lds x => match op with
    | .load t y => chkO x y && decide (aggB P t = some false)
    | _ => false
  | .lda n x => match op with
    | .load t y => chkO x y && decide (aggB P t = some true) && sizeB P t n
    | _ => false
  | .sts x v => match op with
    | .store t y u => chkO x y && chkO v u && sizeB P t 1
    | _ => false
  | .sta n x v => match op with
    | .store t y u => chkO x y && chkO v u && sizeB P t n
    | _ => false
  | .stk n x v => match op with
    | .store t y u => chkO x y && chkO v u && sizeB P t n
    | _ => false
  | .slc es x lo hi mx => match op with
    | .slice t y lo' hi' mx' => chkO x y && chkOpt lo lo' && chkOpt hi hi' && chkOpt mx mx' && elemB P t fun e => sizeB P e es
    | _ => false
  | .slca len es wd x lo hi mx => match op with
    | .slice t y lo' hi' mx' => chkO x y && chkOpt lo lo' && chkOpt hi hi' && chkOpt mx mx' && arrB P t len fun e => sizeB P e es
    | _ => false
  | .len k x => match op with
    | .call c => builtinB c .len && args1 c.args.toList (chkO x) && (match c.argTypes[0]? with | some t => lenTy P k t | none => false)
    | _ => false
  | .cap x => match op with
    | .call c => builtinB c .cap && args1 c.args.toList (chkO x) && (match c.argTypes[0]? with | some t => lenTy P .slice t | none => false)
    | _ => false
  | .app es bytes opn s x => match op with
    | .call c => builtinB c .append && args2 c.args.toList (fun y z => chkO s y && chkO x z) && decide (0 < es) && decide (0 < bytes) &&
      (match c.argTypes.toList with
        | [t, u] => decide (isIntB P u = some false) && elemB P t fun e => sizeB P e es && bytesB P e bytes && zlenB P e es
        | _ => false)
    | _ => false
  | .appz es bytes z s n => match op with
    | .call c => builtinB c .append && args2 c.args.toList (fun y m => chkO s y && chkO n m) && decide (0 < es) && decide (0 < bytes) &&
      (match c.argTypes.toList with
        | [t, u] => decide (isIntB P u = some true) && elemB P t fun e => sizeB P e es && bytesB P e bytes && zlenB P e es && zvalB P e z && lowV 0 z
        | _ => false)
    | _ => false
  | .copy es d s => match op with
    | .call c => builtinB c .copy && args2 c.args.toList (fun y z => chkO d y && chkO s z) && (match c.argTypes[0]? with | some t => elemB P t fun e => sizeB P e es | none => false)
    | _ => false
  | .clear es zs x => match op with
    | .call c => builtinB c .clear && args1 c.args.toList (chkO x) && decide (0 < es) && (match c.argTypes[0]? with | some t => elemB P t fun e => sizeB P e es && zeroB P e zs | none => false)
    | _ => false
  | .look ks ok z m k => match op with
    | .lookup t m' k' ok' => decide (ok = ok') && chkO m m' && chkO k k' && keyB P ks t fun e => zvalB P e z
    | _ => false
  | .upd ks m k v => match op with
    | .mapUpdate t m' k' v' => chkO m m' && chkO k k' && chkO v v' && keyB P ks t fun _ => true
    | .insert t m' k' v' => chkO m m' && chkO k k' && chkO v v' && keyB P ks t fun _ => true
    | _ => false
  | _ => false

section
variable {P : Program} {Γ : Gh} {e : Env} {a : Act}

/-- An operation is done: its value, the world and the ghost behind it. -/
def Done (P : Program) (o : Oper) (a : Act) (w : World) (Γ : Gh) (v : AVal) (H' : Heap) : Prop :=
  ∃ nx c w' Γ', (execOp a.eval o).run P w = .ok nx w' ∧ (nx = .value c ∨ (nx = .skip ∧ c = undef)) ∧ Rep Γ' v c ∧ Rel Γ' H' w' ∧ Stp Γ w Γ' w'

theorem Done.same {o : Oper} {w : World} {v : AVal} {c : Value} {H : Heap} (hR : Rel Γ H w) (h : (execOp a.eval o).run P w = .ok (.value c) w) (hr : Rep Γ v c) : Done P o a w Γ v H :=
  ⟨_, c, w, Γ, h, .inl rfl, hr, hR, Stp.refl Γ w⟩

theorem elemB_some {t : TypeId} {q : TypeId → Bool} (h : elemB P t q = true) : ∃ el, P.underlying t = some (.slice el) ∧ q el = true := by
  unfold elemB at h
  split at h
  · rename_i el hu; exact ⟨el, hu, h⟩
  · cases h

theorem bytesB_some {t n : Nat} (h : bytesB P t n = true) : ∃ i, P.info? t = some i ∧ i.bytes = n := by
  unfold bytesB at h
  split at h
  · rename_i i hi; exact ⟨i, hi, by simpa using h⟩
  · cases h

theorem sizeB_some {t n : Nat} (h : sizeB P t n = true) : ∃ i, P.info? t = some i ∧ i.size = n := by
  unfold sizeB at h
  split at h
  · rename_i i hi; exact ⟨i, hi, by simpa using h⟩
  · cases h

theorem zeroB_some {t : TypeId} {zs : List AVal} (h : zeroB P t zs = true) : ∃ i z, P.info? t = some i ∧ i.zero = some z ∧ Reps Γ zs z.cells.toList ∧ ∀ c, c ∈ z.cells.toList → c.oneCell' = true := by
  unfold zeroB at h
  split at h
  · rename_i i hi
    split at h
    · rename_i z hz
      simp only [Bool.and_eq_true] at h
      exact ⟨i, z, hi, hz, chkVL_reps Γ h.1, List.all_eq_true.1 h.2⟩
    · cases h
  · cases h

theorem zeros_list (l : List Value) (f : Nat → Value) (hf : ∀ j, j < l.length → f j = l.getD j undef) (n : Nat) : (List.range (n * l.length)).map (fun i => f (i % l.length)) = (List.replicate n l).flatten := by
  induction n with
  | zero => simp
  | succ n ih =>
    rw [Nat.add_mul, Nat.one_mul, List.range_add, List.map_append, ih, List.replicate_succ', List.flatten_append]
    congr 1
    simp only [List.map_map, List.flatten_cons, List.flatten_nil, List.append_nil]
    apply List.ext_getElem
    · simp
    · intro i h1 h2
      have hi : i < l.length := h2
      simp only [List.getElem_map, List.getElem_range, Function.comp]
      have hmod : (n * l.length + i) % l.length = i := by
        rw [Nat.mul_comm, Nat.mul_add_mod, Nat.mod_eq_of_lt hi]
      rw [hmod, hf i hi]
      simp [List.getD, hi]

/-- So many zero cells. -/
theorem zeros_eq (z : Array Value) (n : Nat) : ((Array.range (n * z.size)).map (fun i => z[i % z.size]!)).toList = (List.replicate n z.toList).flatten := by
  have := zeros_list z.toList (fun i => z[i]!) (by
    intro j hj
    simp at hj
    simp [hj, List.getD]) n
  simp only [Array.length_toList] at this
  rw [← this]
  simp

theorem flatL_replicate (zs : List AVal) (n : Nat) : flatL (List.replicate n (.agg zs)) = (List.replicate n zs).flatten := by
  induction n with
  | zero => rfl
  | succ n ih => simp [List.replicate_succ, flatL, AVal.flat, ih]

theorem reps_flatten {zs : List AVal} {ds : List Value} (h : Reps Γ zs ds) (n : Nat) : Reps Γ (List.replicate n zs).flatten (List.replicate n ds).flatten := by
  induction n with
  | zero => exact Reps.nil Γ
  | succ n ih => simp only [List.replicate_succ, List.flatten_cons]; exact h.append ih

theorem one_flatten {ds : List Value} (h : ∀ d, d ∈ ds → d.oneCell' = true) (n : Nat) : ∀ d, d ∈ (List.replicate n ds).flatten → d.oneCell' = true := by
  intro d hd
  simp only [List.mem_flatten, List.mem_replicate] at hd
  obtain ⟨l, ⟨_, rfl⟩, hd⟩ := hd
  exact h d hd

theorem wrap_i64 {n : Int} (h0 : -9223372036854775808 ≤ n) (h1 : n < 9223372036854775808) : IntKind.i64.wrap n = n := by
  unfold IntKind.wrap
  simp only [IntKind.signed, IntKind.bits]
  simp
  omega

theorem evN_sound {o : Oper} {p : AOp} {v : AVal} {B : ABlock} {id : Nat} {H H' : Heap} {w : World} (he : EnvRel Γ e a.tmps) (hR : Rel Γ H w) (hk : chkN P p o.op = true) (hv : evN e id p = some (v, B)) (hn : newAt H id B = some H') :
    Done P o a w Γ v H' := by
  obtain ⟨dst, op, ty, pos, after, guard⟩ := o
  simp only at hk
  cases p <;> simp only [evN, reduceCtorEq] at hv
  case alloc zs =>
    cases op <;> simp only [chkN, Bool.false_eq_true] at hk
    rename_i t
    cases hv
    obtain ⟨z, hz, hr, h1⟩ := run_zeroB (Γ := Γ) hk w
    obtain ⟨r1, r2, r3⟩ := hR.newCells (ty := t) hn hr h1
    refine ⟨.value (.pointer (some ⟨w.heap.size, 0, none⟩)), _, w.alloc (.cells z.cells t), _, ?_, .inl rfl, .ptr r3, r1, r2⟩
    simp [execOp, Instr.alloc, hz, newVar, newRow]
  case box x =>
    cases op <;> simp only [chkN, Bool.false_eq_true] at hk
    rename_i t y
    split at hv
    · rename_i u hu
      split at hv
      · rename_i hs
        cases hv
        have hrep := ev_rep he hk hu
        have ht : ∀ vs, u ≠ .tup vs := by intro vs hvs; subst hvs; simp [AVal.solid] at hs
        obtain ⟨r1, r2, r3⟩ := hR.newCells (ty := t) (cs := (a.eval y).cells) hn hrep.cells (hrep.cells_one ht)
        refine ⟨.value (.pointer (some ⟨w.heap.size, 0, none⟩)), _, w.alloc (.cells (a.eval y).cells t), _, ?_, .inl rfl, .ptr r3, r1, r2⟩
        simp [execOp, Instr.box, newVar, newRow]
      · cases hv
    · cases hv
  case mks es bytes wd zs l c =>
    cases op <;> simp only [chkN, Bool.false_eq_true, Bool.and_eq_true, decide_eq_true_eq] at hk
    rename_i t l' c'
    obtain ⟨⟨⟨hkl, hkc⟩, hes⟩, hke⟩ := hk
    obtain ⟨el, hu, hq⟩ := elemB_some hke
    simp only [Bool.and_eq_true] at hq
    obtain ⟨⟨hsz, hby⟩, hze⟩ := hq
    split at hv
    · rename_i k1 lv k2 cv hl hc
      split at hv
      · rename_i hcond
        cases hv
        have e1 := (ev_rep he hkl hl).int_inv
        have e2 := (ev_rep he hkc hc).int_inv
        obtain ⟨i, hi, hib⟩ := bytesB_some hby
        obtain ⟨i', hi', his⟩ := sizeB_some hsz
        rw [hi] at hi'; cases hi'
        obtain ⟨i2, z, hi2, hz, hr, h1⟩ := zeroB_some (Γ := Γ) hze
        rw [hi] at hi2; cases hi2
        obtain ⟨h0, h1', h2, h3, h4, h5⟩ := hcond
        have hzs : z.cells.size = es := by
          have := hr.1
          simp at this
          omega
        have hcells : Reps Γ (flatL (List.replicate cv.toNat (.agg zs))) ((Array.range (cv.toNat * es)).map (fun i => z.cells[i % z.cells.size]!)).toList := by
          rw [flatL_replicate, ← hzs, zeros_eq]
          exact reps_flatten hr _
        have hone : ∀ c, c ∈ ((Array.range (cv.toNat * es)).map (fun i => z.cells[i % z.cells.size]!)).toList → c.oneCell' = true := by
          rw [← hzs, zeros_eq]
          exact one_flatten h1 _
        obtain ⟨r1, r2, r3⟩ := hR.newCells (ty := el) hn hcells hone
        refine ⟨.value (.slice (some ⟨w.heap.size, 0, none⟩) lv.toNat cv.toNat), _, _, _, ?_, .inl rfl, .sl r3, r1, r2⟩
        have w1 := wrap_i64 (n := lv) (by omega) (by omega)
        have w2 := wrap_i64 (n := cv) (by omega) (by omega)
        have b1 : ¬ cv < 0 := by omega
        have b2 : ¬ 281474976710656 < (bytes : Int) * cv := by omega
        have b3 : ¬ lv < 0 := by omega
        have b4 : ¬ cv < lv := by omega
        simp only [execOp, Instr.makeSlice, Sem.run_bind, run_underlying hu, Result.andThen_ok, e1, e2, asInt, asIntOf, Sem.run_pure, run_typeInfo _ hi, hib, w1, w2, sizeOf, his, run_askRoom]
        by_cases hc0 : cv.toNat * es = 0
        · have hc1 : cv.toNat = 0 := by
            rcases Nat.mul_eq_zero.1 hc0 with h | h
            · exact h
            · omega
          have r0 : Array.range 0 = #[] := rfl
          simp [b1, b2, b3, b4, hc1, newRow, run_typeInfo _ hi, r0]
        · simp [b1, b2, b3, b4, hc0, newRow, zeroValue, run_typeInfo _ hi, hz, his]
      · cases hv
    · cases hv
  case mkm =>
    cases op <;> simp only [chkN, Bool.false_eq_true] at hk
    rename_i t r
    cases hv
    have : r = none := by simpa using hk
    subst this
    obtain ⟨r1, r2, r3⟩ := hR.newMap hn
    refine ⟨.value (.map (some w.heap.size)), _, w.alloc (.map #[] 0), _, ?_, .inl rfl, .map r3, r1, r2⟩
    simp [execOp, Instr.makeMap]

theorem zvalB_some {t : TypeId} {v : AVal} (h : zvalB P t v = true) : ∃ i z, P.info? t = some i ∧ i.zero = some z ∧ Rep Γ v z ∧ ∀ c, c ∈ z.cells.toList → c.oneCell' = true := by
  unfold zvalB at h
  split at h
  · rename_i i hi
    split at h
    · rename_i z hz
      simp only [Bool.and_eq_true] at h
      exact ⟨i, z, hi, hz, chkV_rep Γ h.1, List.all_eq_true.1 h.2⟩
    · cases h
  · cases h

/-- The ghost with memory for good. -/
def Gh.mem (Γ : Gh) (g : Nat) (cs : Array Value) : Gh := { Γ with M := fun k j => if k = g then cs[j]? else Γ.M k j }

theorem Rel.newMem {H : Heap} {w : World} {cs : Array Value} {ty : TypeId} (hR : Rel Γ H w) :
    Rel (Γ.mem w.heap.size cs) H (w.alloc (.cells cs ty)) ∧ Stp Γ w (Γ.mem w.heap.size cs) (w.alloc (.cells cs ty)) := by
  have hle : Γ.le (Γ.mem w.heap.size cs) := by
    refine ⟨?_, fun _ _ h => h, fun _ _ _ h => h⟩
    intro g o c h
    have := hR.memLt h
    simp only [Gh.mem]
    rw [if_neg (by omega)]; exact h
  refine ⟨⟨?_, ?_, hR.dom, ?_⟩, ⟨hle, fun _ _ h => h, ?_, by simp, fun g hg _ => heap_push_lt w _ hg, rfl, rfl, rfl⟩⟩
  · intro g o c h
    simp only [Gh.mem] at h
    split at h
    · rename_i e; subst e
      rw [cell_at (heap_push_new w _)]; exact h
    · rw [cell_alloc_lt w _ (hR.memLt h)]; exact hR.mem g o c h
  · intro b B hb
    refine (hR.blk b B hb).step hle ?_ ⟨rfl, fun _ => rfl⟩
    intro g hg
    have := hR.owned g b hg
    refine ⟨hg, heap_push_lt w _ this, ?_⟩
    intro o
    simp only [Gh.mem]
    rw [if_neg (by omega)]
  · intro g b hg
    have := hR.owned g b hg
    simp; omega
  · intro g o hg _
    simp only [Gh.mem]
    rw [if_neg (by omega)]

theorem lst_mem {xs : List AVal} {es cap g : Nat} {cs : Array Value} (hM : ∀ j, j < cs.size → Γ.M g j = cs[j]?) (hw : ∀ x, x ∈ xs → x.width = es) (hf : ∀ x, x ∈ xs → rfree x) (hr : Reps Γ (flatL xs) (cs.toList.take (flatL xs).length))
    (h1 : ∀ c, c ∈ cs.toList → c.oneCell' = true) (hc : xs.length ≤ cap) {e : Bool} (he : e = true → cap = xs.length) : Rep Γ (.lst xs e) (.slice (some ⟨g, 0, none⟩) xs.length cap) := by
  have get : ∀ (j : Nat) (c : AVal), (flatL xs)[j]? = some c → ∃ d, cs[j]? = some d ∧ Γ.M g (0 + j) = some d ∧ d.oneCell' = true ∧ Rep Γ c d := by
    intro j c hj
    obtain ⟨d, hd, hrep⟩ := hr.get hj
    have hlt : j < (flatL xs).length := (List.getElem?_eq_some_iff.1 hj).1
    rw [List.getElem?_take, if_pos hlt] at hd
    have hd' : cs[j]? = some d := by simpa using hd
    have hj2 : j < cs.size := (Array.getElem?_eq_some_iff.1 hd').1
    exact ⟨d, hd', by rw [Nat.zero_add, hM j hj2, hd'], h1 d (List.mem_of_getElem? hd), hrep⟩
  refine .lst (fun j => cs.getD j undef) hc he hw hf ?_ ?_ ?_
  · intro j c hj
    obtain ⟨d, hd, hm, _, _⟩ := get j c hj
    rw [hm]; simp [Array.getD_eq_getD_getElem?, hd]
  · intro j c hj
    obtain ⟨d, hd, _, h1, _⟩ := get j c hj
    simp [Array.getD_eq_getD_getElem?, hd, h1]
  · intro j c hj
    obtain ⟨d, hd, _, _, hrep⟩ := get j c hj
    simpa [Array.getD_eq_getD_getElem?, hd] using hrep

theorem flatL_set {es : Nat} {v : AVal} : ∀ {xs : List AVal} {i : Nat}, (∀ x, x ∈ xs → x.width = es) → v.width = es → i < xs.length → flatL (xs.set i v) = putCells (i * es) v.flat (flatL xs)
  | [], i, _, _, h => by simp at h
  | x :: xs, 0, hw, hv, _ => by
    have hx : x.flat.length = es := hw x (by simp)
    have hv' : v.flat.length = es := hv
    simp only [List.set_cons_zero, flatL, putCells, Nat.zero_mul, List.take_zero, List.nil_append, Nat.zero_add]
    rw [hv', List.drop_left' hx]
  | x :: xs, i + 1, hw, hv, h => by
    have hx : x.flat.length = es := hw x (by simp)
    have ih := flatL_set (v := v) (xs := xs) (i := i) (fun y hy => hw y (by simp [hy])) hv (by simpa using h)
    simp only [List.set_cons_succ, flatL, ih, putCells]
    have e1 : (i + 1) * es = es + i * es := by rw [Nat.add_mul]; omega
    rw [e1, List.take_append, List.drop_append, hx]
    rw [List.take_of_length_le (l := x.flat) (by omega), List.drop_of_length_le (l := x.flat) (by omega)]
    rw [show es + i * es - es = i * es by omega, show es + i * es + v.flat.length - es = i * es + v.flat.length by omega]
    simp

theorem fillB_put {es : Nat} {H : Heap} {w : World} (hR : Rel Γ H w) (he : EnvRel Γ e a.tmps) : ∀ {parts : List (Nat × AOpd)} {ps : List (Nat × Operand)} {xs xs' : List AVal} {ds : List Value}, chkBs parts ps = true → Reps Γ (flatL xs) ds →
    (∀ d, d ∈ ds → d.oneCell' = true) → (∀ x, x ∈ xs → x.width = es) → (∀ x, x ∈ xs → rfree x) → bslGo e H es parts xs = some xs' →
    ∃ ds', Instr.fill (fun i => some (i * es, es)) ds.toArray (ps.map fun x => (x.1, a.eval x.2)) = some ds'.toArray ∧ Reps Γ (flatL xs') ds' ∧ (∀ d, d ∈ ds' → d.oneCell' = true) ∧ (∀ x, x ∈ xs' → x.width = es) ∧ (∀ x, x ∈ xs' → rfree x) ∧ xs'.length = xs.length
  | [], [], xs, xs', ds, hk, hr, h1, hw, hf, hb => by
    simp [bslGo] at hb; subst hb
    exact ⟨ds, rfl, hr, h1, hw, hf, rfl⟩
  | [], _ :: _, _, _, _, hk, _, _, _, _, _ => by simp [chkBs] at hk
  | _ :: _, [], _, _, _, hk, _, _, _, _, _ => by simp [chkBs] at hk
  | (i, x) :: parts, (j, y) :: ps, xs, xs', ds, hk, hr, h1, hw, hf, hb => by
    simp only [chkBs, Bool.and_eq_true, decide_eq_true_eq] at hk
    obtain ⟨⟨rfl, hko⟩, hk⟩ := hk
    simp only [bslGo] at hb
    split at hb
    · rename_i v hv
      split at hb
      · rename_i v' hsv
        split at hb
        · rename_i hc
          have hrv := ev_rep he hko hv
          obtain ⟨hrv', hfree, hsol⟩ := shut_both hR v v' _ hsv hrv
          have hcv := hrv'.cells
          have ht : ∀ vs, v' ≠ .tup vs := by intro vs hvs; subst hvs; simp [AVal.solid] at hc
          have hone := hrv'.cells_one ht
          have hlen : (a.eval y).cells.toList.length = es := by rw [hcv.1]; exact hc.2.1
          have hdl : ds.length = xs.length * es := by rw [hr.1, flatL_length hw]
          have hle : i * es + es ≤ ds.length := by
            rw [hdl]
            have : (i + 1) * es ≤ xs.length * es := Nat.mul_le_mul_right _ hc.2.2
            rw [Nat.add_mul] at this; omega
          have hput := hr.put (i * es) hcv
          rw [← flatL_set hw hc.2.1 hc.2.2] at hput
          obtain ⟨ds', hf', hr', h1', hw', hfr', hl'⟩ := fillB_put hR he (ps := ps) (ds := putCells (i * es) (a.eval y).cells.toList ds) hk hput (by
            intro d hd
            simp only [putCells, List.mem_append] at hd
            rcases hd with (hd | hd) | hd
            · exact h1 d (List.mem_of_mem_take hd)
            · exact hone d hd
            · exact h1 d (List.mem_of_mem_drop hd)) (by
            intro z hz
            rcases List.mem_or_eq_of_mem_set hz with hz | hz
            · exact hw z hz
            · subst hz; exact hc.2.1) (by
            intro z hz
            rcases List.mem_or_eq_of_mem_set hz with hz | hz
            · exact hf z hz
            · subst hz; exact hfree) hb
          refine ⟨ds', ?_, hr', h1', hw', hfr', by simpa using hl'⟩
          simp only [List.map_cons, Instr.fill]
          have hsz : (a.eval y).cells.size = es := by simpa using hlen
          rw [if_neg (by simp [hsz]; omega)]
          rw [← hf']
          congr 1
          rw [← Array.foldl_toList]
          have := foldl_put (i * es) (a.eval y).cells.toList 0 ds.toArray (by simp [hsz]; omega)
          simpa using this
        · cases hb
      · cases hb
    · cases hb

theorem bsl_sound {o : Oper} {C : Ctx} {es len id : Nat} {z : AVal} {parts : List (Nat × AOpd)} {v : AVal} {H H' : Heap} {w : World} (he : EnvRel Γ e a.tmps) (hR : Rel Γ H w) (hk : chkH P (.bsl es z len parts) o.op = true)
    (hv : evH C e id H (.bsl es z len parts) = some (.ok v, H')) : Done P o a w Γ v H' := by
  obtain ⟨dst, op, ty, pos, after, guard⟩ := o
  simp only at hk
  cases op <;> simp only [chkH, Bool.false_eq_true, Bool.and_eq_true, decide_eq_true_eq] at hk
  rename_i t len' ps
  obtain ⟨⟨⟨rfl, hes⟩, hkb⟩, hke⟩ := hk
  obtain ⟨el, hu, hq⟩ := elemB_some hke
  simp only [Bool.and_eq_true] at hq
  obtain ⟨⟨⟨hsz, hz⟩, hlow⟩, hsol⟩ := hq
  obtain ⟨i, hi, his⟩ := sizeB_some hsz
  obtain ⟨i2, zv, hi2, hzv, hrz, h1⟩ := zvalB_some (Γ := Γ) hz
  rw [hi] at hi2; cases hi2
  simp only [evH] at hv
  split at hv
  · rename_i hcond
    split at hv
    · rename_i xs hgo
      simp only [Option.some.injEq, Prod.mk.injEq, Ex.ok.injEq] at hv
      obtain ⟨rfl, rfl⟩ := hv
      have hzc := hrz.cells
      have hzs : zv.cells.size = es := by
        have := hzc.1
        simp at this
        rw [this]; exact hcond.1
      have hrep : Reps Γ (flatL (List.replicate len z)) (List.replicate len zv.cells.toList).flatten := by
        have : flatL (List.replicate len z) = (List.replicate len z.flat).flatten := by
          clear hcond hgo hke
          induction len with
          | zero => rfl
          | succ n ih => simp [List.replicate_succ, flatL, ih]
        rw [this]
        exact reps_flatten hzc _
      have hreps : ∀ x, x ∈ List.replicate len z → x.width = es := by intro x hx; rw [List.eq_of_mem_replicate hx]; exact hcond.1
      have hfree : ∀ x, x ∈ List.replicate len z → rfree x := by intro x hx; rw [List.eq_of_mem_replicate hx]; exact hlow
      obtain ⟨ds', hf, hr', h1', hw', hfr', hl'⟩ := fillB_put hR he (ps := ps.toList) hkb hrep (one_flatten h1 _) hreps hfree hgo
      have hzeros : (Array.range (len * es)).map (fun k => zv.cells[k % zv.cells.size]!) = (List.replicate len zv.cells.toList).flatten.toArray := by
        apply Array.ext'
        have := zeros_eq zv.cells len
        rw [hzs] at this
        rw [hzs, this]
      obtain ⟨r1, r2⟩ := hR.newMem (cs := ds'.toArray) (ty := el)
      have hlen : xs.length = len := by simpa using hl'
      refine ⟨.value (.slice (some ⟨w.heap.size, 0, none⟩) len len), _, _, _, ?_, .inl rfl, ?_, r1, r2⟩
      · have hf2 : Instr.fill (fun k => some (k * es, es)) ((Array.range (len * es)).map (fun k => zv.cells[k % zv.cells.size]!)) (ps.map fun x => (x.1, a.eval x.2)).toList = some ds'.toArray := by
          rw [hzeros, ← hf]; simp
        simp only [execOp, Instr.buildSlice, Sem.run_bind, run_underlying hu, Result.andThen_ok, sizeOf, run_typeInfo _ hi, Sem.run_pure, his]
        rw [if_neg (by omega)]
        by_cases h0 : len * es = 0
        · have hemp : ((Array.range (len * es)).map (fun k => (#[] : Array Value)[k % (#[] : Array Value).size]!)) = (Array.range (len * es)).map (fun k => zv.cells[k % zv.cells.size]!) := by rw [h0, show Array.range 0 = #[] from rfl]; simp
          simp only [h0, if_true, Sem.run_bind, Sem.run_pure, Result.andThen_ok]
          simp only [h0] at hemp hf2
          rw [hemp, hf2]
          simp [newRow]
        · simp only [h0, if_false, Sem.run_bind, Sem.run_pure, Result.andThen_ok, zeroValue, run_typeInfo _ hi, hzv]
          rw [hf2]
          simp [newRow]
      · have := lst_mem (Γ := Γ.mem w.heap.size ds'.toArray) (g := w.heap.size) (cs := ds'.toArray) (xs := xs) (cap := len) (e := true) (fun j hj => by simp [Gh.mem]) hw' hfr'
          (by
            have hll : ds'.length = (flatL xs).length := hr'.1
            simp only []
            rw [List.take_of_length_le (by simp [hll])]
            exact hr'.mono r2.le) (by simpa using h1') (by omega) (fun _ => hlen.symm)
        rw [hlen] at this
        exact this
    · cases hv
  · cases hv
end

end Go.Ev
